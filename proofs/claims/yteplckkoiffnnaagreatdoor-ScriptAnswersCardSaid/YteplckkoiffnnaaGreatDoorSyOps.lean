/-
  Symbolic runs: the operations that only compute or read, and why they are right.
-/
import Derived.Test.YteplckkoiffnnaaGreatDoorSyCore
namespace Go.Proofs.YteplckkoiffnnaaGreatDoor
open Go.RowKit
namespace Sy
set_option linter.unusedVariables false
set_option linter.unusedSimpArgs false

def rng (k : IntKind) (n : Int) : Prop := match k with
  | .i8 => -128 ≤ n ∧ n ≤ 127
  | .i16 => -32768 ≤ n ∧ n ≤ 32767
  | .i32 => -2147483648 ≤ n ∧ n ≤ 2147483647
  | .i64 => -9223372036854775808 ≤ n ∧ n ≤ 9223372036854775807
  | _ => False
theorem rng_wrap {k : IntKind} {n : Int} (h : rng k n) : k.wrap n = n := by
  cases k <;> first | exact IntWalk.i8_in n h | exact IntWalk.i16_in n h | exact IntWalk.i32_in n h | exact IntWalk.i64_in n h | exact h.elim

def holds : Option Prop → Prop
  | none => True
  | some p => p

def ev (st : St) (x : Operand) (F : Prop) (K : SV → Prop) : Prop :=
  match x with
  | .tmp t => match getT st.t t with
    | some v => K v
    | none => F
  | .const v => match v with
    | .bool b => K (.k b)
    | v => K (.v v)
  | .func f => K (.v (.func (.func f) #[] #[]))
  | .global g => K (.v (.pointer (some ⟨g, 0, none⟩)))
theorem ev_sound {st : St} {x : Operand} {F : Prop} {K : SV → Prop} (h : ev st x F K) : F ∨ ∃ s, K s ∧ ∀ G ρ a, Tm G st ρ a → s.den ρ = some (a.eval x) := by
  unfold ev at h
  split at h
  · split at h
    · rename_i t v e
      exact .inr ⟨v, h, fun G ρ a m => (m.get _ _ e).2⟩
    · exact .inl h
  · split at h
    · exact .inr ⟨_, h, fun G ρ a m => rfl⟩
    · exact .inr ⟨_, h, fun G ρ a m => rfl⟩
  · exact .inr ⟨_, h, fun G ρ a m => rfl⟩
  · exact .inr ⟨_, h, fun G ρ a m => rfl⟩
def evs (st : St) (F : Prop) : List Operand → (List SV → Prop) → Prop
  | [], K => K []
  | x :: l, K => ev st x F fun v => evs st F l fun vs => K (v :: vs)
theorem evs_sound {st : St} {F : Prop} : ∀ {l : List Operand} {K : List SV → Prop}, evs st F l K → F ∨ ∃ ss, K ss ∧ ∀ G ρ a, Tm G st ρ a → denL ρ ss = some (l.map a.eval)
  | [], K, h => .inr ⟨[], h, fun _ _ _ _ => rfl⟩
  | x :: l, K, h => by
    rcases ev_sound h with h | ⟨s, h, e⟩
    · exact .inl h
    · rcases evs_sound h with h | ⟨ss, h, e'⟩
      · exact .inl h
      · exact .inr ⟨_, h, fun G ρ a m => denL_cons.2 ⟨_, _, e G ρ a m, e' G ρ a m, rfl⟩⟩
def reals (F : Prop) : List SV → (List Value → Prop) → Prop
  | [], K => K []
  | .v x :: l, K => reals F l fun r => K (x :: r)
  | .k b :: l, K => reals F l fun r => K (.bool b :: r)
  | .p _ _ :: _, _ => F
theorem reals_sound {F : Prop} : ∀ {l : List SV} {K : List Value → Prop}, reals F l K → F ∨ ∃ vs, K vs ∧ ∀ ρ, denL ρ l = some vs
  | [], K, h => .inr ⟨[], h, fun _ => rfl⟩
  | .v x :: l, K, h => by
    rcases reals_sound (l := l) h with h | ⟨vs, h, e⟩
    · exact .inl h
    · exact .inr ⟨_, h, fun ρ => denL_cons.2 ⟨_, _, rfl, e ρ, rfl⟩⟩
  | .k b :: l, K, h => by
    rcases reals_sound (l := l) h with h | ⟨vs, h, e⟩
    · exact .inl h
    · exact .inr ⟨_, h, fun ρ => denL_cons.2 ⟨_, _, rfl, e ρ, rfl⟩⟩
  | .p _ _ :: _, K, h => .inl h
def asB (x : SV) (F : Prop) (K : Bool → Prop) : Prop := match x with
  | .k b => K b
  | .v (.bool b) => K b
  | _ => F
theorem asB_sound {x : SV} {F : Prop} {K : Bool → Prop} (h : asB x F K) : F ∨ ∃ b, K b ∧ ∀ ρ, x.den ρ = some (.bool b) := by
  unfold asB at h
  split at h
  · exact .inr ⟨_, h, fun _ => rfl⟩
  · exact .inr ⟨_, h, fun _ => rfl⟩
  · exact .inl h

def szT (P : Program) (t : TypeId) : Nat := match P.info? t with
  | some i => i.size
  | none => 0

abbrev Kq := SV → Option Prop → Prop

def arith (k : IntKind) (r : Int) (K : Kq) : Prop := match k.signed with
  | true => K (.v (.int k r)) (some (rng k r))
  | false => K (.v (.int k (k.wrap r))) none
theorem arith_sound {k : IntKind} {r : Int} {K : Kq} (h : arith k r K) : ∃ z q, K (.v (.int k z)) q ∧ (holds q → k.wrap r = z) := by
  unfold arith at h
  split at h
  · exact ⟨_, _, h, fun q => rng_wrap q⟩
  · exact ⟨_, _, h, fun _ => rfl⟩

def binI (tr : Bool) (op : BinOp) (k : IntKind) (a b : Int) (K : Kq) : Prop := match op with
  | .add => arith k (a + b) K
  | .sub => arith k (a - b) K
  | .mul => arith k (a * b) K
  | .lss => K (.v (.bool (decide (a < b)))) none
  | .leq => K (.v (.bool (decide (a ≤ b)))) none
  | .gtr => K (.v (.bool (decide (b < a)))) none
  | .geq => K (.v (.bool (decide (b ≤ a)))) none
  | .eql => K (.v (.bool (decide (a = b)))) none
  | .neq => K (.v (.bool (!decide (a = b)))) none
  | .quo => match tr with
    | true => K (.v (.int k (a.tdiv b))) (some (b ≠ 0 ∧ k.wrap (a.tdiv b) = a.tdiv b))
    | false => K (.v (.int k (a / b))) (some ((0 ≤ a ∧ 0 < b) ∧ rng k (a / b)))
  | .rem => match tr with
    | true => K (.v (.int k (a.tmod b))) (some (b ≠ 0))
    | false => K (.v (.int k (a % b))) (some (0 ≤ a ∧ 0 < b))
  | .shl => match k.signed with
    | true => K (.v (.int k (a * 2 ^ b.toNat))) (some ((0 ≤ b ∧ b ≤ k.bits) ∧ rng k (a * 2 ^ b.toNat)))
    | false => K (.v (.int k (k.wrap (a * 2 ^ b.toNat)))) (some (0 ≤ b ∧ b ≤ k.bits))
  | .shr => K (.v (.int k (a / 2 ^ b.toNat))) (some (0 ≤ b ∧ b ≤ k.bits))
  | .and => K (.v (.int k (bits .and k a b))) none
  | .or => K (.v (.int k (bits .or k a b))) none
  | .xor => K (.v (.int k (bits .xor k a b))) none
  | .andNot => K (.v (.int k (bits .andNot k a b))) none

theorem binI_sound {tr : Bool} {op : BinOp} {k : IntKind} {a b : Int} {K : Kq} (h : binI tr op k a b K) :
    ∃ z q, K (.v z) q ∧ (holds q → ∀ (P : Program) (t : TypeId) (k' : IntKind) (hk : op = .shl ∨ op = .shr ∨ k = k') (w : World), (binOp op t (.int k a) (.int k' b)).run P w = .ok z w) := by
  have key : ∀ {op : BinOp} {z : Value} {q : Option Prop}, op ≠ .shl → op ≠ .shr → (holds q → ∀ (P : Program) (t : TypeId) (w : World), (binOp op t (.int k a) (.int k b)).run P w = .ok z w) →
      (holds q → ∀ (P : Program) (t : TypeId) (k' : IntKind) (hk : op = .shl ∨ op = .shr ∨ k = k') (w : World), (binOp op t (.int k a) (.int k' b)).run P w = .ok z w) := by
    intro op z q h1 h2 h3 hq P t k' hk w
    rcases hk with hk | hk | rfl
    · exact absurd hk h1
    · exact absurd hk h2
    · exact h3 hq P t w
  cases op
  case add => obtain ⟨z, q, h, e⟩ := arith_sound h; exact ⟨_, _, h, key (by simp) (by simp) fun hq P t w => by simp [binOp, Op.intArith, e hq]⟩
  case sub => obtain ⟨z, q, h, e⟩ := arith_sound h; exact ⟨_, _, h, key (by simp) (by simp) fun hq P t w => by simp [binOp, Op.intArith, e hq]⟩
  case mul => obtain ⟨z, q, h, e⟩ := arith_sound h; exact ⟨_, _, h, key (by simp) (by simp) fun hq P t w => by simp [binOp, Op.intArith, e hq]⟩
  case lss => exact ⟨_, _, h, key (by simp) (by simp) fun hq P t w => by simp [binOp, Op.intCmp]⟩
  case leq => exact ⟨_, _, h, key (by simp) (by simp) fun hq P t w => by simp [binOp, Op.intCmp]⟩
  case gtr => exact ⟨_, _, h, key (by simp) (by simp) fun hq P t w => by simp [binOp, Op.intCmp]⟩
  case geq => exact ⟨_, _, h, key (by simp) (by simp) fun hq P t w => by simp [binOp, Op.intCmp]⟩
  case eql => exact ⟨_, _, h, key (by simp) (by simp) fun hq P t w => by simp [binOp, Op.intCmp]; rfl⟩
  case neq => exact ⟨_, _, h, key (by simp) (by simp) fun hq P t w => by simp [binOp, Op.intCmp]; rfl⟩
  case quo =>
    unfold binI at h
    cases tr
    · refine ⟨_, _, h, key (by simp) (by simp) fun hq P t w => ?_⟩
      obtain ⟨⟨h1, h2⟩, h3⟩ := hq
      have hb : b ≠ 0 := by omega
      simp [binOp, Op.intDiv, hb, Int.tdiv_eq_ediv_of_nonneg h1, rng_wrap h3]
    · refine ⟨_, _, h, key (by simp) (by simp) fun hq P t w => ?_⟩
      obtain ⟨h1, h2⟩ := hq
      simp [binOp, Op.intDiv, h1, h2]
  case rem =>
    unfold binI at h
    cases tr
    · refine ⟨_, _, h, key (by simp) (by simp) fun hq P t w => ?_⟩
      obtain ⟨h1, h2⟩ := hq
      have hb : b ≠ 0 := by omega
      simp [binOp, Op.intDiv, hb, Int.tmod_eq_emod_of_nonneg h1]
    · refine ⟨_, _, h, key (by simp) (by simp) fun hq P t w => ?_⟩
      have hb : b ≠ 0 := hq
      simp [binOp, Op.intDiv, hb]
  case shl =>
    simp only [binI] at h
    split at h
    · refine ⟨_, _, h, fun hq P t k' hk w => ?_⟩
      obtain ⟨⟨h1, h2⟩, h3⟩ := hq
      simp only [binOp, shift_shl k k' a b h1 h2, rng_wrap h3, Sem.run_pure]
    · refine ⟨_, _, h, fun hq P t k' hk w => ?_⟩
      obtain ⟨h1, h2⟩ := hq
      simp only [binOp, shift_shl k k' a b h1 h2, Sem.run_pure]
  case shr =>
    refine ⟨_, _, h, fun hq P t k' hk w => ?_⟩
    obtain ⟨h1, h2⟩ := hq
    simp only [binOp, shift_shr k k' a b h1 h2, Sem.run_pure]
  case and => exact ⟨_, _, h, key (by simp) (by simp) fun hq P t w => by simp [binOp, intBits_and]⟩
  case or => exact ⟨_, _, h, key (by simp) (by simp) fun hq P t w => by simp [binOp, intBits_or]⟩
  case xor => exact ⟨_, _, h, key (by simp) (by simp) fun hq P t w => by simp [binOp, intBits_xor]⟩
  case andNot => exact ⟨_, _, h, key (by simp) (by simp) fun hq P t w => by simp [binOp, intBits_andNot]⟩

/-- what a computation that touches no memory comes to -/
def pureVal {α : Type} (P : Program) : Sem α → Option α
  | .pure a => some a
  | .program k => pureVal P (k P)
  | .mark _ k => pureVal P k
  | _ => none
theorem pureVal_sound {α : Type} {P : Program} : ∀ {s : Sem α} {a : α}, pureVal P s = some a → ∀ w, s.run P w = .ok a w
  | .pure a, b, h, w => by
    simp only [pureVal, Option.some.injEq] at h
    subst h; rfl
  | .program k, b, h, w => pureVal_sound (s := k P) h w
  | .mark _ k, b, h, w => pureVal_sound (s := k) h w
  | .load .., _, h, _ => by cases h
  | .store .., _, h, _ => by cases h
  | .new .., _, h, _ => by cases h
  | .shape .., _, h, _ => by cases h
  | .freeze .., _, h, _ => by cases h
  | .frozen .., _, h, _ => by cases h
  | .getObj .., _, h, _ => by cases h
  | .setObj .., _, h, _ => by cases h
  | .choose .., _, h, _ => by cases h
  | .sys .., _, h, _ => by cases h
  | .halt .., _, h, _ => by cases h

/-- what stands in a state, where it is a plain value -/
def evR (st : St) : Operand → Value
  | .tmp t => match getT st.t t with
    | some (.v v) => v
    | some (.k b) => .bool b
    | _ => undef
  | .const v => v
  | .global g => .pointer (some ⟨g, 0, none⟩)
  | .func f => .func (.func f) #[] #[]
def isR (st : St) : Operand → Bool
  | .tmp t => match getT st.t t with
    | some (.v _) => true
    | some (.k _) => true
    | _ => false
  | _ => true
def allR (st : St) : List Operand → Bool
  | [] => true
  | x :: l => match isR st x with
    | true => allR st l
    | false => false
theorem isR_sound {st : St} {x : Operand} (h : isR st x = true) {G : Gl} {ρ : List Nat} {a : Act} (m : Tm G st ρ a) : a.eval x = evR st x := by
  cases x with
  | tmp t =>
    simp only [isR] at h
    simp only [evR, Act.eval]
    split at h
    · rename_i e; have := (m.get _ _ e).2; simpa [SV.den] using this.symm
    · rename_i e; have := (m.get _ _ e).2; simpa [SV.den] using this.symm
    · cases h
  | const v => rfl
  | global g => rfl
  | func f => rfl
theorem allR_sound {st : St} {G : Gl} {ρ : List Nat} {a : Act} (m : Tm G st ρ a) : ∀ {l : List Operand}, allR st l = true → ∀ x ∈ l, a.eval x = evR st x
  | [], _, x, hx => by cases hx
  | y :: l, h, x, hx => by
    unfold allR at h
    split at h
    · rename_i e
      rcases List.mem_cons.1 hx with rfl | hx
      · exact isR_sound e m
      · exact allR_sound m h x hx
    · cases h

def forceL {α : Type} : List α → (List α → Prop) → Prop
  | [], K => K []
  | a :: l, K => forceL l fun r => K (a :: r)
theorem forceL_eq {α : Type} : ∀ {l : List α} {K : List α → Prop}, forceL l K → K l
  | [], K, h => h
  | a :: l, K, h => forceL_eq (l := l) h
/-- an operation on plain values that touches no memory, by the model's own text -/
def notSel (o : Op) : Bool := match o with
  | .select _ _ => false
  | _ => true
/-- those that the model's own text is run for -/
def plainOp (o : Op) : Bool := match o with
  | .nilCheck _ => true
  | .field _ _ _ => true
  | .extract _ _ => true
  | .binOp _ _ _ _ _ => true
  | _ => false
theorem plain_notSel {o : Op} (h : plainOp o = true) : notSel o = true := by cases o <;> first | rfl | cases h
theorem notSel_spec {o : Op} (h : notSel o = true) (cs : Array SelectCase) (b : Bool) : o ≠ .select cs b := by
  rintro rfl; cases h
def qPure (P : Program) (st : St) (o : Oper) (F : Prop) (K : Kq) : Prop :=
  match plainOp o.op with
  | true => match allR st o.op.operands.toList with
    | true => match pureVal P (execOp (evR st) o) with
      | some (.value v) => match v with
        | .agg cs => forceL cs.toList fun l => K (.v (.agg l.toArray)) none
        | v => K (.v v) none
      | _ => F
    | false => F
  | false => F

/-- the objects of a state -/
def Ob (st : St) (ρ : List Nat) (w : World) : Prop := ∀ x ∈ st.o, ∃ b cs, ρ[x.1]? = some b ∧ denL ρ x.2.2 = some cs ∧ Blk w b x.2.1 cs.toArray

/-- in every world in which the objects are as the state says, the operation yields just this -/
def Yl (P : Program) (st : St) (o : Oper) (x : SV) : Prop :=
  ∀ G ρ a w, Tm G st ρ a → Ob st ρ w → ∃ v, x.den ρ = some v ∧ (execOp a.eval o).run P w = .ok (.value v) w

theorem qPure_sound {P : Program} {st : St} {o : Oper} {F : Prop} {K : Kq} (h : qPure P st o F K) : F ∨ ∃ x q, K x q ∧ (holds q → Yl P st o x) := by
  unfold qPure at h
  split at h
  · rename_i hs
    split at h
    · rename_i hr
      split at h
      · rename_i v e
        have key : Yl P st o (.v v) := fun G ρ a w m _ => by
          refine ⟨v, rfl, ?_⟩
          have hc : execOp a.eval o = execOp (evR st) o := execOp_congr o (fun cs b => notSel_spec (plain_notSel hs) cs b) fun x hx => allR_sound m hr x (by simpa using hx)
          rw [hc]
          exact pureVal_sound e w
        split at h
        · have h' := forceL_eq h
          simp only [Array.toArray_toList] at h'
          exact .inr ⟨_, _, h', fun _ => key⟩
        · exact .inr ⟨_, _, h, fun _ => key⟩
      · exact .inl h
    · exact .inl h
  · exact .inl h

def qLoad (P : Program) (t : TypeId) (cs : List SV) (off : Nat) (F : Prop) (K : Kq) : Prop := match P.underlying t with
  | some d => match d.isRow with
    | true => match P.info? t with
      | some i => reals F ((cs.drop off).take i.size) fun vs => match Nat.beq vs.length i.size with
        | true => K (.v (.agg vs.toArray)) none
        | false => F
      | none => F
    | false => match cs[off]? with
      | some x => K x none
      | none => F
  | none => F
theorem denL_at {ρ : List Nat} : ∀ {l : List SV} {vs : List Value} {i : Nat} {x : SV}, denL ρ l = some vs → l[i]? = some x → ∃ v, vs[i]? = some v ∧ x.den ρ = some v
  | [], vs, i, x, _, h => by simp at h
  | y :: l, vs, 0, x, h, hi => by
    obtain ⟨v, us, h1, h2, rfl⟩ := denL_cons.1 h
    simp at hi; subst hi
    exact ⟨v, by simp, h1⟩
  | y :: l, vs, i + 1, x, h, hi => by
    obtain ⟨v, us, h1, h2, rfl⟩ := denL_cons.1 h
    obtain ⟨u, e1, e2⟩ := denL_at (i := i) h2 (by simpa using hi)
    exact ⟨u, by simpa using e1, e2⟩
theorem denL_drop {ρ : List Nat} : ∀ {l : List SV} {vs : List Value} (n : Nat), denL ρ l = some vs → denL ρ (l.drop n) = some (vs.drop n)
  | l, vs, 0, h => by simpa using h
  | [], vs, n + 1, h => by cases h; rfl
  | y :: l, vs, n + 1, h => by
    obtain ⟨v, us, h1, h2, rfl⟩ := denL_cons.1 h
    simpa using denL_drop n h2
theorem denL_take {ρ : List Nat} : ∀ {l : List SV} {vs : List Value} (n : Nat), denL ρ l = some vs → denL ρ (l.take n) = some (vs.take n)
  | l, vs, 0, h => by simp [denL]
  | [], vs, n + 1, h => by cases h; rfl
  | y :: l, vs, n + 1, h => by
    obtain ⟨v, us, h1, h2, rfl⟩ := denL_cons.1 h
    simp only [List.take_succ_cons]
    exact denL_cons.2 ⟨v, _, h1, denL_take n h2, rfl⟩
theorem qLoad_sound {P : Program} {t : TypeId} {cs : List SV} {off : Nat} {F : Prop} {K : Kq} (h : qLoad P t cs off F K) :
    F ∨ ∃ x, K x none ∧ ∀ ρ w b ty us, denL ρ cs = some us → Blk w b ty us.toArray → ∃ v, x.den ρ = some v ∧ (Instr.loadAt t (.pointer (some ⟨b, off, none⟩))).run P w = .ok v w := by
  unfold qLoad at h
  split at h
  · rename_i d hd
    split at h
    · rename_i hrow
      split at h
      · rename_i i hi
        rcases reals_sound h with h | ⟨vs, h, e⟩
        · exact .inl h
        · split at h
          · rename_i hl
            have hl' := beq_of hl
            refine .inr ⟨_, h, fun ρ w b ty us hu hB => ⟨_, rfl, ?_⟩⟩
            have e1 := denL_take i.size (denL_drop off hu)
            rw [e ρ] at e1
            injection e1 with e1
            refine run_loadAt_mid w b off t vs d (fun j v hv => ?_) hd hrow (by simp [hi, hl'])
            rw [hB.cell]
            rw [e1, List.getElem?_take] at hv
            split at hv
            · simpa using hv
            · cases hv
          · exact .inl h
      · exact .inl h
    · rename_i hrow
      split at h
      · rename_i x hx
        refine .inr ⟨x, h, fun ρ w b ty us hu hB => ?_⟩
        obtain ⟨v, hv, hxv⟩ := denL_at hu hx
        refine ⟨v, hxv, ?_⟩
        have hagg : (isAgg t).run P w = .ok false w := by
          unfold isAgg
          rw [Sem.run_bind, run_underlying hd w]
          cases d <;> simp_all
        have hc : w.cell? ⟨b, off, none⟩ = some v := by rw [hB.cell]; simpa using hv
        simp [Instr.loadAt, Instr.sureAddr, loadVar, hagg, load, Sem.run, hc]
      · exact .inl h
  · exact .inl h
end Sy
end Go.Proofs.YteplckkoiffnnaaGreatDoor
