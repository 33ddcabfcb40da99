/-
  Symbolic runs: one operation that only computes or reads.
-/
import Derived.Test.YteplckkoiffnnaaGreatDoorSyOps
namespace Go.Proofs.YteplckkoiffnnaaGreatDoor
open Go.RowKit
namespace Sy
set_option linter.unusedVariables false
set_option linter.unusedSimpArgs false

def qField (P : Program) (t : TypeId) (f : Nat) (F : Prop) (K : Nat → Prop) : Prop := match P.underlying t with
  | some (.struct fs) => match fs.toList[f]? with
    | some fd => match P.info? fd.type with
      | some i => match i.size with
        | 0 => F
        | _ + 1 => K fd.offset
      | none => F
    | none => F
  | _ => F
theorem qField_sound {P : Program} {t : TypeId} {f : Nat} {F : Prop} {K : Nat → Prop} (h : qField P t f F K) :
    F ∨ ∃ d, K d ∧ ∀ b off w, (Instr.fieldAt t (.pointer (some ⟨b, off, none⟩)) f).run P w = .ok (.pointer (some ⟨b, off + d, none⟩)) w := by
  unfold qField at h
  split at h
  · rename_i fs hu
    split at h
    · rename_i fd hf
      split at h
      · rename_i i hi
        split at h
        · exact .inl h
        · rename_i m hm
          refine .inr ⟨_, h, fun b off w => ?_⟩
          have hf' : fs[f]? = some fd := by simpa using hf
          simp [Instr.fieldAt, run_underlying hu, hf', Instr.sureAddr, fieldPlace, sizeOf, typeInfo, hi, hm, Addr.add_mid]
      · exact .inl h
    · exact .inl h
  · exact .inl h

theorem equal_nil {P : Program} {t e : TypeId} (hu : P.underlying t = some (.pointer e)) (A : Option Addr) (w : World) : (Op.equal t (.pointer A) (.pointer none)).run P w = .ok A.isNone w := by
  show (Op.equalIn (9999 + 1) t (.pointer A) (.pointer none)).run P w = _
  unfold Op.equalIn
  cases A <;> simp [run_underlying hu]

def sameK (a b : IntKind) : Bool := decide (a = b)

def nilQ (P : Program) (t : TypeId) (op : BinOp) (r : Bool) (F : Prop) (K : Kq) : Prop := match P.underlying t with
  | some (.pointer _) => match op with
    | .eql => K (.k r) none
    | .neq => K (.k (!r)) none
    | _ => F
  | _ => F

/-- where the fields lie -/
def plc (P : Program) : List Field → Option (List (Nat × Nat))
  | [] => some []
  | f :: l => match P.info? f.type with
    | some i => match plc P l with
      | some r => some ((f.offset, i.size) :: r)
      | none => none
    | none => none
def pf (f : Field) : Sem (Nat × Nat) := do pure (f.offset, ← sizeOf f.type)
theorem plc_sound {P : Program} {w : World} : ∀ {l : List Field} {r : List (Nat × Nat)}, plc P l = some r → Sem.run P (l.mapM pf) w = Result.ok r w
  | [], r, h => by cases h; rfl
  | f :: l, r, h => by
    unfold plc at h
    split at h
    · rename_i i hi
      split at h
      · rename_i r' hr
        injection h with h
        subst h
        have h1 := plc_sound (w := w) hr
        have h2 : Sem.run P (pf f) w = .ok (f.offset, i.size) w := by simp [pf, sizeOf, typeInfo, hi]
        rw [List.mapM_cons]
        simp only [Sem.run_bind, h1, h2, Result.andThen_ok, Sem.run_pure]
      · cases h
    · cases h
def zipI : List (Nat × Operand) → List Value → List (Nat × Value)
  | (i, _) :: l, v :: r => (i, v) :: zipI l r
  | _, _ => []
theorem zipI_eq {ev : Operand → Value} : ∀ {l : List (Nat × Operand)}, zipI l ((l.map (·.2)).map ev) = l.map fun (i, x) => (i, ev x)
  | [] => rfl
  | (i, x) :: l => by
    simp only [List.map_cons, zipI]
    rw [zipI_eq (l := l)]
def snds : List (Nat × Operand) → List Operand
  | [] => []
  | (_, x) :: l => x :: snds l
theorem snds_eq : ∀ l : List (Nat × Operand), snds l = l.map (·.2)
  | [] => rfl
  | (_, x) :: l => by simp [snds, snds_eq l]
/-- values written one behind the other -/
def putsL : List Value → Nat → List Value → List Value
  | cs, _, [] => cs
  | cs, off, v :: vs => putsL (cs.set off v) (off + 1) vs
theorem putsL_len : ∀ (vs cs : List Value) (off : Nat), (putsL cs off vs).length = cs.length
  | [], cs, off => rfl
  | v :: vs, cs, off => by rw [putsL, putsL_len vs]; simp
def fillK (pl : Nat → Option (Nat × Nat)) (F : Prop) : List (Nat × Value) → List Value → (List Value → Prop) → Prop
  | [], cs, K => K cs
  | (i, v) :: rest, cs, K => match pl i with
    | none => F
    | some (off, size) => forceL v.cells.toList fun vl => match Nat.beq vl.length size with
      | true => match Nat.ble (off + vl.length) cs.length with
        | true => forceL (putsL cs off vl) fun cs => fillK pl F rest cs K
        | false => F
      | false => F
theorem putsL_fold : ∀ (vs : List Value) (cs : List Value) (off k : Nat), ((vs.zipIdx k).foldl (fun (cs : Array Value) (x : Value × Nat) => cs.setIfInBounds (off + x.2) x.1) cs.toArray) = (putsL cs (off + k) vs).toArray
  | [], cs, off, k => rfl
  | v :: vs, cs, off, k => by
    rw [List.zipIdx_cons, List.foldl_cons, putsL]
    have e : cs.toArray.setIfInBounds (off + k) v = (cs.set (off + k) v).toArray := by simp
    rw [e, putsL_fold vs _ off (k + 1)]
    rfl
theorem fillK_sound {pl : Nat → Option (Nat × Nat)} {F : Prop} : ∀ {ps : List (Nat × Value)} {cs : List Value} {K : List Value → Prop}, fillK pl F ps cs K → F ∨ ∃ l, K l ∧ Instr.fill pl cs.toArray ps = some l.toArray
  | [], cs, K, h => .inr ⟨cs, h, rfl⟩
  | (i, v) :: rest, cs, K, h => by
    unfold fillK at h
    split at h
    · exact .inl h
    · rename_i off size hi
      have h := forceL_eq h
      split at h
      · rename_i h1
        split at h
        · rename_i h2
          have h := forceL_eq h
          rcases fillK_sound h with h | ⟨l, h, e⟩
          · exact .inl h
          refine .inr ⟨l, h, ?_⟩
          have e1 := beq_of h1
          have e2 := Nat.le_of_ble_eq_true h2
          simp only [Array.length_toList] at e1 e2
          unfold Instr.fill
          simp only [hi]
          rw [if_neg (by simp only [List.size_toArray, Bool.or_eq_true, decide_eq_true_eq]; omega)]
          have hf := putsL_fold v.cells.toList cs off 0
          rw [Nat.add_zero] at hf
          have hz : v.cells.zipIdx.foldl (fun (cs : Array Value) (x : Value × Nat) => cs.setIfInBounds (off + x.2) x.1) cs.toArray = (putsL cs off v.cells.toList).toArray := by
            rw [← hf, ← Array.foldl_toList, Array.toList_zipIdx]
          rw [← e]
          congr 1
        · exact .inl h
      · exact .inl h
def qBuild (P : Program) (st : St) (t : TypeId) (parts : Array (Nat × Operand)) (F : Prop) (K : Kq) : Prop := match P.info? t with
  | some i => match i.zero with
    | some z => match P.underlying t with
      | some (.struct fs) => match plc P fs.toList with
        | some pl => evs st F (snds parts.toList) fun xs => reals F xs fun vs => forceL z.cells.toList fun zl => fillK (fun i => pl[i]?) F (zipI parts.toList vs) zl fun l => K (.v (.agg l.toArray)) none
        | none => F
      | some (.array _ e) => match P.info? e with
        | some ie => evs st F (snds parts.toList) fun xs => reals F xs fun vs => forceL z.cells.toList fun zl => fillK (fun i => some (i * ie.size, ie.size)) F (zipI parts.toList vs) zl fun l => K (.v (.agg l.toArray)) none
        | none => F
      | _ => F
    | none => F
  | none => F
theorem qBuild_sound {P : Program} {st : St} {t : TypeId} {parts : Array (Nat × Operand)} {o : Oper} (ho : o.op = .build t parts) {F : Prop} {K : Kq} (h : qBuild P st t parts F K) : F ∨ ∃ x q, K x q ∧ (holds q → Yl P st o x) := by
  unfold qBuild at h
  split at h
  · rename_i i hi
    split at h
    · rename_i z hz
      split at h
      · rename_i fs hu
        split at h
        · rename_i pl hpl
          rcases evs_sound h with h | ⟨xs, h, e⟩
          · exact .inl h
          rcases reals_sound h with h | ⟨vs, h, e'⟩
          · exact .inl h
          have h := forceL_eq h
          rcases fillK_sound h with h | ⟨cl, h, hcs⟩
          · exact .inl h
          · obtain ⟨cs, rfl⟩ : ∃ cs : Array Value, cl = cs.toList := ⟨cl.toArray, by simp⟩
            rw [Array.toArray_toList] at hcs
            rw [Array.toArray_toList] at hcs
            refine .inr ⟨_, _, h, fun _ G ρ a w m _ => ⟨_, rfl, ?_⟩⟩
            have h1 := e G ρ a m
            rw [e' ρ] at h1
            injection h1 with h1
            subst h1
            rw [snds_eq, zipI_eq] at hcs
            have hp := plc_sound (w := w) hpl
            have hfun : (fun i : Nat => (pl.toArray)[i]?) = (fun i : Nat => pl[i]?) := by funext i; simp
            have hb : ∀ ps : Array (Nat × Value), ps.toList = parts.toList.map (fun (i, x) => (i, a.eval x)) → (Instr.build t ps).run P w = .ok (.agg cs) w := by
              intro ps hps
              have hz' : (zeroValue t).run P w = .ok z w := by simp [zeroValue, typeInfo, hi, hz]
              have hmm : Sem.run P (fs.mapM pf) w = .ok pl.toArray w := by rw [Array.mapM_eq_mapM_toList, Sem.run_map, hp]; rfl
              unfold Instr.build
              simp only [Sem.run_bind, hz', Result.andThen_ok, run_underlying hu]
              erw [hmm]
              simp only [Result.andThen_ok, hps, hfun, hcs, Sem.run_pure]
            simp only [execOp, ho, Sem.run_bind]
            rw [hb _ (by simp [Array.toList_map])]
            simp
        · exact .inl h
      · rename_i len el hu
        split at h
        · rename_i ie hie
          rcases evs_sound h with h | ⟨xs, h, e⟩
          · exact .inl h
          rcases reals_sound h with h | ⟨vs, h, e'⟩
          · exact .inl h
          have h := forceL_eq h
          rcases fillK_sound h with h | ⟨cl, h, hcs⟩
          · exact .inl h
          · obtain ⟨cs, rfl⟩ : ∃ cs : Array Value, cl = cs.toList := ⟨cl.toArray, by simp⟩
            rw [Array.toArray_toList] at hcs
            rw [Array.toArray_toList] at hcs
            refine .inr ⟨_, _, h, fun _ G ρ a w m _ => ⟨_, rfl, ?_⟩⟩
            have h1 := e G ρ a m
            rw [e' ρ] at h1
            injection h1 with h1
            subst h1
            rw [snds_eq, zipI_eq] at hcs
            have hb : ∀ ps : Array (Nat × Value), ps.toList = parts.toList.map (fun (i, x) => (i, a.eval x)) → (Instr.build t ps).run P w = .ok (.agg cs) w := by
              intro ps hps
              have hz' : (zeroValue t).run P w = .ok z w := by simp [zeroValue, typeInfo, hi, hz]
              have hs' : (sizeOf el).run P w = .ok ie.size w := by simp [sizeOf, typeInfo, hie]
              unfold Instr.build
              simp only [Sem.run_bind, hz', Result.andThen_ok, run_underlying hu, hs', hps, hcs, Sem.run_pure]
            simp only [execOp, ho, Sem.run_bind]
            rw [hb _ (by simp [Array.toList_map])]
            simp
        · exact .inl h
      · exact .inl h
    · exact .inl h
  · exact .inl h

def qLen (P : Program) (c : Call) (vs : List SV) (F : Prop) (K : Kq) : Prop := match c.argTypes.toList with
  | [t] => match P.underlying t, vs with
    | some (.slice _), [.v (.slice _ n _)] => K (.v (.int .i64 (n : Int))) none
    | some .string, [.v (.string s)] => K (.v (.int .i64 (s.size : Int))) none
    | _, _ => F
  | _ => F

/-- a slice's room -/
def qCap (P : Program) (c : Call) (vs : List SV) (F : Prop) (K : Kq) : Prop := match c.argTypes.toList with
  | [t] => match P.underlying t, vs with
    | some (.slice _), [.v (.slice _ _ m)] => K (.v (.int .i64 (m : Int))) none
    | _, _ => F
  | _ => F
def isCap : Builtin → Bool
  | .cap => true
  | _ => false
def isLen : Builtin → Bool
  | .len => true
  | _ => false
def isMinMax : Builtin → Option Bool
  | .min => some true
  | .max => some false
  | _ => none

/-- a byte of a string -/
def byteAt (s : ByteArray) (i : Nat) : Int := ((s.data.toList[i]?).getD 0).toNat
theorem byteAt_get {s : ByteArray} {i : Nat} (h : i < s.size) : ∃ b : UInt8, s[i]? = some b ∧ byteAt s i = (b.toNat : Int) := by
  have h' : i < s.data.size := h
  refine ⟨s.data[i], ?_, ?_⟩
  · rw [getElem?_pos s i h]; rfl
  · simp only [byteAt, Array.getElem?_toList, getElem?_pos s.data i h', Option.getD_some]
/-- strings: joined, compared -/
def qStr (op : BinOp) (a b : ByteArray) (F : Prop) (K : Kq) : Prop := match op with
  | .add => K (.v (.string (a ++ b))) (some (a.size + b.size ≤ 9223372036854775807))
  | .eql => K (.v (.bool (decide (a = b)))) none
  | .neq => K (.v (.bool (!decide (a = b)))) none
  | .lss => K (.v (.bool (Op.bytesLess a.data.toList b.data.toList))) none
  | .gtr => K (.v (.bool (!(Op.bytesLess a.data.toList b.data.toList || decide (a = b))))) none
  | .leq => K (.v (.bool (Op.bytesLess a.data.toList b.data.toList || decide (a = b)))) none
  | .geq => K (.v (.bool (!Op.bytesLess a.data.toList b.data.toList))) none
  | _ => F
theorem str_toList (a : ByteArray) : a.toList = a.data.toList := ByteArray.toList_eq a
theorem str_beq (a b : ByteArray) : (a.toList == b.toList) = decide (a = b) := by
  rw [str_toList, str_toList]
  have : a.data.toList = b.data.toList ↔ a = b := by
    obtain ⟨⟨x⟩⟩ := a
    obtain ⟨⟨y⟩⟩ := b
    simp
  by_cases c : a = b
  · subst c; simp
  · rw [decide_eq_false c]
    have h : a.data.toList ≠ b.data.toList := fun e => c (this.1 e)
    exact beq_eq_false_iff_ne.2 h
theorem qStr_sound {op : BinOp} {a b : ByteArray} {F : Prop} {K : Kq} (h : qStr op a b F K) :
    F ∨ ∃ z q, K (.v z) q ∧ (holds q → ∀ (P : Program) (t : TypeId) (w : World), (binOp op t (.string a) (.string b)).run P w = .ok z w) := by
  unfold qStr at h
  split at h
  · refine .inr ⟨_, _, h, fun hq P t w => ?_⟩
    have hq' : a.size + b.size ≤ 9223372036854775807 := hq
    have : ¬ (((a.size + b.size : Nat) : Int) > IntKind.i64.max) := by simp [IntKind.max, IntKind.signed, IntKind.bits]; omega
    simp only [binOp, Op.stringOp, if_neg this, Sem.run_pure]
  · exact .inr ⟨_, _, h, fun hq P t w => by simp only [binOp, Op.stringOp, str_beq, Sem.run_pure]⟩
  · exact .inr ⟨_, _, h, fun hq P t w => by simp only [binOp, Op.stringOp, str_beq, Sem.run_pure]⟩
  · exact .inr ⟨_, _, h, fun hq P t w => by simp only [binOp, Op.stringOp, str_toList, Sem.run_pure]⟩
  · exact .inr ⟨_, _, h, fun hq P t w => by simp only [binOp, Op.stringOp, str_beq]; simp only [str_toList, Sem.run_pure]⟩
  · exact .inr ⟨_, _, h, fun hq P t w => by simp only [binOp, Op.stringOp, str_beq]; simp only [str_toList, Sem.run_pure]⟩
  · exact .inr ⟨_, _, h, fun hq P t w => by simp only [binOp, Op.stringOp, str_toList, Sem.run_pure]⟩
  · exact .inl h
def evI (st : St) (x : Option Operand) (d : Int) (F : Prop) (K : Int → Prop) : Prop := match x with
  | none => K d
  | some x => ev st x F fun v => match v with
    | .v (.int _ i) => K i
    | _ => F
theorem evI_sound {st : St} {x : Option Operand} {d : Int} {F : Prop} {K : Int → Prop} (h : evI st x d F K) : F ∨ ∃ i, K i ∧ ((x = none ∧ i = d) ∨ ∃ y k, x = some y ∧ ∀ G ρ a, Tm G st ρ a → a.eval y = .int k i) := by
  unfold evI at h
  split at h
  · exact .inr ⟨_, h, .inl ⟨rfl, rfl⟩⟩
  · rename_i y
    rcases ev_sound h with h | ⟨s, h, e⟩
    · exact .inl h
    split at h
    · rename_i k i
      exact .inr ⟨_, h, .inr ⟨y, k, rfl, fun G ρ a m => by simpa [SV.den] using (e G ρ a m).symm⟩⟩
    · exact .inl h
/-- a part of a string -/
def qSub (P : Program) (st : St) (t : TypeId) (x : Operand) (lo hi mx : Option Operand) (F : Prop) (K : Kq) : Prop := match mx with
  | some _ => F
  | none => ev st x F fun vx => match P.underlying t, vx with
    | some .string, .v (.string s) => evI st lo 0 F fun l => evI st hi (s.size : Int) F fun h => K (.v (.string (s.extract l.toNat h.toNat))) (some (0 ≤ l ∧ l ≤ h ∧ h ≤ (s.size : Int)))
    | some (.slice e), .v (.slice A n c) => match lo with
      | none => match P.info? e with
        | some _ => evI st hi (n : Int) F fun h => K (.v (.slice A h.toNat c)) (some (0 ≤ h ∧ h ≤ (c : Int)))
        | none => F
      | some _ => F
    | _, _ => F
theorem qSub_sound {P : Program} {st : St} {o : Oper} {t : TypeId} {x : Operand} {lo hi' mx : Option Operand} {F : Prop} {K : Kq} (ho : o.op = .slice t x lo hi' mx) (h : qSub P st t x lo hi' mx F K) : F ∨ ∃ x q, K x q ∧ (holds q → Yl P st o x) := by
  unfold qSub at h
  split at h
  · exact .inl h
  rcases ev_sound h with h | ⟨sx, h, ex⟩
  · exact .inl h
  split at h
  · rename_i s hu
    rcases evI_sound h with h | ⟨l, h, el⟩
    · exact .inl h
    rcases evI_sound h with h | ⟨hh, h, eh⟩
    · exact .inl h
    refine .inr ⟨_, _, h, fun hq G ρ a w m _ => ⟨_, rfl, ?_⟩⟩
    obtain ⟨q1, q2, q3⟩ := hq
    have h1 := ex G ρ a m
    simp only [SV.den, Option.some.injEq] at h1
    have bl : ∀ (y : Nat) (code : BoundsCode) (k : IntKind) (i : Int), 0 ≤ i → i ≤ y → (Instr.sliceBound (.int k i) y code).run P w = .ok i.toNat w := fun y code k i c1 c2 => by
      simp [Instr.sliceBound, asIntOf, c1, c2]
    have q4 : l ≤ (hh.toNat : Int) := by omega
    have key : (Instr.sliceBounds false s.size s.size (lo.map a.eval) (hi'.map a.eval) none).run P w = .ok (l.toNat, hh.toNat, s.size) w := by
      rcases el with ⟨rfl, rfl⟩ | ⟨y, k, rfl, ey⟩ <;> rcases eh with ⟨rfl, rfl⟩ | ⟨y', k', rfl, ey'⟩
      · simp [Instr.sliceBounds]
      · simp [Instr.sliceBounds, ey' G ρ a m, bl _ _ _ _ (by omega : (0:Int) ≤ hh) q3]
      · simp [Instr.sliceBounds, ey G ρ a m, bl _ _ _ _ q1 q2]
      · simp [Instr.sliceBounds, ey G ρ a m, ey' G ρ a m, bl _ _ _ _ (by omega : (0:Int) ≤ hh) q3, bl _ _ _ _ q1 q4]
    simp [execOp, ho, Instr.sliceAt, Instr.slice, ← h1, run_underlying hu, key]
  · rename_i e A n c hu
    split at h
    · split at h
      · rename_i i hi
        rcases evI_sound h with h | ⟨hh, h, eh⟩
        · exact .inl h
        refine .inr ⟨_, _, h, fun hq G ρ a w m _ => ⟨_, rfl, ?_⟩⟩
        obtain ⟨q1, q2⟩ := hq
        have h1 := ex G ρ a m
        simp only [SV.den, Option.some.injEq] at h1
        have bl : ∀ (y : Nat) (code : BoundsCode) (k : IntKind) (i : Int), 0 ≤ i → i ≤ y → (Instr.sliceBound (.int k i) y code).run P w = .ok i.toNat w := fun y code k i c1 c2 => by
          simp [Instr.sliceBound, asIntOf, c1, c2]
        have key : (Instr.sliceBounds true n c none (hi'.map a.eval) none).run P w = .ok (0, hh.toNat, c) w := by
          rcases eh with ⟨rfl, rfl⟩ | ⟨y', k', rfl, ey'⟩
          · simp [Instr.sliceBounds]
          · simp [Instr.sliceBounds, ey' G ρ a m, bl _ _ _ _ q1 q2]
        have hA : (if c = 0 then A else A.map (·.add (0 * P.cellsOf e))) = A := by
          split
          · rfl
          · cases A with
            | none => rfl
            | some x => simp [Addr.add]
        have hsz : (sizeOf e).run P w = .ok (P.cellsOf e) w := by simp [sizeOf, typeInfo, hi, Program.cellsOf]
        simp only [execOp, ho, Instr.sliceAt, Instr.slice, ← h1, Sem.run_bind, run_underlying hu, Result.andThen_ok, Option.map_none, key, hsz, hA, Nat.sub_zero, Sem.run_pure]
      · exact .inl h
    · exact .inl h
  · exact .inl h
/-- a byte of a string, read -/
def isAgD : TypeDesc → Bool
  | .struct _ => true
  | .array _ _ => true
  | _ => false
theorem isAgD_sound {P : Program} {t : TypeId} {d : TypeDesc} (h : P.underlying t = some d) (w : World) : (isAgg t).run P w = .ok (isAgD d) w := by
  simp only [isAgg, Sem.run_bind, run_underlying h, Result.andThen_ok]
  cases d <;> rfl
/-- an array's cells: the i-th of its elements -/
def qEl (P : Program) (e : TypeId) (len : Nat) (xs : List Value) (i : Int) (F : Prop) (K : Kq) : Prop := match P.info? e with
  | some ie => match P.underlying e with
    | some d => match isAgD d with
      | true => forceL ((xs.drop (i.toNat * ie.size)).take ie.size) fun l => K (.v (.agg l.toArray)) (some (0 ≤ i ∧ i < (len : Int)))
      | false => match xs[i.toNat * ie.size]? with
        | some v => K (.v v) (some (0 ≤ i ∧ i < (len : Int)))
        | none => F
    | none => F
  | none => F
theorem qEl_sound {P : Program} {e : TypeId} {len : Nat} {xs : Array Value} {i : Int} {F : Prop} {K : Kq} (h : qEl P e len xs.toList i F K) : F ∨ ∃ v, K (.v v) (some (0 ≤ i ∧ i < (len : Int))) ∧ ∃ z, ∀ w, (sizeOf e).run P w = .ok z w ∧ (part e xs (i.toNat * z)).run P w = .ok v w := by
  unfold qEl at h
  split at h
  · rename_i ie hie
    have hs : ∀ w, (sizeOf e).run P w = .ok ie.size w := fun w => by simp [sizeOf, typeInfo, hie]
    split at h
    · rename_i d hd
      split at h
      · rename_i ha
        have h := forceL_eq h
        refine .inr ⟨_, h, ie.size, fun w => ⟨hs w, ?_⟩⟩
        have hx : ((xs.toList.drop (i.toNat * ie.size)).take ie.size).toArray = xs.extract (i.toNat * ie.size) (i.toNat * ie.size + ie.size) := by
          apply Array.ext'
          simp [List.extract_eq_take_drop, Nat.add_sub_cancel_left, List.take_drop, Nat.add_comm]
        simp only [part, Sem.run_bind, isAgD_sound hd, ha, Result.andThen_ok, if_true, hs, Sem.run_pure, hx]
      · rename_i ha
        split at h
        · rename_i v hv
          refine .inr ⟨v, h, ie.size, fun w => ⟨hs w, ?_⟩⟩
          rw [Array.getElem?_toList] at hv
          simp [part, Sem.run_bind, isAgD_sound hd, ha, hv]
        · exact .inl h
    · exact .inl h
  · exact .inl h
def qIdx (P : Program) (st : St) (t : TypeId) (x ix : Operand) (F : Prop) (K : Kq) : Prop :=
  ev st x F fun vx => ev st ix F fun vi => match P.underlying t, vx, vi with
    | some .string, .v (.string s), .v (.int _ i) => K (.v (.int .u8 (byteAt s i.toNat))) (some (0 ≤ i ∧ i < (s.size : Int)))
    | some (.array len e), .v (.agg xs), .v (.int _ i) => qEl P e len xs.toList i F K
    | _, _, _ => F
theorem qIdx_sound {P : Program} {st : St} {o : Oper} {t : TypeId} {x ix : Operand} {F : Prop} {K : Kq} (ho : o.op = .index t x ix) (h : qIdx P st t x ix F K) : F ∨ ∃ x q, K x q ∧ (holds q → Yl P st o x) := by
  unfold qIdx at h
  rcases ev_sound h with h | ⟨sx, h, ex⟩
  · exact .inl h
  rcases ev_sound h with h | ⟨si, h, ei⟩
  · exact .inl h
  split at h
  · rename_i s k i hu _
    refine .inr ⟨_, _, h, fun hq G ρ a w m _ => ⟨_, rfl, ?_⟩⟩
    obtain ⟨q1, q2⟩ := hq
    have h1 := ex G ρ a m
    have h2 := ei G ρ a m
    simp only [SV.den, Option.some.injEq] at h1 h2
    obtain ⟨b, e1, e2⟩ := byteAt_get (s := s) (i := i.toNat) (by omega)
    simp [execOp, ho, Instr.index, ← h1, ← h2, asIntOf, run_underlying hu, q1, e1, e2]
  · rename_i len e xs k i hu _
    rcases qEl_sound h with h | ⟨v, h, z, hz⟩
    · exact .inl h
    refine .inr ⟨_, _, h, fun hq G ρ a w m _ => ⟨_, rfl, ?_⟩⟩
    have h1 := ex G ρ a m
    have h2 := ei G ρ a m
    simp only [SV.den, Option.some.injEq] at h1 h2
    have q1 : 0 ≤ i ∧ i < (len : Int) := hq
    simp [execOp, ho, Instr.index, ← h1, ← h2, asIntOf, run_underlying hu, q1.1, q1.2, (hz w).1, (hz w).2]
  · exact .inl h

def isIfc : TypeDesc → Bool
  | .interface _ => true
  | _ => false
def qMk (P : Program) (st : St) (t : TypeId) (x : Operand) (F : Prop) (K : Kq) : Prop := match P.underlying t with
  | some d => match isIfc d with
    | true => F
    | false => ev st x F fun v => match v with
      | .v w => K (.v (.iface t w)) none
      | .k b => K (.v (.iface t (.bool b))) none
      | _ => F
  | none => F
theorem qMk_sound {P : Program} {st : St} {o : Oper} {t : TypeId} {x : Operand} {F : Prop} {K : Kq} (ho : o.op = .makeInterface t x) (h : qMk P st t x F K) : F ∨ ∃ x q, K x q ∧ (holds q → Yl P st o x) := by
  unfold qMk at h
  split at h
  · rename_i d hu
    split at h
    · exact .inl h
    · rename_i hd
      rcases ev_sound h with h | ⟨s, h, e⟩
      · exact .inl h
      have run : ∀ (u : Value) (w : World), (Instr.makeInterface t u).run P w = .ok (.iface t u) w := fun u w => by
        unfold Instr.makeInterface
        rw [Sem.run_bind, run_underlying hu w]
        cases d <;> simp_all [isIfc]
      split at h
      · refine .inr ⟨_, _, h, fun _ G ρ a w m _ => ⟨_, rfl, ?_⟩⟩
        have := e G ρ a m
        simp only [SV.den, Option.some.injEq] at this
        simp [execOp, ho, ← this, run]
      · refine .inr ⟨_, _, h, fun _ G ρ a w m _ => ⟨_, rfl, ?_⟩⟩
        have := e G ρ a m
        simp only [SV.den, Option.some.injEq] at this
        simp [execOp, ho, ← this, run]
      · exact .inl h
  · exact .inl h
def qTA (P : Program) (st : St) (x : Operand) (t : TypeId) (ok : Bool) (F : Prop) (K : Kq) : Prop := match P.underlying t with
  | some d => match isIfc d with
    | true => F
    | false => ev st x F fun v => match v with
      | .v (.iface t' w) => match Nat.beq t' t with
        | true => match ok with
          | true => K (.v (.tuple #[w, .bool true])) none
          | false => K (.v w) none
        | false => match ok with
          | true => match P.info? t with
            | some i => match i.zero with
              | some z => K (.v (.tuple #[z, .bool false])) none
              | none => F
            | none => F
          | false => F
      | _ => F
  | none => F
theorem qTA_sound {P : Program} {st : St} {o : Oper} {x : Operand} {xt t : TypeId} {ok : Bool} {F : Prop} {K : Kq} (ho : o.op = .typeAssert x xt t ok) (h : qTA P st x t ok F K) : F ∨ ∃ x q, K x q ∧ (holds q → Yl P st o x) := by
  unfold qTA at h
  split at h
  · rename_i d hu
    split at h
    · exact .inl h
    · rename_i hd
      have h0 := ev_sound h
      clear h
      rcases h0 with h | ⟨s, h, e⟩
      · exact .inl h
      split at h
      · rename_i t' u
        have he : ∀ G ρ a, Tm G st ρ a → a.eval x = .iface t' u := fun G ρ a m => by
          have := e G ρ a m
          simp only [SV.den, Option.some.injEq] at this
          exact this.symm
        split at h
        · rename_i hb
          have hb := Nat.eq_of_beq_eq_true hb
          subst hb
          split at h
          · refine .inr ⟨_, _, h, fun _ G ρ a w m _ => ⟨_, rfl, ?_⟩⟩
            have run : (Instr.typeAssert (.iface t' u) xt t' true).run P w = .ok (.tuple #[u, .bool true]) w := by
              unfold Instr.typeAssert
              rw [Sem.run_bind, run_underlying hu w]
              cases d <;> simp_all [isIfc]
            simp [execOp, ho, he G ρ a m, run]
          · refine .inr ⟨_, _, h, fun _ G ρ a w m _ => ⟨_, rfl, ?_⟩⟩
            have run : (Instr.typeAssert (.iface t' u) xt t' false).run P w = .ok u w := by
              unfold Instr.typeAssert
              rw [Sem.run_bind, run_underlying hu w]
              cases d <;> simp_all [isIfc]
            simp [execOp, ho, he G ρ a m, run]
        · rename_i hb
          have hne : t' ≠ t := fun c => by subst c; rw [Nat.beq_refl] at hb; cases hb
          split at h
          · split at h
            · rename_i i hi
              split at h
              · rename_i z hz
                refine .inr ⟨_, _, h, fun _ G ρ a w m _ => ⟨_, rfl, ?_⟩⟩
                have run : (Instr.typeAssert (.iface t' u) xt t true).run P w = .ok (.tuple #[z, .bool false]) w := by
                  unfold Instr.typeAssert
                  rw [Sem.run_bind, run_underlying hu w]
                  cases d <;> simp_all [isIfc, zeroValue, typeInfo]
                simp [execOp, ho, he G ρ a m, run]
              · exact .inl h
            · exact .inl h
          · exact .inl h
      · exact .inl h
  · exact .inl h

def q1 (P : Program) (tr : Bool) (st : St) (o : Oper) (F : Prop) (K : Kq) : Prop :=
  match o.op with
  | .move x => ev st x F fun v => K v none
  | .assign x => ev st x F fun v => K v none
  | .pick c a b => ev st c F fun vc => ev st a F fun va => ev st b F fun vb => match vc with
    | .k b => match b with
      | true => K va none
      | false => K vb none
    | .v (.bool c) => asB va F fun x => asB vb F fun y => K (.v (.bool (cond c x y))) none
    | _ => F
  | .nilCheck x => ev st x F fun v => match v with
    | .p n off => K (.p n off) none
    | .v (.pointer (some ad)) => K (.v (.pointer (some ad))) none
    | _ => qPure P st o F K
  | .load t a => ev st a F fun v => match v with
    | .p n off => match getO st.o n with
      | some (_, cs) => qLoad P t cs off F K
      | none => F
    | _ => F
  | .fieldAddr t x f => ev st x F fun v => match v with
    | .p n off => qField P t f F fun d => K (.p n (off + d)) none
    | .v (.pointer (some ⟨b, off, none⟩)) => qField P t f F fun d => K (.v (.pointer (some ⟨b, off + d, none⟩))) none
    | _ => F
  | .binOp op t x y _ => ev st x F fun vx => ev st y F fun vy => match vx, vy with
    | .v (.int k a), .v (.int k' b) => match op with
      | .shl => binI tr .shl k a b K
      | .shr => binI tr .shr k a b K
      | op => match sameK k k' with
        | true => binI tr op k a b K
        | false => F
    | .p _ _, .v (.pointer none) => nilQ P t op false F K
    | .v (.pointer (some _)), .v (.pointer none) => nilQ P t op false F K
    | .v (.pointer none), .v (.pointer none) => nilQ P t op true F K
    | .v (.agg _), .v (.agg _) => F
    | .v (.string a), .v (.string b) => qStr op a b F K
    | .v (.pointer (some _)), .v (.pointer (some _)) => F
    | _, _ => qPure P st o F K
  | .unOp op _ x => ev st x F fun v => match op, v with
    | .not, .k b => K (.k (!b)) none
    | .not, .v (.bool b) => K (.v (.bool (!b))) none
    | .neg, .v (.int k n) => arith k (0 - n) K
    | _, _ => F
  | .convert src dst x => ev st x F fun v => match P.underlying src, P.underlying dst, v with
    | some (.int .u64), some (.int .i64), .v (.int _ n) => K (.v (.int .i64 (IntKind.i64.wrap n))) none
    | some _, some (.int k), .v (.int _ n) => arith k n K
    | _, _, _ => qPure P st o F K
  | .indexAddr t x ix => ev st x F fun vx => ev st ix F fun vi => match P.underlying t, vx, vi with
    | some (.slice e), .v (.slice (some ⟨b, off, none⟩) n _), .v (.int _ i) => match P.info? e with
      | some inf => match inf.size with
        | 0 => F
        | 1 => K (.v (.pointer (some ⟨b, off + i.toNat, none⟩))) (some (0 ≤ i ∧ i < (n : Int)))
        | z + 2 => K (.v (.pointer (some ⟨b, off + i.toNat * (z + 2), none⟩))) (some (0 ≤ i ∧ i < (n : Int)))
      | none => F
    | some (.array len e), .p n off, .v (.int _ i) => match P.info? e with
      | some inf => K (.p n (off + i.toNat * inf.size)) (some (0 ≤ i ∧ i < (len : Int)))
      | none => F
    | some (.array len e), .v (.pointer (some ⟨b, off, none⟩)), .v (.int _ i) => match P.info? e with
      | some inf => K (.v (.pointer (some ⟨b, off + i.toNat * inf.size, none⟩))) (some (0 ≤ i ∧ i < (len : Int)))
      | none => F
    | _, _, _ => F
  | .call c => match c.callee with
    | .builtin bi => match isMinMax bi with
      | some mn => evs st F c.args.toList fun vs => match vs with
        | [.v (.int k a), .v (.int _ b)] => match mn with
          | true => K (.v (.int k (min a b))) none
          | false => K (.v (.int k (max a b))) none
        | _ => F
      | none => match isLen bi with
        | true => evs st F c.args.toList fun vs => qLen P c vs F K
        | false => match isCap bi with
          | true => evs st F c.args.toList fun vs => qCap P c vs F K
          | false => qPure P st o F K
    | _ => F
  | .build t parts => qBuild P st t parts F K
  | .index t x ix => qIdx P st t x ix F K
  | .slice t x lo hi mx => qSub P st t x lo hi mx F K
  | .makeInterface t x => qMk P st t x F K
  | .typeAssert x _ t ok => qTA P st x t ok F K
  | _ => qPure P st o F K

theorem q1_sound {P : Program} {tr : Bool} {st : St} {o : Oper} {F : Prop} {K : Kq} (h : q1 P tr st o F K) : F ∨ ∃ x q, K x q ∧ (holds q → Yl P st o x) := by
  unfold q1 at h
  split at h
  case h_1 x ho =>
    rcases ev_sound h with h | ⟨s, h, e⟩
    · exact .inl h
    · exact .inr ⟨_, _, h, fun _ G ρ a w m _ => ⟨_, e G ρ a m, by simp [execOp, ho]⟩⟩
  case h_2 x ho =>
    rcases ev_sound h with h | ⟨s, h, e⟩
    · exact .inl h
    · exact .inr ⟨_, _, h, fun _ G ρ a w m _ => ⟨_, e G ρ a m, by simp [execOp, ho]⟩⟩
  case h_3 c x y ho =>
    rcases ev_sound h with h | ⟨sc, h, ec⟩
    · exact .inl h
    rcases ev_sound h with h | ⟨sx, h, ex⟩
    · exact .inl h
    rcases ev_sound h with h | ⟨sy, h, ey⟩
    · exact .inl h
    split at h
    · split at h
      · refine .inr ⟨_, _, h, fun _ G ρ a w m _ => ⟨_, ex G ρ a m, ?_⟩⟩
        have := ec G ρ a m
        simp only [SV.den, Option.some.injEq] at this
        simp [execOp, ho, ← this, asBool]
      · refine .inr ⟨_, _, h, fun _ G ρ a w m _ => ⟨_, ey G ρ a m, ?_⟩⟩
        have := ec G ρ a m
        simp only [SV.den, Option.some.injEq] at this
        simp [execOp, ho, ← this, asBool]
    · rcases asB_sound h with h | ⟨bx, h, hx⟩
      · exact .inl h
      rcases asB_sound h with h | ⟨by', h, hy⟩
      · exact .inl h
      refine .inr ⟨_, _, h, fun _ G ρ a w m _ => ⟨_, rfl, ?_⟩⟩
      have h1 := ec G ρ a m
      have h2 := ex G ρ a m
      have h3 := ey G ρ a m
      rw [hx ρ] at h2
      rw [hy ρ] at h3
      simp only [SV.den, Option.some.injEq] at h1 h2 h3
      simp [execOp, ho, ← h1, ← h2, ← h3, asBool, Bool.cond_eq_ite]
    · exact .inl h
  case h_4 x ho =>
    rcases ev_sound h with h | ⟨s, h, e⟩
    · exact .inl h
    split at h
    · refine .inr ⟨_, _, h, fun _ G ρ a w m _ => ?_⟩
      have := e G ρ a m
      refine ⟨_, this, ?_⟩
      simp only [SV.den, Option.map_eq_some_iff] at this
      obtain ⟨b, _, hb⟩ := this
      simp [execOp, ho, ← hb]
    · refine .inr ⟨_, _, h, fun _ G ρ a w m _ => ?_⟩
      have := e G ρ a m
      refine ⟨_, this, ?_⟩
      simp only [SV.den, Option.some.injEq] at this
      simp [execOp, ho, ← this]
    · exact qPure_sound h
  case h_5 t x ho =>
    rcases ev_sound h with h | ⟨s, h, e⟩
    · exact .inl h
    split at h
    · split at h
      · rename_i ty cs hg
        rcases qLoad_sound h with h | ⟨x', h, hl⟩
        · exact .inl h
        refine .inr ⟨_, _, h, fun _ G ρ a w m hob => ?_⟩
        obtain ⟨b, us, e1, e2, e3⟩ := hob _ (getO_mem hg)
        obtain ⟨v, h1, h2⟩ := hl ρ w b _ us e2 e3
        refine ⟨v, h1, ?_⟩
        have := e G ρ a m
        simp only [SV.den, e1, Option.map_some, Option.some.injEq] at this
        simp [execOp, ho, ← this, h2]
      · exact .inl h
    · exact .inl h
  case h_6 t x f ho =>
    rcases ev_sound h with h | ⟨s, h, e⟩
    · exact .inl h
    split at h
    · rename_i n off
      rcases qField_sound h with h | ⟨d, h, hd⟩
      · exact .inl h
      refine .inr ⟨_, _, h, fun _ G ρ a w m hob => ?_⟩
      have := e G ρ a m
      simp only [SV.den, Option.map_eq_some_iff] at this
      obtain ⟨b, hb, hv⟩ := this
      refine ⟨.pointer (some ⟨b, off + d, none⟩), by simp only [SV.den, hb, Option.map_some], ?_⟩
      simp [execOp, ho, ← hv, hd]
    · rcases qField_sound h with h | ⟨d, h, hd⟩
      · exact .inl h
      refine .inr ⟨_, _, h, fun _ G ρ a w m hob => ⟨_, rfl, ?_⟩⟩
      have := e G ρ a m
      simp only [SV.den, Option.some.injEq] at this
      simp [execOp, ho, ← this, hd]
    · exact .inl h
  case h_7 op t x y ty ho =>
    rcases ev_sound h with h | ⟨sx, h, ex⟩
    · exact .inl h
    rcases ev_sound h with h | ⟨sy, h, ey⟩
    · exact .inl h
    have guardI : ∀ (w : World) (k k' : IntKind) (a b : Int), (eqGuard op t x y (.int k a) (.int k' b)).run P w = .ok () w := by
      intro w k k' a b
      unfold eqGuard; cases op <;> simp
    have guardP : ∀ (w : World) (A B : Option Addr), (eqGuard op t x y (.pointer A) (.pointer B)).run P w = .ok () w := by
      intro w A B
      unfold eqGuard; cases op <;> simp
    have nilK : ∀ (A : Option Addr) (r : Bool), r = A.isNone → (∀ G ρ a, Tm G st ρ a → ∃ A', A'.isNone = A.isNone ∧ a.eval x = .pointer A') → (∀ G ρ a, Tm G st ρ a → a.eval y = .pointer none) → nilQ P t op r F K →
        F ∨ ∃ x q, K x q ∧ (holds q → Yl P st o x) := by
      intro A r hr hx hy h
      unfold nilQ at h
      split at h
      · rename_i e hu
        split at h
        · refine .inr ⟨_, _, h, fun _ G ρ a w m _ => ⟨_, rfl, ?_⟩⟩
          obtain ⟨A', hA', hx'⟩ := hx G ρ a m
          have hn := equal_nil hu A' w
          simp [execOp, ho, hx', hy G ρ a m, guardP, binOp, hn, hA', hr]
        · refine .inr ⟨_, _, h, fun _ G ρ a w m _ => ⟨_, rfl, ?_⟩⟩
          obtain ⟨A', hA', hx'⟩ := hx G ρ a m
          have hn := equal_nil hu A' w
          simp [execOp, ho, hx', hy G ρ a m, guardP, binOp, hn, hA', hr]
        · exact .inl h
      · exact .inl h
    split at h
    · rename_i k a' k' b' _
      have fin : ∀ {tr : Bool}, (op = .shl ∨ op = .shr ∨ k = k') → binI tr op k a' b' K → F ∨ ∃ x q, K x q ∧ (holds q → Yl P st o x) := by
        intro tr hk h
        obtain ⟨z, q, h, hz⟩ := binI_sound h
        refine .inr ⟨_, _, h, fun hq G ρ a w m _ => ⟨_, rfl, ?_⟩⟩
        have h1 := ex G ρ a m
        have h2 := ey G ρ a m
        simp only [SV.den, Option.some.injEq] at h1 h2
        simp [execOp, ho, ← h1, ← h2, guardI, hz hq P t k' hk w]
      split at h
      · exact fin (.inl rfl) h
      · exact fin (.inr (.inl rfl)) h
      · split at h
        · rename_i hk
          exact fin (.inr (.inr (of_decide_eq_true hk))) h
        · exact .inl h
    · exact nilK (some ⟨0, 0, none⟩) false rfl (fun G ρ a m => by
        have := ex G ρ a m
        simp only [SV.den, Option.map_eq_some_iff] at this
        obtain ⟨b, _, hb⟩ := this
        exact ⟨_, (by rfl), hb.symm⟩) (fun G ρ a m => by simpa [SV.den] using (ey G ρ a m).symm) h
    · exact nilK (some ⟨0, 0, none⟩) false rfl (fun G ρ a m => by
        have := ex G ρ a m
        simp only [SV.den, Option.some.injEq] at this
        exact ⟨_, (by rfl), this.symm⟩) (fun G ρ a m => by simpa [SV.den] using (ey G ρ a m).symm) h
    · exact nilK none true rfl (fun G ρ a m => by
        have := ex G ρ a m
        simp only [SV.den, Option.some.injEq] at this
        exact ⟨_, (by rfl), this.symm⟩) (fun G ρ a m => by simpa [SV.den] using (ey G ρ a m).symm) h
    · exact .inl h
    · rename_i a' b' _
      rcases qStr_sound h with h | ⟨z, q, h, hz⟩
      · exact .inl h
      · refine .inr ⟨_, _, h, fun hq G ρ a w m _ => ⟨_, rfl, ?_⟩⟩
        have h1 := ex G ρ a m
        have h2 := ey G ρ a m
        simp only [SV.den, Option.some.injEq] at h1 h2
        have guardS : (eqGuard op t x y (.string a') (.string b')).run P w = .ok () w := by
          unfold eqGuard; cases op <;> simp
        simp [execOp, ho, ← h1, ← h2, guardS, hz hq P t w]
    · exact .inl h
    · exact qPure_sound h
  case h_8 op t x ho =>
    rcases ev_sound h with h | ⟨sx, h, ex⟩
    · exact .inl h
    split at h
    · refine .inr ⟨_, _, h, fun _ G ρ a w m _ => ⟨_, rfl, ?_⟩⟩
      have := ex G ρ a m
      simp only [SV.den, Option.some.injEq] at this
      simp [execOp, ho, ← this, Op.unary]
    · refine .inr ⟨_, _, h, fun _ G ρ a w m _ => ⟨_, rfl, ?_⟩⟩
      have := ex G ρ a m
      simp only [SV.den, Option.some.injEq] at this
      simp [execOp, ho, ← this, Op.unary]
    · obtain ⟨z, q, h, e⟩ := arith_sound h
      refine .inr ⟨_, _, h, fun hq G ρ a w m _ => ⟨_, rfl, ?_⟩⟩
      have := ex G ρ a m
      simp only [SV.den, Option.some.injEq] at this
      simp only [execOp, ho, ← this, Op.unary, Op.intArith, e hq, Sem.run_bind, Sem.run_pure, Result.andThen_ok]
    · exact .inl h
  case h_9 src dst x ho =>
    rcases ev_sound h with h | ⟨sx, h, ex⟩
    · exact .inl h
    split at h
    · rename_i n hs hd
      refine .inr ⟨_, _, h, fun hq G ρ a w m _ => ⟨_, rfl, ?_⟩⟩
      have := ex G ρ a m
      simp only [SV.den, Option.some.injEq] at this
      simp [execOp, ho, ← this, convert, run_underlying hs, run_underlying hd, Conv.intToInt]
    · rename_i d k _ n hs hd
      obtain ⟨z, q, h, e⟩ := arith_sound h
      refine .inr ⟨_, _, h, fun hq G ρ a w m _ => ⟨_, rfl, ?_⟩⟩
      have := ex G ρ a m
      simp only [SV.den, Option.some.injEq] at this
      simp [execOp, ho, ← this, convert, run_underlying hs, run_underlying hd, Conv.intToInt, e hq]
    · exact qPure_sound h
  case h_10 t x ix ho =>
    rcases ev_sound h with h | ⟨sx, h, ex⟩
    · exact .inl h
    rcases ev_sound h with h | ⟨si, h, ei⟩
    · exact .inl h
    split at h
    · rename_i el b off n c k i hu _
      split at h
      · rename_i inf hinf
        have fin : ∀ G ρ a w, Tm G st ρ a → 0 ≤ i ∧ i < (n : Int) → (execOp a.eval o).run P w = .ok (.value (.pointer (some ⟨b, off + i.toNat * inf.size, none⟩))) w := by
          intro G ρ a w m hq'
          have h1 := ex G ρ a m
          have h2 := ei G ρ a m
          simp only [SV.den, Option.some.injEq] at h1 h2
          simp [execOp, ho, ← h1, ← h2, Instr.indexAt, asIntOf, run_underlying hu, hq', sizeOf, typeInfo, hinf, Addr.add_mid]
        split at h
        · exact .inl h
        · rename_i hz
          exact .inr ⟨_, _, h, fun hq G ρ a w m _ => ⟨_, rfl, by rw [fin G ρ a w m hq, hz, Nat.mul_one]⟩⟩
        · rename_i z hz
          exact .inr ⟨_, _, h, fun hq G ρ a w m _ => ⟨_, rfl, by rw [fin G ρ a w m hq, hz]⟩⟩
      · exact .inl h
    · rename_i len el n off k i hu _
      split at h
      · rename_i inf hinf
        refine .inr ⟨_, _, h, fun hq G ρ a w m _ => ?_⟩
        have h1 := ex G ρ a m
        have h2 := ei G ρ a m
        simp only [SV.den] at h1 h2
        cases hρ : ρ[n]? with
        | none => rw [hρ] at h1; cases h1
        | some b =>
          rw [hρ] at h1
          simp only [Option.map_some, Option.some.injEq] at h1 h2
          refine ⟨.pointer (some ⟨b, off + i.toNat * inf.size, none⟩), by simp [SV.den, hρ], ?_⟩
          have q1 : 0 ≤ i ∧ i < (len : Int) := hq
          simp [execOp, ho, ← h1, ← h2, Instr.indexAt, asIntOf, run_underlying hu, q1.1, q1.2, sizeOf, typeInfo, hinf, Addr.add_mid, Instr.sureAddr]
      · exact .inl h
    · rename_i len el b off k i hu _
      split at h
      · rename_i inf hinf
        refine .inr ⟨_, _, h, fun hq G ρ a w m _ => ⟨_, rfl, ?_⟩⟩
        have h1 := ex G ρ a m
        have h2 := ei G ρ a m
        simp only [SV.den, Option.some.injEq] at h1 h2
        have q1 : 0 ≤ i ∧ i < (len : Int) := hq
        simp [execOp, ho, ← h1, ← h2, Instr.indexAt, asIntOf, run_underlying hu, q1.1, q1.2, sizeOf, typeInfo, hinf, Addr.add_mid, Instr.sureAddr]
      · exact .inl h
    · exact .inl h
  case h_11 c ho =>
    split at h
    · rename_i bi hc
      split at h
      · rename_i mn hmn
        rcases evs_sound h with h | ⟨ss, h, e⟩
        · exact .inl h
        split at h
        · rename_i k a' k' b'
          have hm : (bi = .min ∧ mn = true) ∨ (bi = .max ∧ mn = false) := by
            cases bi <;> simp [isMinMax] at hmn <;> simp [← hmn]
          rcases hm with ⟨rfl, rfl⟩ | ⟨rfl, rfl⟩
          · refine .inr ⟨_, _, h, fun hq G ρ a w m _ => ⟨_, rfl, ?_⟩⟩
            have := e G ρ a m
            have e2 : c.args.map a.eval = #[.int k a', .int k' b'] := by
              have h3 : c.args.toList.map a.eval = [.int k a', .int k' b'] := by
                have h4 : denL ρ [.v (.int k a'), .v (.int k' b')] = some [.int k a', .int k' b'] := rfl
                rw [h4] at this
                injection this with this
                exact this.symm
              apply Array.ext'
              simpa using h3
            simp [execOp, ho, resolve, hc, invoke, builtin, e2, Builtin.min_, Builtin.min2]
            omega
          · refine .inr ⟨_, _, h, fun hq G ρ a w m _ => ⟨_, rfl, ?_⟩⟩
            have := e G ρ a m
            have e2 : c.args.map a.eval = #[.int k a', .int k' b'] := by
              have h3 : c.args.toList.map a.eval = [.int k a', .int k' b'] := by
                have h4 : denL ρ [.v (.int k a'), .v (.int k' b')] = some [.int k a', .int k' b'] := rfl
                rw [h4] at this
                injection this with this
                exact this.symm
              apply Array.ext'
              simpa using h3
            simp [execOp, ho, resolve, hc, invoke, builtin, e2, Builtin.max_, Builtin.max2]
            omega
        · exact .inl h
      · split at h
        · rename_i hl
          have hl' : bi = .len := by cases bi <;> simp [isLen] at hl <;> rfl
          subst hl'
          rcases evs_sound h with h | ⟨ss, h, e⟩
          · exact .inl h
          unfold qLen at h
          split at h
          · rename_i t hty
            have hty' : c.argTypes = #[t] := by apply Array.ext'; simpa using hty
            have ha : ∀ {G : Gl} {ρ : List Nat} {a : Act} {u : Value}, Tm G st ρ a → ss = [.v u] → c.args.map a.eval = #[u] := by
              intro G ρ a u m hs
              have := e G ρ a m
              rw [hs] at this
              have h4 : denL ρ [.v u] = some [u] := rfl
              rw [h4] at this
              injection this with this
              apply Array.ext'
              simpa using this.symm
            split at h
            · rename_i hu
              exact .inr ⟨_, _, h, fun _ G ρ a w m _ => ⟨_, rfl, by simp [execOp, ho, resolve, hc, invoke, builtin, ha m rfl, Builtin.len_, hty', run_underlying hu, goInt]⟩⟩
            · rename_i hu
              exact .inr ⟨_, _, h, fun _ G ρ a w m _ => ⟨_, rfl, by simp [execOp, ho, resolve, hc, invoke, builtin, ha m rfl, Builtin.len_, hty', run_underlying hu, goInt]⟩⟩
            · exact .inl h
          · exact .inl h
        · split at h
          · rename_i hl
            have hl' : bi = .cap := by cases bi <;> simp [isCap] at hl <;> rfl
            subst hl'
            rcases evs_sound h with h | ⟨ss, h, e⟩
            · exact .inl h
            unfold qCap at h
            split at h
            · rename_i t hty
              have hty' : c.argTypes = #[t] := by apply Array.ext'; simpa using hty
              have ha : ∀ {G : Gl} {ρ : List Nat} {a : Act} {u : Value}, Tm G st ρ a → ss = [.v u] → c.args.map a.eval = #[u] := by
                intro G ρ a u m hs
                have := e G ρ a m
                rw [hs] at this
                have h4 : denL ρ [.v u] = some [u] := rfl
                rw [h4] at this
                injection this with this
                apply Array.ext'
                simpa using this.symm
              split at h
              · rename_i hu
                exact .inr ⟨_, _, h, fun _ G ρ a w m _ => ⟨_, rfl, by simp [execOp, ho, resolve, hc, invoke, builtin, ha m rfl, Builtin.cap_, hty', run_underlying hu, goInt]⟩⟩
              · exact .inl h
            · exact .inl h
          · exact qPure_sound h
    · exact .inl h
  case h_12 t parts ho => exact qBuild_sound ho h
  case h_13 t x ix ho => exact qIdx_sound ho h
  case h_14 t x lo hi mx ho => exact qSub_sound ho h
  case h_15 t x ho => exact qMk_sound ho h
  case h_16 x t' t ok ho => exact qTA_sound ho h
  case h_17 => exact qPure_sound h
end Sy
end Go.Proofs.YteplckkoiffnnaaGreatDoor
