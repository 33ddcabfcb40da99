/-
  Texts of the proofs, one behind the other: SyBox, SyMem, SyPart, SySub, SyDefer, SyTree, SyPick.
-/
import Derived.Test.YtkichbggmgppmaaDoorPartS
import Derived.Deep.RegionHeld
import Derived.Laws.StructEq
import Derived.ChangeKeysEq
import Derived.Defers
import Derived.Recover
import Derived.WalkSmall
/-
  Symbolic runs: a region that draws its order, reads, and at its end makes a variable of what it has read.
-/
namespace Go.Proofs.YtkichbggmgppmaaDoor
open Go.RowKit
namespace Sy
set_option linter.unusedVariables false
set_option linter.unusedSimpArgs false

/-- an operation that leaves the world alone -/
def opS (G : Gl) (o : Oper) (st : St) (K : St → Prop) : Prop :=
  match o.op with
  | .load t x => ev st x False fun vx => match vx with
    | .v (.pointer (some ad)) => stp st fun st => LoadAt G t ad st fun r => putK G st o.dst r none K
    | _ => q1 G.P G.tr st o False fun r q => putK G st o.dst r q K
  | _ => q1 G.P G.tr st o False fun r q => putK G st o.dst r q K
def Still1 (G : Gl) (o : Oper) (st : St) (K : St → Prop) : Prop :=
  st.c ∧ ∀ ρ a w0, Tm G st ρ a → Mem G st ρ w0 → ∃ v st', K st' ∧ SameM st st' ∧ (∀ w, Mem G st ρ w → (execOp a.eval o).run G.P w = .ok (.value v) w) ∧ Tm G st' ρ (a.put o.dst v)
theorem still_q1 {G : Gl} {o : Oper} {st : St} {K : St → Prop} (hK : Good K) (h : q1 G.P G.tr st o False fun r q => putK G st o.dst r q K) : Still1 G o st K := by
  rcases q1_sound h with h | ⟨x, q, h, hy⟩
  · exact h.elim
  · obtain ⟨⟨hc, hq⟩, hp⟩ := putK_same h hK
    refine ⟨hc, fun ρ a w0 m mm0 => ?_⟩
    have hy := hy hq
    obtain ⟨v, e1, e2⟩ := hy G ρ a w0 m mm0.ob
    obtain ⟨st', k, hs, m'⟩ := hp ρ a v e1 m
    refine ⟨v, st', k, hs, fun w' mm' => ?_, m'⟩
    obtain ⟨v', e3, e4⟩ := hy G ρ a w' m mm'.ob
    rw [e1] at e3
    injection e3 with e3
    subst e3
    exact e4
theorem opS_sound {G : Gl} {o : Oper} {st : St} {K : St → Prop} (h : opS G o st K) (hK : Good K) : Still1 G o st K := by
  unfold opS at h
  split at h
  case h_1 t x ho =>
    rcases ev_sound h with h | ⟨sx, h, ex⟩
    · exact h.elim
    split at h
    · rename_i ad
      obtain ⟨hc, ⟨r, hr, h⟩⟩ := stp_iff.1 h
      refine ⟨hc, fun ρ a w0 m mm0 => ?_⟩
      obtain ⟨_, hp⟩ := putK_same h hK
      obtain ⟨st', k, hs, m'⟩ := hp ρ a r rfl (m.same rfl)
      refine ⟨r, st', k, hs, fun w mm => ?_, m'⟩
      have h1 := ex G ρ a m
      simp only [SV.den, Option.some.injEq] at h1
      simp [execOp, ho, ← h1, hr ρ w (mm.same rfl rfl rfl)]
    · exact still_q1 hK h
  case h_2 => exact still_q1 hK h

/-- the operations that are left when the first k are through -/
def restB (ops : Array Oper) : Nat → Nat → Array Bool → Bool
  | 0, k, ls => decide (Region.ready .any ops ls = [k]) && (decide (Region.ready .any ops (ls.setIfInBounds k true) = [k + 1]) && decide (Region.ready .any ops ((ls.setIfInBounds k true).setIfInBounds (k + 1) true) = []))
  | f + 1, k, ls => (Region.ready .any ops ls).contains k && (Region.free .any ops ls k && restB ops f (k + 1) (ls.setIfInBounds k true))
def boxB (l : List Oper) (n : Nat) : Bool := Region.noSelect l.toArray && (decide (l.length = n + 2) && restB l.toArray n 0 (Array.replicate l.toArray.size false))

def chk (cs : List SV) (size : Nat) (A : Prop) : Prop := match Nat.beq cs.length size with
  | true => match oneL cs with
    | true => A
    | false => False
  | false => False
theorem chk_sound {cs : List SV} {size : Nat} {A : Prop} (h : chk cs size A) : cs.length = size ∧ oneL cs = true ∧ A := by
  unfold chk at h
  split at h
  · rename_i e
    split at h
    · rename_i e'; exact ⟨beq_of e, e', h⟩
    · exact h.elim
  · exact h.elim
/-- the variable is made, and takes its value -/
def mkBox (G : Gl) (d : Nat) (t : TypeId) (y : Operand) (size : Nat) (st : St) (K : St → Prop) : Prop := ev st y False fun vy => cellsK vy fun cs => chk cs size (newO G (some d) t cs st K)
theorem mkBox_sound {G : Gl} {d : Nat} {t : TypeId} {y : Operand} {size : Nat} {st : St} {K : St → Prop} (h : mkBox G d t y size st K) : ∃ (vy : SV) (cs : List SV), (∀ G ρ a, Tm G st ρ a → vy.den ρ = some (a.eval y)) ∧ (∀ ρ v, vy.den ρ = some v → denL ρ cs = some v.cells.toList) ∧ cs.length = size ∧ oneL cs = true ∧ newO G (some d) t cs st K := by
  rcases ev_sound h with h | ⟨s, h, e⟩
  · exact h.elim
  obtain ⟨cs, h, hd⟩ := cellsK_sound h
  obtain ⟨h1, h2, h3⟩ := chk_sound h
  exact ⟨s, cs, e, hd, h1, h2, h3⟩

theorem held_ops {G : Gl} {all : List Oper} {ρ : List Nat} {S : World → Prop} {Q : Exit → Act → World → Prop} {F : St → Prop} (hsel : Region.noSelect all.toArray = true) (hF : Good F) (hQ : ∀ o ∈ all, ∀ v c a w, Q (.panic c) (Act.put a o.dst v) w → Q (.panic c) a w) :
    ∀ (l : List Oper) (k : Nat) (ls : Array Bool) (st : St) (a : Act) (w : World), (∀ j, j < l.length → l[j]? = all[k + j]?) → (∀ w, S w → Mem G st ρ w) → S w → restB all.toArray l.length k ls = true → opsG (opS G) G all l st F → Tm G st ρ a →
      (∀ st' a' ls', SameM st st' → F st' → Tm G st' ρ a' → restB all.toArray 0 (k + l.length) ls' = true → wpAnyH G.P .any all.toArray Q S 2 ls' a' w) → wpAnyH G.P .any all.toArray Q S (l.length + 2) ls a w := by
  intro l
  induction l with
  | nil =>
    intro k ls st a w _ _ _ hB h m fin
    simp only [List.length_nil, Nat.zero_add]
    exact fin st a ls ⟨rfl, rfl, rfl⟩ h m (by simpa using hB)
  | cons o l ih =>
    intro k ls st a w hl hS hw hB h m fin
    have h0 : all.toArray[k]? = some o := by simpa using (hl 0 (by simp)).symm
    simp only [List.length_cons, restB, Bool.and_eq_true] at hB
    obtain ⟨hr, hf, hB'⟩ := hB
    have good : ∀ l, Good (fun st => opsG (opS G) G all l st F) := by
      intro l
      induction l with
      | nil => exact hF
      | cons o l ihg =>
        intro st h
        unfold opsG at h
        split at h
        · exact (opS_sound h ihg).1
        · rename_i j want hg
          split at h
          · split at h
            · split at h
              · split at h
                · exact (opS_sound h ihg).1
                · exact (putK_same h ihg).1.1
              · rename_i b hx
                by_cases hb : b = want
                · exact (opS_sound (h.1 hb) ihg).1
                · exact (putK_same (h.2 (by cases b <;> cases want <;> simp_all)) ihg).1.1
              · exact (putK_same h ihg).1.1
              · exact h.elim
            · exact h.elim
          · exact h.elim
    have step : ∀ (st1 st' : St) (a1 : Act) (v : Value), SameM st st1 → SameM st1 st' → opsG (opS G) G all l st' F → Tm G st' ρ (a1.put o.dst v) → a1 = a → YieldsIf G.P all.toArray S o v a → wpAnyH G.P .any all.toArray Q S ((o :: l).length + 2) ls a w := by
      rintro st1 st' a1 v s1 s2 k' m' rfl hy
      have s3 : SameM st st' := ⟨s2.1.trans s1.1, s2.2.1.trans s1.2.1, s2.2.2.trans s1.2.2⟩
      have : (o :: l).length + 2 = (l.length + 2) + 1 := by simp only [List.length_cons]
      rw [this]
      refine wpAnyH_take h0 hsel hf hr (fun c a w => hQ _ (List.mem_of_getElem? (by simpa using h0)) _ c a w) hy hw ?_
      refine ih (k + 1) _ st' _ w (fun j hj => ?_) (fun w hw => s3.mem.2 (hS w hw)) hw hB' k' m' ?_
      · have := hl (j + 1) (by simp; omega)
        simpa [Nat.add_assoc, Nat.add_comm 1 j] using this
      · intro st2 a2 ls2 s4 f2 m2 hb2
        refine fin st2 a2 ls2 ⟨s4.1.trans s3.1, s4.2.1.trans s3.2.1, s4.2.2.trans s3.2.2⟩ f2 m2 ?_
        have : k + (o :: l).length = k + 1 + l.length := by simp only [List.length_cons]; omega
        rw [this]; exact hb2
    have yes : ∀ st1 : St, SameM st st1 → Tm G st1 ρ a → (opS G o st1 fun st => opsG (opS G) G all l st F) → Region.wanted o (yielded all.toArray a.tmps) = true → wpAnyH G.P .any all.toArray Q S ((o :: l).length + 2) ls a w := by
      intro st1 s1 m1 h hwt
      obtain ⟨_, hq⟩ := opS_sound h (good l)
      obtain ⟨v, st', k', s2, hr', m'⟩ := hq ρ a w m1 (s1.mem.2 (hS w hw))
      exact step st1 st' a v s1 s2 k' m' rfl (.inl ⟨hwt, fun w hw => hr' w (s1.mem.2 (hS w hw))⟩)
    have no : ∀ st1 : St, SameM st st1 → Tm G st1 ρ a → (putK G st1 o.dst (.v undef) none fun st => opsG (opS G) G all l st F) → Region.wanted o (yielded all.toArray a.tmps) = false → wpAnyH G.P .any all.toArray Q S ((o :: l).length + 2) ls a w := by
      intro st1 s1 m1 h hwt
      obtain ⟨_, hp⟩ := putK_same h (good l)
      obtain ⟨st', k', s2, m'⟩ := hp ρ a undef rfl m1
      exact step st1 st' a undef s1 s2 k' m' rfl (.inr ⟨hwt, rfl⟩)
    unfold opsG at h
    split at h
    · rename_i hg
      exact yes st ⟨rfl, rfl, rfl⟩ m h (wanted_none hg _)
    · rename_i j want hg
      split at h
      · rename_i oj hj
        split at h
        · rename_i t ht
          split at h
          · rename_i b hx
            split at h
            · rename_i hb
              exact yes st ⟨rfl, rfl, rfl⟩ m h (by rw [wanted_eq hg hj ht hx rfl m, hb])
            · rename_i hb
              exact no st ⟨rfl, rfl, rfl⟩ m h (by rw [wanted_eq hg hj ht hx rfl m, hb])
          · rename_i b hx
            by_cases hb : b = want
            · subst hb
              exact yes (seen st t b) ⟨rfl, rfl, rfl⟩ (seen_tm m hx) (h.1 rfl) (by rw [wanted_eq hg hj ht hx rfl m]; simp)
            · have hb' : b = !want := by cases b <;> cases want <;> simp_all
              subst hb'
              exact no (seen st t (!want)) ⟨rfl, rfl, rfl⟩ (seen_tm m hx) (h.2 rfl) (by rw [wanted_eq hg hj ht hx rfl m]; simp)
          · rename_i hx
            exact no st ⟨rfl, rfl, rfl⟩ m h (wanted_undef hg hj ht hx m)
          · exact h.elim
        · exact h.elim
      · exact h.elim

theorem RegAt.box {G : Gl} {id : Nat} {l : List Oper} {st : St} {K : St → Prop} (n d : Nat) (t : TypeId) (y : Operand) {i : TypeInfo} {z : Value} {oa os : Oper} (hm : G.P.follows .mixedOrders = true) (hB : boxB l n = true) (ha : l[n]? = some oa) (hs : l[n + 1]? = some os)
    (ho1 : oa.op = .alloc t) (ho2 : oa.dst = some d) (ho3 : oa.guard = none) (hs1 : os.op = .store t (.tmp d) y) (hs2 : os.dst = none) (hs3 : os.guard = none) (hi : G.P.info? t = some i) (hz : i.zero = some z) (hzs : z.cells.size = i.size) (hyd : ∀ s, y = .tmp s → Nat.beq s d = false)
    (h : opsG (opS G) G l (l.take n) st fun st => mkBox G d t y i.size st fun st => stp st K) (hax : axFree G.AX l = true := by rfl) : RegAt G id l.toArray st K := by
  refine .mk fun ρ a w m mm => ?_
  simp only [boxB, Bool.and_eq_true, decide_eq_true_eq] at hB
  obtain ⟨hsel, hlen, hrest⟩ := hB
  have htl : (l.take n).length = n := by simp; omega
  have good : Good fun st => mkBox G d t y i.size st fun st => stp st K := by
    intro st h
    obtain ⟨_, _, _, _, _, _, h⟩ := mkBox_sound h
    exact (newO_sound h good_stp).1
  refine wp_region_held (S := fun w' => Below w.heap.size w w') hm ?_
  have hsz : l.toArray.size = (l.take n).length + 2 := by rw [htl]; simpa using hlen
  rw [hsz]
  have hw1 : Below w.heap.size w { w with drawn := w.drawn + 1 } := (Below.refl _ _).drew
  refine held_ops (ρ := ρ) (F := fun st => mkBox G d t y i.size st fun st => stp st K) hsel good (fun o ho v c a w hq => by rcases hq with ⟨hq, _⟩ | hq; cases hq; exact .inr (hq.put (axFree_spec hax o ho))) (l.take n) 0 _ st a _ (fun j hj => ?_) (fun w' hw' => mm.below hw') hw1 (by rw [htl, (show n + 2 = l.toArray.size from by rw [hsz, htl])]; exact hrest) h m ?_
  · rw [htl] at hj
    simp [hj]
  · intro st1 a1 ls s1 k m1 hb
    rw [htl, Nat.zero_add] at hb
    simp only [restB, Bool.and_eq_true, decide_eq_true_eq] at hb
    obtain ⟨b1, b2, b3⟩ := hb
    obtain ⟨vy, cs, hy1, hy2, hcl, hone, hnew⟩ := mkBox_sound k
    have ea : l.toArray[n]? = some oa := by simpa using ha
    have es : l.toArray[n + 1]? = some os := by simpa using hs
    refine wpAnyH_all b1 (by simp) fun j hj => ?_
    have hjn : n = j := (by simpa using hj : j = n).symm
    subst hjn
    unfold wpOp
    simp only [ea]
    rw [if_pos (wanted_none ho3 _)]
    left
    generalize hW : ({ w with drawn := w.drawn + 1 } : World) = W at *
    have hrun1 : (execOp a1.eval oa).run G.P W = .ok (.value (.pointer (some ⟨W.heap.size, 0, none⟩))) (W.alloc (.cells z.cells t)) := by
      simp [execOp, ho1, Instr.alloc, zeroValue, typeInfo, hi, hz, newVar, newRow, newObj]
      rfl
    unfold Oper.wp
    rw [hrun1]
    simp only [Oper.upon, ho2]
    have hW1 : Below w.heap.size w (W.alloc (.cells z.cells t)) := hw1.alloc hw1.size _
    refine ⟨hW1, wpAnyH_all b2 (by simp) fun j hj => ?_⟩
    have hjn : j = n + 1 := by simpa using hj
    subst hjn
    unfold wpOp
    simp only [es]
    rw [if_pos (wanted_none hs3 _)]
    left
    have mm1 : Mem G st1 ρ W := s1.mem.2 (mm.below hw1)
    have hlt : d < G.N := by
      obtain ⟨t', o', n', hh', c'⟩ := st1
      unfold newO at hnew
      simp only at hnew
      split at hnew
      · rename_i hi'; exact Nat.le_of_ble_eq_true hi'
      · exact hnew.elim
    have e1 : (a1.put (some d) (.pointer (some ⟨W.heap.size, 0, none⟩))).eval (.tmp d) = .pointer (some ⟨W.heap.size, 0, none⟩) := by
      simp [Act.eval, Act.put, m1.size, hlt]
    have e2 : (a1.put (some d) (.pointer (some ⟨W.heap.size, 0, none⟩))).eval y = a1.eval y := by
      refine Act.eval_put fun d' hd' hy' => ?_
      injection hd' with hd'
      subst hd'
      have := hyd _ hy'
      rw [Nat.beq_refl] at this
      cases this
    have hden := hy2 ρ _ (hy1 G ρ a1 m1)
    have hcsz : (a1.eval y).cells.size = i.size := by
      have := denL_length hden
      rw [← hcl, ← this]; simp
    have hblk : Blk (W.alloc (.cells z.cells t)) W.heap.size t z.cells := Blk.new _ _ _
    have hst := run_storeCells_at (P := G.P) W.heap.size 0 t (a1.eval y).cells.toList 0 z.cells (W.alloc (.cells z.cells t)) hblk (by simp; omega) (oneL_sound hone hden)
    have hcut : (z.cells.toList.take (0 + 0) ++ (a1.eval y).cells.toList ++ z.cells.toList.drop (0 + 0 + (a1.eval y).cells.toList.length)).toArray = (a1.eval y).cells := by
      rw [List.drop_eq_nil_of_le (by simp; omega)]
      simp
    rw [hcut] at hst
    have hrun2 : (execOp (a1.put (some d) (.pointer (some ⟨W.heap.size, 0, none⟩))).eval os).run G.P (W.alloc (.cells z.cells t)) = .ok .skip ((W.alloc (.cells z.cells t)).setRow W.heap.size (a1.eval y).cells) := by
      simp only [execOp, hs1, e1, e2, Instr.storeAt, Instr.sureAddr, storeVar, sizeOf, typeInfo, Sem.run_bind, Sem.run_pure, Result.andThen_ok]
      simp [hi, hcsz, hst]
    unfold Oper.wp
    rw [hrun2]
    simp only [Oper.upon, hs2]
    have hWa : (W.alloc (.cells z.cells t)).setRow W.heap.size (a1.eval y).cells = W.alloc (.cells (a1.eval y).cells t) := by
      simp only [World.alloc, World.setRow]
      congr 1
      apply Array.ext_getElem?
      intro q
      rw [Array.getElem?_modify]
      by_cases c : W.heap.size = q
      · subst c; simp
      · rw [if_neg c]
        simp only [Array.getElem?_push]
        rw [if_neg (fun x => c x.symm), if_neg (fun x => c x.symm)]
    rw [hWa]
    obtain ⟨_, hn⟩ := newO_sound hnew good_stp
    obtain ⟨st2, ρ2, k2, m2, mm2, _⟩ := hn ρ a1 W (a1.eval y).cells.toList hden m1 mm1
    refine ⟨hw1.alloc hw1.size _, wpAnyH_done b3 (.inl ⟨rfl, { st2 with c := True }, ρ2, (stp_iff.1 k2).2, ?_, ?_⟩) 0⟩
    · exact m2.same rfl
    · have := mm2.same (st' := { st2 with c := True }) rfl rfl rfl
      simpa using this

/-! groups: operations that only compute or read, in open order with a chain of others; behind a group comes what waits for all of it -/
inductive Stp | T (k : Nat) | H (k : Nat)
def stepsB (ops : Array Oper) (n : Nat) (F : Array Bool → Bool) : List Stp → Array Bool → Bool
  | [], ls => F ls && (Region.ready .any ops ls).all fun j => decide (n ≤ j)
  | .T k :: r, ls => decide (k < n) && ((Region.ready .any ops ls).contains k && (Region.free .any ops ls k && stepsB ops n F r (ls.setIfInBounds k true)))
  | .H k :: r, ls => decide (k < n) && (decide (Region.ready .any ops ls = [k]) && stepsB ops n F r (ls.setIfInBounds k true))
def grpsB (ops : Array Oper) : List (List Stp × Nat) → Array Bool → Bool
  | [], ls => decide (Region.ready .any ops ls = [])
  | (g, n) :: r, ls => (decide (ops.size ≤ n) || (decide (n < ops.size) && (Region.sinkB .any ops n && chainW ops n))) && (headW ops n ls && stepsB ops n (fun ls' => grpsB ops r ls') g ls)
def grpLen : List (List Stp × Nat) → Nat
  | [] => 0
  | (g, _) :: r => g.length + grpLen r
def groupsB (l : List Oper) (gs : List (List Stp × Nat)) : Bool := Region.noSelect l.toArray && (decide (grpLen gs = l.length) && grpsB l.toArray gs (Array.replicate l.toArray.size false))

def HdG (P : Program) (ops : Array Oper) (Q : Exit → Act → World → Prop) (S : World → Prop) (n : Nat) (L : Array Bool → Act → World → Prop) : Nat → Array Bool → Act → World → Prop
  | 0, ls, a, w => L ls a w
  | f + 1, ls, a, w => Region.ready .any ops ls ≠ [] ∧ ∀ i, i ∈ Region.ready .any ops ls → i < n ∧ wpOp P ops Q i (fun a' w' => S w' ∧ HdG P ops Q S n L f (ls.setIfInBounds i true) a' w') a w
theorem HdG.any {P : Program} {ops : Array Oper} {Q : Exit → Act → World → Prop} {S : World → Prop} {n g : Nat} {L : Array Bool → Act → World → Prop} (hL : ∀ ls a w, L ls a w → wpAny P .any ops Q g ls a w) :
    ∀ (f : Nat) (ls : Array Bool) (a : Act) (w : World), HdG P ops Q S n L f ls a w → wpAny P .any ops Q (f + g) ls a w
  | 0, ls, a, w, h => by rw [Nat.zero_add]; exact hL ls a w h
  | f + 1, ls, a, w, h => by
    rw [show f + 1 + g = (f + g) + 1 by omega]
    exact ⟨fun h0 => absurd h0 h.1, fun i hi => wpOp_mono (fun a' w' h' => HdG.any hL f _ a' w' h'.2) (h.2 i hi).2⟩
def wallB (ops : Array Oper) (n : Nat) : Prop := ops.size ≤ n ∨ (n < ops.size ∧ Region.sinkB .any ops n = true ∧ chainW ops n = true)
theorem wall_lt {ops : Array Oper} {n : Nat} (hn : wallB ops n) {ls : Array Bool} (inv : HeadInv .any ops n ls) {i : Nat} (hin : i < n) (hun : ls.getD i true = false) {j : Nat} (hj : j ∈ Region.ready .any ops ls) : j < n := by
  rcases hn with h | ⟨h1, h2, h3⟩
  · obtain ⟨_, oj, hoj, _⟩ := mem_ready.1 hj
    have := (Array.getElem?_eq_some_iff.1 hoj).1
    omega
  · exact Nat.lt_of_not_le fun c => tail_waitsW h2 h3 h1 inv _ i rfl hin hun j c hj
theorem HdG.take {P : Program} {ops : Array Oper} {Q : Exit → Act → World → Prop} {S : World → Prop} {n i : Nat} {oi : Oper} {v : Value} {L : Array Bool → Act → World → Prop} (hi : ops[i]? = some oi) (hsel : Region.noSelect ops = true) (hn : wallB ops n) (hin : i < n)
    (hQ : ∀ c a w, Q (.panic c) (a.put oi.dst v) w → Q (.panic c) a w) (hdone : ∀ ls a w, L ls a w → ∀ j ∈ Region.ready .any ops ls, n ≤ j) :
    ∀ (f : Nat) (ls : Array Bool) (a : Act) (w : World), HeadInv .any ops n ls →
      (∀ j oj, ops[j]? = some oj → j ≠ i → ls.getD j true = false → (∀ e ∈ oj.after, Region.binds .any e = true → e.on ≠ i) → oi.apart ops oj = true) →
      i ∈ Region.ready .any ops ls → YieldsIf P ops S oi v a → S w → HdG P ops Q S n L f (ls.setIfInBounds i true) (a.put oi.dst v) w → HdG P ops Q S n L (f + 1) ls a w := by
  have sel := Region.noSelect_spec hsel
  intro f
  induction f with
  | zero =>
    intro ls a w inv _ hr hy hS H
    have hun := (mem_ready.1 hr).1
    refine ⟨List.ne_nil_of_mem hr, fun j hj => ?_⟩
    have hjn := wall_lt hn inv hin hun hj
    refine ⟨hjn, ?_⟩
    by_cases hji : j = i
    · subst hji; exact hy.wpOp hi hS ⟨hS, H⟩
    · have := hdone _ _ _ H j (ready_mono hj hji)
      omega
  | succ f ih =>
    intro ls a w inv hfree hr hy hS H
    have hun := (mem_ready.1 hr).1
    refine ⟨List.ne_nil_of_mem hr, fun j hj => ?_⟩
    have hjn := wall_lt hn inv hin hun hj
    refine ⟨hjn, ?_⟩
    by_cases hji : j = i
    · subst hji; exact hy.wpOp hi hS ⟨hS, H⟩
    · have h1 := (H.2 j (ready_mono hj hji)).2
      obtain ⟨hjun, oj, hoj, hall⟩ := mem_ready.1 hj
      have hnot : ∀ e ∈ oj.after, Region.binds .any e = true → e.on ≠ i := by
        intro e he hb heq
        have h3 := hall e he hb
        rw [heq, getD_both hun] at h3
        cases h3
      have h2 := wpOp_putIf hoj (hfree j oj hoj hji hjun hnot) (fun cs b => sel i oi cs b hi) (fun cs b => sel j oj cs b hoj) hQ hy h1
      refine wpOp_mono (fun a' w' h3 => ⟨h3.2.1, ih (ls.setIfInBounds j true) a' w' (inv.set hj hjn) ?_ (ready_mono hr (Ne.symm hji)) h3.1 h3.2.1 ?_⟩) h2
      · intro k ok hk hki hunk hno
        refine hfree k ok hk hki ?_ hno
        by_cases hjk : j = k
        · subst hjk; exact hjun
        · rw [getD_set_ne true hjk] at hunk; exact hunk
      · rw [Array.setIfInBounds_comm _ _ hji]
        exact h3.2.2

/-- as opS; what is read stands in the memory at the group's start -/
def opT (G : Gl) (hs : List HP) (o : Oper) (st : St) (K : St → Prop) : Prop :=
  match o.op with
  | .load t x => ev st x False fun vx => match vx with
    | .v (.pointer (some ad)) => stp st fun st => LoadAt G t ad { st with h := hs } fun r => putK G st o.dst r none K
    | _ => q1 G.P G.tr st o False fun r q => putK G st o.dst r q K
  | _ => q1 G.P G.tr st o False fun r q => putK G st o.dst r q K
def TakeT (G : Gl) (hs : List HP) (o : Oper) (st : St) (K : St → Prop) : Prop :=
  st.c ∧ ∀ ρ a w0, Tm G st ρ a → Mem G { st with h := hs } ρ w0 → ∃ v st', K st' ∧ SameM st st' ∧ (∀ w, Mem G { st with h := hs } ρ w → (execOp a.eval o).run G.P w = .ok (.value v) w) ∧ Tm G st' ρ (a.put o.dst v)
theorem take_q1 {G : Gl} {hs : List HP} {o : Oper} {st : St} {K : St → Prop} (hK : Good K) (h : q1 G.P G.tr st o False fun r q => putK G st o.dst r q K) : TakeT G hs o st K := by
  rcases q1_sound h with h | ⟨x, q, h, hy⟩
  · exact h.elim
  · obtain ⟨⟨hc, hq⟩, hp⟩ := putK_same h hK
    refine ⟨hc, fun ρ a w0 m mm0 => ?_⟩
    have hy := hy hq
    obtain ⟨v, e1, e2⟩ := hy G ρ a w0 m mm0.ob
    obtain ⟨st', k, hs, m'⟩ := hp ρ a v e1 m
    refine ⟨v, st', k, hs, fun w' mm' => ?_, m'⟩
    obtain ⟨v', e3, e4⟩ := hy G ρ a w' m mm'.ob
    rw [e1] at e3
    injection e3 with e3
    subst e3
    exact e4
theorem opT_sound {G : Gl} {hs : List HP} {o : Oper} {st : St} {K : St → Prop} (h : opT G hs o st K) (hK : Good K) : TakeT G hs o st K := by
  unfold opT at h
  split at h
  case h_1 t x ho =>
    rcases ev_sound h with h | ⟨sx, h, ex⟩
    · exact h.elim
    split at h
    · rename_i ad
      obtain ⟨hc, ⟨r, hr, h⟩⟩ := stp_iff.1 h
      refine ⟨hc, fun ρ a w0 m mm0 => ?_⟩
      obtain ⟨_, hp⟩ := putK_same h hK
      obtain ⟨st', k, hs, m'⟩ := hp ρ a r rfl (m.same rfl)
      refine ⟨r, st', k, hs, fun w mm => ?_, m'⟩
      have h1 := ex G ρ a m
      simp only [SV.den, Option.some.injEq] at h1
      simp [execOp, ho, ← h1, hr ρ w (mm.same rfl rfl rfl)]
    · exact take_q1 hK h
  case h_2 => exact take_q1 hK h

/-- what a group leaves as it was -/
def Kept (G : Gl) (st0 st : St) : Prop := (st.o = st0.o ∧ st.n = st0.n) ∧ ∀ h, sepL st.h G.R h → ∃ h', (∀ i o, h' i = some o → h i = some o) ∧ sepL st0.h G.R h'
def grpG (G : Gl) (all : List Oper) (kp : Bool) (st0 : St) : List Stp → St → (St → Prop) → Prop
  | [], st, K => K st
  | .T k :: r, st, K => match kp with
    | true => match all[k]? with
      | some o => opsG (opT G st0.h) G all [o] st fun st => grpG G all kp st0 r st K
      | none => False
    | false => False
  | .H k :: r, st, K => match all[k]? with
    | some o => opsG (op1 G) G all [o] st fun st => match kp with
        | true => stp st fun st => Kept G st0 st ∧ grpG G all kp st0 r st K
        | false => grpG G all kp st0 r st K
    | none => False
def hasT : List Stp → Bool
  | [] => false
  | .T _ :: _ => true
  | .H _ :: r => hasT r
def grpsG (G : Gl) (all : List Oper) : List (List Stp × Nat) → St → (St → Prop) → Prop
  | [], st, K => stp st K
  | (g, _) :: r, st, K => grpG G all (hasT g) st g st fun st => grpsG G all r st K

theorem optT_good {G : Gl} {hs : List HP} {all : List Oper} {o : Oper} {F : St → Prop} (hF : Good F) : Good fun st => opsG (opT G hs) G all [o] st F := by
  intro st h
  unfold opsG at h
  have e : ∀ st, opsG (opT G hs) G all [] st F = F st := fun st => rfl
  simp only [e] at h
  split at h
  · exact (opT_sound h hF).1
  · rename_i j want hg
    split at h
    · split at h
      · split at h
        · split at h
          · exact (opT_sound h hF).1
          · exact (putK_same h hF).1.1
        · rename_i b hx
          by_cases hb : b = want
          · exact (opT_sound (h.1 hb) hF).1
          · exact (putK_same (h.2 (by cases b <;> cases want <;> simp_all)) hF).1.1
        · exact (putK_same h hF).1.1
        · exact h.elim
      · exact h.elim
    · exact h.elim
theorem takeG {G : Gl} {hs : List HP} {all : List Oper} {o : Oper} {st : St} {F : St → Prop} (h : opsG (opT G hs) G all [o] st F) (hF : Good F) {ρ : List Nat} {a : Act} {w0 : World} (m : Tm G st ρ a) (mm : Mem G { st with h := hs } ρ w0) :
    ∃ v st', F st' ∧ SameM st st' ∧ Tm G st' ρ (a.put o.dst v) ∧ YieldsIf G.P all.toArray (Mem G { st with h := hs } ρ) o v a := by
  unfold opsG at h
  have e : ∀ st, opsG (opT G hs) G all [] st F = F st := fun st => rfl
  simp only [e] at h
  have yes : ∀ st1 : St, SameM st st1 → Tm G st1 ρ a → opT G hs o st1 F → Region.wanted o (yielded all.toArray a.tmps) = true → ∃ v st', F st' ∧ SameM st st' ∧ Tm G st' ρ (a.put o.dst v) ∧ YieldsIf G.P all.toArray (Mem G { st with h := hs } ρ) o v a := by
    intro st1 s1 m1 h hwt
    obtain ⟨_, hq⟩ := opT_sound h hF
    have sx : SameM { st with h := hs } { st1 with h := hs } := ⟨s1.1, s1.2.1, rfl⟩
    obtain ⟨v, st', k', s2, hr', m'⟩ := hq ρ a w0 m1 (sx.mem.2 mm)
    exact ⟨v, st', k', ⟨s2.1.trans s1.1, s2.2.1.trans s1.2.1, s2.2.2.trans s1.2.2⟩, m', .inl ⟨hwt, fun w hw => hr' w (sx.mem.2 hw)⟩⟩
  have no : ∀ st1 : St, SameM st st1 → Tm G st1 ρ a → putK G st1 o.dst (.v undef) none F → Region.wanted o (yielded all.toArray a.tmps) = false → ∃ v st', F st' ∧ SameM st st' ∧ Tm G st' ρ (a.put o.dst v) ∧ YieldsIf G.P all.toArray (Mem G { st with h := hs } ρ) o v a := by
    intro st1 s1 m1 h hwt
    obtain ⟨_, hp⟩ := putK_same h hF
    obtain ⟨st', k', s2, m'⟩ := hp ρ a undef rfl m1
    exact ⟨undef, st', k', ⟨s2.1.trans s1.1, s2.2.1.trans s1.2.1, s2.2.2.trans s1.2.2⟩, m', .inr ⟨hwt, rfl⟩⟩
  split at h
  · rename_i hg
    exact yes st ⟨rfl, rfl, rfl⟩ m h (wanted_none hg _)
  · rename_i j want hg
    split at h
    · rename_i oj hj
      split at h
      · rename_i t ht
        split at h
        · rename_i b hx
          split at h
          · rename_i hb
            exact yes st ⟨rfl, rfl, rfl⟩ m h (by rw [wanted_eq hg hj ht hx rfl m, hb])
          · rename_i hb
            exact no st ⟨rfl, rfl, rfl⟩ m h (by rw [wanted_eq hg hj ht hx rfl m, hb])
        · rename_i b hx
          by_cases hb : b = want
          · subst hb
            exact yes (seen st t b) ⟨rfl, rfl, rfl⟩ (seen_tm m hx) (h.1 rfl) (by rw [wanted_eq hg hj ht hx rfl m]; simp)
          · have hb' : b = !want := by cases b <;> cases want <;> simp_all
            subst hb'
            exact no (seen st t (!want)) ⟨rfl, rfl, rfl⟩ (seen_tm m hx) (h.2 rfl) (by rw [wanted_eq hg hj ht hx rfl m]; simp)
        · rename_i hx
          exact no st ⟨rfl, rfl, rfl⟩ m h (wanted_undef hg hj ht hx m)
        · exact h.elim
      · exact h.elim
    · exact h.elim

theorem opG_good {G : Gl} {all : List Oper} {o : Oper} {F : St → Prop} {st : St} (h : opsG (op1 G) G all [o] st F) (hF : Good F) : st.c := (ops_sound (fun h hK => op1_sound h hK) h hF).1
/-- an operation, guarded or not -/
theorem guarded_op {G : Gl} {all : List Oper} {o : Oper} {st : St} {F : St → Prop} (h : opsG (op1 G) G all [o] st F) (hF : Good F) {Q : Exit → Act → World → Prop} (hx : ∀ e a w, PXE G e a w → Q e a w) {k : Nat} (ho2 : all.toArray[k]? = some o) {ρ : List Nat} {a : Act} {w : World} (m : Tm G st ρ a) (mm : Mem G st ρ w) :
    wpOp G.P all.toArray Q k (fun a' w' => ∃ st' ρ', F st' ∧ Tm G st' ρ' a' ∧ Mem G st' ρ' w' ∧ Ext ρ ρ') a w := by
  unfold opsG at h
  have e : ∀ st, opsG (op1 G) G all [] st F = F st := fun st => rfl
  simp only [e] at h
  have yes : ∀ st1 : St, SameM st st1 → Tm G st1 ρ a → op1 G o st1 F → Region.wanted o (yielded all.toArray a.tmps) = true → wpOp G.P all.toArray Q k (fun a' w' => ∃ st' ρ', F st' ∧ Tm G st' ρ' a' ∧ Mem G st' ρ' w' ∧ Ext ρ ρ') a w := by
    intro st1 s1 m1 h hwt
    unfold wpOp
    simp only [ho2]
    rw [if_pos hwt]
    exact .inl ((op1_soundX h hF).2 ρ a w Q hx m1 (s1.mem.2 mm))
  have no : ∀ st1 : St, SameM st st1 → Tm G st1 ρ a → putK G st1 o.dst (.v undef) none F → Region.wanted o (yielded all.toArray a.tmps) = false → wpOp G.P all.toArray Q k (fun a' w' => ∃ st' ρ', F st' ∧ Tm G st' ρ' a' ∧ Mem G st' ρ' w' ∧ Ext ρ ρ') a w := by
    intro st1 s1 m1 h hwt
    obtain ⟨_, hp⟩ := putK_same h hF
    obtain ⟨st', k', s2, m'⟩ := hp ρ a undef rfl m1
    unfold wpOp
    simp only [ho2]
    rw [if_neg (by rw [hwt]; decide)]
    exact ⟨st', ρ, k', m', s2.mem.2 (s1.mem.2 mm), Ext.refl _⟩
  split at h
  · rename_i hg
    exact yes st ⟨rfl, rfl, rfl⟩ m h (wanted_none hg _)
  · rename_i j want hg
    split at h
    · rename_i oj hj
      split at h
      · rename_i t ht
        split at h
        · rename_i b hx'
          split at h
          · rename_i hb
            exact yes st ⟨rfl, rfl, rfl⟩ m h (by rw [wanted_eq hg hj ht hx' rfl m, hb])
          · rename_i hb
            exact no st ⟨rfl, rfl, rfl⟩ m h (by rw [wanted_eq hg hj ht hx' rfl m, hb])
        · rename_i b hx'
          by_cases hb : b = want
          · subst hb
            exact yes (seen st t b) ⟨rfl, rfl, rfl⟩ (seen_tm m hx') (h.1 rfl) (by rw [wanted_eq hg hj ht hx' rfl m]; simp)
          · have hb' : b = !want := by cases b <;> cases want <;> simp_all
            subst hb'
            exact no (seen st t (!want)) ⟨rfl, rfl, rfl⟩ (seen_tm m hx') (h.2 rfl) (by rw [wanted_eq hg hj ht hx' rfl m]; simp)
        · rename_i hx'
          exact no st ⟨rfl, rfl, rfl⟩ m h (wanted_undef hg hj ht hx' m)
        · exact h.elim
      · exact h.elim
    · exact h.elim
theorem grpG_good {G : Gl} {all : List Oper} {kp : Bool} {st0 : St} {K : St → Prop} (hK : Good K) : ∀ g : List Stp, Good fun st => grpG G all kp st0 g st K
  | [] => hK
  | .T k :: r => fun st h => by
    unfold grpG at h
    split at h
    · split at h
      · exact optT_good (grpG_good hK r) _ h
      · exact h.elim
    · exact h.elim
  | .H k :: r => fun st h => by
    unfold grpG at h
    split at h
    · refine opG_good h fun st h => ?_
      split at h
      · exact (stp_iff.1 h).1
      · exact grpG_good hK r _ h
    · exact h.elim
theorem grpsG_good {G : Gl} {all : List Oper} {K : St → Prop} : ∀ gs : List (List Stp × Nat), Good fun st => grpsG G all gs st K
  | [] => good_stp
  | (g, n) :: r => fun st h => grpG_good (grpsG_good r) g _ h

theorem grp_sound {G : Gl} {all : List Oper} {Q : Exit → Act → World → Prop} {F : Array Bool → Bool} {K : St → Prop} {n : Nat} {kp : Bool} {st0 : St} {ρ0 : List Nat} (hx : ∀ e a w, PXE G e a w → Q e a w) (hsel : Region.noSelect all.toArray = true) (hQ : ∀ o ∈ all, ∀ v c a w, Q (.panic c) (Act.put a o.dst v) w → Q (.panic c) a w) (hn : wallB all.toArray n) (hK : Good K) :
    ∀ (g : List Stp) (ls : Array Bool) (st : St) (ρ : List Nat) (a : Act) (w : World), HeadInv .any all.toArray n ls → stepsB all.toArray n F g ls = true → grpG G all kp st0 g st K → Tm G st ρ a → Mem G st ρ w → (kp = true → ρ = ρ0 ∧ st.o = st0.o ∧ st.n = st0.n ∧ Mem G st0 ρ0 w) →
      HdG G.P all.toArray Q (fun w => kp = true → Mem G st0 ρ0 w) n (fun ls a w => (F ls = true ∧ (Region.ready .any all.toArray ls).all (fun j => decide (n ≤ j)) = true) ∧ ∃ st ρ, K st ∧ Tm G st ρ a ∧ Mem G st ρ w) g.length ls a w
  | [], ls, st, ρ, a, w, inv, hB, h, m, mm, hk => by
    simp only [stepsB, Bool.and_eq_true] at hB
    exact ⟨hB, st, ρ, h, m, mm⟩
  | .T k :: r, ls, st, ρ, a, w, inv, hB, h, m, mm, hk => by
    simp only [stepsB, Bool.and_eq_true, decide_eq_true_eq] at hB
    obtain ⟨hkn, hr, hf, hB⟩ := hB
    unfold grpG at h
    split at h
    · rename_i hkp
      obtain ⟨rfl, ho, hnn, mm0⟩ := hk rfl
      split at h
      · rename_i o ho'
        have ho2 : all.toArray[k]? = some o := by simpa using ho'
        have hr' : k ∈ Region.ready .any all.toArray ls := by simpa using hr
        have sx : SameM st0 { st with h := st0.h } := ⟨ho, hnn, rfl⟩
        obtain ⟨v, st', k', s', m', hy⟩ := takeG h (grpG_good hK r) m (sx.mem.2 mm0)
        have hy' : YieldsIf G.P all.toArray (fun w => true = true → Mem G st0 ρ w) o v a := by
          rcases hy with ⟨h1, h2⟩ | h
          · exact .inl ⟨h1, fun w hw => h2 w (sx.mem.2 (hw rfl))⟩
          · exact .inr h
        refine HdG.take ho2 hsel hn hkn (fun c a w => hQ _ (List.mem_of_getElem? ho') _ c a w) (fun ls a w hL j hj => ?_) r.length ls a w inv (Region.free_spec ho2 hf) hr' hy' (fun _ => mm0) ?_
        · have := List.all_eq_true.1 hL.1.2 j hj
          simpa using this
        · exact grp_sound hx hsel hQ hn hK r _ st' ρ _ w (inv.set hr' hkn) hB k' m' (s'.mem.2 mm) fun _ => ⟨rfl, s'.1.trans ho, s'.2.1.trans hnn, mm0⟩
      · exact h.elim
    · exact h.elim
  | .H k :: r, ls, st, ρ, a, w, inv, hB, h, m, mm, hk => by
    simp only [stepsB, Bool.and_eq_true, decide_eq_true_eq] at hB
    obtain ⟨hkn, hr, hB⟩ := hB
    unfold grpG at h
    split at h
    · rename_i o ho'
      have ho2 : all.toArray[k]? = some o := by simpa using ho'
      have hr' : k ∈ Region.ready .any all.toArray ls := by rw [hr]; simp
      refine ⟨List.ne_nil_of_mem hr', fun i hi => ?_⟩
      rw [hr] at hi
      have hik : i = k := by simpa using hi
      subst hik
      refine ⟨hkn, ?_⟩
      cases kp with
      | true =>
        have h : opsG (op1 G) G all [o] st fun st => stp st fun st => Kept G st0 st ∧ grpG G all true st0 r st K := h
        refine wpOp_mono (fun a' w' ⟨st', ρ', k', m', mm', ex'⟩ => ?_) (guarded_op h good_stp hx ho2 m mm)
        obtain ⟨_, hkeep, k'⟩ := stp_iff.1 k'
        obtain ⟨rfl, ho, hnn, mm0⟩ := hk rfl
        obtain ⟨⟨e1, e2⟩, e3⟩ := hkeep
        have hρ : ρ' = ρ := by
          obtain ⟨q, rfl⟩ := ex'
          have l1 := mm'.len
          have l2 := mm0.len
          simp only at e2
          have : q = [] := by
            apply List.eq_nil_of_length_eq_zero
            simp only [List.length_append] at l1
            omega
          rw [this]; simp
        subst hρ
        have mm2 : Mem G st0 ρ' w' := by
          obtain ⟨m1, m2, m3, m4, m5, m6, mk, hh, m7, m8, m9⟩ := mm'
          simp only at e1 e2
          obtain ⟨h', s1, s2⟩ := e3 hh m8
          refine ⟨m1, by rw [← e2]; exact m2, m3, m4, by rw [← e1]; exact m5, by rw [← e1]; exact m6, mk, h', m7.mono s1, s2, fun x hx b hb => ?_⟩
          have := m9 x (by rw [e1]; exact hx) b hb
          cases e' : h' b with
          | none => rfl
          | some ob => rw [s1 b ob e'] at this; cases this
        exact ⟨fun _ => mm2, grp_sound hx hsel hQ hn hK r _ _ ρ' a' w' (inv.set hr' hkn) hB k' (m'.same rfl) (mm'.same rfl rfl rfl) fun _ => ⟨rfl, e1, e2, mm2⟩⟩
      | false =>
        have h : opsG (op1 G) G all [o] st fun st => grpG G all false st0 r st K := h
        refine wpOp_mono (fun a' w' ⟨st', ρ', k', m', mm', ex'⟩ => ?_) (guarded_op h (grpG_good hK r) hx ho2 m mm)
        have key := grp_sound (kp := false) (st0 := st0) (ρ0 := ρ0) hx hsel hQ hn hK r _ st' ρ' a' w' (inv.set hr' hkn) hB k' m' mm' (fun c => by cases c)
        exact ⟨(fun c => by cases c), key⟩
    · exact h.elim

theorem grps_sound {G : Gl} {all : List Oper} {Q : Exit → Act → World → Prop} {K : St → Prop} (hx : ∀ e a w, PXE G e a w → Q e a w) (hsel : Region.noSelect all.toArray = true) (hQ : ∀ o ∈ all, ∀ v c a w, Q (.panic c) (Act.put a o.dst v) w → Q (.panic c) a w) (hend : ∀ st ρ a w, K st → Tm G st ρ a → Mem G st ρ w → Q .normal a w) :
    ∀ (gs : List (List Stp × Nat)) (ls : Array Bool) (st : St) (ρ : List Nat) (a : Act) (w : World), grpsB all.toArray gs ls = true → grpsG G all gs st K → Tm G st ρ a → Mem G st ρ w → wpAny G.P .any all.toArray Q (grpLen gs) ls a w
  | [], ls, st, ρ, a, w, hB, h, m, mm => by
    simp only [grpsB, decide_eq_true_eq] at hB
    exact ⟨hB, hend { st with c := True } ρ a w (stp_iff.1 h).2 (m.same rfl) (mm.same rfl rfl rfl)⟩
  | (g, n) :: r, ls, st, ρ, a, w, hB, h, m, mm => by
    simp only [grpsB, Bool.and_eq_true, Bool.or_eq_true, decide_eq_true_eq] at hB
    obtain ⟨hw, hh, hs⟩ := hB
    have key := grp_sound (F := fun ls' => grpsB all.toArray r ls') (kp := hasT g) (st0 := st) (ρ0 := ρ) hx hsel hQ hw (grpsG_good r) g ls st ρ a w (headW_spec hh) hs h m mm fun _ => ⟨rfl, rfl, rfl, mm⟩
    exact HdG.any (g := grpLen r) (fun ls' a' w' ⟨⟨hF, _⟩, st', ρ', k, m', mm'⟩ => grps_sound hx hsel hQ hend r ls' st' ρ' a' w' hF k m' mm') _ _ _ _ key
/-- a region that draws its order, by groups -/
theorem RegAt.groups {G : Gl} {id : Nat} {l : List Oper} {st : St} {K : St → Prop} (gs : List (List Stp × Nat)) (hm : G.P.follows .mixedOrders = true) (hB : groupsB l gs = true) (h : grpsG G l gs st K) (hax : axFree G.AX l = true := by rfl) : RegAt G id l.toArray st K := by
  simp only [groupsB, Bool.and_eq_true, decide_eq_true_eq] at hB
  obtain ⟨h1, h2, h3⟩ := hB
  refine .mk fun ρ a w m mm => ?_
  refine wp_region_any hm ?_
  have key := grps_sound (Q := fun e a' w' => (e = .normal ∧ ∃ st' ρ', K st' ∧ Tm G st' ρ' a' ∧ Mem G st' ρ' w') ∨ PXE G e a' w') (fun e a w hp => .inr hp) h1 (fun o ho v c a w hq => by rcases hq with ⟨hq, _⟩ | hq; cases hq; exact .inr (hq.put (axFree_spec hax o ho))) (fun st ρ a w k m mm => .inl ⟨rfl, st, ρ, k, m, mm⟩) gs _ st ρ a _ h3 h m mm.drew
  rw [h2] at key
  simpa using key
end Sy
end Go.Proofs.YtkichbggmgppmaaDoor

/-
  Symbolic runs: stores into parts of the heap, rows that are made, calls through an interface, loads of whole structs.
-/
namespace Go.Proofs.YtkichbggmgppmaaDoor
open Go.RowKit
namespace Sy
set_option linter.unusedVariables false
set_option linter.unusedSimpArgs false

/-- a call whose function the model finds by itself -/
theorem OpAt.enter {G : Gl} {o : Oper} {st : St} {K : St → Prop} {pre : List HP} {post : Value → List HP → Prop} (f : FuncId) (args : List Value) (rest : List HP) (hp : ∀ h, sepL st.h G.R h → sepL (pre ++ rest) G.R h) (hsel : notSel o.op = true) (hr : allR st o.op.operands.toList = true)
    (hrun : ∀ w, (execOp (evR st) o).run G.P w = .ok (.enter f args.toArray) w)
    (hf : ∀ R', (∀ w, Sat R' w → Sat (sepL rest G.R) w) → FnR G.P R' f args pre post) (k : ∀ v hs, post v hs → putK G { st with h := hs ++ rest } o.dst (.v v) none K) : OpAt G o st K := by
  refine .mk fun ρ a w m mm => ?_
  obtain ⟨h, h1, h2, h3, h4⟩ := mem_split mm
  have h2 := hp h h2
  rw [sepL_append] at h2
  have hc : execOp a.eval o = execOp (evR st) o := execOp_congr o (fun cs b => notSel_spec hsel cs b) fun x hx => allR_sound m hr x (by simpa using hx)
  unfold Oper.wp
  rw [hc, hrun]
  refine (hf (plus (obj st ρ w) (sepL rest G.R)) ?_ w ⟨_, h4.un h1, plus_in h3 h2⟩).mono ?_
  · rintro w' ⟨g, g1, ⟨g2, d, rfl, s⟩⟩
    exact ⟨g2, g1.right d, s⟩
  · rintro e w' ⟨v, hs, rfl, hv, ⟨g, g1, s⟩, hw⟩
    have mm' : Mem G { st with h := hs ++ rest } ρ w' := by
      refine mem_join mm hw g1 ?_
      have := plus_out s
      rwa [sepL_append]
    obtain ⟨st', k', m', mm2⟩ := putK_go (k v hs hv) (ρ := ρ) (v := v) rfl (m.same rfl) mm'
    exact ⟨st', ρ, k', m', mm2, Ext.refl _⟩
theorem OpAt.enterP {G : Gl} {o : Oper} {st : St} {K : St → Prop} (f : FuncId) (args : List Value) (v : Value) (hsel : notSel o.op = true) (hr : allR st o.op.operands.toList = true) (hrun : ∀ w, (execOp (evR st) o).run G.P w = .ok (.enter f args.toArray) w)
    (hf : ∀ R', (∀ w, Sat R' w → Sat (sepL st.h G.R) w) → PureR G.P R' f args v) (k : putK G st o.dst (.v v) none K) : OpAt G o st K := by
  refine OpAt.enter f args (pre := []) st.h (fun h s => s) hsel hr hrun hf ?_
  rintro r hs ⟨rfl, rfl⟩
  exact k
/-- an operation whose value the model's own text gives -/
theorem OpAt.val {G : Gl} {o : Oper} {st : St} {K : St → Prop} (v : Value) (hsel : notSel o.op = true) (hr : allR st o.op.operands.toList = true) (hrun : ∀ w, Sat (sepL st.h G.R) w → (execOp (evR st) o).run G.P w = .ok (.value v) w) (k : putK G st o.dst (.v v) none K) : OpAt G o st K := by
  refine .mk fun ρ a w m mm => ?_
  have hc : execOp a.eval o = execOp (evR st) o := execOp_congr o (fun cs b => notSel_spec hsel cs b) fun x hx => allR_sound m hr x (by simpa using hx)
  obtain ⟨st', k', m', mm2⟩ := putK_go k (ρ := ρ) (v := v) rfl m mm
  unfold Oper.wp
  rw [hc, hrun w mm.sat]
  exact ⟨st', ρ, k', m', mm2, Ext.refl _⟩
/-- a struct read whole -/
theorem LoadAt.agg {G : Gl} {st : St} {K : SV → Prop} {t : TypeId} {b off : Nat} {d : TypeDesc} (vs : List Value) (hu : G.P.underlying t = some d) (hd : d.isRow = true) (hi : (G.P.info? t).map (·.size) = some vs.length)
    (h : ∀ w, Sat (sepL st.h G.R) w → ∀ (j : Nat) (v : Value), vs[j]? = some v → w.cell? ⟨b, off + j, none⟩ = some v) (k : K (.v (.agg vs.toArray))) : LoadAt G t ⟨b, off, none⟩ st K :=
  .mk _ (fun ρ w m => run_loadAt_mid w b off t vs d (fun j v hv => h w m.sat j v hv) hu hd hi) k

/-- cells put in place of others -/
def putL (xs : List Value) (off : Nat) (ys : List Value) : List Value := xs.take off ++ ys ++ xs.drop (off + ys.length)
theorem putL_len {xs ys : List Value} {off : Nat} (h : off + ys.length ≤ xs.length) : (putL xs off ys).length = xs.length := by simp [putL]; omega
theorem putL_get {xs ys : List Value} {off : Nat} (h : off + ys.length ≤ xs.length) (k : Nat) : (putL xs off ys)[k]? = if off ≤ k ∧ k < off + ys.length then ys[k - off]? else xs[k]? := by
  unfold putL
  by_cases c : k < off
  · rw [List.append_assoc, List.getElem?_append_left (by simp; omega), List.getElem?_take_of_lt c, if_neg (by omega)]
  · by_cases c2 : k < off + ys.length
    · rw [List.append_assoc, List.getElem?_append_right (by simp; omega), List.getElem?_append_left (by simp; omega), if_pos ⟨by omega, c2⟩]
      congr 1
      simp; omega
    · rw [List.getElem?_append_right (by simp; omega), List.getElem?_drop, if_neg (by omega)]
      congr 1
      simp; omega

/-- a cell, or some, of a part of the heap written -/
theorem OpAt.store {G : Gl} {o : Oper} {st : St} {K : St → Prop} {t : TypeId} {x y : Operand} {A A' : HP} {i : TypeInfo} (b off : Nat) (v : Value) (rest : List HP) (ho : o.op = .store t x y) (hp : ∀ h, sepL st.h G.R h → sepL (A :: rest) G.R h) (hx : evR st x = .pointer (some ⟨b, off, none⟩)) (hy : evR st y = v)
    (hr : allR st o.op.operands.toList = true) (hi : G.P.info? t = some i) (hsz : v.cells.size = i.size) (h1 : ∀ u ∈ v.cells.toList, u.oneCell' = true)
    (hA : ∀ h, A h → ∃ ty cs, h b = some (.cells cs ty (0, 0)) ∧ off + v.cells.size ≤ cs.size ∧ A' fun j => if j = b then some (.cells (putL cs.toList off v.cells.toList).toArray ty (0, 0)) else h j)
    (k : putK G { st with h := A' :: rest } o.dst (.v undef) none K) : OpAt G o st K := by
  refine .mk fun ρ a w m mm => ?_
  obtain ⟨h, s1, s2, d0, s3⟩ := mem_split mm
  obtain ⟨g1, g2, d, rfl, a1, a2⟩ := hp h s2
  obtain ⟨ty, cs, hb, hoff, hA'⟩ := hA g1 a1
  have hc : execOp a.eval o = execOp (evR st) o := execOp_congr o (fun cs b => notSel_spec (by rw [ho]; rfl) cs b) fun x hx => allR_sound m hr x (by simpa using hx)
  have hwb : w.heap[b]? = some (.cells cs ty (0, 0)) := s1.left b _ hb
  have hg2 : g2 b = none := by
    rcases d b with e | e
    · rw [hb] at e; cases e
    · exact e
  have hob : obj st ρ w b = none := by
    rcases d0 b with e | e
    · exact e
    · unfold un at e; rw [hb] at e; cases e
  have hrun := run_storeCells_at (P := G.P) b off ty v.cells.toList 0 cs w hwb (by simp; omega) h1
  simp only [Nat.add_zero] at hrun
  have hrun' : (execOp (evR st) o).run G.P w = .ok .skip (w.setRow b (putL cs.toList off v.cells.toList).toArray) := by
    simp only [execOp, ho, hx, hy, Instr.storeAt, Instr.sureAddr, storeVar, sizeOf, typeInfo, Sem.run_bind, Sem.run_pure, Result.andThen_ok]
    simp [hi, hsz, hrun, putL]
  generalize hW : w.setRow b (putL cs.toList off v.cells.toList).toArray = w' at hrun'
  have hh : w'.heap[b]? = some (.cells (putL cs.toList off v.cells.toList).toArray ty (0, 0)) := by rw [← hW]; exact setRow_heap w b cs _ ty (0, 0) hwb
  have hne : ∀ j, j ≠ b → w'.heap[j]? = w.heap[j]? := fun j hj => by
    rw [← hW]
    simp only [World.setRow, Array.getElem?_modify]
    rw [if_neg (fun e => hj e.symm)]
  have hwd : Wd w w' := by
    rw [← hW]
    exact ⟨rfl, rfl, rfl, by simp [World.setRow]⟩
  have old : ∀ {g : Hl}, g b = none → Sub g w → Sub g w' := fun {g} hgb s j ob e => by
    have : j ≠ b := fun c => by subst c; rw [hgb] at e; cases e
    rw [hne j this]; exact s j ob e
  generalize hq : (fun j => if j = b then some (Obj.cells (putL cs.toList off v.cells.toList).toArray ty (0, 0)) else g1 j) = g1' at hA'
  have dom : ∀ j, g1' j = none ↔ g1 j = none := fun j => by
    rw [← hq]
    simp only
    by_cases c : j = b
    · subst c; simp [hb]
    · simp [c]
  have sub1 : Sub g1' w' := fun j ob e => by
    rw [← hq] at e
    simp only at e
    by_cases c : j = b
    · subst c; rw [if_pos rfl] at e; rw [← e]; exact hh
    · rw [if_neg c] at e; rw [hne j c]; exact s1.left j ob e
  have mm' : Mem G { st with h := A' :: rest } ρ w' := by
    refine mem_join (g := un (obj st ρ w) (un g1' g2)) mm hwd ((old hob s3).un (sub1.un (old hg2 (s1.right d)))) ⟨un g1' g2, fun j => ?_, rfl, g1', g2, fun j => ?_, rfl, hA', a2⟩
    · rcases d0 j with e | e
      · exact .inl e
      · exact .inr (un_none.2 ⟨(dom j).2 (un_none.1 e).1, (un_none.1 e).2⟩)
    · rcases d j with e | e
      · exact .inl ((dom j).2 e)
      · exact .inr e
  obtain ⟨st', k', m', mm2⟩ := putK_go k (ρ := ρ) (v := undef) rfl (m.same rfl) mm'
  unfold Oper.wp
  rw [hc, hrun']
  exact ⟨st', ρ, k', m', mm2, Ext.refl _⟩
/-- into a row -/
theorem row_put {g n cap size off : Nat} {e : TypeId} {xs ys : List Value} (h : off + ys.length ≤ n * size) {hl : Hl} (r : rowH (.slice (some ⟨g, 0, none⟩) n cap) n e size xs hl) :
    ∃ ty cs, hl g = some (.cells cs ty (0, 0)) ∧ off + ys.length ≤ cs.size ∧ rowH (.slice (some ⟨g, 0, none⟩) n cap) n e size (putL xs off ys) fun j => if j = g then some (.cells (putL cs.toList off ys).toArray ty (0, 0)) else hl j := by
  obtain ⟨hx, r⟩ := r
  rcases r with ⟨c, _⟩ | ⟨g', cap', cur, h1, h2, h3, h4, h5, h6⟩
  · cases c
  injection h1 with e1 e2 e3
  injection e1 with e1
  injection e1 with e1
  subst e1 e3
  have hcur : n * size ≤ cur.size := by rw [h5]; exact Nat.mul_le_mul_right _ h3
  refine ⟨e, cur, by rw [h2]; simp, by omega, by rw [putL_len (by omega)]; exact hx, .inr ⟨g, cap, (putL cur.toList off ys).toArray, rfl, fun j => ?_, h3, h4, ?_, ?_⟩⟩
  · by_cases c : j = g
    · subst c; simp
    · simp [c, h2]
  · simp only [List.size_toArray]
    rw [putL_len (by simp; omega)]
    simpa using h5
  · apply List.ext_getElem?
    intro k
    simp only [List.toList_toArray]
    rw [List.getElem?_take]
    by_cases c : k < n * size
    · rw [if_pos c, putL_get (by simp; omega), putL_get (by omega)]
      split
      · rfl
      · rw [← h6, List.getElem?_take_of_lt c]
    · rw [if_neg c, List.getElem?_eq_none]
      rw [putL_len (by omega)]; omega

/-- a row that is made -/
theorem OpAt.make {G : Gl} {o : Oper} {st : St} {K : St → Prop} {t e : TypeId} {x y : Operand} {i : TypeInfo} {z : Value} (n size : Nat) (zs : List Value) (ho : o.op = .makeSlice t x y) (hx : evR st x = .int .i64 (n : Int)) (hy : evR st y = .int .i64 (n : Int)) (hr : allR st o.op.operands.toList = true)
    (hu : G.P.underlying t = some (.slice e)) (hi : G.P.info? e = some i) (hz : i.zero = some z) (hsize : i.size = size) (hzs : (madeCells z.cells (n * size)).toList = zs) (hby : i.bytes * n ≤ 281474976710656) (hmax : n ≤ maxLen)
    (k : ∀ g, putK G { st with h := rowH (.slice (some ⟨g, 0, none⟩) n n) n e size zs :: st.h } o.dst (.v (.slice (some ⟨g, 0, none⟩) n n)) none K) : OpAt G o st K := by
  refine OpAt.sem (pre := []) (post := fun v hs => ∃ g, v = .slice (some ⟨g, 0, none⟩) n n ∧ hs = [rowH (.slice (some ⟨g, 0, none⟩) n n) n e size zs]) st.h (fun h s => s) (by rw [ho]; rfl) hr ?_ ?_
  · intro R' _ w s
    have hm := hmax
    simp only [maxLen] at hm
    have hrun := run_make w t e i z hu hi hz .i64 .i64 (n : Int) (n : Int) (by omega) (by omega) (by rw [← Int.natCast_mul]; omega) (by omega) (P := G.P)
    simp only [Int.toNat_natCast, hsize] at hrun
    have hlen : zs.length = n * size := by rw [← hzs]; simp [size_madeCells]
    refine ⟨_, _, w.alloc (.cells (madeCells z.cells (n * size)) e), ?_, ⟨w.heap.size, rfl, rfl⟩, ?_, .of_below ((Below.refl _ _).alloc (Nat.le_refl _) _)⟩
    · simp only [execOp, ho, hx, hy, hrun, Sem.run_bind, Result.andThen_ok, Sem.run_pure, Sem.run_map]
      try rfl
    · refine sat_row s ((Below.refl _ _).alloc (Nat.le_refl _) _) ⟨hlen, .inr ⟨_, n, madeCells z.cells (n * size), rfl, Nat.le_refl _, heap_alloc_new w _, Nat.le_refl _, hmax, size_madeCells _ _, ?_⟩⟩
      rw [hzs, List.take_of_length_le (by omega)]
  · rintro v hs ⟨g, rfl, rfl⟩
    exact k g
theorem made_const {z : Array Value} {v : Value} (h : ∀ i, i < z.size → z[i]! = v) (h0 : 0 < z.size) (n : Nat) : (madeCells z n).toList = List.replicate n v := by
  apply List.ext_getElem?
  intro k
  simp only [madeCells, Array.toList_map, Array.toList_range, List.getElem?_map]
  rw [List.getElem?_replicate]
  by_cases c : k < n
  · rw [if_pos c, List.getElem?_range c]
    simp [h _ (Nat.mod_lt _ h0)]
  · rw [if_neg c, List.getElem?_eq_none (by simp; omega)]
    rfl
/-- the world as it was -/
def was (w : World) : HP := fun g => g = fun i => w.heap[i]?
theorem was_ext {w w' : World} (s : Sat (was w) w') {i : Nat} {o : Obj} (h : w.heap[i]? = some o) : w'.heap[i]? = some o := by
  obtain ⟨g, g1, rfl⟩ := s
  exact g1 i o h
theorem was_blk {w w' : World} (s : Sat (was w) w') {b : Nat} {t : TypeId} {cs : Array Value} (h : Blk w b t cs) : Blk w' b t cs := was_ext s h
theorem sepL_shrink {A R : HP} (hA : ∀ h0, A h0 → ∃ g : Hl, (∀ i o, g i = some o → h0 i = some o) ∧ R g) : ∀ {l : List HP} {h : Hl}, sepL l A h → ∃ h' : Hl, (∀ i o, h' i = some o → h i = some o) ∧ sepL l R h'
  | [], h, s => hA h s
  | B :: l, h, s => by
    obtain ⟨h1, h2, d, rfl, b, s⟩ := s
    obtain ⟨h', e, s'⟩ := sepL_shrink hA s
    refine ⟨un h1 h', fun i o hi => ?_, h1, h', fun i => ?_, rfl, b, s'⟩
    · unfold un at hi ⊢
      rcases d i with c | c
      · rw [c] at hi ⊢; simp only [Option.none_or] at hi ⊢; exact e i o hi
      · cases hh : h' i with
        | none => rw [hh] at hi; simp only [Option.or_none] at hi; rw [hi]; rfl
        | some x => rw [e i x hh] at c; cases c
    · rcases d i with c | c
      · exact .inl c
      · right
        cases hh : h' i with
        | none => rfl
        | some x => rw [e i x hh] at c; cases c
/-- what is read may be read in one world alone -/
theorem FnR.fix {P : Program} {R : HP} {f : FuncId} {args : List Value} {post : Value → List HP → Prop} (h : ∀ w, Sat R w → FnR P (was w) f args [] post) : FnR P R f args [] post := by
  intro w hs
  refine (h w hs w ⟨_, fun i o e => e, rfl⟩).mono ?_
  rintro e w' ⟨v, hs', rfl, hv, ⟨g, g1, g2⟩, hw⟩
  obtain ⟨g0, s0, r0⟩ := hs
  obtain ⟨h', e', s'⟩ := sepL_shrink (R := R) (fun h0 hh => by
    have hh : h0 = fun i => w.heap[i]? := hh
    subst hh
    exact ⟨g0, s0, r0⟩) g2
  exact ⟨v, hs', rfl, hv, ⟨h', g1.mono e', s'⟩, hw⟩
theorem PureR.fix {P : Program} {R : HP} {f : FuncId} {args : List Value} {v : Value} (h : ∀ w, Sat R w → PureR P (was w) f args v) : PureR P R f args v := FnR.fix h
end Sy
end Go.Proofs.YtkichbggmgppmaaDoor

/-
  Symbolic runs: regions by groups that keep only what is read; parts of the heap that are made of parts.
-/
namespace Go.Proofs.YtkichbggmgppmaaDoor
open Go.RowKit
namespace Sy
set_option linter.unusedVariables false
set_option linter.unusedSimpArgs false

theorem sub_nil {R : HP} : ∀ {l : List HP} {h : Hl}, sepL l R h → ∃ h' : Hl, (∀ i o, h' i = some o → h i = some o) ∧ sepL [] R h'
  | [], h, s => ⟨h, fun _ _ e => e, s⟩
  | A :: l, h, s => by
    obtain ⟨h1, e1, s1⟩ := sub_tail s
    obtain ⟨h2, e2, s2⟩ := sub_nil s1
    exact ⟨h2, fun i o e => e1 i o (e2 i o e), s2⟩
/-- groups that keep the objects, and what is only read -/
def grpsG0 (G : Gl) (all : List Oper) : List (List Stp × Nat) → St → (St → Prop) → Prop
  | [], st, K => stp st K
  | (g, _) :: r, st, K => grpG G all (hasT g) { st with h := [] } g st fun st => grpsG0 G all r st K
theorem grpsG0_good {G : Gl} {all : List Oper} {K : St → Prop} : ∀ gs : List (List Stp × Nat), Good fun st => grpsG0 G all gs st K
  | [] => good_stp
  | (g, n) :: r => fun st h => grpG_good (grpsG0_good r) g _ h
theorem mem_nil {G : Gl} {st : St} {ρ : List Nat} {w : World} (m : Mem G st ρ w) : Mem G { st with h := [] } ρ w := by
  obtain ⟨m1, m2, m3, m4, m5, m6, mk, hh, m7, m8, m9⟩ := m
  obtain ⟨h', e, s⟩ := sub_nil m8
  refine ⟨m1, m2, m3, m4, m5, m6, mk, h', m7.mono e, s, fun x hx b hb => ?_⟩
  have := m9 x hx b hb
  cases c : h' b with
  | none => rfl
  | some o => rw [e b o c] at this; cases this
theorem grps0_sound {G : Gl} {all : List Oper} {Q : Exit → Act → World → Prop} {K : St → Prop} (hx : ∀ e a w, PXE G e a w → Q e a w) (hsel : Region.noSelect all.toArray = true) (hQ : ∀ o ∈ all, ∀ v c a w, Q (.panic c) (Act.put a o.dst v) w → Q (.panic c) a w) (hend : ∀ st ρ a w, K st → Tm G st ρ a → Mem G st ρ w → Q .normal a w) :
    ∀ (gs : List (List Stp × Nat)) (ls : Array Bool) (st : St) (ρ : List Nat) (a : Act) (w : World), grpsB all.toArray gs ls = true → grpsG0 G all gs st K → Tm G st ρ a → Mem G st ρ w → wpAny G.P .any all.toArray Q (grpLen gs) ls a w
  | [], ls, st, ρ, a, w, hB, h, m, mm => by
    simp only [grpsB, decide_eq_true_eq] at hB
    exact ⟨hB, hend { st with c := True } ρ a w (stp_iff.1 h).2 (m.same rfl) (mm.same rfl rfl rfl)⟩
  | (g, n) :: r, ls, st, ρ, a, w, hB, h, m, mm => by
    simp only [grpsB, Bool.and_eq_true, Bool.or_eq_true, decide_eq_true_eq] at hB
    obtain ⟨hw, hh, hs⟩ := hB
    have key := grp_sound (F := fun ls' => grpsB all.toArray r ls') (kp := hasT g) (st0 := { st with h := [] }) (ρ0 := ρ) hx hsel hQ hw (grpsG0_good r) g ls st ρ a w (headW_spec hh) hs h m mm fun _ => ⟨rfl, rfl, rfl, mem_nil mm⟩
    exact HdG.any (g := grpLen r) (fun ls' a' w' ⟨⟨hF, _⟩, st', ρ', k, m', mm'⟩ => grps0_sound hx hsel hQ hend r ls' st' ρ' a' w' hF k m' mm') _ _ _ _ key
theorem RegAt.groups0 {G : Gl} {id : Nat} {l : List Oper} {st : St} {K : St → Prop} (gs : List (List Stp × Nat)) (hm : G.P.follows .mixedOrders = true) (hB : groupsB l gs = true) (h : grpsG0 G l gs st K) (hax : axFree G.AX l = true := by rfl) : RegAt G id l.toArray st K := by
  simp only [groupsB, Bool.and_eq_true, decide_eq_true_eq] at hB
  obtain ⟨h1, h2, h3⟩ := hB
  refine .mk fun ρ a w m mm => ?_
  refine wp_region_any hm ?_
  have key := grps0_sound (Q := fun e a' w' => (e = .normal ∧ ∃ st' ρ', K st' ∧ Tm G st' ρ' a' ∧ Mem G st' ρ' w') ∨ PXE G e a' w') (fun e a w hp => .inr hp) h1 (fun o ho v c a w hq => by rcases hq with ⟨hq, _⟩ | hq; cases hq; exact .inr (hq.put (axFree_spec hax o ho))) (fun st ρ a w k m mm => .inl ⟨rfl, st, ρ, k, m, mm⟩) gs _ st ρ a _ h3 h m mm.drew
  rw [h2] at key
  simpa using key
/-- nothing -/
def emp : HP := fun h => ∀ i, h i = none
theorem emp_un {h g : Hl} (e : ∀ i, h i = none) : un h g = g := by funext i; simp [un, e i]
theorem sepL_emp {R : HP} : ∀ {l : List HP} {h1 h2 : Hl}, sepL l emp h1 → Dj h1 h2 → R h2 → sepL l R (un h1 h2)
  | [], h1, h2, e, _, r => by rw [emp_un e]; exact r
  | A :: l, h1, h2, s, d, r => by
    obtain ⟨a1, a2, d', rfl, a, s⟩ := s
    obtain ⟨d1, d2⟩ := d.un_left
    exact ⟨a1, un a2 h2, (Dj.un_of d'.symm d1.symm).symm, un_assoc _ _ _, a, sepL_emp s d2 r⟩
theorem emp_sepL {R : HP} : ∀ {l : List HP} {h : Hl}, sepL l R h → sep (sepL l emp) R h
  | [], h, r => ⟨fun _ => none, h, fun _ => .inl rfl, by rw [emp_un (fun _ => rfl)], fun _ => rfl, r⟩
  | A :: l, h, s => by
    obtain ⟨h1, h2, d, rfl, a, s⟩ := s
    obtain ⟨g1, g2, d2, rfl, s1, s2⟩ := emp_sepL s
    obtain ⟨d3, d4⟩ := d.symm.un_left
    exact ⟨un h1 g1, g2, Dj.un_of d4.symm d2, by rw [un_assoc], ⟨h1, g1, d3.symm, rfl, a, s1⟩, s2⟩
/-- a part that is some parts, laid out in some way -/
def boxH {α : Type} (parts : α → List HP) : HP := fun h => ∃ x, sepL (parts x) emp h
theorem boxH_open {α : Type} {parts : α → List HP} {l : List HP} {R : HP} {h : Hl} (s : sepL (boxH parts :: l) R h) : ∃ x, sepL (parts x ++ l) R h := by
  obtain ⟨h1, h2, d, rfl, ⟨x, a⟩, s⟩ := s
  refine ⟨x, ?_⟩
  rw [sepL_append]
  exact sepL_emp a d s
theorem boxH_shut {α : Type} {parts : α → List HP} (x : α) {l : List HP} {R : HP} {h : Hl} (s : sepL (parts x ++ l) R h) : sepL (boxH parts :: l) R h := by
  rw [sepL_append] at s
  obtain ⟨h1, h2, d, rfl, a, s⟩ := emp_sepL s
  exact ⟨h1, h2, d, rfl, ⟨x, a⟩, s⟩
theorem FnR.unbox {α : Type} {parts : α → List HP} {P : Program} {R : HP} {f : FuncId} {args : List Value} {l : List HP} {post : Value → List HP → Prop} (h : ∀ x, FnR P R f args (parts x ++ l) post) : FnR P R f args (boxH parts :: l) post := by
  rintro w ⟨g, g1, s⟩
  obtain ⟨x, s⟩ := boxH_open s
  exact h x w ⟨g, g1, s⟩
theorem Sat.unbox {α : Type} {parts : α → List HP} {w : World} (s : Sat (boxH parts) w) : ∃ x, Sat (sepL (parts x) emp) w := by
  obtain ⟨h, hs, x, s⟩ := s
  exact ⟨x, h, hs, s⟩
theorem OpAt.append1 {G : Gl} {o : Oper} {st : St} {K : St → Prop} {t e : TypeId} {s x : Operand} {i : TypeInfo} {z : Value} (v : Value) (n size bytes : Nat) (xs news : List Value) (A : Option Addr) (m c : Nat) (rest : List HP)
    (ho : o.op = .call { callee := .builtin .append, args := #[s, x], argTypes := #[t, t] }) (hp : ∀ h, sepL st.h G.R h → sepL (rowH v n e size xs :: rest) G.R h) (hs : evR st s = v) (hx : evR st x = .slice A m c) (hr : allR st o.op.operands.toList = true)
    (hu : G.P.underlying t = some (.slice e)) (hi : G.P.info? e = some i) (hz : i.zero = some z) (hsize : i.size = size) (hby : i.bytes = bytes) (hzs : z.cells.size = size) (hsz : 0 < size)
    (src : ∀ w, Sat (sepL rest G.R) w → Reads w w.heap.size size A m news) (h1 : ∀ u ∈ news, u.oneCell' = true) (h63 : n + m ≤ maxLen) (hbytes : (n + m) * bytes ≤ 140737488355328)
    (hpos : 0 < n + m) (k : ∀ g c', putK G { st with h := rowH (.slice (some ⟨g, 0, none⟩) (n + m) c') (n + m) e size (xs ++ news) :: rest } o.dst (.v (.slice (some ⟨g, 0, none⟩) (n + m) c')) none K) : OpAt G o st K := by
  refine OpAt.sem (pre := [rowH v n e size xs]) (post := fun v' hs => ∃ g c', v' = .slice (some ⟨g, 0, none⟩) (n + m) c' ∧ hs = [rowH (.slice (some ⟨g, 0, none⟩) (n + m) c') (n + m) e size (xs ++ news)]) rest hp (by rw [ho]; rfl) hr ?_ ?_
  · rintro R' hR' w ⟨h, hsub, h1', h2, d, rfl, hrow, hrest⟩
    have hown := rowH_own hrow hsub.left
    have hrd := src w (hR' w ⟨h2, hsub.right d, hrest⟩)
    obtain ⟨v', w', hrun, hown', hB, hg, hat⟩ := run_append_appl (P := G.P) w 0 t o.type e i z size bytes hu hi hz hsize hby hzs hsz v n xs (.inl hown) w.heap.size A m c news hrd h1 (.inr hown) h63 hbytes (Nat.zero_le _)
    obtain ⟨A', c', rfl, _⟩ := own_shape' hown'
    obtain ⟨g0, rfl⟩ : ∃ g0, A' = some ⟨g0, 0, none⟩ := by
      rcases hown'.2 with ⟨h1, h2⟩ | ⟨g0, cap, cur, h1, _⟩
      · omega
      · injection h1 with h1; exact ⟨g0, h1⟩
    obtain ⟨h1'', r1, s1, dom⟩ := own_rowH hown'
    have s2 : Sub h2 w' := fun j ob e' => by
      have hj := hsub.right d j ob e'
      have hlt := (Array.getElem?_eq_some_iff.1 hj).1
      rw [hg.block j hlt ?_]
      · exact hj
      · intro c0
        rcases d j with c1 | c1
        · exact rowH_ne hrow c0.symm c1
        · rw [c1] at e'; cases e'
    refine ⟨_, _, w', ?_, ⟨g0, c', rfl, rfl⟩, ⟨_, s1.un s2, h1'', h2, fun j => ?_, rfl, r1, hrest⟩, ⟨hg.os, hg.tape, hg.output, hg.size⟩⟩
    · have ha : (#[s, x] : Array Operand).map (evR st) = #[v, .slice A m c] := by simp [hs, hx]
      simp only [execOp, ho, resolve, invoke, builtin, Sem.run_bind, Sem.run_pure, Result.andThen_ok, ha, hrun]
    · by_cases c0 : h1'' j = none
      · exact .inl c0
      · right
        have hj := (dom j c0).1
        rcases hat with hat | ⟨g, hat, hge⟩
        · rw [hat] at hj
          rcases d j with c1 | c1
          · exact absurd c1 (rowH_ne hrow hj)
          · exact c1
        · rw [hat] at hj
          injection hj with hj
          subst hj
          exact (hsub.right d).none hge
  · rintro v' hs' ⟨A', c', rfl, rfl⟩
    exact k A' c'

/-- a weaker word for what is left -/
theorem FnR.post {P : Program} {R : HP} {f : FuncId} {args : List Value} {pre : List HP} {p q : Value → List HP → Prop} (h : FnR P R f args pre p) (hq : ∀ v hs, p v hs → ∃ hs', q v hs' ∧ ∀ h, sepL hs R h → sepL hs' R h) : FnR P R f args pre q := by
  intro w s
  refine (h w s).mono ?_
  rintro e w' ⟨v, hs, rfl, hv, ⟨g, g1, s'⟩, hw⟩
  obtain ⟨hs', h1, h2⟩ := hq v hs hv
  exact ⟨v, hs', rfl, h1, ⟨g, g1, h2 g s'⟩, hw⟩
theorem eq_struct2 {P : Program} {t : TypeId} {f0 f1 : Field} {ki : IntKind} (h0 : P.underlying t = some (.struct (P.fieldsOf t))) (hst : P.stoodInHeld t = false) (hf : (P.fieldsOf t).toList = [f0, f1]) (n0 : f0.name ≠ "_") (n1 : f1.name ≠ "_") (o0 : f0.offset = 0) (o1 : f1.offset = 1)
    (u0 : P.underlying f0.type = some (.int ki)) (u1 : P.underlying f1.type = some (.int ki)) (k : IntKind) (a b c d : Int) (w : World) : (Op.equalIn 10000 t (.agg #[.int k a, .int k b]) (.agg #[.int k c, .int k d])).run P w = .ok (a == c && b == d) w := by
  rw [run_equalIn_struct w 9999 t _ _ h0 hst, hf]
  have p0 : ∀ x y : Value, (part f0.type #[x, y] f0.offset).run P w = .ok x w := fun x y => run_part_plain w (by simp [Program.plainKey, u0]) (by rw [o0]; rfl)
  have p1 : ∀ x y : Value, (part f1.type #[x, y] f1.offset).run P w = .ok y w := fun x y => run_part_plain w (by simp [Program.plainKey, u1]) (by rw [o1]; rfl)
  have e0 := fun x y : Int => run_equalIn_int w 9998 f0.type k ki x y u0
  have e1 := fun x y : Int => run_equalIn_int w 9998 f1.type k ki x y u1
  simp only [Op.eqFields, n0, n1, ne_eq, not_false_eq_true, if_true, Sem.run_bind, p0, p1, e0, e1, Result.andThen_ok, Sem.run_ite, Sem.run_pure]
  cases (a == c) <;> cases (b == d) <;> simp
/-- structs compared -/
theorem OpAt.aggNe {G : Gl} {o : Oper} {st : St} {K : St → Prop} {t ty : TypeId} {x y : Operand} {xs ys : Array Value} {r : Bool} (ho : o.op = .binOp .neq t x y ty) (hx : evR st x = .agg xs) (hy : evR st y = .agg ys) (hr : allR st o.op.operands.toList = true) (hg : G.P.eqGuardType G.P.depth t = false)
    (heq : ∀ w, (Op.equalIn 10000 t (.agg xs) (.agg ys)).run G.P w = .ok r w) (k : putK G st o.dst (.v (.bool (!r))) none K) : OpAt G o st K := by
  refine OpAt.val (.bool (!r)) (by rw [ho]; rfl) hr (fun w _ => ?_) k
  simp [execOp, ho, hx, hy, run_eqGuard_agg _ _ _ _ _ _ _ hg, binOp, Op.equal, Op.maxDepth, heq]
theorem OpAt.aggEq {G : Gl} {o : Oper} {st : St} {K : St → Prop} {t ty : TypeId} {x y : Operand} {xs ys : Array Value} {r : Bool} (ho : o.op = .binOp .eql t x y ty) (hx : evR st x = .agg xs) (hy : evR st y = .agg ys) (hr : allR st o.op.operands.toList = true) (hg : G.P.eqGuardType G.P.depth t = false)
    (heq : ∀ w, (Op.equalIn 10000 t (.agg xs) (.agg ys)).run G.P w = .ok r w) (k : putK G st o.dst (.v (.bool r)) none K) : OpAt G o st K := by
  refine OpAt.val (.bool r) (by rw [ho]; rfl) hr (fun w _ => ?_) k
  simp [execOp, ho, hx, hy, run_eqGuard_agg _ _ _ _ _ _ _ hg, binOp, Op.equal, Op.maxDepth, heq]
end Sy
end Go.Proofs.YtkichbggmgppmaaDoor

/-
  Symbolic runs: some parts of the heap out of all.
-/
namespace Go.Proofs.YtkichbggmgppmaaDoor
open Go.RowKit
open Sy
set_option linter.unusedVariables false
set_option linter.unusedSimpArgs false
set_option maxRecDepth 100000
set_option maxHeartbeats 4000000

/-- some parts out of all -/
theorem sub_front {R : HP} {r : List HP} : ∀ {m : List HP} {h : Hl}, sepL (m ++ r) R h → ∃ h' : Hl, (∀ i o, h' i = some o → h i = some o) ∧ sepL m R h'
  | [], h, s => sub_nil s
  | A :: m, h, s => by
    obtain ⟨h1, h2, d, rfl, a, s⟩ := s
    obtain ⟨h', e, s'⟩ := sub_front (m := m) s
    have dom : ∀ i, h2 i = none → h' i = none := fun i c => by
      cases x : h' i with
      | none => rfl
      | some o => rw [e i o x] at c; cases c
    refine ⟨un h1 h', fun i o hi => ?_, h1, h', fun i => (d i).imp_right (dom i), rfl, a, s'⟩
    unfold un at hi ⊢
    cases c : h1 i with
    | some x => rw [c] at hi; exact hi
    | none => rw [c] at hi; simp only [Option.none_or] at hi ⊢; exact e i o hi
theorem sub_pick {R : HP} {l : List HP} (m r : List HP) (p : l.Perm (m ++ r)) {h : Hl} (s : sepL l R h) : ∃ h' : Hl, (∀ i o, h' i = some o → h i = some o) ∧ sepL m R h' := sub_front (sepL_perm p s)
theorem sub_head {A : HP} {R : HP} {l : List HP} {h : Hl} (s : sepL (A :: l) R h) : ∃ h' : Hl, (∀ i o, h' i = some o → h i = some o) ∧ sepL [A] R h' := sub_front (m := [A]) s
theorem row_nil {R : HP} {h : Hl} (e : TypeId) (size : Nat) (s : R h) : sepL [rowH (.slice none 0 0) 0 e size []] R h := by
  refine ⟨fun _ => none, h, fun i => .inl rfl, ?_, ⟨by simp, .inl ⟨rfl, rfl, fun _ => rfl⟩⟩, s⟩
  funext i; simp [un]
theorem blk_sat {b : Nat} {t : TypeId} {cs : Array Value} {w : World} (s : Sat (blkH b t cs) w) : Blk w b t cs := by
  obtain ⟨h, hs, e⟩ := s
  exact hs b _ (by rw [e]; simp)
theorem blk_put {b : Nat} {t : TypeId} {cs : Array Value} {off : Nat} {ys : List Value} (h : off + ys.length ≤ cs.size) {hl : Hl} (r : blkH b t cs hl) : ∃ ty cs', hl b = some (.cells cs' ty (0, 0)) ∧ off + ys.length ≤ cs'.size ∧ blkH b t (putL cs.toList off ys).toArray fun j => if j = b then some (.cells (putL cs'.toList off ys).toArray ty (0, 0)) else hl j := by
  refine ⟨t, cs, by rw [r b, if_pos rfl], h, fun i => ?_⟩
  by_cases c : i = b
  · subst c; simp
  · have := r i
    rw [if_neg c] at this
    simp [c, this]
theorem sub_drop1 {A B : HP} {l : List HP} {R : HP} {h : Hl} (s : sepL (A :: B :: l) R h) : ∃ h', (∀ i o, h' i = some o → h i = some o) ∧ sepL (A :: l) R h' := sub_tail (sepL_pull 1 s)
theorem sub_drop2 {A B C : HP} {l : List HP} {R : HP} {h : Hl} (s : sepL (A :: B :: C :: l) R h) : ∃ h', (∀ i o, h' i = some o → h i = some o) ∧ sepL (A :: l) R h' := by
  obtain ⟨h1, e1, s1⟩ := sub_drop1 s
  obtain ⟨h2, e2, s2⟩ := sub_drop1 s1
  exact ⟨h2, fun i o e => e1 i o (e2 i o e), s2⟩
theorem FnR.of_sat {P : Program} {R : HP} {f : FuncId} {args : List Value} {pre : List HP} {post : Value → List HP → Prop} (h : ∀ w, Sat (sepL pre R) w → FnR P R f args pre post) : FnR P R f args pre post := fun w hs => h w hs w hs
theorem PureR.of_sat {P : Program} {R : HP} {f : FuncId} {args : List Value} {v : Value} (h : ∀ w, Sat R w → PureR P R f args v) : PureR P R f args v := fun w hs => h w hs w hs
end Go.Proofs.YtkichbggmgppmaaDoor

/-
  Symbolic runs: calls that panic; calls that are deferred; panics that are recovered.
-/
namespace Go.Proofs.YtkichbggmgppmaaDoor
open Go.RowKit
namespace Sy
set_option linter.unusedVariables false
set_option linter.unusedSimpArgs false

/-- called where 'pre' holds apart from R, the function panics -/
def PanR (P : Program) (R : HP) (f : FuncId) (args : List Value) (pre : List HP) (X : List PanicEntry → Prop) (RX : HP) : Prop :=
  ∀ w, Sat (sepL pre R) w → Calls P f args.toArray w fun e w' => ∃ ch, e = .panicked ch ∧ X ch ∧ Sat RX w' ∧ Wd w w'
/-- a walk in which panics may leave -/
def glX (P : Program) (R : HP) (w0 : World) (N : Nat) (tr : Bool) (B : List Nat) (X : List PanicEntry → Prop) (RX : HP) : Gl := ⟨P, R, w0, N, tr, B, [], X, RX, []⟩
def glD (P : Program) (R : HP) (w0 : World) (N : Nat) (tr : Bool) (B : List Nat) (d : Deferred) (X : List PanicEntry → Prop) (RX : HP) (AX : List (Nat × Value)) : Gl := ⟨P, R, w0, N, tr, B, [d], X, RX, AX⟩

theorem start_tm {G : Gl} {args : List Value} {pre : List HP} {N : Nat} {a : Act} (hN : args.length ≤ N) (hG : G.N = N) (hD : G.D = []) (ha : a = { tmps := args.toArray ++ Array.replicate (N - args.toArray.size) undef, defers := [] }) : Tm G ⟨startT 0 (toSVs args), [], 0, pre, True⟩ [] a := by
  subst ha
  refine ⟨by simp [hG]; omega, hD.symm, fun t x ht => ?_⟩
  obtain ⟨_, h2⟩ := startT_get ht
  simp only [Nat.sub_zero] at h2
  obtain ⟨v, h3, h4⟩ := denL_at (toSVs_den [] args) h2
  have hlt := (List.getElem?_eq_some_iff.1 h3).1
  refine ⟨by rw [hG]; omega, ?_⟩
  rw [h4]
  have h3' : args[t] = v := (List.getElem?_eq_some_iff.1 h3).2
  simp [Array.getElem?_append, hlt, h3']
theorem start_mem {G : Gl} {T : List (Nat × SV)} {pre : List HP} {w : World} (hB : G.B = []) (hw : G.w0 = w) (hs : Sat (sepL pre G.R) w) : Mem G ⟨T, [], 0, pre, True⟩ [] w := by
  obtain ⟨h, h1, h2⟩ := hs
  exact ⟨by rw [hw]; exact Wd.refl w, rfl, List.nodup_nil, fun b hb => (by cases hb), List.nodup_nil, fun x hx => (by cases hx), ⟨[], by rw [hB]; rfl⟩, h, h1, h2, fun x hx => (by cases hx)⟩

theorem pan_of_run0 {P : Program} {R : HP} {f : FuncId} {fn : Func} {c : Code} {args : List Value} {pre : List HP} (X : List PanicEntry → Prop) (RX : HP) (tr : Bool)
    (hf : P.funcs[f]? = some fn) (hb : fn.body = some c) (hm : P.follows .mixedOrders = true) (hN : Nat.ble args.length fn.ntmps = true)
    (h : ∀ w0, run (glX P R w0 fn.ntmps tr [] X RX) c ⟨startT 0 (toSVs args), [], 0, pre, True⟩ (fun _ => False) (fun _ _ => False) (fun _ => False)) :
    PanR P R f args pre X RX := by
  intro w hs
  have hN := Nat.le_of_ble_eq_true hN
  refine calls_of_wp hf hb ?_
  have hrun := run_sound (G := glX P R w fn.ntmps tr [] X RX) hm c (h w) (fun _ h => h.elim) (fun _ _ h => h.elim) (fun _ h => h.elim)
  refine hrun.2 [] _ w _ (fun e a w' hp => ?_) (start_tm (N := fn.ntmps) hN rfl rfl rfl) (start_mem rfl rfl hs) (fun _ _ _ _ h => h.elim) (fun _ _ _ _ _ h => h.elim) (fun _ _ _ _ h => h.elim)
  obtain ⟨ch, rfl, hd, _, h1, h2, h3⟩ := hp
  exact ⟨hd, ch, rfl, h1, h2, h3⟩

/-- the text's own panic -/
theorem OpAt.panic {G : Gl} {o : Oper} {st : St} {K : St → Prop} {x : Operand} (t : TypeId) (v : Value) (ho : o.op = .panic x) (hx : evR st x = .iface t v) (hr : allR st o.op.operands.toList = true) (hX : G.X [{ v := .iface t v, recovered := false }]) (hRX : ∀ w, Sat (sepL st.h G.R) w → Sat G.RX w) (ha : axAt G.AX st) : OpAt G o st K := by
  refine .px fun ρ a w m mm => ?_
  have hx' : a.eval x = .iface t v := by
    have := allR_sound m hr x (by rw [ho]; simp [Op.operands])
    rw [hx] at this
    exact this
  unfold Oper.wp
  have hrun : (execOp a.eval o).run G.P w = .halt (.panic (.iface t v)) w := by
    simp [execOp, ho, hx', run_panic_iface]
  rw [hrun]
  obtain ⟨h, h1, h2, _⟩ := mm.hp
  exact ⟨_, rfl, m.defs, axAt_sound m ha, hX, hRX w ⟨h, h1, h2⟩, mm.wd⟩
/-- a call that panics -/
theorem CallAt.pan {G : Gl} {f : FuncId} {args : List Value} {st : St} {K : SV → St → Prop} {pre : List HP} {X : List PanicEntry → Prop} {RX : HP} (rest : List HP) (hp : ∀ h, sepL st.h G.R h → sepL (pre ++ rest) G.R h) (hc : ∀ R' : HP, (∀ w, Sat R' w → Sat (sepL rest G.R) w) → PanR G.P R' f args pre X RX) (hX : ∀ ch, X ch → G.X ch) (hRX : ∀ w, Sat RX w → Sat G.RX w) (ha : axAt G.AX st) : CallAt G f args st K := by
  refine .px ha fun ρ w mm => ?_
  obtain ⟨h, h1, h2, _⟩ := mm.hp
  have h3 := hp h h2
  rw [sepL_append] at h3
  refine Calls.mono (hc (sepL rest G.R) (fun w s => s) w ⟨h, h1, h3⟩) ?_
  rintro e w' ⟨ch, rfl, k1, k2, k3⟩
  exact ⟨ch, rfl, hX _ k1, hRX _ k2, mm.wd.trans k3⟩

theorem wpList_append {P : Program} {ops : Array Oper} {Q : Exit → Act → World → Prop} {l2 : List Oper} : ∀ {l1 : List Oper} {a : Act} {w : World}, wpList P ops (Exit.then (wpList P ops Q l2) Q) l1 a w → wpList P ops Q (l1 ++ l2) a w
  | [], a, w, h => h
  | o :: l, a, w, h => by
    have out : LetsOut (Exit.then (wpList P ops Q l2) Q) → LetsOut Q := fun ⟨a, w, h⟩ => ⟨a, w, h⟩
    simp only [List.cons_append]
    unfold wpList at h ⊢
    split
    · rename_i hw
      rw [if_pos hw] at h
      rcases h with h | ⟨h1, h2⟩
      · left
        unfold Oper.wp at *
        generalize (execOp a.eval o).run P w = r at *
        cases r with
        | ok n w' =>
          cases n <;> simp only [Oper.upon] at h ⊢ <;> first
            | exact h.elim
            | exact wpList_append h
            | exact Calls.mono h fun e w'' he => by
                cases e with
                | returned v => exact wpList_append he
                | panicked c => exact he
                | outgrown => exact out he
            | exact Rows.mono h fun v w'' he => wpList_append he
        | halt x w' => cases x <;> simp only [Oper.upon] at h ⊢; exact h
      · exact .inr ⟨h1, out h2⟩
    · rename_i hw
      rw [if_neg hw] at h
      exact wpList_append h

/-- where the body of a function that defers ends: its parts; the slots of its results -/
inductive EndD (G : Gl) (st : St) (mid : List HP → Prop) : Prop
  | mk (hs : List HP) (h : ∀ w, Sat (sepL st.h G.R) w → Sat (sepL hs G.R) w) (ha : axAt G.AX st) (k : mid hs)
def endK (G : Gl) (mid : List HP → Prop) (st : St) : Prop := stp st fun st => EndD G st mid
theorem good_end {G : Gl} {mid : List HP → Prop} : Good (endK G mid) := fun st h => (stp_iff.1 h).1
theorem endK_sound {G : Gl} {mid : List HP → Prop} {st : St} {ρ : List Nat} {a : Act} {w : World} (h : endK G mid st) (m : Tm G st ρ a) (mm : Mem G st ρ w) : ∃ hs, mid hs ∧ Sat (sepL hs G.R) w ∧ axA G.AX a := by
  obtain ⟨_, ⟨hs, h1, h2, h3⟩⟩ := stp_iff.1 h
  obtain ⟨g, g1, g2, _⟩ := mm.hp
  exact ⟨hs, h3, h1 w ⟨g, g1, g2⟩, axAt_sound (st := { st with c := True }) (m.same rfl) h2⟩
def dfr (g : FuncId) (caps : List Value) : Deferred := { target := .fn (.func g) caps.toArray, args := #[] }
/-- what a function that defers asks, where the call is laid -/
structure DefD (P : Program) (R : HP) (w0 : World) (fn : Func) (d : Deferred) (X : List PanicEntry → Prop) (RX : HP) (AX : List (Nat × Value)) (mid : List HP → Prop) (post : Value → List HP → Prop) : Prop where
  ret : ∀ hs, mid hs → ∀ w a, Sat (sepL hs R) w → Wd w0 w → axA AX a → Leaves P fn a.tmps (fun e w' => ∃ v hs, e = .returned v ∧ post v hs ∧ Sat (sepL hs R) w' ∧ Wd w0 w') [d] .returning w
  pan : ∀ ch, X ch → ∀ w a, Sat RX w → Wd w0 w → axA AX a → Leaves P fn a.tmps (fun e w' => ∃ v hs, e = .returned v ∧ post v hs ∧ Sat (sepL hs R) w' ∧ Wd w0 w') [d] (.panicking ch) w
inductive DefAt (P : Program) (R : HP) (w0 : World) (tr : Bool) (fn : Func) (x : Operand) (rest : Code) (st : St) (post : Value → List HP → Prop) : Prop
  | mk (g : FuncId) (caps : List Value) (X : List PanicEntry → Prop) (RX : HP) (AX : List (Nat × Value)) (mid : List HP → Prop) (hx : evR st x = .func (.func g) #[] caps.toArray) (hr : isR st x = true) (hd : DefD P R w0 fn (dfr g caps) X RX AX mid post)
      (k : run (glD P R w0 fn.ntmps tr [] (dfr g caps) X RX AX) rest st (endK (glD P R w0 fn.ntmps tr [] (dfr g caps) X RX AX) mid) (fun _ _ => False) (endK (glD P R w0 fn.ntmps tr [] (dfr g caps) X RX AX) mid))
theorem fn_of_defer {P : Program} {R : HP} {f : FuncId} {fn : Func} {id : Nat} {os : Array Oper} {c0 rest : Code} {args : List Value} {pre : List HP} {post : Value → List HP → Prop} {os1 : List Oper} {od : Oper} {x : Operand} (tr : Bool)
    (hf : P.funcs[f]? = some fn) (hb : fn.body = some (.seq c0 (.seq (.region id os false) rest))) (hm : P.follows .mixedOrders = true) (hN : Nat.ble args.length fn.ntmps = true)
    (hos : os.toList = os1 ++ [od]) (hod : od.op = .defer { callee := .value x, args := #[], argTypes := #[] }) (hdst : od.dst = none) (hgd : od.guard = none)
    (h : ∀ w0, run (gl P R w0 fn.ntmps tr []) c0 ⟨startT 0 (toSVs args), [], 0, pre, True⟩ (fun st => opsG (op1 (gl P R w0 fn.ntmps tr [])) (gl P R w0 fn.ntmps tr []) (os1 ++ [od]) os1 st fun st => stp st fun st => DefAt P R w0 tr fn x rest st post) (fun _ _ => False) (fun _ => False)) :
    FnR P R f args pre post := by
  intro w hs
  have hN := Nat.le_of_ble_eq_true hN
  refine calls_of_wp_defers hf hb (wp_seq ?_)
  have nox : ∀ {Q : Exit → Act → World → Prop} e a w', PXE (gl P R w fn.ntmps tr []) e a w' → Q e a w' := fun e a w' hp => by obtain ⟨_, _, _, _, hf, _⟩ := hp; exact hf.elim
  have good0 : Good fun st => stp st fun st => DefAt P R w tr fn x rest st post := fun st h => (stp_iff.1 h).1
  have ops : ∀ {st : St}, (opsG (op1 (gl P R w fn.ntmps tr [])) (gl P R w fn.ntmps tr []) (os1 ++ [od]) os1 st fun st => stp st fun st => DefAt P R w tr fn x rest st post) → _ := fun {st} k => ops_sound (G := gl P R w fn.ntmps tr []) (step := op1 (gl P R w fn.ntmps tr [])) (fun h hK => op1_sound h hK) k good0
  have hr0 := run_sound (G := gl P R w fn.ntmps tr []) hm c0 (h w) (fun st h => (ops h).1) (fun _ _ h => h.elim) (fun _ h => h.elim)
  refine hr0.2 [] _ w _ nox (start_tm (N := fn.ntmps) hN rfl rfl rfl) (start_mem rfl rfl hs) (fun st ρ a w1 k m mm => ?_) (fun _ _ _ _ _ h => h.elim) (fun _ _ _ _ h => h.elim)
  refine wp_seq (wp_region_list ?_)
  rw [hos]
  have hosa : os = (os1 ++ [od]).toArray := by rw [← hos]
  refine wpList_append ?_
  rw [hosa]
  refine (ops k).2 ρ a w1 _ nox m mm (fun st2 ρ2 a2 w2 k2 m2 mm2 => ?_)
  obtain ⟨_, ⟨g, caps, X, RX, AX, mid, hx, hr, hd, k3⟩⟩ := stp_iff.1 k2
  show wpList P _ _ [od] a2 w2
  unfold wpList
  rw [if_pos (wanted_none hgd _)]
  left
  unfold Oper.wp
  have hev : a2.eval x = .func (.func g) #[] caps.toArray := by
    rw [isR_sound hr (m2.same (st' := { st2 with c := True }) rfl), hx]
  have hrun : (execOp a2.eval od).run P w2 = .ok (.defer (dfr g caps)) w2 := by
    simp [execOp, hod, resolve, hev, Deferred.ofValue, dfr]
  rw [hrun]
  simp only [Oper.upon, hdst]
  have m3 : Tm (glD P R w fn.ntmps tr [] (dfr g caps) X RX AX) { st2 with c := True } ρ2 { a2 with defers := dfr g caps :: a2.defers } := by
    refine ⟨m2.size, ?_, m2.get⟩
    show dfr g caps :: a2.defers = [dfr g caps]
    rw [m2.defs]
    rfl
  have mm3 : Mem (glD P R w fn.ntmps tr [] (dfr g caps) X RX AX) { st2 with c := True } ρ2 w2 := ⟨mm2.wd, mm2.len, mm2.nd, mm2.lt, mm2.no, mm2.ob, mm2.kn, mm2.hp⟩
  have hr1 := run_sound (G := glD P R w fn.ntmps tr [] (dfr g caps) X RX AX) hm rest k3 good_end (fun _ _ h => h.elim) good_end
  have fin : ∀ st ρ a w', endK (glD P R w fn.ntmps tr [] (dfr g caps) X RX AX) mid st → Tm (glD P R w fn.ntmps tr [] (dfr g caps) X RX AX) st ρ a → Mem (glD P R w fn.ntmps tr [] (dfr g caps) X RX AX) st ρ w' → Leaves P fn a.tmps (fun e w' => ∃ v hs, e = .returned v ∧ post v hs ∧ Sat (sepL hs R) w' ∧ Wd w w') a.defers .returning w' := by
    intro st ρ a w' k m mm
    obtain ⟨hs, k1, k2, k3⟩ := endK_sound k m mm
    rw [show a.defers = [dfr g caps] from m.defs]
    exact hd.ret hs k1 w' a k2 mm.wd k3
  refine hr1.2 ρ2 _ w2 _ (fun e a w' hp => ?_) m3 mm3 fin (fun _ _ _ _ _ h => h.elim) fin
  obtain ⟨ch, rfl, h1, h2, h3, h4, h5⟩ := hp
  show Leaves P fn a.tmps _ a.defers (.panicking ch) w'
  rw [h1]
  exact hd.pan ch h3 w' a h4 h5 h2

theorem leaves_one {P : Program} {fn : Func} {tmps : Array Value} {R : Ending → World → Prop} {g : FuncId} {caps : List Value} {u : FrameMode} {w : World} (hen : canEnter P g = true) (hu : u ≠ .run)
    (h : CallsD P g caps.toArray u w fun e u' w' => (∃ v, e = .returned v) ∧ settle u' = .returning ∧ ∃ v, (results fn tmps).run P w' = .ok v w' ∧ R (.returned v) w') : Leaves P fn tmps R [dfr g caps] u w := by
  have hi : (invoke (.fn (.func g) caps.toArray) #[]).run P w = .ok (.enter g caps.toArray) w := by
    unfold canEnter at hen
    split at hen
    · rename_i fn hf
      split at hen
      · rename_i cd hb
        have hn : fn.name ≠ "runtime.NumGoroutine" := by simpa using hen
        simp [invoke, callFunc, program, Sem.run, hf, hb, hn]
      · cases hen
    · cases hen
  refine leaves_cons hu hi (h.mono ?_)
  rintro e u' w' ⟨⟨v, rfl⟩, hs, v2, h1, h2⟩
  show Leaves P fn tmps R [] (settle u') w'
  rw [hs]
  exact ⟨v2, h1, h2⟩

/-- what recover hands back, and how the frame below goes on -/
def RecAt (u : FrameMode) (r : Value) (u' : FrameMode) : Prop := ∀ (c : Frame) (cs : List Frame), c.mode = u → recoverD (c :: cs) = some (r, { c with mode := u' } :: cs) ∨ (recoverD (c :: cs) = none ∧ r = .nilIface ∧ u' = u)
theorem rec_pan (v : Value) : RecAt (.panicking [{ v := v, recovered := false }]) v (.panicking [{ v := v, recovered := true }]) := fun c cs h => .inl (by simp [recoverD, h])
theorem rec_idle : RecAt .returning .nilIface .returning := fun c cs h => .inr ⟨by simp [recoverD, h], rfl, rfl⟩
/-- a deferred call whose first operation is recover -/
theorem cls_of_run {P : Program} {R : HP} {f : FuncId} {fn : Func} {id d : Nat} {orec : Oper} {rest : Code} {args : List Value} {pre : List HP} {mid : List HP → Prop} {u u' : FrameMode} {r : Value} (tr : Bool)
    (hf : P.funcs[f]? = some fn) (hb : fn.body = some (.seq (.region id #[orec] false) rest)) (hm : P.follows .mixedOrders = true) (hN : Nat.ble args.length fn.ntmps = true) (hres : fn.results = #[])
    (ho : orec.op = .call { callee := .builtin .recover, args := #[], argTypes := #[] }) (hg : orec.guard = none) (hdst : orec.dst = some d) (hu : RecAt u r u')
    (h : ∀ w0, putK (gl P R w0 fn.ntmps tr []) ⟨startT 0 (toSVs args), [], 0, pre, True⟩ (some d) (.v r) none fun st => run (gl P R w0 fn.ntmps tr []) rest st (endK (gl P R w0 fn.ntmps tr []) mid) (fun _ _ => False) (endK (gl P R w0 fn.ntmps tr []) mid)) :
    ∀ w, Sat (sepL pre R) w → CallsD P f args.toArray u w fun e x w' => (∃ v, e = .returned v) ∧ x = u' ∧ ∃ hs, mid hs ∧ Sat (sepL hs R) w' ∧ Wd w w' := by
  intro w hs
  have hN := Nat.le_of_ble_eq_true hN
  refine callsD_of_wpS hf hb fun c₀ cs hc => ?_
  refine wpS_seq (wpS_region ?_)
  have hG : Good fun st => run (gl P R w fn.ntmps tr []) rest st (endK (gl P R w fn.ntmps tr []) mid) (fun _ _ => False) (endK (gl P R w fn.ntmps tr []) mid) := fun st h => (run_sound hm rest h good_end (fun _ _ h => h.elim) good_end).1
  obtain ⟨_, hp⟩ := putK_sound (h w) hG
  obtain ⟨st', k, m', mm'⟩ := hp [] _ w r rfl (start_tm (N := fn.ntmps) hN rfl rfl rfl) (start_mem (G := gl P R w fn.ntmps tr []) rfl rfl hs)
  have hr1 := run_sound (G := gl P R w fn.ntmps tr []) hm rest k good_end (fun _ _ h => h.elim) good_end
  have hres2 : ∀ (tmps : Array Value) (w' : World), (results fn tmps).run P w' = .ok (.tuple #[]) w' := fun tmps w' => results_run (vs := []) (by rw [hres]; rfl)
  have fin : ∀ cs' : List Frame, cs' = { c₀ with mode := u' } :: cs → ∀ (e : Exit), (e = .normal ∨ e = .ret) → ∀ st ρ a w', endK (gl P R w fn.ntmps tr []) mid st → Tm (gl P R w fn.ntmps tr []) st ρ a → Mem (gl P R w fn.ntmps tr []) st ρ w' →
      bodyPostS P fn c₀ cs (fun e x w' => (∃ v, e = .returned v) ∧ x = u' ∧ ∃ hs, mid hs ∧ Sat (sepL hs R) w' ∧ Wd w w') e a cs' w' := by
    rintro cs' rfl e he st ρ a w' k m mm
    obtain ⟨hs, k1, k2, _⟩ := endK_sound k m mm
    rcases he with rfl | rfl
    · exact ⟨m.defs, u', rfl, _, hres2 _ _, ⟨_, rfl⟩, rfl, hs, k1, k2, mm.wd⟩
    · exact ⟨m.defs, u', rfl, _, hres2 _ _, ⟨_, rfl⟩, rfl, hs, k1, k2, mm.wd⟩
  have go : ∀ cs' : List Frame, cs' = { c₀ with mode := u' } :: cs → rest.wpS P (bodyPostS P fn c₀ cs fun e x w' => (∃ v, e = .returned v) ∧ x = u' ∧ ∃ hs, mid hs ∧ Sat (sepL hs R) w' ∧ Wd w w') (Act.put { tmps := args.toArray ++ Array.replicate (fn.ntmps - args.toArray.size) undef, defers := [] } (some d) r) cs' w := by
    intro cs' hcs
    refine wpS_of_wp (hr1.2 [] _ w _ (fun e a w' hp => by obtain ⟨_, _, _, _, hf, _⟩ := hp; exact hf.elim) m' mm' (fin cs' hcs .normal (.inl rfl)) (fun _ _ _ _ _ h => h.elim) (fin cs' hcs .ret (.inr rfl)))
  have hrun : ∀ ev : Operand → Value, (execOp ev orec).run P w = .ok .recover w := fun ev => by
    simp [execOp, ho, resolve, invoke, builtin]
  have hwt : ∀ y, Region.wanted orec y = true := fun y => wanted_none hg y
  show wpOpsS P #[orec] _ [0] _ _ w
  simp only [wpOpsS, List.getElem?_toArray, List.getElem?_cons_zero, hwt, if_true, hrun, hdst]
  rcases hu c₀ cs hc with e | ⟨e, rfl, rfl⟩
  · rw [e]
    exact go _ rfl
  · rw [e]
    refine go _ ?_
    rw [← hc]
/-- the cells of two results -/
theorem results_two {P : Program} {fn : Func} {tmps : Array Value} {i j : Nat} {t s : TypeId} {p q : Nat} {dt ds : TypeDesc} {v u : Value} {w : World} (hr : fn.results = #[.cell i t, .cell j s]) (ht : P.underlying t = some dt) (hdt : dt.isRow = false) (hs : P.underlying s = some ds) (hds : ds.isRow = false)
    (hi : tmps.getD i undef = .pointer (some ⟨p, 0, none⟩)) (hj : tmps.getD j undef = .pointer (some ⟨q, 0, none⟩)) (hv : w.cell? ⟨p, 0, none⟩ = some v) (hu : w.cell? ⟨q, 0, none⟩ = some u) : (results fn tmps).run P w = .ok (.tuple #[v, u]) w := by
  have key : ∀ {t : TypeId} {d : TypeDesc} {b : Nat} {x : Value}, P.underlying t = some d → d.isRow = false → w.cell? ⟨b, 0, none⟩ = some x → (loadVar t ⟨b, 0, none⟩).run P w = .ok x w := by
    intro t d b x hu hd hc
    have hagg : (isAgg t).run P w = .ok false w := by
      unfold isAgg
      rw [Sem.run_bind, run_underlying hu w]
      cases d <;> simp_all
    simp [loadVar, hagg, load, Sem.run, hc]
  have k1 := key ht hdt hv
  have k2 := key hs hds hu
  refine results_run (vs := [v, u]) ?_
  rw [hr]
  show Sem.run P ([ResultVar.cell i t, .cell j s].mapM (rv tmps)) w = _
  have r1 : (rv tmps (.cell i t)).run P w = .ok v w := by simp only [rv, hi, asAddr, Sem.run_bind, Sem.run_pure, Result.andThen_ok, k1]
  have r2 : (rv tmps (.cell j s)).run P w = .ok u w := by simp only [rv, hj, asAddr, Sem.run_bind, Sem.run_pure, Result.andThen_ok, k2]
  rw [List.mapM_cons, List.mapM_cons]
  simp [r1, r2]
end Sy
end Go.Proofs.YtkichbggmgppmaaDoor

/-
  Symbolic runs: regions that draw their order, by groups in which two operations may come up at once.
-/
namespace Go.Proofs.YtkichbggmgppmaaDoor
open Go.RowKit
namespace Sy
set_option linter.unusedVariables false
set_option linter.unusedSimpArgs false

inductive Tr | E | T (k : Nat) (r : Tr) | H (k : Nat) (r : Tr) | C (k : Nat) (r : Tr) (j : Nat) (s : Tr) | D (k : Nat) (r : Tr) (j : Nat) (s : Tr) (i : Nat) (t : Tr)
def Tr.len : Tr → Nat
  | .E => 0
  | .T _ r => r.len + 1
  | .H _ r => r.len + 1
  | .C _ r _ _ => r.len + 1
  | .D _ r _ _ _ _ => r.len + 1
def treeB (ops : Array Oper) (n : Nat) (F : Array Bool → Bool) : Tr → Array Bool → Bool
  | .E, ls => F ls && (Region.ready .any ops ls).all fun j => decide (n ≤ j)
  | .T k r, ls => decide (k < n) && ((Region.ready .any ops ls).contains k && (Region.free .any ops ls k && treeB ops n F r (ls.setIfInBounds k true)))
  | .H k r, ls => decide (k < n) && (decide (Region.ready .any ops ls = [k]) && treeB ops n F r (ls.setIfInBounds k true))
  | .C k r j s, ls => decide (k < n) && (decide (j < n) && (decide (Region.ready .any ops ls = [k, j]) && (decide (r.len = s.len) && (treeB ops n F r (ls.setIfInBounds k true) && treeB ops n F s (ls.setIfInBounds j true)))))
  | .D k r j s i t, ls => decide (k < n) && (decide (j < n) && (decide (i < n) && (decide (Region.ready .any ops ls = [k, j, i]) && ((decide (r.len = s.len) && decide (r.len = t.len)) && (treeB ops n F r (ls.setIfInBounds k true) && (treeB ops n F s (ls.setIfInBounds j true) && treeB ops n F t (ls.setIfInBounds i true)))))))
def treesB (ops : Array Oper) : List (Tr × Nat) → Array Bool → Bool
  | [], ls => decide (Region.ready .any ops ls = [])
  | (g, n) :: r, ls => (decide (ops.size ≤ n) || (decide (n < ops.size) && (Region.sinkB .any ops n && chainW ops n))) && (headW ops n ls && treeB ops n (fun ls' => treesB ops r ls') g ls)
def treeLen : List (Tr × Nat) → Nat
  | [] => 0
  | (g, _) :: r => g.len + treeLen r
def treesOk (l : List Oper) (gs : List (Tr × Nat)) : Bool := Region.noSelect l.toArray && (decide (treeLen gs = l.length) && treesB l.toArray gs (Array.replicate l.toArray.size false))

/-- an operation that only computes or reads, at the memory of the group's start -/
def opT2 (G : Gl) (st0 : St) (o : Oper) (st : St) (K : St → Prop) : Prop :=
  match o.op with
  | .load t x => ev st x False fun vx => match vx with
    | .v (.pointer (some ad)) => stp st fun st => LoadAt G t ad st0 fun r => putK G st o.dst r none K
    | _ => q1 G.P G.tr st o False fun r q => putK G st o.dst r q K
  | _ => q1 G.P G.tr st o False fun r q => putK G st o.dst r q K
def TakeT2 (G : Gl) (st0 : St) (o : Oper) (st : St) (K : St → Prop) : Prop :=
  st.c ∧ ∀ ρ m a w0, Tm G st (ρ ++ m) a → Mem G st0 ρ w0 → ∃ v st', K st' ∧ SameM st st' ∧ (∀ w, Mem G st0 ρ w → (execOp a.eval o).run G.P w = .ok (.value v) w) ∧ Tm G st' (ρ ++ m) (a.put o.dst v)
theorem ob_ext {G : Gl} {st0 st : St} {ρ : List Nat} {w : World} (mm : Mem G st0 ρ w) (ho : st.o = st0.o) (m : List Nat) : Ob st (ρ ++ m) w := by
  intro x hx
  rw [ho] at hx
  obtain ⟨b, cs, e1, e2, e3⟩ := mm.ob x hx
  refine ⟨b, cs, ?_, denL_ext m e2, e3⟩
  rw [List.getElem?_append_left (List.getElem?_eq_some_iff.1 e1).1]
  exact e1
theorem take_q2 {G : Gl} {st0 : St} {o : Oper} {st : St} {K : St → Prop} (ho : st.o = st0.o) (hK : Good K) (h : q1 G.P G.tr st o False fun r q => putK G st o.dst r q K) : TakeT2 G st0 o st K := by
  rcases q1_sound h with h | ⟨x, q, h, hy⟩
  · exact h.elim
  · obtain ⟨⟨hc, hq⟩, hp⟩ := putK_same h hK
    refine ⟨hc, fun ρ m a w0 tm mm0 => ?_⟩
    have hy := hy hq
    obtain ⟨v, e1, e2⟩ := hy G (ρ ++ m) a w0 tm (ob_ext mm0 ho m)
    obtain ⟨st', k, hs, m'⟩ := hp (ρ ++ m) a v e1 tm
    refine ⟨v, st', k, hs, fun w' mm' => ?_, m'⟩
    obtain ⟨v', e3, e4⟩ := hy G (ρ ++ m) a w' tm (ob_ext mm' ho m)
    rw [e1] at e3
    injection e3 with e3
    subst e3
    exact e4
theorem opT2_sound {G : Gl} {st0 : St} {o : Oper} {st : St} {K : St → Prop} (ho : st.o = st0.o) (h : opT2 G st0 o st K) (hK : Good K) : TakeT2 G st0 o st K := by
  unfold opT2 at h
  split at h
  case h_1 t x hop =>
    rcases ev_sound h with h | ⟨sx, h, ex⟩
    · exact h.elim
    split at h
    · rename_i ad
      obtain ⟨hc, ⟨r, hr, h⟩⟩ := stp_iff.1 h
      refine ⟨hc, fun ρ m a w0 tm mm0 => ?_⟩
      obtain ⟨_, hp⟩ := putK_same h hK
      obtain ⟨st', k, hs, m'⟩ := hp (ρ ++ m) a r rfl (tm.same rfl)
      refine ⟨r, st', k, hs, fun w mm => ?_, m'⟩
      have h1 := ex G (ρ ++ m) a tm
      simp only [SV.den, Option.some.injEq] at h1
      simp [execOp, hop, ← h1, hr ρ w mm]
    · exact take_q2 ho hK h
  case h_2 => exact take_q2 ho hK h
theorem optT2_good {G : Gl} {st0 : St} {all : List Oper} {o : Oper} {F : St → Prop} (hF : Good F) : ∀ st, st.o = st0.o → opsG (opT2 G st0) G all [o] st F → st.c := by
  intro st hst h
  unfold opsG at h
  have e : ∀ st, opsG (opT2 G st0) G all [] st F = F st := fun st => rfl
  simp only [e] at h
  split at h
  · exact (opT2_sound hst h hF).1
  · rename_i j want hg
    split at h
    · split at h
      · split at h
        · split at h
          · exact (opT2_sound hst h hF).1
          · exact (putK_same h hF).1.1
        · rename_i b hx
          by_cases hb : b = want
          · exact (opT2_sound (st := Sy.seen st _ _) hst (h.1 hb) hF).1
          · exact (putK_same (h.2 (by cases b <;> cases want <;> simp_all)) hF).1.1
        · exact (putK_same h hF).1.1
        · exact h.elim
      · exact h.elim
    · exact h.elim
theorem takeG2 {G : Gl} {st0 : St} {all : List Oper} {o : Oper} {st : St} {F : St → Prop} (hst : st.o = st0.o) (h : opsG (opT2 G st0) G all [o] st F) (hF : Good F) {ρ m0 : List Nat} {a : Act} {w0 : World} (m : Tm G st (ρ ++ m0) a) (mm : Mem G st0 ρ w0) :
    ∃ v st', F st' ∧ SameM st st' ∧ Tm G st' (ρ ++ m0) (a.put o.dst v) ∧ YieldsIf G.P all.toArray (Mem G st0 ρ) o v a := by
  unfold opsG at h
  have e : ∀ st, opsG (opT2 G st0) G all [] st F = F st := fun st => rfl
  simp only [e] at h
  have yes : ∀ st1 : St, SameM st st1 → Tm G st1 (ρ ++ m0) a → opT2 G st0 o st1 F → Region.wanted o (yielded all.toArray a.tmps) = true → ∃ v st', F st' ∧ SameM st st' ∧ Tm G st' (ρ ++ m0) (a.put o.dst v) ∧ YieldsIf G.P all.toArray (Mem G st0 ρ) o v a := by
    intro st1 s1 m1 h hwt
    obtain ⟨_, hq⟩ := opT2_sound (s1.1.trans hst) h hF
    obtain ⟨v, st', k', s2, hr', m'⟩ := hq ρ m0 a w0 m1 mm
    exact ⟨v, st', k', ⟨s2.1.trans s1.1, s2.2.1.trans s1.2.1, s2.2.2.trans s1.2.2⟩, m', .inl ⟨hwt, fun w hw => hr' w hw⟩⟩
  have no : ∀ st1 : St, SameM st st1 → Tm G st1 (ρ ++ m0) a → putK G st1 o.dst (.v undef) none F → Region.wanted o (yielded all.toArray a.tmps) = false → ∃ v st', F st' ∧ SameM st st' ∧ Tm G st' (ρ ++ m0) (a.put o.dst v) ∧ YieldsIf G.P all.toArray (Mem G st0 ρ) o v a := by
    intro st1 s1 m1 h hwt
    obtain ⟨_, hp⟩ := putK_same h hF
    obtain ⟨st', k', s2, m'⟩ := hp (ρ ++ m0) a undef rfl m1
    exact ⟨undef, st', k', ⟨s2.1.trans s1.1, s2.2.1.trans s1.2.1, s2.2.2.trans s1.2.2⟩, m', .inr ⟨hwt, rfl⟩⟩
  split at h
  · rename_i hg
    exact yes st ⟨rfl, rfl, rfl⟩ m h (wanted_none hg _)
  · rename_i j want hg
    split at h
    · rename_i oj hj
      split at h
      · rename_i t ht
        split at h
        · rename_i b hx
          split at h
          · rename_i hb
            exact yes st ⟨rfl, rfl, rfl⟩ m h (by rw [wanted_eq hg hj ht hx rfl m, hb])
          · rename_i hb
            exact no st ⟨rfl, rfl, rfl⟩ m h (by rw [wanted_eq hg hj ht hx rfl m, hb])
        · rename_i b hx
          by_cases hb : b = want
          · subst hb
            exact yes (seen st t b) ⟨rfl, rfl, rfl⟩ (seen_tm m hx) (h.1 rfl) (by rw [wanted_eq hg hj ht hx rfl m]; simp)
          · have hb' : b = !want := by cases b <;> cases want <;> simp_all
            subst hb'
            exact no (seen st t (!want)) ⟨rfl, rfl, rfl⟩ (seen_tm m hx) (h.2 rfl) (by rw [wanted_eq hg hj ht hx rfl m]; simp)
        · rename_i hx
          exact no st ⟨rfl, rfl, rfl⟩ m h (wanted_undef hg hj ht hx m)
        · exact h.elim
      · exact h.elim
    · exact h.elim

/-- what a group leaves as it was: new objects may be there -/
def Kept2 (G : Gl) (st0 st : St) : Prop := (st.o.drop (st.o.length - st0.o.length) = st0.o ∧ Nat.ble st0.n st.n = true) ∧ ∀ h, sepL st.h G.R h → ∃ h', (∀ i o, h' i = some o → h i = some o) ∧ sepL st0.h G.R h'
def heavyG (G : Gl) (all : List Oper) (kp : Bool) (st0 : St) (k : Nat) (st : St) (K : St → Prop) : Prop := match all[k]? with
  | some o => match o.guard with
    | none => op1 G o st fun st => match kp with
      | true => stp st fun st => Kept2 G st0 st ∧ K st
      | false => stp st K
    | some _ => False
  | none => False
def Tr.hasT : Tr → Bool
  | .E => false
  | .T _ _ => true
  | .H _ r => r.hasT
  | .C _ r _ s => r.hasT || s.hasT
  | .D _ r _ s _ t => r.hasT || s.hasT || t.hasT
/-- with the objects of the group's start, and back -/
def atS (st0 st : St) : St := ⟨st.t, st0.o, st0.n, st.h, st.c⟩
def atK (st0 st : St) (K : St → Prop) : Prop := match st0, st with
  | ⟨_, o, n, _, _⟩, ⟨t, _, _, h, c⟩ => K ⟨t, o, n, h, c⟩
def reK (st st' : St) (K : St → Prop) : Prop := match st, st' with
  | ⟨_, o, n, h, _⟩, ⟨t, _, _, _, c⟩ => K ⟨t, o, n, h, c⟩
def asK (st : St) (K : St → Prop) : Prop := match st with
  | ⟨t, o, n, h, c⟩ => K ⟨t, o, n, h, c⟩
theorem atK_eq (st0 st : St) (K : St → Prop) : atK st0 st K = K (atS st0 st) := by cases st0; cases st; rfl
theorem reK_eq (st st' : St) (K : St → Prop) : reK st st' K = K ⟨st'.t, st.o, st.n, st.h, st'.c⟩ := by cases st; cases st'; rfl
theorem asK_eq (st : St) (K : St → Prop) : asK st K = K st := by cases st; rfl
def treeG (G : Gl) (all : List Oper) (kp : Bool) (st0 : St) : Tr → St → (St → Prop) → Prop
  | .E, st, K => K st
  | .T k r, st, K => match kp with
    | true => match all[k]? with
      | some o => atK st0 st fun s1 => opsG (opT2 G st0) G all [o] s1 fun st' => reK st st' fun st'' => treeG G all kp st0 r st'' K
      | none => False
    | false => False
  | .H k r, st, K => heavyG G all kp st0 k st fun st => treeG G all kp st0 r st K
  | .C k r j s, st, K => (heavyG G all kp st0 k st fun st => treeG G all kp st0 r st K) ∧ (heavyG G all kp st0 j st fun st => treeG G all kp st0 s st K)
  | .D k r j s i t, st, K => (heavyG G all kp st0 k st fun st => treeG G all kp st0 r st K) ∧ (heavyG G all kp st0 j st fun st => treeG G all kp st0 s st K) ∧ (heavyG G all kp st0 i st fun st => treeG G all kp st0 t st K)
def treesG (G : Gl) (all : List Oper) : List (Tr × Nat) → St → (St → Prop) → Prop
  | [], st, K => stp st K
  | (g, _) :: r, st, K => asK st fun st => treeG G all g.hasT st g st fun st => treesG G all r st K
theorem heavy_op {G : Gl} {kp : Bool} {st0 : St} {o : Oper} {st : St} {K : St → Prop} (h : op1 G o st fun st => match kp with | true => stp st fun st => Kept2 G st0 st ∧ K st | false => stp st K) : op1 G o st fun st => stp st fun st => (kp = true → Kept2 G st0 st) ∧ K st := by
  cases kp with
  | true =>
    have e : (fun st => stp st fun st => Kept2 G st0 st ∧ K st) = fun st => stp st fun st => (true = true → Kept2 G st0 st) ∧ K st := by simp
    rw [← e]
    exact h
  | false =>
    have e : (fun st => stp st K) = fun st => stp st fun st => (false = true → Kept2 G st0 st) ∧ K st := by simp
    rw [← e]
    exact h
theorem heavy_good {G : Gl} {all : List Oper} {kp : Bool} {st0 : St} {k : Nat} {K : St → Prop} : Good fun st => heavyG G all kp st0 k st K := fun st h => by
  unfold heavyG at h
  split at h
  · split at h
    · exact (op1_sound (heavy_op h) good_stp).1
    · exact h.elim
  · exact h.elim
theorem treeG_good {G : Gl} {all : List Oper} {kp : Bool} {st0 : St} {K : St → Prop} (hK : Good K) : ∀ g : Tr, Good fun st => treeG G all kp st0 g st K
  | .E => hK
  | .T k r => fun st h => by
    unfold treeG at h
    split at h
    · split at h
      · rw [atK_eq] at h
        simp only [reK_eq] at h
        have := optT2_good (st0 := st0) (F := fun st' => treeG G all true st0 r ⟨st'.t, st.o, st.n, st.h, st'.c⟩ K) (fun st' h' => treeG_good hK r ⟨st'.t, st.o, st.n, st.h, st'.c⟩ h') (atS st0 st) rfl h
        exact this
      · exact h.elim
    · exact h.elim
  | .H k r => fun st h => heavy_good _ h
  | .C k r j s => fun st h => heavy_good _ h.1
  | .D k r j s i t => fun st h => heavy_good _ h.1
theorem treesG_good {G : Gl} {all : List Oper} {K : St → Prop} : ∀ gs : List (Tr × Nat), Good fun st => treesG G all gs st K
  | [] => good_stp
  | (g, n) :: r => fun st h => by
    have h : asK st fun st => treeG G all g.hasT st g st fun st => treesG G all r st K := h
    rw [asK_eq] at h
    exact treeG_good (treesG_good r) g _ h

/-- the memory at the group's start still stands -/
structure Since (G : Gl) (st0 st : St) (ρ0 ρ : List Nat) (w : World) : Prop where
  ext : ∃ m, ρ = ρ0 ++ m
  mem : Mem G st0 ρ0 w
theorem kept_since {G : Gl} {st0 st : St} {ρ0 ρ : List Nat} {w0 w : World} (mm0 : Mem G st0 ρ0 w0) (hx : ∃ m, ρ = ρ0 ++ m) (mm : Mem G st ρ w) (hk : Kept2 G st0 st) : Mem G st0 ρ0 w := by
  obtain ⟨m1, m2, m3, m4, m5, m6, mk, hh, m7, m8, m9⟩ := mm
  obtain ⟨⟨e1, e2⟩, e3⟩ := hk
  obtain ⟨q, rfl⟩ := hx
  have hsub : ∀ x ∈ st0.o, x ∈ st.o := fun x hx => by rw [← e1] at hx; exact List.mem_of_mem_drop hx
  have at_ : ∀ x ∈ st0.o, (ρ0 ++ q)[x.1]? = ρ0[x.1]? := fun x hx => by
    obtain ⟨b, cs, g1, _⟩ := mm0.ob x hx
    rw [List.getElem?_append_left (List.getElem?_eq_some_iff.1 g1).1]
  obtain ⟨h', s1, s2⟩ := e3 hh m8
  refine ⟨m1, mm0.len, (List.nodup_append.1 m3).1, fun b hb => m4 b (List.mem_append_left _ hb), mm0.no, fun x hx => ?_, mm0.kn, h', m7.mono s1, s2, fun x hx b hb => ?_⟩
  · obtain ⟨b, cs, g1, g2, g3⟩ := m6 x (hsub x hx)
    obtain ⟨b', cs', f1, f2, _⟩ := mm0.ob x hx
    rw [at_ x hx] at g1
    have := denL_ext q f2
    rw [g2] at this
    injection this with this
    subst this
    exact ⟨b, cs, g1, f2, g3⟩
  · have := m9 x (hsub x hx) b (by rw [at_ x hx]; exact hb)
    cases e' : h' b with
    | none => rfl
    | some ob => rw [s1 b ob e'] at this; cases this
theorem heavy_step {G : Gl} {all : List Oper} {Q : Exit → Act → World → Prop} {F : Array Bool → Bool} {K : St → Prop} {n : Nat} {kp : Bool} {st0 : St} {ρ0 : List Nat} {ls : Array Bool} {st : St} {ρ : List Nat} {a : Act} {w : World} (hx : ∀ e a w, PXE G e a w → Q e a w) (inv : HeadInv .any all.toArray n ls) (m : Tm G st ρ a) (mm : Mem G st ρ w) (hk : kp = true → Since G st0 st ρ0 ρ w)
    (i : Nat) (t : Tr) (hi : i ∈ Region.ready .any all.toArray ls) (hin : i < n) (hB : treeB all.toArray n F t (ls.setIfInBounds i true) = true) (h : heavyG G all kp st0 i st fun st => treeG G all kp st0 t st K)
    (ih : ∀ ls st ρ a w, HeadInv .any all.toArray n ls → treeB all.toArray n F t ls = true → treeG G all kp st0 t st K → Tm G st ρ a → Mem G st ρ w → (kp = true → Since G st0 st ρ0 ρ w) → HdG G.P all.toArray Q (fun w => kp = true → Mem G st0 ρ0 w) n (fun ls a w => (F ls = true ∧ (Region.ready .any all.toArray ls).all (fun j => decide (n ≤ j)) = true) ∧ ∃ st ρ, K st ∧ Tm G st ρ a ∧ Mem G st ρ w) t.len ls a w) :
    wpOp G.P all.toArray Q i (fun a' w' => (kp = true → Mem G st0 ρ0 w') ∧ HdG G.P all.toArray Q (fun w => kp = true → Mem G st0 ρ0 w) n (fun ls a w => (F ls = true ∧ (Region.ready .any all.toArray ls).all (fun j => decide (n ≤ j)) = true) ∧ ∃ st ρ, K st ∧ Tm G st ρ a ∧ Mem G st ρ w) t.len (ls.setIfInBounds i true) a' w') a w := by
  unfold heavyG at h
  split at h
  · rename_i o ho'
    have ho2 : all.toArray[i]? = some o := by simpa using ho'
    split at h
    · rename_i hg
      unfold wpOp
      simp only [ho2]
      rw [if_pos (wanted_none hg _)]
      left
      refine Oper.wp_mono (fun a' w' ⟨st', ρ', k', m', mm', ex'⟩ => ?_) ((op1_soundX (heavy_op h) good_stp).2 ρ a w Q hx m mm)
      obtain ⟨_, hkeep, k'⟩ := stp_iff.1 k'
      have mm2 : kp = true → Since G st0 { st' with c := True } ρ0 ρ' w' := fun hkp => by
        have hk := hk hkp
        obtain ⟨q, rfl⟩ := hk.ext
        obtain ⟨q', rfl⟩ := ex'
        have hx : ∃ m, ρ0 ++ q ++ q' = ρ0 ++ m := ⟨q ++ q', by rw [List.append_assoc]⟩
        exact ⟨hx, kept_since hk.mem hx (mm'.same (st' := { st' with c := True }) rfl rfl rfl) (hkeep hkp)⟩
      exact ⟨fun e => (mm2 e).mem, ih _ _ _ a' w' (inv.set hi hin) hB k' (m'.same rfl) (mm'.same rfl rfl rfl) mm2⟩
    · exact h.elim
  · exact h.elim
theorem tree_sound {G : Gl} {all : List Oper} {Q : Exit → Act → World → Prop} {F : Array Bool → Bool} {K : St → Prop} {n : Nat} {kp : Bool} {st0 : St} {ρ0 : List Nat} (hx : ∀ e a w, PXE G e a w → Q e a w) (hsel : Region.noSelect all.toArray = true) (hQ : ∀ o ∈ all, ∀ v c a w, Q (.panic c) (Act.put a o.dst v) w → Q (.panic c) a w) (hn : wallB all.toArray n) (hK : Good K) :
    ∀ (g : Tr) (ls : Array Bool) (st : St) (ρ : List Nat) (a : Act) (w : World), HeadInv .any all.toArray n ls → treeB all.toArray n F g ls = true → treeG G all kp st0 g st K → Tm G st ρ a → Mem G st ρ w → (kp = true → Since G st0 st ρ0 ρ w) →
      HdG G.P all.toArray Q (fun w => kp = true → Mem G st0 ρ0 w) n (fun ls a w => (F ls = true ∧ (Region.ready .any all.toArray ls).all (fun j => decide (n ≤ j)) = true) ∧ ∃ st ρ, K st ∧ Tm G st ρ a ∧ Mem G st ρ w) g.len ls a w
  | .E, ls, st, ρ, a, w, inv, hB, h, m, mm, hk => by
    simp only [treeB, Bool.and_eq_true] at hB
    exact ⟨hB, st, ρ, h, m, mm⟩
  | .T k r, ls, st, ρ, a, w, inv, hB, h, m, mm, hk => by
    simp only [treeB, Bool.and_eq_true, decide_eq_true_eq] at hB
    obtain ⟨hkn, hr, hf, hB⟩ := hB
    unfold treeG at h
    split at h
    rotate_left
    · exact h.elim
    have hk := hk rfl
    split at h
    · rename_i o ho'
      have ho2 : all.toArray[k]? = some o := by simpa using ho'
      have hr' : k ∈ Region.ready .any all.toArray ls := by simpa using hr
      rw [atK_eq] at h
      simp only [reK_eq] at h
      obtain ⟨q, rfl⟩ := hk.ext
      have m1 : Tm G (atS st0 st) (ρ0 ++ q) a := m.same rfl
      obtain ⟨v, st', k', s', m', hy⟩ := takeG2 (st0 := st0) (st := atS st0 st) (F := fun st' => treeG G all true st0 r ⟨st'.t, st.o, st.n, st.h, st'.c⟩ K) rfl h (fun st' h' => treeG_good hK r ⟨st'.t, st.o, st.n, st.h, st'.c⟩ h') m1 hk.mem
      refine HdG.take ho2 hsel hn hkn (fun c a w => hQ _ (List.mem_of_getElem? ho') _ c a w) (fun ls a w hL j hj => ?_) r.len ls a w inv (Region.free_spec ho2 hf) hr' (hy.imp_left fun ⟨h1, h2⟩ => ⟨h1, fun w hw => h2 w (hw rfl)⟩) (fun _ => hk.mem) ?_
      · have := List.all_eq_true.1 hL.1.2 j hj
        simpa using this
      · exact tree_sound hx hsel hQ hn hK r _ _ (ρ0 ++ q) _ w (inv.set hr' hkn) hB k' (m'.same rfl) (mm.same rfl rfl rfl) fun _ => ⟨⟨q, rfl⟩, hk.mem⟩
    · exact h.elim
  | .H k r, ls, st, ρ, a, w, inv, hB, h, m, mm, hk => by
    simp only [treeB, Bool.and_eq_true, decide_eq_true_eq] at hB
    obtain ⟨hkn, hr, hB⟩ := hB
    have hr' : k ∈ Region.ready .any all.toArray ls := by rw [hr]; simp
    refine ⟨List.ne_nil_of_mem hr', fun i hi => ?_⟩
    rw [hr] at hi
    have hik : i = k := by simpa using hi
    subst hik
    refine ⟨hkn, ?_⟩
    have h : heavyG G all kp st0 i st fun st => treeG G all kp st0 r st K := h
    unfold heavyG at h
    split at h
    · rename_i o ho'
      have ho2 : all.toArray[i]? = some o := by simpa using ho'
      split at h
      · rename_i hg
        unfold wpOp
        simp only [ho2]
        rw [if_pos (wanted_none hg _)]
        left
        refine Oper.wp_mono (fun a' w' ⟨st', ρ', k', m', mm', ex'⟩ => ?_) ((op1_soundX (heavy_op h) good_stp).2 ρ a w Q hx m mm)
        obtain ⟨_, hkeep, k'⟩ := stp_iff.1 k'
        have mm2 : kp = true → Since G st0 { st' with c := True } ρ0 ρ' w' := fun hkp => by
          have hk := hk hkp
          obtain ⟨q, rfl⟩ := hk.ext
          obtain ⟨q', rfl⟩ := ex'
          have hx : ∃ m, ρ0 ++ q ++ q' = ρ0 ++ m := ⟨q ++ q', by rw [List.append_assoc]⟩
          exact ⟨hx, kept_since hk.mem hx (mm'.same (st' := { st' with c := True }) rfl rfl rfl) (hkeep hkp)⟩
        exact ⟨fun e => (mm2 e).mem, tree_sound hx hsel hQ hn hK r _ _ _ a' w' (inv.set hr' hkn) hB k' (m'.same rfl) (mm'.same rfl rfl rfl) mm2⟩
      · exact h.elim
    · exact h.elim
  | .C k r j s, ls, st, ρ, a, w, inv, hB, h, m, mm, hk => by
    simp only [treeB, Bool.and_eq_true, decide_eq_true_eq] at hB
    obtain ⟨hkn, hjn, hr, hlen, hB1, hB2⟩ := hB
    have hk' : k ∈ Region.ready .any all.toArray ls := by rw [hr]; simp
    have hj' : j ∈ Region.ready .any all.toArray ls := by rw [hr]; simp
    have h : (heavyG G all kp st0 k st fun st => treeG G all kp st0 r st K) ∧ (heavyG G all kp st0 j st fun st => treeG G all kp st0 s st K) := h
    have step := fun i t => heavy_step (F := F) (K := K) (Q := Q) (st0 := st0) hx inv m mm hk i t
    refine ⟨List.ne_nil_of_mem hk', fun i hi => ?_⟩
    rw [hr] at hi
    have hik : i = k ∨ i = j := by simpa using hi
    rcases hik with rfl | rfl
    · exact ⟨hkn, step i r hk' hkn hB1 h.1 (tree_sound hx hsel hQ hn hK r)⟩
    · refine ⟨hjn, ?_⟩
      have := step i s hj' hjn hB2 h.2 (tree_sound hx hsel hQ hn hK s)
      rw [← hlen] at this
      exact this
  | .D k r j s i t, ls, st, ρ, a, w, inv, hB, h, m, mm, hk => by
    simp only [treeB, Bool.and_eq_true, decide_eq_true_eq] at hB
    obtain ⟨hkn, hjn, hin, hr, ⟨hlen, hlen2⟩, hB1, hB2, hB3⟩ := hB
    have hk' : k ∈ Region.ready .any all.toArray ls := by rw [hr]; simp
    have hj' : j ∈ Region.ready .any all.toArray ls := by rw [hr]; simp
    have hi' : i ∈ Region.ready .any all.toArray ls := by rw [hr]; simp
    have h : (heavyG G all kp st0 k st fun st => treeG G all kp st0 r st K) ∧ (heavyG G all kp st0 j st fun st => treeG G all kp st0 s st K) ∧ (heavyG G all kp st0 i st fun st => treeG G all kp st0 t st K) := h
    have step := fun i t => heavy_step (F := F) (K := K) (Q := Q) (st0 := st0) hx inv m mm hk i t
    refine ⟨List.ne_nil_of_mem hk', fun q hq => ?_⟩
    rw [hr] at hq
    have hik : q = k ∨ q = j ∨ q = i := by simpa using hq
    rcases hik with rfl | rfl | rfl
    · exact ⟨hkn, step q r hk' hkn hB1 h.1 (tree_sound hx hsel hQ hn hK r)⟩
    · refine ⟨hjn, ?_⟩
      have := step q s hj' hjn hB2 h.2.1 (tree_sound hx hsel hQ hn hK s)
      rw [← hlen] at this
      exact this
    · refine ⟨hin, ?_⟩
      have := step q t hi' hin hB3 h.2.2 (tree_sound hx hsel hQ hn hK t)
      rw [← hlen2] at this
      exact this
theorem trees_sound {G : Gl} {all : List Oper} {Q : Exit → Act → World → Prop} {K : St → Prop} (hx : ∀ e a w, PXE G e a w → Q e a w) (hsel : Region.noSelect all.toArray = true) (hQ : ∀ o ∈ all, ∀ v c a w, Q (.panic c) (Act.put a o.dst v) w → Q (.panic c) a w) (hend : ∀ st ρ a w, K st → Tm G st ρ a → Mem G st ρ w → Q .normal a w) :
    ∀ (gs : List (Tr × Nat)) (ls : Array Bool) (st : St) (ρ : List Nat) (a : Act) (w : World), treesB all.toArray gs ls = true → treesG G all gs st K → Tm G st ρ a → Mem G st ρ w → wpAny G.P .any all.toArray Q (treeLen gs) ls a w
  | [], ls, st, ρ, a, w, hB, h, m, mm => by
    simp only [treesB, decide_eq_true_eq] at hB
    exact ⟨hB, hend { st with c := True } ρ a w (stp_iff.1 h).2 (m.same rfl) (mm.same rfl rfl rfl)⟩
  | (g, n) :: r, ls, st, ρ, a, w, hB, h, m, mm => by
    simp only [treesB, Bool.and_eq_true, Bool.or_eq_true, decide_eq_true_eq] at hB
    obtain ⟨hw, hh, hs⟩ := hB
    have h : asK st fun st => treeG G all g.hasT st g st fun st => treesG G all r st K := h
    rw [asK_eq] at h
    have key := tree_sound (F := fun ls' => treesB all.toArray r ls') (kp := g.hasT) (st0 := st) (ρ0 := ρ) hx hsel hQ hw (treesG_good r) g ls st ρ a w (headW_spec hh) hs h m mm fun _ => ⟨⟨[], by simp⟩, mm⟩
    exact HdG.any (g := treeLen r) (fun ls' a' w' ⟨⟨hF, _⟩, st', ρ', k, m', mm'⟩ => trees_sound hx hsel hQ hend r ls' st' ρ' a' w' hF k m' mm') _ _ _ _ key
/-- a region that draws its order, by groups in which two operations may come up at once -/
theorem RegAt.trees {G : Gl} {id : Nat} {l : List Oper} {st : St} {K : St → Prop} (gs : List (Tr × Nat)) (hm : G.P.follows .mixedOrders = true) (hB : treesOk l gs = true) (h : treesG G l gs st K) (hax : axFree G.AX l = true := by rfl) : RegAt G id l.toArray st K := by
  simp only [treesOk, Bool.and_eq_true, decide_eq_true_eq] at hB
  obtain ⟨h1, h2, h3⟩ := hB
  refine .mk fun ρ a w m mm => ?_
  refine wp_region_any hm ?_
  have key := trees_sound (Q := fun e a' w' => (e = .normal ∧ ∃ st' ρ', K st' ∧ Tm G st' ρ' a' ∧ Mem G st' ρ' w') ∨ PXE G e a' w') (fun e a w hp => .inr hp) h1 (fun o ho v c a w hq => by rcases hq with ⟨hq, _⟩ | hq; cases hq; exact .inr (hq.put (axFree_spec hax o ho))) (fun st ρ a w k m mm => .inl ⟨rfl, st, ρ, k, m, mm⟩) gs _ st ρ a _ h3 h m mm.drew
  rw [h2] at key
  simpa using key
end Sy
end Go.Proofs.YtkichbggmgppmaaDoor

/-
  Symbolic runs: a round's end where other objects bear the names of the round's start.
-/
namespace Go.Proofs.YtkichbggmgppmaaDoor
open Go.RowKit
namespace Sy
set_option linter.unusedVariables false
set_option linter.unusedSimpArgs false

def renV (is : List Nat) : SV → Option SV
  | .p m off => match is[m]? with
    | some j => some (.p j off)
    | none => none
  | x => some x
def renL (is : List Nat) : List SV → Option (List SV)
  | [] => some []
  | x :: l => match renV is x with
    | some y => match renL is l with
      | some r => some (y :: r)
      | none => none
    | none => none
def pickT (is : List Nat) (src : List (Nat × SV)) : List (Nat × SV) → Prop
  | [] => True
  | (t, x) :: r => (∃ y, renV is x = some y ∧ getT src t = some y) ∧ pickT is src r
def pickO (is : List Nat) (src : List (Nat × TypeId × List SV)) : List (Nat × TypeId × List SV) → Prop
  | [] => True
  | (k, x) :: r => (∃ j l, is[k]? = some j ∧ renL is x.2 = some l ∧ getO src j = some (x.1, l)) ∧ pickO is src r
def nodupB : List Nat → Bool
  | [] => true
  | x :: l => !l.contains x && nodupB l
theorem nodupB_spec : ∀ {l : List Nat}, nodupB l = true → l.Nodup
  | [], _ => by simp
  | x :: l, h => by
    simp only [nodupB, Bool.and_eq_true, Bool.not_eq_true'] at h
    rw [List.nodup_cons]
    refine ⟨fun c => ?_, nodupB_spec h.2⟩
    have : l.contains x = true := by simpa using c
    rw [this] at h
    cases h.1
theorem pickT_get {is : List Nat} {src : List (Nat × SV)} : ∀ {l : List (Nat × SV)} {t : Nat} {x : SV}, pickT is src l → getT l t = some x → ∃ y, renV is x = some y ∧ getT src t = some y
  | [], t, x, _, h => by cases h
  | (k, y) :: l, t, x, hl, h => by
    simp only [getT] at h
    split at h
    · rename_i e
      have := beq_of e
      subst this
      injection h with h
      subst h
      exact hl.1
    · exact pickT_get hl.2 h
theorem pickO_mem {is : List Nat} {src : List (Nat × TypeId × List SV)} : ∀ {l : List (Nat × TypeId × List SV)} {x : Nat × TypeId × List SV}, pickO is src l → x ∈ l → ∃ j r, is[x.1]? = some j ∧ renL is x.2.2 = some r ∧ getO src j = some (x.2.1, r)
  | [], x, _, h => by cases h
  | (k, y) :: l, x, hl, h => by
    rcases List.mem_cons.1 h with rfl | h
    · exact hl.1
    · exact pickO_mem hl.2 h
/-- the named blocks anew -/
def pickR (is ρ : List Nat) : List Nat := is.map fun j => ρ.getD j 0
theorem pickR_at {is ρ : List Nat} {k j : Nat} (h : is[k]? = some j) (hj : j < ρ.length) : (pickR is ρ)[k]? = ρ[j]? := by
  unfold pickR
  rw [List.getElem?_map, h, List.getElem?_eq_getElem hj]
  simp [List.getD_eq_getElem?_getD, List.getElem?_eq_getElem hj]
theorem den_pick {is ρ : List Nat} (hlt : ∀ j ∈ is, j < ρ.length) {x y : SV} (h : renV is x = some y) : x.den (pickR is ρ) = y.den ρ := by
  cases x with
  | v x => simp only [renV, Option.some.injEq] at h; subst h; rfl
  | k b => simp only [renV, Option.some.injEq] at h; subst h; rfl
  | p m off =>
    simp only [renV] at h
    cases hj : is[m]? with
    | none => rw [hj] at h; cases h
    | some j =>
      rw [hj] at h
      simp only [Option.some.injEq] at h
      subst h
      simp only [SV.den]
      rw [pickR_at hj (hlt j (List.mem_of_getElem? hj))]
theorem denL_pick {is ρ : List Nat} (hlt : ∀ j ∈ is, j < ρ.length) : ∀ {l r : List SV}, renL is l = some r → denL (pickR is ρ) l = denL ρ r
  | [], r, h => by simp only [renL, Option.some.injEq] at h; subst h; rfl
  | x :: l, r, h => by
    unfold renL at h
    split at h
    · rename_i y hy
      split at h
      · rename_i r' hr
        injection h with h
        subst h
        have h1 := den_pick hlt hy
        have h2 := denL_pick hlt hr
        unfold denL at *
        rw [List.mapM_cons, List.mapM_cons, h1, h2]
      · cases h
    · cases h
theorem Le.pick {G : Gl} {st st' : St} (is : List Nat) (hn : is.length = st'.n) (hlt : is.all (fun j => Nat.blt j st.n) = true) (hnd : nodupB is = true) (hB : is.take G.B.length = List.range G.B.length) (ht : pickT is st.t st'.t) (ho : pickO is st.o st'.o) (hno : nodupB (st'.o.map (·.1)) = true)
    (hh : ∀ h, sepL st.h G.R h → ∃ h', (∀ i o, h' i = some o → h i = some o) ∧ sepL st'.h G.R h') : Le G st st' := by
  intro ρ a w m mm
  obtain ⟨m1, m2, m3, m4, m5, m6, mk, h, m7, m8, m9⟩ := mm
  obtain ⟨h', hs, hp⟩ := hh h m8
  have hl : ∀ j ∈ is, j < ρ.length := fun j hj => by
    have := List.all_eq_true.1 hlt j hj
    rw [m2]
    exact Nat.le_of_ble_eq_true this
  have hnd' := nodupB_spec hnd
  refine ⟨pickR is ρ, ⟨m.size, m.defs, fun t x e => ?_⟩, ⟨m1, ?_, ?_, fun b hb => ?_, nodupB_spec hno, fun x hx => ?_, ?_, h', m7.mono hs, hp, fun x hx b e => ?_⟩⟩
  · obtain ⟨y, e1, e2⟩ := pickT_get ht e
    rw [den_pick hl e1]
    exact m.get t y e2
  · rw [← hn]; simp [pickR]
  · refine List.pairwise_iff_getElem.2 fun i j hil hjl hij e => ?_
    have hjl' : j < is.length := by simpa [pickR] using hjl
    have hi : i < is.length := by omega
    have e : (pickR is ρ)[i]? = (pickR is ρ)[j]? := by rw [List.getElem?_eq_getElem hil, List.getElem?_eq_getElem hjl, e]
    have a1 := pickR_at (ρ := ρ) (List.getElem?_eq_getElem hi) (hl _ (List.getElem_mem hi))
    have a2 := pickR_at (ρ := ρ) (List.getElem?_eq_getElem hjl') (hl _ (List.getElem_mem hjl'))
    rw [a1, a2] at e
    have b1 := hl _ (List.getElem_mem hi)
    have b2 := hl _ (List.getElem_mem hjl')
    rw [List.getElem?_eq_getElem b1, List.getElem?_eq_getElem b2] at e
    injection e with e
    have := (List.getElem_inj m3).1 e
    have := (List.getElem_inj hnd').1 this
    omega
  · obtain ⟨k, hk, e⟩ := List.mem_iff_getElem.1 hb
    have hk' : k < is.length := by simpa [pickR] using hk
    have a1 := pickR_at (ρ := ρ) (List.getElem?_eq_getElem hk') (hl _ (List.getElem_mem hk'))
    rw [List.getElem?_eq_getElem hk, List.getElem?_eq_getElem (hl _ (List.getElem_mem hk'))] at a1
    injection a1 with a1
    rw [← e, a1]
    exact m4 _ (List.getElem_mem _)
  · obtain ⟨j, r, e1, e2, e3⟩ := pickO_mem ho hx
    obtain ⟨b, cs, f1, f2, f3⟩ := m6 _ (getO_mem e3)
    exact ⟨b, cs, by rw [pickR_at e1 (hl j (List.mem_of_getElem? e1))]; exact f1, by rw [denL_pick hl e2]; exact f2, f3⟩
  · obtain ⟨q, rfl⟩ := mk
    refine ⟨pickR (is.drop G.B.length) (G.B ++ q), ?_⟩
    have : pickR is (G.B ++ q) = pickR (is.take G.B.length) (G.B ++ q) ++ pickR (is.drop G.B.length) (G.B ++ q) := by unfold pickR; rw [← List.map_append, List.take_append_drop]
    rw [this, hB]
    congr 1
    apply List.ext_getElem?
    intro i
    by_cases c : i < G.B.length
    · rw [pickR_at (by rw [List.getElem?_range c]) (by simp; omega), List.getElem?_append_left c]
    · rw [List.getElem?_eq_none (by simp [pickR]; omega), List.getElem?_eq_none (by omega)]
  · obtain ⟨j, r, e1, e2, e3⟩ := pickO_mem ho hx
    rw [pickR_at e1 (hl j (List.mem_of_getElem? e1))] at e
    have := m9 _ (getO_mem e3) b e
    cases e' : h' b with
    | none => rfl
    | some o => rw [hs b o e'] at this; cases this
/-- .. and all orders come to one state -/
theorem RegAt.joins {G : Gl} {id : Nat} {l : List Oper} {st : St} {K : St → Prop} (gs : List (Tr × Nat)) (Kp : List Nat) (S : List (Nat × SV)) (O : List (Nat × TypeId × List SV)) (nn : Nat) (H : List HP) (hm : G.P.follows .mixedOrders = true) (hB : treesOk l gs = true)
    (h : treesG G l gs st fun st' => Le G st' ⟨S ++ keepT st.t Kp, O, nn, H, True⟩) (k : forceL (S ++ keepT st.t Kp) fun t => K ⟨t, O, nn, H, True⟩) (hax : axFree G.AX l = true := by rfl) : RegAt G id l.toArray st K := by
  obtain ⟨h⟩ := RegAt.trees (id := id) gs hm hB h hax
  refine .mk fun ρ a w m mm => ?_
  refine wp_mono (h ρ a w m mm) ?_
  rintro e a' w' (⟨rfl, st', ρ', hle, m', mm'⟩ | hp)
  · obtain ⟨ρ2, m2, mm2⟩ := hle ρ' a' w' m' mm'
    exact .inl ⟨rfl, _, ρ2, forceL_eq k, m2, mm2⟩
  · exact .inr hp
def asK0 (st : St) (K : St → St → Prop) : Prop := match st with
  | ⟨t, o, n, h, c⟩ => K ⟨t, o, n, [], c⟩ ⟨t, o, n, h, c⟩
theorem asK0_eq (st : St) (K : St → St → Prop) : asK0 st K = K { st with h := [] } st := by cases st; rfl
/-- groups that keep the objects, and what is only read -/
def treesG0 (G : Gl) (all : List Oper) : List (Tr × Nat) → St → (St → Prop) → Prop
  | [], st, K => stp st K
  | (g, _) :: r, st, K => asK0 st fun st0 st => treeG G all g.hasT st0 g st fun st => treesG0 G all r st K
theorem treesG0_good {G : Gl} {all : List Oper} {K : St → Prop} : ∀ gs : List (Tr × Nat), Good fun st => treesG0 G all gs st K
  | [] => good_stp
  | (g, n) :: r => fun st h => by
    have h : asK0 st fun st0 st => treeG G all g.hasT st0 g st fun st => treesG0 G all r st K := h
    rw [asK0_eq] at h
    exact treeG_good (treesG0_good r) g _ h
theorem trees0_sound {G : Gl} {all : List Oper} {Q : Exit → Act → World → Prop} {K : St → Prop} (hx : ∀ e a w, PXE G e a w → Q e a w) (hsel : Region.noSelect all.toArray = true) (hQ : ∀ o ∈ all, ∀ v c a w, Q (.panic c) (Act.put a o.dst v) w → Q (.panic c) a w) (hend : ∀ st ρ a w, K st → Tm G st ρ a → Mem G st ρ w → Q .normal a w) :
    ∀ (gs : List (Tr × Nat)) (ls : Array Bool) (st : St) (ρ : List Nat) (a : Act) (w : World), treesB all.toArray gs ls = true → treesG0 G all gs st K → Tm G st ρ a → Mem G st ρ w → wpAny G.P .any all.toArray Q (treeLen gs) ls a w
  | [], ls, st, ρ, a, w, hB, h, m, mm => by
    simp only [treesB, decide_eq_true_eq] at hB
    exact ⟨hB, hend { st with c := True } ρ a w (stp_iff.1 h).2 (m.same rfl) (mm.same rfl rfl rfl)⟩
  | (g, n) :: r, ls, st, ρ, a, w, hB, h, m, mm => by
    simp only [treesB, Bool.and_eq_true, Bool.or_eq_true, decide_eq_true_eq] at hB
    obtain ⟨hw, hh, hs⟩ := hB
    have h : asK0 st fun st0 st => treeG G all g.hasT st0 g st fun st => treesG0 G all r st K := h
    rw [asK0_eq] at h
    have key := tree_sound (F := fun ls' => treesB all.toArray r ls') (kp := g.hasT) (st0 := { st with h := [] }) (ρ0 := ρ) hx hsel hQ hw (treesG0_good r) g ls st ρ a w (headW_spec hh) hs h m mm fun _ => ⟨⟨[], by simp⟩, mem_nil mm⟩
    exact HdG.any (g := treeLen r) (fun ls' a' w' ⟨⟨hF, _⟩, st', ρ', k, m', mm'⟩ => trees0_sound hx hsel hQ hend r ls' st' ρ' a' w' hF k m' mm') _ _ _ _ key
theorem RegAt.trees0 {G : Gl} {id : Nat} {l : List Oper} {st : St} {K : St → Prop} (gs : List (Tr × Nat)) (hm : G.P.follows .mixedOrders = true) (hB : treesOk l gs = true) (h : treesG0 G l gs st K) (hax : axFree G.AX l = true := by rfl) : RegAt G id l.toArray st K := by
  simp only [treesOk, Bool.and_eq_true, decide_eq_true_eq] at hB
  obtain ⟨h1, h2, h3⟩ := hB
  refine .mk fun ρ a w m mm => ?_
  refine wp_region_any hm ?_
  have key := trees0_sound (Q := fun e a' w' => (e = .normal ∧ ∃ st' ρ', K st' ∧ Tm G st' ρ' a' ∧ Mem G st' ρ' w') ∨ PXE G e a' w') (fun e a w hp => .inr hp) h1 (fun o ho v c a w hq => by rcases hq with ⟨hq, _⟩ | hq; cases hq; exact .inr (hq.put (axFree_spec hax o ho))) (fun st ρ a w k m mm => .inl ⟨rfl, st, ρ, k, m, mm⟩) gs _ st ρ a _ h3 h m mm.drew
  rw [h2] at key
  simpa using key
theorem RegAt.joins0 {G : Gl} {id : Nat} {l : List Oper} {st : St} {K : St → Prop} (gs : List (Tr × Nat)) (Kp : List Nat) (S : List (Nat × SV)) (O : List (Nat × TypeId × List SV)) (nn : Nat) (H : List HP) (hm : G.P.follows .mixedOrders = true) (hB : treesOk l gs = true)
    (h : treesG0 G l gs st fun st' => Le G st' ⟨S ++ keepT st.t Kp, O, nn, H, True⟩) (k : forceL (S ++ keepT st.t Kp) fun t => K ⟨t, O, nn, H, True⟩) (hax : axFree G.AX l = true := by rfl) : RegAt G id l.toArray st K := by
  obtain ⟨h⟩ := RegAt.trees0 (id := id) gs hm hB h hax
  refine .mk fun ρ a w m mm => ?_
  refine wp_mono (h ρ a w m mm) ?_
  rintro e a' w' (⟨rfl, st', ρ', hle, m', mm'⟩ | hp)
  · obtain ⟨ρ2, m2, mm2⟩ := hle ρ' a' w' m' mm'
    exact .inl ⟨rfl, _, ρ2, forceL_eq k, m2, mm2⟩
  · exact .inr hp
end Sy
end Go.Proofs.YtkichbggmgppmaaDoor

