/-
  Symbolic runs: a region that draws its order, reads, and at its end makes a variable of what it has read.
-/
import Derived.Test.YteplckkoiffnnaaGreatDoorSyOwn
import Derived.Deep.RegionHeld
namespace Go.Proofs.YteplckkoiffnnaaGreatDoor
open Go.RowKit
namespace Sy
set_option linter.unusedVariables false
set_option linter.unusedSimpArgs false

/-- an operation that leaves the world alone -/
def opS (G : Gl) (o : Oper) (st : St) (K : St → Prop) : Prop :=
  match o.op with
  | .load t x => ev st x False fun vx => match vx with
    | .v (.pointer (some ad)) => stp st fun st => LoadAt G t ad st fun r => putK G st o.dst r none K
    | _ => q1 G.P G.tr st o False fun r q => putK G st o.dst r q K
  | _ => q1 G.P G.tr st o False fun r q => putK G st o.dst r q K
def Still1 (G : Gl) (o : Oper) (st : St) (K : St → Prop) : Prop :=
  st.c ∧ ∀ ρ a w0, Tm G st ρ a → Mem G st ρ w0 → ∃ v st', K st' ∧ SameM st st' ∧ (∀ w, Mem G st ρ w → (execOp a.eval o).run G.P w = .ok (.value v) w) ∧ Tm G st' ρ (a.put o.dst v)
theorem still_q1 {G : Gl} {o : Oper} {st : St} {K : St → Prop} (hK : Good K) (h : q1 G.P G.tr st o False fun r q => putK G st o.dst r q K) : Still1 G o st K := by
  rcases q1_sound h with h | ⟨x, q, h, hy⟩
  · exact h.elim
  · obtain ⟨⟨hc, hq⟩, hp⟩ := putK_same h hK
    refine ⟨hc, fun ρ a w0 m mm0 => ?_⟩
    have hy := hy hq
    obtain ⟨v, e1, e2⟩ := hy G ρ a w0 m mm0.ob
    obtain ⟨st', k, hs, m'⟩ := hp ρ a v e1 m
    refine ⟨v, st', k, hs, fun w' mm' => ?_, m'⟩
    obtain ⟨v', e3, e4⟩ := hy G ρ a w' m mm'.ob
    rw [e1] at e3
    injection e3 with e3
    subst e3
    exact e4
theorem opS_sound {G : Gl} {o : Oper} {st : St} {K : St → Prop} (h : opS G o st K) (hK : Good K) : Still1 G o st K := by
  unfold opS at h
  split at h
  case h_1 t x ho =>
    rcases ev_sound h with h | ⟨sx, h, ex⟩
    · exact h.elim
    split at h
    · rename_i ad
      obtain ⟨hc, ⟨r, hr, h⟩⟩ := stp_iff.1 h
      refine ⟨hc, fun ρ a w0 m mm0 => ?_⟩
      obtain ⟨_, hp⟩ := putK_same h hK
      obtain ⟨st', k, hs, m'⟩ := hp ρ a r rfl (m.same rfl)
      refine ⟨r, st', k, hs, fun w mm => ?_, m'⟩
      have h1 := ex G ρ a m
      simp only [SV.den, Option.some.injEq] at h1
      simp [execOp, ho, ← h1, hr ρ w (mm.same rfl rfl rfl)]
    · exact still_q1 hK h
  case h_2 => exact still_q1 hK h

/-- the operations that are left when the first k are through -/
def restB (ops : Array Oper) : Nat → Nat → Array Bool → Bool
  | 0, k, ls => decide (Region.ready .any ops ls = [k]) && (decide (Region.ready .any ops (ls.setIfInBounds k true) = [k + 1]) && decide (Region.ready .any ops ((ls.setIfInBounds k true).setIfInBounds (k + 1) true) = []))
  | f + 1, k, ls => (Region.ready .any ops ls).contains k && (Region.free .any ops ls k && restB ops f (k + 1) (ls.setIfInBounds k true))
def boxB (l : List Oper) (n : Nat) : Bool := Region.noSelect l.toArray && (decide (l.length = n + 2) && restB l.toArray n 0 (Array.replicate l.toArray.size false))

def chk (cs : List SV) (size : Nat) (A : Prop) : Prop := match Nat.beq cs.length size with
  | true => match oneL cs with
    | true => A
    | false => False
  | false => False
theorem chk_sound {cs : List SV} {size : Nat} {A : Prop} (h : chk cs size A) : cs.length = size ∧ oneL cs = true ∧ A := by
  unfold chk at h
  split at h
  · rename_i e
    split at h
    · rename_i e'; exact ⟨beq_of e, e', h⟩
    · exact h.elim
  · exact h.elim
/-- the variable is made, and takes its value -/
def mkBox (G : Gl) (d : Nat) (t : TypeId) (y : Operand) (size : Nat) (st : St) (K : St → Prop) : Prop := ev st y False fun vy => cellsK vy fun cs => chk cs size (newO G (some d) t cs st K)
theorem mkBox_sound {G : Gl} {d : Nat} {t : TypeId} {y : Operand} {size : Nat} {st : St} {K : St → Prop} (h : mkBox G d t y size st K) : ∃ (vy : SV) (cs : List SV), (∀ G ρ a, Tm G st ρ a → vy.den ρ = some (a.eval y)) ∧ (∀ ρ v, vy.den ρ = some v → denL ρ cs = some v.cells.toList) ∧ cs.length = size ∧ oneL cs = true ∧ newO G (some d) t cs st K := by
  rcases ev_sound h with h | ⟨s, h, e⟩
  · exact h.elim
  obtain ⟨cs, h, hd⟩ := cellsK_sound h
  obtain ⟨h1, h2, h3⟩ := chk_sound h
  exact ⟨s, cs, e, hd, h1, h2, h3⟩

theorem held_ops {G : Gl} {all : List Oper} {ρ : List Nat} {S : World → Prop} {Q : Exit → Act → World → Prop} {F : St → Prop} (hsel : Region.noSelect all.toArray = true) (hF : Good F) (hQ : ∀ o ∈ all, ∀ v c a w, Q (.panic c) (Act.put a o.dst v) w → Q (.panic c) a w) :
    ∀ (l : List Oper) (k : Nat) (ls : Array Bool) (st : St) (a : Act) (w : World), (∀ j, j < l.length → l[j]? = all[k + j]?) → (∀ w, S w → Mem G st ρ w) → S w → restB all.toArray l.length k ls = true → opsG (opS G) G all l st F → Tm G st ρ a →
      (∀ st' a' ls', SameM st st' → F st' → Tm G st' ρ a' → restB all.toArray 0 (k + l.length) ls' = true → wpAnyH G.P .any all.toArray Q S 2 ls' a' w) → wpAnyH G.P .any all.toArray Q S (l.length + 2) ls a w := by
  intro l
  induction l with
  | nil =>
    intro k ls st a w _ _ _ hB h m fin
    simp only [List.length_nil, Nat.zero_add]
    exact fin st a ls ⟨rfl, rfl, rfl⟩ h m (by simpa using hB)
  | cons o l ih =>
    intro k ls st a w hl hS hw hB h m fin
    have h0 : all.toArray[k]? = some o := by simpa using (hl 0 (by simp)).symm
    simp only [List.length_cons, restB, Bool.and_eq_true] at hB
    obtain ⟨hr, hf, hB'⟩ := hB
    have good : ∀ l, Good (fun st => opsG (opS G) G all l st F) := by
      intro l
      induction l with
      | nil => exact hF
      | cons o l ihg =>
        intro st h
        unfold opsG at h
        split at h
        · exact (opS_sound h ihg).1
        · rename_i j want hg
          split at h
          · split at h
            · split at h
              · split at h
                · exact (opS_sound h ihg).1
                · exact (putK_same h ihg).1.1
              · rename_i b hx
                by_cases hb : b = want
                · exact (opS_sound (h.1 hb) ihg).1
                · exact (putK_same (h.2 (by cases b <;> cases want <;> simp_all)) ihg).1.1
              · exact (putK_same h ihg).1.1
              · exact h.elim
            · exact h.elim
          · exact h.elim
    have step : ∀ (st1 st' : St) (a1 : Act) (v : Value), SameM st st1 → SameM st1 st' → opsG (opS G) G all l st' F → Tm G st' ρ (a1.put o.dst v) → a1 = a → YieldsIf G.P all.toArray S o v a → wpAnyH G.P .any all.toArray Q S ((o :: l).length + 2) ls a w := by
      rintro st1 st' a1 v s1 s2 k' m' rfl hy
      have s3 : SameM st st' := ⟨s2.1.trans s1.1, s2.2.1.trans s1.2.1, s2.2.2.trans s1.2.2⟩
      have : (o :: l).length + 2 = (l.length + 2) + 1 := by simp only [List.length_cons]
      rw [this]
      refine wpAnyH_take h0 hsel hf hr (fun c a w => hQ _ (List.mem_of_getElem? (by simpa using h0)) _ c a w) hy hw ?_
      refine ih (k + 1) _ st' _ w (fun j hj => ?_) (fun w hw => s3.mem.2 (hS w hw)) hw hB' k' m' ?_
      · have := hl (j + 1) (by simp; omega)
        simpa [Nat.add_assoc, Nat.add_comm 1 j] using this
      · intro st2 a2 ls2 s4 f2 m2 hb2
        refine fin st2 a2 ls2 ⟨s4.1.trans s3.1, s4.2.1.trans s3.2.1, s4.2.2.trans s3.2.2⟩ f2 m2 ?_
        have : k + (o :: l).length = k + 1 + l.length := by simp only [List.length_cons]; omega
        rw [this]; exact hb2
    have yes : ∀ st1 : St, SameM st st1 → Tm G st1 ρ a → (opS G o st1 fun st => opsG (opS G) G all l st F) → Region.wanted o (yielded all.toArray a.tmps) = true → wpAnyH G.P .any all.toArray Q S ((o :: l).length + 2) ls a w := by
      intro st1 s1 m1 h hwt
      obtain ⟨_, hq⟩ := opS_sound h (good l)
      obtain ⟨v, st', k', s2, hr', m'⟩ := hq ρ a w m1 (s1.mem.2 (hS w hw))
      exact step st1 st' a v s1 s2 k' m' rfl (.inl ⟨hwt, fun w hw => hr' w (s1.mem.2 (hS w hw))⟩)
    have no : ∀ st1 : St, SameM st st1 → Tm G st1 ρ a → (putK G st1 o.dst (.v undef) none fun st => opsG (opS G) G all l st F) → Region.wanted o (yielded all.toArray a.tmps) = false → wpAnyH G.P .any all.toArray Q S ((o :: l).length + 2) ls a w := by
      intro st1 s1 m1 h hwt
      obtain ⟨_, hp⟩ := putK_same h (good l)
      obtain ⟨st', k', s2, m'⟩ := hp ρ a undef rfl m1
      exact step st1 st' a undef s1 s2 k' m' rfl (.inr ⟨hwt, rfl⟩)
    unfold opsG at h
    split at h
    · rename_i hg
      exact yes st ⟨rfl, rfl, rfl⟩ m h (wanted_none hg _)
    · rename_i j want hg
      split at h
      · rename_i oj hj
        split at h
        · rename_i t ht
          split at h
          · rename_i b hx
            split at h
            · rename_i hb
              exact yes st ⟨rfl, rfl, rfl⟩ m h (by rw [wanted_eq hg hj ht hx rfl m, hb])
            · rename_i hb
              exact no st ⟨rfl, rfl, rfl⟩ m h (by rw [wanted_eq hg hj ht hx rfl m, hb])
          · rename_i b hx
            by_cases hb : b = want
            · subst hb
              exact yes (seen st t b) ⟨rfl, rfl, rfl⟩ (seen_tm m hx) (h.1 rfl) (by rw [wanted_eq hg hj ht hx rfl m]; simp)
            · have hb' : b = !want := by cases b <;> cases want <;> simp_all
              subst hb'
              exact no (seen st t (!want)) ⟨rfl, rfl, rfl⟩ (seen_tm m hx) (h.2 rfl) (by rw [wanted_eq hg hj ht hx rfl m]; simp)
          · rename_i hx
            exact no st ⟨rfl, rfl, rfl⟩ m h (wanted_undef hg hj ht hx m)
          · exact h.elim
        · exact h.elim
      · exact h.elim

theorem RegAt.box {G : Gl} {id : Nat} {l : List Oper} {st : St} {K : St → Prop} (n d : Nat) (t : TypeId) (y : Operand) {i : TypeInfo} {z : Value} {oa os : Oper} (hm : G.P.follows .mixedOrders = true) (hB : boxB l n = true) (ha : l[n]? = some oa) (hs : l[n + 1]? = some os)
    (ho1 : oa.op = .alloc t) (ho2 : oa.dst = some d) (ho3 : oa.guard = none) (hs1 : os.op = .store t (.tmp d) y) (hs2 : os.dst = none) (hs3 : os.guard = none) (hi : G.P.info? t = some i) (hz : i.zero = some z) (hzs : z.cells.size = i.size) (hyd : ∀ s, y = .tmp s → Nat.beq s d = false)
    (h : opsG (opS G) G l (l.take n) st fun st => mkBox G d t y i.size st fun st => stp st K) (hax : axFree G.AX l = true := by rfl) : RegAt G id l.toArray st K := by
  refine .mk fun ρ a w m mm => ?_
  simp only [boxB, Bool.and_eq_true, decide_eq_true_eq] at hB
  obtain ⟨hsel, hlen, hrest⟩ := hB
  have htl : (l.take n).length = n := by simp; omega
  have good : Good fun st => mkBox G d t y i.size st fun st => stp st K := by
    intro st h
    obtain ⟨_, _, _, _, _, _, h⟩ := mkBox_sound h
    exact (newO_sound h good_stp).1
  refine wp_region_held (S := fun w' => Below w.heap.size w w') hm ?_
  have hsz : l.toArray.size = (l.take n).length + 2 := by rw [htl]; simpa using hlen
  rw [hsz]
  have hw1 : Below w.heap.size w { w with drawn := w.drawn + 1 } := (Below.refl _ _).drew
  refine held_ops (ρ := ρ) (F := fun st => mkBox G d t y i.size st fun st => stp st K) hsel good (fun o ho v c a w hq => by rcases hq with ⟨hq, _⟩ | hq; cases hq; exact .inr (hq.put (axFree_spec hax o ho))) (l.take n) 0 _ st a _ (fun j hj => ?_) (fun w' hw' => mm.below hw') hw1 (by rw [htl, (show n + 2 = l.toArray.size from by rw [hsz, htl])]; exact hrest) h m ?_
  · rw [htl] at hj
    simp [hj]
  · intro st1 a1 ls s1 k m1 hb
    rw [htl, Nat.zero_add] at hb
    simp only [restB, Bool.and_eq_true, decide_eq_true_eq] at hb
    obtain ⟨b1, b2, b3⟩ := hb
    obtain ⟨vy, cs, hy1, hy2, hcl, hone, hnew⟩ := mkBox_sound k
    have ea : l.toArray[n]? = some oa := by simpa using ha
    have es : l.toArray[n + 1]? = some os := by simpa using hs
    refine wpAnyH_all b1 (by simp) fun j hj => ?_
    have hjn : n = j := (by simpa using hj : j = n).symm
    subst hjn
    unfold wpOp
    simp only [ea]
    rw [if_pos (wanted_none ho3 _)]
    left
    generalize hW : ({ w with drawn := w.drawn + 1 } : World) = W at *
    have hrun1 : (execOp a1.eval oa).run G.P W = .ok (.value (.pointer (some ⟨W.heap.size, 0, none⟩))) (W.alloc (.cells z.cells t)) := by
      simp [execOp, ho1, Instr.alloc, zeroValue, typeInfo, hi, hz, newVar, newRow, newObj]
      rfl
    unfold Oper.wp
    rw [hrun1]
    simp only [Oper.upon, ho2]
    have hW1 : Below w.heap.size w (W.alloc (.cells z.cells t)) := hw1.alloc hw1.size _
    refine ⟨hW1, wpAnyH_all b2 (by simp) fun j hj => ?_⟩
    have hjn : j = n + 1 := by simpa using hj
    subst hjn
    unfold wpOp
    simp only [es]
    rw [if_pos (wanted_none hs3 _)]
    left
    have mm1 : Mem G st1 ρ W := s1.mem.2 (mm.below hw1)
    have hlt : d < G.N := by
      obtain ⟨t', o', n', hh', c'⟩ := st1
      unfold newO at hnew
      simp only at hnew
      split at hnew
      · rename_i hi'; exact Nat.le_of_ble_eq_true hi'
      · exact hnew.elim
    have e1 : (a1.put (some d) (.pointer (some ⟨W.heap.size, 0, none⟩))).eval (.tmp d) = .pointer (some ⟨W.heap.size, 0, none⟩) := by
      simp [Act.eval, Act.put, m1.size, hlt]
    have e2 : (a1.put (some d) (.pointer (some ⟨W.heap.size, 0, none⟩))).eval y = a1.eval y := by
      refine Act.eval_put fun d' hd' hy' => ?_
      injection hd' with hd'
      subst hd'
      have := hyd _ hy'
      rw [Nat.beq_refl] at this
      cases this
    have hden := hy2 ρ _ (hy1 G ρ a1 m1)
    have hcsz : (a1.eval y).cells.size = i.size := by
      have := denL_length hden
      rw [← hcl, ← this]; simp
    have hblk : Blk (W.alloc (.cells z.cells t)) W.heap.size t z.cells := Blk.new _ _ _
    have hst := run_storeCells_at (P := G.P) W.heap.size 0 t (a1.eval y).cells.toList 0 z.cells (W.alloc (.cells z.cells t)) hblk (by simp; omega) (oneL_sound hone hden)
    have hcut : (z.cells.toList.take (0 + 0) ++ (a1.eval y).cells.toList ++ z.cells.toList.drop (0 + 0 + (a1.eval y).cells.toList.length)).toArray = (a1.eval y).cells := by
      rw [List.drop_eq_nil_of_le (by simp; omega)]
      simp
    rw [hcut] at hst
    have hrun2 : (execOp (a1.put (some d) (.pointer (some ⟨W.heap.size, 0, none⟩))).eval os).run G.P (W.alloc (.cells z.cells t)) = .ok .skip ((W.alloc (.cells z.cells t)).setRow W.heap.size (a1.eval y).cells) := by
      simp only [execOp, hs1, e1, e2, Instr.storeAt, Instr.sureAddr, storeVar, sizeOf, typeInfo, Sem.run_bind, Sem.run_pure, Result.andThen_ok]
      simp [hi, hcsz, hst]
    unfold Oper.wp
    rw [hrun2]
    simp only [Oper.upon, hs2]
    have hWa : (W.alloc (.cells z.cells t)).setRow W.heap.size (a1.eval y).cells = W.alloc (.cells (a1.eval y).cells t) := by
      simp only [World.alloc, World.setRow]
      congr 1
      apply Array.ext_getElem?
      intro q
      rw [Array.getElem?_modify]
      by_cases c : W.heap.size = q
      · subst c; simp
      · rw [if_neg c]
        simp only [Array.getElem?_push]
        rw [if_neg (fun x => c x.symm), if_neg (fun x => c x.symm)]
    rw [hWa]
    obtain ⟨_, hn⟩ := newO_sound hnew good_stp
    obtain ⟨st2, ρ2, k2, m2, mm2, _⟩ := hn ρ a1 W (a1.eval y).cells.toList hden m1 mm1
    refine ⟨hw1.alloc hw1.size _, wpAnyH_done b3 (.inl ⟨rfl, { st2 with c := True }, ρ2, (stp_iff.1 k2).2, ?_, ?_⟩) 0⟩
    · exact m2.same rfl
    · have := mm2.same (st' := { st2 with c := True }) rfl rfl rfl
      simpa using this

/-! groups: operations that only compute or read, in open order with a chain of others; behind a group comes what waits for all of it -/
inductive Stp | T (k : Nat) | H (k : Nat)
def stepsB (ops : Array Oper) (n : Nat) (F : Array Bool → Bool) : List Stp → Array Bool → Bool
  | [], ls => F ls && (Region.ready .any ops ls).all fun j => decide (n ≤ j)
  | .T k :: r, ls => decide (k < n) && ((Region.ready .any ops ls).contains k && (Region.free .any ops ls k && stepsB ops n F r (ls.setIfInBounds k true)))
  | .H k :: r, ls => decide (k < n) && (decide (Region.ready .any ops ls = [k]) && stepsB ops n F r (ls.setIfInBounds k true))
def grpsB (ops : Array Oper) : List (List Stp × Nat) → Array Bool → Bool
  | [], ls => decide (Region.ready .any ops ls = [])
  | (g, n) :: r, ls => (decide (ops.size ≤ n) || (decide (n < ops.size) && (Region.sinkB .any ops n && chainW ops n))) && (headW ops n ls && stepsB ops n (fun ls' => grpsB ops r ls') g ls)
def grpLen : List (List Stp × Nat) → Nat
  | [] => 0
  | (g, _) :: r => g.length + grpLen r
def groupsB (l : List Oper) (gs : List (List Stp × Nat)) : Bool := Region.noSelect l.toArray && (decide (grpLen gs = l.length) && grpsB l.toArray gs (Array.replicate l.toArray.size false))

def HdG (P : Program) (ops : Array Oper) (Q : Exit → Act → World → Prop) (S : World → Prop) (n : Nat) (L : Array Bool → Act → World → Prop) : Nat → Array Bool → Act → World → Prop
  | 0, ls, a, w => L ls a w
  | f + 1, ls, a, w => Region.ready .any ops ls ≠ [] ∧ ∀ i, i ∈ Region.ready .any ops ls → i < n ∧ wpOp P ops Q i (fun a' w' => S w' ∧ HdG P ops Q S n L f (ls.setIfInBounds i true) a' w') a w
theorem HdG.any {P : Program} {ops : Array Oper} {Q : Exit → Act → World → Prop} {S : World → Prop} {n g : Nat} {L : Array Bool → Act → World → Prop} (hL : ∀ ls a w, L ls a w → wpAny P .any ops Q g ls a w) :
    ∀ (f : Nat) (ls : Array Bool) (a : Act) (w : World), HdG P ops Q S n L f ls a w → wpAny P .any ops Q (f + g) ls a w
  | 0, ls, a, w, h => by rw [Nat.zero_add]; exact hL ls a w h
  | f + 1, ls, a, w, h => by
    rw [show f + 1 + g = (f + g) + 1 by omega]
    exact ⟨fun h0 => absurd h0 h.1, fun i hi => wpOp_mono (fun a' w' h' => HdG.any hL f _ a' w' h'.2) (h.2 i hi).2⟩
def wallB (ops : Array Oper) (n : Nat) : Prop := ops.size ≤ n ∨ (n < ops.size ∧ Region.sinkB .any ops n = true ∧ chainW ops n = true)
theorem wall_lt {ops : Array Oper} {n : Nat} (hn : wallB ops n) {ls : Array Bool} (inv : HeadInv .any ops n ls) {i : Nat} (hin : i < n) (hun : ls.getD i true = false) {j : Nat} (hj : j ∈ Region.ready .any ops ls) : j < n := by
  rcases hn with h | ⟨h1, h2, h3⟩
  · obtain ⟨_, oj, hoj, _⟩ := mem_ready.1 hj
    have := (Array.getElem?_eq_some_iff.1 hoj).1
    omega
  · exact Nat.lt_of_not_le fun c => tail_waitsW h2 h3 h1 inv _ i rfl hin hun j c hj
theorem HdG.take {P : Program} {ops : Array Oper} {Q : Exit → Act → World → Prop} {S : World → Prop} {n i : Nat} {oi : Oper} {v : Value} {L : Array Bool → Act → World → Prop} (hi : ops[i]? = some oi) (hsel : Region.noSelect ops = true) (hn : wallB ops n) (hin : i < n)
    (hQ : ∀ c a w, Q (.panic c) (a.put oi.dst v) w → Q (.panic c) a w) (hdone : ∀ ls a w, L ls a w → ∀ j ∈ Region.ready .any ops ls, n ≤ j) :
    ∀ (f : Nat) (ls : Array Bool) (a : Act) (w : World), HeadInv .any ops n ls →
      (∀ j oj, ops[j]? = some oj → j ≠ i → ls.getD j true = false → (∀ e ∈ oj.after, Region.binds .any e = true → e.on ≠ i) → oi.apart ops oj = true) →
      i ∈ Region.ready .any ops ls → YieldsIf P ops S oi v a → S w → HdG P ops Q S n L f (ls.setIfInBounds i true) (a.put oi.dst v) w → HdG P ops Q S n L (f + 1) ls a w := by
  have sel := Region.noSelect_spec hsel
  intro f
  induction f with
  | zero =>
    intro ls a w inv _ hr hy hS H
    have hun := (mem_ready.1 hr).1
    refine ⟨List.ne_nil_of_mem hr, fun j hj => ?_⟩
    have hjn := wall_lt hn inv hin hun hj
    refine ⟨hjn, ?_⟩
    by_cases hji : j = i
    · subst hji; exact hy.wpOp hi hS ⟨hS, H⟩
    · have := hdone _ _ _ H j (ready_mono hj hji)
      omega
  | succ f ih =>
    intro ls a w inv hfree hr hy hS H
    have hun := (mem_ready.1 hr).1
    refine ⟨List.ne_nil_of_mem hr, fun j hj => ?_⟩
    have hjn := wall_lt hn inv hin hun hj
    refine ⟨hjn, ?_⟩
    by_cases hji : j = i
    · subst hji; exact hy.wpOp hi hS ⟨hS, H⟩
    · have h1 := (H.2 j (ready_mono hj hji)).2
      obtain ⟨hjun, oj, hoj, hall⟩ := mem_ready.1 hj
      have hnot : ∀ e ∈ oj.after, Region.binds .any e = true → e.on ≠ i := by
        intro e he hb heq
        have h3 := hall e he hb
        rw [heq, getD_both hun] at h3
        cases h3
      have h2 := wpOp_putIf hoj (hfree j oj hoj hji hjun hnot) (fun cs b => sel i oi cs b hi) (fun cs b => sel j oj cs b hoj) hQ hy h1
      refine wpOp_mono (fun a' w' h3 => ⟨h3.2.1, ih (ls.setIfInBounds j true) a' w' (inv.set hj hjn) ?_ (ready_mono hr (Ne.symm hji)) h3.1 h3.2.1 ?_⟩) h2
      · intro k ok hk hki hunk hno
        refine hfree k ok hk hki ?_ hno
        by_cases hjk : j = k
        · subst hjk; exact hjun
        · rw [getD_set_ne true hjk] at hunk; exact hunk
      · rw [Array.setIfInBounds_comm _ _ hji]
        exact h3.2.2

/-- as opS; what is read stands in the memory at the group's start -/
def opT (G : Gl) (hs : List HP) (o : Oper) (st : St) (K : St → Prop) : Prop :=
  match o.op with
  | .load t x => ev st x False fun vx => match vx with
    | .v (.pointer (some ad)) => stp st fun st => LoadAt G t ad { st with h := hs } fun r => putK G st o.dst r none K
    | _ => q1 G.P G.tr st o False fun r q => putK G st o.dst r q K
  | _ => q1 G.P G.tr st o False fun r q => putK G st o.dst r q K
def TakeT (G : Gl) (hs : List HP) (o : Oper) (st : St) (K : St → Prop) : Prop :=
  st.c ∧ ∀ ρ a w0, Tm G st ρ a → Mem G { st with h := hs } ρ w0 → ∃ v st', K st' ∧ SameM st st' ∧ (∀ w, Mem G { st with h := hs } ρ w → (execOp a.eval o).run G.P w = .ok (.value v) w) ∧ Tm G st' ρ (a.put o.dst v)
theorem take_q1 {G : Gl} {hs : List HP} {o : Oper} {st : St} {K : St → Prop} (hK : Good K) (h : q1 G.P G.tr st o False fun r q => putK G st o.dst r q K) : TakeT G hs o st K := by
  rcases q1_sound h with h | ⟨x, q, h, hy⟩
  · exact h.elim
  · obtain ⟨⟨hc, hq⟩, hp⟩ := putK_same h hK
    refine ⟨hc, fun ρ a w0 m mm0 => ?_⟩
    have hy := hy hq
    obtain ⟨v, e1, e2⟩ := hy G ρ a w0 m mm0.ob
    obtain ⟨st', k, hs, m'⟩ := hp ρ a v e1 m
    refine ⟨v, st', k, hs, fun w' mm' => ?_, m'⟩
    obtain ⟨v', e3, e4⟩ := hy G ρ a w' m mm'.ob
    rw [e1] at e3
    injection e3 with e3
    subst e3
    exact e4
theorem opT_sound {G : Gl} {hs : List HP} {o : Oper} {st : St} {K : St → Prop} (h : opT G hs o st K) (hK : Good K) : TakeT G hs o st K := by
  unfold opT at h
  split at h
  case h_1 t x ho =>
    rcases ev_sound h with h | ⟨sx, h, ex⟩
    · exact h.elim
    split at h
    · rename_i ad
      obtain ⟨hc, ⟨r, hr, h⟩⟩ := stp_iff.1 h
      refine ⟨hc, fun ρ a w0 m mm0 => ?_⟩
      obtain ⟨_, hp⟩ := putK_same h hK
      obtain ⟨st', k, hs, m'⟩ := hp ρ a r rfl (m.same rfl)
      refine ⟨r, st', k, hs, fun w mm => ?_, m'⟩
      have h1 := ex G ρ a m
      simp only [SV.den, Option.some.injEq] at h1
      simp [execOp, ho, ← h1, hr ρ w (mm.same rfl rfl rfl)]
    · exact take_q1 hK h
  case h_2 => exact take_q1 hK h

/-- what a group leaves as it was -/
def Kept (G : Gl) (st0 st : St) : Prop := (st.o = st0.o ∧ st.n = st0.n) ∧ ∀ h, sepL st.h G.R h → ∃ h', (∀ i o, h' i = some o → h i = some o) ∧ sepL st0.h G.R h'
def grpG (G : Gl) (all : List Oper) (kp : Bool) (st0 : St) : List Stp → St → (St → Prop) → Prop
  | [], st, K => K st
  | .T k :: r, st, K => match kp with
    | true => match all[k]? with
      | some o => opsG (opT G st0.h) G all [o] st fun st => grpG G all kp st0 r st K
      | none => False
    | false => False
  | .H k :: r, st, K => match all[k]? with
    | some o => opsG (op1 G) G all [o] st fun st => match kp with
        | true => stp st fun st => Kept G st0 st ∧ grpG G all kp st0 r st K
        | false => grpG G all kp st0 r st K
    | none => False
def hasT : List Stp → Bool
  | [] => false
  | .T _ :: _ => true
  | .H _ :: r => hasT r
def grpsG (G : Gl) (all : List Oper) : List (List Stp × Nat) → St → (St → Prop) → Prop
  | [], st, K => stp st K
  | (g, _) :: r, st, K => grpG G all (hasT g) st g st fun st => grpsG G all r st K

theorem optT_good {G : Gl} {hs : List HP} {all : List Oper} {o : Oper} {F : St → Prop} (hF : Good F) : Good fun st => opsG (opT G hs) G all [o] st F := by
  intro st h
  unfold opsG at h
  have e : ∀ st, opsG (opT G hs) G all [] st F = F st := fun st => rfl
  simp only [e] at h
  split at h
  · exact (opT_sound h hF).1
  · rename_i j want hg
    split at h
    · split at h
      · split at h
        · split at h
          · exact (opT_sound h hF).1
          · exact (putK_same h hF).1.1
        · rename_i b hx
          by_cases hb : b = want
          · exact (opT_sound (h.1 hb) hF).1
          · exact (putK_same (h.2 (by cases b <;> cases want <;> simp_all)) hF).1.1
        · exact (putK_same h hF).1.1
        · exact h.elim
      · exact h.elim
    · exact h.elim
theorem takeG {G : Gl} {hs : List HP} {all : List Oper} {o : Oper} {st : St} {F : St → Prop} (h : opsG (opT G hs) G all [o] st F) (hF : Good F) {ρ : List Nat} {a : Act} {w0 : World} (m : Tm G st ρ a) (mm : Mem G { st with h := hs } ρ w0) :
    ∃ v st', F st' ∧ SameM st st' ∧ Tm G st' ρ (a.put o.dst v) ∧ YieldsIf G.P all.toArray (Mem G { st with h := hs } ρ) o v a := by
  unfold opsG at h
  have e : ∀ st, opsG (opT G hs) G all [] st F = F st := fun st => rfl
  simp only [e] at h
  have yes : ∀ st1 : St, SameM st st1 → Tm G st1 ρ a → opT G hs o st1 F → Region.wanted o (yielded all.toArray a.tmps) = true → ∃ v st', F st' ∧ SameM st st' ∧ Tm G st' ρ (a.put o.dst v) ∧ YieldsIf G.P all.toArray (Mem G { st with h := hs } ρ) o v a := by
    intro st1 s1 m1 h hwt
    obtain ⟨_, hq⟩ := opT_sound h hF
    have sx : SameM { st with h := hs } { st1 with h := hs } := ⟨s1.1, s1.2.1, rfl⟩
    obtain ⟨v, st', k', s2, hr', m'⟩ := hq ρ a w0 m1 (sx.mem.2 mm)
    exact ⟨v, st', k', ⟨s2.1.trans s1.1, s2.2.1.trans s1.2.1, s2.2.2.trans s1.2.2⟩, m', .inl ⟨hwt, fun w hw => hr' w (sx.mem.2 hw)⟩⟩
  have no : ∀ st1 : St, SameM st st1 → Tm G st1 ρ a → putK G st1 o.dst (.v undef) none F → Region.wanted o (yielded all.toArray a.tmps) = false → ∃ v st', F st' ∧ SameM st st' ∧ Tm G st' ρ (a.put o.dst v) ∧ YieldsIf G.P all.toArray (Mem G { st with h := hs } ρ) o v a := by
    intro st1 s1 m1 h hwt
    obtain ⟨_, hp⟩ := putK_same h hF
    obtain ⟨st', k', s2, m'⟩ := hp ρ a undef rfl m1
    exact ⟨undef, st', k', ⟨s2.1.trans s1.1, s2.2.1.trans s1.2.1, s2.2.2.trans s1.2.2⟩, m', .inr ⟨hwt, rfl⟩⟩
  split at h
  · rename_i hg
    exact yes st ⟨rfl, rfl, rfl⟩ m h (wanted_none hg _)
  · rename_i j want hg
    split at h
    · rename_i oj hj
      split at h
      · rename_i t ht
        split at h
        · rename_i b hx
          split at h
          · rename_i hb
            exact yes st ⟨rfl, rfl, rfl⟩ m h (by rw [wanted_eq hg hj ht hx rfl m, hb])
          · rename_i hb
            exact no st ⟨rfl, rfl, rfl⟩ m h (by rw [wanted_eq hg hj ht hx rfl m, hb])
        · rename_i b hx
          by_cases hb : b = want
          · subst hb
            exact yes (seen st t b) ⟨rfl, rfl, rfl⟩ (seen_tm m hx) (h.1 rfl) (by rw [wanted_eq hg hj ht hx rfl m]; simp)
          · have hb' : b = !want := by cases b <;> cases want <;> simp_all
            subst hb'
            exact no (seen st t (!want)) ⟨rfl, rfl, rfl⟩ (seen_tm m hx) (h.2 rfl) (by rw [wanted_eq hg hj ht hx rfl m]; simp)
        · rename_i hx
          exact no st ⟨rfl, rfl, rfl⟩ m h (wanted_undef hg hj ht hx m)
        · exact h.elim
      · exact h.elim
    · exact h.elim

theorem opG_good {G : Gl} {all : List Oper} {o : Oper} {F : St → Prop} {st : St} (h : opsG (op1 G) G all [o] st F) (hF : Good F) : st.c := (ops_sound (fun h hK => op1_sound h hK) h hF).1
/-- an operation, guarded or not -/
theorem guarded_op {G : Gl} {all : List Oper} {o : Oper} {st : St} {F : St → Prop} (h : opsG (op1 G) G all [o] st F) (hF : Good F) {Q : Exit → Act → World → Prop} (hx : ∀ e a w, PXE G e a w → Q e a w) {k : Nat} (ho2 : all.toArray[k]? = some o) {ρ : List Nat} {a : Act} {w : World} (m : Tm G st ρ a) (mm : Mem G st ρ w) :
    wpOp G.P all.toArray Q k (fun a' w' => ∃ st' ρ', F st' ∧ Tm G st' ρ' a' ∧ Mem G st' ρ' w' ∧ Ext ρ ρ') a w := by
  unfold opsG at h
  have e : ∀ st, opsG (op1 G) G all [] st F = F st := fun st => rfl
  simp only [e] at h
  have yes : ∀ st1 : St, SameM st st1 → Tm G st1 ρ a → op1 G o st1 F → Region.wanted o (yielded all.toArray a.tmps) = true → wpOp G.P all.toArray Q k (fun a' w' => ∃ st' ρ', F st' ∧ Tm G st' ρ' a' ∧ Mem G st' ρ' w' ∧ Ext ρ ρ') a w := by
    intro st1 s1 m1 h hwt
    unfold wpOp
    simp only [ho2]
    rw [if_pos hwt]
    exact .inl ((op1_soundX h hF).2 ρ a w Q hx m1 (s1.mem.2 mm))
  have no : ∀ st1 : St, SameM st st1 → Tm G st1 ρ a → putK G st1 o.dst (.v undef) none F → Region.wanted o (yielded all.toArray a.tmps) = false → wpOp G.P all.toArray Q k (fun a' w' => ∃ st' ρ', F st' ∧ Tm G st' ρ' a' ∧ Mem G st' ρ' w' ∧ Ext ρ ρ') a w := by
    intro st1 s1 m1 h hwt
    obtain ⟨_, hp⟩ := putK_same h hF
    obtain ⟨st', k', s2, m'⟩ := hp ρ a undef rfl m1
    unfold wpOp
    simp only [ho2]
    rw [if_neg (by rw [hwt]; decide)]
    exact ⟨st', ρ, k', m', s2.mem.2 (s1.mem.2 mm), Ext.refl _⟩
  split at h
  · rename_i hg
    exact yes st ⟨rfl, rfl, rfl⟩ m h (wanted_none hg _)
  · rename_i j want hg
    split at h
    · rename_i oj hj
      split at h
      · rename_i t ht
        split at h
        · rename_i b hx'
          split at h
          · rename_i hb
            exact yes st ⟨rfl, rfl, rfl⟩ m h (by rw [wanted_eq hg hj ht hx' rfl m, hb])
          · rename_i hb
            exact no st ⟨rfl, rfl, rfl⟩ m h (by rw [wanted_eq hg hj ht hx' rfl m, hb])
        · rename_i b hx'
          by_cases hb : b = want
          · subst hb
            exact yes (seen st t b) ⟨rfl, rfl, rfl⟩ (seen_tm m hx') (h.1 rfl) (by rw [wanted_eq hg hj ht hx' rfl m]; simp)
          · have hb' : b = !want := by cases b <;> cases want <;> simp_all
            subst hb'
            exact no (seen st t (!want)) ⟨rfl, rfl, rfl⟩ (seen_tm m hx') (h.2 rfl) (by rw [wanted_eq hg hj ht hx' rfl m]; simp)
        · rename_i hx'
          exact no st ⟨rfl, rfl, rfl⟩ m h (wanted_undef hg hj ht hx' m)
        · exact h.elim
      · exact h.elim
    · exact h.elim
theorem grpG_good {G : Gl} {all : List Oper} {kp : Bool} {st0 : St} {K : St → Prop} (hK : Good K) : ∀ g : List Stp, Good fun st => grpG G all kp st0 g st K
  | [] => hK
  | .T k :: r => fun st h => by
    unfold grpG at h
    split at h
    · split at h
      · exact optT_good (grpG_good hK r) _ h
      · exact h.elim
    · exact h.elim
  | .H k :: r => fun st h => by
    unfold grpG at h
    split at h
    · refine opG_good h fun st h => ?_
      split at h
      · exact (stp_iff.1 h).1
      · exact grpG_good hK r _ h
    · exact h.elim
theorem grpsG_good {G : Gl} {all : List Oper} {K : St → Prop} : ∀ gs : List (List Stp × Nat), Good fun st => grpsG G all gs st K
  | [] => good_stp
  | (g, n) :: r => fun st h => grpG_good (grpsG_good r) g _ h

theorem grp_sound {G : Gl} {all : List Oper} {Q : Exit → Act → World → Prop} {F : Array Bool → Bool} {K : St → Prop} {n : Nat} {kp : Bool} {st0 : St} {ρ0 : List Nat} (hx : ∀ e a w, PXE G e a w → Q e a w) (hsel : Region.noSelect all.toArray = true) (hQ : ∀ o ∈ all, ∀ v c a w, Q (.panic c) (Act.put a o.dst v) w → Q (.panic c) a w) (hn : wallB all.toArray n) (hK : Good K) :
    ∀ (g : List Stp) (ls : Array Bool) (st : St) (ρ : List Nat) (a : Act) (w : World), HeadInv .any all.toArray n ls → stepsB all.toArray n F g ls = true → grpG G all kp st0 g st K → Tm G st ρ a → Mem G st ρ w → (kp = true → ρ = ρ0 ∧ st.o = st0.o ∧ st.n = st0.n ∧ Mem G st0 ρ0 w) →
      HdG G.P all.toArray Q (fun w => kp = true → Mem G st0 ρ0 w) n (fun ls a w => (F ls = true ∧ (Region.ready .any all.toArray ls).all (fun j => decide (n ≤ j)) = true) ∧ ∃ st ρ, K st ∧ Tm G st ρ a ∧ Mem G st ρ w) g.length ls a w
  | [], ls, st, ρ, a, w, inv, hB, h, m, mm, hk => by
    simp only [stepsB, Bool.and_eq_true] at hB
    exact ⟨hB, st, ρ, h, m, mm⟩
  | .T k :: r, ls, st, ρ, a, w, inv, hB, h, m, mm, hk => by
    simp only [stepsB, Bool.and_eq_true, decide_eq_true_eq] at hB
    obtain ⟨hkn, hr, hf, hB⟩ := hB
    unfold grpG at h
    split at h
    · rename_i hkp
      obtain ⟨rfl, ho, hnn, mm0⟩ := hk rfl
      split at h
      · rename_i o ho'
        have ho2 : all.toArray[k]? = some o := by simpa using ho'
        have hr' : k ∈ Region.ready .any all.toArray ls := by simpa using hr
        have sx : SameM st0 { st with h := st0.h } := ⟨ho, hnn, rfl⟩
        obtain ⟨v, st', k', s', m', hy⟩ := takeG h (grpG_good hK r) m (sx.mem.2 mm0)
        have hy' : YieldsIf G.P all.toArray (fun w => true = true → Mem G st0 ρ w) o v a := by
          rcases hy with ⟨h1, h2⟩ | h
          · exact .inl ⟨h1, fun w hw => h2 w (sx.mem.2 (hw rfl))⟩
          · exact .inr h
        refine HdG.take ho2 hsel hn hkn (fun c a w => hQ _ (List.mem_of_getElem? ho') _ c a w) (fun ls a w hL j hj => ?_) r.length ls a w inv (Region.free_spec ho2 hf) hr' hy' (fun _ => mm0) ?_
        · have := List.all_eq_true.1 hL.1.2 j hj
          simpa using this
        · exact grp_sound hx hsel hQ hn hK r _ st' ρ _ w (inv.set hr' hkn) hB k' m' (s'.mem.2 mm) fun _ => ⟨rfl, s'.1.trans ho, s'.2.1.trans hnn, mm0⟩
      · exact h.elim
    · exact h.elim
  | .H k :: r, ls, st, ρ, a, w, inv, hB, h, m, mm, hk => by
    simp only [stepsB, Bool.and_eq_true, decide_eq_true_eq] at hB
    obtain ⟨hkn, hr, hB⟩ := hB
    unfold grpG at h
    split at h
    · rename_i o ho'
      have ho2 : all.toArray[k]? = some o := by simpa using ho'
      have hr' : k ∈ Region.ready .any all.toArray ls := by rw [hr]; simp
      refine ⟨List.ne_nil_of_mem hr', fun i hi => ?_⟩
      rw [hr] at hi
      have hik : i = k := by simpa using hi
      subst hik
      refine ⟨hkn, ?_⟩
      cases kp with
      | true =>
        have h : opsG (op1 G) G all [o] st fun st => stp st fun st => Kept G st0 st ∧ grpG G all true st0 r st K := h
        refine wpOp_mono (fun a' w' ⟨st', ρ', k', m', mm', ex'⟩ => ?_) (guarded_op h good_stp hx ho2 m mm)
        obtain ⟨_, hkeep, k'⟩ := stp_iff.1 k'
        obtain ⟨rfl, ho, hnn, mm0⟩ := hk rfl
        obtain ⟨⟨e1, e2⟩, e3⟩ := hkeep
        have hρ : ρ' = ρ := by
          obtain ⟨q, rfl⟩ := ex'
          have l1 := mm'.len
          have l2 := mm0.len
          simp only at e2
          have : q = [] := by
            apply List.eq_nil_of_length_eq_zero
            simp only [List.length_append] at l1
            omega
          rw [this]; simp
        subst hρ
        have mm2 : Mem G st0 ρ' w' := by
          obtain ⟨m1, m2, m3, m4, m5, m6, mk, hh, m7, m8, m9⟩ := mm'
          simp only at e1 e2
          obtain ⟨h', s1, s2⟩ := e3 hh m8
          refine ⟨m1, by rw [← e2]; exact m2, m3, m4, by rw [← e1]; exact m5, by rw [← e1]; exact m6, mk, h', m7.mono s1, s2, fun x hx b hb => ?_⟩
          have := m9 x (by rw [e1]; exact hx) b hb
          cases e' : h' b with
          | none => rfl
          | some ob => rw [s1 b ob e'] at this; cases this
        exact ⟨fun _ => mm2, grp_sound hx hsel hQ hn hK r _ _ ρ' a' w' (inv.set hr' hkn) hB k' (m'.same rfl) (mm'.same rfl rfl rfl) fun _ => ⟨rfl, e1, e2, mm2⟩⟩
      | false =>
        have h : opsG (op1 G) G all [o] st fun st => grpG G all false st0 r st K := h
        refine wpOp_mono (fun a' w' ⟨st', ρ', k', m', mm', ex'⟩ => ?_) (guarded_op h (grpG_good hK r) hx ho2 m mm)
        have key := grp_sound (kp := false) (st0 := st0) (ρ0 := ρ0) hx hsel hQ hn hK r _ st' ρ' a' w' (inv.set hr' hkn) hB k' m' mm' (fun c => by cases c)
        exact ⟨(fun c => by cases c), key⟩
    · exact h.elim

theorem grps_sound {G : Gl} {all : List Oper} {Q : Exit → Act → World → Prop} {K : St → Prop} (hx : ∀ e a w, PXE G e a w → Q e a w) (hsel : Region.noSelect all.toArray = true) (hQ : ∀ o ∈ all, ∀ v c a w, Q (.panic c) (Act.put a o.dst v) w → Q (.panic c) a w) (hend : ∀ st ρ a w, K st → Tm G st ρ a → Mem G st ρ w → Q .normal a w) :
    ∀ (gs : List (List Stp × Nat)) (ls : Array Bool) (st : St) (ρ : List Nat) (a : Act) (w : World), grpsB all.toArray gs ls = true → grpsG G all gs st K → Tm G st ρ a → Mem G st ρ w → wpAny G.P .any all.toArray Q (grpLen gs) ls a w
  | [], ls, st, ρ, a, w, hB, h, m, mm => by
    simp only [grpsB, decide_eq_true_eq] at hB
    exact ⟨hB, hend { st with c := True } ρ a w (stp_iff.1 h).2 (m.same rfl) (mm.same rfl rfl rfl)⟩
  | (g, n) :: r, ls, st, ρ, a, w, hB, h, m, mm => by
    simp only [grpsB, Bool.and_eq_true, Bool.or_eq_true, decide_eq_true_eq] at hB
    obtain ⟨hw, hh, hs⟩ := hB
    have key := grp_sound (F := fun ls' => grpsB all.toArray r ls') (kp := hasT g) (st0 := st) (ρ0 := ρ) hx hsel hQ hw (grpsG_good r) g ls st ρ a w (headW_spec hh) hs h m mm fun _ => ⟨rfl, rfl, rfl, mm⟩
    exact HdG.any (g := grpLen r) (fun ls' a' w' ⟨⟨hF, _⟩, st', ρ', k, m', mm'⟩ => grps_sound hx hsel hQ hend r ls' st' ρ' a' w' hF k m' mm') _ _ _ _ key
/-- a region that draws its order, by groups -/
theorem RegAt.groups {G : Gl} {id : Nat} {l : List Oper} {st : St} {K : St → Prop} (gs : List (List Stp × Nat)) (hm : G.P.follows .mixedOrders = true) (hB : groupsB l gs = true) (h : grpsG G l gs st K) (hax : axFree G.AX l = true := by rfl) : RegAt G id l.toArray st K := by
  simp only [groupsB, Bool.and_eq_true, decide_eq_true_eq] at hB
  obtain ⟨h1, h2, h3⟩ := hB
  refine .mk fun ρ a w m mm => ?_
  refine wp_region_any hm ?_
  have key := grps_sound (Q := fun e a' w' => (e = .normal ∧ ∃ st' ρ', K st' ∧ Tm G st' ρ' a' ∧ Mem G st' ρ' w') ∨ PXE G e a' w') (fun e a w hp => .inr hp) h1 (fun o ho v c a w hq => by rcases hq with ⟨hq, _⟩ | hq; cases hq; exact .inr (hq.put (axFree_spec hax o ho))) (fun st ρ a w k m mm => .inl ⟨rfl, st, ρ, k, m, mm⟩) gs _ st ρ a _ h3 h m mm.drew
  rw [h2] at key
  simpa using key
end Sy
end Go.Proofs.YteplckkoiffnnaaGreatDoor
