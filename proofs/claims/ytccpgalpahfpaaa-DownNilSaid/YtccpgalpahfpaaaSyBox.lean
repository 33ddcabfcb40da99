/-
  Symbolic runs: a region that draws its order, reads, and at its end makes a variable of what it has read.
-/
import Derived.Test.YtccpgalpahfpaaaSyOwn
import Derived.Deep.RegionHeld
namespace Go.Proofs.Ytccpgalpahfpaaa
open Go.RowKit
namespace Sy
set_option linter.unusedVariables false
set_option linter.unusedSimpArgs false

/-- an operation that leaves the world alone -/
def opS (G : Gl) (o : Oper) (st : St) (K : St → Prop) : Prop :=
  match o.op with
  | .load t x => ev st x False fun vx => match vx with
    | .v (.pointer (some ad)) => stp st fun st => LoadAt G t ad st fun r => putK G st o.dst r none K
    | _ => q1 G.P G.tr st o False fun r q => putK G st o.dst r q K
  | _ => q1 G.P G.tr st o False fun r q => putK G st o.dst r q K
def Still1 (G : Gl) (o : Oper) (st : St) (K : St → Prop) : Prop :=
  st.c ∧ ∀ ρ a w0, Tm G st ρ a → Mem G st ρ w0 → ∃ v st', K st' ∧ SameM st st' ∧ (∀ w, Mem G st ρ w → (execOp a.eval o).run G.P w = .ok (.value v) w) ∧ Tm G st' ρ (a.put o.dst v)
theorem still_q1 {G : Gl} {o : Oper} {st : St} {K : St → Prop} (hK : Good K) (h : q1 G.P G.tr st o False fun r q => putK G st o.dst r q K) : Still1 G o st K := by
  rcases q1_sound h with h | ⟨x, q, h, hy⟩
  · exact h.elim
  · obtain ⟨⟨hc, hq⟩, hp⟩ := putK_same h hK
    refine ⟨hc, fun ρ a w0 m mm0 => ?_⟩
    have hy := hy hq
    obtain ⟨v, e1, e2⟩ := hy G ρ a w0 m mm0.ob
    obtain ⟨st', k, hs, m'⟩ := hp ρ a v e1 m
    refine ⟨v, st', k, hs, fun w' mm' => ?_, m'⟩
    obtain ⟨v', e3, e4⟩ := hy G ρ a w' m mm'.ob
    rw [e1] at e3
    injection e3 with e3
    subst e3
    exact e4
theorem opS_sound {G : Gl} {o : Oper} {st : St} {K : St → Prop} (h : opS G o st K) (hK : Good K) : Still1 G o st K := by
  unfold opS at h
  split at h
  case h_1 t x ho =>
    rcases ev_sound h with h | ⟨sx, h, ex⟩
    · exact h.elim
    split at h
    · rename_i ad
      obtain ⟨hc, ⟨r, hr, h⟩⟩ := stp_iff.1 h
      refine ⟨hc, fun ρ a w0 m mm0 => ?_⟩
      obtain ⟨_, hp⟩ := putK_same h hK
      obtain ⟨st', k, hs, m'⟩ := hp ρ a r rfl (m.same rfl)
      refine ⟨r, st', k, hs, fun w mm => ?_, m'⟩
      have h1 := ex G ρ a m
      simp only [SV.den, Option.some.injEq] at h1
      simp [execOp, ho, ← h1, hr ρ w (mm.same rfl rfl rfl)]
    · exact still_q1 hK h
  case h_2 => exact still_q1 hK h

/-- the operations that are left when the first k are through -/
def restB (ops : Array Oper) : Nat → Nat → Array Bool → Bool
  | 0, k, ls => decide (Region.ready .any ops ls = [k]) && (decide (Region.ready .any ops (ls.setIfInBounds k true) = [k + 1]) && decide (Region.ready .any ops ((ls.setIfInBounds k true).setIfInBounds (k + 1) true) = []))
  | f + 1, k, ls => (Region.ready .any ops ls).contains k && (Region.free .any ops ls k && restB ops f (k + 1) (ls.setIfInBounds k true))
def boxB (l : List Oper) (n : Nat) : Bool := Region.noSelect l.toArray && (decide (l.length = n + 2) && restB l.toArray n 0 (Array.replicate l.toArray.size false))

def chk (cs : List SV) (size : Nat) (A : Prop) : Prop := match Nat.beq cs.length size with
  | true => match oneL cs with
    | true => A
    | false => False
  | false => False
theorem chk_sound {cs : List SV} {size : Nat} {A : Prop} (h : chk cs size A) : cs.length = size ∧ oneL cs = true ∧ A := by
  unfold chk at h
  split at h
  · rename_i e
    split at h
    · rename_i e'; exact ⟨beq_of e, e', h⟩
    · exact h.elim
  · exact h.elim
/-- the variable is made, and takes its value -/
def mkBox (G : Gl) (d : Nat) (t : TypeId) (y : Operand) (size : Nat) (st : St) (K : St → Prop) : Prop := ev st y False fun vy => cellsK vy fun cs => chk cs size (newO G (some d) t cs st K)
theorem mkBox_sound {G : Gl} {d : Nat} {t : TypeId} {y : Operand} {size : Nat} {st : St} {K : St → Prop} (h : mkBox G d t y size st K) : ∃ (vy : SV) (cs : List SV), (∀ G ρ a, Tm G st ρ a → vy.den ρ = some (a.eval y)) ∧ (∀ ρ v, vy.den ρ = some v → denL ρ cs = some v.cells.toList) ∧ cs.length = size ∧ oneL cs = true ∧ newO G (some d) t cs st K := by
  rcases ev_sound h with h | ⟨s, h, e⟩
  · exact h.elim
  obtain ⟨cs, h, hd⟩ := cellsK_sound h
  obtain ⟨h1, h2, h3⟩ := chk_sound h
  exact ⟨s, cs, e, hd, h1, h2, h3⟩

theorem held_ops {G : Gl} {all : List Oper} {ρ : List Nat} {S : World → Prop} {Q : Exit → Act → World → Prop} {F : St → Prop} (hsel : Region.noSelect all.toArray = true) (hF : Good F) (hQ : ∀ d v c a w, Q (.panic c) (Act.put a d v) w → Q (.panic c) a w) :
    ∀ (l : List Oper) (k : Nat) (ls : Array Bool) (st : St) (a : Act) (w : World), (∀ j, j < l.length → l[j]? = all[k + j]?) → (∀ w, S w → Mem G st ρ w) → S w → restB all.toArray l.length k ls = true → opsG (opS G) G all l st F → Tm G st ρ a →
      (∀ st' a' ls', SameM st st' → F st' → Tm G st' ρ a' → restB all.toArray 0 (k + l.length) ls' = true → wpAnyH G.P .any all.toArray Q S 2 ls' a' w) → wpAnyH G.P .any all.toArray Q S (l.length + 2) ls a w := by
  intro l
  induction l with
  | nil =>
    intro k ls st a w _ _ _ hB h m fin
    simp only [List.length_nil, Nat.zero_add]
    exact fin st a ls ⟨rfl, rfl, rfl⟩ h m (by simpa using hB)
  | cons o l ih =>
    intro k ls st a w hl hS hw hB h m fin
    have h0 : all.toArray[k]? = some o := by simpa using (hl 0 (by simp)).symm
    simp only [List.length_cons, restB, Bool.and_eq_true] at hB
    obtain ⟨hr, hf, hB'⟩ := hB
    have good : ∀ l, Good (fun st => opsG (opS G) G all l st F) := by
      intro l
      induction l with
      | nil => exact hF
      | cons o l ihg =>
        intro st h
        unfold opsG at h
        split at h
        · exact (opS_sound h ihg).1
        · rename_i j want hg
          split at h
          · split at h
            · split at h
              · split at h
                · exact (opS_sound h ihg).1
                · exact (putK_same h ihg).1.1
              · rename_i b hx
                by_cases hb : b = want
                · exact (opS_sound (h.1 hb) ihg).1
                · exact (putK_same (h.2 (by cases b <;> cases want <;> simp_all)) ihg).1.1
              · exact h.elim
            · exact h.elim
          · exact h.elim
    have step : ∀ (st1 st' : St) (a1 : Act) (v : Value), SameM st st1 → SameM st1 st' → opsG (opS G) G all l st' F → Tm G st' ρ (a1.put o.dst v) → a1 = a → YieldsIf G.P all.toArray S o v a → wpAnyH G.P .any all.toArray Q S ((o :: l).length + 2) ls a w := by
      rintro st1 st' a1 v s1 s2 k' m' rfl hy
      have s3 : SameM st st' := ⟨s2.1.trans s1.1, s2.2.1.trans s1.2.1, s2.2.2.trans s1.2.2⟩
      have : (o :: l).length + 2 = (l.length + 2) + 1 := by simp only [List.length_cons]
      rw [this]
      refine wpAnyH_take h0 hsel hf hr (fun c a w => hQ _ _ c a w) hy hw ?_
      refine ih (k + 1) _ st' _ w (fun j hj => ?_) (fun w hw => s3.mem.2 (hS w hw)) hw hB' k' m' ?_
      · have := hl (j + 1) (by simp; omega)
        simpa [Nat.add_assoc, Nat.add_comm 1 j] using this
      · intro st2 a2 ls2 s4 f2 m2 hb2
        refine fin st2 a2 ls2 ⟨s4.1.trans s3.1, s4.2.1.trans s3.2.1, s4.2.2.trans s3.2.2⟩ f2 m2 ?_
        have : k + (o :: l).length = k + 1 + l.length := by simp only [List.length_cons]; omega
        rw [this]; exact hb2
    have yes : ∀ st1 : St, SameM st st1 → Tm G st1 ρ a → (opS G o st1 fun st => opsG (opS G) G all l st F) → Region.wanted o (yielded all.toArray a.tmps) = true → wpAnyH G.P .any all.toArray Q S ((o :: l).length + 2) ls a w := by
      intro st1 s1 m1 h hwt
      obtain ⟨_, hq⟩ := opS_sound h (good l)
      obtain ⟨v, st', k', s2, hr', m'⟩ := hq ρ a w m1 (s1.mem.2 (hS w hw))
      exact step st1 st' a v s1 s2 k' m' rfl (.inl ⟨hwt, fun w hw => hr' w (s1.mem.2 (hS w hw))⟩)
    have no : ∀ st1 : St, SameM st st1 → Tm G st1 ρ a → (putK G st1 o.dst (.v undef) none fun st => opsG (opS G) G all l st F) → Region.wanted o (yielded all.toArray a.tmps) = false → wpAnyH G.P .any all.toArray Q S ((o :: l).length + 2) ls a w := by
      intro st1 s1 m1 h hwt
      obtain ⟨_, hp⟩ := putK_same h (good l)
      obtain ⟨st', k', s2, m'⟩ := hp ρ a undef rfl m1
      exact step st1 st' a undef s1 s2 k' m' rfl (.inr ⟨hwt, rfl⟩)
    unfold opsG at h
    split at h
    · rename_i hg
      exact yes st ⟨rfl, rfl, rfl⟩ m h (wanted_none hg _)
    · rename_i j want hg
      split at h
      · rename_i oj hj
        split at h
        · rename_i t ht
          split at h
          · rename_i b hx
            split at h
            · rename_i hb
              exact yes st ⟨rfl, rfl, rfl⟩ m h (by rw [wanted_eq hg hj ht hx rfl m, hb])
            · rename_i hb
              exact no st ⟨rfl, rfl, rfl⟩ m h (by rw [wanted_eq hg hj ht hx rfl m, hb])
          · rename_i b hx
            by_cases hb : b = want
            · subst hb
              exact yes (seen st t b) ⟨rfl, rfl, rfl⟩ (seen_tm m hx) (h.1 rfl) (by rw [wanted_eq hg hj ht hx rfl m]; simp)
            · have hb' : b = !want := by cases b <;> cases want <;> simp_all
              subst hb'
              exact no (seen st t (!want)) ⟨rfl, rfl, rfl⟩ (seen_tm m hx) (h.2 rfl) (by rw [wanted_eq hg hj ht hx rfl m]; simp)
          · exact h.elim
        · exact h.elim
      · exact h.elim

theorem RegAt.box {G : Gl} {id : Nat} {l : List Oper} {st : St} {K : St → Prop} (n d : Nat) (t : TypeId) (y : Operand) {i : TypeInfo} {z : Value} {oa os : Oper} (hm : G.P.follows .mixedOrders = true) (hB : boxB l n = true) (ha : l[n]? = some oa) (hs : l[n + 1]? = some os)
    (ho1 : oa.op = .alloc t) (ho2 : oa.dst = some d) (ho3 : oa.guard = none) (hs1 : os.op = .store t (.tmp d) y) (hs2 : os.dst = none) (hs3 : os.guard = none) (hi : G.P.info? t = some i) (hz : i.zero = some z) (hzs : z.cells.size = i.size) (hyd : ∀ s, y = .tmp s → Nat.beq s d = false)
    (h : opsG (opS G) G l (l.take n) st fun st => mkBox G d t y i.size st fun st => stp st K) : RegAt G id l.toArray st K := by
  refine .mk fun ρ a w m mm => ?_
  simp only [boxB, Bool.and_eq_true, decide_eq_true_eq] at hB
  obtain ⟨hsel, hlen, hrest⟩ := hB
  have htl : (l.take n).length = n := by simp; omega
  have good : Good fun st => mkBox G d t y i.size st fun st => stp st K := by
    intro st h
    obtain ⟨_, _, _, _, _, _, h⟩ := mkBox_sound h
    exact (newO_sound h good_stp).1
  refine wp_region_held (S := fun w' => Below w.heap.size w w') hm ?_
  have hsz : l.toArray.size = (l.take n).length + 2 := by rw [htl]; simpa using hlen
  rw [hsz]
  have hw1 : Below w.heap.size w { w with drawn := w.drawn + 1 } := (Below.refl _ _).drew
  refine held_ops (ρ := ρ) (F := fun st => mkBox G d t y i.size st fun st => stp st K) hsel good (fun d v c a w hq => by obtain ⟨hq, _⟩ := hq; cases hq) (l.take n) 0 _ st a _ (fun j hj => ?_) (fun w' hw' => mm.below hw') hw1 (by rw [htl, (show n + 2 = l.toArray.size from by rw [hsz, htl])]; exact hrest) h m ?_
  · rw [htl] at hj
    simp [hj]
  · intro st1 a1 ls s1 k m1 hb
    rw [htl, Nat.zero_add] at hb
    simp only [restB, Bool.and_eq_true, decide_eq_true_eq] at hb
    obtain ⟨b1, b2, b3⟩ := hb
    obtain ⟨vy, cs, hy1, hy2, hcl, hone, hnew⟩ := mkBox_sound k
    have ea : l.toArray[n]? = some oa := by simpa using ha
    have es : l.toArray[n + 1]? = some os := by simpa using hs
    refine wpAnyH_all b1 (by simp) fun j hj => ?_
    have hjn : n = j := (by simpa using hj : j = n).symm
    subst hjn
    unfold wpOp
    simp only [ea]
    rw [if_pos (wanted_none ho3 _)]
    left
    generalize hW : ({ w with drawn := w.drawn + 1 } : World) = W at *
    have hrun1 : (execOp a1.eval oa).run G.P W = .ok (.value (.pointer (some ⟨W.heap.size, 0, none⟩))) (W.alloc (.cells z.cells t)) := by
      simp [execOp, ho1, Instr.alloc, zeroValue, typeInfo, hi, hz, newVar, newRow, newObj]
      rfl
    unfold Oper.wp
    rw [hrun1]
    simp only [Oper.upon, ho2]
    have hW1 : Below w.heap.size w (W.alloc (.cells z.cells t)) := hw1.alloc hw1.size _
    refine ⟨hW1, wpAnyH_all b2 (by simp) fun j hj => ?_⟩
    have hjn : j = n + 1 := by simpa using hj
    subst hjn
    unfold wpOp
    simp only [es]
    rw [if_pos (wanted_none hs3 _)]
    left
    have mm1 : Mem G st1 ρ W := s1.mem.2 (mm.below hw1)
    have hlt : d < G.N := by
      obtain ⟨t', o', n', hh', c'⟩ := st1
      unfold newO at hnew
      simp only at hnew
      split at hnew
      · rename_i hi'; exact Nat.le_of_ble_eq_true hi'
      · exact hnew.elim
    have e1 : (a1.put (some d) (.pointer (some ⟨W.heap.size, 0, none⟩))).eval (.tmp d) = .pointer (some ⟨W.heap.size, 0, none⟩) := by
      simp [Act.eval, Act.put, m1.size, hlt]
    have e2 : (a1.put (some d) (.pointer (some ⟨W.heap.size, 0, none⟩))).eval y = a1.eval y := by
      refine Act.eval_put fun d' hd' hy' => ?_
      injection hd' with hd'
      subst hd'
      have := hyd _ hy'
      rw [Nat.beq_refl] at this
      cases this
    have hden := hy2 ρ _ (hy1 G ρ a1 m1)
    have hcsz : (a1.eval y).cells.size = i.size := by
      have := denL_length hden
      rw [← hcl, ← this]; simp
    have hblk : Blk (W.alloc (.cells z.cells t)) W.heap.size t z.cells := Blk.new _ _ _
    have hst := run_storeCells_at (P := G.P) W.heap.size 0 t (a1.eval y).cells.toList 0 z.cells (W.alloc (.cells z.cells t)) hblk (by simp; omega) (oneL_sound hone hden)
    have hcut : (z.cells.toList.take (0 + 0) ++ (a1.eval y).cells.toList ++ z.cells.toList.drop (0 + 0 + (a1.eval y).cells.toList.length)).toArray = (a1.eval y).cells := by
      rw [List.drop_eq_nil_of_le (by simp; omega)]
      simp
    rw [hcut] at hst
    have hrun2 : (execOp (a1.put (some d) (.pointer (some ⟨W.heap.size, 0, none⟩))).eval os).run G.P (W.alloc (.cells z.cells t)) = .ok .skip ((W.alloc (.cells z.cells t)).setRow W.heap.size (a1.eval y).cells) := by
      simp only [execOp, hs1, e1, e2, Instr.storeAt, Instr.sureAddr, storeVar, sizeOf, typeInfo, Sem.run_bind, Sem.run_pure, Result.andThen_ok]
      simp [hi, hcsz, hst]
    unfold Oper.wp
    rw [hrun2]
    simp only [Oper.upon, hs2]
    have hWa : (W.alloc (.cells z.cells t)).setRow W.heap.size (a1.eval y).cells = W.alloc (.cells (a1.eval y).cells t) := by
      simp only [World.alloc, World.setRow]
      congr 1
      apply Array.ext_getElem?
      intro q
      rw [Array.getElem?_modify]
      by_cases c : W.heap.size = q
      · subst c; simp
      · rw [if_neg c]
        simp only [Array.getElem?_push]
        rw [if_neg (fun x => c x.symm), if_neg (fun x => c x.symm)]
    rw [hWa]
    obtain ⟨_, hn⟩ := newO_sound hnew good_stp
    obtain ⟨st2, ρ2, k2, m2, mm2⟩ := hn ρ a1 W (a1.eval y).cells.toList hden m1 mm1
    refine ⟨hw1.alloc hw1.size _, wpAnyH_done b3 ⟨rfl, { st2 with c := True }, ρ2, (stp_iff.1 k2).2, ?_, ?_⟩ 0⟩
    · exact m2.same rfl
    · have := mm2.same (st' := { st2 with c := True }) rfl rfl rfl
      simpa using this
end Sy
end Go.Proofs.Ytccpgalpahfpaaa
