/-
  What a fill of a piece does to a grid in memory; pieces of a rectangle, and the rectangle.
-/
import Derived.Test.YtccpgalpahfpaaaGridNew
namespace Go.Proofs.Ytccpgalpahfpaaa
open Go.RowKit
set_option linter.unusedVariables false
set_option linter.unusedSimpArgs false

/-- is a cell in a rectangle? -/
def inR (r : Rc) (x y : Nat) : Bool := decide (r.x0 ≤ x ∧ (x : Int) ≤ r.x1 ∧ r.y0 ≤ y ∧ (y : Int) ≤ r.y1)
theorem inR_iff (r : Rc) (x y : Nat) : inR r x y = true ↔ (r.x0 ≤ x ∧ (x : Int) ≤ r.x1 ∧ r.y0 ≤ y ∧ (y : Int) ≤ r.y1) := by unfold inR; rw [decide_eq_true_eq]
/-- a grid's cells behind a fill -/
def fillG (r : Rc) (v : Int) (f : Nat → Nat → Int) (x y : Nat) : Int := if inR r x y = true then v else f x y
/-- and behind the fills of several rectangles -/
def fillS (l : List Rc) (v : Int) (f : Nat → Nat → Int) (x y : Nat) : Int := if l.any (fun r => inR r x y) = true then v else f x y
theorem fillS_nil (v : Int) (f : Nat → Nat → Int) : fillS [] v f = f := by funext x y; simp [fillS]
theorem fillS_snoc (l : List Rc) (r : Rc) (v : Int) (f : Nat → Nat → Int) : fillS (l ++ [r]) v f = fillG r v (fillS l v f) := by
  funext x y
  unfold fillS fillG
  rw [List.any_append]
  simp only [List.any_cons, List.any_nil, Bool.or_false]
  cases inR r x y <;> cases l.any (fun r => inR r x y) <;> simp

theorem pc_ok (r : Rc) (h1 : 0 ≤ r.x0) (h2 : r.x0 ≤ r.x1) (h3 : 0 ≤ r.y0) (h4 : r.y0 ≤ r.y1) (k : Nat) (hk : k < (pcs r).length) :
    ∃ a0 b0 a1 b1 : Nat, (pcs r)[k] = ⟨a0, b0, a1, b1⟩ ∧ a0 ≤ a1 ∧ b0 ≤ b1 ∧ a0 / 16 = a1 / 16 ∧ b0 / 16 = b1 / 16 ∧ (a1 : Int) ≤ r.x1 ∧ (b1 : Int) ≤ r.y1 := by
  rw [pcs_get _ _ hk]
  rw [pcs_len] at hk
  have hx : 0 < pcX r := by unfold pcX; omega
  have hi : k % pcX r < pcX r := Nat.mod_lt _ hx
  have hj : k / pcX r < pcY r := Nat.div_lt_of_lt_mul (by rw [Nat.mul_comm]; exact hk)
  generalize k % pcX r = i at *
  generalize k / pcX r = j at *
  obtain ⟨x0, y0, x1, y1⟩ := r
  unfold pcX at hi
  unfold pcY at hj
  unfold pc
  simp only at *
  refine ⟨(max (x0 - x0 % 16 + 16 * (i : Int)) x0).toNat, (max (y0 - y0 % 16 + 16 * (j : Int)) y0).toNat, (min (x0 - x0 % 16 + 16 * (i : Int) + 16 - 1) x1).toNat, (min (y0 - y0 % 16 + 16 * (j : Int) + 16 - 1) y1).toNat, ?_, ?_, ?_, ?_, ?_, ?_, ?_⟩
  · rw [Rc.mk.injEq]; omega
  all_goals omega

theorem pcs_cover (r : Rc) (h1 : 0 ≤ r.x0) (h2 : r.x0 ≤ r.x1) (h3 : 0 ≤ r.y0) (h4 : r.y0 ≤ r.y1) (x y : Nat) : (pcs r).any (fun p => inR p x y) = inR r x y := by
  rw [Bool.eq_iff_iff, List.any_eq_true]
  have hx : 0 < pcX r := by unfold pcX; omega
  constructor
  · rintro ⟨p, hp, hin⟩
    obtain ⟨k, hk, rfl⟩ := List.getElem_of_mem hp
    rw [pcs_get _ _ hk, inR_iff] at hin
    rw [inR_iff]
    unfold pc at hin
    simp only at hin
    omega
  · intro hin
    rw [inR_iff] at hin
    have hi : x / 16 - (r.x0 / 16).toNat < pcX r := by unfold pcX; omega
    have hj : y / 16 - (r.y0 / 16).toNat < pcY r := by unfold pcY; omega
    have hlt : (y / 16 - (r.y0 / 16).toNat) * pcX r + (x / 16 - (r.x0 / 16).toNat) < (pcs r).length := by
      rw [pcs_len, Nat.mul_comm (pcY r)]
      exact idx_lt hi hj
    refine ⟨(pcs r)[(y / 16 - (r.y0 / 16).toNat) * pcX r + (x / 16 - (r.x0 / 16).toNat)], List.getElem_mem _, ?_⟩
    rw [pcs_get _ _ hlt, inR_iff]
    rw [Nat.mul_comm, Nat.mul_add_mod, Nat.mod_eq_of_lt hi, Nat.mul_add_div hx, Nat.div_eq_of_lt hi, Nat.add_zero]
    unfold pc
    simp only
    omega
theorem fillS_all (r : Rc) (h1 : 0 ≤ r.x0) (h2 : r.x0 ≤ r.x1) (h3 : 0 ≤ r.y0) (h4 : r.y0 ≤ r.y1) (v : Int) (f : Nat → Nat → Int) : fillS (pcs r) v f = fillG r v f := by
  funext x y
  unfold fillS fillG
  rw [pcs_cover r h1 h2 h3 h4]

theorem SlabIs.blk {w : World} {b sw sh : Nat} {f : Nat → Int} {q : Option Nat} (h : SlabIs w b sw sh f q) : ∃ cs, Blk w b 133 cs := by
  obtain ⟨v, h1, _⟩ := h.body
  exact ⟨_, h1⟩
theorem SlabIs.qblk {w : World} {b sw sh g : Nat} {f : Nat → Int} {q : Option Nat} (h : SlabIs w b sw sh f q) (hq : q = some g) : ∃ cs, Blk w g 21 cs := by
  subst hq
  obtain ⟨v, _, _, h2⟩ := h.body
  exact ⟨_, h2⟩
theorem SlabIs.touch {w w' : World} {b sw sh : Nat} {f : Nat → Int} {q : Option Nat} {S : Nat → Prop} (h : SlabIs w b sw sh f q) (hT : Touch S w w') (hb : ¬ S b) (hq : ∀ g, q = some g → ¬ S g) : SlabIs w' b sw sh f q := by
  obtain ⟨v, h1, h2⟩ := h.body
  refine ⟨h.w1, h.w2, h.h1, h.h2, h.may, v, h1.touch hT hb, ?_⟩
  rcases q with _ | q
  · exact h2
  · exact ⟨h2.1, h2.2.touch hT (hq q rfl)⟩

theorem GridOpen.fill {w w' : World} {gb W H sb c : Nat} {f : Nat → Nat → Int} {p : Nat → Nat} {q : Nat → Option Nat} (h : GridOpen w gb W H f sb c p q) {a0 b0 a1 b1 : Nat} (ha : a0 ≤ a1) (hb : b0 ≤ b1) (ha1 : a1 < W) (hb1 : b1 < H)
    (ea : a0 / 16 = a1 / 16) (eb : b0 / 16 = b1 / 16) {v : Int} {q' : Option Nat}
    (hS : SlabIs w' (p (b0 / 16 * tiles W + a0 / 16)) (tw W (a0 / 16)) (tw H (b0 / 16)) (fillK (tw W (a0 / 16)) (a0 % 16) (b0 % 16) (a1 % 16) (b1 % 16) v (tileF f W (a0 / 16) (b0 / 16))) q')
    (hT : Touch (fun i => i = p (b0 / 16 * tiles W + a0 / 16) ∨ some i = q (b0 / 16 * tiles W + a0 / 16)) w w') (hq : ∀ g, q' = some g → q (b0 / 16 * tiles W + a0 / 16) = some g ∨ w.heap.size ≤ g) :
    GridOpen w' gb W H (fillG ⟨a0, b0, a1, b1⟩ v f) sb c p (fun k => if k = b0 / 16 * tiles W + a0 / 16 then q' else q k) := by
  have hI := (tile_of (show a0 < W by omega)).1
  have hJ := (tile_of (show b0 < H by omega)).1
  have hK := idx_lt hI hJ
  have h0 := h.slabs _ _ hI hJ
  obtain ⟨c0, hc0⟩ := h0.blk
  obtain ⟨cur, hcur, hptr⟩ := h.list
  generalize hKe : b0 / 16 * tiles W + a0 / 16 = K at *
  have far : ∀ g t cs, t ≠ 133 → t ≠ 21 → Blk w g t cs → Blk w' g t cs := fun g t cs n1 n2 hg => hg.touch hT (fun e => by
    rcases e with e | e
    · subst e; exact Blk.ne_ hg hc0 n1 rfl
    · obtain ⟨c1, hc1⟩ := h0.qblk e.symm
      exact Blk.ne_ hg hc1 n2 rfl)
  refine ⟨h.w1, h.w2, h.h1, h.h2, far _ _ _ (by decide) (by decide) h.head, ⟨cur, far _ _ _ (by decide) (by decide) hcur, hptr⟩, ?_, h.inj, ?_⟩
  · intro i j hi hj
    by_cases hk : j * tiles W + i = K
    · obtain ⟨e1, e2⟩ := idx_inj hi hI (hk.trans hKe.symm)
      subst e1 e2
      rw [hk, if_pos rfl]
      refine hS.congr fun k hk' => ?_
      unfold fillK tileF fillG inR
      generalize k % tw W (a0 / 16) = X
      generalize k / tw W (a0 / 16) = Y
      by_cases d : a0 % 16 ≤ X ∧ X ≤ a1 % 16 ∧ b0 % 16 ≤ Y ∧ Y ≤ b1 % 16
      · rw [if_pos d, if_pos (decide_eq_true (by simp only; omega))]
      · rw [if_neg d, if_neg (by rw [decide_eq_true_eq]; simp only; omega)]
    · rw [if_neg hk]
      have hs := h.slabs i j hi hj
      have hlt := idx_lt hi hj
      obtain ⟨c1, hc1⟩ := hs.blk
      have hs' := hs.touch hT (fun e => by
        rcases e with e | e
        · exact hk (h.inj _ _ hlt hK e)
        · obtain ⟨c2, hc2⟩ := h0.qblk e.symm
          exact Blk.ne_ hc1 hc2 (by decide) rfl) (fun g hg e => by
        obtain ⟨c2, hc2⟩ := hs.qblk hg
        rcases e with e | e
        · subst e; exact Blk.ne_ hc2 hc0 (by decide) rfl
        · exact hk (h.inq _ _ g hlt hK hg e.symm))
      refine hs'.congr fun k hk' => ?_
      unfold tileF fillG
      rw [if_neg]
      rw [inR_iff]
      simp only
      have t1 := tw_pos hi
      have t2 := tw_pos hj
      have m1 := Nat.mod_lt k (show 0 < tw W i by omega)
      have m2 : k / tw W i < tw H j := Nat.div_lt_of_lt_mul hk'
      generalize k % tw W i = X at *
      generalize k / tw W i = Y at *
      intro hin
      apply hk
      rw [← hKe]
      have e1 : i = a0 / 16 := by omega
      have e2 : j = b0 / 16 := by omega
      rw [e1, e2]
  · intro k l g hk hl e1 e2
    by_cases ck : k = K
    · by_cases cl : l = K
      · rw [ck, cl]
      · simp only [ck, if_true, cl, if_false] at e1 e2
        rcases hq g e1 with e | e
        · exact absurd (h.inq _ _ g hl hK e2 e) cl
        · exfalso
          obtain ⟨c2, hc2⟩ := (h.slabs (l % tiles W) (l / tiles W) (Nat.mod_lt _ (by omega)) (Nat.div_lt_of_lt_mul hl)).qblk (g := g) (by rw [Nat.mul_comm, Nat.div_add_mod]; exact e2)
          have := hc2.lt
          omega
    · by_cases cl : l = K
      · simp only [ck, if_false, cl, if_true] at e1 e2
        rcases hq g e2 with e | e
        · exact absurd (h.inq _ _ g hk hK e1 e) ck
        · exfalso
          obtain ⟨c2, hc2⟩ := (h.slabs (k % tiles W) (k / tiles W) (Nat.mod_lt _ (by omega)) (Nat.div_lt_of_lt_mul hk)).qblk (g := g) (by rw [Nat.mul_comm, Nat.div_add_mod]; exact e1)
          have := hc2.lt
          omega
      · simp only [ck, cl, if_false] at e1 e2
        exact h.inq k l g hk hl e1 e2

/-- what a fill may turn, and what there is then -/
theorem GridIs.fill {w w' : World} {gb W H sb c : Nat} {f : Nat → Nat → Int} {p : Nat → Nat} {q : Nat → Option Nat} {F : Nat → Prop} (h : GridOpen w gb W H f sb c p q) (hF : ∀ k, k < tiles W * tiles H → F (p k) ∧ ∀ g, q k = some g → F g) {a0 b0 a1 b1 : Nat} (ha : a0 ≤ a1) (hb : b0 ≤ b1) (ha1 : a1 < W) (hb1 : b1 < H)
    (ea : a0 / 16 = a1 / 16) (eb : b0 / 16 = b1 / 16) {v : Int} {q' : Option Nat}
    (hS : SlabIs w' (p (b0 / 16 * tiles W + a0 / 16)) (tw W (a0 / 16)) (tw H (b0 / 16)) (fillK (tw W (a0 / 16)) (a0 % 16) (b0 % 16) (a1 % 16) (b1 % 16) v (tileF f W (a0 / 16) (b0 / 16))) q')
    (hT : Touch (fun i => i = p (b0 / 16 * tiles W + a0 / 16) ∨ some i = q (b0 / 16 * tiles W + a0 / 16)) w w') (hq : ∀ g, q' = some g → q (b0 / 16 * tiles W + a0 / 16) = some g ∨ w.heap.size ≤ g) :
    GridIs w' gb W H (fillG ⟨a0, b0, a1, b1⟩ v f) (fun i => F i ∨ (w.heap.size ≤ i ∧ i < w'.heap.size)) ∧ Touch F w w' := by
  have hK := idx_lt (tile_of (show a0 < W by omega)).1 (tile_of (show b0 < H by omega)).1
  refine ⟨⟨sb, c, p, _, h.fill ha hb ha1 hb1 ea eb hS hT hq, fun k hk => ⟨.inl (hF k hk).1, fun g hg => ?_⟩⟩, hT.mono fun i _ e => ?_⟩
  · by_cases e : k = b0 / 16 * tiles W + a0 / 16
    · simp only [e, if_true] at hg
      rcases hq g hg with e' | e'
      · exact .inl ((hF _ hK).2 g e')
      · obtain ⟨c2, hc2⟩ := hS.qblk hg
        exact .inr ⟨e', hc2.lt⟩
    · simp only [e, if_false] at hg
      exact .inl ((hF k hk).2 g hg)
  · rcases e with e | e
    · subst e; exact (hF _ hK).1
    · exact (hF _ hK).2 i e.symm
end Go.Proofs.Ytccpgalpahfpaaa
