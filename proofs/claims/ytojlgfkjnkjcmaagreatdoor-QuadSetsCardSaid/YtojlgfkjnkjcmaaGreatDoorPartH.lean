/-
  Texts of the proofs, one behind the other: GridPlain, GridFill, GridRead, MayV.
-/
import Derived.Test.YtojlgfkjnkjcmaaGreatDoorPartG
import Derived.Deep.DeepCutAuto
/-
  What a fill of a piece does to a grid in memory; pieces of a rectangle, and the rectangle.
-/
namespace Go.Proofs.YtojlgfkjnkjcmaaGreatDoor
open Go.RowKit
set_option linter.unusedVariables false
set_option linter.unusedSimpArgs false

/-- is a cell in a rectangle? -/
def inR (r : Rc) (x y : Nat) : Bool := decide (r.x0 ≤ x ∧ (x : Int) ≤ r.x1 ∧ r.y0 ≤ y ∧ (y : Int) ≤ r.y1)
theorem inR_iff (r : Rc) (x y : Nat) : inR r x y = true ↔ (r.x0 ≤ x ∧ (x : Int) ≤ r.x1 ∧ r.y0 ≤ y ∧ (y : Int) ≤ r.y1) := by unfold inR; rw [decide_eq_true_eq]
/-- a grid's cells behind a fill -/
def fillG (r : Rc) (v : Int) (f : Nat → Nat → Int) (x y : Nat) : Int := if inR r x y = true then v else f x y
/-- and behind the fills of several rectangles -/
def fillS (l : List Rc) (v : Int) (f : Nat → Nat → Int) (x y : Nat) : Int := if l.any (fun r => inR r x y) = true then v else f x y
theorem fillS_nil (v : Int) (f : Nat → Nat → Int) : fillS [] v f = f := by funext x y; simp [fillS]
theorem fillS_snoc (l : List Rc) (r : Rc) (v : Int) (f : Nat → Nat → Int) : fillS (l ++ [r]) v f = fillG r v (fillS l v f) := by
  funext x y
  unfold fillS fillG
  rw [List.any_append]
  simp only [List.any_cons, List.any_nil, Bool.or_false]
  cases inR r x y <;> cases l.any (fun r => inR r x y) <;> simp

theorem pc_ok (r : Rc) (h1 : 0 ≤ r.x0) (h2 : r.x0 ≤ r.x1) (h3 : 0 ≤ r.y0) (h4 : r.y0 ≤ r.y1) (k : Nat) (hk : k < (pcs r).length) :
    ∃ a0 b0 a1 b1 : Nat, (pcs r)[k] = ⟨a0, b0, a1, b1⟩ ∧ a0 ≤ a1 ∧ b0 ≤ b1 ∧ a0 / 16 = a1 / 16 ∧ b0 / 16 = b1 / 16 ∧ (a1 : Int) ≤ r.x1 ∧ (b1 : Int) ≤ r.y1 := by
  rw [pcs_get _ _ hk]
  rw [pcs_len] at hk
  have hx : 0 < pcX r := by unfold pcX; omega
  have hi : k % pcX r < pcX r := Nat.mod_lt _ hx
  have hj : k / pcX r < pcY r := Nat.div_lt_of_lt_mul (by rw [Nat.mul_comm]; exact hk)
  generalize k % pcX r = i at *
  generalize k / pcX r = j at *
  obtain ⟨x0, y0, x1, y1⟩ := r
  unfold pcX at hi
  unfold pcY at hj
  unfold pc
  simp only at *
  refine ⟨(max (x0 - x0 % 16 + 16 * (i : Int)) x0).toNat, (max (y0 - y0 % 16 + 16 * (j : Int)) y0).toNat, (min (x0 - x0 % 16 + 16 * (i : Int) + 16 - 1) x1).toNat, (min (y0 - y0 % 16 + 16 * (j : Int) + 16 - 1) y1).toNat, ?_, ?_, ?_, ?_, ?_, ?_, ?_⟩
  · rw [Rc.mk.injEq]; omega
  all_goals omega

theorem pcs_cover (r : Rc) (h1 : 0 ≤ r.x0) (h2 : r.x0 ≤ r.x1) (h3 : 0 ≤ r.y0) (h4 : r.y0 ≤ r.y1) (x y : Nat) : (pcs r).any (fun p => inR p x y) = inR r x y := by
  rw [Bool.eq_iff_iff, List.any_eq_true]
  have hx : 0 < pcX r := by unfold pcX; omega
  constructor
  · rintro ⟨p, hp, hin⟩
    obtain ⟨k, hk, rfl⟩ := List.getElem_of_mem hp
    rw [pcs_get _ _ hk, inR_iff] at hin
    rw [inR_iff]
    unfold pc at hin
    simp only at hin
    omega
  · intro hin
    rw [inR_iff] at hin
    have hi : x / 16 - (r.x0 / 16).toNat < pcX r := by unfold pcX; omega
    have hj : y / 16 - (r.y0 / 16).toNat < pcY r := by unfold pcY; omega
    have hlt : (y / 16 - (r.y0 / 16).toNat) * pcX r + (x / 16 - (r.x0 / 16).toNat) < (pcs r).length := by
      rw [pcs_len, Nat.mul_comm (pcY r)]
      exact idx_lt hi hj
    refine ⟨(pcs r)[(y / 16 - (r.y0 / 16).toNat) * pcX r + (x / 16 - (r.x0 / 16).toNat)], List.getElem_mem _, ?_⟩
    rw [pcs_get _ _ hlt, inR_iff]
    rw [Nat.mul_comm, Nat.mul_add_mod, Nat.mod_eq_of_lt hi, Nat.mul_add_div hx, Nat.div_eq_of_lt hi, Nat.add_zero]
    unfold pc
    simp only
    omega
theorem fillS_all (r : Rc) (h1 : 0 ≤ r.x0) (h2 : r.x0 ≤ r.x1) (h3 : 0 ≤ r.y0) (h4 : r.y0 ≤ r.y1) (v : Int) (f : Nat → Nat → Int) : fillS (pcs r) v f = fillG r v f := by
  funext x y
  unfold fillS fillG
  rw [pcs_cover r h1 h2 h3 h4]

theorem SlabIs.blk {w : World} {b sw sh : Nat} {f : Nat → Int} {q : Option Nat} (h : SlabIs w b sw sh f q) : ∃ cs, Blk w b 153 cs := by
  obtain ⟨v, h1, _⟩ := h.body
  exact ⟨_, h1⟩
theorem SlabIs.qblk {w : World} {b sw sh g : Nat} {f : Nat → Int} {q : Option Nat} (h : SlabIs w b sw sh f q) (hq : q = some g) : ∃ cs, Blk w g 21 cs := by
  subst hq
  obtain ⟨v, _, _, h2⟩ := h.body
  exact ⟨_, h2⟩
theorem SlabIs.touch {w w' : World} {b sw sh : Nat} {f : Nat → Int} {q : Option Nat} {S : Nat → Prop} (h : SlabIs w b sw sh f q) (hT : Touch S w w') (hb : ¬ S b) (hq : ∀ g, q = some g → ¬ S g) : SlabIs w' b sw sh f q := by
  obtain ⟨v, h1, h2⟩ := h.body
  refine ⟨h.w1, h.w2, h.h1, h.h2, h.may, v, h1.touch hT hb, ?_⟩
  rcases q with _ | q
  · exact h2
  · exact ⟨h2.1, h2.2.touch hT (hq q rfl)⟩

theorem GridOpen.fill {w w' : World} {gb W H sb c : Nat} {f : Nat → Nat → Int} {p : Nat → Nat} {q : Nat → Option Nat} (h : GridOpen w gb W H f sb c p q) {a0 b0 a1 b1 : Nat} (ha : a0 ≤ a1) (hb : b0 ≤ b1) (ha1 : a1 < W) (hb1 : b1 < H)
    (ea : a0 / 16 = a1 / 16) (eb : b0 / 16 = b1 / 16) {v : Int} {q' : Option Nat}
    (hS : SlabIs w' (p (b0 / 16 * tiles W + a0 / 16)) (tw W (a0 / 16)) (tw H (b0 / 16)) (fillK (tw W (a0 / 16)) (a0 % 16) (b0 % 16) (a1 % 16) (b1 % 16) v (tileF f W (a0 / 16) (b0 / 16))) q')
    (hT : Touch (fun i => i = p (b0 / 16 * tiles W + a0 / 16) ∨ some i = q (b0 / 16 * tiles W + a0 / 16)) w w') (hq : ∀ g, q' = some g → q (b0 / 16 * tiles W + a0 / 16) = some g ∨ w.heap.size ≤ g) :
    GridOpen w' gb W H (fillG ⟨a0, b0, a1, b1⟩ v f) sb c p (fun k => if k = b0 / 16 * tiles W + a0 / 16 then q' else q k) := by
  have hI := (tile_of (show a0 < W by omega)).1
  have hJ := (tile_of (show b0 < H by omega)).1
  have hK := idx_lt hI hJ
  have h0 := h.slabs _ _ hI hJ
  obtain ⟨c0, hc0⟩ := h0.blk
  obtain ⟨cur, hcur, hptr⟩ := h.list
  generalize hKe : b0 / 16 * tiles W + a0 / 16 = K at *
  have far : ∀ g t cs, t ≠ 153 → t ≠ 21 → Blk w g t cs → Blk w' g t cs := fun g t cs n1 n2 hg => hg.touch hT (fun e => by
    rcases e with e | e
    · subst e; exact Blk.ne_ hg hc0 n1 rfl
    · obtain ⟨c1, hc1⟩ := h0.qblk e.symm
      exact Blk.ne_ hg hc1 n2 rfl)
  refine ⟨h.w1, h.w2, h.h1, h.h2, far _ _ _ (by decide) (by decide) h.head, ⟨cur, far _ _ _ (by decide) (by decide) hcur, hptr⟩, ?_, h.inj, ?_⟩
  · intro i j hi hj
    by_cases hk : j * tiles W + i = K
    · obtain ⟨e1, e2⟩ := idx_inj hi hI (hk.trans hKe.symm)
      subst e1 e2
      rw [hk, if_pos rfl]
      refine hS.congr fun k hk' => ?_
      unfold fillK tileF fillG inR
      generalize k % tw W (a0 / 16) = X
      generalize k / tw W (a0 / 16) = Y
      by_cases d : a0 % 16 ≤ X ∧ X ≤ a1 % 16 ∧ b0 % 16 ≤ Y ∧ Y ≤ b1 % 16
      · rw [if_pos d, if_pos (decide_eq_true (by simp only; omega))]
      · rw [if_neg d, if_neg (by rw [decide_eq_true_eq]; simp only; omega)]
    · rw [if_neg hk]
      have hs := h.slabs i j hi hj
      have hlt := idx_lt hi hj
      obtain ⟨c1, hc1⟩ := hs.blk
      have hs' := hs.touch hT (fun e => by
        rcases e with e | e
        · exact hk (h.inj _ _ hlt hK e)
        · obtain ⟨c2, hc2⟩ := h0.qblk e.symm
          exact Blk.ne_ hc1 hc2 (by decide) rfl) (fun g hg e => by
        obtain ⟨c2, hc2⟩ := hs.qblk hg
        rcases e with e | e
        · subst e; exact Blk.ne_ hc2 hc0 (by decide) rfl
        · exact hk (h.inq _ _ g hlt hK hg e.symm))
      refine hs'.congr fun k hk' => ?_
      unfold tileF fillG
      rw [if_neg]
      rw [inR_iff]
      simp only
      have t1 := tw_pos hi
      have t2 := tw_pos hj
      have m1 := Nat.mod_lt k (show 0 < tw W i by omega)
      have m2 : k / tw W i < tw H j := Nat.div_lt_of_lt_mul hk'
      generalize k % tw W i = X at *
      generalize k / tw W i = Y at *
      intro hin
      apply hk
      rw [← hKe]
      have e1 : i = a0 / 16 := by omega
      have e2 : j = b0 / 16 := by omega
      rw [e1, e2]
  · intro k l g hk hl e1 e2
    by_cases ck : k = K
    · by_cases cl : l = K
      · rw [ck, cl]
      · simp only [ck, if_true, cl, if_false] at e1 e2
        rcases hq g e1 with e | e
        · exact absurd (h.inq _ _ g hl hK e2 e) cl
        · exfalso
          obtain ⟨c2, hc2⟩ := (h.slabs (l % tiles W) (l / tiles W) (Nat.mod_lt _ (by omega)) (Nat.div_lt_of_lt_mul hl)).qblk (g := g) (by rw [Nat.mul_comm, Nat.div_add_mod]; exact e2)
          have := hc2.lt
          omega
    · by_cases cl : l = K
      · simp only [ck, if_false, cl, if_true] at e1 e2
        rcases hq g e2 with e | e
        · exact absurd (h.inq _ _ g hk hK e1 e) ck
        · exfalso
          obtain ⟨c2, hc2⟩ := (h.slabs (k % tiles W) (k / tiles W) (Nat.mod_lt _ (by omega)) (Nat.div_lt_of_lt_mul hk)).qblk (g := g) (by rw [Nat.mul_comm, Nat.div_add_mod]; exact e1)
          have := hc2.lt
          omega
      · simp only [ck, cl, if_false] at e1 e2
        exact h.inq k l g hk hl e1 e2

/-- what a fill may turn, and what there is then -/
theorem GridIs.fill {w w' : World} {gb W H sb c : Nat} {f : Nat → Nat → Int} {p : Nat → Nat} {q : Nat → Option Nat} {F : Nat → Prop} (h : GridOpen w gb W H f sb c p q) (hF : ∀ k, k < tiles W * tiles H → F (p k) ∧ ∀ g, q k = some g → F g) {a0 b0 a1 b1 : Nat} (ha : a0 ≤ a1) (hb : b0 ≤ b1) (ha1 : a1 < W) (hb1 : b1 < H)
    (ea : a0 / 16 = a1 / 16) (eb : b0 / 16 = b1 / 16) {v : Int} {q' : Option Nat}
    (hS : SlabIs w' (p (b0 / 16 * tiles W + a0 / 16)) (tw W (a0 / 16)) (tw H (b0 / 16)) (fillK (tw W (a0 / 16)) (a0 % 16) (b0 % 16) (a1 % 16) (b1 % 16) v (tileF f W (a0 / 16) (b0 / 16))) q')
    (hT : Touch (fun i => i = p (b0 / 16 * tiles W + a0 / 16) ∨ some i = q (b0 / 16 * tiles W + a0 / 16)) w w') (hq : ∀ g, q' = some g → q (b0 / 16 * tiles W + a0 / 16) = some g ∨ w.heap.size ≤ g) :
    GridIs w' gb W H (fillG ⟨a0, b0, a1, b1⟩ v f) (fun i => F i ∨ (w.heap.size ≤ i ∧ i < w'.heap.size)) ∧ Touch F w w' := by
  have hK := idx_lt (tile_of (show a0 < W by omega)).1 (tile_of (show b0 < H by omega)).1
  refine ⟨⟨sb, c, p, _, h.fill ha hb ha1 hb1 ea eb hS hT hq, fun k hk => ⟨.inl (hF k hk).1, fun g hg => ?_⟩⟩, hT.mono fun i _ e => ?_⟩
  · by_cases e : k = b0 / 16 * tiles W + a0 / 16
    · simp only [e, if_true] at hg
      rcases hq g hg with e' | e'
      · exact .inl ((hF _ hK).2 g e')
      · obtain ⟨c2, hc2⟩ := hS.qblk hg
        exact .inr ⟨e', hc2.lt⟩
    · simp only [e, if_false] at hg
      exact .inl ((hF k hk).2 g hg)
  · rcases e with e | e
    · subst e; exact (hF _ hK).1
    · exact (hF _ hK).2 i e.symm
end Go.Proofs.YtojlgfkjnkjcmaaGreatDoor

/-
  (*Grid).Fill: a rectangle of a grid gets one value.
-/
namespace Go.Proofs.YtojlgfkjnkjcmaaGreatDoor
open Go.RowKit
set_option linter.unusedVariables false
set_option linter.unusedSimpArgs false

section
variable {B b : Nat} {a W w2 : World} {v0 v1 v2 v3 : Value}
theorem keep_alloc (h : (W.cell? ⟨b, 0, none⟩ = some v0 ∧ W.cell? ⟨b, 1, none⟩ = some v1 ∧ W.cell? ⟨b, 2, none⟩ = some v2 ∧ W.cell? ⟨b, 3, none⟩ = some v3) ∧ Below B a W) (hB : B ≤ a.heap.size) (hb : b < B) (C : Box4 a b v0 v1 v2 v3) (o : Obj) :
    ((W.alloc o).cell? ⟨b, 0, none⟩ = some v0 ∧ (W.alloc o).cell? ⟨b, 1, none⟩ = some v1 ∧ (W.alloc o).cell? ⟨b, 2, none⟩ = some v2 ∧ (W.alloc o).cell? ⟨b, 3, none⟩ = some v3) ∧ Below B a (W.alloc o) := by
  have hn := h.2.alloc (Nat.le_trans hB h.2.size) o
  exact ⟨C.bel hn hb, hn⟩
theorem keep_call (h : (W.cell? ⟨b, 0, none⟩ = some v0 ∧ W.cell? ⟨b, 1, none⟩ = some v1 ∧ W.cell? ⟨b, 2, none⟩ = some v2 ∧ W.cell? ⟨b, 3, none⟩ = some v3) ∧ Below B a W) (h2 : Below W.heap.size W w2) (hB : B ≤ a.heap.size) (hb : b < B) (C : Box4 a b v0 v1 v2 v3) :
    (w2.cell? ⟨b, 0, none⟩ = some v0 ∧ w2.cell? ⟨b, 1, none⟩ = some v1 ∧ w2.cell? ⟨b, 2, none⟩ = some v2 ∧ w2.cell? ⟨b, 3, none⟩ = some v3) ∧ Below B a w2 := by
  have hn := bel_trans h.2 h2 hB
  exact ⟨C.bel hn hb, hn⟩
theorem keep_of (hn : Below B a W) (hb : b < B) (C : Box4 a b v0 v1 v2 v3) : (W.cell? ⟨b, 0, none⟩ = some v0 ∧ W.cell? ⟨b, 1, none⟩ = some v1 ∧ W.cell? ⟨b, 2, none⟩ = some v2 ∧ W.cell? ⟨b, 3, none⟩ = some v3) ∧ Below B a W := ⟨C.bel hn hb, hn⟩
theorem bel_alloc' (h : Below B a W) (hB : B ≤ a.heap.size) (o : Obj) : Below B a (W.alloc o) := h.alloc (Nat.le_trans hB h.size) o
theorem bel_set' (h : Below B a W) {p : Addr} (hp : B ≤ p.block) (u : Value) : Below B a (W.setCell p u) := h.setCell hp u
theorem keep_set2 (h : (W.cell? ⟨b, 0, none⟩ = some v0 ∧ W.cell? ⟨b, 1, none⟩ = some v1 ∧ W.cell? ⟨b, 2, none⟩ = some v2 ∧ W.cell? ⟨b, 3, none⟩ = some v3) ∧ Below B a W) (p p' : Addr) (u u' : Value) (hp : B ≤ p.block) (hp' : B ≤ p'.block) (hB : B ≤ a.heap.size) (hb : b < B) (C : Box4 a b v0 v1 v2 v3) :
    (((W.setCell p u).setCell p' u').cell? ⟨b, 0, none⟩ = some v0 ∧ ((W.setCell p u).setCell p' u').cell? ⟨b, 1, none⟩ = some v1 ∧ ((W.setCell p u).setCell p' u').cell? ⟨b, 2, none⟩ = some v2 ∧ ((W.setCell p u).setCell p' u').cell? ⟨b, 3, none⟩ = some v3) ∧ Below B a ((W.setCell p u).setCell p' u') := by
  have hn := (h.2.setCell hp u).setCell hp' u'
  exact ⟨C.bel hn hb, hn⟩
end

theorem inner_eq (x y : Nat) (w : World) : Calls Tryz.prog 59 #[.int .i64 x, .int .i64 y] w fun e w' => e = .returned (cellV ((x % 16 : Nat) : Int) ((y % 16 : Nat) : Int)) ∧ w.alloc (.cells #[.int .i64 ((x % 16 : Nat) : Int), .int .i64 ((y % 16 : Nat) : Int)] 52) = w' := by
  have h1 : (0 : Int) ≤ (x : Int) := by omega
  have h2 : (0 : Int) ≤ (y : Int) := by omega
  go_enter Tryz.func59, Tryz.ntmps59
  go_wp2_with fail
  refine bodyPost_ret (v := cellV ((x : Int) % 16) ((y : Int) % 16)) (by simp [results, Tryz.results59, go_sem]) rfl ⟨?_, ?_⟩
  · simp
  · simp

theorem slab_far {w w' : World} {b sw sh g : Nat} {f : Nat → Int} {q : Option Nat} {t : TypeId} {cs : Array Value} (h0 : SlabIs w b sw sh f q) (hT : Touch (fun i => i = b ∨ some i = q) w w') (n1 : t ≠ 153) (n2 : t ≠ 21) (hg : Blk w g t cs) : Blk w' g t cs :=
  hg.touch hT (fun e => by
    rcases e with e | e
    · obtain ⟨c0, hc0⟩ := h0.blk
      subst e; exact Blk.ne_ hg hc0 n1 rfl
    · obtain ⟨c1, hc1⟩ := h0.qblk e.symm
      exact Blk.ne_ hg hc1 n2 rfl)
theorem slab_own_far {w w' : World} {b sw sh : Nat} {f : Nat → Int} {q : Option Nat} {base : Nat} {e : TypeId} {size n : Nat} {v : Value} {xs : List Value} (h0 : SlabIs w b sw sh f q) (hT : Touch (fun i => i = b ∨ some i = q) w w') (n1 : e ≠ 153) (n2 : e ≠ 21) (h : w.ownsRow base e size v n xs) : w'.ownsRow base e size v n xs :=
  own_of_block h fun g hg => by
    obtain ⟨cur, hc⟩ := own_blk h hg
    exact (slab_far h0 hT n1 n2 hc).trans hc.symm
theorem GridOpen.kept {w w' : World} {gb W H sb c : Nat} {f : Nat → Nat → Int} {p : Nat → Nat} {q : Nat → Option Nat} (h : GridOpen w gb W H f sb c p q) (hb : Below w.heap.size w w') : GridOpen w' gb W H f sb c p q := by
  obtain ⟨cur, h1, h2⟩ := h.list
  exact ⟨h.w1, h.w2, h.h1, h.h2, h.head.kept hb, ⟨cur, h1.kept hb, h2⟩, fun i j hi hj => (h.slabs i j hi hj).kept hb, h.inj, h.inq⟩
theorem GridIs.kept {w w' : World} {gb W H : Nat} {f : Nat → Nat → Int} {F : Nat → Prop} (h : GridIs w gb W H f F) (hb : Below w.heap.size w w') : GridIs w' gb W H f F := by
  obtain ⟨sb, c, p, q, h1, h2⟩ := h
  exact ⟨sb, c, p, q, h1.kept hb, h2⟩
theorem GridIs.wide {w : World} {gb W H : Nat} {f : Nat → Nat → Int} {F F' : Nat → Prop} (h : GridIs w gb W H f F) (hF : ∀ i, F i → F' i) : GridIs w gb W H f F' := by
  obtain ⟨sb, c, p, q, h1, h2⟩ := h
  exact ⟨sb, c, p, q, h1, fun k hk => ⟨hF _ (h2 k hk).1, fun g hg => hF _ ((h2 k hk).2 g hg)⟩⟩

/-- a grid has been filled -/
def GivesFillG (w : World) (gb W H : Nat) (f : Nat → Nat → Int) (F : Nat → Prop) (e : Ending) (w' : World) : Prop :=
  e = .returned (.int .i64 0) ∧ GridIs w' gb W H f (fun i => F i ∨ (w.heap.size ≤ i ∧ i < w'.heap.size)) ∧ Touch F w w'

set_option maxHeartbeats 8000000 in
set_option maxRecDepth 100000 in
theorem gFill_ok {w : World} {gb W H : Nat} {f : Nat → Nat → Int} {F : Nat → Prop} (hG : GridIs w gb W H f F) (r : Rc) (v : Int) (r1 : 0 ≤ r.x0) (r2 : r.x0 ≤ r.x1) (r3 : r.x1 < W) (r4 : 0 ≤ r.y0) (r5 : r.y0 ≤ r.y1) (r6 : r.y1 < H) (hv : MayV v) :
    Calls Tryz.prog 53 #[.pointer (some ⟨gb, 0, none⟩), rectV r.x0 r.y0 r.x1 r.y1, .int .i64 v] w (GivesFillG w gb W H (fillG r v f) F) := by
  have hG' := hG
  obtain ⟨sb, sc, p, q, hO, hF⟩ := hG'
  have s2 := hO.w2
  have s4 := hO.h2
  have s1 := hO.w1
  have s3 := hO.h1
  have hhd := hO.head
  have hs := fun w' hb' => gcheck_any gb W H (.int .i64 (tiles W)) (.slice (some ⟨sb, 0, none⟩) (tiles W * tiles H) sc) r.x0 r.y0 r.x1 r.y1 w' hb' (by omega) (by omega) (by omega) (by omega)
  rw [show withinZ r.x0 r.y0 r.x1 r.y1 W H = 0 from within_of ⟨by omega, by omega, by omega, by omega⟩ r1 r2 r3 r4 r5 r6] at hs
  have HS := Lib.hid hs
  have HP := Lib.hid fun w' => Pieces_ok r w' ((right_iff _ _ _ _).2 ⟨by omega, by omega, by omega, by omega, by omega, by omega⟩)
  obtain ⟨L, hL⟩ : ∃ L, pcs r = L := ⟨_, rfl⟩
  have hpc := pc_ok r r1 r2 r4 r5
  have hfin := fillS_all r r1 r2 r4 r5 v f
  have hnl : (pcs r).length ≤ 4096 := by
    rw [pcs_len]
    have e1 : pcY r ≤ 64 := by unfold pcY; omega
    have e2 : pcX r ≤ 64 := by unfold pcX; omega
    exact Nat.mul_le_mul e1 e2
  rw [hL] at HP hpc hfin hnl
  obtain ⟨n, hn⟩ : ∃ n, L.length = n := ⟨_, rfl⟩
  rw [hn] at hnl
  have HN := Lib.hid hn
  have HPC := Lib.hid hpc
  have HFIN := Lib.hid hfin
  have HV := Lib.hid hv
  have HG := Lib.hid hG
  have HHD := Lib.hid hhd
  have hgl := hhd.lt
  obtain ⟨x0, y0, x1, y1⟩ := r
  simp only at *
  clear hs hpc hfin hL hn hG hO hF hhd hv
  go_enter Tryz.func53, Tryz.ntmps53
  go_wp2_with fail
  refine (HS.out _ (HHD.out.alloc _)).mono ?_
  rintro e w1 ⟨rfl, hb1⟩
  have hb1' : Below (w.heap.size + 1) (w.alloc (.cells #[.int .i64 x0, .int .i64 y0, .int .i64 x1, .int .i64 y1] 107)) w1 := by simpa using hb1
  obtain ⟨c0, c1, c2, c3⟩ := (box4_new w (.int .i64 x0) (.int .i64 y0) (.int .i64 x1) (.int .i64 y1) 107).bel hb1' (by omega)
  have HB : Below w.heap.size w w1 := (new_bel w _).trans (hb1'.mono (by omega))
  clear hb1 hb1' HS
  go_wp2_with fail
  refine (HP.out _).mono ?_
  rintro e w2 ⟨RA, rc, rfl, hrects, hb2⟩
  rw [HN.out] at hrects ⊢
  have HB2 : Below w.heap.size w w2 := bel_trans HB hb2 (Nat.le_refl _)
  have HR := Lib.hid (ownsRow_low hrects HB.size)
  clear hrects hb2 c0 c1 c2 c3 HP HB
  go_wp2_with fail
  go_loopw [22] (fun t wr => ∃ k : Nat, k ≤ n ∧ t = .int .i64 k ∧ Hid (GridIs wr gb W H (fillS (L.take k) v f) (fun i => F i ∨ (w.heap.size ≤ i ∧ i < wr.heap.size))) ∧ Hid (Touch F w wr) ∧ Hid (wr.ownsRow w.heap.size 107 4 (.slice RA n rc) n (flt encR L))) (fun t _ => n - (intOf t).toNat)
  case atStart =>
    refine ⟨0, by omega, rfl, Lib.hid ?_, Lib.hid (Touch.of_kept HB2), HR⟩
    rw [List.take_zero, fillS_nil]
    exact (HG.out.kept HB2).wide fun i hi => .inl hi
  case round =>
    obtain ⟨k, hk, rfl, HGr, HTr, HRr⟩ := hrel
    by_cases hlt : k < n
    · have hlt' : k < L.length := by rw [HN.out]; exact hlt
      obtain ⟨a0, b0, a1, b1, hpk, ha, hb, ea, eb, ha1, hb1⟩ := HPC.out k hlt'
      obtain ⟨g, hRA, hg1, hg2, hcell⟩ := own_thing (l := L) encR_len (by rw [HN.out]; exact HRr.out) hlt'
      subst hRA
      rw [hpk] at hcell
      have e0 : wr.cell? ⟨g, k * 4, none⟩ = some (.int .i64 a0) := hcell 0 _ rfl
      have e1 : wr.cell? ⟨g, k * 4 + 1, none⟩ = some (.int .i64 b0) := hcell 1 _ rfl
      have e2 : wr.cell? ⟨g, k * 4 + 2, none⟩ = some (.int .i64 a1) := hcell 2 _ rfl
      have e3 : wr.cell? ⟨g, k * 4 + 3, none⟩ = some (.int .i64 b1) := hcell 3 _ rfl
      have t1 : (k : Int) < (n : Int) := by omega
      have HPK := Lib.hid hpk
      have HEA := Lib.hid ea
      have HEB := Lib.hid eb
      clear hcell hpk ea eb
      go_upto_region 7 with fail
      obtain ⟨w5, hw5⟩ : ∃ w5, wr.alloc (.cells #[.int .i64 a0, .int .i64 b0, .int .i64 a1, .int .i64 b1] 107) = w5 := ⟨_, rfl⟩
      rw [hw5]
      have C : Box4 w5 wr.heap.size (.int .i64 a0) (.int .i64 b0) (.int .i64 a1) (.int .i64 b1) := by rw [← hw5]; exact box4_new wr _ _ _ _ _
      have hz5 : w5.heap.size = wr.heap.size + 1 := by rw [← hw5]; simp
      have HW5 := Lib.hid hw5
      have hB5 : wr.heap.size + 1 ≤ w5.heap.size := by omega
      have hb5 : wr.heap.size < wr.heap.size + 1 := by omega
      have HX0 := Below.refl (wr.heap.size + 1) w5
      have HZ5 := Lib.hid hz5
      clear hw5 hz5 e0 e1 e2 e3
      obtain ⟨A0, hA0⟩ : ∃ A0, a0 % 16 = A0 := ⟨_, rfl⟩
      obtain ⟨B0, hB0⟩ : ∃ B0, b0 % 16 = B0 := ⟨_, rfl⟩
      obtain ⟨A1, hA1⟩ : ∃ A1, a1 % 16 = A1 := ⟨_, rfl⟩
      obtain ⟨B1, hB1⟩ : ∃ B1, b1 % 16 = B1 := ⟨_, rfl⟩
      have HI0 := Lib.hid fun w' => inner_eq a0 b0 w'
      have HI1 := Lib.hid fun w' => inner_eq a1 b1 w'
      rw [hA0, hB0] at HI0
      rw [hA1, hB1] at HI1
      have HA0 := Lib.hid hA0
      have HB0 := Lib.hid hB0
      have HA1 := Lib.hid hA1
      have HB1 := Lib.hid hB1
      clear hA0 hB0 hA1 hB1
      go_cut [10, 11] (fun s10 s11 wx => ∃ ga gc : Nat, s10 = .pointer (some ⟨ga, 0, none⟩) ∧ s11 = .pointer (some ⟨gc, 0, none⟩) ∧ Blk wx ga 52 #[.int .i64 A0, .int .i64 B0] ∧ Blk wx gc 52 #[.int .i64 A1, .int .i64 B1] ∧ Below (wr.heap.size + 1) w5 wx)
      case first =>
        go_region_held3 (fun W' => (W'.cell? ⟨wr.heap.size, 0, none⟩ = some (.int .i64 a0) ∧ W'.cell? ⟨wr.heap.size, 1, none⟩ = some (.int .i64 b0) ∧ W'.cell? ⟨wr.heap.size, 2, none⟩ = some (.int .i64 a1) ∧ W'.cell? ⟨wr.heap.size, 3, none⟩ = some (.int .i64 b1)) ∧ Below (wr.heap.size + 1) w5 W')
          (first | exact ⟨C, HX0.drew⟩ | (refine keep_of ?_ hb5 C; repeat (first | exact HX0 | exact HX0.drew | refine Below.drew ?_ | refine bel_alloc' ?_ hB5 _ | refine bel_set' ?_ (by simp; omega) _)))
          ((go_at_call 59; (first | with_reducible refine (HI0.out _).mono ?_ | with_reducible refine (HI1.out _).mono ?_); rintro e w6 ⟨rfl, rfl⟩))
        all_goals
          go_wp2_with fail
          go_meet
          refine ⟨_, _, rfl, rfl, ?_, ?_, ?_⟩
          · repeat (first | (refine Blk.new' _ _ _ ?_; first | rfl | (simp; done)) | refine Blk.drew ?_ | refine Blk.alloc ?_ _)
          · repeat (first | (refine Blk.new' _ _ _ ?_; first | rfl | (simp; done)) | refine Blk.drew ?_ | refine Blk.alloc ?_ _)
          · repeat (first | exact HX0 | exact HX0.drew | refine Below.drew ?_ | refine bel_alloc' ?_ hB5 _ | refine bel_set' ?_ (by simp; omega) _)
      case rest =>
        obtain ⟨ga, gc, rfl, rfl, BA, BD, HBx⟩ := hcut
        have HBr : Below wr.heap.size wr wc := by
          have e := HW5.out
          have h5 : Below wr.heap.size wr w5 := by rw [← e]; exact new_bel wr _
          exact h5.trans (HBx.mono (by omega))
        have BR : Blk wc wr.heap.size 107 #[.int .i64 a0, .int .i64 b0, .int .i64 a1, .int .i64 b1] := by
          have e := HW5.out
          refine Blk.below ?_ HBx (by omega)
          rw [← e]; exact Blk.new wr _ _
        obtain ⟨sb2, sc2, p2, q2, hO2, hF2⟩ := HGr.out.kept HBr
        have hI := tile_of (show a0 < W by omega)
        have hJ := tile_of (show b0 < H by omega)
        have hK := idx_lt hI.1 hJ.1
        have hSL := hO2.slabs _ _ hI.1 hJ.1
        obtain ⟨cur, hcur, hptr⟩ := hO2.list
        have hat := (hcur.cell _).trans (hptr _ hK)
        have HSA := Lib.hid <| gslab_at gb sb2 _ sc2 (tiles W) a0 b0 _ _ _ _ #[] wc.drew hO2.head.drew hat rfl hK (tiles_le s2) (by omega) (by omega)
        have HFL := Lib.hid fun w' (hw' : Below wc.heap.size wc w') => sFill_ok (hSL.kept hw') (a0 % 16) (b0 % 16) (a1 % 16) (b1 % 16) v (by have := HEA.out; omega) (by have := HEA.out; have h2 := (tile_of (show a1 < W by omega)).2; rw [← this] at h2; exact h2) (by have := HEB.out; omega) (by have := HEB.out; have h2 := (tile_of (show b1 < H by omega)).2; rw [← this] at h2; exact h2) HV.out
        rw [HA0.out, HB0.out, HA1.out, HB1.out] at HFL
        have HO2 := Lib.hid hO2
        have HF2 := Lib.hid hF2
        have HSL := Lib.hid hSL
        obtain ⟨K, hKe⟩ : ∃ K, b0 / 16 * tiles W + a0 / 16 = K := ⟨_, rfl⟩
        rw [hKe] at HSA HFL HSL
        obtain ⟨sl, hsl⟩ : ∃ sl, p2 K = sl := ⟨_, rfl⟩
        rw [hsl] at HSA HFL HSL
        obtain ⟨q0, hq0⟩ : ∃ q0, q2 K = q0 := ⟨_, rfl⟩
        rw [hq0] at HFL HSL
        have HKE := Lib.hid hKe
        have HSE := Lib.hid hsl
        have HQE := Lib.hid hq0
        have SS : (wc.cell? ⟨wr.heap.size, 0, none⟩ = some (.int .i64 a0) ∧ wc.cell? ⟨wr.heap.size, 1, none⟩ = some (.int .i64 b0)) ∧ (wc.cell? ⟨ga, 0, none⟩ = some (.int .i64 A0) ∧ wc.cell? ⟨ga, 1, none⟩ = some (.int .i64 B0)) ∧ (wc.cell? ⟨gc, 0, none⟩ = some (.int .i64 A1) ∧ wc.cell? ⟨gc, 1, none⟩ = some (.int .i64 B1)) := ⟨⟨BR.cell 0, BR.cell 1⟩, ⟨BA.cell 0, BA.cell 1⟩, BD.cell 0, BD.cell 1⟩
        have HK8 : Hid (∀ m w7, Touch (fun i => i = sl ∨ some i = q0) (wc.drewN m) w7 → (w7.cell? ⟨wr.heap.size, 0, none⟩ = some (.int .i64 a0) ∧ w7.cell? ⟨wr.heap.size, 1, none⟩ = some (.int .i64 b0)) ∧ (w7.cell? ⟨ga, 0, none⟩ = some (.int .i64 A0) ∧ w7.cell? ⟨ga, 1, none⟩ = some (.int .i64 B0)) ∧ (w7.cell? ⟨gc, 0, none⟩ = some (.int .i64 A1) ∧ w7.cell? ⟨gc, 1, none⟩ = some (.int .i64 B1))) := Lib.hid fun m w7 hT => by
          have h0 := HSL.out.kept (bel_drewN (Below.refl wc.heap.size wc) m)
          have r1 := slab_far h0 hT (by decide) (by decide) (BR.drewN m)
          have r2 := slab_far h0 hT (by decide) (by decide) (BA.drewN m)
          have r3 := slab_far h0 hT (by decide) (by decide) (BD.drewN m)
          exact ⟨⟨r1.cell 0, r1.cell 1⟩, ⟨r2.cell 0, r2.cell 1⟩, r3.cell 0, r3.cell 1⟩
        clear hO2 hF2 hSL hcur hptr hat hKe hsl hq0 BR BA BD hI hJ hK HI0 HI1
        go_wp2_with fail
        go_region_held3 (fun W' => (W'.cell? ⟨wr.heap.size, 0, none⟩ = some (.int .i64 a0) ∧ W'.cell? ⟨wr.heap.size, 1, none⟩ = some (.int .i64 b0)) ∧ (W'.cell? ⟨ga, 0, none⟩ = some (.int .i64 A0) ∧ W'.cell? ⟨ga, 1, none⟩ = some (.int .i64 B0)) ∧ (W'.cell? ⟨gc, 0, none⟩ = some (.int .i64 A1) ∧ W'.cell? ⟨gc, 1, none⟩ = some (.int .i64 B1)))
          (first | exact SS | exact HK8.out _ _ hT7)
          (first | (go_at_call 57; refine HSA.out.mono ?_; rintro e w6 ⟨rfl, m, rfl⟩) | (go_at_call 80; refine (HFL.out _ (bel_drewN (Below.refl _ _) _)).mono ?_; rintro e w7 ⟨q', rfl, hS7, hT7, hq7⟩))
        go_wp2_with fail
        go_roundw
        case rel =>
          have h8 := bel_drewN (Below.refl wc.heap.size wc) (1 + m)
          have hO8 := HO2.out.kept h8
          have heq := HKE.out
          have hse := HSE.out
          have hqe := HQE.out
          subst heq hse hqe
          have hA := HA0.out
          have hB := HB0.out
          have hA' := HA1.out
          have hB' := HB1.out
          subst hA hB hA' hB'
          obtain ⟨g1, g2⟩ := GridIs.fill (F := fun i => F i ∨ (w.heap.size ≤ i ∧ i < wr.heap.size)) hO8 HF2.out ha hb (by omega) (by omega) HEA.out HEB.out hS7 hT7 hq7
          have hsz : w.heap.size ≤ wr.heap.size := HTr.out.size
          have hszc := HBr.size
          have hsz7 := hT7.size
          have hszd : (wc.drewN (1 + m)).heap.size = wc.heap.size := rfl
          refine ⟨k + 1, by omega, by go_num, Lib.hid ?_, Lib.hid ?_, Lib.hid ?_⟩
          · rw [List.take_succ_eq_append_getElem hlt', fillS_snoc, HPK.out]
            refine g1.wide fun i hi => ?_
            rcases hi with (hi | hi) | hi
            · exact .inl hi
            · exact .inr (by omega)
            · exact .inr (by have := hi.1; have := hi.2; simp at *; omega)
          · exact ((HTr.out.trans (Touch.of_kept HBr)).drewN (1 + m)).trans' g2 (fun i hi e => by
              rcases e with e | e
              · exact e
              · omega)
          · have h1 := ownsRow_below HRr.out HBr (Nat.le_refl _)
            exact slab_own_far (HSL.out.kept h8) hT7 (by decide) (by decide) (own_of_block (w' := wc.drewN (1 + m)) h1 (fun _ _ => rfl))
        case measure =>
          simp only [intOf]
          omega
    · have e : k = n := by omega
      subst e
      go_wp2_with fail
      go_ret
      have hg := HGr.out
      rw [List.take_of_length_le (by rw [HN.out]; exact Nat.le_refl _), HFIN.out] at hg
      exact ⟨rfl, hg, HTr.out⟩
end Go.Proofs.YtojlgfkjnkjcmaaGreatDoor

/-
  (*Grid).Size, All, Set, Values.
-/
namespace Go.Proofs.YtojlgfkjnkjcmaaGreatDoor
open Go.RowKit
set_option linter.unusedVariables false
set_option linter.unusedSimpArgs false

theorem gSize_any (b : Nat) (W H : Int) (v2 v3 : Value) (w : World) (hb : Blk w b 112 #[.int .i64 W, .int .i64 H, v2, v3]) :
    Calls Tryz.prog 26 #[.pointer (some ⟨b, 0, none⟩)] w (Ret (.tuple #[.int .i64 W, .int .i64 H]) w) := by
  have c0 : w.cell? ⟨b, 0, none⟩ = some (.int .i64 W) := hb.cell 0
  have c1 : w.cell? ⟨b, 1, none⟩ = some (.int .i64 H) := hb.cell 1
  clear hb
  go_enter Tryz.func26, Tryz.ntmps26
  go_wp2_with fail
  go_region_held3 (fun W' => W'.cell? ⟨b, 0, none⟩ = some (.int .i64 W) ∧ W'.cell? ⟨b, 1, none⟩ = some (.int .i64 H)) (first | exact ⟨c0, c1⟩) (fail)
  go_wp2_with fail
  go_ret2
  exact ⟨rfl, (Below.refl _ _).drew⟩

set_option maxHeartbeats 1000000 in
theorem gAll_any (b : Nat) (W H : Int) (v2 v3 : Value) (w : World) (hb : Blk w b 112 #[.int .i64 W, .int .i64 H, v2, v3]) (h1 : 1 ≤ W) (h2 : W ≤ 1024) (h3 : 1 ≤ H) (h4 : H ≤ 1024) :
    Calls Tryz.prog 49 #[.pointer (some ⟨b, 0, none⟩)] w (Ret (rectV 0 0 (W - 1) (H - 1)) w) := by
  have hlt := hb.lt
  have c0 : w.cell? ⟨b, 0, none⟩ = some (.int .i64 W) := hb.cell 0
  have c1 : w.cell? ⟨b, 1, none⟩ = some (.int .i64 H) := hb.cell 1
  have D : Box2 w b (.int .i64 W) (.int .i64 H) := ⟨c0, c1⟩
  have D2 := D.bel (new_bel w (.cells #[.int .i64 0, .int .i64 0, .int .i64 0, .int .i64 0] 107)) hlt
  have D3 := D.bel (new_bel w (.cells #[.int .i64 0, .int .i64 0, .int .i64 (W - 1), .int .i64 (H - 1)] 107)) hlt
  have W1 : IntKind.i64.wrap (W - 1) = W - 1 := IntWalk.i64_in _ (by omega)
  have W2 : IntKind.i64.wrap (H - 1) = H - 1 := IntWalk.i64_in _ (by omega)
  clear hb
  go_enter Tryz.func49, Tryz.ntmps49
  go_wp2_with fail
  go_region_held3 (fun W' => W'.cell? ⟨b, 0, none⟩ = some (.int .i64 W) ∧ W'.cell? ⟨b, 1, none⟩ = some (.int .i64 H)) (first | exact D2 | exact D3 | exact D) (fail)
  go_wp2_with fail
  exact bodyPost_ret (v := rectV 0 0 (W - 1) (H - 1)) (by simp [results, Tryz.results49, go_sem]) rfl ⟨rfl, ((Below.refl _ _).alloc (Nat.le_refl _) _).drew⟩

theorem gSet_ok {w : World} {gb W H : Nat} {f : Nat → Nat → Int} {F : Nat → Prop} (hG : GridIs w gb W H f F) (x y : Nat) (v : Int) (hx : x < W) (hy : y < H) (hv : MayV v) :
    Calls Tryz.prog 25 #[.pointer (some ⟨gb, 0, none⟩), cellV x y, .int .i64 v] w (GivesFillG w gb W H (fillG ⟨x, y, x, y⟩ v f) F) := by
  have HF := Lib.hid fun W' (hW : Below w.heap.size w W') => gFill_ok (hG.kept hW) ⟨x, y, x, y⟩ v (by simp only; omega) (by simp only; omega) (by simp only; omega) (by simp only; omega) (by simp only; omega) (by simp only; omega) hv
  clear hG
  go_enter Tryz.func25, Tryz.ntmps25
  go_wp2_with fail
  refine (gspot_any x y _).mono ?_
  rintro e w1 ⟨rfl, hb1⟩
  have HB : Below w.heap.size w w1 := (new_bel w _).trans (hb1.mono (by simp))
  clear hb1
  go_wp2_with fail
  refine (HF.out _ HB).mono ?_
  rintro e w2 ⟨rfl, hg, hT⟩
  go_wp2_with fail
  go_ret
  have := HB.size
  refine ⟨rfl, hg.wide fun i hi => ?_, (Touch.of_kept HB).trans hT⟩
  rcases hi with hi | hi
  · exact .inl hi
  · exact .inr (by omega)

/-- the values of a part of a row, of rows -/
def vRow (f : Nat → Nat → Int) (x0 y i : Nat) : List Int := (List.range i).map fun a => f (x0 + a) y
def vRows (f : Nat → Nat → Int) (x0 nx y0 j : Nat) : List Int := (List.range j).flatMap fun b => vRow f x0 (y0 + b) nx
theorem vRow_succ (f : Nat → Nat → Int) (x0 y i : Nat) : vRow f x0 y (i + 1) = vRow f x0 y i ++ [f (x0 + i) y] := by simp [vRow, List.range_succ]
theorem vRows_succ (f : Nat → Nat → Int) (x0 nx y0 j : Nat) : vRows f x0 nx y0 (j + 1) = vRows f x0 nx y0 j ++ vRow f x0 (y0 + j) nx := by simp [vRows, List.range_succ]
theorem vRow_len (f : Nat → Nat → Int) (x0 y i : Nat) : (vRow f x0 y i).length = i := by simp [vRow]
theorem vRows_len (f : Nat → Nat → Int) (x0 nx y0 j : Nat) : (vRows f x0 nx y0 j).length = j * nx := by
  induction j with
  | zero => simp [vRows]
  | succ j ih => rw [vRows_succ, List.length_append, ih, vRow_len, Nat.succ_mul]
def ints (l : List Int) : List Value := l.map (Value.int .i64)
theorem ints_append (l m : List Int) : ints (l ++ m) = ints l ++ ints m := by simp [ints]
theorem info_i64 : (Tryz.prog.info? 2).map (fun i => (i.zero, i.size, i.bytes)) = some (some (.int .i64 0), 1, 8) := by kernel_rfl

theorem tileF_at {W H x y : Nat} (f : Nat → Nat → Int) (hx : x < W) : tileF f W (x / 16) (y / 16) (y % 16 * tw W (x / 16) + x % 16) = f x y := by
  have h := (tile_of hx).2
  unfold tileF
  rw [Nat.mul_comm (y % 16), Nat.mul_add_mod, Nat.mod_eq_of_lt h, Nat.mul_add_div (by omega), Nat.div_eq_of_lt h, Nat.add_zero]
  congr 1 <;> omega

/-- it gives values in memory of its own -/
def GivesV (w : World) (l : List Int) (e : Ending) (w' : World) : Prop :=
  ∃ A c, e = .returned (.tuple #[.slice A l.length c, .int .i64 0]) ∧ w'.ownsRow w.heap.size 2 1 (.slice A l.length c) l.length (ints l) ∧ Below w.heap.size w w'
def ValsAt (w wr : World) (v : Value) (l : List Int) : Prop :=
  ∃ A c, v = .slice A l.length c ∧ wr.ownsRow w.heap.size 2 1 (.slice A l.length c) l.length (ints l)

set_option maxHeartbeats 4000000 in
set_option maxRecDepth 100000 in
theorem gValues_ok {w : World} {gb W H : Nat} {f : Nat → Nat → Int} {F : Nat → Prop} (hG : GridIs w gb W H f F) (x0 y0 x1 y1 : Nat) (r2 : x0 ≤ x1) (r3 : x1 < W) (r5 : y0 ≤ y1) (r6 : y1 < H) :
    Calls Tryz.prog 70 #[.pointer (some ⟨gb, 0, none⟩), rectV x0 y0 x1 y1] w (GivesV w (vRows f x0 (x1 - x0 + 1) y0 (y1 - y0 + 1))) := by
  obtain ⟨i0, hi0, hz0, hz1, hz2⟩ := info_parts info_i64
  obtain ⟨sb, sc, p, q, hO, hF⟩ := hG
  have s2 := hO.w2
  have s4 := hO.h2
  have s1 := hO.w1
  have s3 := hO.h1
  have hs := fun w' hb' => gcheck_any gb W H (.int .i64 (tiles W)) (.slice (some ⟨sb, 0, none⟩) (tiles W * tiles H) sc) x0 y0 x1 y1 w' hb' (by omega) (by omega) (by omega) (by omega)
  rw [show withinZ x0 y0 x1 y1 W H = 0 from within_of ⟨by omega, by omega, by omega, by omega⟩ (by omega) (by omega) (by omega) (by omega) (by omega) (by omega)] at hs
  have HS := Lib.hid hs
  have hA := fun W => Area_any x0 y0 x1 y1 W
  obtain ⟨n, hn⟩ : ∃ n, (x1 - x0 + 1) * (y1 - y0 + 1) = n := ⟨_, rfl⟩
  rw [show areaZ x0 y0 x1 y1 = (n : Int) by
    unfold areaZ; rw [if_pos ((right_iff _ _ _ _).2 ⟨by omega, by omega, by omega, by omega, by omega, by omega⟩), area_cast r2 r5, hn]] at hA
  have HA := Lib.hid hA
  have hnl : n ≤ 1048576 := by rw [← hn]; exact Nat.mul_le_mul (show x1 - x0 + 1 ≤ 1024 by omega) (show y1 - y0 + 1 ≤ 1024 by omega)
  have HN := Lib.hid hn
  have HO := Lib.hid hO
  have hgl := hO.head.lt
  obtain ⟨nx, hnx⟩ : ∃ nx, x1 - x0 + 1 = nx := ⟨_, rfl⟩
  obtain ⟨ny, hny⟩ : ∃ ny, y1 - y0 + 1 = ny := ⟨_, rfl⟩
  rw [hnx, hny]
  have lx : nx ≤ 1024 ∧ x0 + nx = x1 + 1 := by omega
  have ly : ny ≤ 1024 ∧ y0 + ny = y1 + 1 := by omega
  have HLX := Lib.hid lx.2
  have HLY := Lib.hid ly.2
  have lx1 := lx.1
  have ly1 := ly.1
  clear hs hA hn hO hnx hny lx ly
  go_enter Tryz.func70, Tryz.ntmps70
  go_wp2_with fail
  refine (HS.out _ (HO.out.head.alloc _)).mono ?_
  rintro e w1 ⟨rfl, hb1⟩
  have hb1' : Below (w.heap.size + 1) (w.alloc (.cells #[.int .i64 x0, .int .i64 y0, .int .i64 x1, .int .i64 y1] 107)) w1 := by simpa using hb1
  obtain ⟨c0, c1, c2, c3⟩ := (box4_new w (.int .i64 x0) (.int .i64 y0) (.int .i64 x1) (.int .i64 y1) 107).bel hb1' (by omega)
  have C1 : Box4 w1 w.heap.size (.int .i64 x0) (.int .i64 y0) (.int .i64 x1) (.int .i64 y1) := ⟨c0, c1, c2, c3⟩
  have hz1' : w.heap.size < w1.heap.size := by have := hb1'.size; simp at this; omega
  have HB : Below w.heap.size w w1 := (new_bel w _).trans (hb1'.mono (by omega))
  clear hb1 hb1' HS
  go_wp2_with fail
  refine (HA.out _).mono ?_
  rintro e w2 ⟨rfl, hb2⟩
  have C2 := C1.bel hb2 hz1'
  have HB2 := bel_trans HB hb2 (Nat.le_refl _)
  have hz2' : w.heap.size < w2.heap.size := by have := hb2.size; omega
  obtain ⟨w3, hrun, hown3, hg3⟩ := run_make_own (P := Tryz.prog) w2 w2.heap.size 22 2 i0 (.int .i64 0) 1 Tryz.underlying22 hi0 hz0 hz1 .i64 .i64 n (by rw [hz2]; omega) (by simp only [maxLen]; omega) (Nat.le_refl _)
  have hb3 : Below w2.heap.size w2 w3 := below_of_grown hg3
  obtain ⟨e0, e1, e2, e3⟩ := C2.bel hb3 hz2'
  have HOW3 := Lib.hid hown3
  clear c0 c1 c2 c3 C1 hb2 HB hg3 hown3
  go_wp2_with fail
  clear hrun
  have C3 : Box4 w2 w.heap.size (.int .i64 x0) (.int .i64 y0) (.int .i64 x1) (.int .i64 y1) := C2
  clear e0 e1 e2 e3 C2
  go_loopw [7, 8] (fun o t wr => ∃ j : Nat, j ≤ ny ∧ t = .int .i64 ((y0 : Int) + (j : Int)) ∧ ValsAt w2 wr o (vRows f x0 nx y0 j) ∧ Below w2.heap.size w2 wr) (fun _ t _ => 4096 - (intOf t).toNat)
  case atStart => exact ⟨0, by omega, by simp, ⟨some ⟨w2.heap.size, 0, none⟩, n, by simp [vRows], by simpa [vRows, ints] using HOW3.out⟩, hb3⟩
  case round =>
    obtain ⟨j, hj, rfl, ⟨A, c, rfl, hown⟩, hbr⟩ := hrel
    obtain ⟨e0, e1, e2, e3⟩ := C3.bel hbr hz2'
    have hly := HLY.out
    by_cases hlt : j < ny
    · have t1 : (y0 : Int) + (j : Int) ≤ (y1 : Int) := by omega
      have HOWN := Lib.hid hown
      clear hly hown
      go_wp2_with fail
      go_loopw [7, 9] (fun o t wr2 => ∃ i : Nat, i ≤ nx ∧ t = .int .i64 ((x0 : Int) + (i : Int)) ∧ ValsAt w2 wr2 o (vRows f x0 nx y0 j ++ vRow f x0 (y0 + j) i) ∧ Below w2.heap.size w2 wr2) (fun _ t _ => 4096 - (intOf t).toNat)
      case atStart => exact ⟨0, by omega, by simp, ⟨A, c, by simp [vRow], by simpa [vRow] using HOWN.out⟩, hbr⟩
      case round =>
        obtain ⟨i, hi, rfl, ⟨A2, c2', rfl, hown2⟩, hbr2⟩ := hrel
        obtain ⟨d0, d1, d2, d3⟩ := C3.bel hbr2 hz2'
        have hzr := hbr2.size
        clear e0 e1 e2 e3 HOWN hbr
        have len4 : (vRows f x0 nx y0 j ++ vRow f x0 (y0 + j) i).length ≤ 2097152 := by
          rw [List.length_append, vRows_len, vRow_len]
          have := Nat.mul_le_mul (show j ≤ 1024 by omega) lx1
          omega
        obtain ⟨L, hL⟩ : ∃ L, vRows f x0 nx y0 j ++ vRow f x0 (y0 + j) i = L := ⟨_, rfl⟩
        rw [hL] at len4 hown2 ⊢
        have HL := Lib.hid hL
        have HOWN2 := Lib.hid hown2
        clear hL hown2
        have hlx := HLX.out
        have hly := HLY.out
        by_cases hlt2 : i < nx
        · have t2 : (x0 : Int) + (i : Int) ≤ (x1 : Int) := by omega
          obtain ⟨x, hx⟩ : ∃ x, x0 + i = x := ⟨_, rfl⟩
          obtain ⟨y, hy⟩ : ∃ y, y0 + j = y := ⟨_, rfl⟩
          have ex : (x0 : Int) + (i : Int) = (x : Int) := by omega
          have ey : (y0 : Int) + (j : Int) = (y : Int) := by omega
          have hxW : x < W := by omega
          have hyH : y < H := by omega
          have hOr := HO.out.kept (HB2.trans (hbr2.mono (by omega)))
          have hI := tile_of hxW
          have hJ := tile_of hyH
          have hK := idx_lt hI.1 hJ.1
          obtain ⟨cur, hcur, hptr⟩ := hOr.list
          have HSA := Lib.hid <| gslab_at gb sb _ sc (tiles W) x y _ _ _ _ #[] wr hOr.head ((hcur.cell _).trans (hptr _ hK)) rfl hK (tiles_le s2) (by omega) (by omega)
          have hSL := hOr.slabs _ _ hI.1 hJ.1
          have HAT := Lib.hid fun w' (hw' : Below wr.heap.size wr w') => sAt_ok (hSL.kept hw') (x % 16) (y % 16) hI.2 hJ.2
          rw [tileF_at (H := H) f hxW] at HAT
          have HIN := Lib.hid fun w' => inner_any x y w'
          obtain ⟨X, hX⟩ : ∃ X, x % 16 = X := ⟨_, rfl⟩
          obtain ⟨Y, hY⟩ : ∃ Y, y % 16 = Y := ⟨_, rfl⟩
          rw [hX, hY] at HAT HIN
          have HEX := Lib.hid hx
          have HEY := Lib.hid hy
          rw [ex, ey]
          rw [ex] at t2
          have EXx := Lib.hid ex
          clear hOr hI hJ hK hcur hptr hSL hX hY hx hy ex ey hlx hly
          go_wp2_with fail
          refine HSA.out.mono ?_
          rintro e w4 ⟨rfl, m, rfl⟩
          have c0' : (wr.drewN m).cell? ⟨w.heap.size, 0, none⟩ = some (.int .i64 x0) := d0
          go_wp2_with fail
          refine (HIN.out _).mono ?_
          rintro e w5 ⟨rfl, hb5⟩
          have HB5 : Below wr.heap.size wr w5 := (bel_drewN (Below.refl _ _) m).trans (hb5.mono (Nat.le_refl _))
          clear hb5 c0'
          go_wp2_with fail
          refine (HAT.out _ HB5).mono ?_
          rintro e w6 ⟨rfl, hb6⟩
          have HB6 := bel_trans HB5 hb6 (Nat.le_refl _)
          have HOWN6 := Lib.hid ((ownsRow_below HOWN2.out HB6 (Nat.le_refl _)).alloc (.cells #[.int .i64 (f x y)] 2))
          have HNR := Lib.hid (reads_new1 w6 (.int .i64 (f x y)) 2)
          have hz6 := HB6.size
          clear HB5 hb6 HSA HAT HIN
          go_wp2_with (at_builtin; (go_must (refine wpList_append_appl _ rfl (.tmp 48) (.tmp 50) _ rfl w2.heap.size 2 i0 _ 1 8 Tryz.underlying22 hi0 hz0 hz1 hz2 rfl (by omega) (.slice A2 L.length c2') _ _ rfl (.inl HOWN6.out) (w6.heap.size + 1) (some ⟨w6.heap.size, 0, none⟩) 1 1 [.int .i64 (f x y)] rfl HNR.out (by intro u hu; simp at hu; subst hu; rfl) (.inl (by omega)) (by simp only [maxLen]; omega) (by omega) (by simp; omega) ?_)); intro v1 w7 hown7 hB7 hg7 hat7)
          go_roundw
          case rel =>
            obtain ⟨A7, c7, rfl, _⟩ := own_shape' hown7
            have hxx := HEX.out
            have hyy := HEY.out
            have e2 : vRows f x0 nx y0 j ++ vRow f x0 (y0 + j) (i + 1) = L ++ [f x y] := by rw [vRow_succ, ← List.append_assoc, HL.out, hxx, hyy]
            refine ⟨i + 1, by omega, ?_, ⟨A7, c7, ?_, ?_⟩, ((hbr2.trans (HB6.mono hzr)).alloc (by omega) _).trans hB7⟩
            · rw [← EXx.out]; go_num
            · rw [e2]; simp
            · rw [e2, ints_append]; simpa [ints] using hown7
          case measure =>
            simp only [intOf]
            omega
        · have t2 : decide ((x0 : Int) + (i : Int) ≤ (x1 : Int)) = false := decide_eq_false (by omega)
          have e : i = nx := by omega
          subst e
          clear hlx hly
          go_wp2_with fail
          go_roundw
          case rel =>
            have e2 : vRows f x0 i y0 (j + 1) = L := by rw [vRows_succ, HL.out]
            refine ⟨j + 1, by omega, by go_num, ⟨A2, c2', ?_, ?_⟩, hbr2⟩
            · rw [e2]
            · rw [e2]; exact HOWN2.out
          case measure =>
            simp only [intOf]
            omega
    · have t1 : decide ((y0 : Int) + (j : Int) ≤ (y1 : Int)) = false := decide_eq_false (by omega)
      have e : j = ny := by omega
      subst e
      clear hly
      go_wp2_with fail
      go_ret2
      exact ⟨A, c, rfl, ownsRow_low hown HB2.size, HB2.trans (hbr.mono HB2.size)⟩
end Go.Proofs.YtojlgfkjnkjcmaaGreatDoor

/-
  Whether a value may be: the document's word, and paint's.
-/
namespace Go.Proofs.YtojlgfkjnkjcmaaGreatDoor
open Go.RowKit
set_option linter.unusedVariables false
set_option linter.unusedSimpArgs false

theorem rMay_any (v : Int) (w : World) : Calls Tryz.prog 23 #[.int .i64 v] w fun e w' => e = .returned (.bool (decide (MayV v))) ∧ w = w' := by
  rcases (show v < -2147483648 ∨ (-2147483648 ≤ v ∧ v ≤ 2147483647) ∨ (-2147483648 ≤ v ∧ 2147483647 < v) from by omega) with h | ⟨h1, h2⟩ | ⟨h1, h2⟩
  · have e : decide (MayV v) = false := decide_eq_false (by unfold MayV; omega)
    have t : decide (-2147483648 ≤ v) = false := decide_eq_false (by omega)
    rw [e]
    clear e
    go_enter Tryz.func23, Tryz.ntmps23
    go_wp2_with fail
    go_ret
    exact ⟨rfl, rfl⟩
  · have e : decide (MayV v) = true := decide_eq_true (by unfold MayV; omega)
    rw [e]
    clear e
    go_enter Tryz.func23, Tryz.ntmps23
    go_wp2_with fail
    go_ret
    exact ⟨rfl, rfl⟩
  · have e : decide (MayV v) = false := decide_eq_false (by unfold MayV; omega)
    have t : decide (v ≤ 2147483647) = false := decide_eq_false (by omega)
    rw [e]
    clear e
    go_enter Tryz.func23, Tryz.ntmps23
    go_wp2_with fail
    go_ret
    exact ⟨rfl, rfl⟩

theorem pmay_any (v : Int) (w : World) : Calls Tryz.prog 73 #[.int .i64 v] w fun e w' => e = .returned (.bool (decide (MayV v))) ∧ w = w' := by
  rcases (show v < -2147483648 ∨ (-2147483648 ≤ v ∧ v ≤ 2147483647) ∨ (-2147483648 ≤ v ∧ 2147483647 < v) from by omega) with h | ⟨h1, h2⟩ | ⟨h1, h2⟩
  · have e : decide (MayV v) = false := decide_eq_false (by unfold MayV; omega)
    have t : decide (-2147483648 ≤ v) = false := decide_eq_false (by omega)
    rw [e]
    clear e
    go_enter Tryz.func73, Tryz.ntmps73
    go_wp2_with fail
    go_ret
    exact ⟨rfl, rfl⟩
  · have e : decide (MayV v) = true := decide_eq_true (by unfold MayV; omega)
    rw [e]
    clear e
    go_enter Tryz.func73, Tryz.ntmps73
    go_wp2_with fail
    go_ret
    exact ⟨rfl, rfl⟩
  · have e : decide (MayV v) = false := decide_eq_false (by unfold MayV; omega)
    have t : decide (v ≤ 2147483647) = false := decide_eq_false (by omega)
    rw [e]
    clear e
    go_enter Tryz.func73, Tryz.ntmps73
    go_wp2_with fail
    go_ret
    exact ⟨rfl, rfl⟩


theorem Paste1_any (v : Int) (w : World) : Calls Tryz.prog 72 #[.int .i64 v] w fun e w' => e = .returned (.bool (!decide (MayV v))) ∧ w = w' := by
  have H := Lib.hid fun W => pmay_any v W
  generalize decide (MayV v) = z at *
  go_enter Tryz.func72, Tryz.ntmps72
  go_wp2_with fail
  refine (H.out _).mono ?_
  rintro e w2 ⟨rfl, rfl⟩
  go_wp2_with fail
  go_ret
  exact ⟨rfl, rfl⟩
end Go.Proofs.YtojlgfkjnkjcmaaGreatDoor

