/-
  (*Grid).Fill: a rectangle of a grid gets one value.
-/
import Derived.Test.YtccpgalpahfpaaaGridPlain
import Derived.Deep.DeepCutAuto
namespace Go.Proofs.Ytccpgalpahfpaaa
open Go.RowKit
set_option linter.unusedVariables false
set_option linter.unusedSimpArgs false

section
variable {B b : Nat} {a W w2 : World} {v0 v1 v2 v3 : Value}
theorem keep_alloc (h : (W.cell? ⟨b, 0, none⟩ = some v0 ∧ W.cell? ⟨b, 1, none⟩ = some v1 ∧ W.cell? ⟨b, 2, none⟩ = some v2 ∧ W.cell? ⟨b, 3, none⟩ = some v3) ∧ Below B a W) (hB : B ≤ a.heap.size) (hb : b < B) (C : Box4 a b v0 v1 v2 v3) (o : Obj) :
    ((W.alloc o).cell? ⟨b, 0, none⟩ = some v0 ∧ (W.alloc o).cell? ⟨b, 1, none⟩ = some v1 ∧ (W.alloc o).cell? ⟨b, 2, none⟩ = some v2 ∧ (W.alloc o).cell? ⟨b, 3, none⟩ = some v3) ∧ Below B a (W.alloc o) := by
  have hn := h.2.alloc (Nat.le_trans hB h.2.size) o
  exact ⟨C.bel hn hb, hn⟩
theorem keep_call (h : (W.cell? ⟨b, 0, none⟩ = some v0 ∧ W.cell? ⟨b, 1, none⟩ = some v1 ∧ W.cell? ⟨b, 2, none⟩ = some v2 ∧ W.cell? ⟨b, 3, none⟩ = some v3) ∧ Below B a W) (h2 : Below W.heap.size W w2) (hB : B ≤ a.heap.size) (hb : b < B) (C : Box4 a b v0 v1 v2 v3) :
    (w2.cell? ⟨b, 0, none⟩ = some v0 ∧ w2.cell? ⟨b, 1, none⟩ = some v1 ∧ w2.cell? ⟨b, 2, none⟩ = some v2 ∧ w2.cell? ⟨b, 3, none⟩ = some v3) ∧ Below B a w2 := by
  have hn := bel_trans h.2 h2 hB
  exact ⟨C.bel hn hb, hn⟩
theorem keep_of (hn : Below B a W) (hb : b < B) (C : Box4 a b v0 v1 v2 v3) : (W.cell? ⟨b, 0, none⟩ = some v0 ∧ W.cell? ⟨b, 1, none⟩ = some v1 ∧ W.cell? ⟨b, 2, none⟩ = some v2 ∧ W.cell? ⟨b, 3, none⟩ = some v3) ∧ Below B a W := ⟨C.bel hn hb, hn⟩
theorem bel_alloc' (h : Below B a W) (hB : B ≤ a.heap.size) (o : Obj) : Below B a (W.alloc o) := h.alloc (Nat.le_trans hB h.size) o
theorem bel_set' (h : Below B a W) {p : Addr} (hp : B ≤ p.block) (u : Value) : Below B a (W.setCell p u) := h.setCell hp u
theorem keep_set2 (h : (W.cell? ⟨b, 0, none⟩ = some v0 ∧ W.cell? ⟨b, 1, none⟩ = some v1 ∧ W.cell? ⟨b, 2, none⟩ = some v2 ∧ W.cell? ⟨b, 3, none⟩ = some v3) ∧ Below B a W) (p p' : Addr) (u u' : Value) (hp : B ≤ p.block) (hp' : B ≤ p'.block) (hB : B ≤ a.heap.size) (hb : b < B) (C : Box4 a b v0 v1 v2 v3) :
    (((W.setCell p u).setCell p' u').cell? ⟨b, 0, none⟩ = some v0 ∧ ((W.setCell p u).setCell p' u').cell? ⟨b, 1, none⟩ = some v1 ∧ ((W.setCell p u).setCell p' u').cell? ⟨b, 2, none⟩ = some v2 ∧ ((W.setCell p u).setCell p' u').cell? ⟨b, 3, none⟩ = some v3) ∧ Below B a ((W.setCell p u).setCell p' u') := by
  have hn := (h.2.setCell hp u).setCell hp' u'
  exact ⟨C.bel hn hb, hn⟩
end

theorem inner_eq (x y : Nat) (w : World) : Calls Try.prog 47 #[.int .i64 x, .int .i64 y] w fun e w' => e = .returned (cellV ((x % 16 : Nat) : Int) ((y % 16 : Nat) : Int)) ∧ w.alloc (.cells #[.int .i64 ((x % 16 : Nat) : Int), .int .i64 ((y % 16 : Nat) : Int)] 24) = w' := by
  have h1 : (0 : Int) ≤ (x : Int) := by omega
  have h2 : (0 : Int) ≤ (y : Int) := by omega
  go_enter Try.func47, Try.ntmps47
  go_wp2_with fail
  refine bodyPost_ret (v := cellV ((x : Int) % 16) ((y : Int) % 16)) (by simp [results, Try.results47, go_sem]) rfl ⟨?_, ?_⟩
  · simp
  · simp

theorem slab_far {w w' : World} {b sw sh g : Nat} {f : Nat → Int} {q : Option Nat} {t : TypeId} {cs : Array Value} (h0 : SlabIs w b sw sh f q) (hT : Touch (fun i => i = b ∨ some i = q) w w') (n1 : t ≠ 133) (n2 : t ≠ 21) (hg : Blk w g t cs) : Blk w' g t cs :=
  hg.touch hT (fun e => by
    rcases e with e | e
    · obtain ⟨c0, hc0⟩ := h0.blk
      subst e; exact Blk.ne_ hg hc0 n1 rfl
    · obtain ⟨c1, hc1⟩ := h0.qblk e.symm
      exact Blk.ne_ hg hc1 n2 rfl)
theorem slab_own_far {w w' : World} {b sw sh : Nat} {f : Nat → Int} {q : Option Nat} {base : Nat} {e : TypeId} {size n : Nat} {v : Value} {xs : List Value} (h0 : SlabIs w b sw sh f q) (hT : Touch (fun i => i = b ∨ some i = q) w w') (n1 : e ≠ 133) (n2 : e ≠ 21) (h : w.ownsRow base e size v n xs) : w'.ownsRow base e size v n xs :=
  own_of_block h fun g hg => by
    obtain ⟨cur, hc⟩ := own_blk h hg
    exact (slab_far h0 hT n1 n2 hc).trans hc.symm
theorem GridOpen.kept {w w' : World} {gb W H sb c : Nat} {f : Nat → Nat → Int} {p : Nat → Nat} {q : Nat → Option Nat} (h : GridOpen w gb W H f sb c p q) (hb : Below w.heap.size w w') : GridOpen w' gb W H f sb c p q := by
  obtain ⟨cur, h1, h2⟩ := h.list
  exact ⟨h.w1, h.w2, h.h1, h.h2, h.head.kept hb, ⟨cur, h1.kept hb, h2⟩, fun i j hi hj => (h.slabs i j hi hj).kept hb, h.inj, h.inq⟩
theorem GridIs.kept {w w' : World} {gb W H : Nat} {f : Nat → Nat → Int} {F : Nat → Prop} (h : GridIs w gb W H f F) (hb : Below w.heap.size w w') : GridIs w' gb W H f F := by
  obtain ⟨sb, c, p, q, h1, h2⟩ := h
  exact ⟨sb, c, p, q, h1.kept hb, h2⟩
theorem GridIs.wide {w : World} {gb W H : Nat} {f : Nat → Nat → Int} {F F' : Nat → Prop} (h : GridIs w gb W H f F) (hF : ∀ i, F i → F' i) : GridIs w gb W H f F' := by
  obtain ⟨sb, c, p, q, h1, h2⟩ := h
  exact ⟨sb, c, p, q, h1, fun k hk => ⟨hF _ (h2 k hk).1, fun g hg => hF _ ((h2 k hk).2 g hg)⟩⟩

/-- a grid has been filled -/
def GivesFillG (w : World) (gb W H : Nat) (f : Nat → Nat → Int) (F : Nat → Prop) (e : Ending) (w' : World) : Prop :=
  e = .returned (.int .i64 0) ∧ GridIs w' gb W H f (fun i => F i ∨ (w.heap.size ≤ i ∧ i < w'.heap.size)) ∧ Touch F w w'

set_option maxHeartbeats 8000000 in
set_option maxRecDepth 100000 in
theorem gFill_ok {w : World} {gb W H : Nat} {f : Nat → Nat → Int} {F : Nat → Prop} (hG : GridIs w gb W H f F) (r : Rc) (v : Int) (r1 : 0 ≤ r.x0) (r2 : r.x0 ≤ r.x1) (r3 : r.x1 < W) (r4 : 0 ≤ r.y0) (r5 : r.y0 ≤ r.y1) (r6 : r.y1 < H) (hv : MayV v) :
    Calls Try.prog 18 #[.pointer (some ⟨gb, 0, none⟩), rectV r.x0 r.y0 r.x1 r.y1, .int .i64 v] w (GivesFillG w gb W H (fillG r v f) F) := by
  have hG' := hG
  obtain ⟨sb, sc, p, q, hO, hF⟩ := hG'
  have s2 := hO.w2
  have s4 := hO.h2
  have s1 := hO.w1
  have s3 := hO.h1
  have hhd := hO.head
  have hs := fun w' hb' => gcheck_any gb W H (.int .i64 (tiles W)) (.slice (some ⟨sb, 0, none⟩) (tiles W * tiles H) sc) r.x0 r.y0 r.x1 r.y1 w' hb' (by omega) (by omega) (by omega) (by omega)
  rw [show withinZ r.x0 r.y0 r.x1 r.y1 W H = 0 from within_of ⟨by omega, by omega, by omega, by omega⟩ r1 r2 r3 r4 r5 r6] at hs
  have HS := Lib.hid hs
  have HP := Lib.hid fun w' => Pieces_ok r w' ((right_iff _ _ _ _).2 ⟨by omega, by omega, by omega, by omega, by omega, by omega⟩)
  obtain ⟨L, hL⟩ : ∃ L, pcs r = L := ⟨_, rfl⟩
  have hpc := pc_ok r r1 r2 r4 r5
  have hfin := fillS_all r r1 r2 r4 r5 v f
  have hnl : (pcs r).length ≤ 4096 := by
    rw [pcs_len]
    have e1 : pcY r ≤ 64 := by unfold pcY; omega
    have e2 : pcX r ≤ 64 := by unfold pcX; omega
    exact Nat.mul_le_mul e1 e2
  rw [hL] at HP hpc hfin hnl
  obtain ⟨n, hn⟩ : ∃ n, L.length = n := ⟨_, rfl⟩
  rw [hn] at hnl
  have HN := Lib.hid hn
  have HPC := Lib.hid hpc
  have HFIN := Lib.hid hfin
  have HV := Lib.hid hv
  have HG := Lib.hid hG
  have HHD := Lib.hid hhd
  have hgl := hhd.lt
  obtain ⟨x0, y0, x1, y1⟩ := r
  simp only at *
  clear hs hpc hfin hL hn hG hO hF hhd hv
  go_enter Try.func18, Try.ntmps18
  go_wp2_with fail
  refine (HS.out _ (HHD.out.alloc _)).mono ?_
  rintro e w1 ⟨rfl, hb1⟩
  have hb1' : Below (w.heap.size + 1) (w.alloc (.cells #[.int .i64 x0, .int .i64 y0, .int .i64 x1, .int .i64 y1] 45)) w1 := by simpa using hb1
  obtain ⟨c0, c1, c2, c3⟩ := (box4_new w (.int .i64 x0) (.int .i64 y0) (.int .i64 x1) (.int .i64 y1) 45).bel hb1' (by omega)
  have HB : Below w.heap.size w w1 := (new_bel w _).trans (hb1'.mono (by omega))
  clear hb1 hb1' HS
  go_wp2_with fail
  refine (HP.out _).mono ?_
  rintro e w2 ⟨RA, rc, rfl, hrects, hb2⟩
  rw [HN.out] at hrects ⊢
  have HB2 : Below w.heap.size w w2 := bel_trans HB hb2 (Nat.le_refl _)
  have HR := Lib.hid (ownsRow_low hrects HB.size)
  clear hrects hb2 c0 c1 c2 c3 HP HB
  go_wp2_with fail
  go_loopw [22] (fun t wr => ∃ k : Nat, k ≤ n ∧ t = .int .i64 k ∧ Hid (GridIs wr gb W H (fillS (L.take k) v f) (fun i => F i ∨ (w.heap.size ≤ i ∧ i < wr.heap.size))) ∧ Hid (Touch F w wr) ∧ Hid (wr.ownsRow w.heap.size 45 4 (.slice RA n rc) n (flt encR L))) (fun t _ => n - (intOf t).toNat)
  case atStart =>
    refine ⟨0, by omega, rfl, Lib.hid ?_, Lib.hid (Touch.of_kept HB2), HR⟩
    rw [List.take_zero, fillS_nil]
    exact (HG.out.kept HB2).wide fun i hi => .inl hi
  case round =>
    obtain ⟨k, hk, rfl, HGr, HTr, HRr⟩ := hrel
    by_cases hlt : k < n
    · have hlt' : k < L.length := by rw [HN.out]; exact hlt
      obtain ⟨a0, b0, a1, b1, hpk, ha, hb, ea, eb, ha1, hb1⟩ := HPC.out k hlt'
      obtain ⟨g, hRA, hg1, hg2, hcell⟩ := own_thing (l := L) encR_len (by rw [HN.out]; exact HRr.out) hlt'
      subst hRA
      rw [hpk] at hcell
      have e0 : wr.cell? ⟨g, k * 4, none⟩ = some (.int .i64 a0) := hcell 0 _ rfl
      have e1 : wr.cell? ⟨g, k * 4 + 1, none⟩ = some (.int .i64 b0) := hcell 1 _ rfl
      have e2 : wr.cell? ⟨g, k * 4 + 2, none⟩ = some (.int .i64 a1) := hcell 2 _ rfl
      have e3 : wr.cell? ⟨g, k * 4 + 3, none⟩ = some (.int .i64 b1) := hcell 3 _ rfl
      have t1 : (k : Int) < (n : Int) := by omega
      have HPK := Lib.hid hpk
      have HEA := Lib.hid ea
      have HEB := Lib.hid eb
      clear hcell hpk ea eb
      go_upto_region 7 with fail
      obtain ⟨w5, hw5⟩ : ∃ w5, wr.alloc (.cells #[.int .i64 a0, .int .i64 b0, .int .i64 a1, .int .i64 b1] 45) = w5 := ⟨_, rfl⟩
      rw [hw5]
      have C : Box4 w5 wr.heap.size (.int .i64 a0) (.int .i64 b0) (.int .i64 a1) (.int .i64 b1) := by rw [← hw5]; exact box4_new wr _ _ _ _ _
      have hz5 : w5.heap.size = wr.heap.size + 1 := by rw [← hw5]; simp
      have HW5 := Lib.hid hw5
      have hB5 : wr.heap.size + 1 ≤ w5.heap.size := by omega
      have hb5 : wr.heap.size < wr.heap.size + 1 := by omega
      have HX0 := Below.refl (wr.heap.size + 1) w5
      have HZ5 := Lib.hid hz5
      clear hw5 hz5 e0 e1 e2 e3
      obtain ⟨A0, hA0⟩ : ∃ A0, a0 % 16 = A0 := ⟨_, rfl⟩
      obtain ⟨B0, hB0⟩ : ∃ B0, b0 % 16 = B0 := ⟨_, rfl⟩
      obtain ⟨A1, hA1⟩ : ∃ A1, a1 % 16 = A1 := ⟨_, rfl⟩
      obtain ⟨B1, hB1⟩ : ∃ B1, b1 % 16 = B1 := ⟨_, rfl⟩
      have HI0 := Lib.hid fun w' => inner_eq a0 b0 w'
      have HI1 := Lib.hid fun w' => inner_eq a1 b1 w'
      rw [hA0, hB0] at HI0
      rw [hA1, hB1] at HI1
      have HA0 := Lib.hid hA0
      have HB0 := Lib.hid hB0
      have HA1 := Lib.hid hA1
      have HB1 := Lib.hid hB1
      clear hA0 hB0 hA1 hB1
      go_cut [10, 11] (fun s10 s11 wx => ∃ ga gc : Nat, s10 = .pointer (some ⟨ga, 0, none⟩) ∧ s11 = .pointer (some ⟨gc, 0, none⟩) ∧ Blk wx ga 24 #[.int .i64 A0, .int .i64 B0] ∧ Blk wx gc 24 #[.int .i64 A1, .int .i64 B1] ∧ Below (wr.heap.size + 1) w5 wx)
      case first =>
        go_region_held3 (fun W' => (W'.cell? ⟨wr.heap.size, 0, none⟩ = some (.int .i64 a0) ∧ W'.cell? ⟨wr.heap.size, 1, none⟩ = some (.int .i64 b0) ∧ W'.cell? ⟨wr.heap.size, 2, none⟩ = some (.int .i64 a1) ∧ W'.cell? ⟨wr.heap.size, 3, none⟩ = some (.int .i64 b1)) ∧ Below (wr.heap.size + 1) w5 W')
          (first | exact ⟨C, HX0.drew⟩ | (refine keep_of ?_ hb5 C; repeat (first | exact HX0 | exact HX0.drew | refine Below.drew ?_ | refine bel_alloc' ?_ hB5 _ | refine bel_set' ?_ (by simp; omega) _)))
          ((go_at_call 47; (first | with_reducible refine (HI0.out _).mono ?_ | with_reducible refine (HI1.out _).mono ?_); rintro e w6 ⟨rfl, rfl⟩))
        all_goals
          go_wp2_with fail
          go_meet
          refine ⟨_, _, rfl, rfl, ?_, ?_, ?_⟩
          · repeat (first | (refine Blk.new' _ _ _ ?_; first | rfl | (simp; done)) | refine Blk.drew ?_ | refine Blk.alloc ?_ _)
          · repeat (first | (refine Blk.new' _ _ _ ?_; first | rfl | (simp; done)) | refine Blk.drew ?_ | refine Blk.alloc ?_ _)
          · repeat (first | exact HX0 | exact HX0.drew | refine Below.drew ?_ | refine bel_alloc' ?_ hB5 _ | refine bel_set' ?_ (by simp; omega) _)
      case rest =>
        obtain ⟨ga, gc, rfl, rfl, BA, BD, HBx⟩ := hcut
        have HBr : Below wr.heap.size wr wc := by
          have e := HW5.out
          have h5 : Below wr.heap.size wr w5 := by rw [← e]; exact new_bel wr _
          exact h5.trans (HBx.mono (by omega))
        have BR : Blk wc wr.heap.size 45 #[.int .i64 a0, .int .i64 b0, .int .i64 a1, .int .i64 b1] := by
          have e := HW5.out
          refine Blk.below ?_ HBx (by omega)
          rw [← e]; exact Blk.new wr _ _
        obtain ⟨sb2, sc2, p2, q2, hO2, hF2⟩ := HGr.out.kept HBr
        have hI := tile_of (show a0 < W by omega)
        have hJ := tile_of (show b0 < H by omega)
        have hK := idx_lt hI.1 hJ.1
        have hSL := hO2.slabs _ _ hI.1 hJ.1
        obtain ⟨cur, hcur, hptr⟩ := hO2.list
        have hat := (hcur.cell _).trans (hptr _ hK)
        have HSA := Lib.hid <| gslab_at gb sb2 _ sc2 (tiles W) a0 b0 _ _ _ _ #[] wc.drew hO2.head.drew hat rfl hK (tiles_le s2) (by omega) (by omega)
        have HFL := Lib.hid fun w' (hw' : Below wc.heap.size wc w') => sFill_ok (hSL.kept hw') (a0 % 16) (b0 % 16) (a1 % 16) (b1 % 16) v (by have := HEA.out; omega) (by have := HEA.out; have h2 := (tile_of (show a1 < W by omega)).2; rw [← this] at h2; exact h2) (by have := HEB.out; omega) (by have := HEB.out; have h2 := (tile_of (show b1 < H by omega)).2; rw [← this] at h2; exact h2) HV.out
        rw [HA0.out, HB0.out, HA1.out, HB1.out] at HFL
        have HO2 := Lib.hid hO2
        have HF2 := Lib.hid hF2
        have HSL := Lib.hid hSL
        obtain ⟨K, hKe⟩ : ∃ K, b0 / 16 * tiles W + a0 / 16 = K := ⟨_, rfl⟩
        rw [hKe] at HSA HFL HSL
        obtain ⟨sl, hsl⟩ : ∃ sl, p2 K = sl := ⟨_, rfl⟩
        rw [hsl] at HSA HFL HSL
        obtain ⟨q0, hq0⟩ : ∃ q0, q2 K = q0 := ⟨_, rfl⟩
        rw [hq0] at HFL HSL
        have HKE := Lib.hid hKe
        have HSE := Lib.hid hsl
        have HQE := Lib.hid hq0
        have SS : (wc.cell? ⟨wr.heap.size, 0, none⟩ = some (.int .i64 a0) ∧ wc.cell? ⟨wr.heap.size, 1, none⟩ = some (.int .i64 b0)) ∧ (wc.cell? ⟨ga, 0, none⟩ = some (.int .i64 A0) ∧ wc.cell? ⟨ga, 1, none⟩ = some (.int .i64 B0)) ∧ (wc.cell? ⟨gc, 0, none⟩ = some (.int .i64 A1) ∧ wc.cell? ⟨gc, 1, none⟩ = some (.int .i64 B1)) := ⟨⟨BR.cell 0, BR.cell 1⟩, ⟨BA.cell 0, BA.cell 1⟩, BD.cell 0, BD.cell 1⟩
        have HK8 : Hid (∀ m w7, Touch (fun i => i = sl ∨ some i = q0) (wc.drewN m) w7 → (w7.cell? ⟨wr.heap.size, 0, none⟩ = some (.int .i64 a0) ∧ w7.cell? ⟨wr.heap.size, 1, none⟩ = some (.int .i64 b0)) ∧ (w7.cell? ⟨ga, 0, none⟩ = some (.int .i64 A0) ∧ w7.cell? ⟨ga, 1, none⟩ = some (.int .i64 B0)) ∧ (w7.cell? ⟨gc, 0, none⟩ = some (.int .i64 A1) ∧ w7.cell? ⟨gc, 1, none⟩ = some (.int .i64 B1))) := Lib.hid fun m w7 hT => by
          have h0 := HSL.out.kept (bel_drewN (Below.refl wc.heap.size wc) m)
          have r1 := slab_far h0 hT (by decide) (by decide) (BR.drewN m)
          have r2 := slab_far h0 hT (by decide) (by decide) (BA.drewN m)
          have r3 := slab_far h0 hT (by decide) (by decide) (BD.drewN m)
          exact ⟨⟨r1.cell 0, r1.cell 1⟩, ⟨r2.cell 0, r2.cell 1⟩, r3.cell 0, r3.cell 1⟩
        clear hO2 hF2 hSL hcur hptr hat hKe hsl hq0 BR BA BD hI hJ hK HI0 HI1
        go_wp2_with fail
        go_region_held3 (fun W' => (W'.cell? ⟨wr.heap.size, 0, none⟩ = some (.int .i64 a0) ∧ W'.cell? ⟨wr.heap.size, 1, none⟩ = some (.int .i64 b0)) ∧ (W'.cell? ⟨ga, 0, none⟩ = some (.int .i64 A0) ∧ W'.cell? ⟨ga, 1, none⟩ = some (.int .i64 B0)) ∧ (W'.cell? ⟨gc, 0, none⟩ = some (.int .i64 A1) ∧ W'.cell? ⟨gc, 1, none⟩ = some (.int .i64 B1)))
          (first | exact SS | exact HK8.out _ _ hT7)
          (first | (go_at_call 48; refine HSA.out.mono ?_; rintro e w6 ⟨rfl, m, rfl⟩) | (go_at_call 49; refine (HFL.out _ (bel_drewN (Below.refl _ _) _)).mono ?_; rintro e w7 ⟨q', rfl, hS7, hT7, hq7⟩))
        go_wp2_with fail
        go_roundw
        case rel =>
          have h8 := bel_drewN (Below.refl wc.heap.size wc) (1 + m)
          have hO8 := HO2.out.kept h8
          have heq := HKE.out
          have hse := HSE.out
          have hqe := HQE.out
          subst heq hse hqe
          have hA := HA0.out
          have hB := HB0.out
          have hA' := HA1.out
          have hB' := HB1.out
          subst hA hB hA' hB'
          obtain ⟨g1, g2⟩ := GridIs.fill (F := fun i => F i ∨ (w.heap.size ≤ i ∧ i < wr.heap.size)) hO8 HF2.out ha hb (by omega) (by omega) HEA.out HEB.out hS7 hT7 hq7
          have hsz : w.heap.size ≤ wr.heap.size := HTr.out.size
          have hszc := HBr.size
          have hsz7 := hT7.size
          have hszd : (wc.drewN (1 + m)).heap.size = wc.heap.size := rfl
          refine ⟨k + 1, by omega, by go_num, Lib.hid ?_, Lib.hid ?_, Lib.hid ?_⟩
          · rw [List.take_succ_eq_append_getElem hlt', fillS_snoc, HPK.out]
            refine g1.wide fun i hi => ?_
            rcases hi with (hi | hi) | hi
            · exact .inl hi
            · exact .inr (by omega)
            · exact .inr (by have := hi.1; have := hi.2; simp at *; omega)
          · exact ((HTr.out.trans (Touch.of_kept HBr)).drewN (1 + m)).trans' g2 (fun i hi e => by
              rcases e with e | e
              · exact e
              · omega)
          · have h1 := ownsRow_below HRr.out HBr (Nat.le_refl _)
            exact slab_own_far (HSL.out.kept h8) hT7 (by decide) (by decide) (own_of_block (w' := wc.drewN (1 + m)) h1 (fun _ _ => rfl))
        case measure =>
          simp only [intOf]
          omega
    · have e : k = n := by omega
      subst e
      go_wp2_with fail
      go_ret
      have hg := HGr.out
      rw [List.take_of_length_le (by rw [HN.out]; exact Nat.le_refl _), HFIN.out] at hg
      exact ⟨rfl, hg, HTr.out⟩
end Go.Proofs.Ytccpgalpahfpaaa
