/-
  Texts of the proofs, one behind the other: Own, Sizes, RefLvl, DownIs, Land2, FiK, FiL.
-/
import Derived.Test.YtgfiakgahmpfkaaGreatDoorRows
import Derived.Test.YtgfiakgahmpfkaaGreatDoorSNg01
import Derived.Test.YtgfiakgahmpfkaaGreatDoorSNg15
import Derived.Test.YtgfiakgahmpfkaaGreatDoorSNg23
import Derived.Test.YtgfiakgahmpfkaaGreatDoorSNg05
import Derived.Test.YtgfiakgahmpfkaaGreatDoorSNg22
import Derived.Test.YtgfiakgahmpfkaaGreatDoorSNg10
namespace Go.Proofs.YtgfiakgahmpfkaaGreatDoor
open Go.RowKit

/-- it returns a slice of bytes in memory of its own -/
def GivesB (w : World) (l : List UInt8) (e : Ending) (w' : World) : Prop :=
  ∃ A c, e = .returned (.slice A l.length c) ∧ w'.ownsRow w.heap.size 5 1 (.slice A l.length c) l.length (byts l) ∧ Below w.heap.size w w'

theorem own_shape {w : World} {base : Nat} {e : TypeId} {size n : Nat} {v : Value} {xs : List Value} (h : w.ownsRow base e size v n xs) : ∃ A c, v = .slice A n c ∧ n ≤ c ∧ c ≤ 9223372036854775807 ∧ (A = none → n = 0 ∧ c = 0) := by
  rcases h.2 with ⟨rfl, rfl⟩ | ⟨g, cap, cur, rfl, _, _, hn, hm, _⟩
  · exact ⟨_, _, rfl, Nat.le_refl _, by omega, fun _ => ⟨rfl, rfl⟩⟩
  · exact ⟨_, _, rfl, hn, hm, fun h => by cases h⟩

theorem givesB_mk {w w' : World} {l : List UInt8} {v : Value} {n : Nat} {xs : List Value} (h : w'.ownsRow w.heap.size 5 1 v n xs) (hx : xs = byts l) (hb : Below w.heap.size w w') : GivesB w l (.returned v) w' := by
  subst hx
  have hn : n = l.length := by have := h.1; simpa using this.symm
  subst hn
  obtain ⟨A, c, rfl, _⟩ := own_shape h
  exact ⟨A, c, rfl, h, hb⟩
set_option linter.unusedVariables false
set_option linter.unusedSimpArgs false

/-- the first j sizes -/
def szs (a b : Int) (j : Nat) : List (Int × Int) := (List.range j).map fun i => (halfZ a i, halfZ b i)
@[simp] theorem szs_length (a b : Int) (j : Nat) : (szs a b j).length = j := by simp [szs]
open Sy
set_option maxRecDepth 100000
set_option maxHeartbeats 4000000



def LandOk (W H most : Int) (n : Nat) (l : List Int) : Prop := 1 ≤ W ∧ 1 ≤ H ∧ W ≤ most ∧ H ≤ most ∧ W * H ≤ most ∧ W * H = n ∧ ∀ v ∈ l, MayV v
instance (W H most : Int) (n : Nat) (l : List Int) : Decidable (LandOk W H most n l) := by unfold LandOk MayV; infer_instance

/-- what a grid of a list's values shows -/
theorem vRows_gv {W H : Nat} {l : List Int} (h : l.length = W * H) : vRows (gv W l) 0 W 0 H = l := by
  apply List.ext_getElem
  · rw [vRows_len, h]; exact Nat.mul_comm _ _
  · intro i h1 h2
    have hW : 0 < W := Nat.pos_of_ne_zero fun c => by subst c; rw [Nat.zero_mul] at h; omega
    have hx : i % W < W := Nat.mod_lt _ hW
    have hy : i / W < H := Nat.div_lt_of_lt_mul (by omega)
    have := gv_vRows (f := gv W l) hx hy
    unfold gv at this
    rw [show i / W * W + i % W = i by rw [Nat.mul_comm]; exact Nat.div_add_mod i W] at this
    have e : (vRows (gv W l) 0 W 0 H).getD i 0 = l.getD i 0 := this
    rw [List.getD_eq_getElem?_getD, List.getD_eq_getElem?_getD, List.getElem?_eq_getElem h1, List.getElem?_eq_getElem h2] at e
    exact e

theorem sat_baseF {l : List HP} {R : HP} {w : World} (s : Sat (sepL l R) w) : Sat R w := by
  obtain ⟨h, h1, s⟩ := s
  obtain ⟨h', e, s'⟩ := sub_nil s
  exact ⟨h', h1.mono e, s'⟩
theorem vRows_at {W H x y : Nat} {f : Nat → Nat → Int} (hx : x < W) (hy : y < H) : (vRows f 0 W 0 H)[y * W + x]? = some (f x y) := by
  have := gv_vRows (f := f) (H := H) hx hy
  unfold gv at this
  have hl : y * W + x < (vRows f 0 W 0 H).length := by rw [vRows_len, Nat.mul_comm H W]; exact idx_lt hx hy
  rw [List.getD_eq_getElem?_getD, List.getElem?_eq_getElem hl] at this
  rw [List.getElem?_eq_getElem hl]
  exact congrArg some this
theorem vRows_put {W H x y : Nat} {f g : Nat → Nat → Int} {v : Int} (hx : x < W) (hy : y < H) (h : ∀ x' y', x' < W → y' < H → g x' y' = if x' = x ∧ y' = y then v else f x' y') :
    putL (ints (vRows f 0 W 0 H)) (y * W + x) [.int .i64 v] = ints (vRows g 0 W 0 H) := by
  have hl : ∀ f : Nat → Nat → Int, (ints (vRows f 0 W 0 H)).length = W * H := fun f => by simp [ints, vRows_len, Nat.mul_comm]
  have hi := idx_lt hx hy
  have hW : 0 < W := by omega
  apply List.ext_getElem?
  intro i
  rw [putL_get (by rw [hl]; simp; omega)]
  by_cases d : i < W * H
  · have h1 : i % W < W := Nat.mod_lt _ hW
    have h2 : i / W < H := Nat.div_lt_of_lt_mul d
    have e : i / W * W + i % W = i := by have := Nat.div_add_mod i W; rw [Nat.mul_comm] at this; exact this
    have k1 : (ints (vRows f 0 W 0 H))[i]? = some (.int .i64 (f (i % W) (i / W))) := by
      have := vRows_at (f := f) h1 h2
      rw [e] at this
      simp [ints, this]
    have k2 : (ints (vRows g 0 W 0 H))[i]? = some (.int .i64 (g (i % W) (i / W))) := by
      have := vRows_at (f := g) h1 h2
      rw [e] at this
      simp [ints, this]
    rw [k1, k2, h _ _ h1 h2]
    by_cases c : i = y * W + x
    · subst c
      have m1 : (y * W + x) % W = x := by rw [Nat.mul_comm, Nat.mul_add_mod, Nat.mod_eq_of_lt hx]
      have m2 : (y * W + x) / W = y := by rw [Nat.mul_comm, Nat.mul_add_div hW, Nat.div_eq_of_lt hx, Nat.add_zero]
      rw [if_pos (by simp), if_pos ⟨m1, m2⟩]
      simp
    · rw [if_neg (by simp; omega), if_neg]
      rintro ⟨c1, c2⟩
      rw [c1, c2] at e
      exact c e.symm
  · rw [if_neg (by simp; omega), List.getElem?_eq_none (by rw [hl]; omega), List.getElem?_eq_none (by rw [hl]; omega)]
theorem pasteK_put {x0 y0 nx j i : Nat} {l : List Int} {f : Nat → Nat → Int} (hi : i < nx) (hl : j * nx + i < l.length) (x y : Nat) :
    pasteK x0 y0 nx (j * nx + (i + 1)) l f x y = if x = x0 + i ∧ y = y0 + j then l[j * nx + i] else pasteK x0 y0 nx (j * nx + i) l f x y := by
  have m1 : (j * nx + i) % nx = i := by rw [Nat.mul_comm, Nat.mul_add_mod, Nat.mod_eq_of_lt hi]
  have m2 : (j * nx + i) / nx = j := by rw [Nat.mul_comm, Nat.mul_add_div (by omega), Nat.div_eq_of_lt hi, Nat.add_zero]
  have := pasteK_fill (x0 := x0) (y0 := y0) (nx := nx) (i := j * nx + i) (m := 1) (l := l) (f := f) (v := l[j * nx + i]) (by omega) (by omega) (by rw [m1]; omega) (fun t ht => by
    obtain rfl : t = 0 := by omega
    rw [Nat.add_zero, List.getD_eq_getElem?_getD, List.getElem?_eq_getElem hl]
    rfl) x y
  rw [m1, m2] at this
  rw [← Nat.add_assoc, ← this]
  unfold fillG
  by_cases c : x = x0 + i ∧ y = y0 + j
  · rw [if_pos c, if_pos ((inR_iff _ _ _).2 ⟨by simp only; omega, by simp only; omega, by simp only; omega, by simp only; omega⟩)]
  · rw [if_neg c, if_neg]
    intro h
    have := (inR_iff _ _ _).1 h
    simp only at this
    exact c ⟨by omega, by omega⟩
theorem sPaste09 {R : HP} {A A2 : Option Addr} {n c n2 c2 W H : Nat} {l v : List Int} (ha : Vs R A n l) (hn : W * H = n) (hW : W ≤ 1024) (hH : H ≤ 1024) (hb : Vs R A2 n2 v) (x0 y0 x1 y1 : Nat) (r2 : x0 ≤ x1) (r3 : x1 < W) (r5 : y0 ≤ y1) (r6 : y1 < H) (hn2 : (x1 + 1 - x0) * (y1 + 1 - y0) = n2) (hv : ∀ z ∈ v, MayV z) :
    FnR Tryz.prog R 33 [modV W H A n c, rectV x0 y0 x1 y1, .slice A2 n2 c2] [] fun r hs => ∃ B d, r = .tuple #[modV W H B (W * H) d, .int .i64 0] ∧ hs = [rowH (.slice B (W * H) d) (W * H) 2 1 (ints (pasteL W H (x0, y0, x1, y1) v l))] := by
  refine FnR.of_sat fun w hs => ?_
  obtain ⟨h1, sa⟩ := ha.spot hs
  obtain ⟨h2, sb⟩ := hb.spot hs
  have hn3 : n ≤ 1048576 := by rw [← hn]; exact Nat.mul_le_mul hW hH
  obtain ⟨nx, hnx⟩ : ∃ nx, x1 + 1 - x0 = nx := ⟨_, rfl⟩
  obtain ⟨ny, hny⟩ : ∃ ny, y1 + 1 - y0 = ny := ⟨_, rfl⟩
  have harea := fun R' => sArea07 (R := R') x0 y0 x1 y1 r2 (by omega) r5 (by omega)
  rw [hn2] at harea
  rw [hnx, hny] at hn2
  have hn4 : n2 ≤ 1048576 := by rw [← hn2]; exact Nat.mul_le_mul (show nx ≤ 1024 by omega) (show ny ≤ 1024 by omega)
  have hw : withinZ x0 y0 x1 y1 W H = 0 := within_of ⟨by omega, by omega, by omega, by omega⟩ (by omega) (by omega) (by omega) (by omega) (by omega) (by omega)
  have hwi := fun R' => sRWithin x0 y0 x1 y1 W H R'
  rw [hw] at hwi
  refine fn_of_run0 false Tryz.func33 rfl hmix rfl fun w0 => ?_
  conv => whnf
  refine ⟨trivial, CallAt.pure (fun R' _ => hwi R') ?_⟩
  conv => whnf
  refine iff_f (by decide) ?_
  conv => whnf
  refine ⟨trivial, CallAt.pure (fun R' _ => harea R') ?_⟩
  conv => whnf
  refine iff_f (by simp) ?_
  conv => whnf
  refine ⟨trivial, LoopAt.keep (α := Nat) [2, 3, 4, 6] (fun i => [(9, .v (.int .i64 (i : Int)))]) (fun i => i ≤ n2) (fun i => n2 - i) 0 (Nat.zero_le _) rfl ⟨⟨rfl, rfl⟩, trivial⟩ ⟨⟨rfl, rfl⟩, ⟨rfl, rfl⟩, ⟨rfl, rfl⟩, ⟨rfl, rfl⟩, trivial⟩ ⟨⟨rfl, rfl, rfl, rfl⟩, ⟨rfl, rfl, rfl, rfl⟩, ⟨rfl, rfl, rfl, rfl⟩, trivial⟩ ?_⟩
  intro i hi
  conv => whnf
  refine ⟨fun h => ?_, fun h => ?_⟩
  · have hi2 : i < n2 := by simpa using h
    rcases sb with sb | ⟨b2, off2, rfl, sb⟩
    · omega
    conv => whnf
    refine ⟨⟨trivial, by omega⟩, LoadAt.cell (.int .i64 (v[i]'(by omega))) rfl rfl (fun w hw => ?_) ?_⟩
    · rw [Int.toNat_natCast]
      exact sb w (sat_baseF hw) i (by omega)
    have hmay := fun R' => sMay (v[i]'(by omega)) R'
    rw [decide_eq_true (hv _ (List.getElem_mem (by omega)))] at hmay
    conv => whnf
    refine ⟨trivial, CallAt.pure (fun R' hR' => hmay R') ?_⟩
    conv => whnf
    refine iff_f rfl ?_
    conv => whnf
    refine ⟨(by (repeat' apply And.intro) <;> first | exact True.intro | (unfold rng; omega) | omega), Next.keep (i + 1) (by omega) (by omega) ⟨⟨rfl, rfl⟩, trivial⟩ ⟨⟨rfl, rfl⟩, ⟨rfl, rfl⟩, ⟨rfl, rfl⟩, ⟨rfl, rfl⟩, trivial⟩ ⟨⟨rfl, rfl, rfl, rfl⟩, ⟨rfl, rfl, rfl, rfl⟩, ⟨rfl, rfl, rfl, rfl⟩, trivial⟩ rfl rfl rfl⟩
  · obtain rfl : i = n2 := by simp at h; omega
    conv => whnf
    have hpos : 0 < n := by rw [← hn]; exact Nat.mul_pos (by omega) (by omega)
    refine ⟨trivial, RegAt.joinsE (α := Nat × Nat) [((Tr.T 0 (Tr.T 1 (Tr.T 2 (Tr.T 3 (Tr.T 5 (Tr.T 6 (Tr.C 4 (Tr.C 7 (Tr.T 8 (Tr.H 9 Tr.E)) 9 (Tr.H 7 (Tr.T 8 Tr.E))) 9 (Tr.H 4 (Tr.H 7 (Tr.T 8 Tr.E)))))))))), 10), ((Tr.H 10 Tr.E), 11)] [2, 3, 4, 6] (fun _ => [(10, .p 3 0)]) (fun a => [(3, 53, [.v (.int .i64 (W : Int)), .v (.int .i64 (H : Int)), .v (.slice (some ⟨a.1, 0, none⟩) (0 + n) a.2)]), (2, 53, [.v (.int .i64 0), .v (.int .i64 0), .v (.slice none 0 0)]), (1, 23, [.v (.int .i64 (x0 : Int)), .v (.int .i64 (y0 : Int)), .v (.int .i64 (x1 : Int)), .v (.int .i64 (y1 : Int))]), (0, 53, [.v (.int .i64 (W : Int)), .v (.int .i64 (H : Int)), .v (.slice A n c)])]) 4 (fun a => [rowH (.slice (some ⟨a.1, 0, none⟩) (0 + n) a.2) (0 + n) 2 1 (ints l)]) hmix (by kernel_rfl) ?_ ?_⟩
    · conv => whnf
      refine ⟨?_, ?_⟩
      · conv => whnf
        refine ⟨trivial, OpAt.lit [] 1 rfl rfl rfl rfl rfl (by decide) rfl rfl rfl (by simp) rfl (by decide) fun g => ?_⟩
        conv => whnf
        refine ⟨trivial, ⟨⟨rfl, rfl⟩, fun h s => sub_nil s⟩, ?_⟩
        conv => whnf
        refine ⟨?_, ?_⟩
        · conv => whnf
          refine ⟨trivial, OpAt.append1 (.slice (some ⟨g, 0, none⟩) 0 0) 0 1 8 [] (ints l) A n c _ rfl (fun h s => s) rfl rfl rfl rfl rfl rfl rfl rfl rfl (by decide) (fun w hw => ha w (sat_baseF hw)) (ints_oneF l) (by simp only [maxLen]; omega) (by omega) (by omega) fun B d => ?_⟩
          conv => whnf
          refine ⟨trivial, ⟨⟨rfl, rfl⟩, fun h s => sub_nil s⟩, ?_⟩
          conv => whnf
          refine ⟨trivial, ⟨⟨rfl, rfl⟩, fun h s => sub_nil s⟩, ?_⟩
          conv => whnf
          refine ⟨trivial, ?_⟩
          conv => whnf
          exact ⟨trivial, (B, d), Le.pick [0, 1, 2, 3] rfl rfl rfl rfl ⟨⟨_, rfl, rfl⟩, ⟨_, rfl, rfl⟩, ⟨_, rfl, rfl⟩, ⟨_, rfl, rfl⟩, ⟨_, rfl, rfl⟩, trivial⟩ ⟨⟨_, _, rfl, rfl, rfl⟩, ⟨_, _, rfl, rfl, rfl⟩, ⟨_, _, rfl, rfl, rfl⟩, ⟨_, _, rfl, rfl, rfl⟩, trivial⟩ rfl fun h s => sub_same s⟩
        · conv => whnf
          refine ⟨trivial, ⟨⟨rfl, rfl⟩, fun h s => sub_nil s⟩, ?_⟩
          conv => whnf
          refine ⟨trivial, OpAt.append1 (.slice (some ⟨g, 0, none⟩) 0 0) 0 1 8 [] (ints l) A n c _ rfl (fun h s => s) rfl rfl rfl rfl rfl rfl rfl rfl rfl (by decide) (fun w hw => ha w (sat_baseF hw)) (ints_oneF l) (by simp only [maxLen]; omega) (by omega) (by omega) fun B d => ?_⟩
          conv => whnf
          refine ⟨trivial, ⟨⟨rfl, rfl⟩, fun h s => sub_nil s⟩, ?_⟩
          conv => whnf
          refine ⟨trivial, ?_⟩
          conv => whnf
          exact ⟨trivial, (B, d), Le.pick [0, 1, 2, 3] rfl rfl rfl rfl ⟨⟨_, rfl, rfl⟩, ⟨_, rfl, rfl⟩, ⟨_, rfl, rfl⟩, ⟨_, rfl, rfl⟩, ⟨_, rfl, rfl⟩, trivial⟩ ⟨⟨_, _, rfl, rfl, rfl⟩, ⟨_, _, rfl, rfl, rfl⟩, ⟨_, _, rfl, rfl, rfl⟩, ⟨_, _, rfl, rfl, rfl⟩, trivial⟩ rfl fun h s => sub_same s⟩
      · conv => whnf
        refine ⟨trivial, ⟨⟨rfl, rfl⟩, fun h s => sub_nil s⟩, ?_⟩
        conv => whnf
        refine ⟨trivial, OpAt.lit [] 1 rfl rfl rfl rfl rfl (by decide) rfl rfl rfl (by simp) rfl (by decide) fun g => ?_⟩
        conv => whnf
        refine ⟨trivial, ⟨⟨rfl, rfl⟩, fun h s => sub_nil s⟩, ?_⟩
        conv => whnf
        refine ⟨trivial, OpAt.append1 (.slice (some ⟨g, 0, none⟩) 0 0) 0 1 8 [] (ints l) A n c _ rfl (fun h s => s) rfl rfl rfl rfl rfl rfl rfl rfl rfl (by decide) (fun w hw => ha w (sat_baseF hw)) (ints_oneF l) (by simp only [maxLen]; omega) (by omega) (by omega) fun B d => ?_⟩
        conv => whnf
        refine ⟨trivial, ⟨⟨rfl, rfl⟩, fun h s => sub_nil s⟩, ?_⟩
        conv => whnf
        refine ⟨trivial, ?_⟩
        conv => whnf
        exact ⟨trivial, (B, d), Le.pick [0, 1, 2, 3] rfl rfl rfl rfl ⟨⟨_, rfl, rfl⟩, ⟨_, rfl, rfl⟩, ⟨_, rfl, rfl⟩, ⟨_, rfl, rfl⟩, ⟨_, rfl, rfl⟩, trivial⟩ ⟨⟨_, _, rfl, rfl, rfl⟩, ⟨_, _, rfl, rfl, rfl⟩, ⟨_, _, rfl, rfl, rfl⟩, ⟨_, _, rfl, rfl, rfl⟩, trivial⟩ rfl fun h s => sub_same s⟩
    rintro ⟨g, d⟩
    simp only [Nat.zero_add]
    conv => whnf
    refine ⟨trivial, LoopAt.heap (α := Nat) [2, 3, 4, 6, 10] (fun j => [(11, .v (.int .i64 ((j * nx : Nat) : Int))), (12, .v (.int .i64 ((y0 + j : Nat) : Int)))]) (fun j => [rowH (.slice (some ⟨g, 0, none⟩) n d) n 2 1 (ints (vRows (pasteK x0 y0 nx (j * nx) v (gv W l)) 0 W 0 H))]) (fun j => j ≤ ny) (fun j => ny - j) 0 (Nat.zero_le _) rfl ⟨⟨by simp [getT], rfl⟩, ⟨rfl, rfl⟩, trivial⟩ ⟨⟨rfl, rfl⟩, ⟨rfl, rfl⟩, ⟨rfl, rfl⟩, ⟨rfl, rfl⟩, ⟨rfl, rfl⟩, trivial⟩ ⟨⟨rfl, rfl, rfl, rfl⟩, ⟨rfl, rfl, rfl, rfl⟩, ⟨rfl, rfl, rfl, rfl⟩, ⟨rfl, rfl, rfl, rfl⟩, trivial⟩ (fun h s => sub_same (by rw [Nat.zero_mul, pasteK_zero, vRows_gv (by rw [h1, hn])]; exact s)) ?_⟩
    intro j hj
    conv => whnf
    refine ⟨fun h => ?_, fun h => ?_⟩
    · have hj2 : j < ny := by simp at h; omega
      conv => whnf
      refine ⟨trivial, LoopAt.heap (α := Nat) [2, 3, 4, 6, 10, 12] (fun q => [(11, .v (.int .i64 ((j * nx + q : Nat) : Int))), (13, .v (.int .i64 ((x0 + q : Nat) : Int)))]) (fun q => [rowH (.slice (some ⟨g, 0, none⟩) n d) n 2 1 (ints (vRows (pasteK x0 y0 nx (j * nx + q) v (gv W l)) 0 W 0 H))]) (fun q => q ≤ nx) (fun q => nx - q) 0 (Nat.zero_le _) rfl ⟨⟨rfl, rfl⟩, ⟨rfl, rfl⟩, trivial⟩ ⟨⟨rfl, rfl⟩, ⟨rfl, rfl⟩, ⟨rfl, rfl⟩, ⟨rfl, rfl⟩, ⟨rfl, rfl⟩, ⟨rfl, rfl⟩, trivial⟩ ⟨⟨rfl, rfl, rfl, rfl⟩, ⟨rfl, rfl, rfl, rfl⟩, ⟨rfl, rfl, rfl, rfl⟩, ⟨rfl, rfl, rfl, rfl⟩, trivial⟩ (fun h s => sub_same s) ?_⟩
      intro q hq
      conv => whnf
      refine ⟨fun h => ?_, fun h => ?_⟩
      · have hq2 : q < nx := by simp at h; omega
        have hx : x0 + q < W := by omega
        have hy : y0 + j < H := by omega
        have hidx := idx_lt hx hy
        rw [hn] at hidx
        have hk : j * nx + q < nx * ny := by
          exact idx_lt hq2 hj2
        rw [hn2] at hk
        have hmul : ((y0 + j : Nat) : Int) * (W : Int) = (((y0 + j) * W : Nat) : Int) := by simp
        have hadd : (((y0 + j : Nat) : Int) * (W : Int) + ((x0 + q : Nat) : Int)).toNat = (y0 + j) * W + (x0 + q) := by rw [hmul]; omega
        have hr1 : rng .i64 (((y0 + j : Nat) : Int) * (W : Int)) := by rw [hmul]; unfold rng; omega
        have hr2 : rng .i64 (((y0 + j : Nat) : Int) * (W : Int) + ((x0 + q : Nat) : Int)) := by rw [hmul]; unfold rng; omega
        have hr3 : 0 ≤ ((y0 + j : Nat) : Int) * (W : Int) + ((x0 + q : Nat) : Int) ∧ ((y0 + j : Nat) : Int) * (W : Int) + ((x0 + q : Nat) : Int) < (n : Int) := by rw [hmul]; omega
        have hput := vRows_put (f := pasteK x0 y0 nx (j * nx + q) v (gv W l)) (g := pasteK x0 y0 nx (j * nx + (q + 1)) v (gv W l)) (v := v[j * nx + q]'(by omega)) hx hy fun x' y' _ _ => pasteK_put hq2 (by omega) x' y'
        rcases sb with sb | ⟨b2, off2, rfl, sb⟩
        · omega
        have hcell := fun w1 (hw1 : Sat R w1) => sb w1 hw1 (j * nx + q) (by omega)
        generalize v[j * nx + q]'(by omega) = z at hput hcell
        conv => whnf
        refine ⟨trivial, RegAt.tail 13 hmix (by kernel_rfl) ?_⟩
        conv => whnf
        refine ⟨⟨⟨⟨trivial, hr1⟩, hr2⟩, by omega⟩, LoadAt.cell (.int .i64 z) rfl rfl (fun w1 hw => ?_) ?_⟩
        · rw [Int.toNat_natCast]
          exact hcell w1 (sat_baseF hw)
        conv => whnf
        refine ⟨⟨trivial, hr3⟩, OpAt.store g _ (.int .i64 z) [] rfl (fun h s => s) rfl rfl rfl rfl rfl (by simp [Value.cells, Value.oneCell']) (fun h r => row_put (by rw [hadd]; simp [Value.cells]; omega) r) ?_⟩
        conv => whnf
        refine ⟨trivial, ?_⟩
        conv => whnf
        refine ⟨(by (repeat' apply And.intro) <;> first | exact True.intro | (unfold rng; omega) | omega), Next.heap (q + 1) (by omega) (by omega) ⟨⟨?_, rfl⟩, ⟨?_, rfl⟩, trivial⟩ ⟨⟨rfl, rfl⟩, ⟨rfl, rfl⟩, ⟨rfl, rfl⟩, ⟨rfl, rfl⟩, ⟨rfl, rfl⟩, ⟨rfl, rfl⟩, trivial⟩ ⟨⟨rfl, rfl, rfl, rfl⟩, ⟨rfl, rfl, rfl, rfl⟩, ⟨rfl, rfl, rfl, rfl⟩, ⟨rfl, rfl, rfl, rfl⟩, trivial⟩ rfl rfl fun h s => sub_same ?_⟩
        · exact congrArg (fun z => some (SV.v (Value.int .i64 z))) (show ((j * nx + q : Nat) : Int) + 1 = ((j * nx + (q + 1) : Nat) : Int) by omega)
        · exact congrArg (fun z => some (SV.v (Value.int .i64 z))) (show ((x0 + q : Nat) : Int) + 1 = ((x0 + (q + 1) : Nat) : Int) by omega)
        · rw [← hput]
          have s2 : sepL [rowH (.slice (some ⟨g, 0, none⟩) n d) n 2 1 (putL (ints (vRows (pasteK x0 y0 nx (j * nx + q) v (gv W l)) 0 W 0 H)) (0 + (((y0 + j : Nat) : Int) * (W : Int) + ((x0 + q : Nat) : Int)).toNat) [.int .i64 z])] R h := s
          rw [Nat.zero_add, hadd] at s2
          exact s2
      · have hq2 : q = nx := by simp at h; omega
        subst hq2
        have e1 : j * q + q = (j + 1) * q := by rw [Nat.succ_mul]
        rw [e1]
        conv => whnf
        refine ⟨(by (repeat' apply And.intro) <;> first | exact True.intro | (unfold rng; omega) | omega), Next.heap (j + 1) (by omega) (by omega) ⟨⟨rfl, rfl⟩, ⟨?_, rfl⟩, trivial⟩ ⟨⟨rfl, rfl⟩, ⟨rfl, rfl⟩, ⟨rfl, rfl⟩, ⟨rfl, rfl⟩, ⟨rfl, rfl⟩, trivial⟩ ⟨⟨rfl, rfl, rfl, rfl⟩, ⟨rfl, rfl, rfl, rfl⟩, ⟨rfl, rfl, rfl, rfl⟩, ⟨rfl, rfl, rfl, rfl⟩, trivial⟩ rfl rfl fun h s => sub_same s⟩
        exact congrArg (fun z => some (SV.v (Value.int .i64 z))) (show ((y0 + j : Nat) : Int) + 1 = ((y0 + (j + 1) : Nat) : Int) by omega)
    · have hj2 : j = ny := by simp at h; omega
      subst hj2
      conv => whnf
      subst hn
      refine ⟨trivial, .mk _ (fun w s => s) ⟨some ⟨g, 0, none⟩, d, rfl, ?_⟩⟩
      rw [pasteL]
      simp only
      rw [hnx, hny, Nat.mul_comm nx]

def encE (l : List (Nat × Nat)) : List Value := l.flatMap fun t => [.int .i64 (t.1 : Int), .int .i64 (t.2 : Int)]
def PostD (q : (Nat × Nat × List (Nat × Nat)) × Nat) (r : Value) (hs : List HP) : Prop :=
  (q.2 ≠ 0 ∧ r = .tuple #[.int .i64 0, .int .i64 0, .slice none 0 0, .int .i64 (q.2 : Int)] ∧ hs = []) ∨
  (q.2 = 0 ∧ ∃ B c, r = .tuple #[.int .i64 (q.1.1 : Int), .int .i64 (q.1.2.1 : Int), .slice B q.1.2.2.length c, .int .i64 0] ∧ hs = [rowH (.slice B q.1.2.2.length c) q.1.2.2.length 95 2 (encE q.1.2.2)])
/-- entries behind others -/
def prepE (L : List (Nat × Nat)) (r : List (Nat × Nat) × Nat) : List (Nat × Nat) × Nat := if r.2 ≠ 0 then ([], 13) else (L ++ r.1, 0)
theorem entsR_bad (b : List UInt8) : ∀ (m i a : Nat), (entsR b m i a).2 ≠ 0 → entsR b m i a = ([], 13)
  | 0, i, a, h => absurd rfl h
  | m + 1, i, a, h => by
    rw [entsR] at h ⊢
    split
    · rfl
    rename_i h1
    rw [if_neg h1] at h
    split
    · rfl
    rename_i h2
    rw [if_neg h2] at h
    exact absurd rfl h
theorem entsR_zero (b : List UInt8) (m i a : Nat) (h : ¬ (entsR b m i a).2 ≠ 0) : entsR b m i a = ((entsR b m i a).1, 0) := Prod.ext rfl (Decidable.not_not.1 h)
theorem prepE_nil (b : List UInt8) (m i a : Nat) : prepE [] (entsR b m i a) = entsR b m i a := by
  unfold prepE
  split
  · rename_i h; exact (entsR_bad b m i a h).symm
  · rename_i h; rw [entsR_zero b m i a h]; rfl
theorem prepE_next (b : List UInt8) (m i a : Nat) (L : List (Nat × Nat)) (h : ¬ (wireN b (13 + 8 * i) 4 ≠ a ∨ wireN b (17 + 8 * i) 4 < 1 ∨ 1048576 < wireN b (17 + 8 * i) 4)) :
    prepE L (entsR b (m + 1) i a) = prepE (L ++ [(a, wireN b (17 + 8 * i) 4)]) (entsR b m (i + 1) (a + wireN b (17 + 8 * i) 4)) := by
  rw [entsR, if_neg h]
  unfold prepE
  by_cases h2 : (entsR b m (i + 1) (a + wireN b (17 + 8 * i) 4)).2 ≠ 0
  · rw [if_pos h2, if_pos h2]
    rfl
  · rw [if_neg h2, if_neg h2]
    simp
theorem tilesN_le {W H : Nat} (hW : W ≤ 1024) (hH : H ≤ 1024) : tilesN W H ≤ 4096 := Nat.mul_le_mul (show (W + 15) / 16 ≤ 64 by omega) (show (H + 15) / 16 ≤ 64 by omega)
theorem sDirGet {R : HP} {A : Option Addr} {n c : Nat} {b : List UInt8} (ha : Sl R A n 1 (byts b)) (hl : b.length = n) (hnc : n ≤ c) (hc : c ≤ 9223372036854775807) (hn : n ≤ 140737488351232) :
    FnR Tryz.prog R 28 [.slice A n c] [] (PostD (dirR b)) := by
  have hget := fun R' (h : ∀ w, Sat R' w → Sat R w) (a k : Nat) (hk1 : 1 ≤ k) (hk : k ≤ 4) (hak : a + k ≤ n) => sGet13 (R := R') (c := c) (ha.mono h) hl hn a k hk1 hk hak
  obtain ⟨Q, hQ⟩ : ∃ Q, dirR b = Q := ⟨_, rfl⟩
  rw [hQ]
  unfold dirR at hQ
  rw [hl] at hQ
  refine fn_of_run0 false Tryz.func28 rfl hmix rfl fun w0 => ?_
  by_cases c1 : n < 13
  · rw [if_pos c1] at hQ
    subst hQ
    conv => whnf
    repeat (first | (refine And.intro ?_ ?_; rotate_left; (focus (intro g; exfalso; first | (simp at g; done) | (simp at g; omega) | (revert g; decide))); intro _; conv => whnf) | (refine And.intro ?_ ?_; (focus (intro g; exfalso; first | (simp at g; done) | (simp at g; omega) | (revert g; decide))); intro _; conv => whnf))
    exact ⟨trivial, fin_dropP (.inl ⟨by decide, rfl, rfl⟩)⟩
  rw [if_neg c1] at hQ
  have h5 : Sl R A 5 1 (byts (b.take 5)) := fun w s => by
    have := Reads.take (ha w s) (show 5 ≤ n by omega)
    rwa [byts_take] at this
  conv => whnf
  repeat (first | (refine And.intro ?_ ?_; rotate_left; (focus (intro g; exfalso; first | (simp at g; done) | (simp at g; omega) | (revert g; decide))); intro _; conv => whnf) | (refine And.intro ?_ ?_; (focus (intro g; exfalso; first | (simp at g; done) | (simp at g; omega) | (revert g; decide))); intro _; conv => whnf))
  refine ⟨(by (repeat' apply And.intro) <;> first | exact True.intro | (unfold rng; omega) | omega), OpAt.conv (r := .string (bs (b.take 5))) rfl rfl rfl (fun w hw => conv_bytes _ _ 5 rfl rfl rfl (h5 w (sat_baseF hw)) _) ?_⟩
  conv => whnf
  by_cases c2 : b.take 5 = [72, 65, 67, 72, 1]
  rotate_left
  · rw [if_pos c2] at hQ
    subst hQ
    refine iff_t (by rw [Bool.not_eq_true', decide_eq_false_iff_not]; exact fun g => c2 (bs_inj.1 g)) ?_
    conv => whnf
    exact ⟨trivial, fin_dropP (.inl ⟨by decide, rfl, rfl⟩)⟩
  rw [if_neg (Decidable.not_not.2 c2)] at hQ
  refine iff_f (by rw [Bool.not_eq_false', decide_eq_true_eq, c2]; rfl) ?_
  conv => whnf
  clear h5
  have hw2 := wireN_lt b 5 2
  have hh2 := wireN_lt b 7 2
  have hn4 := wireN_lt b 9 4
  refine ⟨trivial, CallAt.pure (fun R' hR' => hget R' (fun w s => sat_baseF (hR' w s)) 5 2 (by decide) (by decide) (by omega)) ?_⟩
  conv => whnf
  refine ⟨(by (repeat' apply And.intro) <;> first | exact True.intro | (unfold rng; omega) | omega), CallAt.pure (fun R' hR' => hget R' (fun w s => sat_baseF (hR' w s)) 7 2 (by decide) (by decide) (by omega)) ?_⟩
  conv => whnf
  have e1 : (wireN b 5 2 : Int) + 1 = ((wireN b 5 2 + 1 : Nat) : Int) := by omega
  have e2 : (wireN b 7 2 : Int) + 1 = ((wireN b 7 2 + 1 : Nat) : Int) := by omega
  by_cases c3 : 1024 < wireN b 5 2 + 1 ∨ 1024 < wireN b 7 2 + 1
  · rw [if_pos c3] at hQ
    subst hQ
    refine ⟨(by (repeat' apply And.intro) <;> first | exact True.intro | (unfold rng; omega) | omega), CallAt.pure (v := .tuple #[.int .i64 0, .int .i64 3]) (fun R' hR' => ?_) ?_⟩
    · show PureR _ _ _ [.int .i64 ((wireN b 5 2 : Int) + 1), .int .i64 ((wireN b 7 2 : Int) + 1)] _
      rw [e1, e2]
      exact sTiles13Bad _ _ (by omega) (by omega) c3
    conv => whnf
    repeat (first | (refine And.intro ?_ ?_; rotate_left; (focus (intro g; exfalso; first | (simp at g; done) | (simp at g; omega) | (revert g; decide))); intro _; conv => whnf) | (refine And.intro ?_ ?_; (focus (intro g; exfalso; first | (simp at g; done) | (simp at g; omega) | (revert g; decide))); intro _; conv => whnf))
    exact ⟨trivial, fin_dropP (.inl ⟨by decide, rfl, rfl⟩)⟩
  rw [if_neg c3] at hQ
  refine ⟨(by (repeat' apply And.intro) <;> first | exact True.intro | (unfold rng; omega) | omega), CallAt.pure (v := .tuple #[.int .i64 (tilesN (wireN b 5 2 + 1) (wireN b 7 2 + 1) : Nat), .int .i64 0]) (fun R' hR' => ?_) ?_⟩
  · show PureR _ _ _ [.int .i64 ((wireN b 5 2 : Int) + 1), .int .i64 ((wireN b 7 2 : Int) + 1)] _
    rw [e1, e2]
    exact sTiles13 _ _ (by omega) (by omega) (by omega) (by omega)
  have hle := tilesN_le (W := wireN b 5 2 + 1) (H := wireN b 7 2 + 1) (by omega) (by omega)
  generalize tilesN (wireN b 5 2 + 1) (wireN b 7 2 + 1) = N at *
  conv => whnf
  repeat (first | (refine And.intro ?_ ?_; rotate_left; (focus (intro g; exfalso; first | (simp at g; done) | (simp at g; omega) | (revert g; decide))); intro _; conv => whnf) | (refine And.intro ?_ ?_; (focus (intro g; exfalso; first | (simp at g; done) | (simp at g; omega) | (revert g; decide))); intro _; conv => whnf))
  refine ⟨trivial, CallAt.pure (fun R' hR' => hget R' (fun w s => sat_baseF (hR' w s)) 9 4 (by decide) (by decide) (by omega)) ?_⟩
  conv => whnf
  by_cases c4 : wireN b 9 4 = N
  rotate_left
  · rw [if_pos c4] at hQ
    subst hQ
    repeat (first | (refine And.intro ?_ ?_; rotate_left; (focus (intro g; exfalso; first | (simp at g; done) | (simp at g; omega) | (revert g; decide))); intro _; conv => whnf) | (refine And.intro ?_ ?_; (focus (intro g; exfalso; first | (simp at g; done) | (simp at g; omega) | (revert g; decide))); intro _; conv => whnf))
    exact ⟨trivial, fin_dropP (.inl ⟨by decide, rfl, rfl⟩)⟩
  rw [if_neg (Decidable.not_not.2 c4)] at hQ
  repeat (first | (refine And.intro ?_ ?_; rotate_left; (focus (intro g; exfalso; first | (simp at g; done) | (simp at g; omega) | (revert g; decide))); intro _; conv => whnf) | (refine And.intro ?_ ?_; (focus (intro g; exfalso; first | (simp at g; done) | (simp at g; omega) | (revert g; decide))); intro _; conv => whnf))
  conv => whnf
  by_cases c5 : n < 13 + 8 * N
  · rw [if_pos c5] at hQ
    subst hQ
    repeat (first | (refine And.intro ?_ ?_; rotate_left; (focus (intro g; exfalso; first | (simp at g; done) | (simp at g; omega) | (revert g; decide))); intro _; conv => whnf) | (refine And.intro ?_ ?_; (focus (intro g; exfalso; first | (simp at g; done) | (simp at g; omega) | (revert g; decide))); intro _; conv => whnf))
    exact ⟨(by (repeat' apply And.intro) <;> first | exact True.intro | (unfold rng; omega) | omega), fin_dropP (.inl ⟨by decide, rfl, rfl⟩)⟩
  rw [if_neg c5] at hQ
  repeat (first | (refine And.intro ?_ ?_; rotate_left; (focus (intro g; exfalso; first | (simp at g; done) | (simp at g; omega) | (revert g; decide))); intro _; conv => whnf) | (refine And.intro ?_ ?_; (focus (intro g; exfalso; first | (simp at g; done) | (simp at g; omega) | (revert g; decide))); intro _; conv => whnf))
  refine ⟨(by (repeat' apply And.intro) <;> first | exact True.intro | (unfold rng; omega) | omega), OpAt.lit [] 2 rfl rfl rfl rfl rfl (by decide) rfl rfl rfl (by simp) rfl (by decide) fun g => ?_⟩
  obtain ⟨E, hE⟩ : ∃ E, entsR b N 0 (13 + 8 * N) = E := ⟨_, rfl⟩
  rw [hE] at hQ
  conv => whnf
  have m0 : (13 : Int) + 8 * (N : Int) = ((13 + 8 * N : Nat) : Int) := by omega
  refine ⟨trivial, LoopAt.heap (α := List (Nat × Nat) × Nat × Option Addr × Nat) [0, 6, 7, 8] (fun x => [(10, .v (.int .i64 (x.2.1 : Int))), (11, .v (.slice x.2.2.1 x.1.length x.2.2.2)), (12, .v (.int .i64 (x.1.length : Int)))])
    (fun x => [rowH (.slice x.2.2.1 x.1.length x.2.2.2) x.1.length 95 2 (encE x.1)]) (fun x => x.1.length ≤ N ∧ x.2.1 ≤ 32781 + x.1.length * 1048576 ∧ E = prepE x.1 (entsR b (N - x.1.length) x.1.length x.2.1)) (fun x => N - x.1.length) ([], 13 + 8 * N, some ⟨g, 0, none⟩, 0)
    ⟨Nat.zero_le _, by simp only; omega, by rw [← hE, List.length_nil, Nat.sub_zero, prepE_nil]⟩ rfl ⟨⟨?_, rfl⟩, ⟨rfl, rfl⟩, ⟨rfl, rfl⟩, trivial⟩ ⟨⟨rfl, rfl⟩, ⟨rfl, rfl⟩, ⟨rfl, rfl⟩, ⟨rfl, rfl⟩, trivial⟩ trivial (fun h s => sub_same s) ?_⟩
  · exact congrArg (fun z => some (SV.v (Value.int .i64 z))) m0
  rintro ⟨L, a, B, d⟩ ⟨i1, i2, i3⟩
  simp only at i1 i2 i3
  conv => whnf
  refine ⟨fun h => ?_, fun h => ?_⟩
  · have h : L.length < N := by simpa using h
    obtain ⟨m, hm⟩ : ∃ m, N - L.length = m + 1 := ⟨N - L.length - 1, by omega⟩
    rw [hm] at i3
    have m1 : (13 : Int) + 8 * (L.length : Int) = ((13 + 8 * L.length : Nat) : Int) := by omega
    have m2 : (17 : Int) + 8 * (L.length : Int) = ((17 + 8 * L.length : Nat) : Int) := by omega
    have hnx := prepE_next b m L.length a L
    have hbad : (wireN b (13 + 8 * L.length) 4 ≠ a ∨ wireN b (17 + 8 * L.length) 4 < 1 ∨ 1048576 < wireN b (17 + 8 * L.length) 4) → E = ([], 13) := fun c => by
      rw [i3, entsR, if_pos c]
      rfl
    have hu := wireN_lt b (13 + 8 * L.length) 4
    have hv := wireN_lt b (17 + 8 * L.length) 4
    have g1 := fun R' (h : ∀ w, Sat R' w → Sat R w) => hget R' h (13 + 8 * L.length) 4 (by decide) (by decide) (by omega)
    have g2 := fun R' (h : ∀ w, Sat R' w → Sat R w) => hget R' h (17 + 8 * L.length) 4 (by decide) (by decide) (by omega)
    rw [← i3] at hnx
    generalize hhu : wireN b (13 + 8 * L.length) 4 = u at *
    generalize hhv : wireN b (17 + 8 * L.length) 4 = v at *
    conv => whnf
    refine ⟨(by (repeat' apply And.intro) <;> first | exact True.intro | (unfold rng; simp only; omega) | (simp only; omega) | (unfold rng; omega) | omega), CallAt.pure (v := .int .i64 (u : Int)) (fun R' hR' => by
      show PureR _ _ _ [_, .int .i64 ((13 : Int) + 8 * (L.length : Int)), _] _
      rw [m1]; exact g1 R' (fun w s => sat_baseF (hR' w s))) ?_⟩
    conv => whnf
    refine ⟨(by (repeat' apply And.intro) <;> first | exact True.intro | (unfold rng; simp only; omega) | (simp only; omega) | (unfold rng; omega) | omega), CallAt.pure (v := .int .i64 (v : Int)) (fun R' hR' => by
      show PureR _ _ _ [_, .int .i64 ((17 : Int) + 8 * (L.length : Int)), _] _
      rw [m2]; exact g2 R' (fun w s => sat_baseF (hR' w s))) ?_⟩
    clear hget g1 g2
    conv => whnf
    by_cases b1 : u = a
    rotate_left
    · have hE2 := hbad (.inl b1)
      rw [hE2, if_pos (by decide)] at hQ
      subst hQ
      repeat (first | (refine And.intro ?_ ?_; rotate_left; (focus (intro g; exfalso; first | (simp at g; done) | (simp at g; omega) | (revert g; decide))); intro _; conv => whnf) | (refine And.intro ?_ ?_; (focus (intro g; exfalso; first | (simp at g; done) | (simp at g; omega) | (revert g; decide))); intro _; conv => whnf))
      exact ⟨(by (repeat' apply And.intro) <;> first | exact True.intro | (unfold rng; omega) | omega), fin_dropP (.inl ⟨by decide, rfl, rfl⟩)⟩
    subst b1
    by_cases b2 : v < 1
    · have hE2 := hbad (.inr (.inl b2))
      rw [hE2, if_pos (by decide)] at hQ
      subst hQ
      repeat (first | (refine And.intro ?_ ?_; rotate_left; (focus (intro g; exfalso; first | (simp at g; done) | (simp at g; omega) | (revert g; decide))); intro _; conv => whnf) | (refine And.intro ?_ ?_; (focus (intro g; exfalso; first | (simp at g; done) | (simp at g; omega) | (revert g; decide))); intro _; conv => whnf))
      exact ⟨(by (repeat' apply And.intro) <;> first | exact True.intro | (unfold rng; omega) | omega), fin_dropP (.inl ⟨by decide, rfl, rfl⟩)⟩
    by_cases b3 : 1048576 < v
    · have hE2 := hbad (.inr (.inr b3))
      rw [hE2, if_pos (by decide)] at hQ
      subst hQ
      repeat (first | (refine And.intro ?_ ?_; rotate_left; (focus (intro g; exfalso; first | (simp at g; done) | (simp at g; omega) | (revert g; decide))); intro _; conv => whnf) | (refine And.intro ?_ ?_; (focus (intro g; exfalso; first | (simp at g; done) | (simp at g; omega) | (revert g; decide))); intro _; conv => whnf))
      exact ⟨(by (repeat' apply And.intro) <;> first | exact True.intro | (unfold rng; omega) | omega), fin_dropP (.inl ⟨by decide, rfl, rfl⟩)⟩
    have hnx := hnx (by omega)
    repeat (first | (refine And.intro ?_ ?_; rotate_left; (focus (intro g; exfalso; first | (simp at g; done) | (simp at g; omega) | (revert g; decide))); intro _; conv => whnf) | (refine And.intro ?_ ?_; (focus (intro g; exfalso; first | (simp at g; done) | (simp at g; omega) | (revert g; decide))); intro _; conv => whnf))
    refine ⟨trivial, OpAt.lit [.agg #[.int .i64 (u : Int), .int .i64 (v : Int)]] 2 rfl rfl rfl rfl rfl (by decide) rfl rfl rfl (by simp [Value.cells]) rfl (by decide) fun g2 => ?_⟩
    conv => whnf
    refine ⟨trivial, OpAt.append (.slice B L.length d) L.length 2 16 (encE L) (cellsOf [.agg #[.int .i64 (u : Int), .int .i64 (v : Int)]]) (some ⟨g2, 0, none⟩) 1 1 _ rfl (fun h s => sepL_pull 1 s) rfl rfl rfl rfl rfl rfl rfl rfl rfl (by decide) (fun w hw => rowH_reads rfl (Sat.left hw)) (by intro u hu; simp [cellsOf, Value.cells] at hu; rcases hu with rfl | rfl <;> rfl) (by simp only [maxLen]; omega) (by omega) fun B' d' => ?_⟩
    conv => whnf
    refine ⟨(by (repeat' apply And.intro) <;> first | exact True.intro | (unfold rng; simp only; omega) | (simp only; omega) | (unfold rng; omega) | omega), Next.heap (L ++ [(u, v)], u + v, B', d') ⟨by simp; omega, by simp; omega, ?_⟩ (by simp; omega) ⟨⟨?_, rfl⟩, ⟨?_, rfl⟩, ⟨?_, rfl⟩, trivial⟩ ⟨⟨rfl, rfl⟩, ⟨rfl, rfl⟩, ⟨rfl, rfl⟩, ⟨rfl, rfl⟩, trivial⟩ trivial rfl rfl fun h s => ?_⟩
    · rw [hnx]
      simp only [List.length_append, List.length_singleton]
      rw [show N - (L.length + 1) = m by omega]
    · simp [getT]
    · simp [getT]
    · simp [getT]
    · obtain ⟨h', e', s'⟩ := sub_tail (sepL_pull 1 s)
      refine ⟨h', e', ?_⟩
      simp only [List.length_append, List.length_singleton]
      have e1 : encE (L ++ [(u, v)]) = encE L ++ cellsOf [.agg #[.int .i64 (u : Int), .int .i64 (v : Int)]] := by
        simp [encE, cellsOf, Value.cells]
      rw [e1]
      exact s'
  · have h : L.length = N := by simp at h; omega
    rw [show N - L.length = 0 by omega] at i3
    have hE2 : E = (L, 0) := by rw [i3]; simp [entsR, prepE]
    rw [hE2, if_neg (fun g => g rfl)] at hQ
    subst hQ
    conv => whnf
    refine ⟨trivial, .mk _ (fun w s => s) (.inr ⟨rfl, B, d, rfl, rfl⟩)⟩
end Go.Proofs.YtgfiakgahmpfkaaGreatDoor
