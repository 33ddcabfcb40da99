/-
  Texts of the proofs, one behind the other: QuadRg, QuadRh, QuadRi, QuadRj.
-/
import Derived.Test.YtojlgfkjnkjcmaaGreatDoorPartQd
import Derived.Test.YtojlgfkjnkjcmaaGreatDoorPartQb
import Derived.Test.YtojlgfkjnkjcmaaGreatDoorPartQf
import Derived.Test.YtojlgfkjnkjcmaaGreatDoorPartV
/-
  The document's reader of trees: it writes the cells of a tree that a text begins with.
-/
namespace Go.Proofs.YtojlgfkjnkjcmaaGreatDoor
open Go.RowKit
open Sy
set_option linter.unusedVariables false
set_option linter.unusedSimpArgs false
set_option maxRecDepth 100000
set_option maxHeartbeats 4000000

def mkB (W H : Nat) (f : Nat → Nat → Bool) : List Bool := (List.range (W * H)).map fun i => f (i % W) (i / W)
theorem mkB_len (W H : Nat) (f : Nat → Nat → Bool) : (mkB W H f).length = W * H := by simp [mkB]
theorem mkB_get {W H : Nat} {f : Nat → Nat → Bool} {i : Nat} (h : i < W * H) : (mkB W H f)[i]? = some (f (i % W) (i / W)) := by simp [mkB, h]
theorem mkB_congr {W H : Nat} {f g : Nat → Nat → Bool} (h : ∀ u v, u < W → v < H → f u v = g u v) : mkB W H f = mkB W H g := by
  unfold mkB
  refine List.map_congr_left fun i hi => ?_
  have hi := List.mem_range.1 hi
  have hW : 0 < W := Nat.pos_of_ne_zero fun c => by subst c; simp at hi
  exact h _ _ (Nat.mod_lt _ hW) (Nat.div_lt_of_lt_mul hi)
theorem ix_eq {W u v k : Nat} (hu : u < W) : (v * W + u = k) ↔ (k % W = u ∧ k / W = v) := by
  constructor
  · rintro rfl
    rw [Nat.add_comm, Nat.add_mul_mod_self_right, Nat.mod_eq_of_lt hu, Nat.add_mul_div_right _ _ (by omega), Nat.div_eq_of_lt hu, Nat.zero_add]
    exact ⟨rfl, rfl⟩
  · rintro ⟨rfl, rfl⟩
    rw [Nat.mul_comm]
    exact Nat.div_add_mod k W
def setB (f : Nat → Nat → Bool) (u v : Nat) : Nat → Nat → Bool := fun a b => f a b || (decide (a = u) && decide (b = v))
theorem put_mkB {W H : Nat} {f : Nat → Nat → Bool} {u v : Nat} (hu : u < W) (hv : v < H) : putL (bls (mkB W H f)) (v * W + u) [.bool true] = bls (mkB W H (setB f u v)) := by
  have hlt := ix_lt hu hv
  have hl : (bls (mkB W H f)).length = W * H := by rw [bls_len, mkB_len]
  refine List.ext_getElem? fun k => ?_
  rw [putL_get (by rw [hl]; simp; omega)]
  simp only [List.length_cons, List.length_nil]
  by_cases hk : k < W * H
  · have e1 : (bls (mkB W H (setB f u v)))[k]? = some (.bool (setB f u v (k % W) (k / W))) := by
      rw [bls, List.getElem?_map, mkB_get hk]; rfl
    have e2 : (bls (mkB W H f))[k]? = some (.bool (f (k % W) (k / W))) := by
      rw [bls, List.getElem?_map, mkB_get hk]; rfl
    rw [e1, e2]
    by_cases c : v * W + u = k
    · rw [if_pos (by omega)]
      obtain ⟨c1, c2⟩ := (ix_eq hu).1 c
      rw [show k - (v * W + u) = 0 by omega]
      unfold setB
      rw [decide_eq_true c1, decide_eq_true c2]
      simp
    · rw [if_neg (by omega)]
      unfold setB
      have : (decide (k % W = u) && decide (k / W = v)) = false := by
        cases h1 : (decide (k % W = u) && decide (k / W = v)) with
        | false => rfl
        | true =>
          rw [Bool.and_eq_true] at h1
          exact absurd ((ix_eq hu).2 ⟨of_decide_eq_true h1.1, of_decide_eq_true h1.2⟩) c
      rw [this, Bool.or_false]
  · rw [if_neg (by omega), List.getElem?_eq_none (by rw [hl]; omega), List.getElem?_eq_none (by rw [bls_len, mkB_len]; omega)]
/-- the cells of a tree beside those that are there -/
def addQ (n : Nat) (t : QT) (x y : Int) (f : Nat → Nat → Bool) (u v : Nat) : Bool := f u v || (decide (x ≤ u ∧ u < x + 2 ^ n ∧ y ≤ v ∧ v < y + 2 ^ n) && lookQ n t x y u v)
abbrev inH (W H b c : Nat) (f : Nat → Nat → Bool) : HP := rowH (.slice (some ⟨b, 0, none⟩) (W * H) c) (W * H) 4 1 (bls (mkB W H f))
abbrev setB0 (W H b c : Nat) : Value := setV W H (some ⟨b, 0, none⟩) (W * H) c
theorem at_sgn {s : List UInt8} {k : Nat} (z : UInt8) (hk : k < s.length) : (byteAt (bs s) k = (z.toNat : Int)) ↔ s[k] = z := by
  rw [byteAt_bs, List.getElem?_eq_getElem hk]
  simp only [Option.getD_some]
  constructor
  · intro e; exact UInt8.toNat_inj.1 (by omega)
  · rintro rfl; rfl
section
variable {R : HP} {W H b c k : Nat} {l : List UInt8} {x y s : Int} {f : Nat → Nat → Bool}
theorem rNodeEnd (hk : l.length ≤ k) (hl : l.length ≤ 1048576) : FnR Tryz.prog R 42 [setB0 W H b c, .string (bs l), .int .i64 (k : Int), .int .i64 x, .int .i64 y, .int .i64 s] [inH W H b c f] fun v hs => v = .tuple #[.int .i64 (k : Int), .bool false] ∧ hs = [inH W H b c f] := by
  have hsz : (bs l).size = l.length := bs_size l
  generalize W * H = N at *
  refine fn_of_run0 true Tryz.func42 rfl hmix rfl fun w0 => ?_
  conv => whnf
  refine iff_t (decide_eq_true (by rw [hsz]; omega)) ?_
  conv => whnf
  exact ⟨trivial, .mk _ (fun w s => s) ⟨rfl, rfl⟩⟩
theorem byteV {l : List UInt8} {k : Nat} (hk : k < l.length) : byteAt (bs l) k = ((l[k].toNat : Nat) : Int) := by
  rw [byteAt_bs, List.getElem?_eq_getElem hk]
  rfl
theorem rNodePt (hk : k < l.length) (hl : l.length ≤ 1048576) (h46 : l[k].toNat = 46) : FnR Tryz.prog R 42 [setB0 W H b c, .string (bs l), .int .i64 (k : Int), .int .i64 x, .int .i64 y, .int .i64 s] [inH W H b c f] fun v hs => v = .tuple #[.int .i64 ((k + 1 : Nat) : Int), .bool true] ∧ hs = [inH W H b c f] := by
  have hsz : (bs l).size = l.length := bs_size l
  have hb := byteV hk
  generalize W * H = N at *
  refine fn_of_run0 true Tryz.func42 rfl hmix rfl fun w0 => ?_
  conv => whnf
  refine iff_f (decide_eq_false (by rw [hsz]; omega)) ?_
  conv => whnf
  repeat (first | (refine And.intro ?_ ?_; rotate_left; (focus (intro g; exfalso; first | (simp at g; done) | (simp at g; omega) | (revert g; decide))); intro _; conv => whnf) | (refine And.intro ?_ ?_; (focus (intro g; exfalso; first | (simp at g; done) | (simp at g; omega) | (revert g; decide))); intro _; conv => whnf))
  refine ⟨?_, .mk _ (fun w s => s) ⟨rfl, rfl⟩⟩
  repeat' apply And.intro
  all_goals first | exact True.intro | (unfold rng; omega) | (rw [hsz]; omega) | omega
theorem rNodeBad (hk : k < l.length) (hl : l.length ≤ 1048576) (h46 : l[k].toNat ≠ 46) (h35 : l[k].toNat ≠ 35) (h43 : l[k].toNat ≠ 43 ∨ s = 1) : FnR Tryz.prog R 42 [setB0 W H b c, .string (bs l), .int .i64 (k : Int), .int .i64 x, .int .i64 y, .int .i64 s] [inH W H b c f] fun v hs => v = .tuple #[.int .i64 (k : Int), .bool false] ∧ hs = [inH W H b c f] := by
  have hsz : (bs l).size = l.length := bs_size l
  have hb := byteV hk
  generalize W * H = N at *
  by_cases h : l[k].toNat = 43
  · refine fn_of_run0 true Tryz.func42 rfl hmix rfl fun w0 => ?_
    conv => whnf
    refine iff_f (decide_eq_false (by rw [hsz]; omega)) ?_
    conv => whnf
    repeat (first | (refine And.intro ?_ ?_; rotate_left; (focus (intro g; exfalso; first | (simp at g; done) | (simp at g; omega) | (revert g; decide))); intro _; conv => whnf) | (refine And.intro ?_ ?_; (focus (intro g; exfalso; first | (simp at g; done) | (simp at g; omega) | (revert g; decide))); intro _; conv => whnf))
    refine ⟨?_, .mk _ (fun w s => s) ⟨rfl, rfl⟩⟩
    repeat' apply And.intro
    all_goals first | exact True.intro | (unfold rng; omega) | (rw [hsz]; omega) | omega
  · refine fn_of_run0 true Tryz.func42 rfl hmix rfl fun w0 => ?_
    conv => whnf
    refine iff_f (decide_eq_false (by rw [hsz]; omega)) ?_
    conv => whnf
    repeat (first | (refine And.intro ?_ ?_; rotate_left; (focus (intro g; exfalso; first | (simp at g; done) | (simp at g; omega) | (revert g; decide))); intro _; conv => whnf) | (refine And.intro ?_ ?_; (focus (intro g; exfalso; first | (simp at g; done) | (simp at g; omega) | (revert g; decide))); intro _; conv => whnf))
    refine ⟨?_, .mk _ (fun w s => s) ⟨rfl, rfl⟩⟩
    repeat' apply And.intro
    all_goals first | exact True.intro | (unfold rng; omega) | (rw [hsz]; omega) | omega
theorem inH_congr {W H b c : Nat} {f g : Nat → Nat → Bool} (h : mkB W H f = mkB W H g) : inH W H b c f = inH W H b c g := by unfold inH; rw [h]
def fO (f : Nat → Nat → Bool) (X Y S i u v : Nat) : Bool := f u v || decide (X ≤ u ∧ u < X + S ∧ Y ≤ v ∧ v < Y + i)
def fI (f : Nat → Nat → Bool) (X Y S i q u v : Nat) : Bool := fO f X Y S i u v || decide (v = Y + i ∧ X ≤ u ∧ u < X + q)
theorem rNodeIn {X Y S : Nat} (w2 : W ≤ 1024) (h2 : H ≤ 1024) (hk : k < l.length) (hl : l.length ≤ 1048576) (h35 : l[k].toNat = 35) (hX : X ≤ 4096) (hY : Y ≤ 4096) (hS : S ≤ 4096) : FnR Tryz.prog R 42 [setB0 W H b c, .string (bs l), .int .i64 (k : Int), .int .i64 (X : Int), .int .i64 (Y : Int), .int .i64 (S : Int)] [inH W H b c f] fun v hs => v = .tuple #[.int .i64 ((k + 1 : Nat) : Int), .bool true] ∧ hs = [inH W H b c (fO f X Y S S)] := by
  have hsz : (bs l).size = l.length := bs_size l
  have hb := byteV hk
  have e0 : mkB W H (fO f X Y S 0) = mkB W H f := mkB_congr fun u v _ _ => by
    unfold fO
    rw [decide_eq_false (by omega), Bool.or_false]
  have eS : ∀ i, (S ≤ i ∨ H ≤ Y + i) → i ≤ S → mkB W H (fO f X Y S i) = mkB W H (fO f X Y S S) := fun i h h' => mkB_congr fun u v _ hv => by
    unfold fO
    congr 1
    exact decide_eq_decide.2 (by omega)
  have eI0 : ∀ i, mkB W H (fI f X Y S i 0) = mkB W H (fO f X Y S i) := fun i => mkB_congr fun u v _ _ => by
    unfold fI
    rw [decide_eq_false (by omega), Bool.or_false]
  have eIS : ∀ i q, (S ≤ q ∨ W ≤ X + q) → q ≤ S → mkB W H (fI f X Y S i q) = mkB W H (fO f X Y S (i + 1)) := fun i q h h' => mkB_congr fun u v hu _ => by
    unfold fI fO
    rw [Bool.or_assoc]
    congr 1
    rw [← Bool.decide_or]
    exact decide_eq_decide.2 (by omega)
  have ePut : ∀ i q, X + q < W → Y + i < H → putL (bls (mkB W H (fI f X Y S i q))) ((Y + i) * W + (X + q)) [.bool true] = bls (mkB W H (fI f X Y S i (q + 1))) := fun i q h1 h2 => by
    rw [put_mkB h1 h2]
    congr 1
    refine mkB_congr fun u v _ _ => ?_
    unfold setB fI
    rw [Bool.or_assoc]
    congr 1
    rw [← Bool.decide_and, ← Bool.decide_or]
    exact decide_eq_decide.2 (by omega)
  have eIx : ∀ i q, X + q < W → Y + i < H → (Y + i) * W + (X + q) < W * H := fun i q h1 h2 => ix_lt h1 h2
  have hm : W * H ≤ 1048576 := by
    have := Nat.mul_le_mul w2 h2
    omega
  refine fn_of_run0 true Tryz.func42 rfl hmix rfl fun w0 => ?_
  conv => whnf
  refine iff_f (decide_eq_false (by rw [hsz]; omega)) ?_
  conv => whnf
  repeat (first | (refine And.intro ?_ ?_; rotate_left; (focus (intro g; exfalso; first | (simp at g; done) | (simp at g; omega) | (revert g; decide))); intro _; conv => whnf) | (refine And.intro ?_ ?_; (focus (intro g; exfalso; first | (simp at g; done) | (simp at g; omega) | (revert g; decide))); intro _; conv => whnf))
  refine ⟨?_, LoopAt.of (α := Nat) [2, 3, 4, 5, 6] (fun i => [(14, .v (.int .i64 ((Y + i : Nat) : Int)))]) (fun _ => [(0, 37, [.v (.int .i64 W), .v (.int .i64 H), .v (.slice (some ⟨b, 0, none⟩) (W * H) c)])]) (fun i => [inH W H b c (fO f X Y S i)]) (fun i => i ≤ S ∧ (i = 0 ∨ Y + i ≤ H)) (fun i => S - i) 0 ⟨Nat.zero_le _, .inl rfl⟩
    (Le.of (Nat.le_of_ble_eq_true rfl) (Nat.zero_le _) ⟨⟨rfl, rfl⟩, ⟨rfl, rfl⟩, ⟨rfl, rfl⟩, ⟨rfl, rfl⟩, ⟨rfl, rfl⟩, ⟨rfl, rfl⟩, trivial⟩ ⟨⟨rfl, rfl, rfl, rfl⟩, trivial⟩ fun h s => sub_same (by rw [inH_congr e0]; exact s)) ?_⟩
  · repeat' apply And.intro
    all_goals first | exact True.intro | (unfold rng; omega) | (rw [hsz]; omega) | omega
  rintro i ⟨hi, hiH⟩
  by_cases g1 : i < S
  · by_cases g2 : Y + i < H
    · conv => whnf
      repeat (first | (refine And.intro ?_ ?_; rotate_left; (focus (intro g; exfalso; first | (simp at g; done) | (simp at g; omega) | (revert g; decide))); intro _; conv => whnf) | (refine And.intro ?_ ?_; (focus (intro g; exfalso; first | (simp at g; done) | (simp at g; omega) | (revert g; decide))); intro _; conv => whnf))
      refine ⟨?_, LoopAt.of (α := Nat) [2, 3, 4, 5, 6, 14] (fun q => [(15, .v (.int .i64 ((X + q : Nat) : Int)))]) (fun _ => [(0, 37, [.v (.int .i64 W), .v (.int .i64 H), .v (.slice (some ⟨b, 0, none⟩) (W * H) c)])]) (fun q => [inH W H b c (fI f X Y S i q)]) (fun q => q ≤ S ∧ (q = 0 ∨ X + q ≤ W)) (fun q => S - q) 0 ⟨Nat.zero_le _, .inl rfl⟩
        (Le.of (Nat.le_of_ble_eq_true rfl) (Nat.zero_le _) ⟨⟨rfl, rfl⟩, ⟨rfl, rfl⟩, ⟨rfl, rfl⟩, ⟨rfl, rfl⟩, ⟨rfl, rfl⟩, ⟨rfl, rfl⟩, ⟨rfl, rfl⟩, trivial⟩ ⟨⟨rfl, rfl, rfl, rfl⟩, trivial⟩ fun h s => sub_same (by rw [inH_congr (eI0 i)]; exact s)) ?_⟩
      · repeat' apply And.intro
        all_goals first | exact True.intro | (unfold rng; omega) | (rw [hsz]; omega) | omega
      rintro q ⟨hq, hqW⟩
      by_cases g3 : q < S
      · by_cases g4 : X + q < W
        · have hput := ePut i q g4 g2
          have hix := eIx i q g4 g2
          have hcast : ((Y + i : Nat) : Int) * (W : Int) = (((Y + i) * W : Nat) : Int) := by rw [Int.natCast_mul]
          have hoff : (0 + ((((Y + i) * W : Nat) : Int) + ((X + q : Nat) : Int)).toNat) = (Y + i) * W + (X + q) := by omega
          conv => whnf
          repeat (first | (refine And.intro ?_ ?_; rotate_left; (focus (intro g; exfalso; first | (simp at g; done) | (simp at g; omega) | (revert g; decide))); intro _; conv => whnf) | (refine And.intro ?_ ?_; (focus (intro g; exfalso; first | (simp at g; done) | (simp at g; omega) | (revert g; decide))); intro _; conv => whnf))
          rw [hcast]
          refine ⟨?_, OpAt.store b (0 + ((((Y + i) * W : Nat) : Int) + ((X + q : Nat) : Int)).toNat) (.bool true) [] rfl (fun h s => s) rfl rfl rfl rfl rfl (by simp [Value.cells, Value.oneCell']) (fun h r => row_put (by rw [hoff]; simp [Value.cells]; omega) r) ?_⟩
          · repeat' apply And.intro
            all_goals first | exact True.intro | (unfold rng; omega) | (rw [hsz]; omega) | omega
          conv => whnf
          refine ⟨?_, .mk (q + 1) ⟨by omega, by omega⟩ (by omega) (Le.of (Nat.le_of_ble_eq_true rfl) (Nat.zero_le _) ⟨⟨by rw [show ((X + (q + 1) : Nat) : Int) = ((X + q : Nat) : Int) + 1 by omega]; rfl, rfl⟩, ⟨rfl, rfl⟩, ⟨rfl, rfl⟩, ⟨rfl, rfl⟩, ⟨rfl, rfl⟩, ⟨rfl, rfl⟩, ⟨rfl, rfl⟩, trivial⟩ ⟨⟨rfl, rfl, rfl, rfl⟩, trivial⟩ fun h s => sub_same ?_)⟩
          · repeat' apply And.intro
            all_goals first | exact True.intro | (unfold rng; omega) | (rw [hsz]; omega) | omega
          · show sepL [rowH (.slice (some ⟨b, 0, none⟩) (W * H) c) (W * H) 4 1 (bls (mkB W H (fI f X Y S i (q + 1))))] R h
            rw [← hput, ← hoff]
            exact s
        · conv => whnf
          repeat (first | (refine And.intro ?_ ?_; rotate_left; (focus (intro g; exfalso; first | (simp at g; done) | (simp at g; omega) | (revert g; decide))); intro _; conv => whnf) | (refine And.intro ?_ ?_; (focus (intro g; exfalso; first | (simp at g; done) | (simp at g; omega) | (revert g; decide))); intro _; conv => whnf))
          refine ⟨?_, .mk (i + 1) ⟨by omega, by omega⟩ (by omega) (Le.of (Nat.le_of_ble_eq_true rfl) (Nat.zero_le _) ⟨⟨by rw [show ((Y + (i + 1) : Nat) : Int) = ((Y + i : Nat) : Int) + 1 by omega]; rfl, rfl⟩, ⟨rfl, rfl⟩, ⟨rfl, rfl⟩, ⟨rfl, rfl⟩, ⟨rfl, rfl⟩, ⟨rfl, rfl⟩, trivial⟩ ⟨⟨rfl, rfl, rfl, rfl⟩, trivial⟩ fun h s => sub_same (by rw [inH_congr (eIS i q (by omega) hq)] at s; exact s))⟩
          repeat' apply And.intro
          all_goals first | exact True.intro | (unfold rng; omega) | (rw [hsz]; omega) | omega
      · conv => whnf
        repeat (first | (refine And.intro ?_ ?_; rotate_left; (focus (intro g; exfalso; first | (simp at g; done) | (simp at g; omega) | (revert g; decide))); intro _; conv => whnf) | (refine And.intro ?_ ?_; (focus (intro g; exfalso; first | (simp at g; done) | (simp at g; omega) | (revert g; decide))); intro _; conv => whnf))
        refine ⟨?_, .mk (i + 1) ⟨by omega, by omega⟩ (by omega) (Le.of (Nat.le_of_ble_eq_true rfl) (Nat.zero_le _) ⟨⟨by rw [show ((Y + (i + 1) : Nat) : Int) = ((Y + i : Nat) : Int) + 1 by omega]; rfl, rfl⟩, ⟨rfl, rfl⟩, ⟨rfl, rfl⟩, ⟨rfl, rfl⟩, ⟨rfl, rfl⟩, ⟨rfl, rfl⟩, trivial⟩ ⟨⟨rfl, rfl, rfl, rfl⟩, trivial⟩ fun h s => sub_same (by rw [inH_congr (eIS i q (by omega) hq)] at s; exact s))⟩
        repeat' apply And.intro
        all_goals first | exact True.intro | (unfold rng; omega) | (rw [hsz]; omega) | omega
    · conv => whnf
      repeat (first | (refine And.intro ?_ ?_; rotate_left; (focus (intro g; exfalso; first | (simp at g; done) | (simp at g; omega) | (revert g; decide))); intro _; conv => whnf) | (refine And.intro ?_ ?_; (focus (intro g; exfalso; first | (simp at g; done) | (simp at g; omega) | (revert g; decide))); intro _; conv => whnf))
      refine ⟨?_, .mk [inH W H b c (fO f X Y S S)] (fun w s => by rw [inH_congr (eS i (by omega) hi)] at s; exact s) ⟨rfl, rfl⟩⟩
      repeat' apply And.intro
      all_goals first | exact True.intro | (unfold rng; omega) | (rw [hsz]; omega) | omega
  · conv => whnf
    repeat (first | (refine And.intro ?_ ?_; rotate_left; (focus (intro g; exfalso; first | (simp at g; done) | (simp at g; omega) | (revert g; decide))); intro _; conv => whnf) | (refine And.intro ?_ ?_; (focus (intro g; exfalso; first | (simp at g; done) | (simp at g; omega) | (revert g; decide))); intro _; conv => whnf))
    refine ⟨?_, .mk [inH W H b c (fO f X Y S S)] (fun w s => by rw [inH_congr (eS i (by omega) hi)] at s; exact s) ⟨rfl, rfl⟩⟩
    repeat' apply And.intro
    all_goals first | exact True.intro | (unfold rng; omega) | (rw [hsz]; omega) | omega
end
end Go.Proofs.YtojlgfkjnkjcmaaGreatDoor

/-
  The document's reader of trees: the whole tree.
-/
namespace Go.Proofs.YtojlgfkjnkjcmaaGreatDoor
open Go.RowKit
open Sy
set_option linter.unusedVariables false
set_option linter.unusedSimpArgs false
set_option maxRecDepth 100000
set_option maxHeartbeats 4000000

instance (n : Nat) (x y u v : Int) : Decidable (InSq n x y u v) := by unfold InSq; infer_instance
/-- what a tree adds at a cell -/
def inT (n : Nat) (t : QT) (x y : Int) (u v : Nat) : Bool := decide (InSq n x y u v) && lookQ n t x y u v
def accF (f : Nat → Nat → Bool) (o : Nat → Nat → Nat → Bool) : Nat → Nat → Nat → Bool
  | 0, u, v => f u v
  | i + 1, u, v => accF f o i u v || o i u v
theorem inT_node (n : Nat) (K : Nat → QT) (x y : Int) (u v : Nat) : inT (n + 1) (.node (K 0) (K 1) (K 2) (K 3)) x y u v = (inT n (K 0) (qx x (2 ^ n) 0) (qy y (2 ^ n) 0) u v || inT n (K 1) (qx x (2 ^ n) 1) (qy y (2 ^ n) 1) u v || inT n (K 2) (qx x (2 ^ n) 2) (qy y (2 ^ n) 2) u v || inT n (K 3) (qx x (2 ^ n) 3) (qy y (2 ^ n) 3) u v) := by
  have hp := two_pos n
  have h2 := two_succ n
  unfold inT InSq
  simp only [lookQ, qx, qy]
  by_cases h1 : x ≤ (u : Int) ∧ (u : Int) < x + 2 ^ (n + 1) ∧ y ≤ (v : Int) ∧ (v : Int) < y + 2 ^ (n + 1)
  · by_cases a : (u : Int) < x + 2 ^ n
    · by_cases b : (v : Int) < y + 2 ^ n
      · rw [decide_eq_true h1, if_pos a, if_pos b, decide_eq_true (show x ≤ (u : Int) ∧ (u : Int) < x + 2 ^ n ∧ y ≤ (v : Int) ∧ (v : Int) < y + 2 ^ n by omega), decide_eq_false (show ¬ (x + 2 ^ n ≤ (u : Int) ∧ (u : Int) < x + 2 ^ n + 2 ^ n ∧ y ≤ (v : Int) ∧ (v : Int) < y + 2 ^ n) by omega), decide_eq_false (show ¬ (x ≤ (u : Int) ∧ (u : Int) < x + 2 ^ n ∧ y + 2 ^ n ≤ (v : Int) ∧ (v : Int) < y + 2 ^ n + 2 ^ n) by omega), decide_eq_false (show ¬ (x + 2 ^ n ≤ (u : Int) ∧ (u : Int) < x + 2 ^ n + 2 ^ n ∧ y + 2 ^ n ≤ (v : Int) ∧ (v : Int) < y + 2 ^ n + 2 ^ n) by omega)]
        simp
      · rw [decide_eq_true h1, if_pos a, if_neg b, decide_eq_false (show ¬ (x ≤ (u : Int) ∧ (u : Int) < x + 2 ^ n ∧ y ≤ (v : Int) ∧ (v : Int) < y + 2 ^ n) by omega), decide_eq_false (show ¬ (x + 2 ^ n ≤ (u : Int) ∧ (u : Int) < x + 2 ^ n + 2 ^ n ∧ y ≤ (v : Int) ∧ (v : Int) < y + 2 ^ n) by omega), decide_eq_true (show x ≤ (u : Int) ∧ (u : Int) < x + 2 ^ n ∧ y + 2 ^ n ≤ (v : Int) ∧ (v : Int) < y + 2 ^ n + 2 ^ n by omega), decide_eq_false (show ¬ (x + 2 ^ n ≤ (u : Int) ∧ (u : Int) < x + 2 ^ n + 2 ^ n ∧ y + 2 ^ n ≤ (v : Int) ∧ (v : Int) < y + 2 ^ n + 2 ^ n) by omega)]
        simp
    · by_cases b : (v : Int) < y + 2 ^ n
      · rw [decide_eq_true h1, if_neg a, if_pos b, decide_eq_false (show ¬ (x ≤ (u : Int) ∧ (u : Int) < x + 2 ^ n ∧ y ≤ (v : Int) ∧ (v : Int) < y + 2 ^ n) by omega), decide_eq_true (show x + 2 ^ n ≤ (u : Int) ∧ (u : Int) < x + 2 ^ n + 2 ^ n ∧ y ≤ (v : Int) ∧ (v : Int) < y + 2 ^ n by omega), decide_eq_false (show ¬ (x ≤ (u : Int) ∧ (u : Int) < x + 2 ^ n ∧ y + 2 ^ n ≤ (v : Int) ∧ (v : Int) < y + 2 ^ n + 2 ^ n) by omega), decide_eq_false (show ¬ (x + 2 ^ n ≤ (u : Int) ∧ (u : Int) < x + 2 ^ n + 2 ^ n ∧ y + 2 ^ n ≤ (v : Int) ∧ (v : Int) < y + 2 ^ n + 2 ^ n) by omega)]
        simp
      · rw [decide_eq_true h1, if_neg a, if_neg b, decide_eq_false (show ¬ (x ≤ (u : Int) ∧ (u : Int) < x + 2 ^ n ∧ y ≤ (v : Int) ∧ (v : Int) < y + 2 ^ n) by omega), decide_eq_false (show ¬ (x + 2 ^ n ≤ (u : Int) ∧ (u : Int) < x + 2 ^ n + 2 ^ n ∧ y ≤ (v : Int) ∧ (v : Int) < y + 2 ^ n) by omega), decide_eq_false (show ¬ (x ≤ (u : Int) ∧ (u : Int) < x + 2 ^ n ∧ y + 2 ^ n ≤ (v : Int) ∧ (v : Int) < y + 2 ^ n + 2 ^ n) by omega), decide_eq_true (show x + 2 ^ n ≤ (u : Int) ∧ (u : Int) < x + 2 ^ n + 2 ^ n ∧ y + 2 ^ n ≤ (v : Int) ∧ (v : Int) < y + 2 ^ n + 2 ^ n by omega)]
        simp
  · rw [decide_eq_false h1, decide_eq_false (show ¬ (x ≤ (u : Int) ∧ (u : Int) < x + 2 ^ n ∧ y ≤ (v : Int) ∧ (v : Int) < y + 2 ^ n) by omega), decide_eq_false (show ¬ (x + 2 ^ n ≤ (u : Int) ∧ (u : Int) < x + 2 ^ n + 2 ^ n ∧ y ≤ (v : Int) ∧ (v : Int) < y + 2 ^ n) by omega), decide_eq_false (show ¬ (x ≤ (u : Int) ∧ (u : Int) < x + 2 ^ n ∧ y + 2 ^ n ≤ (v : Int) ∧ (v : Int) < y + 2 ^ n + 2 ^ n) by omega), decide_eq_false (show ¬ (x + 2 ^ n ≤ (u : Int) ∧ (u : Int) < x + 2 ^ n + 2 ^ n ∧ y + 2 ^ n ≤ (v : Int) ∧ (v : Int) < y + 2 ^ n + 2 ^ n) by omega)]
    simp
def At2 (l : List UInt8) (r : List Nat) : Nat := l.length - r.length
structure NrS where
  i : Nat
  bad : Bool
  e : Int
  g : Nat → Nat → Bool
section
variable {R : HP} {W H b c k : Nat} {l : List UInt8} {x y s h : Int} {f : Nat → Nat → Bool} {Rs : Nat → List Nat} {o : Nat → Nat → Nat → Bool}
/-- what a call of a quarter leaves -/
abbrev OkQ (W H b c : Nat) (l : List UInt8) (r : List Nat) (g : Nat → Nat → Bool) (o : Nat → Nat → Bool) (v : Value) (hs : List HP) : Prop := v = .tuple #[.int .i64 (At2 l r : Int), .bool true] ∧ ∃ g', (∀ u v, u < W → v < H → g' u v = (g u v || o u v)) ∧ hs = [inH W H b c g']
abbrev NoQ (W H b c : Nat) (v : Value) (hs : List HP) : Prop := ∃ e g', v = .tuple #[.int .i64 e, .bool false] ∧ hs = [inH W H b c g']
theorem rNodeStep (hk : k < l.length) (hl : l.length ≤ 1048576) (h43 : l[k].toNat = 43) (hs : s = h + h) (h0 : 1 ≤ h ∧ h ≤ 2048) (hx : 0 ≤ x ∧ x ≤ 4096) (hy : 0 ≤ y ∧ y ≤ 4096) (hat : At2 l (Rs 0) = k + 1)
    (ih : ∀ i, i < 4 → ∀ R' : HP, (∀ w, Sat R' w → Sat R w) → ∀ g, FnR Tryz.prog R' 42 [setB0 W H b c, .string (bs l), .int .i64 (At2 l (Rs i) : Int), .int .i64 (qx x h i), .int .i64 (qy y h i), .int .i64 h] [inH W H b c g] (OkQ W H b c l (Rs (i + 1)) g (o i))) :
    FnR Tryz.prog R 42 [setB0 W H b c, .string (bs l), .int .i64 (k : Int), .int .i64 x, .int .i64 y, .int .i64 s] [inH W H b c f] (OkQ W H b c l (Rs 4) f fun u v => o 0 u v || o 1 u v || o 2 u v || o 3 u v) := by
  have hsz : (bs l).size = l.length := bs_size l
  have hb := byteV hk
  have hd := tdiv_half hs (by omega)
  have hwr : IntKind.i64.wrap h = h := by
    simp [IntKind.wrap, IntKind.bits, IntKind.signed]
    omega
  have hat0 : (At2 l (Rs 0) : Int) = (k : Int) + 1 := by rw [hat]; omega
  refine fn_of_run0 true Tryz.func42 rfl hmix rfl fun w0 => ?_
  conv => whnf
  refine iff_f (decide_eq_false (by rw [hsz]; omega)) ?_
  conv => whnf
  repeat (first | (refine And.intro ?_ ?_; rotate_left; (focus (intro g; exfalso; first | (simp at g; done) | (simp at g; omega) | (revert g; decide))); intro _; conv => whnf) | (refine And.intro ?_ ?_; (focus (intro g; exfalso; first | (simp at g; done) | (simp at g; omega) | (revert g; decide))); intro _; conv => whnf))
  refine ⟨?_, LoopAt.of (α := NrS) [1, 3, 4, 5, 6] (fun a => [(2, .v (.int .i64 (bif a.bad then a.e else (At2 l (Rs a.i) : Int)))), (16, .v (.bool (!a.bad))), (17, .v (.int .i64 (a.i : Int)))]) (fun _ => [(0, 37, [.v (.int .i64 W), .v (.int .i64 H), .v (.slice (some ⟨b, 0, none⟩) (W * H) c)])]) (fun a => [inH W H b c a.g]) (fun a => (a.bad = false ∧ a.i ≤ 4) ∧ ∀ u v, u < W → v < H → a.g u v = accF f o a.i u v) (fun a => 5 - a.i) ⟨0, false, 0, f⟩ ⟨⟨rfl, Nat.zero_le _⟩, fun u v _ _ => rfl⟩
    (leq_of (Nat.le_of_ble_eq_true rfl) (Nat.zero_le _) ⟨⟨_, rfl, fun _ => by rw [← hat0]; rfl, rfl⟩, ⟨_, rfl, fun _ => rfl, rfl⟩, ⟨_, rfl, fun _ => rfl, rfl⟩, ⟨_, rfl, fun _ => rfl, rfl⟩, ⟨_, rfl, fun _ => rfl, rfl⟩, ⟨_, rfl, fun _ => rfl, rfl⟩, ⟨_, rfl, fun _ => rfl, rfl⟩, ⟨_, rfl, fun _ => rfl, rfl⟩, trivial⟩ ⟨⟨rfl, rfl, rfl, rfl⟩, trivial⟩ fun h s => sub_same s) ?_⟩
  · repeat' apply And.intro
    all_goals first | exact True.intro | exact hwr | (unfold rng; omega) | (rw [hsz]; omega) | omega | decide | (unfold rng; decide)
  rintro ⟨i, bad, e, g⟩ ⟨⟨hbad, hi⟩, hg⟩
  simp only at hbad hi hg
  subst hbad
  dsimp only
  have hnx : ∀ g' : Nat → Nat → Bool, (∀ u v, u < W → v < H → g' u v = (g u v || o i u v)) → ∀ u v, u < W → v < H → g' u v = accF f o (i + 1) u v := fun g' h u v hu hv => by rw [h u v hu hv, hg u v hu hv]; rfl
  rcases (show i = 0 ∨ i = 1 ∨ i = 2 ∨ i = 3 ∨ i = 4 by omega) with rfl | rfl | rfl | rfl | rfl
  · conv => whnf
    repeat (first | (refine And.intro ?_ ?_; rotate_left; (focus (intro g; exfalso; first | (simp at g; done) | (simp at g; omega) | (revert g; decide))); intro _; conv => whnf) | (refine And.intro ?_ ?_; (focus (intro g; exfalso; first | (simp at g; done) | (simp at g; omega) | (revert g; decide))); intro _; conv => whnf))
    have hm2 : Int.tmod ((0 : Nat) : Int) 2 = 0 := rfl
    have hq2 : Int.tdiv ((0 : Nat) : Int) 2 = 0 := rfl
    rw [hm2, hq2, hd]
    refine ⟨?_, CallAt.fn (pre := [inH W H b c g]) (post := OkQ W H b c l (Rs (0 + 1)) g (o 0)) _ (fun h s => s) (fun R' hR' => (by
      have := ih 0 (by omega) R' (fun w s => (hR' w s).rest) g
      simp only [qx, qy] at this
      rw [show x + 0 * h = x from by omega, show y + 0 * h = y from by omega]
      exact this)) ?_⟩
    · repeat' apply And.intro
      all_goals first | exact True.intro | exact hwr | (unfold rng; omega) | (rw [hsz]; omega) | omega | decide | (unfold rng; decide)
    rintro r hs ⟨rfl, g', hg', rfl⟩
    conv => whnf
    refine ⟨?_, .mk ⟨0 + 1, false, 0, g'⟩ ⟨⟨rfl, by simp only; omega⟩, hnx g' hg'⟩ (by simp only; omega) (leq_of (Nat.le_of_ble_eq_true rfl) (Nat.zero_le _) ⟨⟨_, rfl, fun _ => rfl, rfl⟩, ⟨_, rfl, fun _ => rfl, rfl⟩, ⟨_, rfl, fun _ => rfl, rfl⟩, ⟨_, rfl, fun _ => rfl, rfl⟩, ⟨_, rfl, fun _ => rfl, rfl⟩, ⟨_, rfl, fun _ => rfl, rfl⟩, ⟨_, rfl, fun _ => rfl, rfl⟩, ⟨_, rfl, fun _ => rfl, rfl⟩, trivial⟩ ⟨⟨rfl, rfl, rfl, rfl⟩, trivial⟩ fun h s => sub_same s)⟩
    repeat' apply And.intro
    all_goals first | exact True.intro | exact hwr | (unfold rng; omega) | (rw [hsz]; omega) | omega | decide | (unfold rng; decide)
  · conv => whnf
    repeat (first | (refine And.intro ?_ ?_; rotate_left; (focus (intro g; exfalso; first | (simp at g; done) | (simp at g; omega) | (revert g; decide))); intro _; conv => whnf) | (refine And.intro ?_ ?_; (focus (intro g; exfalso; first | (simp at g; done) | (simp at g; omega) | (revert g; decide))); intro _; conv => whnf))
    have hm2 : Int.tmod ((1 : Nat) : Int) 2 = 1 := rfl
    have hq2 : Int.tdiv ((1 : Nat) : Int) 2 = 0 := rfl
    rw [hm2, hq2, hd]
    refine ⟨?_, CallAt.fn (pre := [inH W H b c g]) (post := OkQ W H b c l (Rs (1 + 1)) g (o 1)) _ (fun h s => s) (fun R' hR' => (by
      have := ih 1 (by omega) R' (fun w s => (hR' w s).rest) g
      simp only [qx, qy] at this
      rw [show x + 1 * h = (x + h) from by omega, show y + 0 * h = y from by omega]
      exact this)) ?_⟩
    · repeat' apply And.intro
      all_goals first | exact True.intro | exact hwr | (unfold rng; omega) | (rw [hsz]; omega) | omega | decide | (unfold rng; decide)
    rintro r hs ⟨rfl, g', hg', rfl⟩
    conv => whnf
    refine ⟨?_, .mk ⟨1 + 1, false, 0, g'⟩ ⟨⟨rfl, by simp only; omega⟩, hnx g' hg'⟩ (by simp only; omega) (leq_of (Nat.le_of_ble_eq_true rfl) (Nat.zero_le _) ⟨⟨_, rfl, fun _ => rfl, rfl⟩, ⟨_, rfl, fun _ => rfl, rfl⟩, ⟨_, rfl, fun _ => rfl, rfl⟩, ⟨_, rfl, fun _ => rfl, rfl⟩, ⟨_, rfl, fun _ => rfl, rfl⟩, ⟨_, rfl, fun _ => rfl, rfl⟩, ⟨_, rfl, fun _ => rfl, rfl⟩, ⟨_, rfl, fun _ => rfl, rfl⟩, trivial⟩ ⟨⟨rfl, rfl, rfl, rfl⟩, trivial⟩ fun h s => sub_same s)⟩
    repeat' apply And.intro
    all_goals first | exact True.intro | exact hwr | (unfold rng; omega) | (rw [hsz]; omega) | omega | decide | (unfold rng; decide)
  · conv => whnf
    repeat (first | (refine And.intro ?_ ?_; rotate_left; (focus (intro g; exfalso; first | (simp at g; done) | (simp at g; omega) | (revert g; decide))); intro _; conv => whnf) | (refine And.intro ?_ ?_; (focus (intro g; exfalso; first | (simp at g; done) | (simp at g; omega) | (revert g; decide))); intro _; conv => whnf))
    have hm2 : Int.tmod ((2 : Nat) : Int) 2 = 0 := rfl
    have hq2 : Int.tdiv ((2 : Nat) : Int) 2 = 1 := rfl
    rw [hm2, hq2, hd]
    refine ⟨?_, CallAt.fn (pre := [inH W H b c g]) (post := OkQ W H b c l (Rs (2 + 1)) g (o 2)) _ (fun h s => s) (fun R' hR' => (by
      have := ih 2 (by omega) R' (fun w s => (hR' w s).rest) g
      simp only [qx, qy] at this
      rw [show x + 0 * h = x from by omega, show y + 1 * h = (y + h) from by omega]
      exact this)) ?_⟩
    · repeat' apply And.intro
      all_goals first | exact True.intro | exact hwr | (unfold rng; omega) | (rw [hsz]; omega) | omega | decide | (unfold rng; decide)
    rintro r hs ⟨rfl, g', hg', rfl⟩
    conv => whnf
    refine ⟨?_, .mk ⟨2 + 1, false, 0, g'⟩ ⟨⟨rfl, by simp only; omega⟩, hnx g' hg'⟩ (by simp only; omega) (leq_of (Nat.le_of_ble_eq_true rfl) (Nat.zero_le _) ⟨⟨_, rfl, fun _ => rfl, rfl⟩, ⟨_, rfl, fun _ => rfl, rfl⟩, ⟨_, rfl, fun _ => rfl, rfl⟩, ⟨_, rfl, fun _ => rfl, rfl⟩, ⟨_, rfl, fun _ => rfl, rfl⟩, ⟨_, rfl, fun _ => rfl, rfl⟩, ⟨_, rfl, fun _ => rfl, rfl⟩, ⟨_, rfl, fun _ => rfl, rfl⟩, trivial⟩ ⟨⟨rfl, rfl, rfl, rfl⟩, trivial⟩ fun h s => sub_same s)⟩
    repeat' apply And.intro
    all_goals first | exact True.intro | exact hwr | (unfold rng; omega) | (rw [hsz]; omega) | omega | decide | (unfold rng; decide)
  · conv => whnf
    repeat (first | (refine And.intro ?_ ?_; rotate_left; (focus (intro g; exfalso; first | (simp at g; done) | (simp at g; omega) | (revert g; decide))); intro _; conv => whnf) | (refine And.intro ?_ ?_; (focus (intro g; exfalso; first | (simp at g; done) | (simp at g; omega) | (revert g; decide))); intro _; conv => whnf))
    have hm2 : Int.tmod ((3 : Nat) : Int) 2 = 1 := rfl
    have hq2 : Int.tdiv ((3 : Nat) : Int) 2 = 1 := rfl
    rw [hm2, hq2, hd]
    refine ⟨?_, CallAt.fn (pre := [inH W H b c g]) (post := OkQ W H b c l (Rs (3 + 1)) g (o 3)) _ (fun h s => s) (fun R' hR' => (by
      have := ih 3 (by omega) R' (fun w s => (hR' w s).rest) g
      simp only [qx, qy] at this
      rw [show x + 1 * h = (x + h) from by omega, show y + 1 * h = (y + h) from by omega]
      exact this)) ?_⟩
    · repeat' apply And.intro
      all_goals first | exact True.intro | exact hwr | (unfold rng; omega) | (rw [hsz]; omega) | omega | decide | (unfold rng; decide)
    rintro r hs ⟨rfl, g', hg', rfl⟩
    conv => whnf
    refine ⟨?_, .mk ⟨3 + 1, false, 0, g'⟩ ⟨⟨rfl, by simp only; omega⟩, hnx g' hg'⟩ (by simp only; omega) (leq_of (Nat.le_of_ble_eq_true rfl) (Nat.zero_le _) ⟨⟨_, rfl, fun _ => rfl, rfl⟩, ⟨_, rfl, fun _ => rfl, rfl⟩, ⟨_, rfl, fun _ => rfl, rfl⟩, ⟨_, rfl, fun _ => rfl, rfl⟩, ⟨_, rfl, fun _ => rfl, rfl⟩, ⟨_, rfl, fun _ => rfl, rfl⟩, ⟨_, rfl, fun _ => rfl, rfl⟩, ⟨_, rfl, fun _ => rfl, rfl⟩, trivial⟩ ⟨⟨rfl, rfl, rfl, rfl⟩, trivial⟩ fun h s => sub_same s)⟩
    repeat' apply And.intro
    all_goals first | exact True.intro | exact hwr | (unfold rng; omega) | (rw [hsz]; omega) | omega | decide | (unfold rng; decide)
  · conv => whnf
    repeat (first | (refine And.intro ?_ ?_; rotate_left; (focus (intro g; exfalso; first | (simp at g; done) | (simp at g; omega) | (revert g; decide))); intro _; conv => whnf) | (refine And.intro ?_ ?_; (focus (intro g; exfalso; first | (simp at g; done) | (simp at g; omega) | (revert g; decide))); intro _; conv => whnf))
    refine ⟨trivial, .mk _ (fun w s => s) ⟨rfl, g, fun u v hu hv => ?_, rfl⟩⟩
    rw [hg u v hu hv]
    simp only [accF, Bool.or_assoc]
theorem rNodeStepNo {j : Nat} (hj : j < 4) (hk : k < l.length) (hl : l.length ≤ 1048576) (h43 : l[k].toNat = 43) (hs : s = h + h) (h0 : 1 ≤ h ∧ h ≤ 2048) (hx : 0 ≤ x ∧ x ≤ 4096) (hy : 0 ≤ y ∧ y ≤ 4096) (hat : At2 l (Rs 0) = k + 1)
    (ih : ∀ i, i < j → ∀ R' : HP, (∀ w, Sat R' w → Sat R w) → ∀ g, FnR Tryz.prog R' 42 [setB0 W H b c, .string (bs l), .int .i64 (At2 l (Rs i) : Int), .int .i64 (qx x h i), .int .i64 (qy y h i), .int .i64 h] [inH W H b c g] (OkQ W H b c l (Rs (i + 1)) g (o i)))
    (hno : ∀ R' : HP, (∀ w, Sat R' w → Sat R w) → ∀ g, FnR Tryz.prog R' 42 [setB0 W H b c, .string (bs l), .int .i64 (At2 l (Rs j) : Int), .int .i64 (qx x h j), .int .i64 (qy y h j), .int .i64 h] [inH W H b c g] (NoQ W H b c)) :
    FnR Tryz.prog R 42 [setB0 W H b c, .string (bs l), .int .i64 (k : Int), .int .i64 x, .int .i64 y, .int .i64 s] [inH W H b c f] (NoQ W H b c) := by
  have hsz : (bs l).size = l.length := bs_size l
  have hb := byteV hk
  have hd := tdiv_half hs (by omega)
  have hwr : IntKind.i64.wrap h = h := by
    simp [IntKind.wrap, IntKind.bits, IntKind.signed]
    omega
  have hat0 : (At2 l (Rs 0) : Int) = (k : Int) + 1 := by rw [hat]; omega
  refine fn_of_run0 true Tryz.func42 rfl hmix rfl fun w0 => ?_
  conv => whnf
  refine iff_f (decide_eq_false (by rw [hsz]; omega)) ?_
  conv => whnf
  repeat (first | (refine And.intro ?_ ?_; rotate_left; (focus (intro g; exfalso; first | (simp at g; done) | (simp at g; omega) | (revert g; decide))); intro _; conv => whnf) | (refine And.intro ?_ ?_; (focus (intro g; exfalso; first | (simp at g; done) | (simp at g; omega) | (revert g; decide))); intro _; conv => whnf))
  refine ⟨?_, LoopAt.of (α := NrS) [1, 3, 4, 5, 6] (fun a => [(2, .v (.int .i64 (bif a.bad then a.e else (At2 l (Rs a.i) : Int)))), (16, .v (.bool (!a.bad))), (17, .v (.int .i64 (a.i : Int)))]) (fun _ => [(0, 37, [.v (.int .i64 W), .v (.int .i64 H), .v (.slice (some ⟨b, 0, none⟩) (W * H) c)])]) (fun a => [inH W H b c a.g]) (fun a => a.i ≤ 4 ∧ (a.bad = false → a.i ≤ j)) (fun a => 5 - a.i) ⟨0, false, 0, f⟩ ⟨Nat.zero_le _, fun _ => Nat.zero_le _⟩
    (leq_of (Nat.le_of_ble_eq_true rfl) (Nat.zero_le _) ⟨⟨_, rfl, fun _ => by rw [← hat0]; rfl, rfl⟩, ⟨_, rfl, fun _ => rfl, rfl⟩, ⟨_, rfl, fun _ => rfl, rfl⟩, ⟨_, rfl, fun _ => rfl, rfl⟩, ⟨_, rfl, fun _ => rfl, rfl⟩, ⟨_, rfl, fun _ => rfl, rfl⟩, ⟨_, rfl, fun _ => rfl, rfl⟩, ⟨_, rfl, fun _ => rfl, rfl⟩, trivial⟩ ⟨⟨rfl, rfl, rfl, rfl⟩, trivial⟩ fun h s => sub_same s) ?_⟩
  · repeat' apply And.intro
    all_goals first | exact True.intro | exact hwr | (unfold rng; omega) | (rw [hsz]; omega) | omega | decide | (unfold rng; decide)
  rintro ⟨i, bad, e, g⟩ ⟨hi, hbad⟩
  simp only at hbad hi
  cases bad with
  | false =>
    have hbad := hbad rfl
    dsimp only
    rcases (show i = 0 ∨ i = 1 ∨ i = 2 ∨ i = 3 by omega) with rfl | rfl | rfl | rfl
    · conv => whnf
      repeat (first | (refine And.intro ?_ ?_; rotate_left; (focus (intro g; exfalso; first | (simp at g; done) | (simp at g; omega) | (revert g; decide))); intro _; conv => whnf) | (refine And.intro ?_ ?_; (focus (intro g; exfalso; first | (simp at g; done) | (simp at g; omega) | (revert g; decide))); intro _; conv => whnf))
      have hm2 : Int.tmod ((0 : Nat) : Int) 2 = 0 := rfl
      have hq2 : Int.tdiv ((0 : Nat) : Int) 2 = 0 := rfl
      rw [hm2, hq2, hd]
      by_cases hij : j = 0
      · subst hij
        refine ⟨?_, CallAt.fn (pre := [inH W H b c g]) (post := NoQ W H b c) _ (fun h s => s) (fun R' hR' => (by
          have := hno R' (fun w s => (hR' w s).rest) g
          simp only [qx, qy] at this
          rw [show x + 0 * h = x from by omega, show y + 0 * h = y from by omega]
          exact this)) ?_⟩
        · repeat' apply And.intro
          all_goals first | exact True.intro | exact hwr | (unfold rng; omega) | (rw [hsz]; omega) | omega | decide | (unfold rng; decide)
        rintro r hs ⟨e', g', rfl, rfl⟩
        conv => whnf
        refine ⟨?_, .mk ⟨0 + 1, true, e', g'⟩ ⟨by simp only; omega, fun h => (by cases h)⟩ (by simp only; omega) (leq_of (Nat.le_of_ble_eq_true rfl) (Nat.zero_le _) ⟨⟨_, rfl, fun _ => rfl, rfl⟩, ⟨_, rfl, fun _ => rfl, rfl⟩, ⟨_, rfl, fun _ => rfl, rfl⟩, ⟨_, rfl, fun _ => rfl, rfl⟩, ⟨_, rfl, fun _ => rfl, rfl⟩, ⟨_, rfl, fun _ => rfl, rfl⟩, ⟨_, rfl, fun _ => rfl, rfl⟩, ⟨_, rfl, fun _ => rfl, rfl⟩, trivial⟩ ⟨⟨rfl, rfl, rfl, rfl⟩, trivial⟩ fun h s => sub_same s)⟩
        repeat' apply And.intro
        all_goals first | exact True.intro | exact hwr | (unfold rng; omega) | (rw [hsz]; omega) | omega | decide | (unfold rng; decide)
      · refine ⟨?_, CallAt.fn (pre := [inH W H b c g]) (post := OkQ W H b c l (Rs (0 + 1)) g (o 0)) _ (fun h s => s) (fun R' hR' => (by
          have := ih 0 (by omega) R' (fun w s => (hR' w s).rest) g
          simp only [qx, qy] at this
          rw [show x + 0 * h = x from by omega, show y + 0 * h = y from by omega]
          exact this)) ?_⟩
        · repeat' apply And.intro
          all_goals first | exact True.intro | exact hwr | (unfold rng; omega) | (rw [hsz]; omega) | omega | decide | (unfold rng; decide)
        rintro r hs ⟨rfl, g', hg', rfl⟩
        conv => whnf
        refine ⟨?_, .mk ⟨0 + 1, false, 0, g'⟩ ⟨by simp only; omega, fun _ => by simp only; omega⟩ (by simp only; omega) (leq_of (Nat.le_of_ble_eq_true rfl) (Nat.zero_le _) ⟨⟨_, rfl, fun _ => rfl, rfl⟩, ⟨_, rfl, fun _ => rfl, rfl⟩, ⟨_, rfl, fun _ => rfl, rfl⟩, ⟨_, rfl, fun _ => rfl, rfl⟩, ⟨_, rfl, fun _ => rfl, rfl⟩, ⟨_, rfl, fun _ => rfl, rfl⟩, ⟨_, rfl, fun _ => rfl, rfl⟩, ⟨_, rfl, fun _ => rfl, rfl⟩, trivial⟩ ⟨⟨rfl, rfl, rfl, rfl⟩, trivial⟩ fun h s => sub_same s)⟩
        repeat' apply And.intro
        all_goals first | exact True.intro | exact hwr | (unfold rng; omega) | (rw [hsz]; omega) | omega | decide | (unfold rng; decide)
    · conv => whnf
      repeat (first | (refine And.intro ?_ ?_; rotate_left; (focus (intro g; exfalso; first | (simp at g; done) | (simp at g; omega) | (revert g; decide))); intro _; conv => whnf) | (refine And.intro ?_ ?_; (focus (intro g; exfalso; first | (simp at g; done) | (simp at g; omega) | (revert g; decide))); intro _; conv => whnf))
      have hm2 : Int.tmod ((1 : Nat) : Int) 2 = 1 := rfl
      have hq2 : Int.tdiv ((1 : Nat) : Int) 2 = 0 := rfl
      rw [hm2, hq2, hd]
      by_cases hij : j = 1
      · subst hij
        refine ⟨?_, CallAt.fn (pre := [inH W H b c g]) (post := NoQ W H b c) _ (fun h s => s) (fun R' hR' => (by
          have := hno R' (fun w s => (hR' w s).rest) g
          simp only [qx, qy] at this
          rw [show x + 1 * h = (x + h) from by omega, show y + 0 * h = y from by omega]
          exact this)) ?_⟩
        · repeat' apply And.intro
          all_goals first | exact True.intro | exact hwr | (unfold rng; omega) | (rw [hsz]; omega) | omega | decide | (unfold rng; decide)
        rintro r hs ⟨e', g', rfl, rfl⟩
        conv => whnf
        refine ⟨?_, .mk ⟨1 + 1, true, e', g'⟩ ⟨by simp only; omega, fun h => (by cases h)⟩ (by simp only; omega) (leq_of (Nat.le_of_ble_eq_true rfl) (Nat.zero_le _) ⟨⟨_, rfl, fun _ => rfl, rfl⟩, ⟨_, rfl, fun _ => rfl, rfl⟩, ⟨_, rfl, fun _ => rfl, rfl⟩, ⟨_, rfl, fun _ => rfl, rfl⟩, ⟨_, rfl, fun _ => rfl, rfl⟩, ⟨_, rfl, fun _ => rfl, rfl⟩, ⟨_, rfl, fun _ => rfl, rfl⟩, ⟨_, rfl, fun _ => rfl, rfl⟩, trivial⟩ ⟨⟨rfl, rfl, rfl, rfl⟩, trivial⟩ fun h s => sub_same s)⟩
        repeat' apply And.intro
        all_goals first | exact True.intro | exact hwr | (unfold rng; omega) | (rw [hsz]; omega) | omega | decide | (unfold rng; decide)
      · refine ⟨?_, CallAt.fn (pre := [inH W H b c g]) (post := OkQ W H b c l (Rs (1 + 1)) g (o 1)) _ (fun h s => s) (fun R' hR' => (by
          have := ih 1 (by omega) R' (fun w s => (hR' w s).rest) g
          simp only [qx, qy] at this
          rw [show x + 1 * h = (x + h) from by omega, show y + 0 * h = y from by omega]
          exact this)) ?_⟩
        · repeat' apply And.intro
          all_goals first | exact True.intro | exact hwr | (unfold rng; omega) | (rw [hsz]; omega) | omega | decide | (unfold rng; decide)
        rintro r hs ⟨rfl, g', hg', rfl⟩
        conv => whnf
        refine ⟨?_, .mk ⟨1 + 1, false, 0, g'⟩ ⟨by simp only; omega, fun _ => by simp only; omega⟩ (by simp only; omega) (leq_of (Nat.le_of_ble_eq_true rfl) (Nat.zero_le _) ⟨⟨_, rfl, fun _ => rfl, rfl⟩, ⟨_, rfl, fun _ => rfl, rfl⟩, ⟨_, rfl, fun _ => rfl, rfl⟩, ⟨_, rfl, fun _ => rfl, rfl⟩, ⟨_, rfl, fun _ => rfl, rfl⟩, ⟨_, rfl, fun _ => rfl, rfl⟩, ⟨_, rfl, fun _ => rfl, rfl⟩, ⟨_, rfl, fun _ => rfl, rfl⟩, trivial⟩ ⟨⟨rfl, rfl, rfl, rfl⟩, trivial⟩ fun h s => sub_same s)⟩
        repeat' apply And.intro
        all_goals first | exact True.intro | exact hwr | (unfold rng; omega) | (rw [hsz]; omega) | omega | decide | (unfold rng; decide)
    · conv => whnf
      repeat (first | (refine And.intro ?_ ?_; rotate_left; (focus (intro g; exfalso; first | (simp at g; done) | (simp at g; omega) | (revert g; decide))); intro _; conv => whnf) | (refine And.intro ?_ ?_; (focus (intro g; exfalso; first | (simp at g; done) | (simp at g; omega) | (revert g; decide))); intro _; conv => whnf))
      have hm2 : Int.tmod ((2 : Nat) : Int) 2 = 0 := rfl
      have hq2 : Int.tdiv ((2 : Nat) : Int) 2 = 1 := rfl
      rw [hm2, hq2, hd]
      by_cases hij : j = 2
      · subst hij
        refine ⟨?_, CallAt.fn (pre := [inH W H b c g]) (post := NoQ W H b c) _ (fun h s => s) (fun R' hR' => (by
          have := hno R' (fun w s => (hR' w s).rest) g
          simp only [qx, qy] at this
          rw [show x + 0 * h = x from by omega, show y + 1 * h = (y + h) from by omega]
          exact this)) ?_⟩
        · repeat' apply And.intro
          all_goals first | exact True.intro | exact hwr | (unfold rng; omega) | (rw [hsz]; omega) | omega | decide | (unfold rng; decide)
        rintro r hs ⟨e', g', rfl, rfl⟩
        conv => whnf
        refine ⟨?_, .mk ⟨2 + 1, true, e', g'⟩ ⟨by simp only; omega, fun h => (by cases h)⟩ (by simp only; omega) (leq_of (Nat.le_of_ble_eq_true rfl) (Nat.zero_le _) ⟨⟨_, rfl, fun _ => rfl, rfl⟩, ⟨_, rfl, fun _ => rfl, rfl⟩, ⟨_, rfl, fun _ => rfl, rfl⟩, ⟨_, rfl, fun _ => rfl, rfl⟩, ⟨_, rfl, fun _ => rfl, rfl⟩, ⟨_, rfl, fun _ => rfl, rfl⟩, ⟨_, rfl, fun _ => rfl, rfl⟩, ⟨_, rfl, fun _ => rfl, rfl⟩, trivial⟩ ⟨⟨rfl, rfl, rfl, rfl⟩, trivial⟩ fun h s => sub_same s)⟩
        repeat' apply And.intro
        all_goals first | exact True.intro | exact hwr | (unfold rng; omega) | (rw [hsz]; omega) | omega | decide | (unfold rng; decide)
      · refine ⟨?_, CallAt.fn (pre := [inH W H b c g]) (post := OkQ W H b c l (Rs (2 + 1)) g (o 2)) _ (fun h s => s) (fun R' hR' => (by
          have := ih 2 (by omega) R' (fun w s => (hR' w s).rest) g
          simp only [qx, qy] at this
          rw [show x + 0 * h = x from by omega, show y + 1 * h = (y + h) from by omega]
          exact this)) ?_⟩
        · repeat' apply And.intro
          all_goals first | exact True.intro | exact hwr | (unfold rng; omega) | (rw [hsz]; omega) | omega | decide | (unfold rng; decide)
        rintro r hs ⟨rfl, g', hg', rfl⟩
        conv => whnf
        refine ⟨?_, .mk ⟨2 + 1, false, 0, g'⟩ ⟨by simp only; omega, fun _ => by simp only; omega⟩ (by simp only; omega) (leq_of (Nat.le_of_ble_eq_true rfl) (Nat.zero_le _) ⟨⟨_, rfl, fun _ => rfl, rfl⟩, ⟨_, rfl, fun _ => rfl, rfl⟩, ⟨_, rfl, fun _ => rfl, rfl⟩, ⟨_, rfl, fun _ => rfl, rfl⟩, ⟨_, rfl, fun _ => rfl, rfl⟩, ⟨_, rfl, fun _ => rfl, rfl⟩, ⟨_, rfl, fun _ => rfl, rfl⟩, ⟨_, rfl, fun _ => rfl, rfl⟩, trivial⟩ ⟨⟨rfl, rfl, rfl, rfl⟩, trivial⟩ fun h s => sub_same s)⟩
        repeat' apply And.intro
        all_goals first | exact True.intro | exact hwr | (unfold rng; omega) | (rw [hsz]; omega) | omega | decide | (unfold rng; decide)
    · conv => whnf
      repeat (first | (refine And.intro ?_ ?_; rotate_left; (focus (intro g; exfalso; first | (simp at g; done) | (simp at g; omega) | (revert g; decide))); intro _; conv => whnf) | (refine And.intro ?_ ?_; (focus (intro g; exfalso; first | (simp at g; done) | (simp at g; omega) | (revert g; decide))); intro _; conv => whnf))
      have hm2 : Int.tmod ((3 : Nat) : Int) 2 = 1 := rfl
      have hq2 : Int.tdiv ((3 : Nat) : Int) 2 = 1 := rfl
      rw [hm2, hq2, hd]
      by_cases hij : j = 3
      · subst hij
        refine ⟨?_, CallAt.fn (pre := [inH W H b c g]) (post := NoQ W H b c) _ (fun h s => s) (fun R' hR' => (by
          have := hno R' (fun w s => (hR' w s).rest) g
          simp only [qx, qy] at this
          rw [show x + 1 * h = (x + h) from by omega, show y + 1 * h = (y + h) from by omega]
          exact this)) ?_⟩
        · repeat' apply And.intro
          all_goals first | exact True.intro | exact hwr | (unfold rng; omega) | (rw [hsz]; omega) | omega | decide | (unfold rng; decide)
        rintro r hs ⟨e', g', rfl, rfl⟩
        conv => whnf
        refine ⟨?_, .mk ⟨3 + 1, true, e', g'⟩ ⟨by simp only; omega, fun h => (by cases h)⟩ (by simp only; omega) (leq_of (Nat.le_of_ble_eq_true rfl) (Nat.zero_le _) ⟨⟨_, rfl, fun _ => rfl, rfl⟩, ⟨_, rfl, fun _ => rfl, rfl⟩, ⟨_, rfl, fun _ => rfl, rfl⟩, ⟨_, rfl, fun _ => rfl, rfl⟩, ⟨_, rfl, fun _ => rfl, rfl⟩, ⟨_, rfl, fun _ => rfl, rfl⟩, ⟨_, rfl, fun _ => rfl, rfl⟩, ⟨_, rfl, fun _ => rfl, rfl⟩, trivial⟩ ⟨⟨rfl, rfl, rfl, rfl⟩, trivial⟩ fun h s => sub_same s)⟩
        repeat' apply And.intro
        all_goals first | exact True.intro | exact hwr | (unfold rng; omega) | (rw [hsz]; omega) | omega | decide | (unfold rng; decide)
      · refine ⟨?_, CallAt.fn (pre := [inH W H b c g]) (post := OkQ W H b c l (Rs (3 + 1)) g (o 3)) _ (fun h s => s) (fun R' hR' => (by
          have := ih 3 (by omega) R' (fun w s => (hR' w s).rest) g
          simp only [qx, qy] at this
          rw [show x + 1 * h = (x + h) from by omega, show y + 1 * h = (y + h) from by omega]
          exact this)) ?_⟩
        · repeat' apply And.intro
          all_goals first | exact True.intro | exact hwr | (unfold rng; omega) | (rw [hsz]; omega) | omega | decide | (unfold rng; decide)
        rintro r hs ⟨rfl, g', hg', rfl⟩
        conv => whnf
        refine ⟨?_, .mk ⟨3 + 1, false, 0, g'⟩ ⟨by simp only; omega, fun _ => by simp only; omega⟩ (by simp only; omega) (leq_of (Nat.le_of_ble_eq_true rfl) (Nat.zero_le _) ⟨⟨_, rfl, fun _ => rfl, rfl⟩, ⟨_, rfl, fun _ => rfl, rfl⟩, ⟨_, rfl, fun _ => rfl, rfl⟩, ⟨_, rfl, fun _ => rfl, rfl⟩, ⟨_, rfl, fun _ => rfl, rfl⟩, ⟨_, rfl, fun _ => rfl, rfl⟩, ⟨_, rfl, fun _ => rfl, rfl⟩, ⟨_, rfl, fun _ => rfl, rfl⟩, trivial⟩ ⟨⟨rfl, rfl, rfl, rfl⟩, trivial⟩ fun h s => sub_same s)⟩
        repeat' apply And.intro
        all_goals first | exact True.intro | exact hwr | (unfold rng; omega) | (rw [hsz]; omega) | omega | decide | (unfold rng; decide)
  | true =>
    dsimp only
    by_cases hi4 : i < 4
    · conv => whnf
      repeat (first | (refine And.intro ?_ ?_; rotate_left; (focus (intro g; exfalso; first | (simp at g; done) | (simp at g; omega) | (revert g; decide))); intro _; conv => whnf) | (refine And.intro ?_ ?_; (focus (intro g; exfalso; first | (simp at g; done) | (simp at g; omega) | (revert g; decide))); intro _; conv => whnf))
      exact ⟨trivial, .mk _ (fun w s => s) ⟨e, g, rfl, rfl⟩⟩
    · conv => whnf
      repeat (first | (refine And.intro ?_ ?_; rotate_left; (focus (intro g; exfalso; first | (simp at g; done) | (simp at g; omega) | (revert g; decide))); intro _; conv => whnf) | (refine And.intro ?_ ?_; (focus (intro g; exfalso; first | (simp at g; done) | (simp at g; omega) | (revert g; decide))); intro _; conv => whnf))
      exact ⟨trivial, .mk _ (fun w s => s) ⟨e, g, rfl, rfl⟩⟩
end
end Go.Proofs.YtojlgfkjnkjcmaaGreatDoor

/-
  The document's reader of trees: any text; Read.
-/
namespace Go.Proofs.YtojlgfkjnkjcmaaGreatDoor
open Go.RowKit
open Sy
set_option linter.unusedVariables false
set_option linter.unusedSimpArgs false
set_option maxRecDepth 100000
set_option maxHeartbeats 4000000

theorem sgn_head {l : List UInt8} {k c : Nat} {q : List Nat} (h : sgnQ (l.drop k) = c :: q) : ∃ hk : k < l.length, l[k].toNat = c ∧ q = sgnQ (l.drop (k + 1)) := by
  have hk : k < l.length := by
    rcases Nat.lt_or_ge k l.length with a | a
    · exact a
    · rw [List.drop_eq_nil_of_le a] at h; cases h
  rw [List.drop_eq_getElem_cons hk] at h
  injection h with h1 h2
  exact ⟨hk, h1, h2.symm⟩
theorem sgn_nil {l : List UInt8} {k : Nat} (h : sgnQ (l.drop k) = []) : l.length ≤ k := by
  have := congrArg List.length h
  simp [sgnQ] at this
  omega
theorem at2_drop {l : List UInt8} {k : Nat} (hk : k ≤ l.length) : At2 l (sgnQ (l.drop k)) = k := by
  unfold At2 sgnQ
  rw [List.length_map, List.length_drop]
  omega
theorem suf2 {l : List UInt8} {k n : Nat} {t : QT} {r : List Nat} (hk : k ≤ l.length) (h : parseQ n (sgnQ (l.drop k)) = some (t, r)) : r = sgnQ (l.drop (At2 l r)) ∧ At2 l r ≤ l.length := by
  have e := (parse_sound n _ t r h).2
  have hlen := congrArg List.length e
  have hd := congrArg (List.drop (printQ t).length) e
  have hl1 : (sgnQ (printQ t)).length = (printQ t).length := List.length_map _
  have hl2 : (sgnQ (l.drop k)).length = l.length - k := by unfold sgnQ; rw [List.length_map, List.length_drop]
  have hr : List.drop (printQ t).length (sgnQ (printQ t) ++ r) = r := by rw [← hl1]; exact List.drop_left
  rw [hr] at hd
  rw [List.length_append, hl1, hl2] at hlen
  have e2 : sgnQ (l.drop (k + (printQ t).length)) = r := by
    rw [← hd]
    unfold sgnQ
    rw [← List.map_drop, List.drop_drop]
  have e3 : k + (printQ t).length = At2 l r := by unfold At2; omega
  rw [e3] at e2
  exact ⟨e2.symm, by unfold At2; omega⟩
section
variable {W H b c : Nat} {l : List UInt8}
def NodeRO (R0 : HP) (W H b c : Nat) (l : List UInt8) (n : Nat) : Prop := ∀ k, k ≤ l.length → ∀ t r, parseQ n (sgnQ (l.drop k)) = some (t, r) → ∀ x y : Int, 0 ≤ x → x + 2 ^ n ≤ 2048 → 0 ≤ y → y + 2 ^ n ≤ 2048 → ∀ R, (∀ w, Sat R w → Sat R0 w) → ∀ g,
  FnR Tryz.prog R 42 [setB0 W H b c, .string (bs l), .int .i64 (k : Int), .int .i64 x, .int .i64 y, .int .i64 (2 ^ n)] [inH W H b c g] (OkQ W H b c l r g (inT n t x y))
def NodeRN (R0 : HP) (W H b c : Nat) (l : List UInt8) (n : Nat) : Prop := ∀ k, k ≤ l.length → parseQ n (sgnQ (l.drop k)) = none → ∀ x y : Int, 0 ≤ x → x + 2 ^ n ≤ 2048 → 0 ≤ y → y + 2 ^ n ≤ 2048 → ∀ R, (∀ w, Sat R w → Sat R0 w) → ∀ g,
  FnR Tryz.prog R 42 [setB0 W H b c, .string (bs l), .int .i64 (k : Int), .int .i64 x, .int .i64 y, .int .i64 (2 ^ n)] [inH W H b c g] (NoQ W H b c)
theorem nodeR_all {R0 : HP} (w2 : W ≤ 1024) (h2 : H ≤ 1024) (hl : l.length ≤ 1048576) : ∀ n, n ≤ 10 → NodeRO R0 W H b c l n ∧ NodeRN R0 W H b c l n := by
  have pt : ∀ n k (hk : k < l.length), l[k].toNat = 46 → ∀ (x y : Int) R g, FnR Tryz.prog R 42 [setB0 W H b c, .string (bs l), .int .i64 (k : Int), .int .i64 x, .int .i64 y, .int .i64 (2 ^ n)] [inH W H b c g] (OkQ W H b c l (sgnQ (l.drop (k + 1))) g (inT n (.leaf false) x y)) := fun n k hk h x y R g => by
    refine (rNodePt (R := R) hk hl h).post ?_
    rintro v hs ⟨rfl, rfl⟩
    refine ⟨_, ⟨by rw [at2_drop (by omega)], g, fun u v _ _ => ?_, rfl⟩, fun h s => s⟩
    unfold inT
    rw [lookQ_leaf, Bool.and_false, Bool.or_false]
  have ins : ∀ n, n ≤ 10 → ∀ k (hk : k < l.length), l[k].toNat = 35 → ∀ (x y : Int), 0 ≤ x → x + 2 ^ n ≤ 2048 → 0 ≤ y → y + 2 ^ n ≤ 2048 → ∀ R g, FnR Tryz.prog R 42 [setB0 W H b c, .string (bs l), .int .i64 (k : Int), .int .i64 x, .int .i64 y, .int .i64 (2 ^ n)] [inH W H b c g] (OkQ W H b c l (sgnQ (l.drop (k + 1))) g (inT n (.leaf true) x y)) := fun n hn k hk h x y x0 x1 y0 y1 R g => by
    have hp := two_pos n
    obtain ⟨X, rfl⟩ : ∃ X : Nat, x = X := ⟨x.toNat, by omega⟩
    obtain ⟨Y, rfl⟩ : ∃ Y : Nat, y = Y := ⟨y.toNat, by omega⟩
    have hc := pow_cast n
    have := rNodeIn (R := R) (c := c) (b := b) (f := g) (X := X) (Y := Y) (S := 2 ^ n) w2 h2 hk hl h (by omega) (by omega) (by omega)
    rw [hc] at this
    refine this.post ?_
    rintro v hs ⟨rfl, rfl⟩
    refine ⟨_, ⟨by rw [at2_drop (by omega)], _, fun u v _ _ => ?_, rfl⟩, fun h s => s⟩
    unfold inT fO
    rw [lookQ_leaf, Bool.and_true]
    congr 1
    unfold InSq
    exact decide_eq_decide.2 (by omega)
  have fin : ∀ n k, k ≤ l.length → sgnQ (l.drop k) = [] → ∀ (x y : Int) R g, FnR Tryz.prog R 42 [setB0 W H b c, .string (bs l), .int .i64 (k : Int), .int .i64 x, .int .i64 y, .int .i64 (2 ^ n)] [inH W H b c g] (NoQ W H b c) := fun n k hk h x y R g => by
    refine (rNodeEnd (R := R) (sgn_nil h) hl).post ?_
    rintro v hs ⟨rfl, rfl⟩
    exact ⟨_, ⟨_, g, rfl, rfl⟩, fun h s => s⟩
  have bad : ∀ n k (hk : k < l.length), l[k].toNat ≠ 46 → l[k].toNat ≠ 35 → (l[k].toNat ≠ 43 ∨ n = 0) → ∀ (x y : Int) R g, FnR Tryz.prog R 42 [setB0 W H b c, .string (bs l), .int .i64 (k : Int), .int .i64 x, .int .i64 y, .int .i64 (2 ^ n)] [inH W H b c g] (NoQ W H b c) := fun n k hk h1 h2 h3 x y R g => by
    refine (rNodeBad (R := R) hk hl h1 h2 (h3.imp_right fun e => by rw [e]; rfl)).post ?_
    rintro v hs ⟨rfl, rfl⟩
    exact ⟨_, ⟨_, g, rfl, rfl⟩, fun h s => s⟩
  have leafs : ∀ n, n ≤ 10 → ∀ k, k ≤ l.length → ∀ (x y : Int), 0 ≤ x → x + 2 ^ n ≤ 2048 → 0 ≤ y → y + 2 ^ n ≤ 2048 → ∀ R g,
      (∃ m r, n = m + 1 ∧ sgnQ (l.drop k) = 43 :: r ∧ parseQ n (sgnQ (l.drop k)) = kids4 (parseQ m) r) ∨
      ((∀ t r, parseQ n (sgnQ (l.drop k)) = some (t, r) → FnR Tryz.prog R 42 [setB0 W H b c, .string (bs l), .int .i64 (k : Int), .int .i64 x, .int .i64 y, .int .i64 (2 ^ n)] [inH W H b c g] (OkQ W H b c l r g (inT n t x y))) ∧
       (parseQ n (sgnQ (l.drop k)) = none → FnR Tryz.prog R 42 [setB0 W H b c, .string (bs l), .int .i64 (k : Int), .int .i64 x, .int .i64 y, .int .i64 (2 ^ n)] [inH W H b c g] (NoQ W H b c))) := by
    intro n hn k hk x y x0 x1 y0 y1 R g
    rcases parse_cases n (sgnQ (l.drop k)) with ⟨e1, e⟩ | ⟨q, e1, e⟩ | ⟨q, e1, e⟩ | ⟨ch, q, e1, h46, h35, h43, e⟩ | h
    · exact .inr ⟨fun t r h => (by rw [e] at h; cases h), fun _ => fin n k hk e1 x y R g⟩
    · obtain ⟨hk', hc, rfl⟩ := sgn_head e1
      exact .inr ⟨fun t r h => (by rw [e] at h; cases h; exact pt n k hk' hc x y R g), fun h => by rw [e] at h; cases h⟩
    · obtain ⟨hk', hc, rfl⟩ := sgn_head e1
      exact .inr ⟨fun t r h => (by rw [e] at h; cases h; exact ins n hn k hk' hc x y x0 x1 y0 y1 R g), fun h => by rw [e] at h; cases h⟩
    · obtain ⟨hk', hc, rfl⟩ := sgn_head e1
      exact .inr ⟨fun t r h => (by rw [e] at h; cases h), fun _ => bad n k hk' (by omega) (by omega) (h43.imp_left fun z => by omega) x y R g⟩
    · exact .inl h
  intro n
  induction n with
  | zero =>
    intro hn
    constructor
    · intro k hk t r hp x y x0 x1 y0 y1 R hR g
      rcases leafs 0 hn k hk x y x0 x1 y0 y1 R g with ⟨m, r, e, _⟩ | h
      · omega
      · exact h.1 t r hp
    · intro k hk hp x y x0 x1 y0 y1 R hR g
      rcases leafs 0 hn k hk x y x0 x1 y0 y1 R g with ⟨m, r, e, _⟩ | h
      · omega
      · exact h.2 hp
  | succ n ih =>
    intro hn
    obtain ⟨ihOk, ihNo⟩ := ih (by omega)
    have e2 := two_succ n
    have hp0 := two_pos n
    have bnd : ∀ x y : Int, 0 ≤ x → x + 2 ^ (n + 1) ≤ 2048 → 0 ≤ y → y + 2 ^ (n + 1) ≤ 2048 → ∀ i, i < 4 → (0 ≤ qx x (2 ^ n) i ∧ qx x (2 ^ n) i + 2 ^ n ≤ 2048) ∧ (0 ≤ qy y (2 ^ n) i ∧ qy y (2 ^ n) i + 2 ^ n ≤ 2048) := fun x y x0 x1 y0 y1 i hi => by
      rcases (show i = 0 ∨ i = 1 ∨ i = 2 ∨ i = 3 by omega) with rfl | rfl | rfl | rfl <;> simp only [qx, qy] <;> omega
    have sufs : ∀ {Rs : Nat → List Nat} {K : Nat → QT} {j : Nat}, (Rs 0 = sgnQ (l.drop (At2 l (Rs 0))) ∧ At2 l (Rs 0) ≤ l.length) → Chain (parseQ n) Rs K j → ∀ i, i ≤ j → (Rs i = sgnQ (l.drop (At2 l (Rs i))) ∧ At2 l (Rs i) ≤ l.length) := fun h0 hc i => by
      induction i with
      | zero => exact fun _ => h0
      | succ i ih =>
        intro hi
        obtain ⟨a, b⟩ := ih (by omega)
        have := hc i (by omega)
        rw [a] at this
        exact suf2 b this
    constructor
    · intro k hk t r hp x y x0 x1 y0 y1 R hR g
      rcases leafs (n + 1) hn k hk x y x0 x1 y0 y1 R g with ⟨m, q, e, e1, e3⟩ | h
      · obtain rfl : m = n := by omega
        obtain ⟨hk', hc, rfl⟩ := sgn_head e1
        rw [e3] at hp
        obtain ⟨Rs, K, k0, k4, rfl, hch⟩ := kids4_some hp
        have hat : At2 l (Rs 0) = k + 1 := by rw [k0, at2_drop (by omega)]
        have hsf := sufs ⟨by rw [hat, k0], by omega⟩ hch
        refine (rNodeStep (R := R) (Rs := Rs) (o := fun i => inT m (K i) (qx x (2 ^ m) i) (qy y (2 ^ m) i)) hk' hl hc e2 (by omega) (by omega) (by omega) hat (fun i hi R' hR' g' => ?_)).post ?_
        · obtain ⟨⟨b1, b2⟩, b3, b4⟩ := bnd x y x0 x1 y0 y1 i hi
          have hpi := hch i hi
          obtain ⟨s1, s2⟩ := hsf i (by omega)
          rw [s1] at hpi
          exact ihOk (At2 l (Rs i)) s2 (K i) (Rs (i + 1)) hpi _ _ b1 b2 b3 b4 R' (fun w s => hR w (hR' w s)) g'
        · rintro v hs ⟨rfl, g', hg', rfl⟩
          rw [k4]
          exact ⟨_, ⟨rfl, g', fun u v hu hv => by rw [hg' u v hu hv, inT_node], rfl⟩, fun h s => s⟩
      · exact h.1 t r hp
    · intro k hk hp x y x0 x1 y0 y1 R hR g
      rcases leafs (n + 1) hn k hk x y x0 x1 y0 y1 R g with ⟨m, q, e, e1, e3⟩ | h
      · obtain rfl : m = n := by omega
        obtain ⟨hk', hc, rfl⟩ := sgn_head e1
        rw [e3] at hp
        obtain ⟨j, Rs, K, hj, k0, hch, hnone⟩ := kids4_none hp
        have hat : At2 l (Rs 0) = k + 1 := by rw [k0, at2_drop (by omega)]
        have hsf := sufs ⟨by rw [hat, k0], by omega⟩ hch
        refine rNodeStepNo (R := R) (Rs := Rs) (o := fun i => inT m (K i) (qx x (2 ^ m) i) (qy y (2 ^ m) i)) hj hk' hl hc e2 (by omega) (by omega) (by omega) hat (fun i hi R' hR' g' => ?_) (fun R' hR' g' => ?_)
        · obtain ⟨⟨b1, b2⟩, b3, b4⟩ := bnd x y x0 x1 y0 y1 i (by omega)
          have hpi := hch i hi
          obtain ⟨s1, s2⟩ := hsf i (by omega)
          rw [s1] at hpi
          exact ihOk (At2 l (Rs i)) s2 (K i) (Rs (i + 1)) hpi _ _ b1 b2 b3 b4 R' (fun w s => hR w (hR' w s)) g'
        · obtain ⟨⟨b1, b2⟩, b3, b4⟩ := bnd x y x0 x1 y0 y1 j hj
          obtain ⟨s1, s2⟩ := hsf j (Nat.le_refl _)
          rw [s1] at hnone
          exact ihNo (At2 l (Rs j)) s2 hnone _ _ b1 b2 b3 b4 R' (fun w s => hR w (hR' w s)) g'
      · exact h.2 hp
end
end Go.Proofs.YtojlgfkjnkjcmaaGreatDoor

/-
  The document's Read of a set of cells.
-/
namespace Go.Proofs.YtojlgfkjnkjcmaaGreatDoor
open Go.RowKit
open Sy
set_option linter.unusedVariables false
set_option linter.unusedSimpArgs false
set_option maxRecDepth 100000
set_option maxHeartbeats 4000000

theorem sideV_none {l : List UInt8} {k : Nat} (hk : k ≤ l.length) (h : sideV l k = none) : ∃ n e q, scan l k = (n, e, q) ∧ (q ≠ 0 ∨ (q = 0 ∧ ∃ i : Nat, e = i ∧ l.length ≤ i) ∨ (q = 0 ∧ ∃ i : Nat, e = i ∧ i < l.length ∧ byteAt (bs l) i ≠ 32)) := by
  unfold sideV at h
  split at h
  · cases h
  rename_i hc
  rcases hx : scan l k with ⟨n, e, q⟩
  rw [hx] at hc
  simp only at hc
  refine ⟨n, e, q, rfl, ?_⟩
  by_cases hq : q = 0
  · subst hq
    obtain ⟨i, rfl, h1, h2, _⟩ := scan_from hk hx
    simp only [Int.toNat_natCast, true_and] at hc
    right
    by_cases h3 : i < l.length
    · exact .inr ⟨rfl, i, rfl, h3, fun c => hc ⟨h3, (at32 h3).1 c⟩⟩
    · exact .inl ⟨rfl, i, rfl, by omega⟩
  · exact .inl hq
theorem side_drop {l : List UInt8} {k j : Nat} {n : Int} (hk : k ≤ l.length) (h : sideV l k = some (n, j)) : l.drop k = Lib.itoa n ++ 32 :: l.drop j ∧ j ≤ l.length ∧ -9223372036854775808 ≤ n ∧ n ≤ 9223372036854775807 := by
  obtain ⟨i, rfl, _, h1, h2, h3, h4, h5, h6⟩ := sideV_some hk h
  refine ⟨?_, by omega, h5, h6⟩
  rw [← h4]
  have e1 : l.drop i = 32 :: l.drop (i + 1) := by
    rw [List.getElem?_eq_getElem h2] at h3
    injection h3 with h3
    rw [List.drop_eq_getElem_cons h2, h3]
  rw [← e1]
  have := List.take_append_drop (i - k) (l.drop k)
  rw [List.drop_drop, show k + (i - k) = i by omega] at this
  exact this.symm
abbrev noSet : Value := .agg #[.int .i64 0, .int .i64 0, .slice none 0 0]
section
variable {R : HP} {l : List UInt8}
theorem rReadA (hl : l.length ≤ 1048576) (h1 : sideV l 0 = none) : PureR Tryz.prog R 18 [.string (bs l)] (.tuple #[noSet, .int .i64 12]) := by
  have hsz : (bs l).size = l.length := bs_size l
  obtain ⟨n, e, q, hx, h⟩ := sideV_none (Nat.zero_le _) h1
  have hsc : ∀ (R' : HP), PureR Tryz.prog R' 16 [.string (bs l), .int .i64 0] (.tuple #[.int .i64 n, .int .i64 e, .int .i64 q]) := fun R' => by
    have := sRefScan (R := R') l hl 0
    rw [(show scan l 0 = _ from hx)] at this
    exact this
  rcases h with h | ⟨rfl, i, rfl, h⟩ | ⟨rfl, i, rfl, h, h'⟩
  · refine fn_of_run0 true Tryz.func18 rfl hmix rfl fun w0 => ?_
    conv => whnf
    refine ⟨trivial, CallAt.pure (fun R' hR' => hsc R') ?_⟩
    conv => whnf
    repeat (first | (refine And.intro ?_ ?_; rotate_left; (focus (intro g; exfalso; first | (simp at g; done) | (simp at g; omega) | (revert g; decide))); intro _; conv => whnf) | (refine And.intro ?_ ?_; (focus (intro g; exfalso; first | (simp at g; done) | (simp at g; omega) | (revert g; decide))); intro _; conv => whnf))
    refine ⟨?_, fin_pure rfl rfl⟩
    repeat' apply And.intro
    all_goals first | exact True.intro | (unfold rng; omega) | (rw [hsz]; omega) | omega | decide
  · refine fn_of_run0 true Tryz.func18 rfl hmix rfl fun w0 => ?_
    conv => whnf
    refine ⟨trivial, CallAt.pure (fun R' hR' => hsc R') ?_⟩
    conv => whnf
    repeat (first | (refine And.intro ?_ ?_; rotate_left; (focus (intro g; exfalso; first | (simp at g; done) | (simp at g; omega) | (revert g; decide))); intro _; conv => whnf) | (refine And.intro ?_ ?_; (focus (intro g; exfalso; first | (simp at g; done) | (simp at g; omega) | (revert g; decide))); intro _; conv => whnf))
    refine ⟨?_, fin_pure rfl rfl⟩
    repeat' apply And.intro
    all_goals first | exact True.intro | (unfold rng; omega) | (rw [hsz]; omega) | omega | decide
  · refine fn_of_run0 true Tryz.func18 rfl hmix rfl fun w0 => ?_
    conv => whnf
    refine ⟨trivial, CallAt.pure (fun R' hR' => hsc R') ?_⟩
    conv => whnf
    repeat (first | (refine And.intro ?_ ?_; rotate_left; (focus (intro g; exfalso; first | (simp at g; done) | (simp at g; omega) | (revert g; decide))); intro _; conv => whnf) | (refine And.intro ?_ ?_; (focus (intro g; exfalso; first | (simp at g; done) | (simp at g; omega) | (revert g; decide))); intro _; conv => whnf))
    refine ⟨?_, fin_pure rfl rfl⟩
    repeat' apply And.intro
    all_goals first | exact True.intro | (unfold rng; omega) | (rw [hsz]; omega) | omega | decide
theorem rReadB (hl : l.length ≤ 1048576) {W : Int} {k1 : Nat} (h1 : sideV l 0 = some (W, k1)) (h2 : sideV l k1 = none) : PureR Tryz.prog R 18 [.string (bs l)] (.tuple #[noSet, .int .i64 12]) := by
  have hsz : (bs l).size = l.length := bs_size l
  obtain ⟨j, rfl, hx1, _, hj, h32, _⟩ := sideV_some (Nat.zero_le _) h1
  have hb1 := (at32 hj).2 h32
  have hx1 : scan l 0 = (W, (j : Int), 0) := hx1
  have hsc : ∀ (R' : HP), PureR Tryz.prog R' 16 [.string (bs l), .int .i64 0] (.tuple #[.int .i64 W, .int .i64 (j : Int), .int .i64 0]) := fun R' => by
    have := sRefScan (R := R') l hl 0
    rw [hx1] at this
    exact this
  obtain ⟨n, e, q, hx, h⟩ := sideV_none (by omega) h2
  have hx : scan l ((j : Int) + 1) = (n, e, q) := by rw [← hx]; rfl
  have hsc2 : ∀ (R' : HP), PureR Tryz.prog R' 16 [.string (bs l), .int .i64 ((j : Int) + 1)] (.tuple #[.int .i64 n, .int .i64 e, .int .i64 q]) := fun R' => by
    have := sRefScan (R := R') l hl ((j : Int) + 1)
    rw [hx] at this
    exact this
  rcases h with h | ⟨rfl, i, rfl, h⟩ | ⟨rfl, i, rfl, h, h'⟩
  · refine fn_of_run0 true Tryz.func18 rfl hmix rfl fun w0 => ?_
    conv => whnf
    refine ⟨trivial, CallAt.pure (fun R' hR' => hsc R') ?_⟩
    conv => whnf
    repeat (first | (refine And.intro ?_ ?_; rotate_left; (focus (intro g; exfalso; first | (simp at g; done) | (simp at g; omega) | (revert g; decide))); intro _; conv => whnf) | (refine And.intro ?_ ?_; (focus (intro g; exfalso; first | (simp at g; done) | (simp at g; omega) | (revert g; decide))); intro _; conv => whnf))
    refine ⟨?_, CallAt.pure (fun R' hR' => hsc2 R') ?_⟩
    · repeat' apply And.intro
      all_goals first | exact True.intro | (unfold rng; omega) | (rw [hsz]; omega) | omega | decide
    conv => whnf
    repeat (first | (refine And.intro ?_ ?_; rotate_left; (focus (intro g; exfalso; first | (simp at g; done) | (simp at g; omega) | (revert g; decide))); intro _; conv => whnf) | (refine And.intro ?_ ?_; (focus (intro g; exfalso; first | (simp at g; done) | (simp at g; omega) | (revert g; decide))); intro _; conv => whnf))
    refine ⟨?_, fin_pure rfl rfl⟩
    repeat' apply And.intro
    all_goals first | exact True.intro | (unfold rng; omega) | (rw [hsz]; omega) | omega | decide
  · refine fn_of_run0 true Tryz.func18 rfl hmix rfl fun w0 => ?_
    conv => whnf
    refine ⟨trivial, CallAt.pure (fun R' hR' => hsc R') ?_⟩
    conv => whnf
    repeat (first | (refine And.intro ?_ ?_; rotate_left; (focus (intro g; exfalso; first | (simp at g; done) | (simp at g; omega) | (revert g; decide))); intro _; conv => whnf) | (refine And.intro ?_ ?_; (focus (intro g; exfalso; first | (simp at g; done) | (simp at g; omega) | (revert g; decide))); intro _; conv => whnf))
    refine ⟨?_, CallAt.pure (fun R' hR' => hsc2 R') ?_⟩
    · repeat' apply And.intro
      all_goals first | exact True.intro | (unfold rng; omega) | (rw [hsz]; omega) | omega | decide
    conv => whnf
    repeat (first | (refine And.intro ?_ ?_; rotate_left; (focus (intro g; exfalso; first | (simp at g; done) | (simp at g; omega) | (revert g; decide))); intro _; conv => whnf) | (refine And.intro ?_ ?_; (focus (intro g; exfalso; first | (simp at g; done) | (simp at g; omega) | (revert g; decide))); intro _; conv => whnf))
    refine ⟨?_, fin_pure rfl rfl⟩
    repeat' apply And.intro
    all_goals first | exact True.intro | (unfold rng; omega) | (rw [hsz]; omega) | omega | decide
  · refine fn_of_run0 true Tryz.func18 rfl hmix rfl fun w0 => ?_
    conv => whnf
    refine ⟨trivial, CallAt.pure (fun R' hR' => hsc R') ?_⟩
    conv => whnf
    repeat (first | (refine And.intro ?_ ?_; rotate_left; (focus (intro g; exfalso; first | (simp at g; done) | (simp at g; omega) | (revert g; decide))); intro _; conv => whnf) | (refine And.intro ?_ ?_; (focus (intro g; exfalso; first | (simp at g; done) | (simp at g; omega) | (revert g; decide))); intro _; conv => whnf))
    refine ⟨?_, CallAt.pure (fun R' hR' => hsc2 R') ?_⟩
    · repeat' apply And.intro
      all_goals first | exact True.intro | (unfold rng; omega) | (rw [hsz]; omega) | omega | decide
    conv => whnf
    repeat (first | (refine And.intro ?_ ?_; rotate_left; (focus (intro g; exfalso; first | (simp at g; done) | (simp at g; omega) | (revert g; decide))); intro _; conv => whnf) | (refine And.intro ?_ ?_; (focus (intro g; exfalso; first | (simp at g; done) | (simp at g; omega) | (revert g; decide))); intro _; conv => whnf))
    refine ⟨?_, fin_pure rfl rfl⟩
    repeat' apply And.intro
    all_goals first | exact True.intro | (unfold rng; omega) | (rw [hsz]; omega) | omega | decide
theorem rReadC (hl : l.length ≤ 1048576) {W H : Int} {k1 k2 : Nat} (h1 : sideV l 0 = some (W, k1)) (h2 : sideV l k1 = some (H, k2)) (hs : ¬ sizeQ W H) : PureR Tryz.prog R 18 [.string (bs l)] (.tuple #[noSet, .int .i64 3]) := by
  have hsz : (bs l).size = l.length := bs_size l
  obtain ⟨j, rfl, hx1, _, hj, h32, _⟩ := sideV_some (Nat.zero_le _) h1
  have hb1 := (at32 hj).2 h32
  have hx1 : scan l 0 = ((W : Int), (j : Int), 0) := hx1
  have hsc : ∀ (R' : HP), PureR Tryz.prog R' 16 [.string (bs l), .int .i64 0] (.tuple #[.int .i64 (W : Int), .int .i64 (j : Int), .int .i64 0]) := fun R' => by
    have := sRefScan (R := R') l hl 0
    rw [hx1] at this
    exact this
  obtain ⟨i, rfl, hx, _, hi, g32, _⟩ := sideV_some (by omega) h2
  have hb2 := (at32 hi).2 g32
  have hx : scan l ((j : Int) + 1) = ((H : Int), (i : Int), 0) := by rw [← hx]; rfl
  have hsc2 : ∀ (R' : HP), PureR Tryz.prog R' 16 [.string (bs l), .int .i64 ((j : Int) + 1)] (.tuple #[.int .i64 (H : Int), .int .i64 (i : Int), .int .i64 0]) := fun R' => by
    have := sRefScan (R := R') l hl ((j : Int) + 1)
    rw [hx] at this
    exact this
  unfold sizeQ at hs
  by_cases a : W < 1
  · refine fn_of_run0 true Tryz.func18 rfl hmix rfl fun w0 => ?_
    conv => whnf
    refine ⟨trivial, CallAt.pure (fun R' hR' => hsc R') ?_⟩
    conv => whnf
    repeat (first | (refine And.intro ?_ ?_; rotate_left; (focus (intro g; exfalso; first | (simp at g; done) | (simp at g; omega) | (revert g; decide))); intro _; conv => whnf) | (refine And.intro ?_ ?_; (focus (intro g; exfalso; first | (simp at g; done) | (simp at g; omega) | (revert g; decide))); intro _; conv => whnf))
    refine ⟨?_, CallAt.pure (fun R' hR' => hsc2 R') ?_⟩
    · repeat' apply And.intro
      all_goals first | exact True.intro | (unfold rng; omega) | (rw [hsz]; omega) | omega | decide
    conv => whnf
    repeat (first | (refine And.intro ?_ ?_; rotate_left; (focus (intro g; exfalso; first | (simp at g; done) | (simp at g; omega) | (revert g; decide))); intro _; conv => whnf) | (refine And.intro ?_ ?_; (focus (intro g; exfalso; first | (simp at g; done) | (simp at g; omega) | (revert g; decide))); intro _; conv => whnf))
    refine ⟨?_, fin_pure rfl rfl⟩
    repeat' apply And.intro
    all_goals first | exact True.intro | (unfold rng; omega) | (rw [hsz]; omega) | omega | decide
  by_cases b : H < 1
  · refine fn_of_run0 true Tryz.func18 rfl hmix rfl fun w0 => ?_
    conv => whnf
    refine ⟨trivial, CallAt.pure (fun R' hR' => hsc R') ?_⟩
    conv => whnf
    repeat (first | (refine And.intro ?_ ?_; rotate_left; (focus (intro g; exfalso; first | (simp at g; done) | (simp at g; omega) | (revert g; decide))); intro _; conv => whnf) | (refine And.intro ?_ ?_; (focus (intro g; exfalso; first | (simp at g; done) | (simp at g; omega) | (revert g; decide))); intro _; conv => whnf))
    refine ⟨?_, CallAt.pure (fun R' hR' => hsc2 R') ?_⟩
    · repeat' apply And.intro
      all_goals first | exact True.intro | (unfold rng; omega) | (rw [hsz]; omega) | omega | decide
    conv => whnf
    repeat (first | (refine And.intro ?_ ?_; rotate_left; (focus (intro g; exfalso; first | (simp at g; done) | (simp at g; omega) | (revert g; decide))); intro _; conv => whnf) | (refine And.intro ?_ ?_; (focus (intro g; exfalso; first | (simp at g; done) | (simp at g; omega) | (revert g; decide))); intro _; conv => whnf))
    refine ⟨?_, fin_pure rfl rfl⟩
    repeat' apply And.intro
    all_goals first | exact True.intro | (unfold rng; omega) | (rw [hsz]; omega) | omega | decide
  by_cases c : 1024 < W
  · refine fn_of_run0 true Tryz.func18 rfl hmix rfl fun w0 => ?_
    conv => whnf
    refine ⟨trivial, CallAt.pure (fun R' hR' => hsc R') ?_⟩
    conv => whnf
    repeat (first | (refine And.intro ?_ ?_; rotate_left; (focus (intro g; exfalso; first | (simp at g; done) | (simp at g; omega) | (revert g; decide))); intro _; conv => whnf) | (refine And.intro ?_ ?_; (focus (intro g; exfalso; first | (simp at g; done) | (simp at g; omega) | (revert g; decide))); intro _; conv => whnf))
    refine ⟨?_, CallAt.pure (fun R' hR' => hsc2 R') ?_⟩
    · repeat' apply And.intro
      all_goals first | exact True.intro | (unfold rng; omega) | (rw [hsz]; omega) | omega | decide
    conv => whnf
    repeat (first | (refine And.intro ?_ ?_; rotate_left; (focus (intro g; exfalso; first | (simp at g; done) | (simp at g; omega) | (revert g; decide))); intro _; conv => whnf) | (refine And.intro ?_ ?_; (focus (intro g; exfalso; first | (simp at g; done) | (simp at g; omega) | (revert g; decide))); intro _; conv => whnf))
    refine ⟨?_, fin_pure rfl rfl⟩
    repeat' apply And.intro
    all_goals first | exact True.intro | (unfold rng; omega) | (rw [hsz]; omega) | omega | decide
  · refine fn_of_run0 true Tryz.func18 rfl hmix rfl fun w0 => ?_
    conv => whnf
    refine ⟨trivial, CallAt.pure (fun R' hR' => hsc R') ?_⟩
    conv => whnf
    repeat (first | (refine And.intro ?_ ?_; rotate_left; (focus (intro g; exfalso; first | (simp at g; done) | (simp at g; omega) | (revert g; decide))); intro _; conv => whnf) | (refine And.intro ?_ ?_; (focus (intro g; exfalso; first | (simp at g; done) | (simp at g; omega) | (revert g; decide))); intro _; conv => whnf))
    refine ⟨?_, CallAt.pure (fun R' hR' => hsc2 R') ?_⟩
    · repeat' apply And.intro
      all_goals first | exact True.intro | (unfold rng; omega) | (rw [hsz]; omega) | omega | decide
    conv => whnf
    repeat (first | (refine And.intro ?_ ?_; rotate_left; (focus (intro g; exfalso; first | (simp at g; done) | (simp at g; omega) | (revert g; decide))); intro _; conv => whnf) | (refine And.intro ?_ ?_; (focus (intro g; exfalso; first | (simp at g; done) | (simp at g; omega) | (revert g; decide))); intro _; conv => whnf))
    refine ⟨?_, fin_pure rfl rfl⟩
    repeat' apply And.intro
    all_goals first | exact True.intro | (unfold rng; omega) | (rw [hsz]; omega) | omega | decide
theorem sgn_inj {a b : List UInt8} (h : sgnQ a = sgnQ b) : a = b := by
  unfold sgnQ at h
  exact List.map_inj_right (fun x y e => UInt8.toNat_inj.1 e) |>.1 h
theorem print_inj {n : Nat} {a b : QT} (ha : fitsQ n a) (hb : fitsQ n b) (h : printQ a = printQ b) : a = b := by
  have h1 := parse_print n a [] ha
  have h2 := parse_print n b [] hb
  rw [h, h2] at h1
  injection h1 with h1
  injection h1 with h1 _
  exact h1.symm
theorem text_of {W H : Int} {k1 k2 n : Nat} {t : QT} (h1 : sideV l 0 = some (W, k1)) (h2 : sideV l k1 = some (H, k2)) (hp : parseQ n (sgnQ (l.drop k2)) = some (t, [])) : l = textQ W H t := by
  obtain ⟨e1, a1, _⟩ := side_drop (Nat.zero_le _) h1
  obtain ⟨e2, a2, _⟩ := side_drop a1 h2
  have e3 := (parse_sound n _ t [] hp).2
  rw [List.append_nil] at e3
  have e3 := sgn_inj e3
  rw [List.drop_zero] at e1
  rw [e1, e2, e3]
  simp [textQ]
theorem canon_mkB {W H n : Nat} {t : QT} {g : Nat → Nat → Bool} (hg : ∀ u v, u < W → v < H → g u v = (false || inT n t 0 0 u v)) : canon (gS W H (mkB W H g)) n 0 0 = canon (inQ W H (lookQ n t 0 0)) n 0 0 := canon_congr fun u v i => by
  unfold gS inQ
  by_cases hu : u < W
  · by_cases hv : v < H
    · rw [decide_eq_true hu, decide_eq_true hv]
      simp only [Bool.true_and]
      have i' := i
      unfold InSq at i'
      obtain ⟨a, rfl⟩ : ∃ a : Nat, u = a := ⟨u.toNat, by omega⟩
      obtain ⟨b, rfl⟩ : ∃ b : Nat, v = b := ⟨v.toNat, by omega⟩
      have hlt := ix_lt (W := W) (H := H) (u := a) (v := b) (by omega) (by omega)
      unfold inL
      rw [show ((b : Int) * W + (a : Int)).toNat = b * W + a by rw [← Int.natCast_mul, ← Int.natCast_add, Int.toNat_natCast], mkB_get hlt]
      obtain ⟨c1, c2⟩ := (ix_eq (W := W) (u := a) (v := b) (k := b * W + a) (by omega)).1 rfl
      rw [c1, c2, Option.getD_some, hg a b (by omega) (by omega), Bool.false_or]
      unfold inT
      rw [decide_eq_true i, Bool.true_and]
    · rw [decide_eq_false hv]; simp
  · rw [decide_eq_false hu]; simp
theorem rReadD (hl : l.length ≤ 1048576) {W H k1 k2 n : Nat} (h1 : sideV l 0 = some ((W : Int), k1)) (h2 : sideV l k1 = some ((H : Int), k2)) (w1 : 1 ≤ W) (w2 : W ≤ 1024) (g1 : 1 ≤ H) (g2 : H ≤ 1024) (hn : n ≤ 9) (hS : Side (max (W : Int) H) n) (hp : parseQ n (sgnQ (l.drop k2)) = none) : PureR Tryz.prog R 18 [.string (bs l)] (.tuple #[noSet, .int .i64 12]) := by
  have hsz : (bs l).size = l.length := bs_size l
  obtain ⟨j, rfl, hx1, _, hj, h32, _⟩ := sideV_some (Nat.zero_le _) h1
  have hb1 := (at32 hj).2 h32
  have hx1 : scan l 0 = ((W : Int), (j : Int), 0) := hx1
  have hsc : ∀ (R' : HP), PureR Tryz.prog R' 16 [.string (bs l), .int .i64 0] (.tuple #[.int .i64 (W : Int), .int .i64 (j : Int), .int .i64 0]) := fun R' => by
    have := sRefScan (R := R') l hl 0
    rw [hx1] at this
    exact this
  obtain ⟨i, rfl, hx, _, hi, g32, _⟩ := sideV_some (by omega) h2
  have hb2 := (at32 hi).2 g32
  have hx : scan l ((j : Int) + 1) = ((H : Int), (i : Int), 0) := by rw [← hx]; rfl
  have hsc2 : ∀ (R' : HP), PureR Tryz.prog R' 16 [.string (bs l), .int .i64 ((j : Int) + 1)] (.tuple #[.int .i64 (H : Int), .int .i64 (i : Int), .int .i64 0]) := fun R' => by
    have := sRefScan (R := R') l hl ((j : Int) + 1)
    rw [hx] at this
    exact this
  have hWH : (W : Int) * (H : Int) = ((W * H : Nat) : Int) := by rw [Int.natCast_mul]
  have hm : W * H ≤ 1048576 := by
    have := Nat.mul_le_mul w2 g2
    omega
  have hzs : (madeCells (Value.bool false).cells (W * H * 1)).toList = bls (mkB W H fun _ _ => false) := by
    rw [made_const (v := .bool false) (fun i hi => (by
      have : i = 0 := by simpa [Value.cells] using hi
      subst this
      rfl)) (by simp [Value.cells]), Nat.mul_one]
    unfold bls mkB
    rw [List.map_map]
    refine List.ext_getElem? fun k => ?_
    rw [List.getElem?_replicate, List.getElem?_map]
    by_cases c : k < W * H
    · rw [if_pos c, List.getElem?_range c]; rfl
    · rw [if_neg c, List.getElem?_eq_none (by simp; omega)]; rfl
  have hsd := fun R' => rSide (R := R') (W := W) (H := H) (by omega) hS
  have hp2 : (0 : Int) + 2 ^ n ≤ 2048 := by
    have : ∀ n, n ≤ 9 → (0 : Int) + 2 ^ n ≤ 2048 := by decide
    exact this n hn
  have hnode := fun (R' : HP) b => nodeR_all (R0 := R') (b := b) (c := W * H) w2 g2 hl n (by omega)
  refine fn_of_run0 true Tryz.func18 rfl hmix rfl fun w0 => ?_
  conv => whnf
  refine ⟨trivial, CallAt.pure (fun R' hR' => hsc R') ?_⟩
  conv => whnf
  repeat (first | (refine And.intro ?_ ?_; rotate_left; (focus (intro g; exfalso; first | (simp at g; done) | (simp at g; omega) | (revert g; decide))); intro _; conv => whnf) | (refine And.intro ?_ ?_; (focus (intro g; exfalso; first | (simp at g; done) | (simp at g; omega) | (revert g; decide))); intro _; conv => whnf))
  refine ⟨?_, CallAt.pure (fun R' hR' => hsc2 R') ?_⟩
  · repeat' apply And.intro
    all_goals first | exact True.intro | (unfold rng; omega) | (rw [hsz]; omega) | omega | decide
  conv => whnf
  repeat (first | (refine And.intro ?_ ?_; rotate_left; (focus (intro g; exfalso; first | (simp at g; done) | (simp at g; omega) | (revert g; decide))); intro _; conv => whnf) | (refine And.intro ?_ ?_; (focus (intro g; exfalso; first | (simp at g; done) | (simp at g; omega) | (revert g; decide))); intro _; conv => whnf))
  rw [hWH]
  refine ⟨?_, OpAt.make (W * H) 1 (bls (mkB W H fun _ _ => false)) rfl rfl rfl rfl rfl rfl rfl rfl hzs (by show 1 * (W * H) ≤ _; omega) (by simp only [maxLen]; omega) fun b => ?_⟩
  · repeat' apply And.intro
    all_goals first | exact True.intro | (unfold rng; omega) | (rw [hsz]; omega) | omega | decide
  conv => whnf
  refine ⟨trivial, RegAt.quietGroups 7 [([.T 8, .T 9, .T 10, .T 11], 12), ([.T 12], 13)] hmix (by kernel_rfl) ?_⟩
  conv => whnf
  refine ⟨?_, CallQ.pure (fun R' hR' => hsd R') ?_⟩
  · repeat' apply And.intro
    all_goals first | exact True.intro | (unfold rng; omega) | (rw [hsz]; omega) | omega | decide
  conv => whnf
  refine ⟨trivial, CallAt.fn (pre := [inH W H b (W * H) fun _ _ => false]) (post := NoQ W H b (W * H)) _ (fun h s => s) (fun R' hR' => (hnode R' b).2 (i + 1) (by omega) hp 0 0 (Int.le_refl _) hp2 (Int.le_refl _) hp2 R' (fun w s => s) _) ?_⟩
  rintro v hs ⟨e', g', rfl, rfl⟩
  conv => whnf
  refine ⟨trivial, ?_⟩
  conv => whnf
  repeat (first | (refine And.intro ?_ ?_; rotate_left; (focus (intro g; exfalso; first | (simp at g; done) | (simp at g; omega) | (revert g; decide))); intro _; conv => whnf) | (refine And.intro ?_ ?_; (focus (intro g; exfalso; first | (simp at g; done) | (simp at g; omega) | (revert g; decide))); intro _; conv => whnf))
  refine ⟨?_, fin_drop rfl⟩
  repeat' apply And.intro
  all_goals first | exact True.intro | (unfold rng; omega) | (rw [hsz]; omega) | omega | decide
theorem rReadE (hl : l.length ≤ 1048576) {W H k1 k2 n : Nat} (h1 : sideV l 0 = some ((W : Int), k1)) (h2 : sideV l k1 = some ((H : Int), k2)) (w1 : 1 ≤ W) (w2 : W ≤ 1024) (g1 : 1 ≤ H) (g2 : H ≤ 1024) (hn : n ≤ 9) (hS : Side (max (W : Int) H) n) {t : QT} {r : List Nat} (hp : parseQ n (sgnQ (l.drop k2)) = some (t, r)) (hr : 0 < r.length) : PureR Tryz.prog R 18 [.string (bs l)] (.tuple #[noSet, .int .i64 12]) := by
  have hlt : At2 l r < l.length := by
    have := sideV_some (Nat.zero_le _) h1
    unfold At2
    obtain ⟨_, _, _, _, h, _⟩ := this
    omega
  have hsz : (bs l).size = l.length := bs_size l
  obtain ⟨j, rfl, hx1, _, hj, h32, _⟩ := sideV_some (Nat.zero_le _) h1
  have hb1 := (at32 hj).2 h32
  have hx1 : scan l 0 = ((W : Int), (j : Int), 0) := hx1
  have hsc : ∀ (R' : HP), PureR Tryz.prog R' 16 [.string (bs l), .int .i64 0] (.tuple #[.int .i64 (W : Int), .int .i64 (j : Int), .int .i64 0]) := fun R' => by
    have := sRefScan (R := R') l hl 0
    rw [hx1] at this
    exact this
  obtain ⟨i, rfl, hx, _, hi, g32, _⟩ := sideV_some (by omega) h2
  have hb2 := (at32 hi).2 g32
  have hx : scan l ((j : Int) + 1) = ((H : Int), (i : Int), 0) := by rw [← hx]; rfl
  have hsc2 : ∀ (R' : HP), PureR Tryz.prog R' 16 [.string (bs l), .int .i64 ((j : Int) + 1)] (.tuple #[.int .i64 (H : Int), .int .i64 (i : Int), .int .i64 0]) := fun R' => by
    have := sRefScan (R := R') l hl ((j : Int) + 1)
    rw [hx] at this
    exact this
  have hWH : (W : Int) * (H : Int) = ((W * H : Nat) : Int) := by rw [Int.natCast_mul]
  have hm : W * H ≤ 1048576 := by
    have := Nat.mul_le_mul w2 g2
    omega
  have hzs : (madeCells (Value.bool false).cells (W * H * 1)).toList = bls (mkB W H fun _ _ => false) := by
    rw [made_const (v := .bool false) (fun i hi => (by
      have : i = 0 := by simpa [Value.cells] using hi
      subst this
      rfl)) (by simp [Value.cells]), Nat.mul_one]
    unfold bls mkB
    rw [List.map_map]
    refine List.ext_getElem? fun k => ?_
    rw [List.getElem?_replicate, List.getElem?_map]
    by_cases c : k < W * H
    · rw [if_pos c, List.getElem?_range c]; rfl
    · rw [if_neg c, List.getElem?_eq_none (by simp; omega)]; rfl
  have hsd := fun R' => rSide (R := R') (W := W) (H := H) (by omega) hS
  have hp2 : (0 : Int) + 2 ^ n ≤ 2048 := by
    have : ∀ n, n ≤ 9 → (0 : Int) + 2 ^ n ≤ 2048 := by decide
    exact this n hn
  have hnode := fun (R' : HP) b => nodeR_all (R0 := R') (b := b) (c := W * H) w2 g2 hl n (by omega)
  refine fn_of_run0 true Tryz.func18 rfl hmix rfl fun w0 => ?_
  conv => whnf
  refine ⟨trivial, CallAt.pure (fun R' hR' => hsc R') ?_⟩
  conv => whnf
  repeat (first | (refine And.intro ?_ ?_; rotate_left; (focus (intro g; exfalso; first | (simp at g; done) | (simp at g; omega) | (revert g; decide))); intro _; conv => whnf) | (refine And.intro ?_ ?_; (focus (intro g; exfalso; first | (simp at g; done) | (simp at g; omega) | (revert g; decide))); intro _; conv => whnf))
  refine ⟨?_, CallAt.pure (fun R' hR' => hsc2 R') ?_⟩
  · repeat' apply And.intro
    all_goals first | exact True.intro | (unfold rng; omega) | (rw [hsz]; omega) | omega | decide
  conv => whnf
  repeat (first | (refine And.intro ?_ ?_; rotate_left; (focus (intro g; exfalso; first | (simp at g; done) | (simp at g; omega) | (revert g; decide))); intro _; conv => whnf) | (refine And.intro ?_ ?_; (focus (intro g; exfalso; first | (simp at g; done) | (simp at g; omega) | (revert g; decide))); intro _; conv => whnf))
  rw [hWH]
  refine ⟨?_, OpAt.make (W * H) 1 (bls (mkB W H fun _ _ => false)) rfl rfl rfl rfl rfl rfl rfl rfl hzs (by show 1 * (W * H) ≤ _; omega) (by simp only [maxLen]; omega) fun b => ?_⟩
  · repeat' apply And.intro
    all_goals first | exact True.intro | (unfold rng; omega) | (rw [hsz]; omega) | omega | decide
  conv => whnf
  refine ⟨trivial, RegAt.quietGroups 7 [([.T 8, .T 9, .T 10, .T 11], 12), ([.T 12], 13)] hmix (by kernel_rfl) ?_⟩
  conv => whnf
  refine ⟨?_, CallQ.pure (fun R' hR' => hsd R') ?_⟩
  · repeat' apply And.intro
    all_goals first | exact True.intro | (unfold rng; omega) | (rw [hsz]; omega) | omega | decide
  conv => whnf
  refine ⟨trivial, CallAt.fn (pre := [inH W H b (W * H) fun _ _ => false]) (post := OkQ W H b (W * H) l r (fun _ _ => false) (inT n t 0 0)) _ (fun h s => s) (fun R' hR' => (hnode R' b).1 (i + 1) (by omega) t r hp 0 0 (Int.le_refl _) hp2 (Int.le_refl _) hp2 R' (fun w s => s) _) ?_⟩
  rintro v hs ⟨rfl, g', hg', rfl⟩
  conv => whnf
  refine ⟨trivial, ?_⟩
  conv => whnf
  repeat (first | (refine And.intro ?_ ?_; rotate_left; (focus (intro g; exfalso; first | (simp at g; done) | (simp at g; omega) | (revert g; decide))); intro _; conv => whnf) | (refine And.intro ?_ ?_; (focus (intro g; exfalso; first | (simp at g; done) | (simp at g; omega) | (revert g; decide))); intro _; conv => whnf))
  refine ⟨?_, fin_drop rfl⟩
  repeat' apply And.intro
  all_goals first | exact True.intro | (unfold rng; omega) | (rw [hsz]; omega) | omega | decide
theorem rReadF (hl : l.length ≤ 1048576) {W H k1 k2 n : Nat} (h1 : sideV l 0 = some ((W : Int), k1)) (h2 : sideV l k1 = some ((H : Int), k2)) (w1 : 1 ≤ W) (w2 : W ≤ 1024) (g1 : 1 ≤ H) (g2 : H ≤ 1024) (hn : n ≤ 9) (hS : Side (max (W : Int) H) n) {t : QT} (hp : parseQ n (sgnQ (l.drop k2)) = some (t, [])) (ho : oddQ W H n t 0 0 = true) : PureR Tryz.prog R 18 [.string (bs l)] (.tuple #[noSet, .int .i64 13]) := by
  have hne : ¬ textQ W H (canon (inQ W H (lookQ n t 0 0)) n 0 0) = l := fun c => by
    have htx := text_of h1 h2 hp
    have c := c.trans htx
    unfold textQ at c
    have c := print_inj canon_fits (parse_sound n _ t [] hp).1 (List.append_cancel_left c)
    have := (odd_canon (parse_sound n _ t [] hp).1).2 c
    rw [this] at ho
    cases ho
  have hat : At2 l [] = l.length := rfl
  have htx := text_of h1 h2 hp
  have hsz : (bs l).size = l.length := bs_size l
  obtain ⟨j, rfl, hx1, _, hj, h32, _⟩ := sideV_some (Nat.zero_le _) h1
  have hb1 := (at32 hj).2 h32
  have hx1 : scan l 0 = ((W : Int), (j : Int), 0) := hx1
  have hsc : ∀ (R' : HP), PureR Tryz.prog R' 16 [.string (bs l), .int .i64 0] (.tuple #[.int .i64 (W : Int), .int .i64 (j : Int), .int .i64 0]) := fun R' => by
    have := sRefScan (R := R') l hl 0
    rw [hx1] at this
    exact this
  obtain ⟨i, rfl, hx, _, hi, g32, _⟩ := sideV_some (by omega) h2
  have hb2 := (at32 hi).2 g32
  have hx : scan l ((j : Int) + 1) = ((H : Int), (i : Int), 0) := by rw [← hx]; rfl
  have hsc2 : ∀ (R' : HP), PureR Tryz.prog R' 16 [.string (bs l), .int .i64 ((j : Int) + 1)] (.tuple #[.int .i64 (H : Int), .int .i64 (i : Int), .int .i64 0]) := fun R' => by
    have := sRefScan (R := R') l hl ((j : Int) + 1)
    rw [hx] at this
    exact this
  have hWH : (W : Int) * (H : Int) = ((W * H : Nat) : Int) := by rw [Int.natCast_mul]
  have hm : W * H ≤ 1048576 := by
    have := Nat.mul_le_mul w2 g2
    omega
  have hzs : (madeCells (Value.bool false).cells (W * H * 1)).toList = bls (mkB W H fun _ _ => false) := by
    rw [made_const (v := .bool false) (fun i hi => (by
      have : i = 0 := by simpa [Value.cells] using hi
      subst this
      rfl)) (by simp [Value.cells]), Nat.mul_one]
    unfold bls mkB
    rw [List.map_map]
    refine List.ext_getElem? fun k => ?_
    rw [List.getElem?_replicate, List.getElem?_map]
    by_cases c : k < W * H
    · rw [if_pos c, List.getElem?_range c]; rfl
    · rw [if_neg c, List.getElem?_eq_none (by simp; omega)]; rfl
  have hsd := fun R' => rSide (R := R') (W := W) (H := H) (by omega) hS
  have hp2 : (0 : Int) + 2 ^ n ≤ 2048 := by
    have : ∀ n, n ≤ 9 → (0 : Int) + 2 ^ n ≤ 2048 := by decide
    exact this n hn
  have hnode := fun (R' : HP) b => nodeR_all (R0 := R') (b := b) (c := W * H) w2 g2 hl n (by omega)
  refine fn_of_run0 true Tryz.func18 rfl hmix rfl fun w0 => ?_
  conv => whnf
  refine ⟨trivial, CallAt.pure (fun R' hR' => hsc R') ?_⟩
  conv => whnf
  repeat (first | (refine And.intro ?_ ?_; rotate_left; (focus (intro g; exfalso; first | (simp at g; done) | (simp at g; omega) | (revert g; decide))); intro _; conv => whnf) | (refine And.intro ?_ ?_; (focus (intro g; exfalso; first | (simp at g; done) | (simp at g; omega) | (revert g; decide))); intro _; conv => whnf))
  refine ⟨?_, CallAt.pure (fun R' hR' => hsc2 R') ?_⟩
  · repeat' apply And.intro
    all_goals first | exact True.intro | (unfold rng; omega) | (rw [hsz]; omega) | omega | decide
  conv => whnf
  repeat (first | (refine And.intro ?_ ?_; rotate_left; (focus (intro g; exfalso; first | (simp at g; done) | (simp at g; omega) | (revert g; decide))); intro _; conv => whnf) | (refine And.intro ?_ ?_; (focus (intro g; exfalso; first | (simp at g; done) | (simp at g; omega) | (revert g; decide))); intro _; conv => whnf))
  rw [hWH]
  refine ⟨?_, OpAt.make (W * H) 1 (bls (mkB W H fun _ _ => false)) rfl rfl rfl rfl rfl rfl rfl rfl hzs (by show 1 * (W * H) ≤ _; omega) (by simp only [maxLen]; omega) fun b => ?_⟩
  · repeat' apply And.intro
    all_goals first | exact True.intro | (unfold rng; omega) | (rw [hsz]; omega) | omega | decide
  conv => whnf
  refine ⟨trivial, RegAt.quietGroups 7 [([.T 8, .T 9, .T 10, .T 11], 12), ([.T 12], 13)] hmix (by kernel_rfl) ?_⟩
  conv => whnf
  refine ⟨?_, CallQ.pure (fun R' hR' => hsd R') ?_⟩
  · repeat' apply And.intro
    all_goals first | exact True.intro | (unfold rng; omega) | (rw [hsz]; omega) | omega | decide
  conv => whnf
  refine ⟨trivial, CallAt.fn (pre := [inH W H b (W * H) fun _ _ => false]) (post := OkQ W H b (W * H) l [] (fun _ _ => false) (inT n t 0 0)) _ (fun h s => s) (fun R' hR' => (hnode R' b).1 (i + 1) (by omega) t [] hp 0 0 (Int.le_refl _) hp2 (Int.le_refl _) hp2 R' (fun w s => s) _) ?_⟩
  rintro v hs ⟨rfl, g', hg', rfl⟩
  conv => whnf
  refine ⟨trivial, ?_⟩
  conv => whnf
  repeat (first | (refine And.intro ?_ ?_; rotate_left; (focus (intro g; exfalso; first | (simp at g; done) | (simp at g; omega) | (revert g; decide))); intro _; conv => whnf) | (refine And.intro ?_ ?_; (focus (intro g; exfalso; first | (simp at g; done) | (simp at g; omega) | (revert g; decide))); intro _; conv => whnf))
  have hca := canon_mkB (n := n) (t := t) hg'
  refine ⟨?_, CallAt.pure (fun R' hR' => (by
    have := rPrintQ (R := R') (W := W) (H := H) (A := some ⟨b, 0, none⟩) (c := W * H) (l := mkB W H g') ⟨w1, w2, g1, g2, mkB_len _ _ _, Sl.row fun w s => (hR' w s).in_ 0 rfl⟩ (n := n) (by omega) hS
    rw [hca] at this
    exact this)) ?_⟩
  · repeat' apply And.intro
    all_goals first | exact True.intro | (unfold rng; omega) | (rw [hsz]; omega) | omega | decide
  conv => whnf
  refine iff_t (by simpa [bs_inj] using hne) ?_
  conv => whnf
  refine ⟨?_, fin_drop rfl⟩
  repeat' apply And.intro
  all_goals first | exact True.intro | (unfold rng; omega) | (rw [hsz]; omega) | omega | decide
theorem rReadG (hl : l.length ≤ 1048576) {W H k1 k2 n : Nat} (h1 : sideV l 0 = some ((W : Int), k1)) (h2 : sideV l k1 = some ((H : Int), k2)) (w1 : 1 ≤ W) (w2 : W ≤ 1024) (g1 : 1 ≤ H) (g2 : H ≤ 1024) (hn : n ≤ 9) (hS : Side (max (W : Int) H) n) {t : QT} (hp : parseQ n (sgnQ (l.drop k2)) = some (t, [])) (ho : oddQ W H n t 0 0 = false) : FnR Tryz.prog R 18 [.string (bs l)] [] fun v hs => ∃ b g, v = .tuple #[setB0 W H b (W * H), .int .i64 0] ∧ hs = [inH W H b (W * H) g] ∧ canon (gS W H (mkB W H g)) n 0 0 = t ∧ l = textQ W H t := by
  have hev := (odd_canon (parse_sound n _ t [] hp).1).1 ho
  have hat : At2 l [] = l.length := rfl
  have htx := text_of h1 h2 hp
  have hsz : (bs l).size = l.length := bs_size l
  obtain ⟨j, rfl, hx1, _, hj, h32, _⟩ := sideV_some (Nat.zero_le _) h1
  have hb1 := (at32 hj).2 h32
  have hx1 : scan l 0 = ((W : Int), (j : Int), 0) := hx1
  have hsc : ∀ (R' : HP), PureR Tryz.prog R' 16 [.string (bs l), .int .i64 0] (.tuple #[.int .i64 (W : Int), .int .i64 (j : Int), .int .i64 0]) := fun R' => by
    have := sRefScan (R := R') l hl 0
    rw [hx1] at this
    exact this
  obtain ⟨i, rfl, hx, _, hi, g32, _⟩ := sideV_some (by omega) h2
  have hb2 := (at32 hi).2 g32
  have hx : scan l ((j : Int) + 1) = ((H : Int), (i : Int), 0) := by rw [← hx]; rfl
  have hsc2 : ∀ (R' : HP), PureR Tryz.prog R' 16 [.string (bs l), .int .i64 ((j : Int) + 1)] (.tuple #[.int .i64 (H : Int), .int .i64 (i : Int), .int .i64 0]) := fun R' => by
    have := sRefScan (R := R') l hl ((j : Int) + 1)
    rw [hx] at this
    exact this
  have hWH : (W : Int) * (H : Int) = ((W * H : Nat) : Int) := by rw [Int.natCast_mul]
  have hm : W * H ≤ 1048576 := by
    have := Nat.mul_le_mul w2 g2
    omega
  have hzs : (madeCells (Value.bool false).cells (W * H * 1)).toList = bls (mkB W H fun _ _ => false) := by
    rw [made_const (v := .bool false) (fun i hi => (by
      have : i = 0 := by simpa [Value.cells] using hi
      subst this
      rfl)) (by simp [Value.cells]), Nat.mul_one]
    unfold bls mkB
    rw [List.map_map]
    refine List.ext_getElem? fun k => ?_
    rw [List.getElem?_replicate, List.getElem?_map]
    by_cases c : k < W * H
    · rw [if_pos c, List.getElem?_range c]; rfl
    · rw [if_neg c, List.getElem?_eq_none (by simp; omega)]; rfl
  have hsd := fun R' => rSide (R := R') (W := W) (H := H) (by omega) hS
  have hp2 : (0 : Int) + 2 ^ n ≤ 2048 := by
    have : ∀ n, n ≤ 9 → (0 : Int) + 2 ^ n ≤ 2048 := by decide
    exact this n hn
  have hnode := fun (R' : HP) b => nodeR_all (R0 := R') (b := b) (c := W * H) w2 g2 hl n (by omega)
  refine fn_of_run0 true Tryz.func18 rfl hmix rfl fun w0 => ?_
  conv => whnf
  refine ⟨trivial, CallAt.pure (fun R' hR' => hsc R') ?_⟩
  conv => whnf
  repeat (first | (refine And.intro ?_ ?_; rotate_left; (focus (intro g; exfalso; first | (simp at g; done) | (simp at g; omega) | (revert g; decide))); intro _; conv => whnf) | (refine And.intro ?_ ?_; (focus (intro g; exfalso; first | (simp at g; done) | (simp at g; omega) | (revert g; decide))); intro _; conv => whnf))
  refine ⟨?_, CallAt.pure (fun R' hR' => hsc2 R') ?_⟩
  · repeat' apply And.intro
    all_goals first | exact True.intro | (unfold rng; omega) | (rw [hsz]; omega) | omega | decide
  conv => whnf
  repeat (first | (refine And.intro ?_ ?_; rotate_left; (focus (intro g; exfalso; first | (simp at g; done) | (simp at g; omega) | (revert g; decide))); intro _; conv => whnf) | (refine And.intro ?_ ?_; (focus (intro g; exfalso; first | (simp at g; done) | (simp at g; omega) | (revert g; decide))); intro _; conv => whnf))
  rw [hWH]
  refine ⟨?_, OpAt.make (W * H) 1 (bls (mkB W H fun _ _ => false)) rfl rfl rfl rfl rfl rfl rfl rfl hzs (by show 1 * (W * H) ≤ _; omega) (by simp only [maxLen]; omega) fun b => ?_⟩
  · repeat' apply And.intro
    all_goals first | exact True.intro | (unfold rng; omega) | (rw [hsz]; omega) | omega | decide
  conv => whnf
  refine ⟨trivial, RegAt.quietGroups 7 [([.T 8, .T 9, .T 10, .T 11], 12), ([.T 12], 13)] hmix (by kernel_rfl) ?_⟩
  conv => whnf
  refine ⟨?_, CallQ.pure (fun R' hR' => hsd R') ?_⟩
  · repeat' apply And.intro
    all_goals first | exact True.intro | (unfold rng; omega) | (rw [hsz]; omega) | omega | decide
  conv => whnf
  refine ⟨trivial, CallAt.fn (pre := [inH W H b (W * H) fun _ _ => false]) (post := OkQ W H b (W * H) l [] (fun _ _ => false) (inT n t 0 0)) _ (fun h s => s) (fun R' hR' => (hnode R' b).1 (i + 1) (by omega) t [] hp 0 0 (Int.le_refl _) hp2 (Int.le_refl _) hp2 R' (fun w s => s) _) ?_⟩
  rintro v hs ⟨rfl, g', hg', rfl⟩
  conv => whnf
  refine ⟨trivial, ?_⟩
  conv => whnf
  repeat (first | (refine And.intro ?_ ?_; rotate_left; (focus (intro g; exfalso; first | (simp at g; done) | (simp at g; omega) | (revert g; decide))); intro _; conv => whnf) | (refine And.intro ?_ ?_; (focus (intro g; exfalso; first | (simp at g; done) | (simp at g; omega) | (revert g; decide))); intro _; conv => whnf))
  have hca := canon_mkB (n := n) (t := t) hg'
  refine ⟨?_, CallAt.pure (fun R' hR' => (by
    have := rPrintQ (R := R') (W := W) (H := H) (A := some ⟨b, 0, none⟩) (c := W * H) (l := mkB W H g') ⟨w1, w2, g1, g2, mkB_len _ _ _, Sl.row fun w s => (hR' w s).in_ 0 rfl⟩ (n := n) (by omega) hS
    rw [hca] at this
    exact this)) ?_⟩
  · repeat' apply And.intro
    all_goals first | exact True.intro | (unfold rng; omega) | (rw [hsz]; omega) | omega | decide
  conv => whnf
  rw [hev]
  refine iff_f (by simpa [bs_inj] using htx.symm) ?_
  conv => whnf
  refine ⟨trivial, .mk _ (fun w s => s) ⟨b, g', rfl, rfl, by rw [hca, hev], htx⟩⟩
end
end Go.Proofs.YtojlgfkjnkjcmaaGreatDoor

