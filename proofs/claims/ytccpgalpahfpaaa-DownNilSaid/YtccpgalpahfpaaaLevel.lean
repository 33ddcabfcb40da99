/-
  down.Level.
-/
import Derived.Test.YtccpgalpahfpaaaDownF
namespace Go.Proofs.Ytccpgalpahfpaaa
open Go.RowKit
open Sy
set_option linter.unusedVariables false
set_option linter.unusedSimpArgs false
set_option maxRecDepth 100000
set_option maxHeartbeats 4000000

theorem GridAt.may {w : World} {gb W H : Nat} {f : Nat → Nat → Int} (h : GridAt w gb W H f) {x y : Nat} (hx : x < W) (hy : y < H) : MayV (f x y) := by
  obtain ⟨sb, c, p, q, hO⟩ := h
  have hI := tile_of hx
  have hJ := tile_of hy
  have := (hO.slabs _ _ hI.1 hJ.1).may (y % 16 * tw W (x / 16) + x % 16) (cell_lt hI.2 hJ.2)
  rwa [tileF_at (H := H) f hx] at this
theorem GridAt.size {w : World} {gb W H : Nat} {f : Nat → Nat → Int} (h : GridAt w gb W H f) : 1 ≤ W ∧ W ≤ 1024 ∧ 1 ≤ H ∧ H ≤ 1024 := by
  obtain ⟨sb, c, p, q, hO⟩ := h
  exact ⟨hO.w1, hO.w2, hO.h1, hO.h2⟩
theorem row_nil {R : HP} {h : Hl} (e : TypeId) (size : Nat) (s : R h) : sepL [rowH (.slice none 0 0) 0 e size []] R h := by
  refine ⟨fun _ => none, h, fun i => .inl rfl, ?_, ⟨by simp, .inl ⟨rfl, rfl, fun _ => rfl⟩⟩, s⟩
  funext i; simp [un]
theorem sub_drop1 {A B : HP} {l : List HP} {R : HP} {h : Hl} (s : sepL (A :: B :: l) R h) : ∃ h', (∀ i o, h' i = some o → h i = some o) ∧ sepL (A :: l) R h' := sub_tail (sepL_pull 1 s)
theorem sub_drop2 {A B C : HP} {l : List HP} {R : HP} {h : Hl} (s : sepL (A :: B :: C :: l) R h) : ∃ h', (∀ i o, h' i = some o → h i = some o) ∧ sepL (A :: l) R h' := by
  obtain ⟨h1, e1, s1⟩ := sub_drop1 s
  obtain ⟨h2, e2, s2⟩ := sub_drop1 s1
  exact ⟨h2, fun i o e => e1 i o (e2 i o e), s2⟩

theorem gv_vRows {f : Nat → Nat → Int} {W : Nat} : ∀ {H x y : Nat}, x < W → y < H → gv W (vRows f 0 W 0 H) x y = f x y
  | 0, x, y, _, h => by omega
  | H + 1, x, y, hx, hy => by
    unfold gv
    rw [vRows_succ, List.getD_eq_getElem?_getD]
    have hl : (vRows f 0 W 0 H).length = H * W := vRows_len f 0 W 0 H
    rcases Nat.lt_or_ge y H with c | c
    · rw [List.getElem?_append_left (by rw [hl, Nat.mul_comm H W]; exact idx_lt hx c), ← List.getD_eq_getElem?_getD]
      exact gv_vRows hx c
    · have : y = H := by omega
      subst this
      rw [List.getElem?_append_right (by rw [hl]; omega), hl, show y * W + x - y * W = x by omega]
      simp [vRow, hx]
/-- the values for which a cell of a level stands; the level -/
def spL (W H k : Nat) (f : Nat → Nat → Int) (x y : Nat) : List Int := vRows f (x * 2 ^ k) (spX1 W k x - x * 2 ^ k + 1) (y * 2 ^ k) (spX1 H k y - y * 2 ^ k + 1)
def lv (ag : List Int → Int) (W H k : Nat) (f : Nat → Nat → Int) (x y : Nat) : Int := ag (spL W H k f x y)
theorem spL_mem {W H k : Nat} {f : Nat → Nat → Int} {x y : Nat} (hW : 1 ≤ W) (hH : 1 ≤ H) (hx : x < halfN W k) (hy : y < halfN H k) {P : Int → Prop} (h : ∀ a b, a < W → b < H → P (f a b)) : ∀ v ∈ spL W H k f x y, P v := by
  intro v hv
  obtain ⟨sx1, sx2⟩ := sp_ok hW hx
  obtain ⟨sy1, sy2⟩ := sp_ok hH hy
  simp only [spL, vRows, vRow, List.mem_flatMap, List.mem_map, List.mem_range] at hv
  obtain ⟨b, hb, a, ha, rfl⟩ := hv
  exact h _ _ (by omega) (by omega)
theorem spL_len {W H k : Nat} {f : Nat → Nat → Int} {x y : Nat} (hW : W ≤ 1024) (hH : H ≤ 1024) (h1 : 1 ≤ W) (h2 : 1 ≤ H) (hx : x < halfN W k) (hy : y < halfN H k) : 0 < (spL W H k f x y).length ∧ (spL W H k f x y).length ≤ 1048576 := by
  obtain ⟨sx1, sx2⟩ := sp_ok h1 hx
  obtain ⟨sy1, sy2⟩ := sp_ok h2 hy
  unfold spL
  rw [vRows_len]
  exact ⟨Nat.mul_pos (by omega) (by omega), Nat.mul_le_mul (show _ ≤ 1024 by omega) (show _ ≤ 1024 by omega)⟩

theorem sLevel {R : HP} {gb W H k : Nat} {f : Nat → Nat → Int} {how : Int} {F : FuncId} {ag : List Int → Int} (hR : ∀ w, Sat R w → GridAt w gb W H f) (hk : k < levN W H)
    (hF : F = 86 ∨ F = 87 ∨ F = 88) (hway : ∀ R', PureR Try.prog R' 54 [.int .i64 how] (.func (.func F) #[] #[]))
    (hof : ∀ (R' : HP) (A : Option Addr) (n c : Nat) (l : List Int), Vs R' A n l → n ≤ 1048576 → 0 < n → (∀ v ∈ l, MayV v) → PureR Try.prog R' F [.slice A n c] (.int .i64 (ag l))) (hmay : ∀ l, l ≠ [] → (∀ v ∈ l, MayV v) → MayV (ag l)) :
    FnR Try.prog R 24 [.pointer (some ⟨gb, 0, none⟩), .int .i64 k, .int .i64 how] [] fun r hs => ∃ g2, r = .tuple #[.pointer (some ⟨g2, 0, none⟩), .int .i64 0] ∧ hs = [gridH g2 (halfN W k) (halfN H k) (lv ag W H k f)] := by
  refine FnR.of_sat fun w hs => ?_
  have hG := hR w hs
  obtain ⟨w1, w2, h1, h2⟩ := hG.size
  have hmf : ∀ a b, a < W → b < H → MayV (f a b) := fun a b ha hb => hG.may ha hb
  have hsz : SizeOk (W : Int) (H : Int) := ⟨by omega, by omega, by omega, by omega⟩
  have lw := half_le (k := k) w1
  have lh := half_le (k := k) h1
  obtain ⟨LW, hLW⟩ : ∃ LW, halfN W k = LW := ⟨_, rfl⟩
  obtain ⟨LH, hLH⟩ : ∃ LH, halfN H k = LH := ⟨_, rfl⟩
  have hts := fun R' => sTSize W H k hsz hk R'
  rw [hLW] at lw
  rw [hLH] at lh
  rw [hLW, hLH] at hts
  rw [hLW, hLH]
  have lenB : ∀ j i, j ≤ LH → i ≤ LW → (vA (lv ag W H k f) 0 LW 0 j i).length ≤ 1049600 := fun j i hj hi => by
    rw [vA_len]
    have := Nat.mul_le_mul (show j ≤ 1024 by omega) (show LW ≤ 1024 by omega)
    omega
  refine fn_of_run0 false Try.func24 rfl hmix rfl fun w0 => ?_
  conv => whnf
  refine ⟨trivial, CallAt.pure (fun R' hR' => gSize_p fun w s => hR w (hR' w s)) ?_⟩
  conv => whnf
  refine ⟨trivial, CallAt.pure (fun R' _ => hts R') ?_⟩
  conv => whnf
  refine ⟨trivial, CallAt.pure (fun R' _ => hway R') ?_⟩
  conv => whnf
  refine ⟨fun h3 => ?_, fun h3 => absurd h3 (by decide)⟩
  conv => whnf
  refine iff_f rfl ?_
  conv => whnf
  refine ⟨trivial, LoopAt.heap (α := Nat × Option Addr × Nat) [0, 1, 8, 9, 10, 11, 13, 44] (fun a => [(14, .v (.slice a.2.1 (vRows (lv ag W H k f) 0 LW 0 a.1).length a.2.2)), (45, .v (.int .i64 (a.1 : Int)))])
    (fun a => [rowH (.slice a.2.1 (vRows (lv ag W H k f) 0 LW 0 a.1).length a.2.2) (vRows (lv ag W H k f) 0 LW 0 a.1).length 2 1 (ints (vRows (lv ag W H k f) 0 LW 0 a.1))]) (fun a => a.1 ≤ LH) (fun a => LH - a.1) (0, none, 0) (Nat.zero_le _)
    rfl ⟨⟨rfl, rfl⟩, ⟨rfl, rfl⟩, trivial⟩ ⟨⟨rfl, rfl⟩, ⟨rfl, rfl⟩, ⟨rfl, rfl⟩, ⟨rfl, rfl⟩, ⟨rfl, rfl⟩, ⟨rfl, rfl⟩, ⟨rfl, rfl⟩, ⟨rfl, rfl⟩, trivial⟩ trivial (fun h s => sub_same (row_nil _ _ s)) ?_⟩
  rintro ⟨j, B, d⟩ hj
  simp only at hj
  conv => whnf
  refine ⟨fun h4 => ?_, fun h4 => ?_⟩
  · have g4 : j < LH := by simpa using h4
    conv => whnf
    refine ⟨trivial, LoopAt.heap (α := Nat × Option Addr × Nat) [0, 1, 8, 9, 10, 11, 13, 15, 44, 45, 48] (fun a => [(14, .v (.slice a.2.1 (vA (lv ag W H k f) 0 LW 0 j a.1).length a.2.2)), (49, .v (.int .i64 (a.1 : Int)))])
      (fun a => [rowH (.slice a.2.1 (vA (lv ag W H k f) 0 LW 0 j a.1).length a.2.2) (vA (lv ag W H k f) 0 LW 0 j a.1).length 2 1 (ints (vA (lv ag W H k f) 0 LW 0 j a.1))]) (fun a => a.1 ≤ LW) (fun a => LW - a.1) (0, B, d) (Nat.zero_le _)
      rfl ⟨⟨by simp [vA, vRow, getT], rfl⟩, ⟨rfl, rfl⟩, trivial⟩ ⟨⟨rfl, rfl⟩, ⟨rfl, rfl⟩, ⟨rfl, rfl⟩, ⟨rfl, rfl⟩, ⟨rfl, rfl⟩, ⟨rfl, rfl⟩, ⟨rfl, rfl⟩, ⟨rfl, rfl⟩, ⟨rfl, rfl⟩, ⟨rfl, rfl⟩, ⟨rfl, rfl⟩, trivial⟩ trivial (fun h s => sub_same (by simpa [vA, vRow] using s)) ?_⟩
    rintro ⟨i, B, d⟩ hi
    simp only at hi
    conv => whnf
    refine ⟨fun h5 => ?_, fun h5 => ?_⟩
    · have g5 : i < LW := by simpa using h5
      have hx : i < halfN W k := by omega
      have hy : j < halfN H k := by omega
      obtain ⟨sx1, sx2⟩ := sp_ok w1 hx
      obtain ⟨sy1, sy2⟩ := sp_ok h1 hy
      have hlen := lenB j i (by omega) (by omega)
      have hsl := spL_len (f := f) w2 h2 w1 h1 hx hy
      have hsm := spL_mem w1 h1 hx hy hmf
      have hval := fun (R' : HP) (hR' : ∀ w, Sat R' w → GridAt w gb W H f) => gValues_f hR' (i * 2 ^ k) (j * 2 ^ k) (spX1 W k i) (spX1 H k j) sx1 sx2 sy1 sy2
      obtain ⟨L, hL⟩ : ∃ L, spL W H k f i j = L := ⟨_, rfl⟩
      have hL' : vRows f (i * 2 ^ k) (spX1 W k i - i * 2 ^ k + 1) (j * 2 ^ k) (spX1 H k j - j * 2 ^ k + 1) = L := hL
      rw [hL'] at hval
      rw [hL] at hsl hsm
      have hlv : lv ag W H k f i j = ag L := by unfold lv; rw [hL]
      conv => whnf
      refine ⟨trivial, CallAt.pure (fun R' _ => sTSpan W H k i j hsz hk hx hy R') ?_⟩
      conv => whnf
      refine ⟨trivial, CallAt.fn (pre := []) _ (fun h s => s) (fun R' hR' => hval R' fun w s => hR w (hR' w s).rest) ?_⟩
      rintro r hs ⟨B2, d2, rfl, rfl⟩
      rcases hF with rfl | rfl | rfl
      all_goals
        conv => whnf
        refine ⟨trivial, CallAt.pure (fun R' hR' => hof R' _ _ _ L (Vs.row fun w s => (hR' w s).in_ 0 rfl) hsl.2 hsl.1 hsm) ?_⟩
        conv => whnf
        refine ⟨trivial, OpAt.lit [.int .i64 (ag L)] 1 rfl rfl rfl rfl rfl (by decide) rfl rfl rfl (by simp [Value.cells]) rfl (by decide) fun g2 => ?_⟩
        conv => whnf
        refine ⟨trivial, OpAt.append (.slice B (vA (lv ag W H k f) 0 LW 0 j i).length d) (vA (lv ag W H k f) 0 LW 0 j i).length 1 8 (ints (vA (lv ag W H k f) 0 LW 0 j i)) [.int .i64 (ag L)] (some ⟨g2, 0, none⟩) 1 1 _ rfl (fun h s => sepL_pull 2 s) rfl rfl rfl rfl rfl rfl rfl rfl rfl (by decide) (fun w hw => rowH_reads rfl (Sat.left hw)) (ints_one [_]) (by simp only [maxLen]; omega) (by omega) fun B' d' => ?_⟩
        conv => whnf
        refine ⟨⟨trivial, by unfold rng; omega⟩, Next.heap (i + 1, B', d') (by simp only; omega) (by simp only; omega) ⟨⟨?_, rfl⟩, ⟨rfl, rfl⟩, trivial⟩ ⟨⟨rfl, rfl⟩, ⟨rfl, rfl⟩, ⟨rfl, rfl⟩, ⟨rfl, rfl⟩, ⟨rfl, rfl⟩, ⟨rfl, rfl⟩, ⟨rfl, rfl⟩, ⟨rfl, rfl⟩, ⟨rfl, rfl⟩, ⟨rfl, rfl⟩, ⟨rfl, rfl⟩, trivial⟩ trivial rfl rfl fun h s => ?_⟩
        · rw [vA_next]; simp [getT]
        · obtain ⟨h', e, s'⟩ := sub_drop2 s
          refine ⟨h', e, ?_⟩
          rw [vA_next, ints_append]
          simpa [ints, hlv] using s'
    · have g5 : i = LW := by simp at h5; omega
      subst g5
      conv => whnf
      refine ⟨⟨trivial, by unfold rng; omega⟩, Next.heap (j + 1, B, d) (by simp only; omega) (by simp only; omega) ⟨⟨?_, rfl⟩, ⟨rfl, rfl⟩, trivial⟩ ⟨⟨rfl, rfl⟩, ⟨rfl, rfl⟩, ⟨rfl, rfl⟩, ⟨rfl, rfl⟩, ⟨rfl, rfl⟩, ⟨rfl, rfl⟩, ⟨rfl, rfl⟩, ⟨rfl, rfl⟩, trivial⟩ trivial rfl rfl fun h s => ?_⟩
      · rw [vRows_succ]; rfl
      · rw [vRows_succ]; exact sub_same s
  · have g4 : j = LH := by simp at h4; omega
    subst g4
    have hlen : (vRows (lv ag W H k f) 0 LW 0 j).length = LW * j := by rw [vRows_len, Nat.mul_comm]
    have hmm : ∀ v ∈ vRows (lv ag W H k f) 0 LW 0 j, MayV v := by
      intro v hv
      simp only [vRows, vRow, List.mem_flatMap, List.mem_map, List.mem_range] at hv
      obtain ⟨b, hb, a, ha, rfl⟩ := hv
      unfold lv
      have hx : 0 + a < halfN W k := by omega
      have hy : 0 + b < halfN H k := by omega
      refine hmay _ ?_ (spL_mem w1 h1 hx hy hmf)
      have := (spL_len (f := f) w2 h2 w1 h1 hx hy).1
      intro e; rw [e] at this; simp at this
    conv => whnf
    refine ⟨trivial, CallAt.fn (pre := []) _ (fun h s => s) (fun R' hR' => sFrom (Vs.row fun w s => (hR' w s).in_ 0 rfl) hmm (by omega) (by omega) (by omega) (by omega) hlen.symm) ?_⟩
    rintro r hs ⟨g2, rfl, rfl⟩
    conv => whnf
    refine ⟨trivial, .mk [gridH g2 LW j (lv ag W H k f)] (fun w ⟨h, hs, s⟩ => ?_) ⟨g2, rfl, rfl⟩⟩
    obtain ⟨h', e, s'⟩ := sub_drop1 s
    refine ⟨h', hs.mono e, sep_mono s' (fun _ g => gridH_congr (fun x y hx hy => ?_) g) fun _ x => x⟩
    exact gv_vRows hx hy
end Go.Proofs.Ytccpgalpahfpaaa
