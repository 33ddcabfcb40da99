/-
  Texts of the proofs, one behind the other: FiQ, FiB, FiG, FiH, FiI, FiJ.
-/
import Derived.Test.YtgfiakgahmpfkaaGreatDoorSNg14
import Derived.Test.YtgfiakgahmpfkaaGreatDoorSNg21
import Derived.Test.YtgfiakgahmpfkaaGreatDoorSNg15
namespace Go.Proofs.YtgfiakgahmpfkaaGreatDoor
open Go.RowKit
open Sy
set_option linter.unusedVariables false
set_option linter.unusedSimpArgs false
set_option maxRecDepth 100000
set_option maxHeartbeats 4000000

/-- a directory: sides, entries, the code -/
def dirR (b : List UInt8) : (Nat × Nat × List (Nat × Nat)) × Nat :=
  if b.length < 13 then ((0, 0, []), 14)
  else if b.take 5 ≠ [72, 65, 67, 72, 1] then ((0, 0, []), 13)
  else if 1024 < wireN b 5 2 + 1 ∨ 1024 < wireN b 7 2 + 1 then ((0, 0, []), 3)
  else if wireN b 9 4 ≠ tilesN (wireN b 5 2 + 1) (wireN b 7 2 + 1) then ((0, 0, []), 6)
  else if b.length < 13 + 8 * tilesN (wireN b 5 2 + 1) (wireN b 7 2 + 1) then ((0, 0, []), 14)
  else if (entsR b (tilesN (wireN b 5 2 + 1) (wireN b 7 2 + 1)) 0 (13 + 8 * tilesN (wireN b 5 2 + 1) (wireN b 7 2 + 1))).2 ≠ 0 then ((0, 0, []), 13)
  else ((wireN b 5 2 + 1, wireN b 7 2 + 1, (entsR b (tilesN (wireN b 5 2 + 1) (wireN b 7 2 + 1)) 0 (13 + 8 * tilesN (wireN b 5 2 + 1) (wireN b 7 2 + 1))).1), 0)
theorem entsR_len (b : List UInt8) : ∀ (m i a : Nat), (entsR b m i a).2 = 0 → (entsR b m i a).1.length = m := by
  intro m
  induction m with
  | zero => intro i a _; rfl
  | succ m ih =>
    intro i a h
    rw [entsR] at h ⊢
    split
    · rename_i h1; rw [if_pos h1] at h; simp at h
    rename_i h1
    rw [if_neg h1] at h
    split
    · rename_i h2; rw [if_pos h2] at h; simp at h
    rename_i h2
    have := ih (i + 1) _ (Decidable.not_not.1 h2)
    simp [this]
def tX1 (W i : Nat) : Nat := min (16 * i + 15) (W - 1)
/-- tiles of a size, row by row: those of j rows, and of i columns more -/
def tlRow (W H : Nat) (j i : Nat) : List (Nat × Nat × Nat × Nat) := (List.range i).map fun i => (16 * i, 16 * j, tX1 W i, tX1 H j)
def tlRows (W H : Nat) (j : Nat) : List (Nat × Nat × Nat × Nat) := (List.range j).flatMap fun j => tlRow W H j ((W + 15) / 16)
def tlAll (W H : Nat) : List (Nat × Nat × Nat × Nat) := tlRows W H ((H + 15) / 16)
theorem tlRow_succ (W H j i : Nat) : tlRow W H j (i + 1) = tlRow W H j i ++ [(16 * i, 16 * j, tX1 W i, tX1 H j)] := by simp [tlRow, List.range_succ]
theorem tlRows_succ (W H j : Nat) : tlRows W H (j + 1) = tlRows W H j ++ tlRow W H j ((W + 15) / 16) := by simp [tlRows, List.range_succ]
theorem tlRow_len (W H j i : Nat) : (tlRow W H j i).length = i := by simp [tlRow]
theorem tlRows_len (W H j : Nat) : (tlRows W H j).length = j * ((W + 15) / 16) := by
  induction j with
  | zero => simp [tlRows]
  | succ j ih => rw [tlRows_succ, List.length_append, ih, tlRow_len, Nat.succ_mul]
theorem tlAll_len (W H : Nat) : (tlAll W H).length = tilesN W H := by rw [tlAll, tlRows_len, tilesN, Nat.mul_comm]
/-- is a tile one of a size? -/
def IsTl (W H : Nat) (t : Nat × Nat × Nat × Nat) : Prop := ∃ i j, 16 * i < W ∧ 16 * j < H ∧ t = (16 * i, 16 * j, tX1 W i, tX1 H j)
theorem tlAll_is {W H : Nat} {t : Nat × Nat × Nat × Nat} (h : t ∈ tlAll W H) : IsTl W H t := by
  simp only [tlAll, tlRows, tlRow, List.mem_flatMap, List.mem_map, List.mem_range] at h
  obtain ⟨j, hj, i, hi, rfl⟩ := h
  exact ⟨i, j, by omega, by omega, rfl⟩
theorem IsTl.ok {W H : Nat} {t : Nat × Nat × Nat × Nat} (h : IsTl W H t) : t.1 ≤ t.2.2.1 ∧ t.2.2.1 < W ∧ t.2.1 ≤ t.2.2.2 ∧ t.2.2.2 < H ∧ t.2.2.1 < t.1 + 16 ∧ t.2.2.2 < t.2.1 + 16 := by
  obtain ⟨i, j, h1, h2, rfl⟩ := h
  simp only [tX1]
  omega
/-- a model's values with a rectangle pasted -/
def pasteL (W H : Nat) (t : Nat × Nat × Nat × Nat) (c l : List Int) : List Int :=
  vRows (pasteK t.1 t.2.1 (t.2.2.1 + 1 - t.1) ((t.2.2.1 + 1 - t.1) * (t.2.2.2 + 1 - t.2.1)) c (gv W l)) 0 W 0 H
/-- all tiles, one behind the other: the values, the predictors, the place behind -/
def loadGo (b : List UInt8) (W H : Nat) : List (Nat × Nat × Nat × Nat) → List (Nat × Nat) → List Int → List Nat → Nat → Option (List Int × List Nat × Nat)
  | [], _, l, k, e => some (l, k, e)
  | _ :: _, [], _, _, _ => none
  | t :: ts, x :: xs, l, k, e =>
    if b.length < x.1 + x.2 then none
    else if (tileR ((b.drop x.1).take x.2) (t.2.2.1 + 1 - t.1) (t.2.2.2 + 1 - t.2.1)).2.2 ≠ 0 then none
    else loadGo b W H ts xs (pasteL W H t (tileR ((b.drop x.1).take x.2) (t.2.2.1 + 1 - t.1) (t.2.2.2 + 1 - t.2.1)).1 l) (k ++ [(tileR ((b.drop x.1).take x.2) (t.2.2.1 + 1 - t.1) (t.2.2.2 + 1 - t.2.1)).2.1]) (x.1 + x.2)
/-- what stands in a file's bytes that have no sum behind -/
def loadIn (b : List UInt8) : Option (Nat × Nat × List Int × List Nat) :=
  if (dirR b).2 ≠ 0 then none
  else match loadGo b (dirR b).1.1 (dirR b).1.2.1 (tlAll (dirR b).1.1 (dirR b).1.2.1) (dirR b).1.2.2 (List.replicate ((dirR b).1.1 * (dirR b).1.2.1) 0) [] 0 with
    | none => none
    | some (l, k, e) => if e ≠ b.length then none else some ((dirR b).1.1, (dirR b).1.2.1, l, k)

/-- rests, the place behind, the code; or no rests -/
def PostI (q : List Int × Nat × Nat) (r : Value) (hs : List HP) : Prop :=
  (q.2.2 ≠ 0 ∧ r = .tuple #[.slice none 0 0, .int .i64 0, .int .i64 (q.2.2 : Int)] ∧ hs = []) ∨
  (q.2.2 = 0 ∧ ∃ B c, r = .tuple #[.slice B q.1.length c, .int .i64 (q.2.1 : Int), .int .i64 0] ∧ hs = [rowH (.slice B q.1.length c) q.1.length 2 1 (ints q.1)])
theorem fin_dropP {G : Gl} {st : St} {r : Value} {post : Value → List HP → Prop} (h : post r []) : Fin G r st post := ⟨[], fun w ⟨h, h1, s⟩ => by
  obtain ⟨h', e, s2⟩ := sub_nil s
  exact ⟨h', h1.mono e, s2⟩, h⟩
theorem postI_bad {Q : List Int × Nat × Nat} {out : List Int} {k : Nat} (hk : k ≠ 0) (h : Q = prep out ([], 0, k)) : PostI Q (.tuple #[.slice none 0 0, .int .i64 0, .int .i64 (k : Int)]) [] := by
  rw [prep_bad hk] at h
  subst h
  exact .inl ⟨hk, rfl, rfl⟩
theorem ints_oneF (l : List Int) : ∀ u ∈ ints l, u.oneCell' = true := by
  intro u hu
  simp only [ints, List.mem_map] at hu
  obtain ⟨z, _, rfl⟩ := hu
  rfl
theorem sRunsGet {R : HP} {A : Option Addr} {n c : Nat} {b : List UInt8} (ha : Sl R A n 1 (byts b)) (hl : b.length = n) (hnc : n ≤ c) (hc : c ≤ 9223372036854775807) (hn : n ≤ 140737488351232) (a m : Nat) (ham : a ≤ n) (hm : m ≤ 1048576) :
    FnR Tryz.prog R 57 [.slice A n c, .int .i64 (a : Int), .int .i64 (m : Int)] [] (PostI (runsR b m m a false)) := by
  have hleb := fun R' (h : ∀ w, Sat R' w → Sat R w) (x : Nat) => sLebGet (R := R') (c := c) (ha.mono h) hl hnc hc hn (x : Int)
  obtain ⟨Q, hQ⟩ : ∃ Q, runsR b m m a false = Q := ⟨_, rfl⟩
  rw [hQ]
  refine fn_of_run0 false Tryz.func57 rfl hmix rfl fun w0 => ?_
  conv => whnf
  repeat (first | (refine And.intro ?_ ?_; rotate_left; (focus (intro g; exfalso; first | (simp at g; done) | (simp at g; omega) | (revert g; decide))); intro _; conv => whnf) | (refine And.intro ?_ ?_; (focus (intro g; exfalso; first | (simp at g; done) | (simp at g; omega) | (revert g; decide))); intro _; conv => whnf))
  refine ⟨trivial, OpAt.lit [] 1 rfl rfl rfl rfl rfl (by decide) rfl rfl rfl (by simp) rfl (by decide) fun g => ?_⟩
  conv => whnf
  refine ⟨trivial, LoopAt.heap (α := List Int × Nat × Bool × Option Addr × Nat) [0, 2] (fun x => [(1, .v (.int .i64 (x.2.1 : Int))), (9, .v (.slice x.2.2.2.1 x.1.length x.2.2.2.2)), (10, .k x.2.2.1)])
    (fun x => [rowH (.slice x.2.2.2.1 x.1.length x.2.2.2.2) x.1.length 2 1 (ints x.1)]) (fun x => x.1.length ≤ m ∧ x.2.1 ≤ n ∧ ∃ f, m - x.1.length ≤ f ∧ Q = prep x.1 (runsR b f (m - x.1.length) x.2.1 x.2.2.1)) (fun x => m - x.1.length) ([], a, false, some ⟨g, 0, none⟩, 0)
    ⟨Nat.zero_le _, ham, m, by simp, by rw [List.length_nil, Nat.sub_zero, prep_nil (runsR_bad b m m a false), hQ]⟩ rfl ⟨⟨rfl, rfl⟩, ⟨rfl, rfl⟩, ⟨rfl, rfl⟩, trivial⟩ ⟨⟨rfl, rfl⟩, ⟨rfl, rfl⟩, trivial⟩ trivial (fun h s => sub_same s) ?_⟩
  rintro ⟨out, p, last, B, d⟩ ⟨i1, i2, f, i3, i4⟩
  simp only at i1 i2 i3 i4
  conv => whnf
  refine ⟨fun h => ?_, fun h => ?_⟩
  · have h : out.length < m := by simpa using h
    obtain ⟨f, rfl⟩ : ∃ f', f = f' + 1 := ⟨f - 1, by omega⟩
    rw [runsR, if_neg (by omega)] at i4
    conv => whnf
    refine ⟨trivial, CallAt.pure (fun R' hR' => hleb R' (fun w s => Sat.rest (hR' w s)) p) ?_⟩
    have hnext := lebAt_next (l := b) (a := p)
    unfold getVal
    obtain ⟨⟨u, e, k⟩, hr⟩ : ∃ r, lebAt b (p : Int) = r := ⟨_, rfl⟩
    rw [hr] at hnext i4 ⊢
    simp only at hnext i4 ⊢
    conv => whnf
    by_cases hk : k = 0
    · subst hk
      obtain ⟨n1, n2, n3⟩ := hnext rfl
      rw [if_neg (by decide)] at i4
      refine ⟨fun g => absurd g (by decide), fun _ => ?_⟩
      conv => whnf
      by_cases hu : 0 < u
      · rw [if_pos hu] at i4
        refine ⟨fun _ => ?_, fun g => absurd g (by simp; omega)⟩
        conv => whnf
        refine ⟨trivial, CallAt.pure (fun R' hR' => sUnfold u n3) ?_⟩
        conv => whnf
        refine ⟨trivial, OpAt.lit [.int .i64 (unfoldZ (u : Nat))] 1 rfl rfl rfl rfl rfl (by decide) rfl rfl rfl (by simp [Value.cells]) rfl (by decide) fun g2 => ?_⟩
        conv => whnf
        refine ⟨trivial, OpAt.append (.slice B out.length d) out.length 1 8 (ints out) [.int .i64 (unfoldZ (u : Nat))] (some ⟨g2, 0, none⟩) 1 1 _ rfl (fun h s => sepL_pull 1 s) rfl rfl rfl rfl rfl rfl rfl rfl rfl (by decide) (fun w hw => rowH_reads rfl (Sat.left hw)) (ints_oneF [_]) (by simp only [maxLen]; omega) (by omega) fun B' d' => ?_⟩
        conv => whnf
        refine ⟨trivial, Next.heap (out ++ [unfoldZ (u : Nat)], e, false, B', d') ⟨by simp; omega, by simp only; omega, f, by simp; omega, ?_⟩ (by simp; omega) ⟨⟨rfl, rfl⟩, ⟨?_, rfl⟩, ⟨rfl, rfl⟩, trivial⟩ ⟨⟨rfl, rfl⟩, ⟨rfl, rfl⟩, trivial⟩ trivial rfl rfl fun h s => ?_⟩
        · rw [prep_prep, show m - out.length - 1 = m - (out ++ [unfoldZ (u : Nat)]).length by simp; omega] at i4
          exact i4
        · simp [getT]
        · obtain ⟨h', e', s'⟩ := sub_tail (sepL_pull 1 s)
          refine ⟨h', e', ?_⟩
          simp only [List.length_append, List.length_singleton]
          rw [ints_append]
          simpa [ints] using s'
      · obtain rfl : u = 0 := by omega
        rw [if_neg hu] at i4
        refine ⟨fun g => absurd g (by decide), fun _ => ?_⟩
        conv => whnf
        cases last with
        | true =>
          rw [if_pos rfl] at i4
          conv => whnf
          exact ⟨trivial, fin_dropP (postI_bad (by decide) i4)⟩
        | false =>
          rw [if_neg (by decide)] at i4
          conv => whnf
          refine ⟨trivial, CallAt.pure (fun R' hR' => hleb R' (fun w s => Sat.rest (hR' w s)) e) ?_⟩
          have hnext2 := lebAt_next (l := b) (a := e)
          unfold getVal
          obtain ⟨⟨v, e2, k2⟩, hr2⟩ : ∃ r, lebAt b (e : Int) = r := ⟨_, rfl⟩
          rw [hr2] at hnext2 i4 ⊢
          simp only at hnext2 i4 ⊢
          conv => whnf
          by_cases hk2 : k2 = 0
          · subst hk2
            obtain ⟨o1, o2, o3⟩ := hnext2 rfl
            rw [if_neg (by decide)] at i4
            refine ⟨fun g => absurd g (by decide), fun _ => ?_⟩
            conv => whnf
            have hw : IntKind.u64.wrap ((m : Int) - (out.length : Int) - 1) = ((m - out.length - 1 : Nat) : Int) := by rw [IntWalk.u64_in _ (by omega)]; omega
            by_cases hv : m - out.length - 1 < v
            · rw [if_pos hv] at i4
              refine ⟨fun _ => ?_, fun g => ?_⟩
              · conv => whnf
                exact ⟨(by (repeat' apply And.intro) <;> first | exact True.intro | (unfold rng; omega) | omega), fin_dropP (postI_bad (by decide) i4)⟩
              · have g : ¬ (IntKind.u64.wrap ((m : Int) - (out.length : Int) - 1) < (v : Int)) := of_decide_eq_false g
                rw [hw] at g
                omega
            · rw [if_neg hv] at i4
              refine ⟨fun g => ?_, fun _ => ?_⟩
              · have g : IntKind.u64.wrap ((m : Int) - (out.length : Int) - 1) < (v : Int) := of_decide_eq_true g
                rw [hw] at g
                omega
              conv => whnf
              refine ⟨(by (repeat' apply And.intro) <;> first | exact True.intro | (unfold rng; omega) | omega), LoopAt.heap (α := Nat × Option Addr × Nat) [0, 2, 14, 15] (fun x => [(9, .v (.slice x.2.1 (out.length + x.1) x.2.2)), (17, .v (.int .u64 (x.1 : Int)))])
                (fun x => [rowH (.slice x.2.1 (out.length + x.1) x.2.2) (out.length + x.1) 2 1 (ints (out ++ List.replicate x.1 0))]) (fun x => x.1 ≤ v + 1) (fun x => v + 1 - x.1) (0, B, d) (Nat.zero_le _) rfl ⟨⟨rfl, rfl⟩, ⟨rfl, rfl⟩, trivial⟩ ⟨⟨rfl, rfl⟩, ⟨rfl, rfl⟩, ⟨rfl, rfl⟩, ⟨rfl, rfl⟩, trivial⟩ trivial (fun h s => sub_same (by simpa using s)) ?_⟩
              rintro ⟨j, B2, d2⟩ hj
              simp only at hj
              conv => whnf
              refine ⟨fun g => ?_, fun g => ?_⟩
              · have g : j ≤ v := by simpa using g
                conv => whnf
                refine ⟨(by (repeat' apply And.intro) <;> first | exact True.intro | (unfold rng; omega) | omega), OpAt.lit [.int .i64 0] 1 rfl rfl rfl rfl rfl (by decide) rfl rfl rfl (by simp [Value.cells]) rfl (by decide) fun g2 => ?_⟩
                conv => whnf
                refine ⟨trivial, OpAt.append (.slice B2 (out.length + j) d2) (out.length + j) 1 8 (ints (out ++ List.replicate j 0)) [.int .i64 0] (some ⟨g2, 0, none⟩) 1 1 _ rfl (fun h s => sepL_pull 1 s) rfl rfl rfl rfl rfl rfl rfl rfl rfl (by decide) (fun w hw => rowH_reads rfl (Sat.left hw)) (ints_oneF [_]) (by simp only [maxLen]; omega) (by omega) fun B' d' => ?_⟩
                conv => whnf
                have hj1 : IntKind.u64.wrap ((j : Int) + 1) = ((j + 1 : Nat) : Int) := by rw [IntWalk.u64_in _ (by omega)]; omega
                refine ⟨(by (repeat' apply And.intro) <;> first | exact True.intro | (unfold rng; omega) | omega), Next.heap (j + 1, B', d') (by simp only; omega) (by simp only; omega) ⟨⟨rfl, rfl⟩, ⟨?_, rfl⟩, trivial⟩ ⟨⟨rfl, rfl⟩, ⟨rfl, rfl⟩, ⟨rfl, rfl⟩, ⟨rfl, rfl⟩, trivial⟩ trivial rfl rfl fun h s => ?_⟩
                · exact congrArg (fun z => some (SV.v (Value.int .u64 z))) hj1
                · obtain ⟨h', e', s'⟩ := sub_tail (sepL_pull 1 s)
                  refine ⟨h', e', ?_⟩
                  rw [List.replicate_succ', ← List.append_assoc, ints_append]
                  exact s'
              · have g : j = v + 1 := by simp at g; omega
                subst g
                conv => whnf
                refine ⟨(by (repeat' apply And.intro) <;> first | exact True.intro | (unfold rng; omega) | omega), Next.heap (out ++ List.replicate (v + 1) 0, e2, true, B2, d2) ⟨by simp; omega, by simp only; omega, f, by simp; omega, ?_⟩ (by simp; omega) ⟨⟨rfl, rfl⟩, ⟨?_, rfl⟩, ⟨rfl, rfl⟩, trivial⟩ ⟨⟨rfl, rfl⟩, ⟨rfl, rfl⟩, trivial⟩ trivial rfl rfl fun h s => ?_⟩
                · rw [prep_prep, show m - out.length - 1 - v = m - (out ++ List.replicate (v + 1) 0).length by simp; omega] at i4
                  exact i4
                · simp [getT]
                · exact sub_same (by simpa using s)
          · rw [if_pos hk2] at i4
            refine ⟨fun _ => ?_, fun g => absurd g (by simpa using hk2)⟩
            conv => whnf
            exact ⟨trivial, fin_dropP (postI_bad hk2 i4)⟩
    · rw [if_pos hk] at i4
      refine ⟨fun _ => ?_, fun g => absurd g (by simpa using hk)⟩
      conv => whnf
      exact ⟨trivial, fin_dropP (postI_bad hk i4)⟩
  · have h : m ≤ out.length := by simpa using h
    have e0 : m - out.length = 0 := by omega
    rw [e0] at i4
    have e1 : runsR b f 0 p last = ([], p, 0) := by cases f <;> simp [runsR]
    rw [e1] at i4
    simp only [prep, List.append_nil, if_true] at i4
    subst i4
    conv => whnf
    exact ⟨trivial, .mk _ (fun w s => s) (.inr ⟨rfl, B, d, rfl, rfl⟩)⟩

/-- tiles till row j, and of it till column i -/
def tlA (W H j i : Nat) : List (Nat × Nat × Nat × Nat) := tlRows W H (min j ((H + 15) / 16)) ++ (if j < (H + 15) / 16 then tlRow W H j (min i ((W + 15) / 16)) else [])
theorem tlA_next (W H j i : Nat) : tlA W H j (i + 1) = if 16 * i < W ∧ 16 * j < H then tlA W H j i ++ [(16 * i, 16 * j, tX1 W i, tX1 H j)] else tlA W H j i := by
  unfold tlA
  by_cases hj : j < (H + 15) / 16
  · rw [if_pos hj, if_pos hj]
    by_cases hi : 16 * i < W
    · rw [if_pos ⟨hi, by omega⟩, show min (i + 1) ((W + 15) / 16) = i + 1 by omega, show min i ((W + 15) / 16) = i by omega, tlRow_succ, List.append_assoc]
    · rw [if_neg (fun c => hi c.1), show min (i + 1) ((W + 15) / 16) = min i ((W + 15) / 16) by omega]
  · rw [if_neg hj, if_neg hj, if_neg (by omega)]
theorem tlA_row (W H j : Nat) (hW : W ≤ 1024) : tlA W H j 64 = tlA W H (j + 1) 0 := by
  unfold tlA
  by_cases hj : j < (H + 15) / 16
  · rw [if_pos hj, show min j ((H + 15) / 16) = j by omega, show min 64 ((W + 15) / 16) = (W + 15) / 16 by omega, show min (j + 1) ((H + 15) / 16) = j + 1 by omega, tlRows_succ]
    simp [tlRow]
  · rw [if_neg hj, if_neg (by omega), show min (j + 1) ((H + 15) / 16) = min j ((H + 15) / 16) by omega]
theorem tlA_all (W H : Nat) (hH : H ≤ 1024) : tlA W H 64 0 = tlAll W H := by
  unfold tlA tlAll
  rw [show min 64 ((H + 15) / 16) = (H + 15) / 16 by omega]
  split <;> simp [tlRow]
theorem tlA_len (W H j i : Nat) (hW : W ≤ 1024) (hH : H ≤ 1024) : (tlA W H j i).length ≤ 4200 := by
  unfold tlA
  rw [List.length_append, tlRows_len]
  have h1 := Nat.mul_le_mul (show min j ((H + 15) / 16) ≤ 64 by omega) (show (W + 15) / 16 ≤ 64 by omega)
  split
  · rw [tlRow_len]; omega
  · simp; omega
theorem sPieces07 {R : HP} (W H : Nat) (hW0 : 1 ≤ W) (hW : W ≤ 1024) (hH0 : 1 ≤ H) (hH : H ≤ 1024) :
    FnR Tryz.prog R 54 [rectV 0 0 ((W - 1 : Nat) : Int) ((H - 1 : Nat) : Int)] [] fun r hs => ∃ B c, r = .slice B (tlAll W H).length c ∧ hs = [rowH (.slice B (tlAll W H).length c) (tlAll W H).length 23 4 (encT (tlAll W H))] := by
  have hmeet := fun R' (i j : Nat) (hi : i < 64) (hj : j < 64) => by
    have := rMeetQ ⟨0, 0, ((W - 1 : Nat) : Int), ((H - 1 : Nat) : Int)⟩ ⟨((16 * i : Nat) : Int), ((16 * j : Nat) : Int), ((16 * i + 15 : Nat) : Int), ((16 * j + 15 : Nat) : Int)⟩ R'
    rw [meet_tile hW hH hi hj hW0 hH0] at this
    exact this
  have e0 : tlA W H 0 0 = [] := by simp [tlA, tlRows, tlRow]
  refine fn_of_run0 false Tryz.func54 rfl hmix rfl fun w0 => ?_
  conv => whnf
  refine ⟨trivial, OpAt.lit [] 4 rfl rfl rfl rfl rfl (by decide) rfl rfl rfl (by simp) rfl (by decide) fun g => ?_⟩
  conv => whnf
  refine ⟨trivial, LoopAt.heap (α := Nat × Option Addr × Nat) [1] (fun x => [(3, .v (.slice x.2.1 (tlA W H x.1 0).length x.2.2)), (4, .v (.int .i64 (x.1 : Int)))])
    (fun x => [rowH (.slice x.2.1 (tlA W H x.1 0).length x.2.2) (tlA W H x.1 0).length 23 4 (encT (tlA W H x.1 0))]) (fun x => x.1 ≤ 64) (fun x => 64 - x.1) (0, some ⟨g, 0, none⟩, 0) (Nat.zero_le _) rfl
    ⟨⟨by simp [e0, getT], rfl⟩, ⟨rfl, rfl⟩, trivial⟩ ⟨⟨rfl, rfl⟩, trivial⟩ ⟨⟨rfl, rfl, rfl, rfl⟩, trivial⟩ (fun h s => sub_same (by simp only [e0]; exact s)) ?_⟩
  rintro ⟨j, B, d⟩ hj
  simp only at hj
  conv => whnf
  refine ⟨fun h => ?_, fun h => ?_⟩
  · have hj2 : j < 64 := by simp at h; omega
    conv => whnf
    refine ⟨trivial, LoopAt.heap (α := Nat × Option Addr × Nat) [1, 4] (fun x => [(3, .v (.slice x.2.1 (tlA W H j x.1).length x.2.2)), (5, .v (.int .i64 (x.1 : Int)))])
      (fun x => [rowH (.slice x.2.1 (tlA W H j x.1).length x.2.2) (tlA W H j x.1).length 23 4 (encT (tlA W H j x.1))]) (fun x => x.1 ≤ 64) (fun x => 64 - x.1) (0, B, d) (Nat.zero_le _) rfl
      ⟨⟨rfl, rfl⟩, ⟨rfl, rfl⟩, trivial⟩ ⟨⟨rfl, rfl⟩, ⟨rfl, rfl⟩, trivial⟩ ⟨⟨rfl, rfl, rfl, rfl⟩, trivial⟩ (fun h s => sub_same s) ?_⟩
    rintro ⟨i, B, d⟩ hi
    simp only at hi
    conv => whnf
    refine ⟨fun h => ?_, fun h => ?_⟩
    · have hi2 : i < 64 := by simp at h; omega
      have hm := fun R' => hmeet R' i j hi2 hj2
      have hnx := tlA_next W H j i
      have hle := tlA_len W H j i hW hH
      generalize tlA W H j i = L at *
      have m1 : (16 : Int) * (i : Int) = ((16 * i : Nat) : Int) := by simp
      have m2 : (16 : Int) * (j : Int) = ((16 * j : Nat) : Int) := by simp
      have m3 : (16 : Int) * (i : Int) + 15 = ((16 * i + 15 : Nat) : Int) := by omega
      have m4 : (16 : Int) * (j : Int) + 15 = ((16 * j + 15 : Nat) : Int) := by omega
      by_cases hin : 16 * i < W ∧ 16 * j < H
      · simp only [if_pos hin] at hm
        rw [if_pos hin] at hnx
        conv => whnf
        refine ⟨(by (repeat' apply And.intro) <;> first | exact True.intro | (unfold rng; simp only; omega) | (simp only; omega) | (unfold rng; omega) | omega), CallAt.pure (v := .tuple #[rectV ((16 * i : Nat) : Int) ((16 * j : Nat) : Int) ((min (16 * i + 15) (W - 1) : Nat) : Int) ((min (16 * j + 15) (H - 1) : Nat) : Int), .bool true]) (fun R' hR' => by
          show PureR _ _ _ [_, rectV (16 * (i : Int)) (16 * (j : Int)) (16 * (i : Int) + 15) (16 * (j : Int) + 15)] _
          rw [m3, m4, m1, m2]; exact hm R') ?_⟩
        conv => whnf
        repeat (first | (refine And.intro ?_ ?_; rotate_left; (focus (intro g; exfalso; first | (simp at g; done) | (simp at g; omega) | (revert g; decide))); intro _; conv => whnf) | (refine And.intro ?_ ?_; (focus (intro g; exfalso; first | (simp at g; done) | (simp at g; omega) | (revert g; decide))); intro _; conv => whnf))
        refine ⟨(by (repeat' apply And.intro) <;> first | exact True.intro | (unfold rng; omega) | omega), OpAt.lit [rectV ((16 * i : Nat) : Int) ((16 * j : Nat) : Int) ((min (16 * i + 15) (W - 1) : Nat) : Int) ((min (16 * j + 15) (H - 1) : Nat) : Int)] 4 rfl rfl rfl rfl rfl (by decide) rfl rfl rfl (by simp [Value.cells]) rfl (by decide) fun g2 => ?_⟩
        conv => whnf
        refine ⟨trivial, OpAt.append (.slice B L.length d) L.length 4 32 (encT L) (cellsOf [rectV ((16 * i : Nat) : Int) ((16 * j : Nat) : Int) ((min (16 * i + 15) (W - 1) : Nat) : Int) ((min (16 * j + 15) (H - 1) : Nat) : Int)]) (some ⟨g2, 0, none⟩) 1 1 _ rfl (fun h s => sepL_pull 1 s) rfl rfl rfl rfl rfl rfl rfl rfl rfl (by decide) (fun w hw => rowH_reads rfl (Sat.left hw)) (by intro u hu; simp [cellsOf, Value.cells] at hu; rcases hu with rfl | rfl | rfl | rfl <;> rfl) (by simp only [maxLen]; omega) (by omega) fun B' d' => ?_⟩
        conv => whnf
        refine ⟨(by (repeat' apply And.intro) <;> first | exact True.intro | (unfold rng; simp only; omega) | (simp only; omega) | (unfold rng; omega) | omega), Next.heap (i + 1, B', d') (by simp only; omega) (by simp only; omega) ⟨⟨?_, rfl⟩, ⟨rfl, rfl⟩, trivial⟩ ⟨⟨rfl, rfl⟩, ⟨rfl, rfl⟩, trivial⟩ ⟨⟨rfl, rfl, rfl, rfl⟩, trivial⟩ rfl rfl fun h s => ?_⟩
        · simp [hnx, getT]
        · obtain ⟨h', e', s'⟩ := sub_tail (sepL_pull 1 s)
          refine ⟨h', e', ?_⟩
          simp only [hnx, List.length_append, List.length_singleton]
          have e1 : encT (L ++ [(16 * i, 16 * j, tX1 W i, tX1 H j)]) = encT L ++ cellsOf [rectV ((16 * i : Nat) : Int) ((16 * j : Nat) : Int) ((min (16 * i + 15) (W - 1) : Nat) : Int) ((min (16 * j + 15) (H - 1) : Nat) : Int)] := by
            simp [encT, cellsOf, Value.cells, tX1]
          rw [e1]
          exact s'
      · simp only [if_neg hin] at hm
        rw [if_neg hin] at hnx
        conv => whnf
        refine ⟨(by (repeat' apply And.intro) <;> first | exact True.intro | (unfold rng; simp only; omega) | (simp only; omega) | (unfold rng; omega) | omega), CallAt.pure (v := .tuple #[rectV 0 0 0 0, .bool false]) (fun R' hR' => by
          show PureR _ _ _ [_, rectV (16 * (i : Int)) (16 * (j : Int)) (16 * (i : Int) + 15) (16 * (j : Int) + 15)] _
          rw [m3, m4, m1, m2]; exact hm R') ?_⟩
        conv => whnf
        repeat (first | (refine And.intro ?_ ?_; rotate_left; (focus (intro g; exfalso; first | (simp at g; done) | (simp at g; omega) | (revert g; decide))); intro _; conv => whnf) | (refine And.intro ?_ ?_; (focus (intro g; exfalso; first | (simp at g; done) | (simp at g; omega) | (revert g; decide))); intro _; conv => whnf))
        conv => whnf
        refine ⟨(by (repeat' apply And.intro) <;> first | exact True.intro | (unfold rng; simp only; omega) | (simp only; omega) | (unfold rng; omega) | omega), Next.heap (i + 1, B, d) (by simp only; omega) (by simp only; omega) ⟨⟨?_, rfl⟩, ⟨rfl, rfl⟩, trivial⟩ ⟨⟨rfl, rfl⟩, ⟨rfl, rfl⟩, trivial⟩ ⟨⟨rfl, rfl, rfl, rfl⟩, trivial⟩ rfl rfl fun h s => ?_⟩
        · simp only [hnx]; rfl
        · simp only [hnx]; exact sub_same s
    · obtain rfl : i = 64 := by simp at h; omega
      conv => whnf
      refine ⟨(by (repeat' apply And.intro) <;> first | exact True.intro | (unfold rng; simp only; omega) | (simp only; omega) | (unfold rng; omega) | omega), Next.heap (j + 1, B, d) (by simp only; omega) (by simp only; omega) ⟨⟨?_, rfl⟩, ⟨rfl, rfl⟩, trivial⟩ ⟨⟨rfl, rfl⟩, trivial⟩ ⟨⟨rfl, rfl, rfl, rfl⟩, trivial⟩ rfl rfl fun h s => ?_⟩
      · simp only [← tlA_row W H j hW]; rfl
      · simp only [← tlA_row W H j hW]; exact sub_same s
  · obtain rfl : j = 64 := by simp at h; omega
    rw [← tlA_all W H hH]
    conv => whnf
    exact ⟨trivial, .mk _ (fun w s => s) ⟨B, d, rfl, rfl⟩⟩

theorem sTiles13 {R : HP} (W H : Nat) (hW0 : 1 ≤ W) (hW : W ≤ 1024) (hH0 : 1 ≤ H) (hH : H ≤ 1024) :
    PureR Tryz.prog R 52 [.int .i64 (W : Int), .int .i64 (H : Int)] (.tuple #[.int .i64 (tilesN W H : Nat), .int .i64 0]) := by
  have e1 : (W : Int) - 1 = ((W - 1 : Nat) : Int) := by omega
  have e2 : (H : Int) - 1 = ((H - 1 : Nat) : Int) := by omega
  refine fn_of_run0 false Tryz.func52 rfl hmix rfl fun w0 => ?_
  conv => whnf
  repeat (first | (refine And.intro ?_ ?_; rotate_left; (focus (intro g; exfalso; first | (simp at g; done) | (simp at g; omega) | (revert g; decide))); intro _; conv => whnf) | (refine And.intro ?_ ?_; (focus (intro g; exfalso; first | (simp at g; done) | (simp at g; omega) | (revert g; decide))); intro _; conv => whnf))
  conv => whnf
  refine ⟨(by (repeat' apply And.intro) <;> first | exact True.intro | (unfold rng; omega) | omega), CallAt.fn (pre := []) _ (fun h s => s) (fun R' hR' => by rw [e1, e2]; exact sPieces07 W H hW0 hW hH0 hH) ?_⟩
  rintro r hs ⟨B, c, rfl, rfl⟩
  rw [tlAll_len]
  conv => whnf
  exact ⟨(by (repeat' apply And.intro) <;> first | exact True.intro | (unfold rng; omega) | omega), fin_drop rfl⟩
theorem sTiles13Bad {R : HP} (W H : Nat) (hW0 : 1 ≤ W) (hH0 : 1 ≤ H) (h : 1024 < W ∨ 1024 < H) :
    PureR Tryz.prog R 52 [.int .i64 (W : Int), .int .i64 (H : Int)] (.tuple #[.int .i64 0, .int .i64 3]) := by
  refine fn_of_run0 false Tryz.func52 rfl hmix rfl fun w0 => ?_
  by_cases c : 1024 < W
  · conv => whnf
    repeat (first | (refine And.intro ?_ ?_; rotate_left; (focus (intro g; exfalso; first | (simp at g; done) | (simp at g; omega) | (revert g; decide))); intro _; conv => whnf) | (refine And.intro ?_ ?_; (focus (intro g; exfalso; first | (simp at g; done) | (simp at g; omega) | (revert g; decide))); intro _; conv => whnf))
    exact ⟨(by (repeat' apply And.intro) <;> first | exact True.intro | (unfold rng; omega) | omega), fin_drop rfl⟩
  · have c2 : 1024 < H := by omega
    conv => whnf
    repeat (first | (refine And.intro ?_ ?_; rotate_left; (focus (intro g; exfalso; first | (simp at g; done) | (simp at g; omega) | (revert g; decide))); intro _; conv => whnf) | (refine And.intro ?_ ?_; (focus (intro g; exfalso; first | (simp at g; done) | (simp at g; omega) | (revert g; decide))); intro _; conv => whnf))
    exact ⟨(by (repeat' apply And.intro) <;> first | exact True.intro | (unfold rng; omega) | omega), fin_drop rfl⟩
theorem sAll09 {R : HP} (W H : Nat) (A : Option Addr) (n c : Nat) (hW0 : 1 ≤ W) (hW : W ≤ 1024) (hH0 : 1 ≤ H) (hH : H ≤ 1024) :
    PureR Tryz.prog R 55 [modV W H A n c] (rectV 0 0 ((W - 1 : Nat) : Int) ((H - 1 : Nat) : Int)) := by
  have e1 : (W : Int) - 1 = ((W - 1 : Nat) : Int) := by omega
  have e2 : (H : Int) - 1 = ((H - 1 : Nat) : Int) := by omega
  refine fn_of_run0 false Tryz.func55 rfl hmix rfl fun w0 => ?_
  conv => whnf
  refine ⟨(by (repeat' apply And.intro) <;> first | exact True.intro | (unfold rng; omega) | omega), fin_drop ?_⟩
  rw [← e1, ← e2]
  rfl
theorem sTiles09 {R : HP} (W H : Nat) (A : Option Addr) (n c : Nat) (hW0 : 1 ≤ W) (hW : W ≤ 1024) (hH0 : 1 ≤ H) (hH : H ≤ 1024) :
    FnR Tryz.prog R 30 [modV W H A n c] [] fun r hs => ∃ B c, r = .slice B (tlAll W H).length c ∧ hs = [rowH (.slice B (tlAll W H).length c) (tlAll W H).length 23 4 (encT (tlAll W H))] := by
  refine fn_of_run0 false Tryz.func30 rfl hmix rfl fun w0 => ?_
  conv => whnf
  refine ⟨trivial, CallAt.pure (fun R' hR' => sAll09 W H A n c hW0 hW hH0 hH) ?_⟩
  conv => whnf
  refine ⟨trivial, CallAt.fn (pre := []) _ (fun h s => s) (fun R' hR' => sPieces07 W H hW0 hW hH0 hH) ?_⟩
  rintro r hs ⟨B, cb, rfl, rfl⟩
  conv => whnf
  exact ⟨(by (repeat' apply And.intro) <;> first | exact True.intro | (unfold rng; omega) | omega), .mk _ (fun w s => s) ⟨B, cb, rfl, rfl⟩⟩
theorem sSize14 {R : HP} (x0 y0 x1 y1 : Nat) (h1 : x0 ≤ x1) (h2 : x1 < 1024) (h3 : y0 ≤ y1) (h4 : y1 < 1024) :
    PureR Tryz.prog R 31 [rectV x0 y0 x1 y1] (.tuple #[.int .i64 ((x1 + 1 - x0 : Nat) : Int), .int .i64 ((y1 + 1 - y0 : Nat) : Int)]) := by
  have e1 : (x1 : Int) - (x0 : Int) + 1 = ((x1 + 1 - x0 : Nat) : Int) := by omega
  have e2 : (y1 : Int) - (y0 : Int) + 1 = ((y1 + 1 - y0 : Nat) : Int) := by omega
  refine fn_of_run0 false Tryz.func31 rfl hmix rfl fun w0 => ?_
  conv => whnf
  refine ⟨trivial, RegAt.quiet hmix (by kernel_rfl) ?_⟩
  conv => whnf
  refine ⟨(by (repeat' apply And.intro) <;> first | exact True.intro | (unfold rng; omega) | omega), ?_⟩
  conv => whnf
  refine ⟨(by (repeat' apply And.intro) <;> first | exact True.intro | (unfold rng; omega) | omega), fin_drop ?_⟩
  rw [← e1, ← e2]
  rfl

theorem sNew08 {R : HP} (W H : Nat) (v : Int) (hv : MayV v) (hW0 : 1 ≤ W) (hW : W ≤ 1024) (hH0 : 1 ≤ H) (hH : H ≤ 1024) :
    FnR Tryz.prog R 53 [.int .i64 (W : Int), .int .i64 (H : Int), .int .i64 v, .int .i64 1024] [] fun r hs => ∃ B c, r = .tuple #[modV W H B (W * H) c, .int .i64 0] ∧ hs = [rowH (.slice B (W * H) c) (W * H) 2 1 (ints (List.replicate (W * H) v))] := by
  have hm : (W : Int) * (H : Int) = ((W * H : Nat) : Int) := by simp
  have hle : W * H ≤ 1048576 := Nat.mul_le_mul hW hH
  have hmay := fun R' => sMay v R'
  rw [decide_eq_true hv] at hmay
  refine fn_of_run0 false Tryz.func53 rfl hmix rfl fun w0 => ?_
  conv => whnf
  repeat (first | (refine And.intro ?_ ?_; rotate_left; (focus (intro g; exfalso; first | (simp at g; done) | (simp at g; omega) | (revert g; decide))); intro _; conv => whnf) | (refine And.intro ?_ ?_; (focus (intro g; exfalso; first | (simp at g; done) | (simp at g; omega) | (revert g; decide))); intro _; conv => whnf))
  conv => whnf
  refine ⟨trivial, CallAt.pure (fun R' hR' => hmay R') ?_⟩
  conv => whnf
  repeat (first | (refine And.intro ?_ ?_; rotate_left; (focus (intro g; exfalso; first | (simp at g; done) | (simp at g; omega) | (revert g; decide))); intro _; conv => whnf) | (refine And.intro ?_ ?_; (focus (intro g; exfalso; first | (simp at g; done) | (simp at g; omega) | (revert g; decide))); intro _; conv => whnf))
  conv => whnf
  refine ⟨trivial, LoopAt.of (α := Nat × Option Addr × Nat) [0, 1, 2, 8, 10] (fun x => [(11, .v (.int .i64 (x.1 : Int)))]) (fun x => [(1, 53, [.v (.int .i64 (W : Int)), .v (.int .i64 (H : Int)), .v (.slice x.2.1 x.1 x.2.2)]), (0, 53, [.v (.int .i64 0), .v (.int .i64 0), .v (.slice none 0 0)])])
    (fun x => [rowH (.slice x.2.1 x.1 x.2.2) x.1 2 1 (ints (List.replicate x.1 v))]) (fun x => x.1 ≤ W * H) (fun x => W * H - x.1) (0, none, 0) (Nat.zero_le _)
    (Le.of (Nat.le_of_ble_eq_true rfl) (Nat.zero_le _) ⟨⟨rfl, rfl⟩, ⟨rfl, rfl⟩, ⟨rfl, rfl⟩, ⟨rfl, rfl⟩, ⟨rfl, rfl⟩, ⟨rfl, rfl⟩, trivial⟩ ⟨⟨rfl, rfl, rfl, rfl⟩, ⟨rfl, rfl, rfl, rfl⟩, trivial⟩ fun h s => sub_same (row_nil _ _ s)) ?_⟩
  rintro ⟨i, B, d⟩ hi
  simp only at hi
  have hrm : rng .i64 ((W : Int) * (H : Int)) := by rw [hm]; unfold rng; omega
  conv => whnf
  refine ⟨fun h => ?_, fun h => ?_⟩
  · have h : i < W * H := by
      have h1 : (i : Int) < (W : Int) * (H : Int) := of_decide_eq_true h
      rw [hm] at h1
      omega
    conv => whnf
    refine ⟨⟨trivial, hrm⟩, OpAt.lit [.int .i64 v] 1 rfl rfl rfl rfl rfl (by decide) rfl rfl rfl (by simp [Value.cells]) rfl (by decide) fun g2 => ?_⟩
    conv => whnf
    refine ⟨trivial, OpAt.append (.slice B i d) i 1 8 (ints (List.replicate i v)) [.int .i64 v] (some ⟨g2, 0, none⟩) 1 1 _ rfl (fun h s => sepL_pull 1 s) rfl rfl rfl rfl rfl rfl rfl rfl rfl (by decide) (fun w hw => rowH_reads rfl (Sat.left hw)) (ints_oneF [_]) (by simp only [maxLen]; omega) (by omega) fun B' d' => ?_⟩
    conv => whnf
    refine ⟨(by (repeat' apply And.intro) <;> first | exact True.intro | (unfold rng; simp only; omega) | (simp only; omega) | (unfold rng; omega) | omega), .mk (i + 1, B', d') (by simp only; omega) (by simp only; omega) (Le.of (Nat.le_of_ble_eq_true rfl) (Nat.zero_le _) ⟨⟨rfl, rfl⟩, ⟨rfl, rfl⟩, ⟨rfl, rfl⟩, ⟨rfl, rfl⟩, ⟨rfl, rfl⟩, ⟨rfl, rfl⟩, trivial⟩ ⟨⟨rfl, rfl, rfl, rfl⟩, ⟨rfl, rfl, rfl, rfl⟩, trivial⟩ fun h s => ?_)⟩
    obtain ⟨h', e', s'⟩ := sub_tail (sepL_pull 1 s)
    refine ⟨h', e', ?_⟩
    simp only
    rw [List.replicate_succ', ints_append]
    exact s'
  · have h : i = W * H := by
      have h1 : ¬ ((i : Int) < (W : Int) * (H : Int)) := of_decide_eq_false h
      rw [hm] at h1
      omega
    subst h
    conv => whnf
    exact ⟨⟨trivial, hrm⟩, .mk _ (fun w s => s) ⟨B, d, rfl, rfl⟩⟩

theorem sNew09 {R : HP} (W H : Nat) (v : Int) (hv : MayV v) (hW0 : 1 ≤ W) (hW : W ≤ 1024) (hH0 : 1 ≤ H) (hH : H ≤ 1024) :
    FnR Tryz.prog R 29 [.int .i64 (W : Int), .int .i64 (H : Int), .int .i64 v] [] fun r hs => ∃ B c, r = .tuple #[modV W H B (W * H) c, .int .i64 0] ∧ hs = [rowH (.slice B (W * H) c) (W * H) 2 1 (ints (List.replicate (W * H) v))] := by
  refine fn_of_run0 false Tryz.func29 rfl hmix rfl fun w0 => ?_
  conv => whnf
  refine ⟨trivial, CallAt.fn (pre := []) _ (fun h s => s) (fun R' hR' => sNew08 W H v hv hW0 hW hH0 hH) ?_⟩
  rintro r hs ⟨B, c, rfl, rfl⟩
  conv => whnf
  exact ⟨trivial, .mk _ (fun w s => s) ⟨B, c, rfl, rfl⟩⟩
theorem sArea07 {R : HP} (x0 y0 x1 y1 : Nat) (h1 : x0 ≤ x1) (h2 : x1 < 1024) (h3 : y0 ≤ y1) (h4 : y1 < 1024) :
    PureR Tryz.prog R 60 [rectV x0 y0 x1 y1] (.int .i64 (((x1 + 1 - x0) * (y1 + 1 - y0) : Nat) : Int)) := by
  have e1 : ((x1 : Int) + 1 - (x0 : Int)) * ((y1 : Int) + 1 - (y0 : Int)) = (((x1 + 1 - x0) * (y1 + 1 - y0) : Nat) : Int) := by
    rw [show (x1 : Int) + 1 - (x0 : Int) = ((x1 + 1 - x0 : Nat) : Int) by omega, show (y1 : Int) + 1 - (y0 : Int) = ((y1 + 1 - y0 : Nat) : Int) by omega]
    simp
  have hle : (x1 + 1 - x0) * (y1 + 1 - y0) ≤ 1024 * 1024 := Nat.mul_le_mul (by omega) (by omega)
  have hr := fun R' => rRight ⟨x0, y0, x1, y1⟩ R'
  rw [decide_eq_true (show Q4.ok ⟨x0, y0, x1, y1⟩ from ⟨by simp only; omega, by simp only; omega, by simp only; omega, by simp only; omega, by simp only; omega, by simp only; omega⟩)] at hr
  have hx : rng .i64 (((x1 : Int) + 1 - (x0 : Int)) * ((y1 : Int) + 1 - (y0 : Int))) := by rw [e1]; unfold rng; omega
  refine fn_of_run0 false Tryz.func60 rfl hmix rfl fun w0 => ?_
  conv => whnf
  refine ⟨trivial, CallAt.pure (fun R' hR' => hr R') ?_⟩
  conv => whnf
  refine iff_f rfl ?_
  conv => whnf
  refine ⟨⟨⟨⟨⟨⟨trivial, by unfold rng; omega⟩, by unfold rng; omega⟩, by unfold rng; omega⟩, by unfold rng; omega⟩, hx⟩, fin_drop ?_⟩
  rw [← e1]
  rfl
end Go.Proofs.YtgfiakgahmpfkaaGreatDoor
