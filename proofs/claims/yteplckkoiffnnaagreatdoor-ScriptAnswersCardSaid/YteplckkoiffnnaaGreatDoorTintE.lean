/-
  strings.Split at a comma; tint.Read: what it returns, and what it makes of a panic.
-/
import Derived.Test.YteplckkoiffnnaaGreatDoorTintD
namespace Go.Proofs.YteplckkoiffnnaaGreatDoor
open Go.RowKit
open Sy
set_option linter.unusedVariables false
set_option linter.unusedSimpArgs false
set_option maxRecDepth 100000
set_option maxHeartbeats 4000000

/-- the library's own variable holds a number -/
def MaxW (w : World) : Prop := ∃ m, w.cell? ⟨2, 0, none⟩ = some (.int .i64 m)
/-- what Read leans on -/
def ReadW (w : World) : Prop := NumW w ∧ MaxW w
def pieces (s : List UInt8) : List (List UInt8) := Lib.splitK [44] 0 (s.count 44) s
theorem splitB_eq (s : List UInt8) (k : Nat) : Lib.splitB (bs [44]) 0 k (bs s) = (Lib.splitK [44] 0 k s).map bs := by
  have h := Lib.splitB_data (bs [44]) 0 k (bs s)
  rw [bs_toList, bs_toList] at h
  rw [← h, List.map_map]
  have e : (bs ∘ fun x : ByteArray => x.data.toList) = id := by
    funext x
    exact bs_data x
  rw [e, List.map_id]
theorem alloc_row {R : HP} {w : World} (n : Nat) (e : TypeId) (xs : List Value) (hx : xs.length = n) (hn : n ≤ maxLen) (s : Sat R w) : Sat (sepL [rowH (.slice (some ⟨w.heap.size, 0, none⟩) n n) n e 1 xs] R) (w.alloc (.cells xs.toArray e)) := by
  obtain ⟨h, h1, h2⟩ := s
  have hb : Below w.heap.size w (w.alloc (.cells xs.toArray e)) := (Below.refl _ _).alloc (Nat.le_refl _) _
  have hnone : h w.heap.size = none := h1.none (Nat.le_refl _)
  refine ⟨un (fun i => if i = w.heap.size then some (.cells xs.toArray e (0, 0)) else none) h, Sub.un (fun i o e' => ?_) (h1.below hb), _, h, fun i => ?_, rfl, ⟨by omega, .inr ⟨w.heap.size, n, xs.toArray, rfl, fun i => rfl, Nat.le_refl _, hn, by simp [hx], by (show (xs.toArray.toList.take (n * 1)) = xs); rw [show n * 1 = xs.length by omega]; simp⟩⟩, h2⟩
  · by_cases c : i = w.heap.size
    · subst c
      rw [if_pos rfl] at e'
      rw [← e']
      exact Blk.new _ _ _
    · rw [if_neg c] at e'; cases e'
  · by_cases c : i = w.heap.size
    · subst c; exact .inr hnone
    · exact .inl (if_neg c)
theorem sSplit {R : HP} (hM : ∀ w, Sat R w → MaxW w) (s : List UInt8) (hl : s.length ≤ 1048576) : FnR Tryz.prog R 34 [.string (bs s), .string (bs [44])] [] fun r hs => ∃ B, r = .slice (some ⟨B, 0, none⟩) (pieces s).length (pieces s).length ∧ hs = [rowH (.slice (some ⟨B, 0, none⟩) (pieces s).length (pieces s).length) (pieces s).length 9 1 ((pieces s).map fun p => .string (bs p))] := by
  intro w hs
  obtain ⟨m, hm⟩ := hM w hs
  have c := Any.strings_Split lays146 (by kernel_rfl) (bs s) (bs [44]) m w (by rw [bs_size]; omega) hm (by rw [bs_size]; exact Nat.le_refl _)
  have hc : Lib.countB (bs s) (bs [44]) = s.count 44 := by
    show Lib.count (bs s).data.toList (bs [44]).data.toList = _
    rw [bs_toList, bs_toList]
    exact Lib.count_one 44 s
  have hlen := Lib.splitB_all (bs [44]) (by rw [bs_size]; exact Nat.le_refl _) 0 (s.count 44) (bs s) hc
  rw [hc, splitB_eq] at c
  rw [splitB_eq, List.length_map] at hlen
  have hle : s.count 44 ≤ s.length := List.count_le_length
  refine Calls.mono c ?_
  rintro e w' ⟨he, hw⟩
  have hp : (pieces s).length = s.count 44 + 1 := hlen
  have hmap : (List.map Value.string ((Lib.splitK [44] 0 (s.count 44) s).map bs)) = (pieces s).map fun p => .string (bs p) := by rw [List.map_map]; rfl
  rw [hmap] at hw
  refine ⟨_, _, by rw [he, ← hp], ⟨w.heap.size, rfl, rfl⟩, ?_, ?_⟩
  · rw [hw]
    exact alloc_row _ _ _ (by simp) (by rw [hp]; simp only [maxLen]; omega) hs
  · rw [hw]
    exact .of_below ((Below.refl _ _).alloc (Nat.le_refl _) _)

abbrev lbH (b : Nat) (v : Value) : HP := blkH b 93 #[v]
abbrev ebH (b : Nat) (v : Value) : HP := blkH b 22 #[v]
def anyB (b : Nat) (t : TypeId) : HP := fun h => ∃ v, blkH b t #[v] h
theorem clsIdle {R : HP} {lb eb : Nat} {v u : Value} : ∀ w, Sat (sepL [lbH lb v, ebH eb u] R) w → CallsD Tryz.prog 198 [Value.pointer (some ⟨lb, 0, none⟩), .pointer (some ⟨eb, 0, none⟩)].toArray .returning w fun e x w' => (∃ v, e = .returned v) ∧ x = .returning ∧ ∃ hs, hs = [lbH lb v, ebH eb u] ∧ Sat (sepL hs R) w' ∧ Wd w w' := by
  refine cls_of_run false Tryz.func198 rfl hmix rfl rfl rfl rfl rfl rec_idle fun w0 => ?_
  conv => whnf
  refine iff_t rfl ?_
  conv => whnf
  exact ⟨trivial, ⟨_, fun w s => s, trivial, rfl⟩⟩
theorem clsPan {R : HP} {lb eb : Nat} {v u : Value} : ∀ w, Sat (sepL [lbH lb v, ebH eb u] R) w → CallsD Tryz.prog 198 [Value.pointer (some ⟨lb, 0, none⟩), .pointer (some ⟨eb, 0, none⟩)].toArray (.panicking wrongCh) w fun e x w' => (∃ v, e = .returned v) ∧ x = .panicking [{ v := .iface 335 (.agg #[.int .i64 12]), recovered := true }] ∧ ∃ hs, hs = [lbH lb (.slice none 0 0), ebH eb (.int .i64 12)] ∧ Sat (sepL hs R) w' ∧ Wd w w' := by
  refine cls_of_run false Tryz.func198 rfl hmix rfl rfl rfl rfl rfl (rec_pan _) fun w0 => ?_
  conv => whnf
  refine iff_f rfl ?_
  conv => whnf
  refine iff_t rfl ?_
  conv => whnf
  refine ⟨trivial, RegAt.groups0 [([.T 0, .T 1, .H 2], 3), ([.H 3], 4)] hmix (by kernel_rfl) ?_⟩
  conv => whnf
  refine ⟨trivial, OpAt.store lb 0 (.slice none 0 0) _ rfl (fun h s => s) rfl rfl rfl rfl rfl (by simp [Value.cells, Value.oneCell']) (fun h r => blk_put (by show 0 + 1 ≤ 1; omega) r) ?_⟩
  conv => whnf
  refine ⟨trivial, ⟨⟨rfl, rfl⟩, fun h s => sub_nil s⟩, ?_⟩
  conv => whnf
  refine ⟨trivial, OpAt.store eb 0 (.int .i64 12) _ rfl (fun h s => sepL_pull 1 s) rfl rfl rfl rfl rfl (by simp [Value.cells, Value.oneCell']) (fun h r => blk_put (by show 0 + 1 ≤ 1; omega) r) ?_⟩
  conv => whnf
  exact ⟨trivial, trivial, ⟨[lbH lb (.slice none 0 0), ebH eb (.int .i64 12)], fun w ⟨h, h1, s⟩ => ⟨h, h1, sepL_pull 1 s⟩, trivial, rfl⟩⟩
theorem partsV_get : ∀ {ps : List (List UInt8)} {l : List Bd}, partsV ps = some l → ps.length = l.length ∧ ∀ i (h : i < ps.length) (h' : i < l.length), bandV ps[i] = some l[i]
  | [], l, h => by
    injection h with h
    subst h
    exact ⟨rfl, fun i h => absurd h (Nat.not_lt_zero _)⟩
  | p :: ps, l, h => by
    unfold partsV at h
    split at h
    · cases h
    · rename_i b hb
      obtain ⟨l', hl, rfl⟩ := Option.map_eq_some_iff.1 h
      obtain ⟨e1, e2⟩ := partsV_get hl
      refine ⟨by simp [e1], fun i h h' => ?_⟩
      cases i with
      | zero => exact hb
      | succ i => exact e2 i (by simpa using h) (by simpa using h')
theorem piece_len {s : List UInt8} {p : List UInt8} (h : p ∈ pieces s) : p.length ≤ s.length := by
  obtain ⟨h1, _, _⟩ := split_spec s
  have key : ∀ {ps : List (List UInt8)}, p ∈ ps → p.length ≤ (ps.flatMap fun q => (44 : UInt8) :: q).length := fun {ps} hp => by
    induction ps with
    | nil => cases hp
    | cons q qs ih =>
      simp only [List.flatMap_cons, List.length_append, List.length_cons]
      rcases List.mem_cons.1 hp with rfl | hp
      · omega
      · have := ih hp; omega
  unfold pieces at h
  generalize Lib.splitK [44] 0 (s.count 44) s = ps at *
  rw [← h1]
  cases ps with
  | nil => cases h
  | cons q qs =>
    simp only [joinC, List.length_append]
    rcases List.mem_cons.1 h with rfl | h
    · omega
    · have := key h; omega
theorem bcel_one (b : Bd) : bcel [b] = [.int .i64 b.f, .int .i32 b.s] := rfl
theorem bcel_append (l m : List Bd) : bcel (l ++ m) = bcel l ++ bcel m := List.flatMap_append
theorem rowB_at {g n c size : Nat} {e : TypeId} {xs : List Value} {w : World} (s : Sat (rowH (.slice (some ⟨g, 0, none⟩) n c) n e size xs) w) (hn : 0 < n) {j : Nat} {u : Value} (h : xs[j]? = some u) : w.cell? ⟨g, j, none⟩ = some u := by
  obtain ⟨ad, e', _, hc⟩ := (rowH_reads rfl s).2 hn
  injection e' with e'
  subst e'
  have := hc j u h
  rw [add_plain, Nat.zero_add] at this
  exact this
theorem row_capB {A : Option Addr} {n c size : Nat} {e : TypeId} {xs : List Value} {w : World} (s : Sat (rowH (.slice A n c) n e size xs) w) : n ≤ c := by
  obtain ⟨h, _, _, r⟩ := s
  rcases r with ⟨e, h0, _⟩ | ⟨g, cap, cur, e, _, h1, _⟩
  · omega
  · injection e with _ _ e
    omega
structure RdS where
  i : Nat
  A : Option Addr
  c : Nat
abbrev bRow (A : Option Addr) (n c : Nat) (l : List Bd) : HP := rowH (.slice A n c) n 333 2 (bcel l)
theorem sTRead {R : HP} (hW : ∀ w, Sat R w → ReadW w) {s : List UInt8} {l : List Bd} (h : readV s = some l) : FnR Tryz.prog R 124 [.string (bs s)] [] fun r hs => ∃ A c, r = .tuple #[.slice A l.length c, .int .i64 0] ∧ hs = [bRow A l.length c l] := by
  unfold readV at h
  split at h
  · cases h
  rename_i hlen
  split at h
  · cases h
  rename_i l' hp
  split at h
  rotate_left
  · cases h
  rename_i hr
  injection h with h
  subst h
  obtain ⟨hpl, hpg⟩ := partsV_get hp
  have hl12 := hr.2.1
  have hpc : Lib.splitK [44] 0 (s.count 44) s = pieces s := rfl
  rw [hpc] at hpl hpg
  have hplen : ∀ i (h : i < (pieces s).length), (pieces s)[i].length ≤ 1048576 := fun i h => by have := piece_len (List.getElem_mem h); omega
  have hsp := fun R' (h : ∀ w, Sat R' w → Sat R w) => sSplit (R := R') (fun w s => (hW w (h w s)).2) s (by omega)
  generalize pieces s = ps at *
  obtain ⟨m, hm⟩ : ∃ m, m = l'.length := ⟨_, rfl⟩
  rw [← hm]
  refine fn_of_defer false Tryz.func124 rfl hmix rfl (os1 := [_]) rfl rfl rfl rfl fun w0 => ?_
  conv => whnf
  intro lb _
  conv => whnf
  intro eb _
  conv => whnf
  refine ⟨trivial, DefAt.mk 198 [.pointer (some ⟨lb, 0, none⟩), .pointer (some ⟨eb, 0, none⟩)] (fun _ => False) R [(2, .pointer (some ⟨lb, 0, none⟩)), (3, .pointer (some ⟨eb, 0, none⟩))] (fun hs => ∃ A c, hs = [lbH lb (.slice A m c), ebH eb (.int .i64 0), bRow A m c l']) rfl rfl ⟨?_, fun _ h => h.elim⟩ ?_⟩
  · rintro hs ⟨A, c, rfl⟩ w a sat wd ax
    refine leaves_one (by kernel_rfl) (fun e => by cases e) ?_
    refine CallsD.mono (clsIdle (R := sepL [bRow A m c l'] R) w sat) ?_
    rintro e u' w' ⟨hv, rfl, hs, rfl, s', wd'⟩
    refine ⟨hv, rfl, .tuple #[.slice A m c, .int .i64 0], results_two rfl Tryz.underlying93 rfl Tryz.underlying22 rfl (ax (2, _) List.mem_cons_self) (ax (3, _) (List.mem_cons_of_mem _ List.mem_cons_self)) ((blk_sat (s'.in_ 0 rfl)).cell 0) ((blk_sat (s'.in_ 1 rfl)).cell 0), _, _, rfl, ⟨A, c, rfl, rfl⟩, ?_, wd.trans wd'⟩
    exact s'.rest
  conv => whnf
  refine ⟨trivial, CallAt.pure (fun R' hR' => (by rw [decide_eq_true (by rw [bs_size]; omega)]; exact sMust)) ?_⟩
  conv => whnf
  refine ⟨trivial, CallAt.fn (pre := []) _ (fun h s => s) (fun R' hR' => hsp R' fun w s => (hR' w s).rest) ?_⟩
  rintro r hs ⟨B, rfl, rfl⟩
  conv => whnf
  refine ⟨trivial, LoopAt.of (α := RdS) [2, 3, 12, 13] (fun a => [(14, .v (.int .i64 (a.i : Int)))]) (fun _ => []) (fun a => [lbH lb (.slice a.A a.i a.c), bRow a.A a.i a.c (l'.take a.i), rowH (.slice (some ⟨B, 0, none⟩) ps.length ps.length) ps.length 9 1 (ps.map fun p => .string (bs p)), ebH eb (.int .i64 0)]) (fun a => a.i ≤ m) (fun a => m - a.i) ⟨0, none, 0⟩ (Nat.zero_le _)
    (Le.of (Nat.le_of_ble_eq_true rfl) (Nat.zero_le _) ⟨⟨rfl, rfl⟩, ⟨rfl, rfl⟩, ⟨rfl, rfl⟩, ⟨rfl, rfl⟩, ⟨rfl, rfl⟩, trivial⟩ trivial fun h s => sub_same (sepL_perm (List.Perm.swap _ _ _) (row_nil _ _ (sepL_pull 2 s)))) ?_⟩
  rintro ⟨i, A, c⟩ hi
  simp only at hi
  conv => whnf
  refine ⟨fun h3 => ?_, fun h3 => ?_⟩
  · have g3 : i < m := by simp at h3; omega
    have hip : i < ps.length := by omega
    have hil : i < l'.length := by omega
    have hb := hpg i hip hil
    have hpi := hplen i hip
    have hat : (ps.map fun p => Value.string (bs p))[i]? = some (.string (bs ps[i])) := by rw [List.getElem?_map, List.getElem?_eq_getElem hip]; rfl
    have htk : bcel (l'.take (i + 1)) = bcel (l'.take i) ++ bcel [l'[i]] := by rw [← bcel_append, List.take_succ_eq_append_getElem hil]
    generalize ps[i] = p at *
    generalize l'[i] = x at *
    have hband := fun R' (h : ∀ w, Sat R' w → Sat R w) => sBand (R := R') (fun w s => (hW w (h w s)).1) hpi hb
    conv => whnf
    refine ⟨⟨trivial, by simp only; omega⟩, LoadAt.cell (.string (bs p)) rfl rfl (fun w hw => ?_) ?_⟩
    · have := rowB_at (hw.in_ 2 rfl) (by omega) hat
      simpa using this
    conv => whnf
    refine ⟨trivial, RegAt.groups [([.T 0, .T 1, .H 2, .H 3], 4), ([.H 4], 5), ([.H 5], 6)] hmix (by kernel_rfl) ?_⟩
    conv => whnf
    refine ⟨trivial, LoadAt.cell (.slice A i c) rfl rfl (fun w hw => (blk_sat (hw.in_ 0 rfl)).cell 0) ?_⟩
    conv => whnf
    refine ⟨trivial, CallAt.pure (fun R' hR' => hband R' fun w s => (hR' w s).rest) ?_⟩
    conv => whnf
    refine ⟨trivial, ⟨⟨rfl, rfl⟩, fun h s => sub_same s⟩, ?_⟩
    conv => whnf
    refine ⟨trivial, OpAt.lit [.agg #[.int .i64 x.f, .int .i32 x.s]] 2 rfl rfl rfl rfl rfl (by decide) rfl rfl rfl (by simp [Value.cells]) rfl (by decide) fun g2 => ?_⟩
    conv => whnf
    refine ⟨trivial, ⟨⟨rfl, rfl⟩, fun h s => sub_tail s⟩, ?_⟩
    conv => whnf
    refine ⟨trivial, OpAt.append (.slice A i c) i 2 16 (bcel (l'.take i)) (bcel [x]) (some ⟨g2, 0, none⟩) 1 1 _ rfl (fun h s => sepL_pull 2 s) rfl rfl rfl rfl rfl rfl rfl rfl rfl (by decide) (fun w hw => rowH_reads rfl (Sat.left hw)) (by simp [bcel, bdC, Value.oneCell']) (by simp only [maxLen]; omega) (by omega) fun A' c' => ?_⟩
    conv => whnf
    refine ⟨trivial, OpAt.store lb 0 (.slice A' (i + 1) c') _ rfl (fun h s => sepL_pull 2 s) rfl rfl rfl rfl rfl (by simp [Value.cells, Value.oneCell']) (fun h r => blk_put (by show 0 + 1 ≤ 1; omega) r) ?_⟩
    conv => whnf
    refine ⟨trivial, ?_⟩
    conv => whnf
    refine ⟨⟨trivial, by unfold rng; simp only; omega⟩, .mk ⟨i + 1, A', c'⟩ (by simp only; omega) (by simp only; omega) (Le.of (Nat.le_of_ble_eq_true rfl) (Nat.zero_le _) ⟨⟨rfl, rfl⟩, ⟨rfl, rfl⟩, ⟨rfl, rfl⟩, ⟨rfl, rfl⟩, ⟨rfl, rfl⟩, trivial⟩ trivial fun h s => ?_)⟩
    obtain ⟨h', e, s3⟩ := sub_tail (sepL_pull 2 s)
    refine ⟨h', e, ?_⟩
    show sepL [lbH lb (.slice A' (i + 1) c'), rowH (.slice A' (i + 1) c') (i + 1) 333 2 (bcel (l'.take (i + 1))), _, _] R h'
    rw [htk]
    exact s3
  · have g3 : i = m := by simp at h3; omega
    subst g3
    conv => whnf
    refine ⟨trivial, LoadAt.cell (.slice A i c) rfl rfl (fun w hw => (blk_sat (hw.in_ 0 rfl)).cell 0) ?_⟩
    conv => whnf
    refine ⟨trivial, CallAt.pure (v := .bool true) (fun R' hR' => PureR.of_sat fun w hs => ?_) ?_⟩
    · have hc := row_capB ((hR' w hs).in_ 1 rfl)
      have := sTRight (R := R') (n := i) (c := c) (by omega) hc (Sl.row fun w s => (hR' w s).in_ 1 rfl)
      simp only at this
      rw [List.take_of_length_le (by omega), decide_eq_true hr] at this
      exact this
    conv => whnf
    refine ⟨trivial, CallAt.pure (fun R' hR' => sMust) ?_⟩
    conv => whnf
    refine ⟨trivial, LoadAt.cell (.slice A i c) rfl rfl (fun w hw => (blk_sat (hw.in_ 0 rfl)).cell 0) ?_⟩
    conv => whnf
    refine ⟨trivial, OpAt.store lb 0 (.slice A i c) _ rfl (fun h s => s) rfl rfl rfl rfl rfl (by simp [Value.cells, Value.oneCell']) (fun h r => blk_put (by show 0 + 1 ≤ 1; omega) r) ?_⟩
    conv => whnf
    refine ⟨trivial, OpAt.store eb 0 (.int .i64 0) _ rfl (fun h s => sepL_pull 3 s) rfl rfl rfl rfl rfl (by simp [Value.cells, Value.oneCell']) (fun h r => blk_put (by show 0 + 1 ≤ 1; omega) r) ?_⟩
    conv => whnf
    refine ⟨trivial, ⟨[lbH lb (.slice A i c), ebH eb (.int .i64 0), bRow A i c l'], fun w ⟨h, h1, s⟩ => ?_, ⟨rfl, rfl, trivial⟩, ⟨A, c, rfl⟩⟩⟩
    obtain ⟨h', e, s3⟩ := sub_tail (sepL_pull 3 s)
    refine ⟨h', h1.mono e, ?_⟩
    have e4 : bcel (l'.take i) = bcel l' := by rw [List.take_of_length_le (by omega)]
    show sepL [lbH lb (.slice A i c), ebH eb (.int .i64 0), rowH (.slice A i c) i 333 2 (bcel l')] R h'
    rw [← e4]
    exact sepL_pull 1 s3
end Go.Proofs.YteplckkoiffnnaaGreatDoor
