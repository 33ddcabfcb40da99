/-
  Closed runs in the scripts' program: strings.Join is told.
-/
import Derived.Test.YtonbjlkmcikbgaaGreatDoorScO
import Derived.Test.YtonbjlkmcikbgaaGreatDoorJoinShelf
namespace Go.Proofs.YtonbjlkmcikbgaaGreatDoor
open Go.RowKit
namespace Cx
set_option linter.unusedVariables false
set_option linter.unusedSimpArgs false
set_option maxRecDepth 100000
set_option maxHeartbeats 4000000

noncomputable def strL : List Value → Option (List (List UInt8))
  | [] => some []
  | .string s :: l => bd (strL l) fun r => some (s.data.toList :: r)
  | _ => none
theorem strL_some : ∀ {l : List Value} {ws : List (List UInt8)}, strL l = some ws → l = strVs ws
  | [], ws, h => by
    simp only [strL, Option.some.injEq] at h
    subst h
    rfl
  | .string s :: l, ws, h => by
    simp only [strL, bd_some, Option.some.injEq] at h
    obtain ⟨r, hr, rfl⟩ := h
    rw [strL_some hr]
    rfl
  | .bool _ :: _, _, h => by cases h
  | .int _ _ :: _, _, h => by cases h
  | .float _ _ :: _, _, h => by cases h
  | .complex _ _ _ :: _, _, h => by cases h
  | .pointer _ :: _, _, h => by cases h
  | .slice _ _ _ :: _, _, h => by cases h
  | .map _ :: _, _, h => by cases h
  | .chan _ :: _, _, h => by cases h
  | .func _ _ _ :: _, _, h => by cases h
  | .nilFunc :: _, _, h => by cases h
  | .iface _ _ :: _, _, h => by cases h
  | .nilIface :: _, _, h => by cases h
  | .agg _ :: _, _, h => by cases h
  | .tuple _ :: _, _, h => by cases h
/-- words, with a sign between them -/
noncomputable def joinL (sep : List UInt8) : List (List UInt8) → List UInt8
  | [] => []
  | w :: l => w ++ joinT sep l
where joinT (sep : List UInt8) : List (List UInt8) → List UInt8
  | [] => []
  | w :: l => sep ++ (w ++ joinT sep l)
theorem joinT_eq (sep : List UInt8) : ∀ l, joinL.joinT sep l = Lib.joinTail sep l
  | [] => rfl
  | w :: l => by
    show sep ++ (w ++ joinL.joinT sep l) = _
    rw [joinT_eq sep l]
    simp [Lib.joinTail]
theorem joinL_eq (sep : List UInt8) (l : List (List UInt8)) : joinL sep l = Lib.join l sep := by
  cases l with
  | nil => rfl
  | cons w l =>
    show w ++ joinL.joinT sep l = _
    rw [joinT_eq, Lib.join_cons]
noncomputable def orJoin (args : List Value) (h : Hp) (c : Nat) : Option (Value × Hp × Nat) := match args with
  | [.slice (some a) n cap, .string p] => gd (Nat.ble n cap && Nat.ble n 1000) (bd (readV h a n) fun vs => bd (strL vs) fun ws => forceL (joinL p.data.toList ws) fun r => gd (Nat.ble r.length 100000) (some (.string ⟨⟨r⟩⟩, h, c)))
  | _ => none
theorem join_ok : OneOK Tryz.prog 19 orJoin := fun args h c v h' c' e => by
  unfold orJoin at e
  split at e
  case h_2 => cases e
  rename_i a n cap p
  simp only [bd_some, gd_some, forceL_eq, Option.some.injEq, Prod.mk.injEq, Bool.and_eq_true] at e
  obtain ⟨⟨hn1, hn2⟩, vs, hvs, ws, hws, hlen, rfl, rfl, rfl⟩ := e
  have hn1 := ble_of hn1
  have hn2 := ble_of hn2
  have hlen := ble_of hlen
  have hvw := strL_some hws
  subst hvw
  refine ⟨Nat.le_refl _, fun ρ w us g d l f => ?_⟩
  obtain ⟨u, us', d1, rfl, dd⟩ : ∃ u us', Den ρ (.slice (some a) n cap) u ∧ us = u :: us' ∧ DenL ρ [.string p] us' := by
    cases d with
    | cons h t => exact ⟨_, _, h, rfl, t⟩
  obtain ⟨u2, rfl, d2⟩ : ∃ u, us' = [u] ∧ Den ρ (.string p) u := by
    cases dd with
    | cons h t => cases t; exact ⟨_, rfl, h⟩
  have := d2.str_inv
  subst this
  obtain ⟨bk, q, g1, g2, rfl, hq⟩ := d1.slc_inv
  obtain ⟨us3, k1, k2, k3⟩ := readV_sound l hvs g1
  have := k1.flats_eq (flats_strVs ws)
  subst this
  have hl : ws.length = n := by rw [← k2, strVs_eq]; simp
  have hcap : n ≤ q := by
    rcases hq with ⟨_, rfl⟩ | ⟨_, h, _⟩
    · exact hn1
    · exact h
  have hold : bk.b < w.heap.size := by
    have hvs' := hvs
    simp only [readV, bd_some] at hvs'
    obtain ⟨ob, hob, _⟩ := hvs'
    exact l.old ⟨_, _, _, hob, g1, rfl⟩
  have hx : (ws.map Sy.bs).map (fun s : ByteArray => s.data.toList) = ws := by
    rw [List.map_map]
    have e : ((fun s : ByteArray => s.data.toList) ∘ Sy.bs) = id := by
      funext x
      exact Sy.bs_toList x
    rw [e, List.map_id]
  have hcells : ∀ (j : Nat) x, (ws.map Sy.bs)[j]? = some x → w.cell? ⟨bk.b, a.off + j, none⟩ = some (.string x) := fun j x hj => by
    rw [List.getElem?_map, Option.map_eq_some_iff] at hj
    obtain ⟨y, hy, rfl⟩ := hj
    exact k3 w rfl j _ (by rw [strVs_eq, List.getElem?_map, hy]; rfl)
  have hln : (ws.map Sy.bs).length = n := by rw [List.length_map, hl]
  have key : Calls Tryz.prog 19 #[.slice (some ⟨bk.b, a.off, none⟩) n q, .string p] w fun e w' => e = .returned (.string ⟨(joinL p.data.toList ws).toArray⟩) ∧ Below w.heap.size w w' := by
    have hj : (Lib.join ((ws.map Sy.bs).map (fun s : ByteArray => s.data.toList)) p.data.toList) = joinL p.data.toList ws := by rw [hx, joinL_eq]
    have cc := Any.strings_Join lays156 builder_Extra_156 bk.b a.off q (ws.map Sy.bs) p w hcells hold (by rw [hln]; omega) (by rw [hln]; exact hcap) (by rw [hj]; omega)
    rw [hj, hln] at cc
    exact cc
  refine key.mono ?_
  rintro e w' ⟨he, hb⟩
  exact ⟨.string ⟨(joinL p.data.toList ws).toArray⟩, ρ, he, Den.flat rfl, RanF.of_below l hb⟩
end Cx
end Go.Proofs.YtonbjlkmcikbgaaGreatDoor
