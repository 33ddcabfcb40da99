/-
  Texts of the proofs, one behind the other: TintShelf, TintP, TintQ, TintA, TintB, TintC, TintD, TintE, TintF, TintG.
-/
import Derived.Shelf.Small.Utf8
import Derived.Shelf.Strings.Split
import Derived.Shelf.Utf8.AppendRunePlain
import Derived.Test.YtjnglcjofajcnaaDoorProg
import Derived.Test.YtjnglcjofajcnaaDoorPartV
import Derived.Lib.SplitLaws
import Derived.Test.YtjnglcjofajcnaaDoorPartB
import Derived.Test.YtjnglcjofajcnaaDoorPartS
/-
  The library's contracts that legends need: laid by the kit's lay-shelf.mjs and lay-plain.mjs, made a template by wip/plain2tpl.py.
-/
namespace Go.Proofs.YtjnglcjofajcnaaDoor
open Go.Shelf
def lays118_ren : Go.Shelf.Ren := ⟨fun | 118 => 86 | n => n, fun | 21 => 21 | 3 => 3 | 4 => 4 | n => n, fun | n => n⟩
theorem lays118 : Go.Proofs.Lays.n118 Tryd.prog lays118_ren := {
  mixed := by kernel_rfl
  f118 := Tryd.func86.trans (congrArg some (by kernel_rfl))
  t3 := Tryd.underlying3
  a3 := Tryd.isAgg3
  z3 := Tryd.sizeOf3
  v3 := Tryd.zeroValue3
  t4 := Tryd.underlying4
  a4 := Tryd.isAgg4
  z4 := Tryd.sizeOf4
  v4 := Tryd.zeroValue4
  t21 := Tryd.underlying21
  a21 := Tryd.isAgg21
  z21 := Tryd.sizeOf21
  v21 := Tryd.zeroValue21 }
def lays146_ren : Go.Shelf.Ren := ⟨fun | 146 => 60 | 221 => 84 | 268 => 102 | 138 => 103 | 143 => 104 | 195 => 117 | 197 => 118 | 218 => 119 | 219 => 120 | 260 => 131 | 217 => 132 | 225 => 133 | 224 => 134 | 267 => 135 | 266 => 145 | 314 => 146 | n => n, fun | 9 => 9 | 31 => 113 | 3 => 3 | 4 => 4 | 0 => 0 | 105 => 119 | 21 => 21 | 5 => 5 | 46 => 184 | 119 => 206 | 139 => 209 | 138 => 208 | 146 => 210 | 51 => 163 | n => n, fun | 1 => 1 | 3 => 2 | 4 => 3 | n => n⟩
theorem lays146 : Go.Proofs.Lays.n146 Tryd.prog lays146_ren := {
  mixed := by kernel_rfl
  f138 := Tryd.func103.trans (congrArg some (by kernel_rfl))
  f143 := Tryd.func104.trans (congrArg some (by kernel_rfl))
  f146 := Tryd.func60.trans (congrArg some (by kernel_rfl))
  f195 := Tryd.func117.trans (congrArg some (by kernel_rfl))
  f197 := Tryd.func118.trans (congrArg some (by kernel_rfl))
  f217 := Tryd.func132.trans (congrArg some (by kernel_rfl))
  f218 := Tryd.func119.trans (congrArg some (by kernel_rfl))
  f219 := Tryd.func120.trans (congrArg some (by kernel_rfl))
  f221 := Tryd.func84.trans (congrArg some (by kernel_rfl))
  f224 := Tryd.func134.trans (congrArg some (by kernel_rfl))
  f225 := Tryd.func133.trans (congrArg some (by kernel_rfl))
  f260 := Tryd.func131.trans (congrArg some (by kernel_rfl))
  f266 := Tryd.func145.trans (congrArg some (by kernel_rfl))
  f267 := Tryd.func135.trans (congrArg some (by kernel_rfl))
  f268 := Tryd.func102.trans (congrArg some (by kernel_rfl))
  f314 := Tryd.func146.trans (congrArg some (by kernel_rfl))
  t0 := Tryd.underlying0
  a0 := Tryd.isAgg0
  z0 := Tryd.sizeOf0
  v0 := Tryd.zeroValue0
  t3 := Tryd.underlying3
  a3 := Tryd.isAgg3
  z3 := Tryd.sizeOf3
  v3 := Tryd.zeroValue3
  t4 := Tryd.underlying4
  a4 := Tryd.isAgg4
  z4 := Tryd.sizeOf4
  v4 := Tryd.zeroValue4
  t5 := Tryd.underlying5
  a5 := Tryd.isAgg5
  z5 := Tryd.sizeOf5
  v5 := Tryd.zeroValue5
  t9 := Tryd.underlying9
  a9 := Tryd.isAgg9
  z9 := Tryd.sizeOf9
  v9 := Tryd.zeroValue9
  t21 := Tryd.underlying21
  a21 := Tryd.isAgg21
  z21 := Tryd.sizeOf21
  v21 := Tryd.zeroValue21
  t31 := Tryd.underlying113
  a31 := Tryd.isAgg113
  z31 := Tryd.sizeOf113
  v31 := Tryd.zeroValue113
  t46 := Tryd.underlying184
  a46 := Tryd.isAgg184
  z46 := Tryd.sizeOf184
  v46 := Tryd.zeroValue184
  t51 := Tryd.underlying163
  a51 := Tryd.isAgg163
  z51 := Tryd.sizeOf163
  v51 := Tryd.zeroValue163
  t105 := Tryd.underlying119
  a105 := Tryd.isAgg119
  z105 := Tryd.sizeOf119
  v105 := Tryd.zeroValue119
  t119 := Tryd.underlying206
  a119 := Tryd.isAgg206
  z119 := Tryd.sizeOf206
  t138 := Tryd.underlying208
  a138 := Tryd.isAgg208
  z138 := Tryd.sizeOf208
  v138 := Tryd.zeroValue208
  t139 := Tryd.underlying209
  a139 := Tryd.isAgg209
  z139 := Tryd.sizeOf209
  v139 := Tryd.zeroValue209
  t146 := Tryd.underlying210
  a146 := Tryd.isAgg210
  z146 := Tryd.sizeOf210
  v146 := Tryd.zeroValue210
  g1 := by kernel_rfl
  g3 := by kernel_rfl
  g4 := by kernel_rfl }
def lays242_ren : Go.Shelf.Ren := ⟨fun | 242 => 83 | 278 => 101 | n => n, fun | 37 => 83 | 21 => 21 | 51 => 163 | 4 => 4 | 5 => 5 | 46 => 184 | n => n, fun | n => n⟩
theorem lays242 : Go.Proofs.Lays.n242 Tryd.prog lays242_ren := {
  mixed := by kernel_rfl
  f242 := Tryd.func83.trans (congrArg some (by kernel_rfl))
  f278 := Tryd.func101.trans (congrArg some (by kernel_rfl))
  t4 := Tryd.underlying4
  a4 := Tryd.isAgg4
  z4 := Tryd.sizeOf4
  v4 := Tryd.zeroValue4
  t5 := Tryd.underlying5
  a5 := Tryd.isAgg5
  z5 := Tryd.sizeOf5
  v5 := Tryd.zeroValue5
  t21 := Tryd.underlying21
  a21 := Tryd.isAgg21
  z21 := Tryd.sizeOf21
  v21 := Tryd.zeroValue21
  t37 := Tryd.underlying83
  a37 := Tryd.isAgg83
  z37 := Tryd.sizeOf83
  v37 := Tryd.zeroValue83
  t46 := Tryd.underlying184
  a46 := Tryd.isAgg184
  z46 := Tryd.sizeOf184
  v46 := Tryd.zeroValue184
  t51 := Tryd.underlying163
  a51 := Tryd.isAgg163
  z51 := Tryd.sizeOf163
  v51 := Tryd.zeroValue163 }
end Go.Proofs.YtjnglcjofajcnaaDoor

/-
  Signs as UTF-8, and back; bands and their texts: plain.
-/
namespace Go.Proofs.YtjnglcjofajcnaaDoor
open Go.RowKit
open Sy
set_option linter.unusedVariables false
set_option linter.unusedSimpArgs false
set_option maxRecDepth 100000
set_option maxHeartbeats 4000000

/-- a sign, by its number -/
def SignN (c : Nat) : Prop := c ≠ 44 ∧ c ≠ 58 ∧ c ≠ 173 ∧ ((33 ≤ c ∧ c ≤ 126) ∨ (161 ≤ c ∧ c ≤ 55295) ∨ (57344 ≤ c ∧ c ≤ 65532))
instance (c : Nat) : Decidable (SignN c) := by unfold SignN; exact inferInstance
def u8 (n : Nat) : UInt8 := UInt8.ofNat n
theorem u8_nat {n : Nat} (h : n < 256) : (u8 n).toNat = n := by unfold u8; rw [UInt8.toNat_ofNat']; omega
theorem u8_of {a : UInt8} {n : Nat} (h : a.toNat = n) : u8 n = a := by
  apply UInt8.toNat_inj.1
  rw [u8_nat (by have := a.toNat_lt; omega), h]
def utfN (c : Nat) : List UInt8 := if c < 128 then [u8 c] else if c < 2048 then [u8 (192 + c / 64), u8 (128 + c % 64)] else [u8 (224 + c / 4096), u8 (128 + c / 64 % 64), u8 (128 + c % 64)]
theorem utfN_ne (c : Nat) : utfN c ≠ [] := by unfold utfN; split <;> (try split) <;> simp
theorem utfN_len (c : Nat) : 1 ≤ (utfN c).length ∧ (utfN c).length ≤ 3 := by unfold utfN; split <;> (try split) <;> simp
/-- what stands at the head of a text -/
def dec (x : List UInt8) : Nat × Nat :=
  let b (k : Nat) : Nat := ((x[k]?).getD 0).toNat
  let cont (k : Nat) : Bool := k < x.length && b k / 64 == 2
  if b 0 < 0x80 then (b 0, 1)
  else if b 0 / 32 == 6 && cont 1 then
    let c := (b 0 % 32) * 64 + b 1 % 64
    if c ≥ 0x80 then (c, 2) else (Utf8.runeError, 1)
  else if b 0 / 16 == 14 && cont 1 && cont 2 then
    let c := (b 0 % 16) * 4096 + (b 1 % 64) * 64 + b 2 % 64
    if c ≥ 0x800 && Utf8.valid c then (c, 3) else (Utf8.runeError, 1)
  else if b 0 / 8 == 30 && cont 1 && cont 2 && cont 3 then
    let c := (b 0 % 8) * 262144 + (b 1 % 64) * 4096 + (b 2 % 64) * 64 + b 3 % 64
    if c ≥ 0x10000 && Utf8.valid c then (c, 4) else (Utf8.runeError, 1)
  else (Utf8.runeError, 1)
theorem get_bs (l : List UInt8) (i k : Nat) : ((bs l).get! (i + k)).toNat = (((l.drop i)[k]?).getD 0).toNat := by
  rw [List.getElem?_drop]
  unfold bs ByteArray.get!
  simp only [Array.getElem!_eq_getD, Array.getD_eq_getD_getElem?, List.getElem?_toArray]
  rfl
theorem decode_bs (l : List UInt8) (i : Nat) : Utf8.decode (bs l) i = dec (l.drop i) := by
  have h0 := get_bs l i
  have hc : ∀ k, decide (i + k < (bs l).size) = decide (k < (l.drop i).length) := fun k => by
    rw [bs_size, List.length_drop]
    exact decide_eq_decide.2 (by omega)
  unfold Utf8.decode dec
  simp only [h0, hc]
theorem dec_utf {c : Nat} (h : SignN c) (post : List UInt8) : dec (utfN c ++ post) = (c, (utfN c).length) := by
  unfold SignN at h
  unfold utfN
  split
  · rename_i h1
    have e0 : ((([u8 c] ++ post)[0]?).getD 0).toNat = c := by simp [u8_nat (show c < 256 by omega)]
    unfold dec
    simp only [e0]
    rw [if_pos (by omega)]
    rfl
  · split
    · rename_i h1 h2
      have e0 : ((([u8 (192 + c / 64), u8 (128 + c % 64)] ++ post)[0]?).getD 0).toNat = 192 + c / 64 := by simp [u8_nat (show 192 + c / 64 < 256 by omega)]
      have e1 : ((([u8 (192 + c / 64), u8 (128 + c % 64)] ++ post)[1]?).getD 0).toNat = 128 + c % 64 := by simp [u8_nat (show 128 + c % 64 < 256 by omega)]
      have el : decide (1 < ([u8 (192 + c / 64), u8 (128 + c % 64)] ++ post).length) = true := decide_eq_true (by simp)
      unfold dec
      simp only [e0, e1, el]
      have f1 : (192 + c / 64) / 32 = 6 := by omega
      have f2 : (128 + c % 64) / 64 = 2 := by omega
      have f3 : (192 + c / 64) % 32 * 64 + (128 + c % 64) % 64 = c := by omega
      rw [f1, f2, f3, if_neg (by omega)]
      simp only [beq_self_eq_true, Bool.and_self, if_true]
      rw [if_pos (by omega)]
      rfl
    · rename_i h1 h2
      have e0 : ((([u8 (224 + c / 4096), u8 (128 + c / 64 % 64), u8 (128 + c % 64)] ++ post)[0]?).getD 0).toNat = 224 + c / 4096 := by simp [u8_nat (show 224 + c / 4096 < 256 by omega)]
      have e1 : ((([u8 (224 + c / 4096), u8 (128 + c / 64 % 64), u8 (128 + c % 64)] ++ post)[1]?).getD 0).toNat = 128 + c / 64 % 64 := by simp [u8_nat (show 128 + c / 64 % 64 < 256 by omega)]
      have e2 : ((([u8 (224 + c / 4096), u8 (128 + c / 64 % 64), u8 (128 + c % 64)] ++ post)[2]?).getD 0).toNat = 128 + c % 64 := by simp [u8_nat (show 128 + c % 64 < 256 by omega)]
      have el : decide (1 < ([u8 (224 + c / 4096), u8 (128 + c / 64 % 64), u8 (128 + c % 64)] ++ post).length) = true := decide_eq_true (by simp)
      have el2 : decide (2 < ([u8 (224 + c / 4096), u8 (128 + c / 64 % 64), u8 (128 + c % 64)] ++ post).length) = true := decide_eq_true (by simp)
      unfold dec
      simp only [e0, e1, e2, el, el2]
      have f0 : ((224 + c / 4096) / 32 == 6) = false := by
        have : (224 + c / 4096) / 32 = 7 := by omega
        rw [this]; rfl
      have f1 : (224 + c / 4096) / 16 = 14 := by omega
      have f2 : (128 + c % 64) / 64 = 2 := by omega
      have f2' : (128 + c / 64 % 64) / 64 = 2 := by omega
      have f3 : (224 + c / 4096) % 16 * 4096 + (128 + c / 64 % 64) % 64 * 64 + (128 + c % 64) % 64 = c := by omega
      have fv : Utf8.valid (c : Int) = true := by
        unfold Utf8.valid
        simp only [Bool.or_eq_true, Bool.and_eq_true, decide_eq_true_eq]
        omega
      rw [f0, f1, f2, f2', f3, fv, if_neg (by omega)]
      simp only [Bool.false_and, Bool.false_eq_true, if_false, beq_self_eq_true, Bool.and_self, if_true, Bool.and_true, decide_eq_true_eq]
      rw [if_pos (by omega)]
      rfl
theorem utf_dec {x : List UInt8} {c k : Nat} (h : dec x = (c, k)) (hs : SignN c) : x.take k = utfN c ∧ k ≤ x.length := by
  unfold SignN at hs
  have herr : ∀ {q : Nat}, (Utf8.runeError, q) = (c, k) → False := fun e => by
    injection e with e _
    unfold Utf8.runeError at e
    omega
  cases x with
  | nil =>
    have : dec [] = (0, 1) := rfl
    rw [this] at h
    injection h with h _
    omega
  | cons a x =>
  unfold dec at h
  simp only [List.getElem?_cons_zero, Option.getD_some, List.getElem?_cons_succ] at h
  split at h
  · injection h with h1 h2
    subst h1 h2
    unfold utfN
    rename_i hlt
    rw [if_pos (by omega)]
    exact ⟨by rw [u8_of rfl]; rfl, by simp⟩
  · rename_i h128
    split at h
    · rename_i hc
      simp only [Bool.and_eq_true, beq_iff_eq, decide_eq_true_eq] at hc
      obtain ⟨hc0, hc1, hc2⟩ := hc
      cases x with
      | nil => simp at hc1
      | cons b x =>
      simp only [List.getElem?_cons_zero, Option.getD_some] at h hc2
      split at h
      · rename_i hge
        injection h with h1 h2
        subst h2
        have ha := a.toNat_lt
        have hb := b.toNat_lt
        unfold utfN
        rw [if_neg (by omega), if_pos (by omega)]
        refine ⟨?_, by simp⟩
        simp only [List.take_succ_cons, List.take_zero]
        rw [u8_of (a := a) (by omega), u8_of (a := b) (by omega)]
      · exact (herr h).elim
    · split at h
      · rename_i hc
        simp only [Bool.and_eq_true, beq_iff_eq, decide_eq_true_eq] at hc
        obtain ⟨⟨hc0, hc1, hc2⟩, hc3, hc4⟩ := hc
        cases x with
        | nil => simp at hc1
        | cons b x =>
        cases x with
        | nil => simp at hc3
        | cons d x =>
        simp only [List.getElem?_cons_zero, Option.getD_some, List.getElem?_cons_succ] at h hc2 hc4
        split at h
        · rename_i hge
          simp only [Bool.and_eq_true, decide_eq_true_eq] at hge
          injection h with h1 h2
          subst h2
          have ha := a.toNat_lt
          have hb := b.toNat_lt
          have hd := d.toNat_lt
          unfold utfN
          rw [if_neg (by omega), if_neg (by omega)]
          refine ⟨?_, by simp⟩
          simp only [List.take_succ_cons, List.take_zero]
          rw [u8_of (a := a) (by omega), u8_of (a := b) (by omega), u8_of (a := d) (by omega)]
        · exact (herr h).elim
      · split at h
        · split at h
          · rename_i hge
            simp only [Bool.and_eq_true, decide_eq_true_eq] at hge
            injection h with h1 h2
            omega
          · exact (herr h).elim
        · exact (herr h).elim
/-- no byte of a sign is a comma -/
theorem utfN_comma {c : Nat} (h : SignN c) : (44 : UInt8) ∉ utfN c := by
  unfold SignN at h
  have key : ∀ n, n < 256 → n ≠ 44 → (44 : UInt8) ≠ u8 n := fun n h1 h2 e => by
    have := congrArg UInt8.toNat e
    rw [u8_nat h1] at this
    exact h2 this.symm
  unfold utfN
  split
  · simp only [List.mem_singleton]; exact key _ (by omega) (by omega)
  · split
    · simp only [List.mem_cons, List.not_mem_nil, or_false, not_or]
      exact ⟨key _ (by omega) (by omega), key _ (by omega) (by omega)⟩
    · simp only [List.mem_cons, List.not_mem_nil, or_false, not_or]
      exact ⟨key _ (by omega) (by omega), key _ (by omega) (by omega), key _ (by omega) (by omega)⟩
/-! numbers at the head of a text -/
theorem nd_take {l : List UInt8} {k : Nat} (h : k ≤ nd l) : nd (l.take k) = k := by
  have h1 := nd_le l
  have h2 : ∀ c ∈ l.take k, isD c = true := fun c hc => nd_all l c (by
    have : l.take k = (l.take (nd l)).take k := by rw [List.take_take, Nat.min_eq_left h]
    rw [this] at hc
    exact List.mem_of_mem_take hc)
  have := nd_pre (rest := []) h2 (by simp)
  rw [List.append_nil, List.length_take] at this
  omega
theorem scan_fine {s : List UInt8} {n e : Int} (h : scan s 0 = (n, e, 0)) : ∃ k : Nat, e = (k : Int) ∧ k ≤ s.length ∧ s.take k = Lib.itoa n ∧ -9223372036854775808 ≤ n ∧ n ≤ 9223372036854775807 := by
  have hs := scan_of (l := s) (r := s) (q := s.drop (sgn s)) (n := 0) (Nat.zero_le _) rfl rfl rfl rfl
  rw [show ((0 : Nat) : Int) = 0 from rfl, h] at hs
  have hq := nd_le (s.drop (sgn s))
  have hsl := sgn_le s
  have hlen : (s.drop (sgn s)).length = s.length - sgn s := by simp
  by_cases c : nd (s.drop (sgn s)) = 0 ∨ ((s.drop (sgn s))[0]? = some 48 ∧ (1 < nd (s.drop (sgn s)) ∨ 0 < sgn s))
  · rw [if_pos c] at hs
    simp at hs
  rw [if_neg c] at hs
  by_cases hv : dv 0 ((s.drop (sgn s)).take (nd (s.drop (sgn s)))) ≤ 9223372036854775807 + sgn s
  · rw [if_pos hv] at hs
    obtain ⟨hn, he⟩ := Prod.ext_iff.1 hs
    simp only at hn he
    obtain ⟨he, -⟩ := Prod.ext_iff.1 he
    simp only at he
    generalize hK : sgn s + nd (s.drop (sgn s)) = K
    have hKs : K ≤ s.length := by omega
    have hnd0 : 0 < nd (s.drop (sgn s)) := by omega
    have hsg : sgn (s.take K) = sgn s := by
      cases s with
      | nil => simp [nd] at hnd0
      | cons a t =>
        obtain ⟨K', rfl⟩ : ∃ K', K = K' + 1 := ⟨K - 1, by omega⟩
        rfl
    have hdr : (s.take K).drop (sgn s) = (s.drop (sgn s)).take (nd (s.drop (sgn s))) := by
      rw [List.drop_take]
      congr 1
      omega
    have hnd : nd ((s.drop (sgn s)).take (nd (s.drop (sgn s)))) = nd (s.drop (sgn s)) := nd_take (Nat.le_refl _)
    have h0 : ((s.drop (sgn s)).take (nd (s.drop (sgn s))))[0]? = (s.drop (sgn s))[0]? := by rw [List.getElem?_take, if_pos hnd0]
    have h2 := scan_of (l := s.take K) (r := s.take K) (q := (s.drop (sgn s)).take (nd (s.drop (sgn s)))) (i := nd (s.drop (sgn s))) (sg := sgn s) (n := 0) (Nat.zero_le _) rfl hsg hdr hnd
    rw [show ((0 : Nat) : Int) = 0 from rfl, h0, if_neg c] at h2
    have htt : ((s.drop (sgn s)).take (nd (s.drop (sgn s)))).take (nd (s.drop (sgn s))) = (s.drop (sgn s)).take (nd (s.drop (sgn s))) := by rw [List.take_take, Nat.min_self]
    rw [htt, if_pos hv, ← hn] at h2
    have hr : read (s.take K) = (n, 0) := by
      unfold read
      rw [h2]
      have hl : (s.take K).length = K := by rw [List.length_take]; omega
      simp only [ne_eq, not_true_eq_false, if_false]
      rw [if_neg (by rw [hl]; omega)]
    have hb := read_rng (l := s.take K)
    rw [hr] at hb
    exact ⟨K, by omega, hKs, (itoa_read hr).symm, hb.1, hb.2⟩
  · rw [if_neg hv] at hs
    simp at hs
/-- a number further on -/
theorem scan_shift (s : List UInt8) {k : Nat} (hk : k ≤ s.length) : scan s (k : Int) = if (scan (s.drop k) 0).2.2 = 0 then ((scan (s.drop k) 0).1, (k : Int) + (scan (s.drop k) 0).2.1, 0) else scan (s.drop k) 0 := by
  have h1 := scan_of (l := s) (r := s.drop k) (q := (s.drop k).drop (sgn (s.drop k))) (n := k) hk rfl rfl rfl rfl
  have h2 := scan_of (l := s.drop k) (r := s.drop k) (q := (s.drop k).drop (sgn (s.drop k))) (n := 0) (Nat.zero_le _) rfl rfl rfl rfl
  rw [show ((0 : Nat) : Int) = 0 from rfl] at h2
  rw [h1, h2]
  split
  · rfl
  · split
    · rw [if_pos rfl]
      simp only [Prod.mk.injEq, true_and, and_true]
      omega
    · rfl

/-! texts between commas -/
def joinC : List (List UInt8) → List UInt8
  | [] => []
  | p :: ps => p ++ ps.flatMap fun q => 44 :: q
theorem joinC_nil {ps : List (List UInt8)} (h : ps ≠ []) : joinC ([] :: ps) = 44 :: joinC ps := by
  cases ps with
  | nil => exact absurd rfl h
  | cons q qs => simp [joinC]
def consH (c : UInt8) : List (List UInt8) → List (List UInt8)
  | [] => [[c]]
  | p :: ps => (c :: p) :: ps
theorem split_step {c : UInt8} (hc : c ≠ 44) (l : List UInt8) : ∀ k, Lib.splitK [44] 0 k (c :: l) = consH c (Lib.splitK [44] 0 k l)
  | 0 => rfl
  | k + 1 => by
    have hp : ([44] : List UInt8).isPrefixOf (c :: l) = false := by simp [List.isPrefixOf, Ne.symm hc]
    have hix : Lib.index (c :: l) [44] = if Lib.index l [44] == -1 then -1 else Lib.index l [44] + 1 := by rw [Lib.index, hp]; simp
    unfold Lib.splitK
    by_cases hm : Lib.index l [44] = -1
    · rw [hix, hm]; rfl
    · have hge := Lib.index_ge l [44]
      obtain ⟨j, hj⟩ : ∃ j : Nat, Lib.index l [44] = j := ⟨(Lib.index l [44]).toNat, by omega⟩
      have e1 : Lib.index (c :: l) [44] = ((j + 1 : Nat) : Int) := by rw [hix, if_neg (fun e => hm (beq_iff_eq.1 e)), hj]; omega
      rw [e1, hj, if_neg (fun e => by have := beq_iff_eq.1 e; omega), if_neg (fun e => by have := beq_iff_eq.1 e; omega)]
      simp [consH]
theorem split_spec : ∀ s : List UInt8, joinC (Lib.splitK [44] 0 (s.count 44) s) = s ∧ (∀ p ∈ Lib.splitK [44] 0 (s.count 44) s, (44 : UInt8) ∉ p) ∧ Lib.splitK [44] 0 (s.count 44) s ≠ []
  | [] => ⟨rfl, fun p hp => by simp [Lib.splitK] at hp; subst hp; simp, by simp [Lib.splitK]⟩
  | c :: l => by
    obtain ⟨h1, h2, h3⟩ := split_spec l
    by_cases hc : c = 44
    · subst hc
      have hix : Lib.index (44 :: l) [44] = 0 := by rw [Lib.index]; simp [List.isPrefixOf]
      have e : Lib.splitK [44] 0 ((44 :: l).count 44) (44 :: l) = [] :: Lib.splitK [44] 0 (l.count 44) l := by
        rw [List.count_cons_self]
        rw [Lib.splitK, hix]
        simp
      rw [e]
      refine ⟨by rw [joinC_nil h3, h1], fun p hp => ?_, by simp⟩
      rcases List.mem_cons.1 hp with rfl | hp
      · simp
      · exact h2 p hp
    · rw [List.count_cons_of_ne (by simpa using fun e => hc e), split_step hc]
      generalize Lib.splitK [44] 0 (l.count 44) l = ps at *
      cases ps with
      | nil => exact absurd rfl h3
      | cons p ps =>
        refine ⟨by show c :: (p ++ _) = _; rw [← h1]; rfl, fun q hq => ?_, by simp [consH]⟩
        rcases List.mem_cons.1 hq with rfl | hq
        · intro hm
          rcases List.mem_cons.1 hm with e | hm
          · exact hc e.symm
          · exact h2 p (by simp) hm
        · exact h2 q (List.mem_cons_of_mem _ hq)
/-- the text ahead of the first comma -/
theorem upto_comma {p q r t : List UInt8} (hp : (44 : UInt8) ∉ p) (hq : (44 : UInt8) ∉ q) (hr : r = [] ∨ ∃ r', r = 44 :: r') (ht : t = [] ∨ ∃ t', t = 44 :: t') (h : p ++ r = q ++ t) : p = q ∧ r = t := by
  induction p generalizing q with
  | nil =>
    cases q with
    | nil => exact ⟨rfl, h⟩
    | cons b q =>
      rcases hr with rfl | ⟨r', rfl⟩
      · simp at h
      · simp only [List.nil_append, List.cons_append, List.cons.injEq] at h
        exact absurd (by rw [h.1]; simp) hq
  | cons a p ih =>
    cases q with
    | nil =>
      rcases ht with rfl | ⟨t', rfl⟩
      · simp at h
      · simp only [List.nil_append, List.cons_append, List.cons.injEq] at h
        exact absurd (by rw [← h.1]; simp) hp
    | cons b q =>
      simp only [List.cons_append, List.cons.injEq] at h
      obtain ⟨e1, e2⟩ := ih (fun c => hp (List.mem_cons_of_mem _ c)) (fun c => hq (List.mem_cons_of_mem _ c)) h.2
      exact ⟨by rw [h.1, e1], e2⟩
theorem tail_form (ps : List (List UInt8)) : (ps.flatMap fun q => 44 :: q) = [] ∨ ∃ r', (ps.flatMap fun q => 44 :: q) = (44 : UInt8) :: r' := by
  cases ps with
  | nil => exact .inl rfl
  | cons p ps => exact .inr ⟨_, rfl⟩
theorem tails_inj : ∀ {ps qs : List (List UInt8)}, (∀ p ∈ ps, (44 : UInt8) ∉ p) → (∀ p ∈ qs, (44 : UInt8) ∉ p) → (ps.flatMap fun q => 44 :: q) = (qs.flatMap fun q => (44 : UInt8) :: q) → ps = qs
  | [], [], _, _, _ => rfl
  | [], q :: qs, _, _, h => by simp at h
  | p :: ps, [], _, _, h => by simp at h
  | p :: ps, q :: qs, hp, hq, h => by
    simp only [List.flatMap_cons, List.cons_append, List.cons.injEq, true_and] at h
    obtain ⟨e1, e2⟩ := upto_comma (hp p (by simp)) (hq q (by simp)) (tail_form ps) (tail_form qs) h
    rw [e1, tails_inj (fun x hx => hp x (List.mem_cons_of_mem _ hx)) (fun x hx => hq x (List.mem_cons_of_mem _ hx)) e2]
theorem joinC_inj {ps qs : List (List UInt8)} (h1 : ps ≠ []) (h2 : qs ≠ []) (hp : ∀ p ∈ ps, (44 : UInt8) ∉ p) (hq : ∀ p ∈ qs, (44 : UInt8) ∉ p) (h : joinC ps = joinC qs) : ps = qs := by
  cases ps with
  | nil => exact absurd rfl h1
  | cons p ps =>
  cases qs with
  | nil => exact absurd rfl h2
  | cons q qs =>
  obtain ⟨e1, e2⟩ := upto_comma (hp p (by simp)) (hq q (by simp)) (tail_form ps) (tail_form qs) h
  rw [e1, tails_inj (fun x hx => hp x (List.mem_cons_of_mem _ hx)) (fun x hx => hq x (List.mem_cons_of_mem _ hx)) e2]
end Go.Proofs.YtjnglcjofajcnaaDoor

/-
  Bands, legends, their texts: what is printed is read, and nothing else: plain.
-/
namespace Go.Proofs.YtjnglcjofajcnaaDoor
open Go.RowKit
open Sy
set_option linter.unusedVariables false
set_option linter.unusedSimpArgs false
set_option maxRecDepth 100000
set_option maxHeartbeats 4000000

structure Bd where
  f : Int
  s : Int
def SignI (r : Int) : Prop := 0 ≤ r ∧ SignN r.toNat
instance (r : Int) : Decidable (SignI r) := by unfold SignI; exact inferInstance
def MayI (v : Int) : Prop := -2147483648 ≤ v ∧ v ≤ 2147483647
instance (v : Int) : Decidable (MayI v) := by unfold MayI; exact inferInstance
def In64 (v : Int) : Prop := -9223372036854775808 ≤ v ∧ v ≤ 9223372036854775807
def bF (l : List Bd) (i : Nat) : Int := (l.getD i ⟨0, 0⟩).f
def bS (l : List Bd) (i : Nat) : Int := (l.getD i ⟨0, 0⟩).s
def BandOk (l : List Bd) (i : Nat) : Prop := MayI (bF l i) ∧ SignI (bS l i) ∧ ∀ k, k < i → bF l k < bF l i ∧ bS l k ≠ bS l i
instance (l : List Bd) (i : Nat) : Decidable (BandOk l i) := by unfold BandOk; exact inferInstance
/-- is it a legend? -/
def RightL (l : List Bd) : Prop := 1 ≤ l.length ∧ l.length ≤ 12 ∧ ∀ i, i < l.length → BandOk l i
instance (l : List Bd) : Decidable (RightL l) := by unfold RightL; exact inferInstance

def bandT (b : Bd) : List UInt8 := Lib.itoa b.f ++ 58 :: utfN b.s.toNat
def printT (l : List Bd) : List UInt8 := joinC (l.map bandT)
theorem itoa_comma (n : Int) : (44 : UInt8) ∉ Lib.itoa n := by
  obtain ⟨h1, _, _, _⟩ := dec_facts n.natAbs
  have hd : (44 : UInt8) ∉ Lib.decDigits n.natAbs := fun h => by
    have := isD_iff.1 (h1 _ h)
    have e : (44 : UInt8).toNat = 44 := rfl
    omega
  unfold Lib.itoa
  split
  · intro h
    rcases List.mem_cons.1 h with h | h
    · exact absurd h (by decide)
    · exact hd h
  · rename_i c
    rw [show n.toNat = n.natAbs by omega]
    exact hd
theorem bandT_comma {b : Bd} (h : SignI b.s) : (44 : UInt8) ∉ bandT b := by
  unfold bandT
  intro c
  rcases List.mem_append.1 c with c | c
  · exact itoa_comma _ c
  · rcases List.mem_cons.1 c with c | c
    · exact absurd c (by decide)
    · exact utfN_comma h.2 c
theorem dig_len : ∀ (k u : Nat), u < 10 ^ (k + 1) → (Lib.decDigits u).length ≤ k + 1
  | 0, u, h => by rw [dec_one (by omega)]; simp
  | k + 1, u, h => by
    by_cases c : u < 10
    · rw [dec_one c]; simp
    · rw [dec_more c, List.length_append]
      have := dig_len k (u / 10) (by rw [Nat.pow_succ] at h; omega)
      simp only [List.length_cons, List.length_nil]
      omega
theorem itoa_len {n : Int} (h : MayI n) : (Lib.itoa n).length ≤ 11 := by
  unfold MayI at h
  unfold Lib.itoa
  split
  · have := dig_len 9 n.natAbs (by simp; omega)
    simp only [List.length_cons]
    omega
  · have := dig_len 9 n.toNat (by simp; omega)
    omega
/-- a band's text, if it is one's -/
def bandV (s : List UInt8) : Option Bd :=
  if (scan s 0).2.2 = 0 ∧ (scan s 0).2.1.toNat < s.length ∧ s[(scan s 0).2.1.toNat]? = some 58 ∧ SignN (dec (s.drop ((scan s 0).2.1.toNat + 1))).1 ∧ (dec (s.drop ((scan s 0).2.1.toNat + 1))).2 = (s.drop ((scan s 0).2.1.toNat + 1)).length then
    some ⟨(scan s 0).1, ((dec (s.drop ((scan s 0).2.1.toNat + 1))).1 : Int)⟩ else none
theorem at_split {s : List UInt8} {k : Nat} {c : UInt8} (h : s[k]? = some c) : s = s.take k ++ c :: s.drop (k + 1) := by
  obtain ⟨h1, h2⟩ := List.getElem?_eq_some_iff.1 h
  conv => lhs; rw [← List.take_append_drop k s, List.drop_eq_getElem_cons h1, h2]
theorem bandV_some {s : List UInt8} {b : Bd} (h : bandV s = some b) : s = bandT b ∧ In64 b.f ∧ SignI b.s := by
  unfold bandV at h
  split at h
  · rename_i hc
    obtain ⟨h1, h2, h3, h4, h5⟩ := hc
    injection h with h
    subst h
    rcases hx : scan s 0 with ⟨n, e, q⟩
    rw [hx] at h1 h2 h3 h4 h5
    simp only at h1 h2 h3 h4 h5 ⊢
    subst h1
    obtain ⟨k, rfl, hk, ht, hb⟩ := scan_fine hx
    simp only [Int.toNat_natCast] at h2 h3 h4 h5 ⊢
    rcases hd : dec (s.drop (k + 1)) with ⟨c, j⟩
    rw [hd] at h4 h5
    simp only at h4 h5 ⊢
    obtain ⟨hu, _⟩ := utf_dec hd h4
    rw [h5, List.take_length] at hu
    refine ⟨?_, hb, ⟨by omega, by simpa using h4⟩⟩
    unfold bandT
    simp only [Int.toNat_natCast]
    rw [← hu, ← ht]
    exact at_split h3
  · cases h
theorem colon_not : ∀ (x : List UInt8) (c : UInt8), (58 :: x : List UInt8)[0]? = some c → isD c = false := fun x c h => by
  simp only [List.getElem?_cons_zero, Option.some.injEq] at h
  subst h
  rfl
theorem bandV_of {b : Bd} (h1 : In64 b.f) (h2 : SignI b.s) : bandV (bandT b) = some b := by
  have hs : scan (bandT b) 0 = (b.f, ((Lib.itoa b.f).length : Int), 0) := scan_itoa b.f h1.1 h1.2 _ (colon_not _)
  have hd : (bandT b).drop ((Lib.itoa b.f).length + 1) = utfN b.s.toNat := by unfold bandT; simp
  have hu := dec_utf h2.2 []
  rw [List.append_nil] at hu
  unfold bandV
  rw [hs]
  simp only [Int.toNat_natCast]
  rw [hd, hu]
  rw [if_pos ⟨trivial, by unfold bandT; simp, by unfold bandT; simp, h2.2, rfl⟩]
  obtain ⟨f, s⟩ := b
  have := h2.1
  simp only at this ⊢
  rw [Int.toNat_of_nonneg this]
def partsV : List (List UInt8) → Option (List Bd)
  | [] => some []
  | p :: ps => match bandV p with
    | none => none
    | some b => (partsV ps).map (b :: ·)
theorem partsV_some : ∀ {ps : List (List UInt8)} {l : List Bd}, partsV ps = some l → ps = l.map bandT ∧ ∀ b ∈ l, In64 b.f ∧ SignI b.s
  | [], l, h => by
    injection h with h
    subst h
    exact ⟨rfl, fun b hb => by cases hb⟩
  | p :: ps, l, h => by
    unfold partsV at h
    split at h
    · cases h
    · rename_i b hb
      obtain ⟨l', hl, rfl⟩ := Option.map_eq_some_iff.1 h
      obtain ⟨e1, e2⟩ := partsV_some hl
      obtain ⟨f1, f2⟩ := bandV_some hb
      refine ⟨by rw [List.map_cons, ← f1, ← e1], fun x hx => ?_⟩
      rcases List.mem_cons.1 hx with rfl | hx
      · exact f2
      · exact e2 x hx
theorem partsV_of : ∀ {l : List Bd}, (∀ b ∈ l, In64 b.f ∧ SignI b.s) → partsV (l.map bandT) = some l
  | [], _ => rfl
  | b :: l, h => by
    rw [List.map_cons, partsV, bandV_of (h b (by simp)).1 (h b (by simp)).2]
    simp only
    rw [partsV_of fun x hx => h x (List.mem_cons_of_mem _ hx)]
    rfl
theorem RightL.good {l : List Bd} (h : RightL l) : ∀ b ∈ l, MayI b.f ∧ SignI b.s := fun b hb => by
  obtain ⟨i, hi, rfl⟩ := List.getElem_of_mem hb
  obtain ⟨h1, h2, _⟩ := h.2.2 i hi
  have e : l.getD i ⟨0, 0⟩ = l[i] := by rw [List.getD_eq_getElem?_getD, List.getElem?_eq_getElem hi]; rfl
  unfold bF at h1
  unfold bS at h2
  rw [e] at h1 h2
  exact ⟨h1, h2⟩
theorem MayI.in64 {v : Int} (h : MayI v) : In64 v := by unfold MayI at h; unfold In64; omega
theorem bandT_len {b : Bd} (h : MayI b.f) : (bandT b).length ≤ 15 := by
  have h1 := itoa_len h
  have h2 := utfN_len b.s.toNat
  unfold bandT
  rw [List.length_append, List.length_cons]
  omega
theorem tails_len : ∀ (l : List Bd), (∀ b ∈ l, MayI b.f) → ((l.map bandT).flatMap fun q => (44 : UInt8) :: q).length ≤ 16 * l.length
  | [], _ => by simp
  | b :: l, h => by
    have h1 := bandT_len (h b (by simp))
    have h2 := tails_len l fun x hx => h x (List.mem_cons_of_mem _ hx)
    simp only [List.map_cons, List.flatMap_cons, List.length_append, List.length_cons]
    omega
theorem printT_len {l : List Bd} (h : RightL l) : (printT l).length ≤ 192 := by
  have hg := h.good
  have hl := h.2.1
  unfold printT
  cases l with
  | nil => simp [joinC]
  | cons b l =>
    have h1 := bandT_len (hg b (by simp)).1
    have h2 := tails_len l fun x hx => (hg x (List.mem_cons_of_mem _ hx)).1
    simp only [List.map_cons, joinC, List.length_append]
    simp only [List.length_cons] at hl
    omega
/-- what the program reads -/
def readV (s : List UInt8) : Option (List Bd) := if 192 < s.length then none else match partsV (Lib.splitK [44] 0 (s.count 44) s) with
  | none => none
  | some l => if RightL l then some l else none
theorem readV_iff {s : List UInt8} {l : List Bd} : readV s = some l ↔ RightL l ∧ s = printT l := by
  obtain ⟨h1, h2, h3⟩ := split_spec s
  constructor
  · intro h
    unfold readV at h
    split at h
    · cases h
    · split at h
      · cases h
      · rename_i l' hp
        split at h
        · rename_i hr
          injection h with h
          subst h
          obtain ⟨e, _⟩ := partsV_some hp
          exact ⟨hr, by unfold printT; rw [← e, h1]⟩
        · cases h
  · rintro ⟨hr, rfl⟩
    have hne : l.map bandT ≠ [] := by
      have := hr.1
      intro c
      rw [List.map_eq_nil_iff.1 c] at this
      simp at this
    have e : Lib.splitK [44] 0 ((printT l).count 44) (printT l) = l.map bandT := joinC_inj h3 hne h2 (fun p hp => by
      obtain ⟨b, hb, rfl⟩ := List.mem_map.1 hp
      exact bandT_comma (hr.good b hb).2) h1
    unfold readV
    rw [if_neg (by have := printT_len hr; omega), e, partsV_of fun b hb => ⟨(hr.good b hb).1.in64, (hr.good b hb).2⟩]
    simp only
    rw [if_pos hr]

/-! the document's way -/
/-- the sign at the head of a text, and how many bytes: none: 0 -/
def runeV (x : List UInt8) : Int × Nat := if SignN (dec x).1 ∧ x ≠ [] then (((dec x).1 : Int), (dec x).2) else (0, 0)
def bandH (x : List UInt8) : Option (Bd × Nat) :=
  if (scan x 0).2.2 = 0 ∧ (scan x 0).2.1.toNat < x.length ∧ x[(scan x 0).2.1.toNat]? = some 58 ∧ (runeV (x.drop ((scan x 0).2.1.toNat + 1))).2 ≠ 0 then
    some (⟨(scan x 0).1, (runeV (x.drop ((scan x 0).2.1.toNat + 1))).1⟩, (scan x 0).2.1.toNat + 1 + (runeV (x.drop ((scan x 0).2.1.toNat + 1))).2) else none
theorem runeV_some {x : List UInt8} {r : Int} {k : Nat} (h : runeV x = (r, k)) (hk : k ≠ 0) : SignI r ∧ x.take k = utfN r.toNat ∧ k ≤ x.length := by
  unfold runeV at h
  split at h
  · rename_i hc
    rcases hd : dec x with ⟨c, j⟩
    rw [hd] at h hc
    injection h with e1 e2
    subst e1 e2
    obtain ⟨u1, u2⟩ := utf_dec hd hc.1
    exact ⟨⟨by omega, by simpa using hc.1⟩, by simpa using u1, u2⟩
  · injection h with e1 e2
    exact absurd e2.symm hk
theorem runeV_of {r : Int} (h : SignI r) (post : List UInt8) : runeV (utfN r.toNat ++ post) = (r, (utfN r.toNat).length) := by
  unfold runeV
  rw [dec_utf h.2 post, if_pos ⟨h.2, by have := utfN_ne r.toNat; intro c; exact this (List.append_eq_nil_iff.1 c).1⟩]
  simp only [Int.toNat_of_nonneg h.1]
theorem bandH_some {x : List UInt8} {b : Bd} {k : Nat} (h : bandH x = some (b, k)) : In64 b.f ∧ SignI b.s ∧ x.take k = bandT b ∧ k ≤ x.length := by
  unfold bandH at h
  split at h
  · rename_i hc
    obtain ⟨h1, h2, h3, h4⟩ := hc
    injection h with h
    injection h with hb hk
    subst hb hk
    rcases hx : scan x 0 with ⟨n, e, q⟩
    rw [hx] at h1 h2 h3 h4
    simp only at h1 h2 h3 h4 ⊢
    subst h1
    obtain ⟨i, rfl, hi, ht, hb⟩ := scan_fine hx
    simp only [Int.toNat_natCast] at h2 h3 h4 ⊢
    rcases hr : runeV (x.drop (i + 1)) with ⟨r, j⟩
    rw [hr] at h4
    simp only at h4 ⊢
    obtain ⟨g1, g2, g3⟩ := runeV_some hr h4
    rw [List.length_drop] at g3
    refine ⟨hb, g1, ?_, by omega⟩
    unfold bandT
    simp only
    rw [← g2, ← ht]
    have e1 := at_split h3
    have e2 : (x.take i).length = i := by rw [List.length_take]; omega
    conv => lhs; rw [e1]
    rw [List.take_append, e2, List.take_of_length_le (by rw [e2]; omega), show i + 1 + j - i = j + 1 by omega, List.take_succ_cons]
  · cases h
theorem bandH_of {b : Bd} (h1 : In64 b.f) (h2 : SignI b.s) (post : List UInt8) : bandH (bandT b ++ post) = some (b, (bandT b).length) := by
  have e : bandT b ++ post = Lib.itoa b.f ++ (58 :: (utfN b.s.toNat ++ post)) := by unfold bandT; simp
  have hs : scan (bandT b ++ post) 0 = (b.f, ((Lib.itoa b.f).length : Int), 0) := by rw [e]; exact scan_itoa b.f h1.1 h1.2 _ (colon_not _)
  have hd : (bandT b ++ post).drop ((Lib.itoa b.f).length + 1) = utfN b.s.toNat ++ post := by rw [e]; simp
  unfold bandH
  rw [hs]
  simp only [Int.toNat_natCast]
  rw [hd, runeV_of h2]
  have hl := utfN_len b.s.toNat
  rw [if_pos ⟨trivial, by rw [e]; simp, by rw [e]; simp, by simp only; omega⟩]
  have : (bandT b).length = (Lib.itoa b.f).length + 1 + (utfN b.s.toNat).length := by unfold bandT; simp; omega
  rw [this]
def rd : Nat → List UInt8 → Option (List Bd)
  | 0, _ => none
  | m + 1, x => match bandH x with
    | none => none
    | some (b, k) => if k = x.length then some [b] else if x[k]? = some 44 then (rd m (x.drop (k + 1))).map (b :: ·) else none
theorem rd_some : ∀ {m : Nat} {x : List UInt8} {l : List Bd}, rd m x = some l → x = printT l ∧ (∀ b ∈ l, In64 b.f ∧ SignI b.s) ∧ l ≠ []
  | 0, x, l, h => by cases h
  | m + 1, x, l, h => by
    unfold rd at h
    split at h
    · cases h
    · rename_i b k hb
      obtain ⟨h1, h2, h3, h4⟩ := bandH_some hb
      split at h
      · rename_i hk
        injection h with h
        subst h
        rw [hk, List.take_length] at h3
        exact ⟨by rw [h3]; simp [printT, joinC], fun y hy => by rw [List.mem_singleton] at hy; subst hy; exact ⟨h1, h2⟩, by simp⟩
      · split at h
        · rename_i h44
          obtain ⟨l', hl, rfl⟩ := Option.map_eq_some_iff.1 h
          obtain ⟨e1, e2, e3⟩ := rd_some hl
          refine ⟨?_, fun y hy => ?_, by simp⟩
          · rw [at_split h44, h3, e1]
            cases l' with
            | nil => exact absurd rfl e3
            | cons c l' => simp [printT, joinC]
          · rcases List.mem_cons.1 hy with rfl | hy
            · exact ⟨h1, h2⟩
            · exact e2 y hy
        · cases h
theorem rd_of : ∀ {m : Nat} {l : List Bd}, l ≠ [] → l.length ≤ m → (∀ b ∈ l, In64 b.f ∧ SignI b.s) → rd m (printT l) = some l
  | 0, l, h, hl, _ => absurd (List.length_eq_zero_iff.1 (by omega)) h
  | m + 1, [], h, hl, _ => absurd rfl h
  | m + 1, [b], h, hl, hg => by
    have e : printT [b] = bandT b ++ [] := by simp [printT, joinC]
    unfold rd
    rw [e, bandH_of (hg b (by simp)).1 (hg b (by simp)).2]
    simp
  | m + 1, b :: c :: l, h, hl, hg => by
    have e : printT (b :: c :: l) = bandT b ++ 44 :: printT (c :: l) := by simp [printT, joinC]
    have ih := rd_of (m := m) (l := c :: l) (by simp) (by simp only [List.length_cons] at hl ⊢; omega) fun x hx => hg x (List.mem_cons_of_mem _ hx)
    unfold rd
    rw [e, bandH_of (hg b (by simp)).1 (hg b (by simp)).2]
    simp only
    rw [if_neg (by simp), if_pos (by simp)]
    have : (bandT b ++ 44 :: printT (c :: l)).drop ((bandT b).length + 1) = printT (c :: l) := by simp
    rw [this, ih]
    rfl
def refV (s : List UInt8) : Option (List Bd) := match rd 13 s with
  | none => none
  | some l => if RightL l then some l else none
theorem refV_iff {s : List UInt8} {l : List Bd} : refV s = some l ↔ RightL l ∧ s = printT l := by
  constructor
  · intro h
    unfold refV at h
    split at h
    · cases h
    · rename_i l' hl
      split at h
      · rename_i hr
        injection h with h
        subst h
        exact ⟨hr, (rd_some hl).1⟩
      · cases h
  · rintro ⟨hr, rfl⟩
    unfold refV
    have h1 := hr.1
    have h2 := hr.2.1
    rw [rd_of (by intro c; rw [c] at h1; simp at h1) (by omega) fun b hb => ⟨(hr.good b hb).1.in64, (hr.good b hb).2⟩]
    simp only
    rw [if_pos hr]
theorem readV_ref (s : List UInt8) : readV s = refV s := by
  cases h : readV s with
  | some l => exact (refV_iff.2 (readV_iff.1 h)).symm
  | none =>
    cases h' : refV s with
    | none => rfl
    | some l => rw [readV_iff.2 (refV_iff.1 h')] at h; cases h
end Go.Proofs.YtjnglcjofajcnaaDoor

/-
  tint: Sign, Right; the document's.
-/
namespace Go.Proofs.YtjnglcjofajcnaaDoor
open Go.RowKit
open Sy
set_option linter.unusedVariables false
set_option linter.unusedSimpArgs false
set_option maxRecDepth 100000
set_option maxHeartbeats 4000000

def bdC (b : Bd) : List Value := [.int .i64 b.f, .int .i32 b.s]
def bcel (l : List Bd) : List Value := l.flatMap bdC
theorem bcel_len (l : List Bd) : (bcel l).length = l.length * 2 := by
  induction l with
  | nil => rfl
  | cons a l ih =>
    have e : bcel (a :: l) = bdC a ++ bcel l := rfl
    rw [e, List.length_append, ih]
    simp [bdC]; omega
theorem bcel_at : ∀ {l : List Bd} {i : Nat} (h : i < l.length), (bcel l)[i * 2]? = some (.int .i64 l[i].f) ∧ (bcel l)[i * 2 + 1]? = some (.int .i32 l[i].s)
  | f :: l, 0, _ => ⟨rfl, rfl⟩
  | f :: l, i + 1, h => by
    have := bcel_at (l := l) (i := i) (by simpa using h)
    have e : bcel (f :: l) = .int .i64 f.f :: .int .i32 f.s :: bcel l := rfl
    rw [e, show (i + 1) * 2 = i * 2 + 2 by omega]
    simpa using this
theorem bcel_take : ∀ (l : List Bd) (i : Nat), (bcel l).take (i * 2) = bcel (l.take i)
  | [], i => by simp [bcel]
  | a :: l, 0 => by simp [bcel]
  | a :: l, i + 1 => by
    have := bcel_take l i
    simp only [bcel, List.flatMap_cons, List.take_succ_cons] at *
    rw [show (i + 1) * 2 = i * 2 + 1 + 1 by omega]
    simp only [bdC, List.cons_append, List.nil_append, List.take_succ_cons] at *
    rw [this]
theorem SignI_iff {r : Int} : SignI r ↔ (r ≠ 44 ∧ r ≠ 58 ∧ r ≠ 173 ∧ ((33 ≤ r ∧ r ≤ 126) ∨ (161 ≤ r ∧ r ≤ 55295) ∨ (57344 ≤ r ∧ r ≤ 65532))) := by
  unfold SignI SignN
  omega
theorem bool_key {r : Int} {b : Bool} (h : b = true ↔ SignI r) : Value.bool b = .bool (decide (SignI r)) := by
  congr 1
  rw [Bool.eq_iff_iff, h, decide_eq_true_eq]
theorem sTSign {R : HP} (r : Int) : PureR Tryd.prog R 24 [.int .i32 r] (.bool (decide (SignI r))) := by
  have key : ∀ b : Bool, (b = true ↔ (r ≠ 44 ∧ r ≠ 58 ∧ r ≠ 173 ∧ ((33 ≤ r ∧ r ≤ 126) ∨ (161 ≤ r ∧ r ≤ 55295) ∨ (57344 ≤ r ∧ r ≤ 65532)))) → Value.bool b = .bool (decide (SignI r)) := fun b h => bool_key (h.trans SignI_iff.symm)
  generalize decide (SignI r) = d at *
  refine fn_of_run0 false Tryd.func24 rfl hmix rfl fun w0 => ?_
  conv => whnf
  repeat' (first | (refine ⟨fun h => ?_, fun h => ?_⟩ <;> (have h := h; conv => whnf)) | fail)
  all_goals (refine ⟨trivial, fin_pure rfl (key _ ?_)⟩; simp at *; omega)
theorem sRSign {R : HP} (r : Int) : PureR Tryd.prog R 25 [.int .i32 r] (.bool (decide (SignI r))) := by
  have key : ∀ b : Bool, (b = true ↔ (r ≠ 44 ∧ r ≠ 58 ∧ r ≠ 173 ∧ ((33 ≤ r ∧ r ≤ 126) ∨ (161 ≤ r ∧ r ≤ 55295) ∨ (57344 ≤ r ∧ r ≤ 65532)))) → Value.bool b = .bool (decide (SignI r)) := fun b h => bool_key (h.trans SignI_iff.symm)
  generalize decide (SignI r) = d at *
  refine fn_of_run0 false Tryd.func25 rfl hmix rfl fun w0 => ?_
  conv => whnf
  repeat' (first | (refine ⟨fun h => ?_, fun h => ?_⟩ <;> (have h := h; conv => whnf)) | fail)
  all_goals (refine ⟨trivial, fin_pure rfl (key _ ?_)⟩; simp at *; omega)
theorem sRMay33 {R : HP} (v : Int) : PureR Tryd.prog R 35 [.int .i64 v] (.bool (decide (MayI v))) := by
  have key : ∀ b : Bool, (b = true ↔ (-2147483648 ≤ v ∧ v ≤ 2147483647)) → Value.bool b = .bool (decide (MayI v)) := fun b h => by
    congr 1
    rw [Bool.eq_iff_iff, h, decide_eq_true_eq]
    rfl
  generalize decide (MayI v) = d at *
  refine fn_of_run0 false Tryd.func35 rfl hmix rfl fun w0 => ?_
  conv => whnf
  repeat' (first | (refine ⟨fun h => ?_, fun h => ?_⟩ <;> (have h := h; conv => whnf)) | fail)
  all_goals (refine ⟨trivial, fin_pure rfl (key _ ?_)⟩; simp at *; omega)
/-- where the first is that p takes; -1: none -/
def ixB (p : Bd → Bool) (l : List Bd) : Int := if l.findIdx p < l.length then (l.findIdx p : Int) else -1
theorem sIndexR {R : HP} {A : Option Addr} {n c : Nat} {l : List Bd} {p1 : Value} {p : Bd → Bool} (hn : n ≤ 9223372036854775807) (ha : Sl R A n 2 (bcel l))
    (hp : ∀ R' : HP, (∀ w, Sat R' w → Sat R w) → ∀ x ∈ l, PureR Tryd.prog R' 56 [.agg #[.int .i64 x.f, .int .i32 x.s], p1] (.bool (p x))) :
    PureR Tryd.prog R 53 [.slice A n c, .func (.func 56) #[] #[p1]] (.int .i64 (ixB p l)) := by
  refine PureR.of_sat fun w hs => ?_
  obtain ⟨hl, sa⟩ := ha.spot (by omega) hs
  rw [bcel_len] at hl
  have e1 : l.length = n := by omega
  clear hs hl
  have hix : ∀ k (h : k < l.length), (∀ j (hj : j < k), p (l[j]'(by omega)) = false) → p l[k] = true → ixB p l = (k : Int) := fun k h h0 h1 => by
    have : l.findIdx p = k := (List.findIdx_eq h).2 ⟨h1, fun j hj => h0 j hj⟩
    unfold ixB
    rw [this, if_pos h]
  have hno : (∀ j (hj : j < n), p (l[j]'(by omega)) = false) → ixB p l = -1 := fun h => by
    have : l.findIdx p = l.length := List.findIdx_eq_length.2 fun x hx => by
      obtain ⟨j, hj, e⟩ := List.mem_iff_getElem.1 hx
      rw [← e]; exact h j (by omega)
    unfold ixB
    rw [this, if_neg (Nat.lt_irrefl _)]
  generalize ixB p l = ix at *
  refine fn_of_run0 false Tryd.func53 rfl hmix rfl fun w0 => ?_
  conv => whnf
  refine ⟨trivial, LoopAt.keep (α := Nat) [0, 1, 7] (fun k => [(8, .v (.int .i64 (k : Int)))]) (fun k => k ≤ n ∧ ∀ j (hj : j < k) (hj' : j < l.length), p l[j] = false) (fun k => n - k) 0 ⟨Nat.zero_le _, fun j hj => absurd hj (Nat.not_lt_zero _)⟩ rfl ⟨⟨rfl, rfl⟩, trivial⟩ ⟨⟨rfl, rfl⟩, ⟨rfl, rfl⟩, ⟨rfl, rfl⟩, trivial⟩ trivial ?_⟩
  rintro k ⟨hk, h0⟩
  conv => whnf
  refine ⟨fun h2 => ?_, fun h2 => ?_⟩
  · have g2 : k < n := by simpa using h2
    rcases sa with sa | ⟨b, off, rfl, sa⟩
    · omega
    have hk' : k < l.length := by omega
    obtain ⟨f1, f2⟩ := bcel_at (l := l) (i := k) hk'
    have hpk := fun R' h => hp R' h _ (List.getElem_mem hk')
    have hixk := hix k hk' (fun j hj => h0 j hj (by omega))
    have hsucc : p l[k] = false → ∀ j (hj : j < k + 1) (hj' : j < l.length), p l[j] = false := fun h j hj hj' => by
      rcases Nat.lt_or_ge j k with c | c
      · exact h0 j c hj'
      · have : j = k := by omega
        subst this; exact h
    generalize l[k] = x at *
    conv => whnf
    refine ⟨⟨trivial, by omega⟩, LoadAt.agg [.int .i64 x.f, .int .i32 x.s] rfl rfl rfl (fun w hw j v hj => ?_) ?_⟩
    · rw [Int.toNat_natCast, Nat.add_assoc]
      rcases j with _ | _ | j
      · simp at hj; rw [← hj]; exact sa w hw _ _ f1
      · simp at hj; rw [← hj]; exact sa w hw _ _ f2
      · simp at hj
    conv => whnf
    refine ⟨trivial, CallAt.pure (fun R' hR' => hpk R' hR') ?_⟩
    conv => whnf
    refine ⟨fun h3 => ?_, fun h3 => ?_⟩
    · rw [hixk h3]
      conv => whnf
      exact ⟨trivial, fin_pure rfl rfl⟩
    · conv => whnf
      exact ⟨⟨trivial, by unfold rng; omega⟩, Next.keep (k + 1) ⟨by omega, hsucc h3⟩ (by omega) ⟨⟨rfl, rfl⟩, trivial⟩ ⟨⟨rfl, rfl⟩, ⟨rfl, rfl⟩, ⟨rfl, rfl⟩, trivial⟩ trivial rfl rfl rfl⟩
  · have g2 : k = n := by simp at h2; omega
    subst g2
    rw [hno fun j hj => h0 j hj (by omega)]
    conv => whnf
    exact ⟨trivial, fin_pure rfl rfl⟩
theorem sIndexK {R : HP} {A : Option Addr} {n c : Nat} {l : List Bd} {p1 : Value} {p : Bd → Bool} (hn : n ≤ 9223372036854775807) (ha : Sl R A n 2 (bcel l))
    (hp : ∀ R' : HP, (∀ w, Sat R' w → Sat R w) → ∀ x ∈ l, PureR Tryd.prog R' 54 [.agg #[.int .i64 x.f, .int .i32 x.s], p1] (.bool (p x))) :
    PureR Tryd.prog R 53 [.slice A n c, .func (.func 54) #[] #[p1]] (.int .i64 (ixB p l)) := by
  refine PureR.of_sat fun w hs => ?_
  obtain ⟨hl, sa⟩ := ha.spot (by omega) hs
  rw [bcel_len] at hl
  have e1 : l.length = n := by omega
  clear hs hl
  have hix : ∀ k (h : k < l.length), (∀ j (hj : j < k), p (l[j]'(by omega)) = false) → p l[k] = true → ixB p l = (k : Int) := fun k h h0 h1 => by
    have : l.findIdx p = k := (List.findIdx_eq h).2 ⟨h1, fun j hj => h0 j hj⟩
    unfold ixB
    rw [this, if_pos h]
  have hno : (∀ j (hj : j < n), p (l[j]'(by omega)) = false) → ixB p l = -1 := fun h => by
    have : l.findIdx p = l.length := List.findIdx_eq_length.2 fun x hx => by
      obtain ⟨j, hj, e⟩ := List.mem_iff_getElem.1 hx
      rw [← e]; exact h j (by omega)
    unfold ixB
    rw [this, if_neg (Nat.lt_irrefl _)]
  generalize ixB p l = ix at *
  refine fn_of_run0 false Tryd.func53 rfl hmix rfl fun w0 => ?_
  conv => whnf
  refine ⟨trivial, LoopAt.keep (α := Nat) [0, 1, 7] (fun k => [(8, .v (.int .i64 (k : Int)))]) (fun k => k ≤ n ∧ ∀ j (hj : j < k) (hj' : j < l.length), p l[j] = false) (fun k => n - k) 0 ⟨Nat.zero_le _, fun j hj => absurd hj (Nat.not_lt_zero _)⟩ rfl ⟨⟨rfl, rfl⟩, trivial⟩ ⟨⟨rfl, rfl⟩, ⟨rfl, rfl⟩, ⟨rfl, rfl⟩, trivial⟩ trivial ?_⟩
  rintro k ⟨hk, h0⟩
  conv => whnf
  refine ⟨fun h2 => ?_, fun h2 => ?_⟩
  · have g2 : k < n := by simpa using h2
    rcases sa with sa | ⟨b, off, rfl, sa⟩
    · omega
    have hk' : k < l.length := by omega
    obtain ⟨f1, f2⟩ := bcel_at (l := l) (i := k) hk'
    have hpk := fun R' h => hp R' h _ (List.getElem_mem hk')
    have hixk := hix k hk' (fun j hj => h0 j hj (by omega))
    have hsucc : p l[k] = false → ∀ j (hj : j < k + 1) (hj' : j < l.length), p l[j] = false := fun h j hj hj' => by
      rcases Nat.lt_or_ge j k with c | c
      · exact h0 j c hj'
      · have : j = k := by omega
        subst this; exact h
    generalize l[k] = x at *
    conv => whnf
    refine ⟨⟨trivial, by omega⟩, LoadAt.agg [.int .i64 x.f, .int .i32 x.s] rfl rfl rfl (fun w hw j v hj => ?_) ?_⟩
    · rw [Int.toNat_natCast, Nat.add_assoc]
      rcases j with _ | _ | j
      · simp at hj; rw [← hj]; exact sa w hw _ _ f1
      · simp at hj; rw [← hj]; exact sa w hw _ _ f2
      · simp at hj
    conv => whnf
    refine ⟨trivial, CallAt.pure (fun R' hR' => hpk R' hR') ?_⟩
    conv => whnf
    refine ⟨fun h3 => ?_, fun h3 => ?_⟩
    · rw [hixk h3]
      conv => whnf
      exact ⟨trivial, fin_pure rfl rfl⟩
    · conv => whnf
      exact ⟨⟨trivial, by unfold rng; omega⟩, Next.keep (k + 1) ⟨by omega, hsucc h3⟩ (by omega) ⟨⟨rfl, rfl⟩, trivial⟩ ⟨⟨rfl, rfl⟩, ⟨rfl, rfl⟩, ⟨rfl, rfl⟩, trivial⟩ trivial rfl rfl rfl⟩
  · have g2 : k = n := by simp at h2; omega
    subst g2
    rw [hno fun j hj => h0 j hj (by omega)]
    conv => whnf
    exact ⟨trivial, fin_pure rfl rfl⟩
/-- the closures ask for a sign -/
theorem sRight1 {R : HP} {tb : Nat} {s : Int} (x : Bd) (hR : ∀ w, Sat R w → w.cell? ⟨tb, 1, none⟩ = some (.int .i32 s)) : PureR Tryd.prog R 56 [.agg #[.int .i64 x.f, .int .i32 x.s], .pointer (some ⟨tb, 0, none⟩)] (.bool (decide (x.s = s))) := by
  refine fn_of_run0 false Tryd.func56 rfl hmix rfl fun w0 => ?_
  conv => whnf
  refine ⟨trivial, LoadAt.cell (.int .i32 s) rfl rfl (fun w hw => hR w hw) ?_⟩
  conv => whnf
  exact ⟨trivial, fin_pure rfl rfl⟩
theorem sBack1 {R : HP} {tb : Nat} {s : Int} (x : Bd) (hR : ∀ w, Sat R w → w.cell? ⟨tb, 0, none⟩ = some (.int .i32 s)) : PureR Tryd.prog R 54 [.agg #[.int .i64 x.f, .int .i32 x.s], .pointer (some ⟨tb, 0, none⟩)] (.bool (decide (x.s = s))) := by
  refine fn_of_run0 false Tryd.func54 rfl hmix rfl fun w0 => ?_
  conv => whnf
  refine ⟨trivial, LoadAt.cell (.int .i32 s) rfl rfl (fun w hw => hR w hw) ?_⟩
  conv => whnf
  exact ⟨trivial, fin_pure rfl rfl⟩
theorem ixB_no {p : Bd → Bool} {l : List Bd} : (0 ≤ ixB p l) ↔ ∃ x ∈ l, p x = true := by
  unfold ixB
  by_cases h : l.findIdx p < l.length
  · rw [if_pos h]
    exact ⟨fun _ => ⟨_, List.getElem_mem h, List.findIdx_getElem⟩, fun _ => by omega⟩
  · rw [if_neg h]
    refine ⟨fun c => by omega, fun ⟨x, hx, hp⟩ => absurd (List.findIdx_lt_length_of_exists ⟨x, hx, hp⟩) h⟩
theorem sContainsR {R : HP} {A : Option Addr} {n c tb : Nat} {s : Int} {l : List Bd} (hn : n ≤ 9223372036854775807) (ha : Sl R A n 2 (bcel l)) (hR : ∀ w, Sat R w → w.cell? ⟨tb, 1, none⟩ = some (.int .i32 s)) :
    PureR Tryd.prog R 55 [.slice A n c, .func (.func 56) #[] #[.pointer (some ⟨tb, 0, none⟩)]] (.bool (decide (∃ x ∈ l, x.s = s))) := by
  have hi := fun R' (h : ∀ w, Sat R' w → Sat R w) => sIndexR (c := c) (p1 := .pointer (some ⟨tb, 0, none⟩)) (p := fun x => decide (x.s = s)) hn (ha.mono h) fun R'' h' x hx => sRight1 x fun w s => hR w (h w (h' w s))
  have e : decide (0 ≤ ixB (fun x => decide (x.s = s)) l) = decide (∃ x ∈ l, x.s = s) := decide_eq_decide.2 (by rw [ixB_no]; simp)
  rw [← e]
  generalize ixB (fun x => decide (x.s = s)) l = ix at *
  refine fn_of_run0 false Tryd.func55 rfl hmix rfl fun w0 => ?_
  conv => whnf
  refine ⟨trivial, CallAt.pure (fun R' hR' => hi R' hR') ?_⟩
  conv => whnf
  exact ⟨trivial, fin_pure rfl rfl⟩
end Go.Proofs.YtjnglcjofajcnaaDoor

/-
  tint.Right; the document's Right.
-/
namespace Go.Proofs.YtjnglcjofajcnaaDoor
open Go.RowKit
open Sy
set_option linter.unusedVariables false
set_option linter.unusedSimpArgs false
set_option maxRecDepth 100000
set_option maxHeartbeats 4000000

theorem bF_eq {l : List Bd} {i : Nat} (h : i < l.length) : bF l i = l[i].f := by unfold bF; rw [List.getD_eq_getElem?_getD, List.getElem?_eq_getElem h]; rfl
theorem bS_eq {l : List Bd} {i : Nat} (h : i < l.length) : bS l i = l[i].s := by unfold bS; rw [List.getD_eq_getElem?_getD, List.getElem?_eq_getElem h]; rfl
theorem bcel_F {l : List Bd} {i : Nat} (h : i < l.length) : (bcel l)[i * 2]? = some (.int .i64 (bF l i)) ∧ (bcel l)[i * 2 + 1]? = some (.int .i32 (bS l i)) := by rw [bF_eq h, bS_eq h]; exact bcel_at h
theorem bandOk_next {l : List Bd} {i : Nat} (h0 : ∀ j, j < i → BandOk l j) (h1 : MayI (bF l i)) (h2 : SignI (bS l i)) (h3 : 0 < i → bF l (i - 1) < bF l i) (h4 : ∀ k, k < i → bS l k ≠ bS l i) : BandOk l i := by
  refine ⟨h1, h2, fun k hk => ⟨?_, h4 k hk⟩⟩
  have h5 := h3 (by omega)
  by_cases c : k = i - 1
  · rw [c]; exact h5
  · have := ((h0 (i - 1) (by omega)).2.2 k (by omega)).1
    omega
theorem Sl.takeB {R : HP} {A : Option Addr} {n i : Nat} {l : List Bd} (h : Sl R A n 2 (bcel l)) (hi : i ≤ n) (hl : l.length = n) : Sl R A i 2 (bcel (l.take i)) := fun w s => by
  have hr := h w s
  refine ⟨by rw [bcel_len, List.length_take]; omega, fun h0 => ?_⟩
  obtain ⟨ad, e, hb, hc⟩ := hr.2 (by omega)
  refine ⟨ad, e, hb, fun j u hu => hc j u ?_⟩
  rw [← bcel_take, List.getElem?_take] at hu
  split at hu
  · exact hu
  · cases hu
theorem mem_takeB {l : List Bd} {i : Nat} (hi : i ≤ l.length) {s : Int} : (∃ x ∈ l.take i, x.s = s) ↔ ∃ k, k < i ∧ bS l k = s := by
  constructor
  · rintro ⟨x, hx, e⟩
    obtain ⟨k, hk, rfl⟩ := List.getElem_of_mem hx
    rw [List.length_take] at hk
    refine ⟨k, by omega, ?_⟩
    rw [bS_eq (by omega), ← e, List.getElem_take]
  · rintro ⟨k, hk, e⟩
    rw [bS_eq (by omega)] at e
    exact ⟨_, List.mem_take_iff_getElem.2 ⟨k, by omega, rfl⟩, e⟩
theorem sTRight {R : HP} {A : Option Addr} {n c : Nat} {l : List Bd} (hn : n ≤ 9223372036854775807) (hc : n ≤ c) (ha : Sl R A n 2 (bcel l)) : PureR Tryd.prog R 26 [.slice A n c] (.bool (decide (RightL l))) := by
  refine PureR.of_sat fun w hs => ?_
  obtain ⟨hl, sa⟩ := ha.spot (by omega) hs
  rw [bcel_len] at hl
  have e1 : l.length = n := by omega
  clear hs hl
  have hyes : 1 ≤ n → n ≤ 12 → (∀ i, i < n → BandOk l i) → decide (RightL l) = true := fun h1 h2 h3 => decide_eq_true ⟨by omega, by omega, fun i hi => h3 i (by omega)⟩
  have hno1 : n < 1 → decide (RightL l) = false := fun h => decide_eq_false fun c => by have := c.1; omega
  have hno2 : 12 < n → decide (RightL l) = false := fun h => decide_eq_false fun c => by have := c.2.1; omega
  have hno : ∀ i, i < n → ¬ BandOk l i → decide (RightL l) = false := fun i hi h => decide_eq_false fun c => h (c.2.2 i (by omega))
  generalize decide (RightL l) = d at *
  refine fn_of_run0 false Tryd.func26 rfl hmix rfl fun w0 => ?_
  conv => whnf
  refine ⟨fun h1 => ?_, fun h1 => ?_⟩
  · have h1 : ¬ ((n : Int) < 1) := by simpa using h1
    conv => whnf
    refine ⟨fun h2 => ?_, fun h2 => ?_⟩
    · have h2 : (12 : Int) < n := by simpa using h2
      rw [hno2 (by omega)]
      conv => whnf
      exact ⟨trivial, fin_pure rfl rfl⟩
    · have h2 : ¬ (12 : Int) < n := by simpa using h2
      conv => whnf
      refine ⟨trivial, LoopAt.of (α := Nat) [0, 14, 15] (fun i => [(16, .v (.int .i64 (i : Int)))]) (fun _ => []) (fun _ => []) (fun i => i ≤ n ∧ ∀ j, j < i → BandOk l j) (fun i => n - i) 0 ⟨Nat.zero_le _, fun j hj => absurd hj (Nat.not_lt_zero _)⟩
        (Le.of (Nat.le_of_ble_eq_true rfl) (Nat.zero_le _) ⟨⟨rfl, rfl⟩, ⟨rfl, rfl⟩, ⟨rfl, rfl⟩, ⟨rfl, rfl⟩, trivial⟩ trivial fun h s => sub_same s) ?_⟩
      rintro i ⟨hi, h0⟩
      conv => whnf
      refine ⟨fun h3 => ?_, fun h3 => ?_⟩
      · have g3 : i < n := by simpa using h3
        rcases sa with sa | ⟨b, off, rfl, sa⟩
        · omega
        obtain ⟨f1, f2⟩ := bcel_F (l := l) (i := i) (by omega)
        have hnoi := hno i g3
        have hp : 0 < i → ∀ w, Sat R w → w.cell? ⟨b, off + (i - 1) * 2, none⟩ = some (.int .i64 (bF l (i - 1))) := fun h w s => sa w s _ _ (bcel_F (l := l) (i := i - 1) (by omega)).1
        have hnext := bandOk_next h0
        have hbad1 : ¬ MayI (bF l i) → d = false := fun h => hnoi fun c => h c.1
        have hbad2 : ¬ SignI (bS l i) → d = false := fun h => hnoi fun c => h c.2.1
        have hbad3 : 0 < i → ¬ bF l (i - 1) < bF l i → d = false := fun h h' => hnoi fun c => h' (c.2.2 (i - 1) (by omega)).1
        have hbad4 : (∃ k, k < i ∧ bS l k = bS l i) → d = false := fun ⟨k, h, h'⟩ => hnoi fun c => (c.2.2 k h).2 h'
        have hmem := mem_takeB (l := l) (i := i) (by omega) (s := bS l i)
        generalize bF l (i - 1) = y at *
        generalize hx : bF l i = x at *
        generalize hs : bS l i = s at *
        conv => whnf
        refine ⟨⟨trivial, by omega⟩, LoadAt.agg [.int .i64 x, .int .i32 s] rfl rfl rfl (fun w hw j v hj => ?_) ?_⟩
        · rw [Int.toNat_natCast, Nat.add_assoc]
          rcases j with _ | _ | j
          · simp at hj; rw [← hj]; exact sa w hw _ _ f1
          · simp at hj; rw [← hj]; exact sa w hw _ _ f2
          · simp at hj
        conv => whnf
        refine ⟨fun a1 => ?_, fun a1 => ?_⟩
        · have a1 : ¬ x < -2147483648 := of_decide_eq_false a1
          conv => whnf
          refine ⟨fun a2 => ?_, fun a2 => ?_⟩
          · have a2 : ¬ 2147483647 < x := of_decide_eq_false a2
            conv => whnf
            refine ⟨⟨trivial, by omega, by omega⟩, CallAt.pure (fun R' hR' => sTSign s) ?_⟩
            conv => whnf
            refine ⟨fun a3 => ?_, fun a3 => ?_⟩
            · rw [hbad2 (by simpa using a3)]
              conv => whnf
              exact ⟨trivial, fin_pure rfl rfl⟩
            · have a3 : SignI s := by simpa using a3
              conv => whnf
              refine ⟨trivial, RegAt.quiet hmix (by kernel_rfl) ?_⟩
              conv => whnf
              refine ⟨fun b1 => ?_, fun b1 => ?_⟩
              · have b1 : 0 < i := by simpa using b1
                conv => whnf
                refine ⟨⟨⟨trivial, by unfold rng; omega⟩, by omega, by omega⟩, LoadAt.cell (.int .i64 y) rfl rfl (fun w hw => ?_) ?_⟩
                · have := hp b1 w hw
                  have e : (((i : Int) - 1).toNat) = i - 1 := by omega
                  simpa [e] using this
                conv => whnf
                refine ⟨trivial, ?_⟩
                conv => whnf
                refine ⟨fun b2 => ?_, fun b2 => ?_⟩
                · rw [hbad3 b1 (by simp at b2; omega)]
                  conv => whnf
                  exact ⟨trivial, fin_pure rfl rfl⟩
                · have b2 : y < x := by simp at b2; omega
                  conv => whnf
                  intro tb _
                  conv => whnf
                  refine ⟨trivial, CallAt.pure (fun R' hR' => sContainsR (n := i) (s := s) (by omega) (Sl.takeB (ha.mono fun w s => (hR' w s).rest) (by omega) e1) (fun w s => (blk_sat ((hR' w s).in_ 0 rfl)).cell 1)) ?_⟩
                  conv => whnf
                  refine ⟨fun z => ?_, fun z => ?_⟩
                  · rw [hbad4 (hmem.1 (of_decide_eq_true z))]
                    conv => whnf
                    exact ⟨trivial, fin_drop rfl⟩
                  · have z := of_decide_eq_false z
                    conv => whnf
                    refine ⟨⟨trivial, by unfold rng; omega⟩, .mk (i + 1) ⟨by omega, fun j hj => ?_⟩ (by omega) (Le.of (Nat.le_of_ble_eq_true rfl) (Nat.zero_le _) ⟨⟨rfl, rfl⟩, ⟨rfl, rfl⟩, ⟨rfl, rfl⟩, ⟨rfl, rfl⟩, trivial⟩ trivial fun h s => sub_nil s)⟩
                    rcases Nat.lt_or_ge j i with c | c
                    · exact h0 j c
                    · rw [show j = i by omega]
                      exact hnext ⟨by omega, by omega⟩ a3 (fun _ => b2) fun k hk e => z (hmem.2 ⟨k, hk, e⟩)
              · have b1 : ¬ 0 < i := by simpa using b1
                conv => whnf
                refine ⟨trivial, ?_⟩
                conv => whnf
                intro tb _
                conv => whnf
                refine ⟨trivial, CallAt.pure (fun R' hR' => sContainsR (n := i) (s := s) (by omega) (Sl.takeB (ha.mono fun w s => (hR' w s).rest) (by omega) e1) (fun w s => (blk_sat ((hR' w s).in_ 0 rfl)).cell 1)) ?_⟩
                conv => whnf
                refine ⟨fun z => ?_, fun z => ?_⟩
                · rw [hbad4 (hmem.1 (of_decide_eq_true z))]
                  conv => whnf
                  exact ⟨trivial, fin_drop rfl⟩
                · have z := of_decide_eq_false z
                  conv => whnf
                  refine ⟨⟨trivial, by unfold rng; omega⟩, .mk (i + 1) ⟨by omega, fun j hj => ?_⟩ (by omega) (Le.of (Nat.le_of_ble_eq_true rfl) (Nat.zero_le _) ⟨⟨rfl, rfl⟩, ⟨rfl, rfl⟩, ⟨rfl, rfl⟩, ⟨rfl, rfl⟩, trivial⟩ trivial fun h s => sub_nil s)⟩
                  rcases Nat.lt_or_ge j i with c | c
                  · exact h0 j c
                  · rw [show j = i by omega]
                    exact hnext ⟨by omega, by omega⟩ a3 (fun c => absurd c b1) fun k hk e => z (hmem.2 ⟨k, hk, e⟩)
          · have a2 : 2147483647 < x := by simpa using a2
            rw [hbad1 (fun c => by have := c.2; omega)]
            conv => whnf
            exact ⟨⟨trivial, by omega, by omega⟩, fin_pure rfl rfl⟩
        · have a1 : x < -2147483648 := by simpa using a1
          rw [hbad1 (fun c => by have := c.1; omega)]
          conv => whnf
          exact ⟨⟨trivial, by omega, by omega⟩, fin_pure rfl rfl⟩
      · have g3 : i = n := by simp at h3; omega
        subst g3
        rw [hyes (by omega) (by omega) h0]
        conv => whnf
        exact ⟨trivial, fin_pure rfl rfl⟩
  · have h1 : (n : Int) < 1 := by simpa using h1
    rw [hno1 (by omega)]
    conv => whnf
    exact ⟨trivial, fin_pure rfl rfl⟩
theorem sRRight {R : HP} {A : Option Addr} {n c : Nat} {l : List Bd} (hn : n ≤ 9223372036854775807) (ha : Sl R A n 2 (bcel l)) : PureR Tryd.prog R 27 [.slice A n c] (.bool (decide (RightL l))) := by
  refine PureR.of_sat fun w hs => ?_
  obtain ⟨hl, sa⟩ := ha.spot (by omega) hs
  rw [bcel_len] at hl
  have e1 : l.length = n := by omega
  clear hs hl
  have hyes : 1 ≤ n → n ≤ 12 → (∀ i, i < n → BandOk l i) → decide (RightL l) = true := fun h1 h2 h3 => decide_eq_true ⟨by omega, by omega, fun i hi => h3 i (by omega)⟩
  have hno1 : n < 1 → decide (RightL l) = false := fun h => decide_eq_false fun c => by have := c.1; omega
  have hno2 : 12 < n → decide (RightL l) = false := fun h => decide_eq_false fun c => by have := c.2.1; omega
  have hno : ∀ i, i < n → ¬ BandOk l i → decide (RightL l) = false := fun i hi h => decide_eq_false fun c => h (c.2.2 i (by omega))
  generalize decide (RightL l) = d at *
  refine fn_of_run0 false Tryd.func27 rfl hmix rfl fun w0 => ?_
  conv => whnf
  refine ⟨fun h1 => ?_, fun h1 => ?_⟩
  · have h1 : ¬ ((n : Int) = 0) := by simpa using h1
    conv => whnf
    refine ⟨fun h2 => ?_, fun h2 => ?_⟩
    · have h2 : (12 : Int) < n := by simpa using h2
      rw [hno2 (by omega)]
      conv => whnf
      exact ⟨trivial, fin_pure rfl rfl⟩
    · have h2 : ¬ (12 : Int) < n := by simpa using h2
      conv => whnf
      refine ⟨trivial, LoopAt.keep (α := Nat) [0] (fun i => [(3, .v (.int .i64 (i : Int)))]) (fun i => i ≤ n ∧ ∀ j, j < i → BandOk l j) (fun i => n - i) 0 ⟨Nat.zero_le _, fun j hj => absurd hj (Nat.not_lt_zero _)⟩ rfl ⟨⟨rfl, rfl⟩, trivial⟩ ⟨⟨rfl, rfl⟩, trivial⟩ trivial ?_⟩
      rintro i ⟨hi, h0⟩
      conv => whnf
      refine ⟨fun h3 => ?_, fun h3 => ?_⟩
      · have g3 : i < n := by simpa using h3
        rcases sa with sa | ⟨b, off, rfl, sa⟩
        · omega
        have hcel : ∀ j, j < n → ∀ w, Sat R w → w.cell? ⟨b, off + j * 2, none⟩ = some (.int .i64 (bF l j)) ∧ w.cell? ⟨b, off + j * 2 + 1, none⟩ = some (.int .i32 (bS l j)) := fun j hj w s => by
          obtain ⟨f1, f2⟩ := bcel_F (l := l) (i := j) (by omega)
          exact ⟨sa w s _ _ f1, by rw [Nat.add_assoc]; exact sa w s _ _ f2⟩
        have hnoi := hno i g3
        conv => whnf
        refine ⟨⟨trivial, by omega⟩, LoadAt.cell (.int .i64 (bF l i)) rfl rfl (fun w hw => ?_) ?_⟩
        · rw [Int.toNat_natCast]; exact (hcel i g3 w hw).1
        conv => whnf
        refine ⟨trivial, CallAt.pure (fun R' hR' => sRMay33 (bF l i)) ?_⟩
        conv => whnf
        refine ⟨fun a1 => ?_, fun a1 => ?_⟩
        · have a1 : MayI (bF l i) := by simpa using a1
          conv => whnf
          refine ⟨⟨trivial, by omega⟩, LoadAt.cell (.int .i32 (bS l i)) rfl rfl (fun w hw => ?_) ?_⟩
          · rw [Int.toNat_natCast]; exact (hcel i g3 w hw).2
          conv => whnf
          refine ⟨trivial, CallAt.pure (fun R' hR' => sRSign (bS l i)) ?_⟩
          conv => whnf
          refine ⟨fun a2 => ?_, fun a2 => ?_⟩
          · have a2 : ¬ SignI (bS l i) := by simpa using a2
            rw [hnoi (fun c => a2 c.2.1)]
            conv => whnf
            exact ⟨trivial, fin_pure rfl rfl⟩
          · have a2 : SignI (bS l i) := by simpa using a2
            conv => whnf
            refine ⟨trivial, LoopAt.keep (α := Nat) [0, 3] (fun k => [(4, .v (.int .i64 (k : Int)))]) (fun k => k ≤ i ∧ ∀ j, j < k → bF l j < bF l i ∧ bS l j ≠ bS l i) (fun k => i - k) 0 ⟨Nat.zero_le _, fun j hj => absurd hj (Nat.not_lt_zero _)⟩ rfl ⟨⟨rfl, rfl⟩, trivial⟩ ⟨⟨rfl, rfl⟩, ⟨rfl, rfl⟩, trivial⟩ trivial ?_⟩
            rintro k ⟨hk, h4⟩
            conv => whnf
            refine ⟨fun h5 => ?_, fun h5 => ?_⟩
            · have g5 : k < i := by simpa using h5
              conv => whnf
              refine ⟨trivial, RegAt.quiet hmix (by kernel_rfl) ?_⟩
              conv => whnf
              refine ⟨⟨trivial, by omega⟩, LoadAt.cell (.int .i64 (bF l k)) rfl rfl (fun w hw => ?_) ?_⟩
              · rw [Int.toNat_natCast]; exact (hcel k (by omega) w hw).1
              conv => whnf
              refine ⟨⟨trivial, by omega⟩, LoadAt.cell (.int .i64 (bF l i)) rfl rfl (fun w hw => ?_) ?_⟩
              · rw [Int.toNat_natCast]; exact (hcel i g3 w hw).1
              conv => whnf
              refine ⟨fun b1 => ?_, fun b1 => ?_⟩
              · have b1 : bF l k < bF l i := by simp at b1; omega
                conv => whnf
                refine ⟨⟨trivial, by omega⟩, LoadAt.cell (.int .i32 (bS l k)) rfl rfl (fun w hw => ?_) ?_⟩
                · rw [Int.toNat_natCast]; exact (hcel k (by omega) w hw).2
                conv => whnf
                refine ⟨⟨trivial, by omega⟩, LoadAt.cell (.int .i32 (bS l i)) rfl rfl (fun w hw => ?_) ?_⟩
                · rw [Int.toNat_natCast]; exact (hcel i g3 w hw).2
                conv => whnf
                refine ⟨trivial, ?_⟩
                conv => whnf
                refine ⟨fun b2 => ?_, fun b2 => ?_⟩
                · have b2 : bS l k = bS l i := by simpa using b2
                  rw [hnoi (fun c => (c.2.2 k g5).2 b2)]
                  conv => whnf
                  exact ⟨trivial, fin_pure rfl rfl⟩
                · have b2 : bS l k ≠ bS l i := by simpa using b2
                  conv => whnf
                  refine ⟨⟨trivial, by unfold rng; omega⟩, Next.keep (k + 1) ⟨by omega, fun j hj => ?_⟩ (by omega) ⟨⟨rfl, rfl⟩, trivial⟩ ⟨⟨rfl, rfl⟩, ⟨rfl, rfl⟩, trivial⟩ trivial rfl rfl rfl⟩
                  rcases Nat.lt_or_ge j k with c | c
                  · exact h4 j c
                  · rw [show j = k by omega]
                    exact ⟨b1, b2⟩
              · have b1 : ¬ bF l k < bF l i := by simp at b1; omega
                conv => whnf
                refine ⟨trivial, ?_⟩
                conv => whnf
                rw [hnoi (fun c => b1 (c.2.2 k g5).1)]
                exact ⟨trivial, fin_pure rfl rfl⟩
            · have g5 : k = i := by simp at h5; omega
              conv => whnf
              refine ⟨⟨trivial, by unfold rng; omega⟩, Next.keep (i + 1) ⟨by omega, fun j hj => ?_⟩ (by omega) ⟨⟨rfl, rfl⟩, trivial⟩ ⟨⟨rfl, rfl⟩, trivial⟩ trivial rfl rfl rfl⟩
              rcases Nat.lt_or_ge j i with c | c
              · exact h0 j c
              · rw [show j = i by omega]
                exact ⟨a1, a2, fun q hq => h4 q (by omega)⟩
        · have a1 : ¬ MayI (bF l i) := by simpa using a1
          rw [hnoi (fun c => a1 c.1)]
          conv => whnf
          exact ⟨trivial, fin_pure rfl rfl⟩
      · have g3 : i = n := by simp at h3; omega
        subst g3
        rw [hyes (by omega) (by omega) h0]
        conv => whnf
        exact ⟨trivial, fin_pure rfl rfl⟩
  · have h1 : (n : Int) = 0 := by simpa using h1
    rw [hno1 (by omega)]
    conv => whnf
    exact ⟨trivial, fin_pure rfl rfl⟩
end Go.Proofs.YtjnglcjofajcnaaDoor

/-
  tint.Of, tint.Back; the document's Of.
-/
namespace Go.Proofs.YtjnglcjofajcnaaDoor
open Go.RowKit
open Sy
set_option linter.unusedVariables false
set_option linter.unusedSimpArgs false
set_option maxRecDepth 100000
set_option maxHeartbeats 4000000

/-- the sign behind k bands -/
def ofK (l : List Bd) (v : Int) : Nat → Int
  | 0 => bS l 0
  | k + 1 => if bF l k ≤ v then bS l k else ofK l v k
def ofV (l : List Bd) (v : Int) : Int × Int := if RightL l then (ofK l v l.length, 0) else (0, 13)
noncomputable def backV (l : List Bd) (r : Int) : Int × Int := if RightL l then (if ixB (fun x => decide (x.s = r)) l < 0 then (0, 15) else (bF l (ixB (fun x => decide (x.s = r)) l).toNat, 0)) else (0, 13)
theorem sTOf {R : HP} {A : Option Addr} {n c : Nat} {l : List Bd} (v : Int) (hn : n ≤ 9223372036854775807) (hc : n ≤ c) (ha : Sl R A n 2 (bcel l)) : PureR Tryd.prog R 22 [.slice A n c, .int .i64 v] (.tuple #[.int .i32 (ofV l v).1, .int .i64 (ofV l v).2]) := by
  refine PureR.of_sat fun w hs => ?_
  obtain ⟨hl, sa⟩ := ha.spot (by omega) hs
  rw [bcel_len] at hl
  have e1 : l.length = n := by omega
  clear hs hl
  have hr := fun R' (h : ∀ w, Sat R' w → Sat R w) => sTRight (c := c) hn hc (ha.mono h)
  by_cases hR : RightL l
  · have hn1 : 1 ≤ n := by have := hR.1; omega
    have e2 : ofV l v = (ofK l v n, 0) := by unfold ofV; rw [if_pos hR, e1]
    rw [e2]
    rw [decide_eq_true hR] at hr
    rcases sa with sa | ⟨b, off, rfl, sa⟩
    · omega
    have hcel : ∀ j, j < n → ∀ w, Sat R w → w.cell? ⟨b, off + j * 2, none⟩ = some (.int .i64 (bF l j)) ∧ w.cell? ⟨b, off + j * 2 + 1, none⟩ = some (.int .i32 (bS l j)) := fun j hj w s => by
      obtain ⟨f1, f2⟩ := bcel_F (l := l) (i := j) (by omega)
      exact ⟨sa w s _ _ f1, by rw [Nat.add_assoc]; exact sa w s _ _ f2⟩
    refine fn_of_run0 false Tryd.func22 rfl hmix rfl fun w0 => ?_
    conv => whnf
    refine ⟨trivial, CallAt.pure (fun R' hR' => hr R' hR') ?_⟩
    conv => whnf
    refine iff_f rfl ?_
    conv => whnf
    refine ⟨⟨trivial, by omega⟩, LoadAt.cell (.int .i32 (bS l 0)) rfl rfl (fun w hw => ?_) ?_⟩
    · simpa using (hcel 0 hn1 w hw).2
    conv => whnf
    refine ⟨trivial, LoopAt.of (α := Nat) [1, 16, 17] (fun i => [(6, .v (.int .i32 (ofK l v i))), (18, .v (.int .i64 (i : Int)))]) (fun _ => []) (fun _ => []) (fun i => i ≤ n) (fun i => n - i) 0 (Nat.zero_le _)
      (Le.of (Nat.le_of_ble_eq_true rfl) (Nat.zero_le _) ⟨⟨rfl, rfl⟩, ⟨rfl, rfl⟩, ⟨rfl, rfl⟩, ⟨rfl, rfl⟩, ⟨rfl, rfl⟩, trivial⟩ trivial fun h s => sub_same s) ?_⟩
    intro i hi
    conv => whnf
    refine ⟨fun h3 => ?_, fun h3 => ?_⟩
    · have g3 : i < n := by simpa using h3
      have hcl := hcel i g3
      have ek : ofK l v (i + 1) = if bF l i ≤ v then bS l i else ofK l v i := rfl
      generalize bF l i = x at *
      generalize bS l i = s at *
      conv => whnf
      refine ⟨⟨trivial, by omega⟩, LoadAt.agg [.int .i64 x, .int .i32 s] rfl rfl rfl (fun w hw j u hj => ?_) ?_⟩
      · rw [Int.toNat_natCast]
        rcases j with _ | _ | j
        · simp at hj; rw [← hj]; exact (hcl w hw).1
        · simp at hj; rw [← hj]; exact (hcl w hw).2
        · simp at hj
      conv => whnf
      refine ⟨fun b1 => ?_, fun b1 => ?_⟩
      · rw [if_pos (of_decide_eq_true b1)] at ek
        conv => whnf
        exact ⟨⟨trivial, by unfold rng; omega⟩, .mk (i + 1) (by omega) (by omega) (Le.of (Nat.le_of_ble_eq_true rfl) (Nat.zero_le _) ⟨⟨congrArg (fun z => some (SV.v (Value.int .i32 z))) ek.symm, rfl⟩, ⟨rfl, rfl⟩, ⟨rfl, rfl⟩, ⟨rfl, rfl⟩, ⟨rfl, rfl⟩, trivial⟩ trivial fun h s => sub_nil s)⟩
      · rw [if_neg (of_decide_eq_false b1)] at ek
        conv => whnf
        exact ⟨⟨trivial, by unfold rng; omega⟩, .mk (i + 1) (by omega) (by omega) (Le.of (Nat.le_of_ble_eq_true rfl) (Nat.zero_le _) ⟨⟨congrArg (fun z => some (SV.v (Value.int .i32 z))) ek.symm, rfl⟩, ⟨rfl, rfl⟩, ⟨rfl, rfl⟩, ⟨rfl, rfl⟩, ⟨rfl, rfl⟩, trivial⟩ trivial fun h s => sub_nil s)⟩
    · have g3 : i = n := by simp at h3; omega
      subst g3
      conv => whnf
      exact ⟨trivial, fin_pure rfl rfl⟩
  · have e2 : ofV l v = (0, 13) := by unfold ofV; rw [if_neg hR]
    rw [e2]
    rw [decide_eq_false hR] at hr
    refine fn_of_run0 false Tryd.func22 rfl hmix rfl fun w0 => ?_
    conv => whnf
    refine ⟨trivial, CallAt.pure (fun R' hR' => hr R' hR') ?_⟩
    conv => whnf
    refine iff_t rfl ?_
    conv => whnf
    exact ⟨trivial, fin_pure rfl rfl⟩
theorem sTBack {R : HP} {A : Option Addr} {n c : Nat} {l : List Bd} (r : Int) (hn : n ≤ 9223372036854775807) (hc : n ≤ c) (ha : Sl R A n 2 (bcel l)) : PureR Tryd.prog R 23 [.slice A n c, .int .i32 r] (.tuple #[.int .i64 (backV l r).1, .int .i64 (backV l r).2]) := by
  refine PureR.of_sat fun w hs => ?_
  obtain ⟨hl, sa⟩ := ha.spot (by omega) hs
  rw [bcel_len] at hl
  have e1 : l.length = n := by omega
  clear hs hl
  have hr := fun R' (h : ∀ w, Sat R' w → Sat R w) => sTRight (c := c) hn hc (ha.mono h)
  by_cases hR : RightL l
  · have hn1 : 1 ≤ n := by have := hR.1; omega
    rw [decide_eq_true hR] at hr
    have e2 : backV l r = if ixB (fun x => decide (x.s = r)) l < 0 then (0, 15) else (bF l (ixB (fun x => decide (x.s = r)) l).toNat, 0) := by unfold backV; rw [if_pos hR]
    have hix := fun R' (h : ∀ w, Sat R' w → Sat R w) tb (hb : ∀ w, Sat R' w → w.cell? ⟨tb, 0, none⟩ = some (.int .i32 r)) => sIndexK (c := c) (p1 := .pointer (some ⟨tb, 0, none⟩)) (p := fun x => decide (x.s = r)) hn (ha.mono h) fun R'' h' x hx => sBack1 x fun w s => hb w (h' w s)
    have hlt : ixB (fun x => decide (x.s = r)) l < n := by
      unfold ixB
      split <;> omega
    rw [e2]
    generalize ixB (fun x => decide (x.s = r)) l = ix at *
    rcases sa with sa | ⟨b, off, rfl, sa⟩
    · omega
    have hcel : ∀ j, j < n → ∀ w, Sat R w → w.cell? ⟨b, off + j * 2, none⟩ = some (.int .i64 (bF l j)) := fun j hj w s => sa w s _ _ (bcel_F (l := l) (i := j) (by omega)).1
    refine fn_of_run0 false Tryd.func23 rfl hmix rfl fun w0 => ?_
    conv => whnf
    refine ⟨trivial, CallAt.pure (fun R' hR' => hr R' hR') ?_⟩
    conv => whnf
    refine iff_f rfl ?_
    conv => whnf
    intro tb _
    conv => whnf
    refine ⟨trivial, CallAt.pure (fun R' hR' => hix R' (fun w s => (hR' w s).rest) tb (fun w s => (blk_sat ((hR' w s).in_ 0 rfl)).cell 0)) ?_⟩
    conv => whnf
    refine ⟨fun b1 => ?_, fun b1 => ?_⟩
    · rw [if_pos (of_decide_eq_true b1)]
      conv => whnf
      exact ⟨trivial, fin_drop rfl⟩
    · have b1 := of_decide_eq_false b1
      rw [if_neg b1]
      conv => whnf
      refine ⟨⟨trivial, by omega⟩, LoadAt.cell (.int .i64 (bF l ix.toNat)) rfl rfl (fun w hw => hcel ix.toNat (by omega) w hw.rest) ?_⟩
      conv => whnf
      exact ⟨trivial, fin_drop rfl⟩
  · have e2 : backV l r = (0, 13) := by unfold backV; rw [if_neg hR]
    rw [e2]
    rw [decide_eq_false hR] at hr
    refine fn_of_run0 false Tryd.func23 rfl hmix rfl fun w0 => ?_
    conv => whnf
    refine ⟨trivial, CallAt.pure (fun R' hR' => hr R' hR') ?_⟩
    conv => whnf
    refine iff_t rfl ?_
    conv => whnf
    exact ⟨trivial, fin_pure rfl rfl⟩
theorem sROf {R : HP} {A : Option Addr} {n c : Nat} {l : List Bd} (v : Int) (hn : n ≤ 9223372036854775807) (hn1 : 1 ≤ n) (ha : Sl R A n 2 (bcel l)) : PureR Tryd.prog R 28 [.slice A n c, .int .i64 v] (.int .i32 (ofK l v n)) := by
  refine PureR.of_sat fun w hs => ?_
  obtain ⟨hl, sa⟩ := ha.spot (by omega) hs
  rw [bcel_len] at hl
  have e1 : l.length = n := by omega
  clear hs hl
  rcases sa with sa | ⟨b, off, rfl, sa⟩
  · omega
  have hcel : ∀ j, j < n → ∀ w, Sat R w → w.cell? ⟨b, off + j * 2, none⟩ = some (.int .i64 (bF l j)) ∧ w.cell? ⟨b, off + j * 2 + 1, none⟩ = some (.int .i32 (bS l j)) := fun j hj w s => by
    obtain ⟨f1, f2⟩ := bcel_F (l := l) (i := j) (by omega)
    exact ⟨sa w s _ _ f1, by rw [Nat.add_assoc]; exact sa w s _ _ f2⟩
  refine fn_of_run0 false Tryd.func28 rfl hmix rfl fun w0 => ?_
  conv => whnf
  refine ⟨⟨trivial, by unfold rng; omega⟩, LoopAt.keep (α := Nat) [0, 1] (fun i => [(5, .v (.int .i64 (i : Int)))]) (fun i => i < n ∧ ofK l v n = ofK l v (i + 1)) (fun i => i) (n - 1) ⟨by omega, by rw [show n - 1 + 1 = n by omega]⟩ rfl ⟨⟨congrArg (fun z => some (SV.v (Value.int .i64 z))) (show (n : Int) - 1 = ((n - 1 : Nat) : Int) by omega), rfl⟩, trivial⟩ ⟨⟨rfl, rfl⟩, ⟨rfl, rfl⟩, trivial⟩ trivial ?_⟩
  rintro i ⟨hi, hk⟩
  conv => whnf
  refine ⟨fun h3 => ?_, fun h3 => ?_⟩
  · have g3 : 0 < i := by simpa using h3
    have ek : ofK l v (i + 1) = if bF l i ≤ v then bS l i else ofK l v i := rfl
    conv => whnf
    refine ⟨⟨trivial, by omega⟩, LoadAt.cell (.int .i64 (bF l i)) rfl rfl (fun w hw => ?_) ?_⟩
    · rw [Int.toNat_natCast]; exact (hcel i hi w hw).1
    conv => whnf
    refine ⟨fun b1 => ?_, fun b1 => ?_⟩
    · rw [if_pos (by simpa using b1)] at ek
      rw [hk, ek]
      conv => whnf
      refine ⟨⟨trivial, by omega⟩, LoadAt.cell (.int .i32 (bS l i)) rfl rfl (fun w hw => ?_) ?_⟩
      · rw [Int.toNat_natCast]; exact (hcel i hi w hw).2
      conv => whnf
      exact ⟨trivial, fin_pure rfl rfl⟩
    · rw [if_neg (by simp at b1; omega)] at ek
      conv => whnf
      refine ⟨⟨trivial, by unfold rng; omega⟩, Next.keep (i - 1) ⟨by omega, by rw [hk, ek, show i - 1 + 1 = i by omega]⟩ (by omega) ⟨⟨congrArg (fun z => some (SV.v (Value.int .i64 z))) (show (i : Int) - 1 = ((i - 1 : Nat) : Int) by omega), rfl⟩, trivial⟩ ⟨⟨rfl, rfl⟩, ⟨rfl, rfl⟩, trivial⟩ trivial rfl rfl rfl⟩
  · have g3 : i = 0 := by simp at h3; omega
    subst g3
    have ek : ofK l v (0 + 1) = bS l 0 := by
      show (if bF l 0 ≤ v then bS l 0 else bS l 0) = _
      split <;> rfl
    rw [hk, ek]
    conv => whnf
    refine ⟨⟨trivial, by omega⟩, LoadAt.cell (.int .i32 (bS l 0)) rfl rfl (fun w hw => ?_) ?_⟩
    · simpa using (hcel 0 hi w hw).2
    conv => whnf
    exact ⟨trivial, fin_pure rfl rfl⟩
end Go.Proofs.YtjnglcjofajcnaaDoor

/-
  tint: must, band.
-/
namespace Go.Proofs.YtjnglcjofajcnaaDoor
open Go.RowKit
open Sy
set_option linter.unusedVariables false
set_option linter.unusedSimpArgs false
set_option maxRecDepth 100000
set_option maxHeartbeats 4000000

/-- what is thrown -/
def wrongCh : List PanicEntry := [{ v := .iface 111 (.agg #[.int .i64 12]), recovered := false }]
abbrev isWrong (ch : List PanicEntry) : Prop := ch = wrongCh
theorem sMust {R : HP} : PureR Tryd.prog R 59 [.bool true] (.tuple #[]) := by
  refine fn_of_run0 false Tryd.func59 rfl hmix rfl fun w0 => ?_
  conv => whnf
  refine iff_f rfl ?_
  conv => whnf
  exact ⟨trivial, fin_pure rfl rfl⟩
theorem sMustNo {R : HP} : PanR Tryd.prog R 59 [.bool false] [] isWrong R := by
  refine pan_of_run0 _ _ false Tryd.func59 rfl hmix rfl fun w0 => ?_
  conv => whnf
  refine iff_t rfl ?_
  conv => whnf
  exact ⟨trivial, OpAt.panic 111 (.agg #[.int .i64 12]) rfl rfl rfl rfl (fun w s => s) trivial⟩
theorem sRuneLen {R : HP} {c : Nat} (h : SignN c) : PureR Tryd.prog R 86 [.int .i32 (c : Int)] (.int .i64 ((utfN c).length : Int)) := PureR.of_below fun w _ => (Any.utf8_RuneLen lays118 (c : Int) w).mono fun e w' ⟨he, hw⟩ => by
  have e2 : Lib.runeLen (c : Int) = ((utfN c).length : Int) := by
    unfold SignN at h
    unfold Lib.runeLen utfN
    rw [if_neg (by omega)]
    by_cases h1 : c < 128
    · rw [if_pos (by omega), if_pos h1]; rfl
    · rw [if_neg (by omega), if_neg h1]
      by_cases h2 : c < 2048
      · rw [if_pos (by omega), if_pos h2]; rfl
      · rw [if_neg (by omega), if_neg h2, if_neg (by omega), if_pos (by omega)]; rfl
  subst hw
  exact ⟨by rw [he, e2], Below.refl _ _⟩
theorem at_is {s : List UInt8} {k : Nat} (hk : k < s.length) : (byteAt (bs s) k = 58) ↔ s[k]? = some 58 := by
  rw [byteAt_bs, List.getElem?_eq_getElem hk]
  simp only [Option.getD_some, Option.some.injEq]
  exact u8_is 58
theorem sBand {R : HP} (hN : ∀ w, Sat R w → NumW w) {s : List UInt8} (hl : s.length ≤ 1048576) {b : Bd} (h : bandV s = some b) : PureR Tryd.prog R 61 [.string (bs s)] (.agg #[.int .i64 b.f, .int .i32 b.s]) := by
  unfold bandV at h
  split at h
  rotate_left
  · cases h
  rename_i hc
  obtain ⟨h1, h2, h3, h4, h5⟩ := hc
  injection h with h
  subst h
  rcases hx : scan s 0 with ⟨n, e, q⟩
  rw [hx] at h1 h2 h3 h4 h5
  simp only at h1 h2 h3 h4 h5 ⊢
  subst h1
  obtain ⟨k, rfl, hk, ht, hb⟩ := scan_fine hx
  simp only [Int.toNat_natCast] at h2 h3 h4 h5 ⊢
  have hsc : ∀ R' : HP, (∀ w, Sat R' w → Sat R w) → PureR Tryd.prog R' 85 [.string (bs s), .int .i64 0] (.tuple #[.int .i64 n, .int .i64 (k : Int), .int .i64 0]) := fun R' h => by
    have := sScan (R := R') (fun w s => hN w (h w s)) s hl 0
    rw [hx] at this
    exact this
  clear hx ht
  have h3' := (at_is h2).2 h3
  have hex : (bs s).extract (k + 1) (bs s).size = bs (s.drop (k + 1)) := by rw [bs_extract, bs_size, List.take_length]
  have hql : (s.drop (k + 1)).length = s.length - (k + 1) := List.length_drop
  generalize s.drop (k + 1) = q at *
  have hex' : (bs s).extract ((k : Int) + 1).toNat (((bs s).size : Int)).toNat = bs q := by rw [show ((k : Int) + 1).toNat = k + 1 by omega, Int.toNat_natCast, hex]
  have hd := decode_bs q 0
  rw [List.drop_zero] at hd
  rcases hde : dec q with ⟨c, k1⟩
  rw [hde] at hd h4 h5
  simp only at hd h4 h5 ⊢
  have hlen := utf_dec hde h4
  have hq0 : 0 < q.length := by
    cases q with
    | nil => exact absurd hlen.1.symm (by simp [utfN_ne])
    | cons a q => simp
  have hu : (utfN c).length = k1 := by rw [← hlen.1, List.length_take]; omega
  have hsg : ∀ R' : HP, (∀ w, Sat R' w → Sat R w) → PureR Tryd.prog R' 24 [.int .i32 (c : Int)] (.bool true) := fun R' _ => by
    have := sTSign (R := R') (c : Int)
    rw [decide_eq_true ⟨by omega, by simpa using h4⟩] at this
    exact this
  have hrl : ∀ R' : HP, (∀ w, Sat R' w → Sat R w) → _ := fun R' _ => sRuneLen (R := R') h4
  refine fn_of_run0 false Tryd.func61 rfl hmix rfl fun w0 => ?_
  conv => whnf
  refine ⟨trivial, CallAt.pure (fun R' hR' => hsc R' hR') ?_⟩
  conv => whnf
  refine ⟨fun _ => ?_, fun h => absurd h (by decide)⟩
  conv => whnf
  refine ⟨fun _ => ?_, fun h => absurd h (by rw [decide_eq_true (by rw [bs_size]; omega)]; decide)⟩
  conv => whnf
  refine ⟨⟨trivial, by rw [bs_size]; omega⟩, CallAt.pure (fun R' hR' => (by rw [decide_eq_true (by simpa using h3')]; exact sMust)) ?_⟩
  conv => whnf
  refine ⟨by rw [bs_size]; refine ⟨⟨trivial, ?_⟩, ?_⟩ <;> (try unfold rng) <;> omega, OpAt.range (bs q) rfl (congrArg Value.string hex') rfl rfl fun ib => ?_⟩
  conv => whnf
  refine ⟨trivial, LoopAt.of (α := Bool) [0, 2, 3, 4, 7, 35] (fun f => [(6, .v (.int .i64 (cond f 1 0)))]) (fun f => [(1, 57, [.v (.int .i64 (cond f n 0)), .v (.int .i32 (cond f (c : Int) 0))]), (0, 57, [.v (.int .i64 0), .v (.int .i32 0)])]) (fun f => [itH ib (bs q) (cond f k1 0)]) (fun _ => True) (fun f => cond f 0 1) false trivial
    (Le.of (Nat.le_of_ble_eq_true rfl) (Nat.zero_le _) ⟨⟨rfl, rfl⟩, ⟨rfl, rfl⟩, ⟨rfl, rfl⟩, ⟨rfl, rfl⟩, ⟨rfl, rfl⟩, ⟨rfl, rfl⟩, ⟨rfl, rfl⟩, trivial⟩ ⟨⟨rfl, rfl, rfl, rfl⟩, ⟨rfl, rfl, rfl, rfl⟩, trivial⟩ fun h s => sub_same s) ?_⟩
  rintro f -
  cases f
  · conv => whnf
    refine ⟨trivial, OpAt.next ib (bs q) 0 [] rfl (fun h s => s) rfl rfl (by rw [bs_size]; omega) ?_⟩
    rw [hd]
    conv => whnf
    refine iff_t rfl ?_
    conv => whnf
    refine ⟨fun _ => ?_, fun h => absurd h (by decide)⟩
    conv => whnf
    refine ⟨trivial, CallAt.pure (fun R' hR' => hsg R' (fun w s => (hR' w s).rest)) ?_⟩
    conv => whnf
    refine ⟨trivial, CallAt.pure (fun R' hR' => sMust) ?_⟩
    conv => whnf
    refine ⟨⟨trivial, by unfold rng; simp only [cond]; omega⟩, .mk true trivial (by decide) (Le.of (Nat.le_of_ble_eq_true rfl) (Nat.zero_le _) ⟨⟨rfl, rfl⟩, ⟨rfl, rfl⟩, ⟨rfl, rfl⟩, ⟨rfl, rfl⟩, ⟨rfl, rfl⟩, ⟨rfl, rfl⟩, ⟨rfl, rfl⟩, trivial⟩ ⟨⟨rfl, rfl, rfl, rfl⟩, ⟨rfl, rfl, rfl, rfl⟩, trivial⟩ fun h s => ?_)⟩
    simp only [Nat.zero_add] at s
    exact sub_same s
  · conv => whnf
    refine ⟨trivial, OpAt.nextEnd ib (bs q) k1 [] rfl (fun h s => s) rfl rfl (by rw [bs_size]; omega) ?_⟩
    conv => whnf
    refine iff_f rfl ?_
    conv => whnf
    refine ⟨fun _ => ?_, fun h => absurd h (by decide)⟩
    conv => whnf
    refine ⟨trivial, CallAt.pure (fun R' hR' => hrl R' (fun w s => (hR' w s).rest)) ?_⟩
    conv => whnf
    refine ⟨by rw [bs_size]; refine ⟨⟨trivial, ?_⟩, ?_⟩ <;> unfold rng <;> omega, CallAt.pure (fun R' hR' => (by rw [decide_eq_true (by rw [bs_size, hu]; omega)]; exact sMust)) ?_⟩
    conv => whnf
    exact ⟨trivial, fin_drop rfl⟩
/-- a call that panics, and takes nothing -/
theorem CallAt.pan0 {G : Gl} {f : FuncId} {args : List Value} {st : St} {K : SV → St → Prop} {X : List PanicEntry → Prop} (hc : ∀ R' : HP, (∀ w, Sat R' w → Sat (sepL st.h G.R) w) → PanR G.P R' f args [] X R') (hX : ∀ ch, X ch → G.X ch) (hRX : ∀ w, Sat (sepL st.h G.R) w → Sat G.RX w) (ha : axAt G.AX st) : CallAt G f args st K := by
  refine .px ha fun ρ w mm => ?_
  obtain ⟨h, h1, h2, _⟩ := mm.hp
  refine Calls.mono (hc (sepL st.h G.R) (fun w s => s) w ⟨h, h1, h2⟩) ?_
  rintro e w' ⟨ch, rfl, k1, k2, k3⟩
  exact ⟨ch, rfl, hX _ k1, hRX _ k2, mm.wd.trans k3⟩
theorem sBandNo {R : HP} (hN : ∀ w, Sat R w → NumW w) {s : List UInt8} (hl : s.length ≤ 1048576) (h : bandV s = none) : PanR Tryd.prog R 61 [.string (bs s)] [] isWrong R := by
  unfold bandV at h
  split at h
  · cases h
  rename_i hc
  clear h
  have hsc0 : ∀ R' : HP, (∀ w, Sat R' w → Sat R w) → _ := fun R' h => sScan (R := R') (fun w s => hN w (h w s)) s hl 0
  rcases hx : scan s 0 with ⟨n, e, q⟩
  rw [hx] at hc
  simp only at hc
  have hsc : ∀ R' : HP, (∀ w, Sat R' w → Sat R w) → PureR Tryd.prog R' 85 [.string (bs s), .int .i64 0] (.tuple #[.int .i64 n, .int .i64 e, .int .i64 q]) := fun R' h => by
    have := hsc0 R' h
    rw [hx] at this
    exact this
  clear hsc0
  by_cases hq : q = 0
  · subst hq
    obtain ⟨k, rfl, hk, ht, hb⟩ := scan_fine hx
    clear hx ht
    simp only [Int.toNat_natCast, true_and] at hc
    by_cases h2 : k < s.length
    · by_cases h3 : s[k]? = some 58
      · have h3' := (at_is h2).2 h3
        have hc : ¬ (SignN (dec (s.drop (k + 1))).1 ∧ (dec (s.drop (k + 1))).2 = (s.drop (k + 1)).length) := fun c => hc ⟨h2, h3, c⟩
        have hex : (bs s).extract (k + 1) (bs s).size = bs (s.drop (k + 1)) := by rw [bs_extract, bs_size, List.take_length]
        generalize s.drop (k + 1) = q at *
        have hex' : (bs s).extract ((k : Int) + 1).toNat (((bs s).size : Int)).toNat = bs q := by rw [show ((k : Int) + 1).toNat = k + 1 by omega, Int.toNat_natCast, hex]
        have hd := decode_bs q 0
        rw [List.drop_zero] at hd
        rcases hde : dec q with ⟨c, k1⟩
        rw [hde] at hd hc
        simp only at hd hc
        have hlen : SignN c → k1 < q.length := fun h => by
          have h5 := (utf_dec hde h).2
          have h6 : k1 ≠ q.length := fun e => hc ⟨h, e⟩
          omega
        have hk1 : SignN c → k1 ≠ 0 := fun h e => by
          have h5 := (utf_dec hde h).1
          rw [e] at h5
          exact utfN_ne c h5.symm
        have hsg : ∀ R' : HP, PureR Tryd.prog R' 24 [.int .i32 (c : Int)] (.bool (decide (SignN c))) := fun R' => by
          have := sTSign (R := R') (c : Int)
          rw [show decide (SignI (c : Int)) = decide (SignN c) from decide_eq_decide.2 ⟨fun h => by simpa using h.2, fun h => ⟨by omega, by simpa using h⟩⟩] at this
          exact this
        refine pan_of_run0 _ _ false Tryd.func61 rfl hmix rfl fun w0 => ?_
        conv => whnf
        refine ⟨trivial, CallAt.pure (fun R' hR' => hsc R' hR') ?_⟩
        conv => whnf
        refine ⟨fun _ => ?_, fun h => absurd h (by decide)⟩
        conv => whnf
        refine ⟨fun _ => ?_, fun h => absurd h (by rw [decide_eq_true (by rw [bs_size]; omega)]; decide)⟩
        conv => whnf
        refine ⟨⟨trivial, by rw [bs_size]; omega⟩, CallAt.pure (fun R' hR' => (by rw [decide_eq_true (by simpa using h3')]; exact sMust)) ?_⟩
        conv => whnf
        refine ⟨by rw [bs_size]; refine ⟨⟨trivial, ?_⟩, ?_⟩ <;> (try unfold rng) <;> omega, OpAt.range (bs q) rfl (congrArg Value.string hex') rfl rfl fun ib => ?_⟩
        conv => whnf
        refine ⟨trivial, LoopAt.of (α := Bool) [0, 2, 3, 4, 7, 35] (fun f => [(6, .v (.int .i64 (cond f 1 0)))]) (fun f => [(1, 57, [.v (.int .i64 (cond f n 0)), .v (.int .i32 (cond f (c : Int) 0))]), (0, 57, [.v (.int .i64 0), .v (.int .i32 0)])]) (fun f => [itH ib (bs q) (cond f k1 0)]) (fun f => f = true → SignN c) (fun f => cond f 0 1) false (fun h => by cases h)
          (Le.of (Nat.le_of_ble_eq_true rfl) (Nat.zero_le _) ⟨⟨rfl, rfl⟩, ⟨rfl, rfl⟩, ⟨rfl, rfl⟩, ⟨rfl, rfl⟩, ⟨rfl, rfl⟩, ⟨rfl, rfl⟩, ⟨rfl, rfl⟩, trivial⟩ ⟨⟨rfl, rfl, rfl, rfl⟩, ⟨rfl, rfl, rfl, rfl⟩, trivial⟩ fun h s => sub_same s) ?_⟩
        rintro f hf
        cases f
        · conv => whnf
          by_cases hq0 : 0 < q.length
          · refine ⟨trivial, OpAt.next ib (bs q) 0 [] rfl (fun h s => s) rfl rfl (by rw [bs_size]; omega) ?_⟩
            rw [hd]
            conv => whnf
            refine iff_t rfl ?_
            conv => whnf
            refine ⟨fun _ => ?_, fun h => absurd h (by decide)⟩
            conv => whnf
            refine ⟨trivial, CallAt.pure (fun R' hR' => hsg R') ?_⟩
            conv => whnf
            by_cases hs : SignN c
            · rw [decide_eq_true hs]
              refine ⟨trivial, CallAt.pure (fun R' hR' => sMust) ?_⟩
              conv => whnf
              refine ⟨⟨trivial, by unfold rng; simp only [cond]; omega⟩, .mk true (fun _ => hs) (by decide) (Le.of (Nat.le_of_ble_eq_true rfl) (Nat.zero_le _) ⟨⟨rfl, rfl⟩, ⟨rfl, rfl⟩, ⟨rfl, rfl⟩, ⟨rfl, rfl⟩, ⟨rfl, rfl⟩, ⟨rfl, rfl⟩, ⟨rfl, rfl⟩, trivial⟩ ⟨⟨rfl, rfl, rfl, rfl⟩, ⟨rfl, rfl, rfl, rfl⟩, trivial⟩ fun h s => ?_)⟩
              simp only [Nat.zero_add] at s
              exact sub_same s
            · rw [decide_eq_false hs]
              exact ⟨trivial, CallAt.pan0 (fun R' hR' => sMustNo) (fun ch h => h) (fun w s => s.rest) trivial⟩
          · refine ⟨trivial, OpAt.nextEnd ib (bs q) 0 [] rfl (fun h s => s) rfl rfl (by rw [bs_size]; omega) ?_⟩
            conv => whnf
            refine iff_f rfl ?_
            conv => whnf
            refine ⟨fun h => absurd h (by decide), fun _ => ?_⟩
            conv => whnf
            exact ⟨trivial, CallAt.pan0 (fun R' hR' => sMustNo) (fun ch h => h) (fun w s => s.rest) trivial⟩
        · have hs := hf rfl
          have hk1 := hk1 hs
          conv => whnf
          refine ⟨trivial, OpAt.next ib (bs q) k1 [] rfl (fun h s => s) rfl rfl (by rw [bs_size]; exact hlen hs) ?_⟩
          generalize Utf8.decode (bs q) k1 = z
          conv => whnf
          refine iff_t rfl ?_
          conv => whnf
          refine ⟨fun h => absurd (of_decide_eq_true h) (by omega), fun _ => ?_⟩
          conv => whnf
          exact ⟨trivial, CallAt.pan0 (fun R' hR' => sMustNo) (fun ch h => h) (fun w s => s.rest) trivial⟩
      · have h3' : ¬ byteAt (bs s) k = 58 := fun c => h3 ((at_is h2).1 c)
        refine pan_of_run0 _ _ false Tryd.func61 rfl hmix rfl fun w0 => ?_
        conv => whnf
        refine ⟨trivial, CallAt.pure (fun R' hR' => hsc R' hR') ?_⟩
        conv => whnf
        refine ⟨fun _ => ?_, fun h => absurd h (by decide)⟩
        conv => whnf
        refine ⟨fun _ => ?_, fun h => absurd h (by rw [decide_eq_true (by rw [bs_size]; omega)]; decide)⟩
        conv => whnf
        exact ⟨⟨trivial, by rw [bs_size]; omega⟩, CallAt.pan0 (fun R' hR' => (by rw [decide_eq_false (by simpa using h3')]; exact sMustNo)) (fun ch h => h) (fun w s => s) trivial⟩
    · refine pan_of_run0 _ _ false Tryd.func61 rfl hmix rfl fun w0 => ?_
      conv => whnf
      refine ⟨trivial, CallAt.pure (fun R' hR' => hsc R' hR') ?_⟩
      conv => whnf
      refine ⟨fun _ => ?_, fun h => absurd h (by decide)⟩
      conv => whnf
      refine ⟨fun h => absurd (of_decide_eq_true h) (by rw [bs_size]; omega), fun _ => ?_⟩
      conv => whnf
      exact ⟨trivial, CallAt.pan0 (fun R' hR' => sMustNo) (fun ch h => h) (fun w s => s) trivial⟩
  · refine pan_of_run0 _ _ false Tryd.func61 rfl hmix rfl fun w0 => ?_
    conv => whnf
    refine ⟨trivial, CallAt.pure (fun R' hR' => hsc R' hR') ?_⟩
    conv => whnf
    refine ⟨fun h => absurd (of_decide_eq_true h) hq, fun _ => ?_⟩
    conv => whnf
    exact ⟨trivial, CallAt.pan0 (fun R' hR' => sMustNo) (fun ch h => h) (fun w s => s) trivial⟩
end Go.Proofs.YtjnglcjofajcnaaDoor

/-
  strings.Split at a comma; tint.Read: what it returns, and what it makes of a panic.
-/
namespace Go.Proofs.YtjnglcjofajcnaaDoor
open Go.RowKit
open Sy
set_option linter.unusedVariables false
set_option linter.unusedSimpArgs false
set_option maxRecDepth 100000
set_option maxHeartbeats 4000000

/-- the library's own variable holds a number -/
def MaxW (w : World) : Prop := ∃ m, w.cell? ⟨1, 0, none⟩ = some (.int .i64 m)
/-- what Read leans on -/
def ReadW (w : World) : Prop := NumW w ∧ MaxW w
def pieces (s : List UInt8) : List (List UInt8) := Lib.splitK [44] 0 (s.count 44) s
theorem splitB_eq (s : List UInt8) (k : Nat) : Lib.splitB (bs [44]) 0 k (bs s) = (Lib.splitK [44] 0 k s).map bs := by
  have h := Lib.splitB_data (bs [44]) 0 k (bs s)
  rw [bs_toList, bs_toList] at h
  rw [← h, List.map_map]
  have e : (bs ∘ fun x : ByteArray => x.data.toList) = id := by
    funext x
    exact bs_data x
  rw [e, List.map_id]
theorem alloc_row {R : HP} {w : World} (n : Nat) (e : TypeId) (xs : List Value) (hx : xs.length = n) (hn : n ≤ maxLen) (s : Sat R w) : Sat (sepL [rowH (.slice (some ⟨w.heap.size, 0, none⟩) n n) n e 1 xs] R) (w.alloc (.cells xs.toArray e)) := by
  obtain ⟨h, h1, h2⟩ := s
  have hb : Below w.heap.size w (w.alloc (.cells xs.toArray e)) := (Below.refl _ _).alloc (Nat.le_refl _) _
  have hnone : h w.heap.size = none := h1.none (Nat.le_refl _)
  refine ⟨un (fun i => if i = w.heap.size then some (.cells xs.toArray e (0, 0)) else none) h, Sub.un (fun i o e' => ?_) (h1.below hb), _, h, fun i => ?_, rfl, ⟨by omega, .inr ⟨w.heap.size, n, xs.toArray, rfl, fun i => rfl, Nat.le_refl _, hn, by simp [hx], by (show (xs.toArray.toList.take (n * 1)) = xs); rw [show n * 1 = xs.length by omega]; simp⟩⟩, h2⟩
  · by_cases c : i = w.heap.size
    · subst c
      rw [if_pos rfl] at e'
      rw [← e']
      exact Blk.new _ _ _
    · rw [if_neg c] at e'; cases e'
  · by_cases c : i = w.heap.size
    · subst c; exact .inr hnone
    · exact .inl (if_neg c)
theorem sSplit {R : HP} (hM : ∀ w, Sat R w → MaxW w) (s : List UInt8) (hl : s.length ≤ 1048576) : FnR Tryd.prog R 60 [.string (bs s), .string (bs [44])] [] fun r hs => ∃ B, r = .slice (some ⟨B, 0, none⟩) (pieces s).length (pieces s).length ∧ hs = [rowH (.slice (some ⟨B, 0, none⟩) (pieces s).length (pieces s).length) (pieces s).length 9 1 ((pieces s).map fun p => .string (bs p))] := by
  intro w hs
  obtain ⟨m, hm⟩ := hM w hs
  have c := Any.strings_Split lays146 (by kernel_rfl) (bs s) (bs [44]) m w (by rw [bs_size]; omega) hm (by rw [bs_size]; exact Nat.le_refl _)
  have hc : Lib.countB (bs s) (bs [44]) = s.count 44 := by
    show Lib.count (bs s).data.toList (bs [44]).data.toList = _
    rw [bs_toList, bs_toList]
    exact Lib.count_one 44 s
  have hlen := Lib.splitB_all (bs [44]) (by rw [bs_size]; exact Nat.le_refl _) 0 (s.count 44) (bs s) hc
  rw [hc, splitB_eq] at c
  rw [splitB_eq, List.length_map] at hlen
  have hle : s.count 44 ≤ s.length := List.count_le_length
  refine Calls.mono c ?_
  rintro e w' ⟨he, hw⟩
  have hp : (pieces s).length = s.count 44 + 1 := hlen
  have hmap : (List.map Value.string ((Lib.splitK [44] 0 (s.count 44) s).map bs)) = (pieces s).map fun p => .string (bs p) := by rw [List.map_map]; rfl
  rw [hmap] at hw
  refine ⟨_, _, by rw [he, ← hp], ⟨w.heap.size, rfl, rfl⟩, ?_, ?_⟩
  · rw [hw]
    exact alloc_row _ _ _ (by simp) (by rw [hp]; simp only [maxLen]; omega) hs
  · rw [hw]
    exact .of_below ((Below.refl _ _).alloc (Nat.le_refl _) _)

abbrev lbH (b : Nat) (v : Value) : HP := blkH b 48 #[v]
abbrev ebH (b : Nat) (v : Value) : HP := blkH b 34 #[v]
def anyB (b : Nat) (t : TypeId) : HP := fun h => ∃ v, blkH b t #[v] h
theorem clsIdle {R : HP} {lb eb : Nat} {v u : Value} : ∀ w, Sat (sepL [lbH lb v, ebH eb u] R) w → CallsD Tryd.prog 58 [Value.pointer (some ⟨lb, 0, none⟩), .pointer (some ⟨eb, 0, none⟩)].toArray .returning w fun e x w' => (∃ v, e = .returned v) ∧ x = .returning ∧ ∃ hs, hs = [lbH lb v, ebH eb u] ∧ Sat (sepL hs R) w' ∧ Wd w w' := by
  refine cls_of_run false Tryd.func58 rfl hmix rfl rfl rfl rfl rfl rec_idle fun w0 => ?_
  conv => whnf
  refine iff_t rfl ?_
  conv => whnf
  exact ⟨trivial, ⟨_, fun w s => s, trivial, rfl⟩⟩
theorem clsPan {R : HP} {lb eb : Nat} {v u : Value} : ∀ w, Sat (sepL [lbH lb v, ebH eb u] R) w → CallsD Tryd.prog 58 [Value.pointer (some ⟨lb, 0, none⟩), .pointer (some ⟨eb, 0, none⟩)].toArray (.panicking wrongCh) w fun e x w' => (∃ v, e = .returned v) ∧ x = .panicking [{ v := .iface 111 (.agg #[.int .i64 12]), recovered := true }] ∧ ∃ hs, hs = [lbH lb (.slice none 0 0), ebH eb (.int .i64 12)] ∧ Sat (sepL hs R) w' ∧ Wd w w' := by
  refine cls_of_run false Tryd.func58 rfl hmix rfl rfl rfl rfl rfl (rec_pan _) fun w0 => ?_
  conv => whnf
  refine iff_f rfl ?_
  conv => whnf
  refine iff_t rfl ?_
  conv => whnf
  refine ⟨trivial, RegAt.groups0 [([.T 0, .T 1, .H 2], 3), ([.H 3], 4)] hmix (by kernel_rfl) ?_⟩
  conv => whnf
  refine ⟨trivial, OpAt.store lb 0 (.slice none 0 0) _ rfl (fun h s => s) rfl rfl rfl rfl rfl (by simp [Value.cells, Value.oneCell']) (fun h r => blk_put (by show 0 + 1 ≤ 1; omega) r) ?_⟩
  conv => whnf
  refine ⟨trivial, ⟨⟨rfl, rfl⟩, fun h s => sub_nil s⟩, ?_⟩
  conv => whnf
  refine ⟨trivial, OpAt.store eb 0 (.int .i64 12) _ rfl (fun h s => sepL_pull 1 s) rfl rfl rfl rfl rfl (by simp [Value.cells, Value.oneCell']) (fun h r => blk_put (by show 0 + 1 ≤ 1; omega) r) ?_⟩
  conv => whnf
  exact ⟨trivial, trivial, ⟨[lbH lb (.slice none 0 0), ebH eb (.int .i64 12)], fun w ⟨h, h1, s⟩ => ⟨h, h1, sepL_pull 1 s⟩, trivial, rfl⟩⟩
theorem partsV_get : ∀ {ps : List (List UInt8)} {l : List Bd}, partsV ps = some l → ps.length = l.length ∧ ∀ i (h : i < ps.length) (h' : i < l.length), bandV ps[i] = some l[i]
  | [], l, h => by
    injection h with h
    subst h
    exact ⟨rfl, fun i h => absurd h (Nat.not_lt_zero _)⟩
  | p :: ps, l, h => by
    unfold partsV at h
    split at h
    · cases h
    · rename_i b hb
      obtain ⟨l', hl, rfl⟩ := Option.map_eq_some_iff.1 h
      obtain ⟨e1, e2⟩ := partsV_get hl
      refine ⟨by simp [e1], fun i h h' => ?_⟩
      cases i with
      | zero => exact hb
      | succ i => exact e2 i (by simpa using h) (by simpa using h')
theorem piece_len {s : List UInt8} {p : List UInt8} (h : p ∈ pieces s) : p.length ≤ s.length := by
  obtain ⟨h1, _, _⟩ := split_spec s
  have key : ∀ {ps : List (List UInt8)}, p ∈ ps → p.length ≤ (ps.flatMap fun q => (44 : UInt8) :: q).length := fun {ps} hp => by
    induction ps with
    | nil => cases hp
    | cons q qs ih =>
      simp only [List.flatMap_cons, List.length_append, List.length_cons]
      rcases List.mem_cons.1 hp with rfl | hp
      · omega
      · have := ih hp; omega
  unfold pieces at h
  generalize Lib.splitK [44] 0 (s.count 44) s = ps at *
  rw [← h1]
  cases ps with
  | nil => cases h
  | cons q qs =>
    simp only [joinC, List.length_append]
    rcases List.mem_cons.1 h with rfl | h
    · omega
    · have := key h; omega
theorem bcel_one (b : Bd) : bcel [b] = [.int .i64 b.f, .int .i32 b.s] := rfl
theorem bcel_append (l m : List Bd) : bcel (l ++ m) = bcel l ++ bcel m := List.flatMap_append
theorem rowB_at {g n c size : Nat} {e : TypeId} {xs : List Value} {w : World} (s : Sat (rowH (.slice (some ⟨g, 0, none⟩) n c) n e size xs) w) (hn : 0 < n) {j : Nat} {u : Value} (h : xs[j]? = some u) : w.cell? ⟨g, j, none⟩ = some u := by
  obtain ⟨ad, e', _, hc⟩ := (rowH_reads rfl s).2 hn
  injection e' with e'
  subst e'
  have := hc j u h
  rw [add_plain, Nat.zero_add] at this
  exact this
theorem row_capB {A : Option Addr} {n c size : Nat} {e : TypeId} {xs : List Value} {w : World} (s : Sat (rowH (.slice A n c) n e size xs) w) : n ≤ c := by
  obtain ⟨h, _, _, r⟩ := s
  rcases r with ⟨e, h0, _⟩ | ⟨g, cap, cur, e, _, h1, _⟩
  · omega
  · injection e with _ _ e
    omega
structure RdS where
  i : Nat
  A : Option Addr
  c : Nat
abbrev bRow (A : Option Addr) (n c : Nat) (l : List Bd) : HP := rowH (.slice A n c) n 57 2 (bcel l)
theorem sTRead {R : HP} (hW : ∀ w, Sat R w → ReadW w) {s : List UInt8} {l : List Bd} (h : readV s = some l) : FnR Tryd.prog R 30 [.string (bs s)] [] fun r hs => ∃ A c, r = .tuple #[.slice A l.length c, .int .i64 0] ∧ hs = [bRow A l.length c l] := by
  unfold readV at h
  split at h
  · cases h
  rename_i hlen
  split at h
  · cases h
  rename_i l' hp
  split at h
  rotate_left
  · cases h
  rename_i hr
  injection h with h
  subst h
  obtain ⟨hpl, hpg⟩ := partsV_get hp
  have hl12 := hr.2.1
  have hpc : Lib.splitK [44] 0 (s.count 44) s = pieces s := rfl
  rw [hpc] at hpl hpg
  have hplen : ∀ i (h : i < (pieces s).length), (pieces s)[i].length ≤ 1048576 := fun i h => by have := piece_len (List.getElem_mem h); omega
  have hsp := fun R' (h : ∀ w, Sat R' w → Sat R w) => sSplit (R := R') (fun w s => (hW w (h w s)).2) s (by omega)
  generalize pieces s = ps at *
  obtain ⟨m, hm⟩ : ∃ m, m = l'.length := ⟨_, rfl⟩
  rw [← hm]
  refine fn_of_defer false Tryd.func30 rfl hmix rfl (os1 := [_]) rfl rfl rfl rfl fun w0 => ?_
  conv => whnf
  intro lb _
  conv => whnf
  intro eb _
  conv => whnf
  refine ⟨trivial, DefAt.mk 58 [.pointer (some ⟨lb, 0, none⟩), .pointer (some ⟨eb, 0, none⟩)] (fun _ => False) R [(2, .pointer (some ⟨lb, 0, none⟩)), (3, .pointer (some ⟨eb, 0, none⟩))] (fun hs => ∃ A c, hs = [lbH lb (.slice A m c), ebH eb (.int .i64 0), bRow A m c l']) rfl rfl ⟨?_, fun _ h => h.elim⟩ ?_⟩
  · rintro hs ⟨A, c, rfl⟩ w a sat wd ax
    refine leaves_one (by kernel_rfl) (fun e => by cases e) ?_
    refine CallsD.mono (clsIdle (R := sepL [bRow A m c l'] R) w sat) ?_
    rintro e u' w' ⟨hv, rfl, hs, rfl, s', wd'⟩
    refine ⟨hv, rfl, .tuple #[.slice A m c, .int .i64 0], results_two rfl Tryd.underlying48 rfl Tryd.underlying34 rfl (ax (2, _) List.mem_cons_self) (ax (3, _) (List.mem_cons_of_mem _ List.mem_cons_self)) ((blk_sat (s'.in_ 0 rfl)).cell 0) ((blk_sat (s'.in_ 1 rfl)).cell 0), _, _, rfl, ⟨A, c, rfl, rfl⟩, ?_, wd.trans wd'⟩
    exact s'.rest
  conv => whnf
  refine ⟨trivial, CallAt.pure (fun R' hR' => (by rw [decide_eq_true (by rw [bs_size]; omega)]; exact sMust)) ?_⟩
  conv => whnf
  refine ⟨trivial, CallAt.fn (pre := []) _ (fun h s => s) (fun R' hR' => hsp R' fun w s => (hR' w s).rest) ?_⟩
  rintro r hs ⟨B, rfl, rfl⟩
  conv => whnf
  refine ⟨trivial, LoopAt.of (α := RdS) [2, 3, 12, 13] (fun a => [(14, .v (.int .i64 (a.i : Int)))]) (fun _ => []) (fun a => [lbH lb (.slice a.A a.i a.c), bRow a.A a.i a.c (l'.take a.i), rowH (.slice (some ⟨B, 0, none⟩) ps.length ps.length) ps.length 9 1 (ps.map fun p => .string (bs p)), ebH eb (.int .i64 0)]) (fun a => a.i ≤ m) (fun a => m - a.i) ⟨0, none, 0⟩ (Nat.zero_le _)
    (Le.of (Nat.le_of_ble_eq_true rfl) (Nat.zero_le _) ⟨⟨rfl, rfl⟩, ⟨rfl, rfl⟩, ⟨rfl, rfl⟩, ⟨rfl, rfl⟩, ⟨rfl, rfl⟩, trivial⟩ trivial fun h s => sub_same (sepL_perm (List.Perm.swap _ _ _) (row_nil _ _ (sepL_pull 2 s)))) ?_⟩
  rintro ⟨i, A, c⟩ hi
  simp only at hi
  conv => whnf
  refine ⟨fun h3 => ?_, fun h3 => ?_⟩
  · have g3 : i < m := by simp at h3; omega
    have hip : i < ps.length := by omega
    have hil : i < l'.length := by omega
    have hb := hpg i hip hil
    have hpi := hplen i hip
    have hat : (ps.map fun p => Value.string (bs p))[i]? = some (.string (bs ps[i])) := by rw [List.getElem?_map, List.getElem?_eq_getElem hip]; rfl
    have htk : bcel (l'.take (i + 1)) = bcel (l'.take i) ++ bcel [l'[i]] := by rw [← bcel_append, List.take_succ_eq_append_getElem hil]
    generalize ps[i] = p at *
    generalize l'[i] = x at *
    have hband := fun R' (h : ∀ w, Sat R' w → Sat R w) => sBand (R := R') (fun w s => (hW w (h w s)).1) hpi hb
    conv => whnf
    refine ⟨⟨trivial, by simp only; omega⟩, LoadAt.cell (.string (bs p)) rfl rfl (fun w hw => ?_) ?_⟩
    · have := rowB_at (hw.in_ 2 rfl) (by omega) hat
      simpa using this
    conv => whnf
    refine ⟨trivial, RegAt.groups [([.T 0, .T 1, .H 2, .H 3], 4), ([.H 4], 5), ([.H 5], 6)] hmix (by kernel_rfl) ?_⟩
    conv => whnf
    refine ⟨trivial, LoadAt.cell (.slice A i c) rfl rfl (fun w hw => (blk_sat (hw.in_ 0 rfl)).cell 0) ?_⟩
    conv => whnf
    refine ⟨trivial, CallAt.pure (fun R' hR' => hband R' fun w s => (hR' w s).rest) ?_⟩
    conv => whnf
    refine ⟨trivial, ⟨⟨rfl, rfl⟩, fun h s => sub_same s⟩, ?_⟩
    conv => whnf
    refine ⟨trivial, OpAt.lit [.agg #[.int .i64 x.f, .int .i32 x.s]] 2 rfl rfl rfl rfl rfl (by decide) rfl rfl rfl (by simp [Value.cells]) rfl (by decide) fun g2 => ?_⟩
    conv => whnf
    refine ⟨trivial, ⟨⟨rfl, rfl⟩, fun h s => sub_tail s⟩, ?_⟩
    conv => whnf
    refine ⟨trivial, OpAt.append (.slice A i c) i 2 16 (bcel (l'.take i)) (bcel [x]) (some ⟨g2, 0, none⟩) 1 1 _ rfl (fun h s => sepL_pull 2 s) rfl rfl rfl rfl rfl rfl rfl rfl rfl (by decide) (fun w hw => rowH_reads rfl (Sat.left hw)) (by simp [bcel, bdC, Value.oneCell']) (by simp only [maxLen]; omega) (by omega) fun A' c' => ?_⟩
    conv => whnf
    refine ⟨trivial, OpAt.store lb 0 (.slice A' (i + 1) c') _ rfl (fun h s => sepL_pull 2 s) rfl rfl rfl rfl rfl (by simp [Value.cells, Value.oneCell']) (fun h r => blk_put (by show 0 + 1 ≤ 1; omega) r) ?_⟩
    conv => whnf
    refine ⟨trivial, ?_⟩
    conv => whnf
    refine ⟨⟨trivial, by unfold rng; simp only; omega⟩, .mk ⟨i + 1, A', c'⟩ (by simp only; omega) (by simp only; omega) (Le.of (Nat.le_of_ble_eq_true rfl) (Nat.zero_le _) ⟨⟨rfl, rfl⟩, ⟨rfl, rfl⟩, ⟨rfl, rfl⟩, ⟨rfl, rfl⟩, ⟨rfl, rfl⟩, trivial⟩ trivial fun h s => ?_)⟩
    obtain ⟨h', e, s3⟩ := sub_tail (sepL_pull 2 s)
    refine ⟨h', e, ?_⟩
    show sepL [lbH lb (.slice A' (i + 1) c'), rowH (.slice A' (i + 1) c') (i + 1) 57 2 (bcel (l'.take (i + 1))), _, _] R h'
    rw [htk]
    exact s3
  · have g3 : i = m := by simp at h3; omega
    subst g3
    conv => whnf
    refine ⟨trivial, LoadAt.cell (.slice A i c) rfl rfl (fun w hw => (blk_sat (hw.in_ 0 rfl)).cell 0) ?_⟩
    conv => whnf
    refine ⟨trivial, CallAt.pure (v := .bool true) (fun R' hR' => PureR.of_sat fun w hs => ?_) ?_⟩
    · have hc := row_capB ((hR' w hs).in_ 1 rfl)
      have := sTRight (R := R') (n := i) (c := c) (by omega) hc (Sl.row fun w s => (hR' w s).in_ 1 rfl)
      simp only at this
      rw [List.take_of_length_le (by omega), decide_eq_true hr] at this
      exact this
    conv => whnf
    refine ⟨trivial, CallAt.pure (fun R' hR' => sMust) ?_⟩
    conv => whnf
    refine ⟨trivial, LoadAt.cell (.slice A i c) rfl rfl (fun w hw => (blk_sat (hw.in_ 0 rfl)).cell 0) ?_⟩
    conv => whnf
    refine ⟨trivial, OpAt.store lb 0 (.slice A i c) _ rfl (fun h s => s) rfl rfl rfl rfl rfl (by simp [Value.cells, Value.oneCell']) (fun h r => blk_put (by show 0 + 1 ≤ 1; omega) r) ?_⟩
    conv => whnf
    refine ⟨trivial, OpAt.store eb 0 (.int .i64 0) _ rfl (fun h s => sepL_pull 3 s) rfl rfl rfl rfl rfl (by simp [Value.cells, Value.oneCell']) (fun h r => blk_put (by show 0 + 1 ≤ 1; omega) r) ?_⟩
    conv => whnf
    refine ⟨trivial, ⟨[lbH lb (.slice A i c), ebH eb (.int .i64 0), bRow A i c l'], fun w ⟨h, h1, s⟩ => ?_, ⟨rfl, rfl, trivial⟩, ⟨A, c, rfl⟩⟩⟩
    obtain ⟨h', e, s3⟩ := sub_tail (sepL_pull 3 s)
    refine ⟨h', h1.mono e, ?_⟩
    have e4 : bcel (l'.take i) = bcel l' := by rw [List.take_of_length_le (by omega)]
    show sepL [lbH lb (.slice A i c), ebH eb (.int .i64 0), rowH (.slice A i c) i 57 2 (bcel l')] R h'
    rw [← e4]
    exact sepL_pull 1 s3
end Go.Proofs.YtjnglcjofajcnaaDoor

/-
  tint.Read where the text is no legend's: the panic is recovered.
-/
namespace Go.Proofs.YtjnglcjofajcnaaDoor
open Go.RowKit
open Sy
set_option linter.unusedVariables false
set_option linter.unusedSimpArgs false
set_option maxRecDepth 100000
set_option maxHeartbeats 4000000

theorem any2 {R : HP} {lb eb : Nat} {v u : Value} {r : List HP} {w : World} (s : Sat (sepL (lbH lb v :: ebH eb u :: r) R) w) : Sat (sepL [anyB lb 48, anyB eb 34] R) w := by
  obtain ⟨h, h1, s⟩ := s
  obtain ⟨h', e, s'⟩ := sub_front (m := [lbH lb v, ebH eb u]) (r := r) s
  exact ⟨h', h1.mono e, sep_mono s' (fun _ a => ⟨v, a⟩) fun _ b => sep_mono b (fun _ a => ⟨u, a⟩) fun _ c => c⟩
theorem any2_open {R : HP} {lb eb : Nat} {w : World} (s : Sat (sepL [anyB lb 48, anyB eb 34] R) w) : ∃ v u, Sat (sepL [lbH lb v, ebH eb u] R) w := by
  obtain ⟨h, hs, h1, h2, d, rfl, ⟨v, hv⟩, h3, h4, d', rfl, ⟨u, hu⟩, hr⟩ := s
  exact ⟨v, u, _, hs, h1, un h3 h4, d, rfl, hv, h3, h4, d', rfl, hu, hr⟩
theorem pieces_len (s : List UInt8) : (pieces s).length = s.count 44 + 1 := by
  have hc : Lib.countB (bs s) (bs [44]) = s.count 44 := by
    show Lib.count (bs s).data.toList (bs [44]).data.toList = _
    rw [bs_toList, bs_toList]
    exact Lib.count_one 44 s
  have hlen := Lib.splitB_all (bs [44]) (by rw [bs_size]; exact Nat.le_refl _) 0 (s.count 44) (bs s) hc
  rw [splitB_eq, List.length_map] at hlen
  exact hlen
def bandD (p : List UInt8) : Bd := (bandV p).getD ⟨0, 0⟩
theorem partsV_all : ∀ {ps : List (List UInt8)}, (∀ p ∈ ps, bandV p ≠ none) → partsV ps = some (ps.map bandD)
  | [], _ => rfl
  | p :: ps, h => by
    have hp := h p (by simp)
    unfold partsV
    cases hb : bandV p with
    | none => exact absurd hb hp
    | some b =>
      simp only
      rw [partsV_all fun q hq => h q (List.mem_cons_of_mem _ hq)]
      simp [bandD, hb]
theorem defBad {R : HP} {w0 : World} {lb eb : Nat} : DefD Tryd.prog R w0 Tryd.f30 (dfr 58 [.pointer (some ⟨lb, 0, none⟩), .pointer (some ⟨eb, 0, none⟩)]) isWrong (sepL [anyB lb 48, anyB eb 34] R) [(2, .pointer (some ⟨lb, 0, none⟩)), (3, .pointer (some ⟨eb, 0, none⟩))] (fun _ => False) (fun r hs => r = .tuple #[.slice none 0 0, .int .i64 12] ∧ hs = []) := by
  refine ⟨fun _ h => h.elim, ?_⟩
  rintro ch rfl w a sat wd ax
  obtain ⟨v, u, sat⟩ := any2_open sat
  refine leaves_one (by kernel_rfl) (fun e => by cases e) ?_
  refine CallsD.mono (clsPan (R := R) w sat) ?_
  rintro e u' w' ⟨hv, rfl, hs, rfl, s', wd'⟩
  refine ⟨hv, rfl, .tuple #[.slice none 0 0, .int .i64 12], results_two rfl Tryd.underlying48 rfl Tryd.underlying34 rfl (ax (2, _) List.mem_cons_self) (ax (3, _) (List.mem_cons_of_mem _ List.mem_cons_self)) ((blk_sat (s'.in_ 0 rfl)).cell 0) ((blk_sat (s'.in_ 1 rfl)).cell 0), _, _, rfl, ⟨rfl, rfl⟩, ?_, wd.trans wd'⟩
  exact s'.rest
theorem sTReadNo {R : HP} (hW : ∀ w, Sat R w → ReadW w) {s : List UInt8} (hl : s.length ≤ 1048576) (h : readV s = none) : FnR Tryd.prog R 30 [.string (bs s)] [] fun r hs => r = .tuple #[.slice none 0 0, .int .i64 12] ∧ hs = [] := by
  by_cases hlen : 192 < s.length
  · refine fn_of_defer false Tryd.func30 rfl hmix rfl (os1 := [_]) rfl rfl rfl rfl fun w0 => ?_
    conv => whnf
    intro lb _
    conv => whnf
    intro eb _
    conv => whnf
    refine ⟨trivial, DefAt.mk _ _ _ _ _ _ rfl rfl defBad ?_⟩
    conv => whnf
    exact ⟨trivial, CallAt.pan0 (fun R' hR' => (by rw [decide_eq_false (by rw [bs_size]; omega)]; exact sMustNo)) (fun ch h => h) (fun w ⟨h, h1, s⟩ => any2 ⟨h, h1, sepL_pull 1 s⟩) ⟨rfl, rfl, trivial⟩⟩
  · have hbad : ∀ l, partsV (pieces s) = some l → ¬ RightL l := fun l hp hr => by
      unfold readV at h
      rw [if_neg hlen, show Lib.splitK [44] 0 (s.count 44) s = pieces s from rfl, hp] at h
      simp only at h
      rw [if_pos hr] at h
      cases h
    clear h
    have hps : (pieces s).length ≤ 193 := by
      rw [pieces_len]
      have : s.count 44 ≤ s.length := List.count_le_length
      omega
    have hplen : ∀ i (h : i < (pieces s).length), (pieces s)[i].length ≤ 1048576 := fun i h => by have := piece_len (List.getElem_mem h); omega
    have hsp := fun R' (h : ∀ w, Sat R' w → Sat R w) => sSplit (R := R') (fun w s => (hW w (h w s)).2) s (by omega)
    generalize pieces s = ps at *
    refine fn_of_defer false Tryd.func30 rfl hmix rfl (os1 := [_]) rfl rfl rfl rfl fun w0 => ?_
    conv => whnf
    intro lb _
    conv => whnf
    intro eb _
    conv => whnf
    refine ⟨trivial, DefAt.mk _ _ _ _ _ _ rfl rfl defBad ?_⟩
    conv => whnf
    refine ⟨trivial, CallAt.pure (fun R' hR' => (by rw [decide_eq_true (by rw [bs_size]; omega)]; exact sMust)) ?_⟩
    conv => whnf
    refine ⟨trivial, CallAt.fn (pre := []) _ (fun h s => s) (fun R' hR' => hsp R' fun w s => (hR' w s).rest) ?_⟩
    rintro r hs ⟨B, rfl, rfl⟩
    conv => whnf
    refine ⟨trivial, LoopAt.of (α := RdS) [2, 3, 12, 13] (fun a => [(14, .v (.int .i64 (a.i : Int)))]) (fun _ => []) (fun a => [lbH lb (.slice a.A a.i a.c), bRow a.A a.i a.c ((ps.map bandD).take a.i), rowH (.slice (some ⟨B, 0, none⟩) ps.length ps.length) ps.length 9 1 (ps.map fun p => .string (bs p)), ebH eb (.int .i64 0)]) (fun a => a.i ≤ ps.length ∧ ∀ j (h : j < ps.length), j < a.i → bandV ps[j] ≠ none) (fun a => ps.length - a.i) ⟨0, none, 0⟩ ⟨Nat.zero_le _, fun j h hj => absurd hj (Nat.not_lt_zero _)⟩
      (Le.of (Nat.le_of_ble_eq_true rfl) (Nat.zero_le _) ⟨⟨rfl, rfl⟩, ⟨rfl, rfl⟩, ⟨rfl, rfl⟩, ⟨rfl, rfl⟩, ⟨rfl, rfl⟩, trivial⟩ trivial fun h s => sub_same (sepL_perm (List.Perm.swap _ _ _) (row_nil _ _ (sepL_pull 2 s)))) ?_⟩
    rintro ⟨i, A, c⟩ ⟨hi, h0⟩
    simp only at hi h0
    conv => whnf
    refine ⟨fun h3 => ?_, fun h3 => ?_⟩
    · have hip : i < ps.length := by simp at h3; omega
      have hpi := hplen i hip
      have hat : (ps.map fun p => Value.string (bs p))[i]? = some (.string (bs ps[i])) := by rw [List.getElem?_map, List.getElem?_eq_getElem hip]; rfl
      have htk : bcel ((ps.map bandD).take (i + 1)) = bcel ((ps.map bandD).take i) ++ bcel [bandD ps[i]] := by rw [← bcel_append, List.take_succ_eq_append_getElem (by simpa using hip), List.getElem_map]
      have hnx : bandV ps[i] ≠ none → ∀ j (h : j < ps.length), j < i + 1 → bandV ps[j] ≠ none := fun h j hj hji => by
        rcases Nat.lt_or_ge j i with c | c
        · exact h0 j hj c
        · have : j = i := by omega
          subst this
          exact h
      generalize ps[i] = p at *
      conv => whnf
      refine ⟨⟨trivial, by simp only; omega⟩, LoadAt.cell (.string (bs p)) rfl rfl (fun w hw => ?_) ?_⟩
      · have := rowB_at (hw.in_ 2 rfl) (by omega) hat
        simpa using this
      conv => whnf
      refine ⟨trivial, RegAt.groups [([.T 0, .T 1, .H 2, .H 3], 4), ([.H 4], 5), ([.H 5], 6)] hmix (by kernel_rfl) ?_⟩
      conv => whnf
      refine ⟨trivial, LoadAt.cell (.slice A i c) rfl rfl (fun w hw => (blk_sat (hw.in_ 0 rfl)).cell 0) ?_⟩
      conv => whnf
      cases hb : bandV p with
      | none =>
        exact ⟨trivial, CallAt.pan0 (fun R' hR' => sBandNo (fun w s => (hW w (hR' w s).rest).1) hpi hb) (fun ch h => h) (fun w ⟨h, h1, s⟩ => any2 ⟨h, h1, sepL_perm (List.Perm.swap _ _ _) (sepL_pull 3 s)⟩) ⟨rfl, rfl, trivial⟩⟩
      | some x =>
        have hx : bandD p = x := by unfold bandD; rw [hb]; rfl
        rw [hx] at htk
        have hnx := hnx (by rw [hb]; simp)
        refine ⟨trivial, CallAt.pure (fun R' hR' => sBand (R := R') (fun w s => (hW w (hR' w s).rest).1) hpi hb) ?_⟩
        conv => whnf
        refine ⟨trivial, ⟨⟨rfl, rfl⟩, fun h s => sub_same s⟩, ?_⟩
        conv => whnf
        refine ⟨trivial, OpAt.lit [.agg #[.int .i64 x.f, .int .i32 x.s]] 2 rfl rfl rfl rfl rfl (by decide) rfl rfl rfl (by simp [Value.cells]) rfl (by decide) fun g2 => ?_⟩
        conv => whnf
        refine ⟨trivial, ⟨⟨rfl, rfl⟩, fun h s => sub_tail s⟩, ?_⟩
        conv => whnf
        refine ⟨trivial, OpAt.append (.slice A i c) i 2 16 (bcel ((ps.map bandD).take i)) (bcel [x]) (some ⟨g2, 0, none⟩) 1 1 _ rfl (fun h s => sepL_pull 2 s) rfl rfl rfl rfl rfl rfl rfl rfl rfl (by decide) (fun w hw => rowH_reads rfl (Sat.left hw)) (by simp [bcel, bdC, Value.oneCell']) (by simp only [maxLen]; omega) (by omega) fun A' c' => ?_⟩
        conv => whnf
        refine ⟨trivial, OpAt.store lb 0 (.slice A' (i + 1) c') _ rfl (fun h s => sepL_pull 2 s) rfl rfl rfl rfl rfl (by simp [Value.cells, Value.oneCell']) (fun h r => blk_put (by show 0 + 1 ≤ 1; omega) r) ?_⟩
        conv => whnf
        refine ⟨trivial, ?_⟩
        conv => whnf
        refine ⟨⟨trivial, by unfold rng; simp only; omega⟩, .mk ⟨i + 1, A', c'⟩ ⟨by simp only; omega, hnx⟩ (by simp only; omega) (Le.of (Nat.le_of_ble_eq_true rfl) (Nat.zero_le _) ⟨⟨rfl, rfl⟩, ⟨rfl, rfl⟩, ⟨rfl, rfl⟩, ⟨rfl, rfl⟩, ⟨rfl, rfl⟩, trivial⟩ trivial fun h s => ?_)⟩
        obtain ⟨h', e, s3⟩ := sub_tail (sepL_pull 2 s)
        refine ⟨h', e, ?_⟩
        show sepL [lbH lb (.slice A' (i + 1) c'), rowH (.slice A' (i + 1) c') (i + 1) 57 2 (bcel ((ps.map bandD).take (i + 1))), _, _] R h'
        rw [htk]
        exact s3
    · have g3 : i = ps.length := by simp at h3; omega
      have hnr : ¬ RightL (ps.map bandD) := hbad _ (partsV_all fun p hp => by
        obtain ⟨j, hj, rfl⟩ := List.getElem_of_mem hp
        exact h0 j hj (by omega))
      conv => whnf
      refine ⟨trivial, LoadAt.cell (.slice A i c) rfl rfl (fun w hw => (blk_sat (hw.in_ 0 rfl)).cell 0) ?_⟩
      conv => whnf
      refine ⟨trivial, CallAt.pure (v := .bool false) (fun R' hR' => PureR.of_sat fun w hs => ?_) ?_⟩
      · have hc := row_capB ((hR' w hs).in_ 1 rfl)
        have := sTRight (R := R') (n := i) (c := c) (by omega) hc (Sl.row fun w s => (hR' w s).in_ 1 rfl)
        simp only at this
        rw [List.take_of_length_le (by simp; omega), decide_eq_false hnr] at this
        exact this
      conv => whnf
      exact ⟨trivial, CallAt.pan0 (fun R' hR' => sMustNo) (fun ch h => h) (fun w ⟨h, h1, s⟩ => any2 ⟨h, h1, sepL_perm (List.Perm.swap _ _ _) (sepL_pull 3 s)⟩) ⟨rfl, rfl, trivial⟩⟩
end Go.Proofs.YtjnglcjofajcnaaDoor

/-
  The chapter's example; which sign stands for what; there and back.
-/
namespace Go.Proofs.YtjnglcjofajcnaaDoor
open Go.RowKit
open Sy
set_option linter.unusedVariables false
set_option linter.unusedSimpArgs false
set_option maxRecDepth 100000
set_option maxHeartbeats 4000000

def exL : List Bd := [⟨-5, 46⟩, ⟨0, 111⟩, ⟨10, 94⟩]
def exT : List UInt8 := [45, 53, 58, 46, 44, 48, 58, 111, 44, 49, 48, 58, 94]
theorem exT_eq : exT = printT exL := by
  have i1 : Lib.itoa (-5) = [45, 53] := by
    unfold Lib.itoa
    rw [if_pos (by decide), show (-5 : Int).natAbs = 5 from rfl, dec_one (by decide)]
    rfl
  have i2 : Lib.itoa 0 = [48] := by
    unfold Lib.itoa
    rw [if_neg (by decide), show (0 : Int).toNat = 0 from rfl, dec_one (by decide)]
    rfl
  have i3 : Lib.itoa 10 = [49, 48] := by
    unfold Lib.itoa
    rw [if_neg (by decide), show (10 : Int).toNat = 10 from rfl, dec_more (by decide), show 10 / 10 = 1 from rfl, dec_one (by decide)]
    rfl
  unfold printT exL
  simp only [List.map_cons, List.map_nil, bandT, i1, i2, i3, joinC]
  rfl
theorem ex_read : readV exT = some exL := readV_iff.2 ⟨by decide, exT_eq⟩
theorem sAwake33 {R : HP} (hW : ∀ w, Sat R w → ReadW w) : PureR Tryd.prog R 21 [] (.bool true) := by
  have e1 : ofV exL (-7) = (46, 0) := by decide
  have e2 : ofV exL 0 = (111, 0) := by decide
  refine fn_of_run0 false Tryd.func21 rfl hmix rfl fun w0 => ?_
  conv => whnf
  refine ⟨trivial, CallAt.fn (pre := []) _ (fun h s => s) (fun R' hR' => sTRead (s := exT) (fun w s => hW w (hR' w s)) ex_read) ?_⟩
  rintro r hs ⟨A, c, rfl, rfl⟩
  conv => whnf
  refine ⟨trivial, CallAt.pure (v := .tuple #[.int .i32 46, .int .i64 0]) (fun R' hR' => PureR.of_sat fun w hs => ?_) ?_⟩
  · have hc := row_capB ((hR' w hs).in_ 0 rfl)
    have := sTOf (R := R') (n := 3) (c := c) (-7) (by decide) hc (Sl.row fun w s => (hR' w s).in_ 0 rfl)
    rw [e1] at this
    exact this
  conv => whnf
  refine ⟨trivial, CallAt.pure (v := .tuple #[.int .i32 111, .int .i64 0]) (fun R' hR' => PureR.of_sat fun w hs => ?_) ?_⟩
  · have hc := row_capB ((hR' w hs).in_ 0 rfl)
    have := sTOf (R := R') (n := 3) (c := c) 0 (by decide) hc (Sl.row fun w s => (hR' w s).in_ 0 rfl)
    rw [e2] at this
    exact this
  conv => whnf
  repeat (first | (refine ⟨fun _ => ?_, fun h => absurd h (by decide)⟩; conv => whnf) | (refine ⟨fun h => absurd h (by decide), fun _ => ?_⟩; conv => whnf))
  exact ⟨trivial, fin_drop rfl⟩
theorem numW_keep {W w : World} (h : NumW W) (s : Sat (was W) w) : NumW w := by
  have key : ∀ n cs, W.var? Tryd.prog n = some cs → w.var? Tryd.prog n = some cs := fun n cs e => by
    unfold World.var? at e ⊢
    obtain ⟨g, hg, e⟩ := Option.bind_eq_some_iff.1 e
    rw [hg]
    simp only [Option.bind_some]
    split at e
    · rename_i cs' _ _ hh
      rw [was_ext s hh]
      exact e
    · cases e
  exact ⟨key _ _ h.1, h.2.1.imp fun _ => Exists.imp fun _ => key _ _, h.2.2.imp fun _ => Exists.imp fun _ => key _ _⟩
theorem maxW_was {W w : World} (h : MaxW W) (s : Sat (was W) w) : MaxW w := by
  obtain ⟨m, h⟩ := h
  have hlt := World.block_lt_of_cell? W _ h
  have e0 : W.heap[(⟨1, 0, none⟩ : Addr).block]? = some W.heap[(⟨1, 0, none⟩ : Addr).block] := Array.getElem?_eq_getElem hlt
  have e1 := was_ext s e0
  refine ⟨m, ?_⟩
  rw [← h]
  simp only [World.cell?]
  rw [e1, e0]
theorem ixB_at {l : List Bd} {i : Nat} {r : Int} (hi : i < l.length) (h0 : ∀ j, j < i → bS l j ≠ r) (h1 : bS l i = r) : ixB (fun x => decide (x.s = r)) l = (i : Int) := by
  have : l.findIdx (fun x => decide (x.s = r)) = i := by
    refine (List.findIdx_eq hi).2 ⟨decide_eq_true (by rw [← bS_eq hi]; exact h1), fun j hj => decide_eq_false ?_⟩
    have := h0 j hj
    rwa [bS_eq (by omega)] at this
  unfold ixB
  rw [this, if_pos hi]
theorem ixB_none {l : List Bd} {r : Int} (h0 : ∀ j, j < l.length → bS l j ≠ r) : ixB (fun x => decide (x.s = r)) l = -1 := by
  unfold ixB
  rw [if_neg]
  intro c
  have h1 := List.findIdx_getElem (w := c)
  have h2 := h0 _ c
  rw [bS_eq c] at h2
  exact h2 (of_decide_eq_true h1)
theorem ofK_at {l : List Bd} {v : Int} (h0 : bF l 0 ≤ v) : ∀ k, 1 ≤ k → ∃ i, i < k ∧ ofK l v k = bS l i ∧ bF l i ≤ v ∧ ∀ j, i < j → j < k → v < bF l j
  | 0, h => absurd h (by omega)
  | 1, _ => ⟨0, by omega, by show (if bF l 0 ≤ v then bS l 0 else bS l 0) = _; split <;> rfl, h0, fun j h1 h2 => by omega⟩
  | k + 2, _ => by
    obtain ⟨i, h1, h2, h3, h4⟩ := ofK_at h0 (k + 1) (by omega)
    have ek : ofK l v (k + 2) = if bF l (k + 1) ≤ v then bS l (k + 1) else ofK l v (k + 1) := rfl
    by_cases c : bF l (k + 1) ≤ v
    · rw [if_pos c] at ek
      exact ⟨k + 1, by omega, ek, c, fun j h1 h2 => by omega⟩
    · rw [if_neg c] at ek
      refine ⟨i, by omega, by rw [ek, h2], h3, fun j h5 h6 => ?_⟩
      by_cases cj : j = k + 1
      · subst cj; omega
      · exact h4 j h5 (by omega)
/-- what is told of a value: the band that it lies in -/
theorem of_back {l : List Bd} (hR : RightL l) {v : Int} (h0 : bF l 0 ≤ v) : ∃ i, i < l.length ∧ ofV l v = (bS l i, 0) ∧ backV l (bS l i) = (bF l i, 0) ∧ bF l i ≤ v ∧ (∀ j, i < j → j < l.length → v < bF l j) ∧ bF l 0 ≤ bF l i := by
  obtain ⟨i, h1, h2, h3, h4⟩ := ofK_at h0 l.length hR.1
  refine ⟨i, h1, by unfold ofV; rw [if_pos hR, h2], ?_, h3, h4, ?_⟩
  · unfold backV
    rw [if_pos hR, ixB_at h1 (fun j hj => ((hR.2.2 i h1).2.2 j hj).2) rfl, if_neg (by omega), Int.toNat_natCast]
  · rcases Nat.eq_zero_or_pos i with c | c
    · rw [c]; exact Int.le_refl _
    · exact Int.le_of_lt ((hR.2.2 i h1).2.2 0 c).1
theorem TintSigns_walk (A : Option Addr) (n c : Nat) (l : List Bd) (v r : Int) (w : World) (hW : ReadW w) (ha : Reads w w.heap.size 2 A n (bcel l)) (hn : n ≤ maxLen ∧ n ≤ c) (_ : -9223372036854775808 ≤ v) (_ : v ≤ 9223372036854775807) (_ : -2147483648 ≤ r) (_ : r ≤ 2147483647) :
    Calls Tryd.prog 4 #[.slice A n c, .int .i64 v, .int .i32 r] w fun e w' => e = .returned (.bool true) ∧ Below w.heap.size w w' := by
  refine PureR.below (args := [.slice A n c, .int .i64 v, .int .i32 r]) ?_
  have hRW : ∀ R' : HP, (∀ w', Sat R' w' → Sat (was w) w') → ∀ w', Sat R' w' → ReadW w' := fun R' h w' s => ⟨numW_keep hW.1 (h w' s), maxW_was hW.2 (h w' s)⟩
  refine PureR.of_sat fun wS hsat => ?_
  have hs := sl_of_reads (by decide) ha
  have hl : l.length = n := by have := ha.1; rw [bcel_len] at this; omega
  obtain ⟨-, sp⟩ := hs.spot (by decide) hsat
  clear hsat wS
  have hn1 : n ≤ 9223372036854775807 := by have := hn.1; simp only [maxLen] at this; omega
  have hof := fun R' (h : ∀ w', Sat R' w' → Sat (was w) w') => sTOf (c := c) v hn1 hn.2 (hs.mono h)
  have hbk := fun R' (h : ∀ w', Sat R' w' → Sat (was w) w') => sTBack (c := c) r hn1 hn.2 (hs.mono h)
  have hri := fun R' (h : ∀ w', Sat R' w' → Sat (was w) w') => sTRight (c := c) hn1 hn.2 (hs.mono h)
  have hrr := fun R' (h : ∀ w', Sat R' w' → Sat (was w) w') => sRRight (c := c) hn1 (hs.mono h)
  have hts := fun R' => sTSign (R := R') r
  have hrs := fun R' => sRSign (R := R') r
  generalize decide (SignI r) = d at *
  by_cases h40 : 40 < n
  · refine fn_of_run0 false Tryd.func4 rfl hmix rfl fun w0 => ?_
    conv => whnf
    refine ⟨trivial, CallAt.pure (fun R' hR' => sAwake33 (hRW R' hR')) ?_⟩
    conv => whnf
    refine iff_f rfl ?_
    conv => whnf
    refine iff_t (by simp; omega) ?_
    conv => whnf
    exact ⟨trivial, fin_pure rfl rfl⟩
  · by_cases hR : RightL l
    · rw [decide_eq_true hR] at hri hrr
      have e1 : ofV l v = (ofK l v n, 0) := by unfold ofV; rw [if_pos hR, hl]
      have hof : ∀ R' : HP, (∀ w', Sat R' w' → Sat (was w) w') → PureR Tryd.prog R' 22 [.slice A n c, .int .i64 v] (.tuple #[.int .i32 (ofK l v n), .int .i64 0]) := fun R' h => by
        have := hof R' h
        rw [e1] at this
        exact this
      have hro := fun R' (h : ∀ w', Sat R' w' → Sat (was w) w') => sROf (c := c) v hn1 (by have := hR.1; omega) (hs.mono h)
      have e2 : backV l r = if ixB (fun x => decide (x.s = r)) l < 0 then (0, 15) else (bF l (ixB (fun x => decide (x.s = r)) l).toNat, 0) := by unfold backV; rw [if_pos hR]
      have hat : ∀ i, i < n → (∀ j, j < i → bS l j ≠ r) → bS l i = r → backV l r = (bF l i, 0) := fun i hi h0 h1 => by
        rw [e2, ixB_at (by omega) h0 h1, if_neg (by omega), Int.toNat_natCast]
      have hno : (∀ j, j < n → bS l j ≠ r) → backV l r = (0, 15) := fun h0 => by
        rw [e2, ixB_none (by rw [hl]; exact h0), if_pos (by decide)]
      clear e1 e2
      generalize backV l r = bk at *
      generalize ofK l v n = ok at *
      refine fn_of_run0 false Tryd.func4 rfl hmix rfl fun w0 => ?_
      conv => whnf
      refine ⟨trivial, CallAt.pure (fun R' hR' => sAwake33 (hRW R' hR')) ?_⟩
      conv => whnf
      refine iff_f rfl ?_
      conv => whnf
      refine iff_f (by simp; omega) ?_
      conv => whnf
      refine ⟨trivial, CallAt.pure (fun R' hR' => hof R' hR') ?_⟩
      conv => whnf
      refine ⟨trivial, CallAt.pure (fun R' hR' => hbk R' hR') ?_⟩
      conv => whnf
      refine ⟨trivial, CallAt.pure (fun R' hR' => hts R') ?_⟩
      conv => whnf
      refine ⟨trivial, CallAt.pure (fun R' hR' => hrs R') ?_⟩
      conv => whnf
      refine ⟨fun _ => ?_, fun h => absurd h (by simp)⟩
      conv => whnf
      refine ⟨trivial, CallAt.pure (fun R' hR' => hri R' hR') ?_⟩
      conv => whnf
      refine ⟨trivial, CallAt.pure (fun R' hR' => hrr R' hR') ?_⟩
      conv => whnf
      repeat (first | (refine ⟨fun _ => ?_, fun h => absurd h (by decide)⟩; conv => whnf) | (refine ⟨fun h => absurd h (by decide), fun _ => ?_⟩; conv => whnf))
      refine ⟨trivial, CallAt.pure (fun R' hR' => hrr R' hR') ?_⟩
      conv => whnf
      repeat (first | (refine ⟨fun _ => ?_, fun h => absurd h (by decide)⟩; conv => whnf) | (refine ⟨fun h => absurd h (by decide), fun _ => ?_⟩; conv => whnf))
      refine ⟨trivial, CallAt.pure (fun R' hR' => hro R' hR') ?_⟩
      conv => whnf
      refine ⟨fun h => absurd h (by simp), fun _ => ?_⟩
      conv => whnf
      refine ⟨trivial, LoopAt.keep (α := Nat) [0, 2, 9, 10] (fun i => [(11, .v (.int .i64 (i : Int)))]) (fun i => i ≤ n ∧ ∀ j, j < i → bS l j ≠ r) (fun i => n - i) 0 ⟨Nat.zero_le _, fun j hj => absurd hj (Nat.not_lt_zero _)⟩ rfl ⟨⟨rfl, rfl⟩, trivial⟩ ⟨⟨rfl, rfl⟩, ⟨rfl, rfl⟩, ⟨rfl, rfl⟩, ⟨rfl, rfl⟩, trivial⟩ trivial ?_⟩
      rintro i ⟨hi, h0⟩
      conv => whnf
      refine ⟨fun h3 => ?_, fun h3 => ?_⟩
      · have g3 : i < n := by simpa using h3
        rcases sp with sa | ⟨b, off, rfl, sa⟩
        · omega
        obtain ⟨f1, f2⟩ := bcel_F (l := l) (i := i) (by omega)
        conv => whnf
        refine ⟨⟨trivial, by omega⟩, LoadAt.cell (.int .i32 (bS l i)) rfl rfl (fun w hw => ?_) ?_⟩
        · rw [Int.toNat_natCast, Nat.add_assoc]; exact sa w hw _ _ f2
        conv => whnf
        refine ⟨fun h4 => ?_, fun h4 => ?_⟩
        · have h4 : bS l i = r := by simpa using h4
          rw [hat i g3 h0 h4]
          conv => whnf
          refine ⟨fun _ => ?_, fun h => absurd h (by simp)⟩
          conv => whnf
          refine ⟨⟨trivial, by omega⟩, LoadAt.cell (.int .i64 (bF l i)) rfl rfl (fun w hw => ?_) ?_⟩
          · rw [Int.toNat_natCast]; exact sa w hw _ _ f1
          conv => whnf
          exact ⟨trivial, fin_pure rfl (by simp [mkRes])⟩
        · have h4 : bS l i ≠ r := by simpa using h4
          conv => whnf
          refine ⟨⟨trivial, by unfold rng; omega⟩, Next.keep (i + 1) ⟨by omega, fun j hj => ?_⟩ (by omega) ⟨⟨rfl, rfl⟩, trivial⟩ ⟨⟨rfl, rfl⟩, ⟨rfl, rfl⟩, ⟨rfl, rfl⟩, ⟨rfl, rfl⟩, trivial⟩ trivial rfl rfl rfl⟩
          rcases Nat.lt_or_ge j i with c | c
          · exact h0 j c
          · rw [show j = i by omega]
            exact h4
      · have g3 : i = n := by simp at h3; omega
        rw [hno (by rw [← g3]; exact h0)]
        conv => whnf
        repeat (first | (refine ⟨fun _ => ?_, fun h => absurd h (by decide)⟩; conv => whnf) | (refine ⟨fun h => absurd h (by decide), fun _ => ?_⟩; conv => whnf))
        exact ⟨trivial, fin_pure rfl rfl⟩
    · rw [decide_eq_false hR] at hri hrr
      have e1 : ofV l v = (0, 13) := by unfold ofV; rw [if_neg hR]
      have e2 : backV l r = (0, 13) := by unfold backV; rw [if_neg hR]
      have hof : ∀ R' : HP, (∀ w', Sat R' w' → Sat (was w) w') → PureR Tryd.prog R' 22 [.slice A n c, .int .i64 v] (.tuple #[.int .i32 0, .int .i64 13]) := fun R' h => by
        have := hof R' h
        rw [e1] at this
        exact this
      have hbk : ∀ R' : HP, (∀ w', Sat R' w' → Sat (was w) w') → PureR Tryd.prog R' 23 [.slice A n c, .int .i32 r] (.tuple #[.int .i64 0, .int .i64 13]) := fun R' h => by
        have := hbk R' h
        rw [e2] at this
        exact this
      refine fn_of_run0 false Tryd.func4 rfl hmix rfl fun w0 => ?_
      conv => whnf
      refine ⟨trivial, CallAt.pure (fun R' hR' => sAwake33 (hRW R' hR')) ?_⟩
      conv => whnf
      refine iff_f rfl ?_
      conv => whnf
      refine iff_f (by simp; omega) ?_
      conv => whnf
      refine ⟨trivial, CallAt.pure (fun R' hR' => hof R' hR') ?_⟩
      conv => whnf
      refine ⟨trivial, CallAt.pure (fun R' hR' => hbk R' hR') ?_⟩
      conv => whnf
      refine ⟨trivial, CallAt.pure (fun R' hR' => hts R') ?_⟩
      conv => whnf
      refine ⟨trivial, CallAt.pure (fun R' hR' => hrs R') ?_⟩
      conv => whnf
      refine ⟨fun _ => ?_, fun h => absurd h (by simp)⟩
      conv => whnf
      refine ⟨trivial, CallAt.pure (fun R' hR' => hri R' hR') ?_⟩
      conv => whnf
      refine ⟨trivial, CallAt.pure (fun R' hR' => hrr R' hR') ?_⟩
      conv => whnf
      repeat (first | (refine ⟨fun _ => ?_, fun h => absurd h (by decide)⟩; conv => whnf) | (refine ⟨fun h => absurd h (by decide), fun _ => ?_⟩; conv => whnf))
      refine ⟨trivial, CallAt.pure (fun R' hR' => hrr R' hR') ?_⟩
      conv => whnf
      repeat (first | (refine ⟨fun _ => ?_, fun h => absurd h (by decide)⟩; conv => whnf) | (refine ⟨fun h => absurd h (by decide), fun _ => ?_⟩; conv => whnf))
      exact ⟨trivial, fin_pure rfl rfl⟩
theorem TintBack_walk (A : Option Addr) (n c : Nat) (l : List Bd) (v u : Int) (w : World) (hW : ReadW w) (ha : Reads w w.heap.size 2 A n (bcel l)) (hn : n ≤ maxLen ∧ n ≤ c) (_ : -9223372036854775808 ≤ v) (_ : v ≤ 9223372036854775807) (_ : -9223372036854775808 ≤ u) (_ : u ≤ 9223372036854775807) :
    Calls Tryd.prog 5 #[.slice A n c, .int .i64 v, .int .i64 u] w fun e w' => e = .returned (.bool true) ∧ Below w.heap.size w w' := by
  refine PureR.below (args := [.slice A n c, .int .i64 v, .int .i64 u]) ?_
  have hRW : ∀ R' : HP, (∀ w', Sat R' w' → Sat (was w) w') → ∀ w', Sat R' w' → ReadW w' := fun R' h w' s => ⟨numW_keep hW.1 (h w' s), maxW_was hW.2 (h w' s)⟩
  refine PureR.of_sat fun wS hsat => ?_
  have hs := sl_of_reads (by decide) ha
  have hl : l.length = n := by have := ha.1; rw [bcel_len] at this; omega
  obtain ⟨-, sp⟩ := hs.spot (by decide) hsat
  clear hsat wS
  have hn1 : n ≤ 9223372036854775807 := by have := hn.1; simp only [maxLen] at this; omega
  have hof := fun v R' (h : ∀ w', Sat R' w' → Sat (was w) w') => sTOf (c := c) v hn1 hn.2 (hs.mono h)
  have hbk := fun r R' (h : ∀ w', Sat R' w' → Sat (was w) w') => sTBack (c := c) r hn1 hn.2 (hs.mono h)
  have hrr := fun R' (h : ∀ w', Sat R' w' → Sat (was w) w') => sRRight (c := c) hn1 (hs.mono h)
  by_cases h40 : 40 < n
  · refine fn_of_run0 false Tryd.func5 rfl hmix rfl fun w0 => ?_
    conv => whnf
    refine ⟨trivial, CallAt.pure (fun R' hR' => sAwake33 (hRW R' hR')) ?_⟩
    conv => whnf
    refine iff_f rfl ?_
    conv => whnf
    refine ⟨fun h => absurd h (by simp; omega), fun _ => ?_⟩
    conv => whnf
    exact ⟨trivial, fin_pure rfl rfl⟩
  · by_cases hR : RightL l
    · rw [decide_eq_true hR] at hrr
      have hn0 : 0 < n := by have := hR.1; omega
      rcases sp with sa | ⟨b, off, rfl, sa⟩
      · omega
      have f1 := (bcel_F (l := l) (i := 0) (by omega)).1
      by_cases h0 : v < bF l 0
      · refine fn_of_run0 false Tryd.func5 rfl hmix rfl fun w0 => ?_
        conv => whnf
        refine ⟨trivial, CallAt.pure (fun R' hR' => sAwake33 (hRW R' hR')) ?_⟩
        conv => whnf
        refine iff_f rfl ?_
        conv => whnf
        refine ⟨fun _ => ?_, fun h => absurd h (by simp; omega)⟩
        conv => whnf
        refine ⟨trivial, CallAt.pure (fun R' hR' => hrr R' hR') ?_⟩
        conv => whnf
        repeat (first | (refine ⟨fun _ => ?_, fun h => absurd h (by decide)⟩; conv => whnf) | (refine ⟨fun h => absurd h (by decide), fun _ => ?_⟩; conv => whnf))
        refine ⟨⟨trivial, by omega⟩, LoadAt.cell (.int .i64 (bF l 0)) rfl rfl (fun w hw => ?_) ?_⟩
        · simpa using sa w hw _ _ f1
        conv => whnf
        refine ⟨fun h => absurd h (by simp; omega), fun _ => ?_⟩
        conv => whnf
        exact ⟨trivial, fin_pure rfl rfl⟩
      · by_cases huv : u < v
        · refine fn_of_run0 false Tryd.func5 rfl hmix rfl fun w0 => ?_
          conv => whnf
          refine ⟨trivial, CallAt.pure (fun R' hR' => sAwake33 (hRW R' hR')) ?_⟩
          conv => whnf
          refine iff_f rfl ?_
          conv => whnf
          refine ⟨fun _ => ?_, fun h => absurd h (by simp; omega)⟩
          conv => whnf
          refine ⟨trivial, CallAt.pure (fun R' hR' => hrr R' hR') ?_⟩
          conv => whnf
          repeat (first | (refine ⟨fun _ => ?_, fun h => absurd h (by decide)⟩; conv => whnf) | (refine ⟨fun h => absurd h (by decide), fun _ => ?_⟩; conv => whnf))
          refine ⟨⟨trivial, by omega⟩, LoadAt.cell (.int .i64 (bF l 0)) rfl rfl (fun w hw => ?_) ?_⟩
          · simpa using sa w hw _ _ f1
          conv => whnf
          refine ⟨fun _ => ?_, fun h => absurd h (by simp; omega)⟩
          conv => whnf
          refine iff_t (by simp; omega) ?_
          conv => whnf
          exact ⟨trivial, fin_pure rfl rfl⟩
        · obtain ⟨i, i1, i2, i3, i4, i5, i6⟩ := of_back hR (v := v) (by omega)
          obtain ⟨j, j1, j2, j3, j4, j5, j6⟩ := of_back hR (v := u) (by omega)
          obtain ⟨k, k1, k2, k3, k4, k5, k6⟩ := of_back hR (v := bF l i) i6
          have hki : k = i := by
            rcases Nat.lt_trichotomy k i with c | c | c
            · have := k5 i c i1; omega
            · exact c
            · have := ((hR.2.2 k k1).2.2 i c).1; omega
          subst hki
          have hij : bF l k ≤ bF l j := by
            rcases Nat.lt_trichotomy j k with c | c | c
            · have := j5 k c i1; omega
            · rw [c]; exact Int.le_refl _
            · exact Int.le_of_lt ((hR.2.2 j j1).2.2 k c).1
          have o1 : ∀ R' : HP, (∀ w', Sat R' w' → Sat (was w) w') → PureR Tryd.prog R' 22 [.slice (some ⟨b, off, none⟩) n c, .int .i64 v] (.tuple #[.int .i32 (bS l k), .int .i64 0]) := fun R' h => by
            have := hof v R' h
            rw [i2] at this
            exact this
          have o2 : ∀ R' : HP, (∀ w', Sat R' w' → Sat (was w) w') → PureR Tryd.prog R' 23 [.slice (some ⟨b, off, none⟩) n c, .int .i32 (bS l k)] (.tuple #[.int .i64 (bF l k), .int .i64 0]) := fun R' h => by
            have := hbk (bS l k) R' h
            rw [i3] at this
            exact this
          have o3 : ∀ R' : HP, (∀ w', Sat R' w' → Sat (was w) w') → PureR Tryd.prog R' 22 [.slice (some ⟨b, off, none⟩) n c, .int .i64 (bF l k)] (.tuple #[.int .i32 (bS l k), .int .i64 0]) := fun R' h => by
            have := hof (bF l k) R' h
            rw [k2] at this
            exact this
          have o4 : ∀ R' : HP, (∀ w', Sat R' w' → Sat (was w) w') → PureR Tryd.prog R' 22 [.slice (some ⟨b, off, none⟩) n c, .int .i64 u] (.tuple #[.int .i32 (bS l j), .int .i64 0]) := fun R' h => by
            have := hof u R' h
            rw [j2] at this
            exact this
          have o5 : ∀ R' : HP, (∀ w', Sat R' w' → Sat (was w) w') → PureR Tryd.prog R' 23 [.slice (some ⟨b, off, none⟩) n c, .int .i32 (bS l j)] (.tuple #[.int .i64 (bF l j), .int .i64 0]) := fun R' h => by
            have := hbk (bS l j) R' h
            rw [j3] at this
            exact this
          refine fn_of_run0 false Tryd.func5 rfl hmix rfl fun w0 => ?_
          conv => whnf
          refine ⟨trivial, CallAt.pure (fun R' hR' => sAwake33 (hRW R' hR')) ?_⟩
          conv => whnf
          refine iff_f rfl ?_
          conv => whnf
          refine ⟨fun _ => ?_, fun h => absurd h (by simp; omega)⟩
          conv => whnf
          refine ⟨trivial, CallAt.pure (fun R' hR' => hrr R' hR') ?_⟩
          conv => whnf
          repeat (first | (refine ⟨fun _ => ?_, fun h => absurd h (by decide)⟩; conv => whnf) | (refine ⟨fun h => absurd h (by decide), fun _ => ?_⟩; conv => whnf))
          refine ⟨⟨trivial, by omega⟩, LoadAt.cell (.int .i64 (bF l 0)) rfl rfl (fun w hw => ?_) ?_⟩
          · simpa using sa w hw _ _ f1
          conv => whnf
          refine ⟨fun _ => ?_, fun h => absurd h (by simp; omega)⟩
          conv => whnf
          refine iff_f (by simp; omega) ?_
          conv => whnf
          refine ⟨trivial, CallAt.pure (fun R' hR' => o1 R' hR') ?_⟩
          conv => whnf
          refine ⟨trivial, CallAt.pure (fun R' hR' => o2 R' hR') ?_⟩
          conv => whnf
          refine ⟨trivial, CallAt.pure (fun R' hR' => o3 R' hR') ?_⟩
          conv => whnf
          refine ⟨trivial, CallAt.pure (fun R' hR' => o4 R' hR') ?_⟩
          conv => whnf
          refine ⟨trivial, CallAt.pure (fun R' hR' => o5 R' hR') ?_⟩
          conv => whnf
          repeat (first | (refine ⟨fun _ => ?_, fun h => absurd h (by decide)⟩; conv => whnf) | (refine ⟨fun h => absurd h (by decide), fun _ => ?_⟩; conv => whnf))
          refine ⟨fun _ => ?_, fun h => absurd h (by simp; omega)⟩
          conv => whnf
          refine ⟨fun _ => ?_, fun h => absurd h (by simp)⟩
          conv => whnf
          exact ⟨trivial, fin_pure rfl (by simp [mkRes]; omega)⟩
    · rw [decide_eq_false hR] at hrr
      refine fn_of_run0 false Tryd.func5 rfl hmix rfl fun w0 => ?_
      conv => whnf
      refine ⟨trivial, CallAt.pure (fun R' hR' => sAwake33 (hRW R' hR')) ?_⟩
      conv => whnf
      refine iff_f rfl ?_
      conv => whnf
      refine ⟨fun _ => ?_, fun h => absurd h (by simp; omega)⟩
      conv => whnf
      refine ⟨trivial, CallAt.pure (fun R' hR' => hrr R' hR') ?_⟩
      conv => whnf
      repeat (first | (refine ⟨fun _ => ?_, fun h => absurd h (by decide)⟩; conv => whnf) | (refine ⟨fun h => absurd h (by decide), fun _ => ?_⟩; conv => whnf))
      exact ⟨trivial, fin_pure rfl rfl⟩
end Go.Proofs.YtjnglcjofajcnaaDoor

