/-
  math/bits.Mul of this program is the library's own text: its contract (the kit's shelf, laid in plain words) serves here.
-/
import Derived.Shelf.Bits.Mul64
import Derived.Test.YtccpgalpahfpaaaProg
namespace Go.Proofs.Ytccpgalpahfpaaa
open Go.Shelf
def lays212_ren : Go.Shelf.Ren := ⟨fun | 212 => 95 | 263 => 96 | 264 => 97 | n => n, fun | 46 => 143 | 51 => 149 | 146 => 150 | 53 => 125 | 148 => 152 | n => n, fun | n => n⟩
theorem lays212 : Go.Proofs.Lays.n212 Try.prog lays212_ren := {
  mixed := by kernel_rfl
  f212 := Try.func95.trans (congrArg some (by kernel_rfl))
  f263 := Try.func96.trans (congrArg some (by kernel_rfl))
  f264 := Try.func97.trans (congrArg some (by kernel_rfl))
  t46 := Try.underlying143
  a46 := Try.isAgg143
  z46 := Try.sizeOf143
  v46 := Try.zeroValue143
  t51 := Try.underlying149
  a51 := Try.isAgg149
  z51 := Try.sizeOf149
  v51 := Try.zeroValue149
  t53 := Try.underlying125
  a53 := Try.isAgg125
  z53 := Try.sizeOf125
  v53 := Try.zeroValue125
  t146 := Try.underlying150
  a146 := Try.isAgg150
  z146 := Try.sizeOf150
  v146 := Try.zeroValue150
  t148 := Try.underlying152
  a148 := Try.isAgg152
  z148 := Try.sizeOf152
  v148 := Try.zeroValue152 }
theorem Mul_any (x y : Nat) (hx : x < 18446744073709551616) (hy : y < 18446744073709551616) (w : World) :
    Calls Try.prog 95 #[.int .u64 x, .int .u64 y] w fun e w' => e = .returned (.tuple #[.int .u64 ((x * y / 18446744073709551616 : Nat) : Int), .int .u64 ((x * y % 18446744073709551616 : Nat) : Int)]) ∧ w = w' :=
  (Any.bits_Mul lays212 x y hx hy w).mono fun _ _ h => ⟨h.1, h.2.symm⟩
theorem Mul_one (n : Nat) (hn : n ≤ 65536) (w : World) : Calls Try.prog 95 #[.int .u64 1, .int .u64 n] w fun e w' => e = .returned (.tuple #[.int .u64 0, .int .u64 n]) ∧ w = w' := by
  have h := Mul_any 1 n (by omega) (by omega) w
  rw [Nat.one_mul, Nat.div_eq_of_lt (by omega), Nat.mod_eq_of_lt (by omega)] at h
  exact h
end Go.Proofs.Ytccpgalpahfpaaa
