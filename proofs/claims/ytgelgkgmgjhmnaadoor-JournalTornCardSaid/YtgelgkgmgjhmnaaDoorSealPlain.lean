/-
  Plain: bytes with their sum behind, and without it.
-/
import Derived.Test.YtgelgkgmgjhmnaaDoorCrcPlain
import Derived.Test.YtgelgkgmgjhmnaaDoorMem
namespace Go.Proofs.YtgelgkgmgjhmnaaDoor

/-- a sum's bytes -/
def tailB (s : Nat) : List UInt8 := [UInt8.ofNat s, UInt8.ofNat (s / 256), UInt8.ofNat (s / 65536), UInt8.ofNat (s / 16777216)]
/-- with the sum behind -/
def sealB (l : List UInt8) : List UInt8 := l ++ tailB (crcMore 0 l)
/-- without it; the error's number -/
def openB (l : List UInt8) : List UInt8 × Nat :=
  if l.length < 4 then ([], 14)
  else if l.drop (l.length - 4) = tailB (crcMore 0 (l.take (l.length - 4))) then (l.take (l.length - 4), 0)
  else ([], 10)
theorem tailB_len (s : Nat) : (tailB s).length = 4 := rfl
theorem sealB_len (l : List UInt8) : (sealB l).length = l.length + 4 := by simp [sealB, tailB]
theorem open_seal (l : List UInt8) : openB (sealB l) = (l, 0) := by
  have h4 := sealB_len l
  unfold openB
  rw [if_neg (by omega)]
  have e1 : (sealB l).take ((sealB l).length - 4) = l := by rw [h4]; simp [sealB]
  have e2 : (sealB l).drop ((sealB l).length - 4) = tailB (crcMore 0 l) := by rw [h4]; simp [sealB]
  rw [e1, e2, if_pos rfl]
theorem byte_ofNat (s : Nat) : ((UInt8.ofNat s).toNat : Int) = (s : Int) % 256 := by rw [UInt8.toNat_ofNat']; omega
theorem tailB_byts (s : Nat) : byts (tailB s) = [.int .u8 ((s : Int) % 256), .int .u8 ((s : Int) / 256 % 256), .int .u8 ((s : Int) / 65536 % 256), .int .u8 ((s : Int) / 16777216 % 256)] := by
  simp only [byts, tailB, List.map_cons, List.map_nil, byte_ofNat]
  rfl
end Go.Proofs.YtgelgkgmgjhmnaaDoor
