/- The document's tag as a plain function of bytes: no program in sight. -/
import Derived.Test.YtleeacgimikdbaaDoorS
namespace Go.Proofs.YtleeacgimikdbaaDoor
def keyFor (key : List UInt8) : List UInt8 := if 64 < key.length then sha key else key
def keyPad (key : List UInt8) : List UInt8 := keyFor key ++ List.replicate (64 - (keyFor key).length) 0
def xorAll (l : List UInt8) (b : UInt8) : List UInt8 := l.map (· ^^^ b)
def tagOf (key data : List UInt8) : List UInt8 := sha (xorAll (keyPad key) 92 ++ sha (xorAll (keyPad key) 54 ++ data))
def numBytes (n : Int) : List UInt8 := (List.range 8).map fun i => UInt8.ofNat ((n % 18446744073709551616).toNat >>> (56 - 8 * i))
def keyOfKey (key label : List UInt8) (n : Int) : List UInt8 := tagOf key (label ++ [0] ++ numBytes n)
theorem be64_length (n : Nat) : (be64 n).length = 8 := by simp [be64]
theorem bytesOf_length (w : W32) : (bytesOf w).length = 4 := rfl
theorem sha_length (bs : List UInt8) : (sha bs).length = 32 := by
  unfold sha
  generalize stTo (padded bs) _ = s
  simp [St.words, bytesOf]
theorem keyFor_le (key : List UInt8) : (keyFor key).length ≤ 64 := by
  unfold keyFor
  split
  · rw [sha_length]; omega
  · omega
theorem keyPad_length (key : List UInt8) : (keyPad key).length = 64 := by
  unfold keyPad
  have := keyFor_le key
  simp
  omega
theorem tagOf_length (key data : List UInt8) : (tagOf key data).length = 32 := sha_length _
end Go.Proofs.YtleeacgimikdbaaDoor
