/-
  Bytes put together to numbers.
-/
import Derived.Test.YtidpleejgalljaaBits
namespace Go.Proofs.Ytidpleejgalljaa
open Go.RowKit

theorem or_low (x u : Nat) (hu : u < 256) : x * 256 ||| u = x * 256 + u := by
  have h := Nat.shiftLeft_add_eq_or_of_lt (b := u) (i := 8) (by omega) x
  have e : x <<< 8 = x * 256 := by rw [Nat.shiftLeft_eq]
  rw [e] at h
  exact h.symm
/-- n<<8 | c, uint32. -/
theorem or_u32 (x u : Nat) (hx : x < 16777216) (hu : u < 256) : bits .or .u32 ((x : Int) * 256) (u : Int) = ((x * 256 + u : Nat) : Int) := by
  have e1 : ((x : Int) * 256) = ((x * 256 : Nat) : Int) := by omega
  rw [e1]
  show IntKind.u32.wrap ((BitVec.ofInt 32 ((x * 256 : Nat) : Int) ||| BitVec.ofInt 32 (u : Int)).toNat : Int) = _
  rw [BitVec.toNat_or, BitVec.ofInt_natCast, BitVec.ofInt_natCast, BitVec.toNat_ofNat, BitVec.toNat_ofNat, Nat.mod_eq_of_lt (by omega), Nat.mod_eq_of_lt (by omega), or_low x u hu]
  simp only [IntKind.wrap_u32]
  omega
/-- n<<8 | c, int. -/
theorem or_i64 (x u : Nat) (hx : x < 256) (hu : u < 256) : bits .or .i64 ((x : Int) * 256) (u : Int) = ((x * 256 + u : Nat) : Int) := by
  have e1 : ((x : Int) * 256) = ((x * 256 : Nat) : Int) := by omega
  rw [e1]
  show IntKind.i64.wrap ((BitVec.ofInt 64 ((x * 256 : Nat) : Int) ||| BitVec.ofInt 64 (u : Int)).toNat : Int) = _
  rw [BitVec.toNat_or, BitVec.ofInt_natCast, BitVec.ofInt_natCast, BitVec.toNat_ofNat, BitVec.toNat_ofNat, Nat.mod_eq_of_lt (by omega), Nat.mod_eq_of_lt (by omega), or_low x u hu]
  rw [IntKind.wrap_i64]
  omega

end Go.Proofs.Ytidpleejgalljaa
