/-
  '&' with a mask of low ones, of whatever int.
-/
import Derived.Test.YtidpleejgalljaaBase
namespace Go.Proofs.Ytidpleejgalljaa
open Go.RowKit

/-- n & c for a c that is not below 0: a natural number of at most c. -/
theorem and_mask (n : Int) (c : Nat) (hc : c < 9223372036854775808) : ∃ m : Nat, m ≤ c ∧ bits .and .i64 n (c : Int) = (m : Int) := by
  refine ⟨(BitVec.ofInt 64 n &&& BitVec.ofInt 64 (c : Int)).toNat, ?_, ?_⟩
  · rw [BitVec.toNat_and, BitVec.ofInt_natCast, BitVec.toNat_ofNat, Nat.mod_eq_of_lt (by omega)]
    exact Nat.and_le_right
  · have hb : (BitVec.ofInt 64 n &&& BitVec.ofInt 64 (c : Int)).toNat ≤ c := by
      rw [BitVec.toNat_and, BitVec.ofInt_natCast, BitVec.toNat_ofNat, Nat.mod_eq_of_lt (by omega)]
      exact Nat.and_le_right
    show IntKind.i64.wrap ((BitVec.ofInt 64 n &&& BitVec.ofInt 64 (c : Int)).toNat : Int) = _
    rw [IntKind.wrap_i64]
    omega

end Go.Proofs.Ytidpleejgalljaa
