/-
  The walk of JournalNeed: for all inputs it answers true and leaves old memory alone.
-/
import Derived.Test.YtbgcbikgjedkkaaJo
import Derived.Test.YtbgcbikgjedkkaaBits
namespace Go.Proofs.Ytbgcbikgjedkkaa
open Go.RowKit

theorem need_facts (m1 m2 : Nat) : ∃ p q r : Int, needI (1 + (m1 : Int)) = p ∧ needI (1 + (m2 : Int)) = q ∧ needI (1 + (m1 : Int) + (1 + (m2 : Int))) = r ∧ 1 ≤ p ∧ 1 + (m1 : Int) ≤ 48 * p ∧ 48 * (p - 1) < 1 + (m1 : Int) ∧ (p + q - r = 0 ∨ p + q - r = 1) ∧ p ≤ m1 + 1 ∧ 1 ≤ q ∧ q ≤ m2 + 1 ∧ needI (-(1 + (m1 : Int))) = 1 := by
  refine ⟨_, _, _, rfl, rfl, rfl, ?_⟩
  unfold needI
  rw [if_neg (by omega), if_neg (by omega), if_neg (by omega), if_pos (by omega)]
  omega

set_option maxRecDepth 100000 in
set_option maxHeartbeats 1000000 in
theorem jneed_walk (a b : Int) (w : World) : Calls Try.prog 8 #[.int .i64 a, .int .i64 b] w fun e w' => e = .returned (.bool true) ∧ Fr [] w w' := by
  obtain ⟨m1, h1, e1⟩ := and_mask a 1048575 (by omega)
  obtain ⟨m2, h2, e2⟩ := and_mask b 1048575 (by omega)
  have e1' : bits .and .i64 a 1048575 = (m1 : Int) := e1
  have e2' : bits .and .i64 b 1048575 = (m2 : Int) := e2
  clear e1 e2
  obtain ⟨p, q, r, n1, n2, n3, f1, f2, f3, f4, f5, f6, f7, n4⟩ := need_facts m1 m2
  have N1 := Lib.hid n1; have N2 := Lib.hid n2; have N3 := Lib.hid n3; have N4 := Lib.hid n4
  clear n1 n2 n3 n4
  go_enter Try.func8, Try.ntmps8
  go_wp2_with fail
  refine (awake07 w).mono ?_
  rintro e w1 ⟨rfl, hf1⟩
  have HF1 := Lib.hid hf1; clear hf1
  go_wp2_with fail
  refine (need_any _ _ (by omega) (by omega)).mono ?_
  rintro e w2 ⟨rfl, rfl⟩
  rw [N1.out]
  go_wp2_with fail
  refine (need_any _ _ (by omega) (by omega)).mono ?_
  rintro e w2 ⟨rfl, rfl⟩
  rw [N2.out]
  go_wp2_with fail
  refine (need_any _ _ (by omega) (by omega)).mono ?_
  rintro e w2 ⟨rfl, rfl⟩
  rw [N3.out]
  have fin : Hid (∀ s : Int, p + q - r = s → (s = 0 ∨ s = 1)) := Lib.hid (fun s hs => by omega)
  rcases f4 with f4 | f4
  all_goals
    go_wp2_with fail
    refine (need_any _ _ (by omega) (by omega)).mono ?_
    rintro e w2 ⟨rfl, rfl⟩
    rw [N1.out]
    go_wp2_with fail
    refine (need_any _ _ (by omega) (by omega)).mono ?_
    rintro e w2 ⟨rfl, rfl⟩
    rw [N1.out]
    go_wp2_with fail
    refine (need_any _ _ (by omega) (by omega)).mono ?_
    rintro e w2 ⟨rfl, rfl⟩
    rw [N1.out]
    go_wp2_with fail
    refine (need_any _ _ (by omega) (by omega)).mono ?_
    rintro e w2 ⟨rfl, rfl⟩
    rw [N4.out]
    go_wp2
    go_ret
    exact ⟨rfl, HF1.out⟩

end Go.Proofs.Ytbgcbikgjedkkaa
