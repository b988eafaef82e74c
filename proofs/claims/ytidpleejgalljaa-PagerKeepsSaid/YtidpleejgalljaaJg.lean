/-
  The contracts of journal's Need, Room and Reset.
-/
import Derived.Test.YtidpleejgalljaaJf
namespace Go.Proofs.Ytidpleejgalljaa
open Go.RowKit

set_option maxRecDepth 100000 in
set_option maxHeartbeats 400000 in
theorem need_any (w : World) (n : Int) (h1 : -9223372036854775808 ≤ n) (h2 : n ≤ 9223372036854775807) :
    Calls Try.prog 49 #[.int .i64 n] w fun e w' => e = .returned (.int .i64 (needI n)) ∧ w = w' := by
  unfold needI
  by_cases h : n ≤ 0
  · rw [if_pos h]
    go_enter Try.func49, Try.ntmps49
    go_wp2
    go_ret
    exact ⟨rfl, rfl⟩
  · rw [if_neg h]
    have hd : Int.tdiv (n - 1) 48 = (n - 1) / 48 := Int.tdiv_eq_ediv_of_nonneg (by omega)
    go_enter Try.func49, Try.ntmps49
    go_wp2
    go_ret
    exact ⟨rfl, rfl⟩

set_option maxRecDepth 100000 in
set_option maxHeartbeats 400000 in
theorem room_at {w : World} {lg d f n at_ num ses : Nat} {br : Bool} (hb : Blk w lg 77 (logCells d f n at_ num ses br)) (hn : n ≤ 65536) (ha : at_ ≤ n) :
    Calls Try.prog 50 #[.pointer (some ⟨lg, 0, none⟩)] w fun e w' => e = .returned (.int .i64 ((n - at_ : Nat) : Int)) ∧ ∃ m, w' = w.drewN m := by
  have c2 := hb.at_ (i := 2) rfl
  have c3 := hb.at_ (i := 3) rfl
  clear hb
  go_enter Try.func50, Try.ntmps50
  go_wp2
  go_quiet (fail)
  go_wp2
  go_ret
  refine ⟨?_, _, rfl⟩
  show Ending.returned (.int .i64 ((n : Int) - (at_ : Int))) = _
  rw [show (n : Int) - (at_ : Int) = ((n - at_ : Nat) : Int) by omega]

set_option maxRecDepth 100000 in
set_option maxHeartbeats 400000 in
theorem room_nil (w : World) : Calls Try.prog 50 #[.pointer none] w fun e w' => e = .returned (.int .i64 0) ∧ w = w' := by
  go_enter Try.func50, Try.ntmps50
  go_wp2
  go_ret
  exact ⟨rfl, rfl⟩
set_option maxRecDepth 100000 in
set_option maxHeartbeats 400000 in
theorem reset_nil (w : World) : Calls Try.prog 45 #[.pointer none] w fun e w' => e = .returned (.tuple #[]) ∧ w = w' := by
  go_enter Try.func45, Try.ntmps45
  go_wp2
  go_end0
  exact ⟨rfl, rfl⟩
set_option maxRecDepth 100000 in
set_option maxHeartbeats 400000 in
theorem reset_at {w : World} {lg d f n at_ num ses : Nat} {br : Bool} (hb : Blk w lg 77 (logCells d f n at_ num ses br)) :
    Calls Try.prog 45 #[.pointer (some ⟨lg, 0, none⟩)] w fun e w' => e = .returned (.tuple #[]) ∧ Blk w' lg 77 (logCells d f n 0 num ses br) ∧ Fr [lg] w w' := by
  have c3 := hb.at_ (i := 3) rfl
  have cf := hb.free
  have HB := Lib.hid hb
  clear hb
  go_enter Try.func45, Try.ntmps45
  go_wp2
  go_end0
  exact ⟨rfl, HB.out.set_ 3 _, (Fr.refl _ _).setCell (.inl (by simp)) _⟩

end Go.Proofs.Ytidpleejgalljaa
