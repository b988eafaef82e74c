/-
  The walk of JournalLong: for all inputs it answers true and leaves old memory alone.
-/
import Derived.Test.YtbgcbikgjedkkaaJr
import Derived.Test.YtbgcbikgjedkkaaJo
import Derived.Test.YtbgcbikgjedkkaaBits
namespace Go.Proofs.Ytbgcbikgjedkkaa
open Go.RowKit

theorem long_facts (b : List UInt8) (hb : b.length ≤ 2047) : ∃ (l0 l1 l2 : LG) (D1 : DM), openL (DM.new 64) 3 60 = l0 ∧ (newestOf ((DM.new 64).part 3 60)).1 < 4294967295 ∧ l0.ok (DM.new 64) ∧ appendE (DM.new 64) l0 b = 0 ∧
    appendL (DM.new 64) l0 b = l1 ∧ l1.n = 60 ∧ l1.at_ = needOf b.length ∧ appendD (DM.new 64) l0 b = D1 ∧ D1.dead = false ∧ D1.S.length = 64 ∧ (newestOf (D1.part 3 60)).1 < 4294967295 ∧
    (openR D1 3 60).map (·.2) = [b] ∧ openL D1 3 60 = l2 ∧ l2.n = 60 ∧ l2.at_ = needOf b.length := by
  have hS0 := St.new 3 60 64 (by omega)
  obtain ⟨r0, l0, n0⟩ := open_zero (n := 60) hS0 (by simp) (rep_zero 60)
  have hm : needOf b.length ≤ 43 := need_le (by omega) (by omega)
  have hF : Fits 1 1 b := ⟨by omega, by omega, by omega⟩
  obtain ⟨e1, s1, l1, _, _⟩ := append_whole (A := []) (B := List.replicate 60 zsec) (l := ⟨3, 60, 0, 1, 1, false⟩) (b := b) hS0 ⟨rfl, by simp, rfl, rfl⟩ (by simp; omega) (by omega) (.inl rfl)
  rw [List.nil_append] at s1
  have hlen : (secsP 1 1 b ++ (List.replicate 60 zsec).drop (needOf b.length)).length = 60 := by simp [secsP_len]; omega
  have hz : ∀ s ∈ (List.replicate 60 zsec).drop (needOf b.length), s = zsec := fun s hs => rep_zero 60 s (List.mem_of_mem_drop hs)
  obtain ⟨r2, a2, _⟩ := open_one s1 hlen hF (zero_none hz)
  have hfit := openL_ok (D := DM.new 64) (f := 3) (n := 60) (by decide) (by rw [n0]; omega)
  rw [l0] at hfit
  refine ⟨_, _, _, _, l0, by rw [n0]; omega, hfit, e1, l1, rfl, ?_, rfl, s1.dead, ?_, ?_, by rw [r2]; rfl, rfl, rfl, a2⟩
  · simp
  · have hx := layJ_S (sectorsOf 1 1 b) (DM.new 64) 3
    unfold appendD
    simp only [Bool.false_eq_true, if_false]
    split
    · decide
    · split
      · decide
      · exact hx
  · rw [s1.view hlen]
    exact Nat.lt_of_le_of_lt (newest_le ((SesLe.secs hF (Nat.le_refl 1)).append (SesLe.zero hz 1))) (by omega)

set_option maxRecDepth 100000 in
set_option maxHeartbeats 1000000 in
theorem jlong_walk (n : Int) (c : UInt8) (w : World) : Calls Try.prog 7 #[.int .i64 n, B8 c] w fun e w' => e = .returned (.bool true) ∧ Fr [] w w' := by
  obtain ⟨k, hk, e1⟩ := and_mask n 2047 (by omega)
  have e1' : bits .and .i64 n 2047 = (k : Int) := e1
  clear e1
  obtain ⟨l0, l1, l2, D1, f1, f2, f3, f4, f5, f6, f7, f13, f8, f9, f10, f11, f14, f15, f12⟩ := long_facts (runB k c) (by rw [runB_len]; exact hk)
  have F1 := Lib.hid f1; have F2 := Lib.hid f2; have F3 := Lib.hid f3; have F4 := Lib.hid f4; have F5 := Lib.hid f5; have F6 := Lib.hid f6; have F7 := Lib.hid f7; have F8 := Lib.hid f8; have F9 := Lib.hid f9; have F10 := Lib.hid f10; have F11 := Lib.hid f11; have F12 := Lib.hid f12; have F13 := Lib.hid f13; have F14 := Lib.hid f14; have F15 := Lib.hid f15
  clear f1 f2 f3 f4 f5 f6 f7 f8 f9 f10 f11 f12 f13 f14 f15
  have hnd : needOf k ≤ 43 := need_le (by omega) (by omega)
  unfold B8
  go_enter Try.func7, Try.ntmps7
  go_wp2_with fail
  refine (awake07 w).mono ?_
  rintro e w1 ⟨rfl, hf1⟩
  have HF1 := Lib.hid hf1; clear hf1
  go_wp2_with fail
  refine (new_X (X := fun _ => False) w w1 64 (by omega) (by omega) HF1.out (by simp)).mono ?_
  rintro e w2 ⟨d, rfl, hd2, _⟩
  have HD2 := Lib.hid hd2; clear hd2
  go_wp2_with fail
  refine (open_X (f := 3) (n := 60) HD2.out rfl (by omega) (by decide) F2.out).mono ?_
  rintro e w3 ⟨out, rfl, hd3, hr3, hb3, hf3⟩
  rw [F1.out] at hb3
  have hz3 := hb3.lt
  have HD3 := Lib.hid hd3; have HB3 := Lib.hid hb3; have HZ2 := Lib.hid HD2.out.frame.size; clear hd3 hb3 hf3 hr3 HD2
  go_wp2_with fail
  refine (bytes07 w3 k (by omega) c).mono ?_
  rintro e w4 ⟨rfl, hb4, hf4⟩
  have hd4 := HD3.out.fr hf4
  have hl4 := HB3.out.fr hf4 (by simp)
  have hz4 := hb4.lt
  have hv4 : BytesAt w4 (.slice (some ⟨w3.heap.size, 0, none⟩) k k) (runB k c) w3.heap.size := by
    have := BytesAt.of_blk hb4 k (by rw [runB_len]; exact Nat.le_refl _)
    rw [runB_len] at this
    exact this
  have HD4 := Lib.hid hd4; have HL4 := Lib.hid hl4; have HV4 := Lib.hid hv4; clear hd4 hl4 hv4 hb4 hf4 HD3 HB3
  go_wp2_with fail
  refine (append_X (lg := w2.heap.size) (gb := w3.heap.size) HD4.out HL4.out (by left; right; omega) HZ2.out F3.out HV4.out (by right; omega) (by rw [runB_len]; omega) (by decide)).mono ?_
  rintro e w5 ⟨rfl, hd5, hb5, hok5, hk5⟩
  rw [F4.out]
  rw [F5.out] at hb5
  rw [F13.out] at hd5
  have hv5 := hk5.bytes HV4.out ⟨.inr (by omega), by omega⟩
  have hz5 := hb5.lt
  have HD5 := Lib.hid hd5; have HB5 := Lib.hid hb5; have HV5 := Lib.hid hv5; clear hd5 hb5 hv5 hok5 hk5 HD4 HL4 HV4
  go_wp2_with fail
  refine (open_X (f := 3) (n := 60) HD5.out F8.out (by omega) (by rw [F9.out]; omega) F10.out).mono ?_
  rintro e w6 ⟨out6, rfl, hd6, ⟨vs, hr6⟩, hb6, hf6⟩
  rw [F11.out] at hr6
  rw [F14.out] at hb6
  have hl6 := HB5.out.fr hf6 (by simp)
  have hv6 := HV5.out.fr hf6 (by simp)
  obtain ⟨g, A0, c0, x0, y0, rfl, hc0, m0, b0⟩ := hr6.bytes (j := 0) rfl
  have HF6 := Lib.hid hd6.frame; have HB6 := Lib.hid hb6; have HL6 := Lib.hid hl6
  clear hr6 hd6 hf6 hb6 hl6 HD5 HB5 HV5
  simp only [List.length_cons, List.length_nil] at m0 b0 hc0
  rw [runB_len] at m0 b0
  go_wp2_with fail
  refine (need_any _ _ (by omega) (by omega)).mono ?_
  rintro e w7 ⟨rfl, rfl⟩
  rw [needI_nat]
  have k1 := fun nq : Nat => run_string_of (P := Try.prog) (dst := 9) Try.underlying22 Try.underlying5 Try.underlying9 (b0.fr ((Fr.refl [] w6).drewN nq) (by simp))
  have k2 := fun nq : Nat => run_string_of (P := Try.prog) (dst := 9) Try.underlying22 Try.underlying5 Try.underlying9 (hv6.fr ((Fr.refl [] w6).drewN nq) (by simp))
  clear b0 hv6
  have F7' : l1.at_ = needOf k := by rw [F7.out, runB_len]
  have F12' : l2.at_ = needOf k := by rw [F12.out, runB_len]
  have r1 : Hid (∀ nq, Calls Try.prog 36 #[.pointer (some ⟨w2.heap.size, 0, none⟩)] (w6.drewN nq) fun e w'' => e = .returned (.int .i64 (60 - (needOf k : Int))) ∧ ∃ m, w'' = w6.drewN m) := Lib.hid fun nq => Calls.quiet_of (by
    have h := room_at (HL6.out.drewN nq) (by rw [F6.out]; omega) (by rw [F6.out, F7']; omega)
    rw [F6.out, F7', show ((60 - needOf k : Nat) : Int) = 60 - (needOf k : Int) by omega] at h
    exact h)
  have r2 : Hid (∀ nq, Calls Try.prog 36 #[.pointer (some ⟨w5.heap.size, 0, none⟩)] (w6.drewN nq) fun e w'' => e = .returned (.int .i64 (60 - (needOf k : Int))) ∧ ∃ m, w'' = w6.drewN m) := Lib.hid fun nq => Calls.quiet_of (by
    have h := room_at (HB6.out.drewN nq) (by rw [F15.out]; omega) (by rw [F15.out, F12']; omega)
    rw [F15.out, F12', show ((60 - needOf k : Nat) : Int) = 60 - (needOf k : Int) by omega] at h
    exact h)
  have r3 : Hid (∀ nq, Calls Try.prog 35 #[.int .i64 (k : Int)] (w6.drewN nq) fun e w'' => e = .returned (.int .i64 (needOf k : Int)) ∧ ∃ m, w'' = w6.drewN m) := Lib.hid fun nq => Calls.quiet_of_same (by
    have h := need_any (w6.drewN nq) (k : Int) (by omega) (by omega)
    rw [needI_nat] at h
    exact h.mono fun e w' ⟨h1, h2⟩ => ⟨h1, h2.symm⟩)
  clear F7' F12'
  go_wp2_with fail
  go_quiet (first | with_reducible exact r1.out _ | with_reducible exact r2.out _ | with_reducible exact r3.out _)
  go_wp2
  go_ret
  exact ⟨rfl, HF6.out.drewN _⟩

end Go.Proofs.Ytbgcbikgjedkkaa
