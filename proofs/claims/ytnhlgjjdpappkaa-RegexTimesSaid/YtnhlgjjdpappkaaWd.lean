/-
  The walk of RegexTimes.
-/
import Derived.Test.YtnhlgjjdpappkaaVa
import Derived.Test.YtnhlgjjdpappkaaBits
namespace Go.Proofs.Ytnhlgjjdpappkaa
open Go.RowKit

def sDig : ByteArray := { data := #[48, 49, 50, 51, 52, 53, 54, 55, 56, 57] }
theorem dig_low : ∀ n : Fin 31, n.val < 10 → strBytes (sDig.extract n.val (n.val + 1)) = digL n.val := by decide +kernel
theorem dig_high : ∀ n : Fin 31, 10 ≤ n.val → strBytes (sDig.extract (n.val / 10) (n.val / 10 + 1) ++ sDig.extract (n.val % 10) (n.val % 10 + 1)) = digL n.val := by decide +kernel
theorem digL_len (n : Nat) : (digL n).length ≤ 2 := by unfold digL; split <;> simp
theorem digits_any {w : World} (n : Nat) (hn : n < 31) : Calls Try.prog 13 #[.int .i64 (n : Int)] w fun e w' => ∃ s, strBytes s = digL n ∧ s.size ≤ 2 ∧ e = .returned (.string s) ∧ Fr [] w w' := by
  refine calls_post fun R HQ => ?_
  by_cases h : n < 10
  · have HE := Lib.hid (dig_low ⟨n, hn⟩ h)
    go_enter Try.func13, Try.ntmps13
    go_wp2_with fail
    refine HQ.out _ _ ⟨_, HE.out, ?_, rfl, Fr.refl _ _⟩
    rw [size_bytes HE.out]; exact digL_len n
  · have HE := Lib.hid (dig_high ⟨n, hn⟩ (by simp; omega))
    go_enter Try.func13, Try.ntmps13
    go_wp2_with fail
    go_quiet (fail)
    go_wp2_with fail
    refine HQ.out _ _ ⟨_, HE.out, ?_, rfl, (Fr.refl _ _).drewN _⟩
    rw [size_bytes HE.out]; exact digL_len n

theorem xs_more (k : Nat) : xs k ++ { data := #[120] } = xs (k + 1) := by
  apply ByteArray.ext
  rw [ByteArray.data_append]
  apply Array.ext'
  simp [xs, List.replicate_succ']
theorem xs_size (k : Nat) : (xs k).size = k := by simp [xs, ByteArray.size]
theorem xs_zero : xs 0 = { data := #[] } := rfl
set_option maxRecDepth 100000 in
theorem times_walk (n m k : Int) (w : World) : Calls Try.prog 4 #[.int .i64 n, .int .i64 m, .int .i64 k] w fun e w' => e = .returned (.bool true) ∧ Fr [] w w' := by
  refine calls_post fun R HQ => ?_
  obtain ⟨a, ha, han⟩ := and_mask n 15 (by omega)
  obtain ⟨d, hd, hdn⟩ := and_mask m 15 (by omega)
  obtain ⟨c, hc, hcn⟩ := and_mask k 63 (by omega)
  have han' : bits .and .i64 n 15 = (a : Int) := han
  have hdn' : bits .and .i64 m 15 = (d : Int) := hdn
  have hcn' : bits .and .i64 k 63 = (c : Int) := hcn
  clear han hdn hcn
  go_enter Try.func4, Try.ntmps4
  go_wp2_with fail
  refine (awake14 w).mono ?_
  rintro e w1 ⟨rfl, hf1⟩
  have HF1 := Lib.hid hf1
  clear hf1
  go_wp2_with fail
  clear han' hdn' hcn'
  go_loop [11, 12] (fun t v => ∃ i : Nat, i ≤ c ∧ v = .int .i64 (i : Int) ∧ t = .string (xs i)) (fun _ v => c - (intOf v).toNat)
  case atStart => exact ⟨0, Nat.zero_le _, rfl, rfl⟩
  case round =>
    obtain ⟨i, hi, rfl, rfl⟩ := hrel
    have hm := xs_more i
    have hz := xs_size i
    by_cases hic : i < c
    · go_wp2_with fail
      go_round
      case rel => exact ⟨i + 1, by omega, by go_num, rfl⟩
      case measure => simp [intOf]; omega
    · obtain rfl : i = c := by omega
      have ht := xs_size i
      clear hm hz
      have hb : ∃ b, b = a + d := ⟨_, rfl⟩
      obtain ⟨b, hb⟩ := hb
      have hbi : (a : Int) + (d : Int) = (b : Int) := by omega
      have hbr : a ≤ b ∧ b < a + 16 := by omega
      clear hb
      go_wp2_with fail
      refine (digits_any a (by omega)).mono ?_
      rintro e w2 ⟨x, hx, hxs, rfl, hf2⟩
      have HF2 := Lib.hid (HF1.out.trans hf2 (by simp)); have HX := Lib.hid hx
      clear hf2 hx
      go_wp2_with fail
      clear hbi
      refine (digits_any b (by omega)).mono ?_
      rintro e w3 ⟨y, hy, hys, rfl, hf3⟩
      have HF3 := Lib.hid (HF2.out.trans hf3 (by simp)); have HY := Lib.hid hy
      clear hf3 hy
      have P1 : Hid (strBytes ({ data := #[120, 123] } ++ x ++ { data := #[125] }) = [120, 123] ++ digL a ++ [125]) := Lib.hid (by rw [strBytes_app, strBytes_app, HX.out]; rfl)
      have P2 : Hid (strBytes ({ data := #[120, 123] } ++ x ++ { data := #[44] } ++ y ++ { data := #[125] }) = [120, 123] ++ digL a ++ [44] ++ digL b ++ [125]) := Lib.hid (by rw [strBytes_app, strBytes_app, strBytes_app, strBytes_app, HX.out, HY.out]; rfl)
      have P3 : Hid (strBytes ({ data := #[120, 123] } ++ x ++ { data := #[44, 125] }) = [120, 123] ++ digL a ++ [44, 125]) := Lib.hid (by rw [strBytes_app, strBytes_app, HX.out]; rfl)
      obtain ⟨e1, he1⟩ : ∃ e1 : Bool, ((i : Int) == (a : Int)) = e1 := ⟨_, rfl⟩
      obtain ⟨e2, he2⟩ : ∃ e2 : Bool, decide (a ≤ i) = e2 := ⟨_, rfl⟩
      obtain ⟨e3, he3⟩ : ∃ e3 : Bool, decide (i ≤ b) = e3 := ⟨_, rfl⟩
      obtain ⟨e4, he4⟩ : ∃ e4 : Bool, decide (0 < i) = e4 := ⟨_, rfl⟩
      obtain ⟨e5, he5⟩ : ∃ e5 : Bool, decide ((i : Int) < 2) = e5 := ⟨_, rfl⟩
      have M1 : Hid (matchB ({ data := #[120, 123] } ++ x ++ { data := #[125] }) (xs i) = e1) := Lib.hid (by rw [match_eq i (by omega) P1.out, ← he1, Bool.eq_iff_iff]; simp; omega)
      have M2 : Hid (matchB ({ data := #[120, 123] } ++ x ++ { data := #[44] } ++ y ++ { data := #[125] }) (xs i) = (e2 && e3)) := Lib.hid (by rw [match_two i (by omega) hbr P2.out, ← he2, ← he3, Bool.eq_iff_iff]; simp)
      have M3 : Hid (matchB ({ data := #[120, 123] } ++ x ++ { data := #[44, 125] }) (xs i) = e2) := Lib.hid (by rw [match_many i (by omega) P3.out, ← he2])
      have M4 : Hid (matchB { data := #[120, 42] } (xs i) = true) := Lib.hid (match_star i rfl)
      have M5 : Hid (matchB { data := #[120, 43] } (xs i) = e4) := Lib.hid (by rw [match_plus i rfl, he4])
      have M6 : Hid (matchB { data := #[120, 63] } (xs i) = e5) := Lib.hid (by rw [match_maybe i rfl, ← he5, Bool.eq_iff_iff]; simp; omega)
      have B1 : ({ data := #[120, 123] } ++ x ++ { data := #[125] } : ByteArray).size ≤ 9223372036854775807 := by rw [size_bytes P1.out]; have := digL_len a; simp; omega
      have B2 : ({ data := #[120, 123] } ++ x ++ { data := #[44] } ++ y ++ { data := #[125] } : ByteArray).size ≤ 9223372036854775807 := by rw [size_bytes P2.out]; have := digL_len a; have := digL_len b; simp; omega
      have B3 : ({ data := #[120, 123] } ++ x ++ { data := #[44, 125] } : ByteArray).size ≤ 9223372036854775807 := by rw [size_bytes P3.out]; have := digL_len a; simp; omega
      have BT : (xs i).size ≤ 1000000 := by omega
      go_wp2_with fail
      refine (match_l _ _ B1 BT).mono ?_
      rintro e w4 ⟨rfl, hf4⟩
      have HF4 := Lib.hid (HF3.out.trans hf4 (by simp))
      clear hf4
      rw [M1.out]
      go_wp2_with fail
      refine (match_l _ _ B2 BT).mono ?_
      rintro e w5 ⟨rfl, hf5⟩
      have HF5 := Lib.hid (HF4.out.trans hf5 (by simp))
      clear hf5
      rw [M2.out]
      cases e2 with
      | false =>
        go_wp2_with fail
        refine (match_l _ _ B3 BT).mono ?_
        rintro e w6 ⟨rfl, hf6⟩
        have HF6 := Lib.hid (HF5.out.trans hf6 (by simp))
        clear hf6
        rw [M3.out]
        go_wp2_with fail
        refine (match_l _ _ (by decide) BT).mono ?_
        rintro e w7 ⟨rfl, hf7⟩
        have HF7 := Lib.hid (HF6.out.trans hf7 (by simp))
        clear hf7
        rw [M4.out]
        go_wp2_with fail
        refine (match_l _ _ (by decide) BT).mono ?_
        rintro e w8 ⟨rfl, hf8⟩
        have HF8 := Lib.hid (HF7.out.trans hf8 (by simp))
        clear hf8
        rw [M5.out]
        go_wp2_with fail
        refine (match_l _ _ (by decide) BT).mono ?_
        rintro e w9 ⟨rfl, hf9⟩
        have HF9 := Lib.hid (HF8.out.trans hf9 (by simp))
        clear hf9
        rw [M6.out]
        go_wp2_with fail
        exact HQ.out _ _ ⟨rfl, HF9.out⟩
      | true =>
        go_wp2_with fail
        refine (match_l _ _ B3 BT).mono ?_
        rintro e w6 ⟨rfl, hf6⟩
        have HF6 := Lib.hid (HF5.out.trans hf6 (by simp))
        clear hf6
        rw [M3.out]
        go_wp2_with fail
        refine (match_l _ _ (by decide) BT).mono ?_
        rintro e w7 ⟨rfl, hf7⟩
        have HF7 := Lib.hid (HF6.out.trans hf7 (by simp))
        clear hf7
        rw [M4.out]
        go_wp2_with fail
        refine (match_l _ _ (by decide) BT).mono ?_
        rintro e w8 ⟨rfl, hf8⟩
        have HF8 := Lib.hid (HF7.out.trans hf8 (by simp))
        clear hf8
        rw [M5.out]
        go_wp2_with fail
        refine (match_l _ _ (by decide) BT).mono ?_
        rintro e w9 ⟨rfl, hf9⟩
        have HF9 := Lib.hid (HF8.out.trans hf9 (by simp))
        clear hf9
        rw [M6.out]
        go_wp2_with fail
        exact HQ.out _ _ ⟨rfl, HF9.out⟩

end Go.Proofs.Ytnhlgjjdpappkaa
