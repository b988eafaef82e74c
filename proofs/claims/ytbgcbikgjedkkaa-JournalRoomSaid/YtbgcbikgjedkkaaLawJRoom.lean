/-
  The walk of JournalRoom: for all inputs it answers true and leaves old memory alone.
-/
import Derived.Test.YtbgcbikgjedkkaaJs
import Derived.Test.YtbgcbikgjedkkaaJo
import Derived.Test.YtbgcbikgjedkkaaBits
namespace Go.Proofs.Ytbgcbikgjedkkaa
open Go.RowKit

structure RoomFacts (x y : List UInt8) (size : Nat) (l0 l1 l2 : LG) (D1 D2 : DM) (E1 E2 : Int) (R : List (List UInt8)) : Prop where
  a1 : openL (DM.new 32) 0 size = l0
  a2 : (newestOf ((DM.new 32).part 0 size)).1 < 4294967295
  a3 : l0.ok (DM.new 32)
  a4 : appendE (DM.new 32) l0 x = E1
  a5 : appendD (DM.new 32) l0 x = D1
  a6 : appendL (DM.new 32) l0 x = l1
  a7 : E1 = if needOf x.length ≤ size then 0 else 5
  a8 : ¬ needOf x.length ≤ size → D1.done = 0
  a9 : l1.n = size
  a10 : l1.at_ = if needOf x.length ≤ size then needOf x.length else 0
  a11 : { l1 with at_ := 0 } = l2
  a12 : l2.ok D1
  a13 : D1.done + 65536 < 1099511627776
  a14 : appendE D1 l2 y = E2
  a15 : appendD D1 l2 y = D2
  a16 : E2 = if needOf y.length ≤ size then 0 else 5
  a17 : D2.dead = false
  a18 : D2.S.length = 32
  a19 : (newestOf (D2.part 0 size)).1 < 4294967295
  a20 : (openR D2 0 size).map (·.2) = R
  a21 : R = if needOf y.length ≤ size then [y] else if needOf x.length ≤ size then [x] else []

theorem room_facts (x y : List UInt8) (size : Nat) (h1 : 1 ≤ size) (h2 : size ≤ 32) (hx : x.length ≤ 511) (hy : y.length ≤ 511) : ∃ l0 l1 l2 D1 D2 E1 E2 R, RoomFacts x y size l0 l1 l2 D1 D2 E1 E2 R := by
  have hS0 := St.new 0 size 32 (by omega)
  have hZ := rep_zero size
  obtain ⟨r0, l0, n0⟩ := open_zero (n := size) hS0 (by simp) hZ
  have hmx : needOf x.length ≤ 11 := need_le (by omega) (by omega)
  have hmy : needOf y.length ≤ 11 := need_le (by omega) (by omega)
  have hpy := need_pos y.length
  have hFx : Fits 1 1 x := ⟨by omega, by omega, by omega⟩
  have hFy1 : Fits 1 1 y := ⟨by omega, by omega, by omega⟩
  have hFy2 : Fits 1 2 y := ⟨by omega, by omega, by omega⟩
  have hlen32 : (DM.new 32).S.length = 32 := by decide
  have hok0 := openL_ok (D := DM.new 32) (f := 0) (n := size) (by rw [hlen32]; omega) (by rw [n0]; omega)
  rw [l0] at hok0
  have hlen : (List.replicate size zsec).length = size := by simp
  by_cases hfx : needOf x.length ≤ size
  · obtain ⟨e1, s1, q1, hlim1, dn1⟩ := append_whole (A := []) (B := List.replicate size zsec) (l := ⟨0, size, 0, 1, 1, false⟩) (b := x) hS0 ⟨rfl, by simp, rfl, rfl⟩ (by rw [hlen]; exact hfx) (by omega) (.inl rfl)
    rw [List.nil_append] at s1
    have hV : (secsP 1 1 x ++ (List.replicate size zsec).drop (needOf x.length)).length = size := by simp [secsP_len]; omega
    have hT := torn_all (L := List.replicate size zsec) (b := x) 1 1 (by rw [hlen]; exact hfx)
    have hNH := (NoHead.zero hZ).torn hFx hT
    have hSL := (SesLe.zero hZ 1).torn hFx hT (Nat.le_refl 1)
    have s1' : St (appendD (DM.new 32) ⟨0, size, 0, 1, 1, false⟩ x) 0 (secsP 1 1 x ++ (List.replicate size zsec).drop (needOf x.length)) := s1
    have hDl := appendS_len (DM.new 32) ⟨0, size, 0, 1, 1, false⟩ x
    rw [hlen32] at hDl
    generalize hVV : secsP 1 1 x ++ (List.replicate size zsec).drop (needOf x.length) = V at *
    by_cases hfy : needOf y.length ≤ size
    · obtain ⟨e2, s2, q2, _, _⟩ := append_whole (A := []) (B := V) (l := ⟨0, size, 0, 2, 1, false⟩) (b := y) s1' ⟨rfl, by simp [hV], rfl, rfl⟩ (by rw [hV]; exact hfy) (by omega) (.inl (by rw [hlim1]; rfl))
      rw [List.nil_append] at s2
      have hV2 : (secsP 1 2 y ++ V.drop (needOf y.length)).length = size := by simp [secsP_len, hV]; omega
      obtain ⟨r2, _, _⟩ := open_one s2 hV2 hFy2 (hNH.drop hpy)
      refine ⟨_, _, ⟨0, size, 0, 2, 1, false⟩, _, _, _, _, _, ⟨l0, by rw [n0]; omega, hok0, rfl, rfl, q1, by rw [e1, if_pos hfx], fun h => absurd hfx h, rfl, by rw [if_pos hfx]; simp, rfl, ⟨Nat.zero_le _, by rw [hDl]; show 0 + size ≤ 32; omega, by show (1 + 1) % 4294967296 < _; decide, by show 1 < _; decide⟩, by rw [dn1]; show 0 + _ + 1 + _ < _; omega, rfl, rfl, by rw [if_pos hfy]; exact e2, s2.dead, by rw [appendS_len]; exact hDl, ?_, rfl, by rw [if_pos hfy]; show (openR _ 0 size).map _ = _; rw [show openR _ 0 size = _ from r2]; rfl⟩⟩
      rw [s2.view hV2]
      exact Nat.lt_of_le_of_lt (newest_le ((SesLe.secs hFy2 (Nat.le_refl 1)).append (hSL.drop _))) (by omega)
    · obtain ⟨e2, q2, q3⟩ := append_full (D := appendD (DM.new 32) ⟨0, size, 0, 1, 1, false⟩ x) (A := []) (B := V) (f := 0) (l := ⟨0, size, 0, 2, 1, false⟩) (b := y) ⟨rfl, by simp [hV], rfl, rfl⟩ (by simp [hV]; omega) (by rw [hV]; omega) (by omega)
      have hzz : ∀ s ∈ (List.replicate size zsec).drop (needOf x.length), s = zsec := fun s hs => hZ s (List.mem_of_mem_drop hs)
      rw [← hVV] at s1' hV
      obtain ⟨r2, _, _⟩ := open_one s1' hV hFx (zero_none hzz)
      refine ⟨_, _, ⟨0, size, 0, 2, 1, false⟩, _, _, _, _, _, ⟨l0, by rw [n0]; omega, hok0, rfl, rfl, q1, by rw [e1, if_pos hfx], fun h => absurd hfx h, rfl, by rw [if_pos hfx]; simp, rfl, ⟨Nat.zero_le _, by rw [hDl]; show 0 + size ≤ 32; omega, by show (1 + 1) % 4294967296 < _; decide, by show 1 < _; decide⟩, by rw [dn1]; show 0 + _ + 1 + _ < _; omega, rfl, q2, by rw [if_neg hfy]; exact e2, s1'.dead, hDl, ?_, rfl, by rw [if_neg hfy, if_pos hfx, r2]; rfl⟩⟩
      rw [s1'.view hV, hVV]
      exact Nat.lt_of_le_of_lt (newest_le hSL) (by omega)
  · obtain ⟨e1, q1, q1'⟩ := append_full (D := DM.new 32) (A := []) (B := List.replicate size zsec) (f := 0) (l := ⟨0, size, 0, 1, 1, false⟩) (b := x) ⟨rfl, by simp, rfl, rfl⟩ (by simp; omega) (by rw [hlen]; omega) (by omega)
    by_cases hfy : needOf y.length ≤ size
    · obtain ⟨e2, s2, q2, _, _⟩ := append_whole (A := []) (B := List.replicate size zsec) (l := ⟨0, size, 0, 1, 1, false⟩) (b := y) hS0 ⟨rfl, by simp, rfl, rfl⟩ (by rw [hlen]; exact hfy) (by omega) (.inl rfl)
      rw [List.nil_append] at s2
      have hV2 : (secsP 1 1 y ++ (List.replicate size zsec).drop (needOf y.length)).length = size := by simp [secsP_len]; omega
      have hzz : ∀ s ∈ (List.replicate size zsec).drop (needOf y.length), s = zsec := fun s hs => hZ s (List.mem_of_mem_drop hs)
      obtain ⟨r2, _, _⟩ := open_one s2 hV2 hFy1 (zero_none hzz)
      refine ⟨_, _, ⟨0, size, 0, 1, 1, false⟩, _, _, _, _, _, ⟨l0, by rw [n0]; omega, hok0, rfl, q1, q1', by rw [e1, if_neg hfx], fun _ => rfl, rfl, by rw [if_neg hfx], rfl, hok0, by decide, rfl, rfl, by rw [if_pos hfy]; exact e2, s2.dead, by rw [appendS_len]; exact hlen32, ?_, rfl, by rw [if_pos hfy]; show (openR _ 0 size).map _ = _; rw [show openR _ 0 size = _ from r2]; rfl⟩⟩
      rw [s2.view hV2]
      exact Nat.lt_of_le_of_lt (newest_le ((SesLe.secs hFy1 (Nat.le_refl 1)).append (SesLe.zero hzz 1))) (by omega)
    · obtain ⟨e2, q2, q3⟩ := append_full (D := DM.new 32) (A := []) (B := List.replicate size zsec) (f := 0) (l := ⟨0, size, 0, 1, 1, false⟩) (b := y) ⟨rfl, by simp, rfl, rfl⟩ (by simp; omega) (by rw [hlen]; omega) (by omega)
      exact ⟨_, _, ⟨0, size, 0, 1, 1, false⟩, _, _, _, _, _, ⟨l0, by rw [n0]; omega, hok0, rfl, q1, q1', by rw [e1, if_neg hfx], fun _ => rfl, rfl, by rw [if_neg hfx], rfl, hok0, by decide, rfl, q2, by rw [if_neg hfy]; exact e2, rfl, hlen32, by rw [n0]; omega, rfl, by rw [if_neg hfy, if_neg hfx, r0]; rfl⟩⟩

theorem DkX.reset {w0 w w' : World} {d lg : Nat} {D : DM} {X : Nat → Prop} (h : DkX w0 w d D X) (hf : Fr [lg] w w') (hX : X lg) (hl0 : w0.heap.size ≤ lg) : DkX w0 w' d D X := by
  obtain ⟨fp, h1, h2, h3, h4⟩ := h
  have hz := hf.size
  exact ⟨fp, h1.fr hf (fun k hk hm => by simp at hm; subst hm; exact (h2 _ hk).2 hX), h2, h3.trans hf (fun x hx => .inr (by simp at hx; subst hx; exact hl0)), fun k hk => Nat.lt_of_lt_of_le (h4 k hk) hz⟩

set_option maxRecDepth 100000 in
set_option maxHeartbeats 4000000 in
theorem jroom_walk (a b n : Int) (w : World) : Calls Try.prog 9 #[.int .i64 a, .int .i64 b, .int .i64 n] w fun e w' => e = .returned (.bool true) ∧ Fr [] w w' := by
  obtain ⟨ka, hka, ea⟩ := and_mask a 511 (by omega)
  obtain ⟨kb, hkb, eb⟩ := and_mask b 511 (by omega)
  obtain ⟨kn, hkn, en⟩ := and_mask n 31 (by omega)
  have ea' : bits .and .i64 a 511 = (ka : Int) := ea
  have eb' : bits .and .i64 b 511 = (kb : Int) := eb
  have en' : bits .and .i64 n 31 = (kn : Int) := en
  obtain ⟨size, hsz⟩ : ∃ size : Nat, 1 + (kn : Int) = (size : Int) := ⟨kn + 1, by omega⟩
  have hs1 : 1 ≤ size := by omega
  have hs2 : size ≤ 32 := by omega
  clear ea eb en
  obtain ⟨l0, l1, l2, D1, D2, E1, E2, R, rf⟩ := room_facts (runB ka 120) (runB kb 121) size hs1 hs2 (by rw [runB_len]; exact hka) (by rw [runB_len]; exact hkb)
  have RF := Lib.hid rf; clear rf
  have hna : needOf ka ≤ 11 := need_le (by omega) (by omega)
  have hnb : needOf kb ≤ 11 := need_le (by omega) (by omega)
  go_enter Try.func9, Try.ntmps9
  go_wp2_with fail
  refine (awake07 w).mono ?_
  rintro e w1 ⟨rfl, hf1⟩
  have HF1 := Lib.hid hf1; clear hf1
  go_wp2_with fail
  refine (new_X (X := fun _ => False) w w1 32 (by omega) (by omega) HF1.out (by simp)).mono ?_
  rintro e w2 ⟨d, rfl, hd2, _⟩
  have HD2 := Lib.hid hd2; clear hd2
  go_wp2_with fail
  refine (open_X (f := 0) (n := size) HD2.out rfl hs1 (by show 0 + size ≤ 32; omega) RF.out.a2).mono ?_
  rintro e w3 ⟨out, rfl, hd3, hr3, hb3, hf3⟩
  rw [RF.out.a1] at hb3
  have hz3 := hb3.lt
  have HD3 := Lib.hid hd3; have HB3 := Lib.hid hb3; have HZ2 := Lib.hid HD2.out.frame.size; clear hd3 hb3 hf3 hr3 HD2
  go_wp2_with fail
  refine (bytes07 w3 ka (by omega) 120).mono ?_
  rintro e w4 ⟨rfl, hb4, hf4⟩
  have hd4 := HD3.out.fr hf4
  have hl4 := HB3.out.fr hf4 (by simp)
  have hz4 := hb4.lt
  have hv4 : BytesAt w4 (.slice (some ⟨w3.heap.size, 0, none⟩) ka ka) (runB ka 120) w3.heap.size := by
    have := BytesAt.of_blk hb4 ka (by rw [runB_len]; exact Nat.le_refl _)
    rw [runB_len] at this
    exact this
  have HD4 := Lib.hid hd4; have HL4 := Lib.hid hl4; have HV4 := Lib.hid hv4; clear hd4 hl4 hv4 hb4 hf4 HD3 HB3
  go_wp2_with fail
  refine (bytes07 w4 kb (by omega) 121).mono ?_
  rintro e w5 ⟨rfl, hb5, hf5⟩
  have hd5 := HD4.out.fr hf5
  have hl5 := HL4.out.fr hf5 (by simp)
  have hz5 := hb5.lt
  have hx5 := HV4.out.fr hf5 (by simp)
  have hv5 : BytesAt w5 (.slice (some ⟨w4.heap.size, 0, none⟩) kb kb) (runB kb 121) w4.heap.size := by
    have := BytesAt.of_blk hb5 kb (by rw [runB_len]; exact Nat.le_refl _)
    rw [runB_len] at this
    exact this
  have HD5 := Lib.hid hd5; have HL5 := Lib.hid hl5; have HX5 := Lib.hid hx5; have HY5 := Lib.hid hv5; clear hd5 hl5 hx5 hv5 hb5 hf5 HD4 HL4 HV4
  go_wp2_with fail
  refine (append_X (lg := w2.heap.size) (gb := w3.heap.size) HD5.out HL5.out (by left; left; right; omega) HZ2.out RF.out.a3 HX5.out (by left; right; omega) (by rw [runB_len]; omega) (by decide)).mono ?_
  rintro e w6 ⟨rfl, hd6, hb6, _, hk6⟩
  rw [RF.out.a4]
  rw [RF.out.a5] at hd6
  rw [RF.out.a6] at hb6
  have hx6 := hk6.bytes HX5.out ⟨.inl (.inr (by omega)), by omega⟩
  have hy6 := hk6.bytes HY5.out ⟨.inr (by omega), by omega⟩
  have hz6 := hb6.lt
  have HD6 := Lib.hid hd6; have HL6 := Lib.hid hb6; have HX6 := Lib.hid hx6; have HY6 := Lib.hid hy6; clear hd6 hb6 hx6 hy6 hk6 HD5 HL5 HX5 HY5
  go_wp2_with fail
  refine (need_any _ _ (by omega) (by omega)).mono ?_
  rintro e w7 ⟨rfl, rfl⟩
  rw [needI_nat]
  have e1 := RF.out.a7
  rw [runB_len] at e1
  have e10 := RF.out.a10
  rw [runB_len] at e10
  by_cases hfx : needOf ka ≤ size
  · rw [if_pos hfx] at e1 e10
    rw [e1]
    have E10 := Lib.hid e10
    clear e10
    have hcx : (needOf ka : Int) ≤ (size : Int) := by omega
    clear e1
    go_wp2_with fail
    have hrm := room_at HL6.out (by rw [RF.out.a9]; omega) (by rw [RF.out.a9, E10.out]; exact hfx)
    rw [RF.out.a9, E10.out, show ((size - needOf ka : Nat) : Int) = (size : Int) - (needOf ka : Int) by omega] at hrm
    refine hrm.mono ?_
    rintro e w7 ⟨rfl, m, rfl⟩
    clear hrm E10
    have hd6 := HD6.out.stay ((Fr.refl [] w6).drewN m)
    have hl6 := HL6.out.drewN m
    have hx6 := HX6.out.fr ((Fr.refl [] w6).drewN m) (by simp)
    have hy6 := HY6.out.fr ((Fr.refl [] w6).drewN m) (by simp)
    clear HD6 HL6 HX6 HY6
    have hz6' : (w6.drewN m).heap.size = w6.heap.size := rfl
    generalize w6.drewN m = w6 at *
    have HD6 := Lib.hid hd6; have HL6 := Lib.hid hl6; have HX6 := Lib.hid hx6; have HY6 := Lib.hid hy6
    clear hd6 hl6 hx6 hy6
    go_wp2_with fail
    refine (reset_at HL6.out).mono ?_
    rintro e w7 ⟨rfl, hb7, hf7⟩
    have hb7' : Blk w7 w2.heap.size 84 (l2.cells d) := by rw [← RF.out.a11]; exact hb7
    have hd7 : DkX w w7 d D1 _ := HD6.out.reset hf7 (by left; left; right; omega) HZ2.out
    have hx7 := HX6.out.fr hf7 (by simp; omega)
    have hy7 := HY6.out.fr hf7 (by simp; omega)
    have HD7 := Lib.hid hd7; have HB7 := Lib.hid hb7'; have HX7 := Lib.hid hx7; have HY7 := Lib.hid hy7
    clear hb7 hb7' hd7 hx7 hy7 hf7 HL6 HD6 HX6 HY6
    go_wp2_with fail
    refine (append_X (lg := w2.heap.size) (gb := w4.heap.size) HD7.out HB7.out (by left; left; right; omega) HZ2.out RF.out.a12 HY7.out (by right; omega) (by rw [runB_len]; omega) RF.out.a13).mono ?_
    rintro e w8 ⟨rfl, hd8, hb8, _, hk8⟩
    rw [RF.out.a14]
    rw [RF.out.a15] at hd8
    have hx8 := hk8.bytes HX7.out ⟨.inl (.inr (by omega)), by omega⟩
    have hy8 := hk8.bytes HY7.out ⟨.inr (by omega), by omega⟩
    have HD8 := Lib.hid hd8; have HX8 := Lib.hid hx8; have HY8 := Lib.hid hy8
    clear hd8 hb8 hk8 hx8 hy8 HD7 HB7 HX7 HY7
    go_wp2_with fail
    refine (open_X (f := 0) (n := size) HD8.out RF.out.a17 (by omega) (by rw [RF.out.a18]; omega) RF.out.a19).mono ?_
    rintro e w9 ⟨out9, rfl, hd9, ⟨vs, hr9⟩, _, hf9⟩
    rw [RF.out.a20, RF.out.a21] at hr9
    have hx9 := HX8.out.fr hf9 (by simp)
    have hy9 := HY8.out.fr hf9 (by simp)
    have HF9 := Lib.hid hd9.frame; have HX9 := Lib.hid hx9; have HY9 := Lib.hid hy9; have HR9 := Lib.hid hr9
    clear hd9 hr9 hf9 hx9 hy9 HD8 HX8 HY8
    go_wp2_with fail
    refine (need_any _ _ (by omega) (by omega)).mono ?_
    rintro e w10 ⟨rfl, rfl⟩
    rw [needI_nat]
    have E2 := RF.out.a16
    rw [runB_len] at E2
    by_cases hfy : needOf kb ≤ size
    · rw [if_pos hfy] at E2
      rw [E2]
      have hr9 := HR9.out
      rw [if_pos (by rw [runB_len]; exact hfy)] at hr9
      obtain ⟨g, A0, c0, x0, y0, rfl, hc0, m0, b0⟩ := hr9.bytes (j := 0) rfl
      simp only [List.length_cons, List.length_nil] at m0 b0 hc0
      rw [runB_len] at m0 b0
      have k1 := fun nq : Nat => run_string_of (P := Try.prog) (dst := 9) Try.underlying22 Try.underlying5 Try.underlying9 (b0.fr ((Fr.refl [] w9).drewN nq) (by simp))
      have k2 := fun nq : Nat => run_string_of (P := Try.prog) (dst := 9) Try.underlying22 Try.underlying5 Try.underlying9 (HY9.out.fr ((Fr.refl [] w9).drewN nq) (by simp))
      clear hr9 b0 E2
      have hcy : (needOf kb : Int) ≤ (size : Int) := by omega
      go_wp2_with fail
      refine (reset_nil _).mono ?_
      rintro e w10 ⟨rfl, rfl⟩
      go_wp2_with fail
      refine (append_nil _ _ _ ka ka rfl (by omega)).mono ?_
      rintro e w10 ⟨rfl, rfl⟩
      go_wp2_with fail
      refine (room_nil _).mono ?_
      rintro e w10 ⟨rfl, rfl⟩
      go_wp2_with fail
      go_quiet (fail)
      go_wp2
      go_ret
      exact ⟨rfl, HF9.out.drewN _⟩
    · rw [if_neg hfy] at E2
      rw [E2]
      have hr9 := HR9.out
      rw [if_neg (by rw [runB_len]; exact hfy), runB_len] at hr9
      have hcy : ¬ (needOf kb : Int) ≤ (size : Int) := by omega
      first
        | rw [if_pos hfx] at hr9
        | rw [if_neg hfx] at hr9
      obtain ⟨A9, c9, rfl, _, _⟩ := own_shape hr9.own
      simp only [List.length_cons, List.length_nil] at *
      clear hr9 E2
      go_wp2_with fail
      refine (reset_nil _).mono ?_
      rintro e w10 ⟨rfl, rfl⟩
      go_wp2_with fail
      refine (append_nil _ _ _ ka ka rfl (by omega)).mono ?_
      rintro e w10 ⟨rfl, rfl⟩
      go_wp2_with fail
      refine (room_nil _).mono ?_
      rintro e w10 ⟨rfl, rfl⟩
      go_wp2_with fail
      go_quiet (fail)
      go_wp2
      go_ret
      exact ⟨rfl, HF9.out.drewN _⟩
  · rw [if_neg hfx] at e1 e10
    rw [e1]
    have E10 := Lib.hid e10
    clear e10
    have hcx : ¬ (needOf ka : Int) ≤ (size : Int) := by omega
    clear e1
    go_wp2_with fail
    refine (writes_X HD6.out).mono ?_
    rintro e w7 ⟨rfl, rfl⟩
    rw [RF.out.a8 (by rw [runB_len]; exact hfx)]
    go_wp2_with fail
    have hrm := room_at HL6.out (by rw [RF.out.a9]; omega) (by rw [RF.out.a9, E10.out]; omega)
    rw [RF.out.a9, E10.out, show ((size - 0 : Nat) : Int) = (size : Int) by omega] at hrm
    refine hrm.mono ?_
    rintro e w7 ⟨rfl, m, rfl⟩
    clear hrm E10
    have hd6 := HD6.out.stay ((Fr.refl [] w6).drewN m)
    have hl6 := HL6.out.drewN m
    have hx6 := HX6.out.fr ((Fr.refl [] w6).drewN m) (by simp)
    have hy6 := HY6.out.fr ((Fr.refl [] w6).drewN m) (by simp)
    clear HD6 HL6 HX6 HY6
    have hz6' : (w6.drewN m).heap.size = w6.heap.size := rfl
    generalize w6.drewN m = w6 at *
    have HD6 := Lib.hid hd6; have HL6 := Lib.hid hl6; have HX6 := Lib.hid hx6; have HY6 := Lib.hid hy6
    clear hd6 hl6 hx6 hy6
    go_wp2_with fail
    refine (reset_at HL6.out).mono ?_
    rintro e w7 ⟨rfl, hb7, hf7⟩
    have hb7' : Blk w7 w2.heap.size 84 (l2.cells d) := by rw [← RF.out.a11]; exact hb7
    have hd7 : DkX w w7 d D1 _ := HD6.out.reset hf7 (by left; left; right; omega) HZ2.out
    have hx7 := HX6.out.fr hf7 (by simp; omega)
    have hy7 := HY6.out.fr hf7 (by simp; omega)
    have HD7 := Lib.hid hd7; have HB7 := Lib.hid hb7'; have HX7 := Lib.hid hx7; have HY7 := Lib.hid hy7
    clear hb7 hb7' hd7 hx7 hy7 hf7 HL6 HD6 HX6 HY6
    go_wp2_with fail
    refine (append_X (lg := w2.heap.size) (gb := w4.heap.size) HD7.out HB7.out (by left; left; right; omega) HZ2.out RF.out.a12 HY7.out (by right; omega) (by rw [runB_len]; omega) RF.out.a13).mono ?_
    rintro e w8 ⟨rfl, hd8, hb8, _, hk8⟩
    rw [RF.out.a14]
    rw [RF.out.a15] at hd8
    have hx8 := hk8.bytes HX7.out ⟨.inl (.inr (by omega)), by omega⟩
    have hy8 := hk8.bytes HY7.out ⟨.inr (by omega), by omega⟩
    have HD8 := Lib.hid hd8; have HX8 := Lib.hid hx8; have HY8 := Lib.hid hy8
    clear hd8 hb8 hk8 hx8 hy8 HD7 HB7 HX7 HY7
    go_wp2_with fail
    refine (open_X (f := 0) (n := size) HD8.out RF.out.a17 (by omega) (by rw [RF.out.a18]; omega) RF.out.a19).mono ?_
    rintro e w9 ⟨out9, rfl, hd9, ⟨vs, hr9⟩, _, hf9⟩
    rw [RF.out.a20, RF.out.a21] at hr9
    have hx9 := HX8.out.fr hf9 (by simp)
    have hy9 := HY8.out.fr hf9 (by simp)
    have HF9 := Lib.hid hd9.frame; have HX9 := Lib.hid hx9; have HY9 := Lib.hid hy9; have HR9 := Lib.hid hr9
    clear hd9 hr9 hf9 hx9 hy9 HD8 HX8 HY8
    go_wp2_with fail
    refine (need_any _ _ (by omega) (by omega)).mono ?_
    rintro e w10 ⟨rfl, rfl⟩
    rw [needI_nat]
    have E2 := RF.out.a16
    rw [runB_len] at E2
    by_cases hfy : needOf kb ≤ size
    · rw [if_pos hfy] at E2
      rw [E2]
      have hr9 := HR9.out
      rw [if_pos (by rw [runB_len]; exact hfy)] at hr9
      obtain ⟨g, A0, c0, x0, y0, rfl, hc0, m0, b0⟩ := hr9.bytes (j := 0) rfl
      simp only [List.length_cons, List.length_nil] at m0 b0 hc0
      rw [runB_len] at m0 b0
      have k1 := fun nq : Nat => run_string_of (P := Try.prog) (dst := 9) Try.underlying22 Try.underlying5 Try.underlying9 (b0.fr ((Fr.refl [] w9).drewN nq) (by simp))
      have k2 := fun nq : Nat => run_string_of (P := Try.prog) (dst := 9) Try.underlying22 Try.underlying5 Try.underlying9 (HY9.out.fr ((Fr.refl [] w9).drewN nq) (by simp))
      clear hr9 b0 E2
      have hcy : (needOf kb : Int) ≤ (size : Int) := by omega
      go_wp2_with fail
      refine (reset_nil _).mono ?_
      rintro e w10 ⟨rfl, rfl⟩
      go_wp2_with fail
      refine (append_nil _ _ _ ka ka rfl (by omega)).mono ?_
      rintro e w10 ⟨rfl, rfl⟩
      go_wp2_with fail
      refine (room_nil _).mono ?_
      rintro e w10 ⟨rfl, rfl⟩
      go_wp2_with fail
      go_quiet (fail)
      go_wp2
      go_ret
      exact ⟨rfl, HF9.out.drewN _⟩
    · rw [if_neg hfy] at E2
      rw [E2]
      have hr9 := HR9.out
      rw [if_neg (by rw [runB_len]; exact hfy), runB_len] at hr9
      have hcy : ¬ (needOf kb : Int) ≤ (size : Int) := by omega
      first
        | rw [if_pos hfx] at hr9
        | rw [if_neg hfx] at hr9
      obtain ⟨A9, c9, rfl, _, _⟩ := own_shape hr9.own
      simp only [List.length_cons, List.length_nil] at *
      clear hr9 E2
      go_wp2_with fail
      refine (reset_nil _).mono ?_
      rintro e w10 ⟨rfl, rfl⟩
      go_wp2_with fail
      refine (append_nil _ _ _ ka ka rfl (by omega)).mono ?_
      rintro e w10 ⟨rfl, rfl⟩
      go_wp2_with fail
      refine (room_nil _).mono ?_
      rintro e w10 ⟨rfl, rfl⟩
      go_wp2_with fail
      go_quiet (fail)
      go_wp2
      go_ret
      exact ⟨rfl, HF9.out.drewN _⟩

end Go.Proofs.Ytbgcbikgjedkkaa
