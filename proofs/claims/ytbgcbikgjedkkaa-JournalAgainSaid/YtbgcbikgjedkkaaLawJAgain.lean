/-
  The walk of JournalAgain: for all inputs it answers true and leaves old memory alone.
-/
import Derived.Test.YtbgcbikgjedkkaaJs
import Derived.Test.YtbgcbikgjedkkaaJo
import Derived.Test.YtbgcbikgjedkkaaBits
import Derived.Test.YtbgcbikgjedkkaaRow
namespace Go.Proofs.Ytbgcbikgjedkkaa
open Go.RowKit

set_option maxRecDepth 100000 in
set_option maxHeartbeats 4000000 in
theorem jagain_walk (W : World) (a b p1 p2 : Int) (kv1 kv2 : Value) (K1 K2 : List Bool) (hK1 : ArgBools W kv1 K1) (hK2 : ArgBools W kv2 K2) :
    Calls Try.prog 11 #[.int .i64 a, .int .i64 b, .int .i64 p1, .int .i64 p2, kv1, kv2] W fun e w' => e = .returned (.bool true) ∧ Fr [] W w' := by
  have hm1 := hK1.1; have hm2 := hK2.1
  unfold maxLen at hm1 hm2
  obtain ⟨_, kg1, ⟨kA1, kc1, ko1, rfl, hkc1, _⟩, _⟩ := id hK1
  obtain ⟨_, kg2, ⟨kA2, kc2, ko2, rfl, hkc2, _⟩, _⟩ := id hK2
  have HK1 := Lib.hid hK1; have HK2 := Lib.hid hK2
  clear hK1 hK2
  go_enter Try.func11, Try.ntmps11
  go_wp2_with fail
  refine (awake07 W).mono ?_
  rintro e w1 ⟨rfl, hf1⟩
  have HF1 := Lib.hid hf1; clear hf1
  by_cases hb1 : 200 < K1.length
  · go_wp2
    go_ret
    exact ⟨rfl, HF1.out⟩
  by_cases hb2 : 200 < K2.length
  · go_wp2
    go_ret
    exact ⟨rfl, HF1.out⟩
  obtain ⟨ka, hka, ea⟩ := and_mask a 511 (by omega)
  obtain ⟨kb, hkb, eb⟩ := and_mask b 511 (by omega)
  obtain ⟨q1, hq1, eq1⟩ := and_mask p1 15 (by omega)
  obtain ⟨q2, hq2, eq2⟩ := and_mask p2 15 (by omega)
  have ea' : bits .and .i64 a 511 = (ka : Int) := ea
  have eb' : bits .and .i64 b 511 = (kb : Int) := eb
  have eq1' : bits .and .i64 p1 15 = (q1 : Int) := eq1
  have eq2' : bits .and .i64 p2 15 = (q2 : Int) := eq2
  clear ea eb eq1 eq2
  obtain ⟨l0, l3, D2, D3, D5, D6, E1, E2, M, R, af⟩ := again_facts (runB ka 97) (runB kb 98) q1 q2 K1 K2 (by rw [runB_len]; exact hka) (by rw [runB_len]; exact hkb)
  have AF := Lib.hid af; clear af
  go_wp2_with fail
  refine (bytes07 w1 ka (by omega) 97).mono ?_
  rintro e w2 ⟨rfl, hb2', hf2⟩
  have hz2 := hb2'.lt
  have hv2 : BytesAt w2 (.slice (some ⟨w1.heap.size, 0, none⟩) ka ka) (runB ka 97) w1.heap.size := by
    have := BytesAt.of_blk hb2' ka (by rw [runB_len]; exact Nat.le_refl _)
    rw [runB_len] at this
    exact this
  have HV2 := Lib.hid hv2; have HF2 := Lib.hid (HF1.out.trans hf2 (by simp)); clear hb2' hv2 hf2 HF1
  go_wp2_with fail
  refine (bytes07 w2 kb (by omega) 98).mono ?_
  rintro e w3 ⟨rfl, hb3', hf3⟩
  have hz3 := hb3'.lt
  have hx3 := HV2.out.fr hf3 (by simp)
  have hv3 : BytesAt w3 (.slice (some ⟨w2.heap.size, 0, none⟩) kb kb) (runB kb 98) w2.heap.size := by
    have := BytesAt.of_blk hb3' kb (by rw [runB_len]; exact Nat.le_refl _)
    rw [runB_len] at this
    exact this
  have HX3 := Lib.hid hx3; have HY3 := Lib.hid hv3; have HF3 := Lib.hid (HF2.out.trans hf3 (by simp)); clear hb3' hv3 hx3 hf3 HF2 HV2
  go_wp2_with fail
  refine (new_X (X := fun k => k = w1.heap.size ∨ k = w2.heap.size) W w3 16 (by omega) (by omega) HF3.out (by intro k hk; omega)).mono ?_
  rintro e w4 ⟨d, rfl, hd4, hf4⟩
  have hx4 := HX3.out.fr hf4 (by simp)
  have hy4 := HY3.out.fr hf4 (by simp)
  have hz4 := hf4.size
  have HD4 := Lib.hid hd4; have HX4 := Lib.hid hx4; have HY4 := Lib.hid hy4; clear hd4 hx4 hy4 hf4 HX3 HY3
  go_wp2_with fail
  refine (open_X (f := 0) (n := 16) HD4.out rfl (by omega) (by decide) AF.out.a2).mono ?_
  rintro e w5 ⟨out, rfl, hd5, hr5, hb5, hf5⟩
  rw [AF.out.a1] at hb5
  have hx5 := HX4.out.fr hf5 (by simp)
  have hy5 := HY4.out.fr hf5 (by simp)
  have hz5 := hb5.lt
  have HD5 := Lib.hid hd5; have HL5 := Lib.hid hb5; have HX5 := Lib.hid hx5; have HY5 := Lib.hid hy5; have HZ4 := Lib.hid HD4.out.frame.size
  clear hd5 hr5 hb5 hf5 hx5 hy5 HD4 HX4 HY4
  go_wp2_with fail
  refine (limit_X HD5.out q1 (by omega)).mono ?_
  rintro e w6 ⟨rfl, hd6, hk6⟩
  have hl6 := hk6.blk HL5.out (.inr (by omega))
  have hx6 := hk6.bytes HX5.out (.inl (.inl rfl))
  have hy6 := hk6.bytes HY5.out (.inl (.inr rfl))
  have hz6 := hl6.lt
  have HD6 := Lib.hid hd6; have HL6 := Lib.hid hl6; have HX6 := Lib.hid hx6; have HY6 := Lib.hid hy6
  clear hd6 hk6 hl6 hx6 hy6 HD5 HL5 HX5 HY5
  go_wp2_with fail
  refine (append_X (lg := w4.heap.size) (gb := w1.heap.size) HD6.out HL6.out (.inr (by omega)) HZ4.out AF.out.a3 HX6.out (.inl (.inl rfl)) (by rw [runB_len]; omega) (by show 0 + 65536 < _; omega)).mono ?_
  rintro e w7 ⟨rfl, hd7, hb7, _, hk7⟩
  rw [AF.out.a4]
  rw [AF.out.a5] at hd7
  have hx7 := hk7.bytes HX6.out ⟨.inl (.inl rfl), by omega⟩
  have hy7 := hk7.bytes HY6.out ⟨.inl (.inr rfl), by omega⟩
  have HD7 := Lib.hid hd7; have HX7 := Lib.hid hx7; have HY7 := Lib.hid hy7
  clear hd7 hb7 hk7 hx7 hy7 HD6 HL6 HX6 HY6
  go_wp2_with fail
  obtain ⟨gk1, hgk1, hgk1'⟩ := HK1.out.here HD7.out.frame
  refine (reopen_X HD7.out _ K1 gk1 hgk1 hgk1' (by omega)).mono ?_
  rintro e w8 ⟨rfl, hd8, hk8⟩
  rw [AF.out.a6] at hd8
  have hx8 := hk8.bytes HX7.out (.inl (.inl rfl))
  have hy8 := hk8.bytes HY7.out (.inl (.inr rfl))
  have HD8 := Lib.hid hd8; have HX8 := Lib.hid hx8; have HY8 := Lib.hid hy8; have HZ8 := Lib.hid hd8.frame.size
  have hzw : Hid (∀ k, ((k = w1.heap.size ∨ k = w2.heap.size) ∨ w4.heap.size ≤ k ∧ k < w5.heap.size) → k < w8.heap.size) := Lib.hid (by obtain ⟨_, _, _, _, h⟩ := hd8; exact h)
  have hz8 : w2.heap.size < w8.heap.size := hzw.out _ (.inl (.inr rfl))
  have hz8' : w1.heap.size < w8.heap.size := hzw.out _ (.inl (.inl rfl))
  clear hd8 hk8 hx8 hy8 hgk1 hgk1' HD7 HX7 HY7 hzw
  go_wp2_with fail
  refine (open_X (f := 0) (n := 16) HD8.out AF.out.a7 (by omega) (by rw [AF.out.a8]; omega) AF.out.a9).mono ?_
  rintro e w9 ⟨out9, rfl, hd9, ⟨vs9, hr9⟩, hb9, hf9⟩
  rw [AF.out.a13] at hb9
  rw [AF.out.a10] at hr9
  have hx9 := HX8.out.fr hf9 (by simp)
  have hy9 := HY8.out.fr hf9 (by simp)
  have hz9 := hb9.lt
  have HD9 := Lib.hid hd9; have HL9 := Lib.hid hb9; have HX9 := Lib.hid hx9; have HY9 := Lib.hid hy9; have HR9 := Lib.hid hr9
  clear hd9 hb9 hf9 hx9 hy9 hr9 HD8 HX8 HY8
  have HM := Lib.hid AF.out.a11
  rcases HM.out with hM | hM
  · have hr9 := HR9.out
    rw [hM] at hr9
    have hE : E1 ≠ 0 := fun h => by have := AF.out.a12 h; rw [hM] at this; cases this
    have hE' : (E1 == 0) = false := by simpa using hE
    obtain ⟨A9, c9, rfl, _, _⟩ := own_shape hr9.own
    subst hM
    clear hr9 HR9 hE HM
    go_wp2_with fail
    go_quiet (fail)
    go_wp2_with fail
    refine (limit_X (HD9.out.stay ((Fr.refl [] w9).drewN _)) q2 (by omega)).mono ?_
    rintro e w10 ⟨rfl, hd10, hk10⟩
    have hl10 := hk10.blk (HL9.out.drewN _) (.inr (by omega))
    have hx10 := hk10.bytes (HX9.out.fr ((Fr.refl [] w9).drewN _) (by simp)) (.inl (.inl (.inl rfl)))
    have hy10 := hk10.bytes (HY9.out.fr ((Fr.refl [] w9).drewN _) (by simp)) (.inl (.inl (.inr rfl)))
    have hz10 := hl10.lt
    have HD10 := Lib.hid hd10; have HL10 := Lib.hid hl10; have HX10 := Lib.hid hx10; have HY10 := Lib.hid hy10
    clear hd10 hk10 hl10 hx10 hy10 HD9 HL9 HX9 HY9
    go_wp2_with fail
    refine (append_X (lg := w8.heap.size) (gb := w2.heap.size) HD10.out HL10.out (.inr (by omega)) HZ8.out AF.out.a14 HY10.out (.inl (.inl (.inr rfl))) (by rw [runB_len]; omega) AF.out.a15).mono ?_
    rintro e w11 ⟨rfl, hd11, _, _, hk11⟩
    rw [AF.out.a16]
    rw [AF.out.a17] at hd11
    have hx11 := hk11.bytes HX10.out ⟨.inl (.inl (.inl rfl)), by omega⟩
    have hy11 := hk11.bytes HY10.out ⟨.inl (.inl (.inr rfl)), by omega⟩
    have HD11 := Lib.hid hd11; have HX11 := Lib.hid hx11; have HY11 := Lib.hid hy11
    clear hd11 hk11 hx11 hy11 HD10 HL10 HX10 HY10
    go_wp2_with fail
    obtain ⟨gk2, hgk2, hgk2'⟩ := HK2.out.here HD11.out.frame
    refine (reopen_X HD11.out _ K2 gk2 hgk2 hgk2' (by omega)).mono ?_
    rintro e w12 ⟨rfl, hd12, hk12⟩
    rw [AF.out.a18] at hd12
    have hx12 := hk12.bytes HX11.out (.inl (.inl (.inl rfl)))
    have hy12 := hk12.bytes HY11.out (.inl (.inl (.inr rfl)))
    have HD12 := Lib.hid hd12; have HX12 := Lib.hid hx12; have HY12 := Lib.hid hy12
    clear hd12 hk12 hx12 hy12 hgk2 hgk2' HD11 HX11 HY11
    go_wp2_with fail
    refine (open_X (f := 0) (n := 16) HD12.out AF.out.a19 (by omega) (by rw [AF.out.a20]; omega) AF.out.a21).mono ?_
    rintro e w13 ⟨out13, rfl, hd13, ⟨vs13, hr13⟩, _, hf13⟩
    rw [AF.out.a22] at hr13
    have hx13 := HX12.out.fr hf13 (by simp)
    have hy13 := HY12.out.fr hf13 (by simp)
    have HF13 := Lib.hid hd13.frame; have HR13 := Lib.hid hr13
    have k3 := fun nq : Nat => run_string_of (P := Try.prog) (dst := 9) Try.underlying22 Try.underlying5 Try.underlying9 (hx13.fr ((Fr.refl [] w13).drewN nq) (by simp))
    have k4 := fun nq : Nat => run_string_of (P := Try.prog) (dst := 9) Try.underlying22 Try.underlying5 Try.underlying9 (hy13.fr ((Fr.refl [] w13).drewN nq) (by simp))
    clear hd13 hr13 hf13 hx13 hy13 HD12 HX12 HY12
    rcases AF.out.a23 with ⟨hR, hE2⟩ | hR
    · have hr13 := HR13.out
      rw [hR] at hr13
      have hE2' : (E2 == 0) = false := by simpa using hE2
      have hE2'' : (E2 != 0) = true := by simpa using hE2
      clear hR hE2 HR13
      obtain ⟨A9, c9, rfl, _, _⟩ := own_shape hr13.own
      clear hr13
      go_wp2_with fail
      go_quiet (fail)
      go_wp2
      go_ret
      exact ⟨rfl, HF13.out.drewN _⟩
    · have hr13 := HR13.out
      rw [hR] at hr13
      clear hR HR13
      obtain ⟨g1, A1, c1, x1, y1, rfl, hc1, m1, b1⟩ := hr13.bytes (j := 0) rfl
      simp only [List.nil_append, List.length_cons, List.length_nil] at m1 b1 hc1
      rw [runB_len] at m1 b1
      have k5 := fun nq : Nat => run_string_of (P := Try.prog) (dst := 9) Try.underlying22 Try.underlying5 Try.underlying9 (b1.fr ((Fr.refl [] w13).drewN nq) (by simp))
      clear hr13 b1
      go_wp2_with fail
      go_quiet (fail)
      go_wp2_with fail
      go_quiet (fail)
      go_wp2
      go_ret
      exact ⟨rfl, (HF13.out.drewN _).drewN _⟩
  · have hr9 := HR9.out
    rw [hM] at hr9
    obtain ⟨g9, A9, c9, x9, y9, rfl, hc9, m9, b9⟩ := hr9.bytes (j := 0) rfl
    simp only [List.length_cons, List.length_nil] at m9 b9 hc9
    rw [runB_len] at m9 b9
    have k1 := fun nq : Nat => run_string_of (P := Try.prog) (dst := 9) Try.underlying22 Try.underlying5 Try.underlying9 (b9.fr ((Fr.refl [] w9).drewN nq) (by simp))
    have k2 := fun nq : Nat => run_string_of (P := Try.prog) (dst := 9) Try.underlying22 Try.underlying5 Try.underlying9 (HX9.out.fr ((Fr.refl [] w9).drewN nq) (by simp))
    subst hM
    clear hr9 b9 HR9 HM
    by_cases hE : E1 = 0
    · have hE' : (E1 == 0) = true := by simpa using hE
      clear hE
      go_wp2_with fail
      go_quiet (fail)
      clear k1 k2 m9
      go_wp2_with fail
      refine (limit_X (HD9.out.stay ((Fr.refl [] w9).drewN _)) q2 (by omega)).mono ?_
      rintro e w10 ⟨rfl, hd10, hk10⟩
      have hl10 := hk10.blk (HL9.out.drewN _) (.inr (by omega))
      have hx10 := hk10.bytes (HX9.out.fr ((Fr.refl [] w9).drewN _) (by simp)) (.inl (.inl (.inl rfl)))
      have hy10 := hk10.bytes (HY9.out.fr ((Fr.refl [] w9).drewN _) (by simp)) (.inl (.inl (.inr rfl)))
      have hz10 := hl10.lt
      have HD10 := Lib.hid hd10; have HL10 := Lib.hid hl10; have HX10 := Lib.hid hx10; have HY10 := Lib.hid hy10
      clear hd10 hk10 hl10 hx10 hy10 HD9 HL9 HX9 HY9
      go_wp2_with fail
      refine (append_X (lg := w8.heap.size) (gb := w2.heap.size) HD10.out HL10.out (.inr (by omega)) HZ8.out AF.out.a14 HY10.out (.inl (.inl (.inr rfl))) (by rw [runB_len]; omega) AF.out.a15).mono ?_
      rintro e w11 ⟨rfl, hd11, _, _, hk11⟩
      rw [AF.out.a16]
      rw [AF.out.a17] at hd11
      have hx11 := hk11.bytes HX10.out ⟨.inl (.inl (.inl rfl)), by omega⟩
      have hy11 := hk11.bytes HY10.out ⟨.inl (.inl (.inr rfl)), by omega⟩
      have HD11 := Lib.hid hd11; have HX11 := Lib.hid hx11; have HY11 := Lib.hid hy11
      clear hd11 hk11 hx11 hy11 HD10 HL10 HX10 HY10
      go_wp2_with fail
      obtain ⟨gk2, hgk2, hgk2'⟩ := HK2.out.here HD11.out.frame
      refine (reopen_X HD11.out _ K2 gk2 hgk2 hgk2' (by omega)).mono ?_
      rintro e w12 ⟨rfl, hd12, hk12⟩
      rw [AF.out.a18] at hd12
      have hx12 := hk12.bytes HX11.out (.inl (.inl (.inl rfl)))
      have hy12 := hk12.bytes HY11.out (.inl (.inl (.inr rfl)))
      have HD12 := Lib.hid hd12; have HX12 := Lib.hid hx12; have HY12 := Lib.hid hy12
      clear hd12 hk12 hx12 hy12 hgk2 hgk2' HD11 HX11 HY11
      go_wp2_with fail
      refine (open_X (f := 0) (n := 16) HD12.out AF.out.a19 (by omega) (by rw [AF.out.a20]; omega) AF.out.a21).mono ?_
      rintro e w13 ⟨out13, rfl, hd13, ⟨vs13, hr13⟩, _, hf13⟩
      rw [AF.out.a22] at hr13
      have hx13 := HX12.out.fr hf13 (by simp)
      have hy13 := HY12.out.fr hf13 (by simp)
      have HF13 := Lib.hid hd13.frame; have HR13 := Lib.hid hr13
      have k3 := fun nq : Nat => run_string_of (P := Try.prog) (dst := 9) Try.underlying22 Try.underlying5 Try.underlying9 (hx13.fr ((Fr.refl [] w13).drewN nq) (by simp))
      have k4 := fun nq : Nat => run_string_of (P := Try.prog) (dst := 9) Try.underlying22 Try.underlying5 Try.underlying9 (hy13.fr ((Fr.refl [] w13).drewN nq) (by simp))
      clear hd13 hr13 hf13 hx13 hy13 HD12 HX12 HY12
      rcases AF.out.a23 with ⟨hR, hE2⟩ | hR
      · have hr13 := HR13.out
        rw [hR] at hr13
        have hE2' : (E2 == 0) = false := by simpa using hE2
        have hE2'' : (E2 != 0) = true := by simpa using hE2
        clear hR hE2 HR13
        obtain ⟨g1, A1, c1, x1, y1, rfl, hc1, m1, b1⟩ := hr13.bytes (j := 0) rfl
        simp only [List.nil_append, List.length_cons, List.length_nil] at m1 b1 hc1
        rw [runB_len] at m1 b1
        have k5 := fun nq : Nat => run_string_of (P := Try.prog) (dst := 9) Try.underlying22 Try.underlying5 Try.underlying9 (b1.fr ((Fr.refl [] w13).drewN nq) (by simp))
        clear hr13 b1
        go_wp2_with fail
        go_quiet (fail)
        go_wp2
        go_ret
        exact ⟨rfl, HF13.out.drewN _⟩
      · have hr13 := HR13.out
        rw [hR] at hr13
        clear hR HR13
        obtain ⟨g1, A1, c1, x1, y1, rfl, hc1, m1, b1⟩ := hr13.bytes (j := 0) rfl
        obtain ⟨g2, A2, c2, x2, y2, he2, hc2, m2, b2⟩ := hr13.bytes (j := 1) rfl
        injection he2 with he2 _ _
        simp only [Option.some.injEq, Addr.mk.injEq] at he2
        obtain ⟨rfl, _⟩ := he2
        simp only [List.cons_append, List.nil_append, List.length_cons, List.length_nil] at m1 b1 hc1 m2 b2
        rw [runB_len] at m1 b1 m2 b2
        have k5 := fun nq : Nat => run_string_of (P := Try.prog) (dst := 9) Try.underlying22 Try.underlying5 Try.underlying9 (b1.fr ((Fr.refl [] w13).drewN nq) (by simp))
        have k6 := fun nq : Nat => run_string_of (P := Try.prog) (dst := 9) Try.underlying22 Try.underlying5 Try.underlying9 (b2.fr ((Fr.refl [] w13).drewN nq) (by simp))
        clear hr13 b1 b2
        go_wp2_with fail
        go_quiet (fail)
        go_wp2_with fail
        go_quiet (fail)
        go_wp2
        go_ret
        exact ⟨rfl, (HF13.out.drewN _).drewN _⟩
    · have hE' : (E1 == 0) = false := by simpa using hE
      clear hE
      go_wp2_with fail
      go_quiet (fail)
      clear k1 k2 m9
      go_wp2_with fail
      refine (limit_X (HD9.out.stay ((Fr.refl [] w9).drewN _)) q2 (by omega)).mono ?_
      rintro e w10 ⟨rfl, hd10, hk10⟩
      have hl10 := hk10.blk (HL9.out.drewN _) (.inr (by omega))
      have hx10 := hk10.bytes (HX9.out.fr ((Fr.refl [] w9).drewN _) (by simp)) (.inl (.inl (.inl rfl)))
      have hy10 := hk10.bytes (HY9.out.fr ((Fr.refl [] w9).drewN _) (by simp)) (.inl (.inl (.inr rfl)))
      have hz10 := hl10.lt
      have HD10 := Lib.hid hd10; have HL10 := Lib.hid hl10; have HX10 := Lib.hid hx10; have HY10 := Lib.hid hy10
      clear hd10 hk10 hl10 hx10 hy10 HD9 HL9 HX9 HY9
      go_wp2_with fail
      refine (append_X (lg := w8.heap.size) (gb := w2.heap.size) HD10.out HL10.out (.inr (by omega)) HZ8.out AF.out.a14 HY10.out (.inl (.inl (.inr rfl))) (by rw [runB_len]; omega) AF.out.a15).mono ?_
      rintro e w11 ⟨rfl, hd11, _, _, hk11⟩
      rw [AF.out.a16]
      rw [AF.out.a17] at hd11
      have hx11 := hk11.bytes HX10.out ⟨.inl (.inl (.inl rfl)), by omega⟩
      have hy11 := hk11.bytes HY10.out ⟨.inl (.inl (.inr rfl)), by omega⟩
      have HD11 := Lib.hid hd11; have HX11 := Lib.hid hx11; have HY11 := Lib.hid hy11
      clear hd11 hk11 hx11 hy11 HD10 HL10 HX10 HY10
      go_wp2_with fail
      obtain ⟨gk2, hgk2, hgk2'⟩ := HK2.out.here HD11.out.frame
      refine (reopen_X HD11.out _ K2 gk2 hgk2 hgk2' (by omega)).mono ?_
      rintro e w12 ⟨rfl, hd12, hk12⟩
      rw [AF.out.a18] at hd12
      have hx12 := hk12.bytes HX11.out (.inl (.inl (.inl rfl)))
      have hy12 := hk12.bytes HY11.out (.inl (.inl (.inr rfl)))
      have HD12 := Lib.hid hd12; have HX12 := Lib.hid hx12; have HY12 := Lib.hid hy12
      clear hd12 hk12 hx12 hy12 hgk2 hgk2' HD11 HX11 HY11
      go_wp2_with fail
      refine (open_X (f := 0) (n := 16) HD12.out AF.out.a19 (by omega) (by rw [AF.out.a20]; omega) AF.out.a21).mono ?_
      rintro e w13 ⟨out13, rfl, hd13, ⟨vs13, hr13⟩, _, hf13⟩
      rw [AF.out.a22] at hr13
      have hx13 := HX12.out.fr hf13 (by simp)
      have hy13 := HY12.out.fr hf13 (by simp)
      have HF13 := Lib.hid hd13.frame; have HR13 := Lib.hid hr13
      have k3 := fun nq : Nat => run_string_of (P := Try.prog) (dst := 9) Try.underlying22 Try.underlying5 Try.underlying9 (hx13.fr ((Fr.refl [] w13).drewN nq) (by simp))
      have k4 := fun nq : Nat => run_string_of (P := Try.prog) (dst := 9) Try.underlying22 Try.underlying5 Try.underlying9 (hy13.fr ((Fr.refl [] w13).drewN nq) (by simp))
      clear hd13 hr13 hf13 hx13 hy13 HD12 HX12 HY12
      rcases AF.out.a23 with ⟨hR, hE2⟩ | hR
      · have hr13 := HR13.out
        rw [hR] at hr13
        have hE2' : (E2 == 0) = false := by simpa using hE2
        have hE2'' : (E2 != 0) = true := by simpa using hE2
        clear hR hE2 HR13
        obtain ⟨g1, A1, c1, x1, y1, rfl, hc1, m1, b1⟩ := hr13.bytes (j := 0) rfl
        simp only [List.nil_append, List.length_cons, List.length_nil] at m1 b1 hc1
        rw [runB_len] at m1 b1
        have k5 := fun nq : Nat => run_string_of (P := Try.prog) (dst := 9) Try.underlying22 Try.underlying5 Try.underlying9 (b1.fr ((Fr.refl [] w13).drewN nq) (by simp))
        clear hr13 b1
        go_wp2_with fail
        go_quiet (fail)
        go_wp2
        go_ret
        exact ⟨rfl, HF13.out.drewN _⟩
      · have hr13 := HR13.out
        rw [hR] at hr13
        clear hR HR13
        obtain ⟨g1, A1, c1, x1, y1, rfl, hc1, m1, b1⟩ := hr13.bytes (j := 0) rfl
        obtain ⟨g2, A2, c2, x2, y2, he2, hc2, m2, b2⟩ := hr13.bytes (j := 1) rfl
        injection he2 with he2 _ _
        simp only [Option.some.injEq, Addr.mk.injEq] at he2
        obtain ⟨rfl, _⟩ := he2
        simp only [List.cons_append, List.nil_append, List.length_cons, List.length_nil] at m1 b1 hc1 m2 b2
        rw [runB_len] at m1 b1 m2 b2
        have k5 := fun nq : Nat => run_string_of (P := Try.prog) (dst := 9) Try.underlying22 Try.underlying5 Try.underlying9 (b1.fr ((Fr.refl [] w13).drewN nq) (by simp))
        have k6 := fun nq : Nat => run_string_of (P := Try.prog) (dst := 9) Try.underlying22 Try.underlying5 Try.underlying9 (b2.fr ((Fr.refl [] w13).drewN nq) (by simp))
        clear hr13 b1 b2
        go_wp2_with fail
        go_quiet (fail)
        go_wp2_with fail
        go_quiet (fail)
        go_wp2
        go_ret
        exact ⟨rfl, (HF13.out.drewN _).drewN _⟩

end Go.Proofs.Ytbgcbikgjedkkaa
