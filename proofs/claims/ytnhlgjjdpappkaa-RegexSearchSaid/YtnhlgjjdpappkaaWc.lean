/-
  The walk of RegexSearch.
-/
import Derived.Test.YtnhlgjjdpappkaaVc
import Derived.Test.YtnhlgjjdpappkaaBits
namespace Go.Proofs.Ytnhlgjjdpappkaa
open Go.RowKit

theorem mod_some (m n : Nat) : ∃ i : Nat, i ≤ n ∧ (m : Int) % ((n : Int) + 1) = (i : Int) :=
  ⟨m % (n + 1), Nat.lt_succ_iff.1 (Nat.mod_lt m (Nat.succ_pos n)), by rw [Int.natCast_emod]; rfl⟩
theorem mod_some' (m n i : Nat) (hi : i ≤ n) : ∃ j : Nat, j ≤ n - i ∧ (m : Int) % ((n : Int) - (i : Int) + 1) = (j : Int) := by
  have := mod_some m (n - i)
  rwa [show ((n - i : Nat) : Int) = (n : Int) - (i : Int) by omega] at this
set_option maxRecDepth 100000 in
theorem search_walk (s t : ByteArray) (a b : Int) (hs : s.size ≤ 9223372036854775807) (ht : t.size ≤ 9223372036854775807) (w : World) : Calls Try.prog 5 #[.string s, .string t, .int .i64 a, .int .i64 b] w fun e w' => e = .returned (.bool true) ∧ Fr [] w w' := by
  refine calls_post fun R HQ => ?_
  obtain ⟨m, hm, hmn⟩ := and_mask a 65535 (by omega)
  have hma : bits .and .i64 a 65535 = (m : Int) := hmn
  obtain ⟨k, hk, hkn⟩ := and_mask b 65535 (by omega)
  have hkb : bits .and .i64 b 65535 = (k : Int) := hkn
  clear hmn hkn
  go_enter Try.func5, Try.ntmps5
  go_wp2_with fail
  refine (awake14 w).mono ?_
  rintro e w1 ⟨rfl, hf1⟩
  have HF1 := Lib.hid hf1
  clear hf1
  by_cases h1 : 100 < s.size
  · go_wp2_with fail
    exact HQ.out _ _ ⟨rfl, HF1.out⟩
  · by_cases h2 : 40 < t.size
    · go_wp2_with fail
      exact HQ.out _ _ ⟨rfl, HF1.out⟩
    · go_wp2_with fail
      refine (Compile_l s hs).mono ?_
      rintro e w2 ⟨hf2, ⟨er, hp, her, rfl⟩ | ⟨p, gp, hp, rfl, hg⟩⟩
      · have d0 : (er != 0) = true := by simpa using her
        have HF2 := Lib.hid (HF1.out.trans hf2 (by simp))
        clear hf2 hp
        go_wp2_with fail
        exact HQ.out _ _ ⟨rfl, HF2.out⟩
      · have HF2 := Lib.hid (HF1.out.trans hf2 (by simp)); have HG := Lib.hid hg
        clear hf2 hp hg
        obtain ⟨i, hi, hie⟩ := mod_some m t.size
        obtain ⟨j, hj, hje⟩ := mod_some' k t.size i hi
        obtain ⟨n, hn⟩ : ∃ n, n = t.size := ⟨_, rfl⟩
        have HN := Lib.hid hn
        rw [← hn] at hi hj hie hje h2 ht
        have hn' : (t.size : Int) = (n : Int) := by omega
        go_wp2_with fail
        rw [hie]
        clear hie hje hm hk hma hkb
        go_loop [14] (fun v => ∃ q : Nat, q ≤ n ∧ v = .int .i64 (q : Int) ∧ ∀ c ∈ (strBytes t).take q, c.toNat < 128) (fun v => n - (intOf v).toNat)
        case atStart => exact ⟨0, Nat.zero_le _, rfl, fun c hc => by simp at hc⟩
        case round =>
          obtain ⟨q, hq, rfl, hasc⟩ := hrel
          have HA := Lib.hid hasc
          clear hasc
          by_cases hqn : q < n
          · have hqs : q < t.size := by omega
            by_cases hc : t[q].toNat < 128
            · have HA2 : Hid (∀ c ∈ (strBytes t).take (q + 1), c.toNat < 128) := Lib.hid (fun c hc' => by
                rw [List.take_succ_eq_append_getElem (by rw [strBytes_len]; exact hqs)] at hc'
                rcases List.mem_append.1 hc' with h | h
                · exact HA.out c h
                · simp only [List.mem_cons, List.not_mem_nil, or_false] at h
                  subst h
                  exact hc)
              go_wp2_with fail
              go_round
              case rel => exact ⟨q + 1, by omega, by go_num, HA2.out⟩
              case measure => simp [intOf]; omega
            · go_wp2_with fail
              exact HQ.out _ _ ⟨rfl, HF2.out⟩
          · obtain rfl : q = n := by omega
            have HAS : Hid (ascB t) := Lib.hid (fun c hc => HA.out c (by rw [List.take_of_length_le (by rw [strBytes_len]; omega)]; exact hc))
            have hx : (t.extract i (i + j)).size ≤ 1000000 := by rw [ByteArray.size_extract]; omega
            have M1 := Lib.hid (sub_match (p := p) HAS.out i (i + j)); have M2 := Lib.hid (sub_search (p := p) HAS.out i (i + j))
            have C1 := fun w (h : Pg w gp p) => Match_l h (t.extract i (i + j)) hx
            have C2 := fun w (h : Pg w gp p) => Search_l h (t.extract i (i + j)) hx
            have C3 := fun w (h : Pg w gp p) => Search_l h t (by omega)
            have HSQR := Lib.hid (Fr.refl [] w2)
            generalize langB p (chars (t.extract i (i + j))) = b1 at *
            generalize findB p (chars (t.extract i (i + j))) = b2 at *
            generalize findB p (chars t) = b3 at *
            have D1 := Lib.hid C1; have D2 := Lib.hid C2; have D3 := Lib.hid C3
            clear C1 C2 C3 hx
            cases b1 with
            | false =>
              go_wp2_with fail
              -- a contract D1.out _ HG.out of a call; 3: the number of the world; 2: the one ahead; R: the same for the frame since the pattern was made
              refine (D1.out _ HG.out).mono ?_
              rintro e w3 ⟨rfl, hf3⟩
              have HF3 := Lib.hid (HF2.out.trans hf3 (by simp)); have HSQ3 := Lib.hid (HSQR.out.trans hf3 (by simp))
              clear hf3
              cases b2 with
              | false =>
                go_wp2_with fail
                -- a contract D2.out _ (HG.out.fr HSQ3.out) of a call; 4: the number of the world; 3: the one ahead; 3: the same for the frame since the pattern was made
                refine (D2.out _ (HG.out.fr HSQ3.out)).mono ?_
                rintro e w4 ⟨rfl, hf4⟩
                have HF4 := Lib.hid (HF3.out.trans hf4 (by simp)); have HSQ4 := Lib.hid (HSQ3.out.trans hf4 (by simp))
                clear hf4
                go_wp2_with fail
                exact HQ.out _ _ ⟨rfl, HF4.out⟩
              | true =>
                obtain rfl : b3 = true := M2.out rfl
                go_wp2_with fail
                -- a contract D2.out _ (HG.out.fr HSQ3.out) of a call; 4: the number of the world; 3: the one ahead; 3: the same for the frame since the pattern was made
                refine (D2.out _ (HG.out.fr HSQ3.out)).mono ?_
                rintro e w4 ⟨rfl, hf4⟩
                have HF4 := Lib.hid (HF3.out.trans hf4 (by simp)); have HSQ4 := Lib.hid (HSQ3.out.trans hf4 (by simp))
                clear hf4
                go_wp2_with fail
                -- a contract D3.out _ (HG.out.fr HSQ4.out) of a call; 5: the number of the world; 4: the one ahead; 4: the same for the frame since the pattern was made
                refine (D3.out _ (HG.out.fr HSQ4.out)).mono ?_
                rintro e w5 ⟨rfl, hf5⟩
                have HF5 := Lib.hid (HF4.out.trans hf5 (by simp)); have HSQ5 := Lib.hid (HSQ4.out.trans hf5 (by simp))
                clear hf5
                go_wp2_with fail
                exact HQ.out _ _ ⟨rfl, HF5.out⟩
            | true =>
              obtain rfl : b3 = true := M1.out rfl
              go_wp2_with fail
              -- a contract D1.out _ HG.out of a call; 3: the number of the world; 2: the one ahead; R: the same for the frame since the pattern was made
              refine (D1.out _ HG.out).mono ?_
              rintro e w3 ⟨rfl, hf3⟩
              have HF3 := Lib.hid (HF2.out.trans hf3 (by simp)); have HSQ3 := Lib.hid (HSQR.out.trans hf3 (by simp))
              clear hf3
              go_wp2_with fail
              -- a contract D3.out _ (HG.out.fr HSQ3.out) of a call; 4: the number of the world; 3: the one ahead; 3: the same for the frame since the pattern was made
              refine (D3.out _ (HG.out.fr HSQ3.out)).mono ?_
              rintro e w4 ⟨rfl, hf4⟩
              have HF4 := Lib.hid (HF3.out.trans hf4 (by simp)); have HSQ4 := Lib.hid (HSQ3.out.trans hf4 (by simp))
              clear hf4
              cases b2 with
              | false =>
                go_wp2_with fail
                -- a contract D2.out _ (HG.out.fr HSQ4.out) of a call; 5: the number of the world; 4: the one ahead; 4: the same for the frame since the pattern was made
                refine (D2.out _ (HG.out.fr HSQ4.out)).mono ?_
                rintro e w5 ⟨rfl, hf5⟩
                have HF5 := Lib.hid (HF4.out.trans hf5 (by simp)); have HSQ5 := Lib.hid (HSQ4.out.trans hf5 (by simp))
                clear hf5
                go_wp2_with fail
                exact HQ.out _ _ ⟨rfl, HF5.out⟩
              | true =>
                go_wp2_with fail
                -- a contract D2.out _ (HG.out.fr HSQ4.out) of a call; 5: the number of the world; 4: the one ahead; 4: the same for the frame since the pattern was made
                refine (D2.out _ (HG.out.fr HSQ4.out)).mono ?_
                rintro e w5 ⟨rfl, hf5⟩
                have HF5 := Lib.hid (HF4.out.trans hf5 (by simp)); have HSQ5 := Lib.hid (HSQ4.out.trans hf5 (by simp))
                clear hf5
                go_wp2_with fail
                -- a contract D3.out _ (HG.out.fr HSQ5.out) of a call; 6: the number of the world; 5: the one ahead; 5: the same for the frame since the pattern was made
                refine (D3.out _ (HG.out.fr HSQ5.out)).mono ?_
                rintro e w6 ⟨rfl, hf6⟩
                have HF6 := Lib.hid (HF5.out.trans hf6 (by simp)); have HSQ6 := Lib.hid (HSQ5.out.trans hf6 (by simp))
                clear hf6
                go_wp2_with fail
                exact HQ.out _ _ ⟨rfl, HF6.out⟩

end Go.Proofs.Ytnhlgjjdpappkaa
