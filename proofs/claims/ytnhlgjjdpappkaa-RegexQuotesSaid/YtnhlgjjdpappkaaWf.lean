/-
  The walk of RegexQuotes.
-/
import Derived.Test.YtnhlgjjdpappkaaVb
namespace Go.Proofs.Ytnhlgjjdpappkaa
open Go.RowKit

/-- A text as a pattern of itself; false: it can't be one. -/
def QuoRes (w : World) (t : ByteArray) (e : Ending) (w' : World) : Prop :=
  w' = w ∧ ((∃ s : ByteArray, e = .returned (.tuple #[.string s, .bool false])) ∨ ∃ s : ByteArray, strBytes s = quoteL (strBytes t) ∧ s.size ≤ 200 ∧ ascB t ∧ e = .returned (.tuple #[.string s, .bool true]))
def sSpec : ByteArray := { data := #[40, 41, 42, 43, 45, 46, 63, 91, 92, 93, 94, 123, 124, 125] }
theorem spec_all : ∀ c : Fin 256, spU (UInt8.ofNat c.val) = decide (UInt8.ofNat c.val ∈ strBytes sSpec) := by decide +kernel
theorem spec_mem (c : UInt8) : spU c = decide (c ∈ strBytes sSpec) := by
  have := spec_all ⟨c.toNat, c.toNat_lt⟩
  simpa using this
theorem spec_yes {k : Nat} (hk : k < sSpec.size) {c : UInt8} (h : c = sSpec[k]) : spU c = true := by
  rw [spec_mem, decide_eq_true_iff, h]
  exact List.getElem_mem (l := strBytes sSpec) (by rw [strBytes_len]; exact hk)
theorem spec_no {c : UInt8} (h : ∀ (k : Nat) (hk : k < sSpec.size), c ≠ sSpec[k]) : spU c = false := by
  rw [spec_mem, decide_eq_false_iff_not]
  intro hc
  obtain ⟨k, hk, he⟩ := List.getElem_of_mem hc
  exact h k (by rw [strBytes_len] at hk; exact hk) he.symm
theorem quote_more {t S : ByteArray} {i : Nat} (hi : i < t.size) (hS : strBytes S = quoteL ((strBytes t).take i)) (h : spU t[i] = false) : strBytes (S ++ t.extract i (i + 1)) = quoteL ((strBytes t).take (i + 1)) := by
  have h1 : (strBytes t).take (i + 1) = (strBytes t).take i ++ [t[i]] := by
    rw [List.take_succ_eq_append_getElem (by rw [strBytes_len]; exact hi)]; rfl
  have h2 : strBytes (t.extract i (i + 1)) = [t[i]] := by
    rw [strBytes_sub, List.drop_eq_getElem_cons (by rw [strBytes_len]; exact hi), show i + 1 - i = 1 by omega]
    rfl
  rw [strBytes_app, hS, h1, quoteL_app, h2, quoteL, if_neg (by rw [h]; decide)]
  rfl
theorem quote_slash {t S : ByteArray} {i : Nat} (hi : i < t.size) (hS : strBytes S = quoteL ((strBytes t).take i)) (h : spU t[i] = true) : strBytes (S ++ { data := #[92] } ++ t.extract i (i + 1)) = quoteL ((strBytes t).take (i + 1)) := by
  have h1 : (strBytes t).take (i + 1) = (strBytes t).take i ++ [t[i]] := by
    rw [List.take_succ_eq_append_getElem (by rw [strBytes_len]; exact hi)]; rfl
  have h2 : strBytes (t.extract i (i + 1)) = [t[i]] := by
    rw [strBytes_sub, List.drop_eq_getElem_cons (by rw [strBytes_len]; exact hi), show i + 1 - i = 1 by omega]
    rfl
  rw [strBytes_app, strBytes_app, hS, h1, quoteL_app, h2, quoteL, if_pos h]
  simp [strBytes, quoteL]
theorem asc_more {t : ByteArray} {i : Nat} (hi : i < t.size) (h : ∀ c ∈ (strBytes t).take i, c.toNat < 128) (hc : t[i].toNat < 128) : ∀ c ∈ (strBytes t).take (i + 1), c.toNat < 128 := by
  intro c h'
  rw [List.take_succ_eq_append_getElem (by rw [strBytes_len]; exact hi)] at h'
  rcases List.mem_append.1 h' with h1 | h1
  · exact h c h1
  · simp only [List.mem_cons, List.not_mem_nil, or_false] at h1
    subst h1
    exact hc
theorem quoteL_most : ∀ (l : List UInt8), (quoteL l).length ≤ 2 * l.length
  | [] => by simp [quoteL]
  | c :: l => by
    have := quoteL_most l
    rw [quoteL]
    split <;> simp <;> omega
def QoRel (t : ByteArray) (v4 v5 : Value) : Prop := ∃ (i : Nat) (s : ByteArray), i ≤ t.size ∧ v5 = .int .i64 (i : Int) ∧ v4 = .string s ∧ strBytes s = quoteL ((strBytes t).take i) ∧ ∀ c ∈ (strBytes t).take i, c.toNat < 128
theorem QoRel.size {t s : ByteArray} {i : Nat} (hi : i ≤ t.size) (h : strBytes s = quoteL ((strBytes t).take i)) : s.size ≤ 2 * i := by
  rw [size_bytes h]
  have := quoteL_most ((strBytes t).take i)
  rw [List.length_take] at this
  omega
def QiRel (c : UInt8) (s : ByteArray) (v4 v7 : Value) : Prop := ∃ k : Nat, k ≤ 14 ∧ v7 = .int .i64 (k : Int) ∧ v4 = .string s ∧ ∀ (j : Nat) (hj : j < sSpec.size), j < k → c ≠ sSpec[j]
set_option maxRecDepth 100000 in
theorem quoted_any {w : World} (t : ByteArray) (ht : t.size ≤ 140737488351232) : Calls Try.prog 9 #[.string t] w (QuoRes w t) := by
  refine calls_post fun R HQ => ?_
  go_enter Try.func9, Try.ntmps9
  go_wp2_with fail
  go_loop [4, 5] (fun v4 v5 => QoRel t v4 v5) (fun _ v => t.size - (intOf v).toNat)
  case atStart => exact ⟨0, { data := #[] }, Nat.zero_le _, rfl, rfl, rfl, fun c hc => by simp at hc⟩
  case round =>
    obtain ⟨i, s, hi, rfl, rfl, hs, ha⟩ := hrel
    have hz := QoRel.size hi hs
    have HS := Lib.hid hs; have HA := Lib.hid ha
    clear hs ha
    by_cases hit : i < t.size
    · obtain ⟨c, hc⟩ : ∃ c, c = t[i] := ⟨_, rfl⟩
      by_cases h1 : 127 < c.toNat
      · rw [hc] at h1
        go_wp2_with fail
        exact HQ.out _ _ ⟨rfl, .inl ⟨_, rfl⟩⟩
      · by_cases h2 : c.toNat < 32
        · rw [hc] at h2
          rw [hc] at h1
          go_wp2_with fail
          exact HQ.out _ _ ⟨rfl, .inl ⟨_, rfl⟩⟩
        · rw [hc] at h2
          rw [hc] at h1
          have HAM := Lib.hid (asc_more hit HA.out (by omega))
          clear hc
          go_wp2_with fail
          go_loop [4, 7] (fun v4 v7 => QiRel t[i] s v4 v7) (fun _ v => 14 - (intOf v).toNat)
          case atStart => exact ⟨0, by omega, rfl, rfl, fun j _ hj => absurd hj (by omega)⟩
          case round =>
            obtain ⟨k, hk, rfl, rfl, hno⟩ := hrel
            have HNO := Lib.hid hno
            clear hno
            by_cases hk14 : k < 14
            · have hks : k < sSpec.size := hk14
              have hks' : k < ({ data := #[40, 41, 42, 43, 45, 46, 63, 91, 92, 93, 94, 123, 124, 125] } : ByteArray).size := hk14
              by_cases hck : t[i] = sSpec[k]
              · have HQ1 := Lib.hid (quote_slash hit HS.out (spec_yes hks hck))
                have hd : ((t[i].toNat : Int) == (({ data := #[40, 41, 42, 43, 45, 46, 63, 91, 92, 93, 94, 123, 124, 125] } : ByteArray)[k].toNat : Int)) = true := by rw [hck]; exact beq_self_eq_true _
                clear hck hks
                go_wp2_with fail
                go_round
                case rel => exact ⟨i + 1, _, by omega, by go_num, rfl, HQ1.out, HAM.out⟩
                case measure => simp [intOf]; omega
              · have HN2 : Hid (∀ (j : Nat) (hj : j < sSpec.size), j < k + 1 → t[i] ≠ sSpec[j]) := Lib.hid (fun j hj hjk => by
                  by_cases e : j = k
                  · subst e; exact hck
                  · exact HNO.out j hj (by omega))
                have hd : ((t[i].toNat : Int) == (({ data := #[40, 41, 42, 43, 45, 46, 63, 91, 92, 93, 94, 123, 124, 125] } : ByteArray)[k].toNat : Int)) = false := by
                  rw [Bool.eq_false_iff]
                  intro h
                  exact hck (UInt8.toNat.inj (by have := eq_of_beq h; exact Int.ofNat.inj this))
                clear hck hks
                go_wp2_with fail
                go_round
                case rel => exact ⟨k + 1, by omega, by go_num, rfl, HN2.out⟩
                case measure => simp [intOf]; omega
            · have HQ0 := Lib.hid (quote_more hit HS.out (spec_no (fun j hj => HNO.out j hj (by have : sSpec.size = 14 := rfl; omega))))
              go_wp2_with fail
              go_round
              case rel => exact ⟨i + 1, _, by omega, by go_num, rfl, HQ0.out, HAM.out⟩
              case measure => simp [intOf]; omega
    · have HE : Hid (strBytes s = quoteL (strBytes t) ∧ ascB t) := Lib.hid (by
        have e : (strBytes t).take i = strBytes t := List.take_of_length_le (by rw [strBytes_len]; omega)
        have h1 := HS.out
        have h2 := HA.out
        rw [e] at h1 h2
        exact ⟨h1, h2⟩)
      by_cases h200 : s.size ≤ 200
      · have hd : decide ((s.size : Int) ≤ 200) = true := by simp; omega
        go_wp2_with fail
        exact HQ.out _ _ ⟨rfl, .inr ⟨s, HE.out.1, h200, HE.out.2, rfl⟩⟩
      · have hd : decide ((s.size : Int) ≤ 200) = false := by simp; omega
        go_wp2_with fail
        exact HQ.out _ _ ⟨rfl, .inl ⟨s, rfl⟩⟩

theorem eq_bytes (u t : ByteArray) : (u.toList == t.toList) = decide (strBytes u = strBytes t) := by
  rw [ByteArray.toList_eq, ByteArray.toList_eq, Bool.eq_iff_iff, beq_iff_eq, decide_eq_true_iff]
  exact Iff.rfl
set_option maxRecDepth 100000 in
set_option maxHeartbeats 1000000 in
theorem quotes_walk (t u : ByteArray) (ht : t.size ≤ 140737488351232) (hu : u.size ≤ 140737488351232) (w : World) : Calls Try.prog 3 #[.string t, .string u] w fun e w' => e = .returned (.bool true) ∧ Fr [] w w' := by
  refine calls_post fun R HQ => ?_
  go_enter Try.func3, Try.ntmps3
  go_wp2_with fail
  refine (awake14 w).mono ?_
  rintro e w1 ⟨rfl, hf1⟩
  have HF1 := Lib.hid hf1
  clear hf1
  go_wp2_with fail
  refine (quoted_any t ht).mono ?_
  rintro e w' ⟨rfl, ⟨s, rfl⟩ | ⟨s, hs, hsz, ha, rfl⟩⟩
  · go_wp2_with fail
    exact HQ.out _ _ ⟨rfl, HF1.out⟩
  · have HS := Lib.hid hs; have HA := Lib.hid ha
    have hlen : t.size ≤ s.size := by rw [size_bytes hs, ← strBytes_len]; exact quoteL_len _
    clear hs ha
    by_cases h2 : 200 < u.size
    · go_wp2_with fail
      exact HQ.out _ _ ⟨rfl, HF1.out⟩
    · go_wp2_with fail
      have hpq : parsedT s = (0, some (rowOf (strBytes t))) := by
        rw [parsedT_L, HS.out]
        exact parsed_quote HA.out (by rw [← HS.out, strBytes_len]; exact hsz)
      refine (Compile_l s (by omega)).mono ?_
      rintro e w2 ⟨hf2, ⟨er, hp, her, rfl⟩ | ⟨p, gp, hp, rfl, hg⟩⟩
      · rw [hpq] at hp; cases hp
      · rw [hpq] at hp
        have hp' : rowOf (strBytes t) = p := by injection hp with _ h; injection h
        subst hp'
        have HG := Lib.hid hg; have HF2 := Lib.hid (HF1.out.trans hf2 (by simp)); have HQ2 := Lib.hid (Fr.refl [] w2)
        clear hp hpq hg hf2
        obtain ⟨e1, he1⟩ : ∃ e1 : Bool, (u.toList == t.toList) = e1 := ⟨_, rfl⟩
        have M1 : Hid (langB (rowOf (strBytes t)) (chars t) = true) := Lib.hid (by unfold chars; rw [quote_match _ _ HA.out]; simp)
        have M2 : Hid (langB (rowOf (strBytes t)) (chars u) = e1) := Lib.hid (by unfold chars; rw [quote_match _ _ HA.out, ← he1, eq_bytes])
        have M3 : Hid (findB (rowOf (strBytes t)) (chars (u ++ t ++ u)) = true) := Lib.hid (by unfold chars; rw [strBytes_app, strBytes_app]; exact quote_found _ _ HA.out)
        have M4 : Hid (findB (rowOf (strBytes t)) (chars t) = true) := Lib.hid (by have := quote_found (strBytes t) [] HA.out; simpa [chars] using this)
        have BX : (u ++ t ++ u).size ≤ 1000000 := by rw [ByteArray.size_append, ByteArray.size_append]; omega
        go_wp2_with fail
        refine (Match_l HG.out t (by omega)).mono ?_
        rintro e w3 ⟨rfl, hf3⟩
        have HF3 := Lib.hid (HF2.out.trans hf3 (by simp)); have HQ3 := Lib.hid (HQ2.out.trans hf3 (by simp))
        clear hf3
        rw [M1.out]
        go_wp2_with fail
        refine (Match_l (HG.out.fr HQ3.out) u (by omega)).mono ?_
        rintro e w4 ⟨rfl, hf4⟩
        have HF4 := Lib.hid (HF3.out.trans hf4 (by simp)); have HQ4 := Lib.hid (HQ3.out.trans hf4 (by simp))
        clear hf4
        rw [M2.out]
        go_wp2_with fail
        refine (Search_l (HG.out.fr HQ4.out) (u ++ t ++ u) BX).mono ?_
        rintro e w5 ⟨rfl, hf5⟩
        have HF5 := Lib.hid (HF4.out.trans hf5 (by simp)); have HQ5 := Lib.hid (HQ4.out.trans hf5 (by simp))
        clear hf5
        rw [M3.out]
        go_wp2_with fail
        refine (Search_l (HG.out.fr HQ5.out) t (by omega)).mono ?_
        rintro e w6 ⟨rfl, hf6⟩
        have HF6 := Lib.hid (HF5.out.trans hf6 (by simp)); have HQ6 := Lib.hid (HQ5.out.trans hf6 (by simp))
        clear hf6
        rw [M4.out]
        go_wp2_with fail
        exact HQ.out _ _ ⟨rfl, HF6.out⟩

end Go.Proofs.Ytnhlgjjdpappkaa
