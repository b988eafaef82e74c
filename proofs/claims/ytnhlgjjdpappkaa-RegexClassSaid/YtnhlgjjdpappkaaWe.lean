/-
  The walk of RegexClass.
-/
import Derived.Test.YtnhlgjjdpappkaaVb
import Derived.Test.YtnhlgjjdpappkaaStr
namespace Go.Proofs.Ytnhlgjjdpappkaa
open Go.RowKit

/-- One sign as a text. -/
def sgn (c : UInt8) : ByteArray := { data := #[c] }
theorem sgn_chars {c : UInt8} (h : c.toNat < 128) : chars (sgn c) = [(c.toNat : Int)] := by
  have h1 : strBytes (sgn c) = [c] := rfl
  have := chars_asc (t := sgn c) (by rw [ascB, h1]; intro d hd; simp at hd; subst hd; exact h)
  rw [this, h1]; rfl
theorem sgn_two {c : UInt8} (h : c.toNat < 128) : chars (sgn c ++ sgn c) = [(c.toNat : Int), (c.toNat : Int)] := by
  have h1 : strBytes (sgn c ++ sgn c) = [c, c] := by rw [strBytes_app]; rfl
  have := chars_asc (t := sgn c ++ sgn c) (by rw [ascB, h1]; intro d hd; simp at hd; subst hd; exact h)
  rw [this, h1]; rfl
theorem asc_mem (c : UInt8) (l : List UInt8) : (c.toNat : Int) ∈ asc l ↔ c ∈ l := by
  unfold asc
  rw [List.mem_map]
  constructor
  · rintro ⟨d, hd, h⟩
    have : d = c := UInt8.toNat.inj (by omega)
    exact this ▸ hd
  · intro h; exact ⟨c, h, rfl⟩
theorem just_has (neg : Bool) (c : UInt8) (l : List UInt8) : hasB neg ((asc l).map one) (c.toNat : Int) = (decide (c ∈ l) ^^ neg) := by
  unfold hasB
  rw [one_any]
  by_cases h : c ∈ l
  · rw [if_pos (by simpa using (asc_mem c l).2 h)]; simp [h]
  · rw [if_neg (by simpa using fun hh => h ((asc_mem c l).1 hh))]; simp [h]
section
variable {s : ByteArray} {L : List UInt8} {c : UInt8} (hL : letU L) (h0 : L ≠ []) (h50 : L.length ≤ 50) (hc : c.toNat < 128)
include hL h0 h50
theorem just_match (hc : c.toNat < 128) (hs : strBytes s = [91] ++ L ++ [93]) : matchB s (sgn c) = decide (c ∈ L) := by
  rw [matchB_some (by rw [parsedT_L, hs]; exact parsed_just hL h0 h50), Bool.eq_iff_iff, langB_iff, lang_class, sgn_chars hc]
  constructor
  · rintro ⟨d, h, h1⟩
    injection h with h
    subst h
    rw [just_has] at h1
    simpa using h1
  · intro h
    exact ⟨_, rfl, by rw [just_has]; simpa using h⟩
theorem not_match (hc : c.toNat < 128) (hs : strBytes s = [91, 94] ++ L ++ [93]) : matchB s (sgn c) = !decide (c ∈ L) := by
  rw [matchB_some (by rw [parsedT_L, hs]; exact parsed_not hL h0 h50), Bool.eq_iff_iff, langB_iff, lang_class, sgn_chars hc]
  constructor
  · rintro ⟨d, h, h1⟩
    injection h with h
    subst h
    rw [just_has] at h1
    simpa using h1
  · intro h
    exact ⟨_, rfl, by rw [just_has]; simpa using h⟩
theorem just_two (hc : c.toNat < 128) (hs : strBytes s = [91] ++ L ++ [93]) : matchB s (sgn c ++ sgn c) = false := by
  rw [matchB_some (by rw [parsedT_L, hs]; exact parsed_just hL h0 h50), Bool.eq_false_iff, Ne, langB_iff, lang_class, sgn_two hc]
  rintro ⟨d, h, _⟩
  simp at h
theorem just_none (hs : strBytes s = [91] ++ L ++ [93]) : matchB s { data := #[] } = false := by
  rw [matchB_some (by rw [parsedT_L, hs]; exact parsed_just hL h0 h50), Bool.eq_false_iff, Ne, langB_iff, lang_class]
  rintro ⟨d, h, _⟩
  cases h
end
theorem range_ok {s : ByteArray} {a b : UInt8} (ha : 97 ≤ a.toNat ∧ a.toNat ≤ 122) (hb : 97 ≤ b.toNat ∧ b.toNat ≤ 122) (hab : a.toNat ≤ b.toNat) (hs : strBytes s = [91, a, 45, b, 93]) : parsedT s = (0, some (.pick [.row [.char false [⟨a.toNat, b.toNat⟩]]])) := by
  rw [parsedT_L, hs, parsed_range ha hb, if_pos hab]
theorem range_bad {s : ByteArray} {a b : UInt8} (ha : 97 ≤ a.toNat ∧ a.toNat ≤ 122) (hb : 97 ≤ b.toNat ∧ b.toNat ≤ 122) (hab : ¬a.toNat ≤ b.toNat) (hs : strBytes s = [91, a, 45, b, 93]) : parsedT s = (2, none) := by
  rw [parsedT_L, hs, parsed_range ha hb, if_neg hab]
theorem range_match {a b c : UInt8} (hc : c.toNat < 128) : langB (.pick [.row [.char false [⟨a.toNat, b.toNat⟩]]]) (chars (sgn c)) = decide (a.toNat ≤ c.toNat ∧ c.toNat ≤ b.toNat) := by
  rw [Bool.eq_iff_iff, langB_iff, lang_class, sgn_chars hc, decide_eq_true_iff]
  constructor
  · rintro ⟨d, h, h1⟩
    injection h with h
    subst h
    simp [hasB, inSp] at h1
    exact h1
  · intro h
    exact ⟨_, rfl, by simpa [hasB, inSp] using h⟩

theorem sgn_run (w : World) (x : UInt8) (H : Nat) (h : w.heap.size = H) : (convert 34 9 (.slice (some ⟨H, 0, none⟩) 1 1)).run Try.prog (w.alloc (.cells #[.int .u8 (x.toNat : Int)] 5)) = .ok (.string (sgn x)) (w.alloc (.cells #[.int .u8 (x.toNat : Int)] 5)) := by
  subst h
  exact run_string_of (bs := [x]) Try.underlying34 Try.underlying5 Try.underlying9 (BytesAt.of_blk (Blk.new w 5 (bcells [x])) 1 (Nat.le_refl _))
theorem undef_not : ∀ b : Bool, ¬(some undef = some (Value.bool b)) := fun b h => by cases h
def CsRel (s : ByteArray) (c : UInt8) (v6 v7 : Value) : Prop := ∃ q : Nat, q ≤ s.size ∧ v7 = .int .i64 (q : Int) ∧ v6 = .bool (decide (c ∈ (strBytes s).take q)) ∧ letU ((strBytes s).take q)
theorem take_more {s : ByteArray} {q : Nat} (h : q < s.size) : (strBytes s).take (q + 1) = (strBytes s).take q ++ [s[q]] := by
  rw [List.take_succ_eq_append_getElem (by rw [strBytes_len]; exact h)]; rfl
set_option maxRecDepth 100000 in
set_option maxHeartbeats 4000000 in
theorem class_walk (s : ByteArray) (c : UInt8) (hs : s.size ≤ 9223372036854775807) (w : World) : Calls Try.prog 6 #[.string s, .int .u8 (c.toNat : Int)] w fun e w' => e = .returned (.bool true) ∧ Fr [] w w' := by
  refine calls_post fun R HQ => ?_
  go_enter Try.func6, Try.ntmps6
  go_wp2_with fail
  refine (awake14 w).mono ?_
  rintro e w1 ⟨rfl, hf1⟩
  have HF1 := Lib.hid hf1
  clear hf1
  by_cases h1 : s.size = 0
  · go_wp2_with fail
    exact HQ.out _ _ ⟨rfl, HF1.out⟩
  · by_cases h2 : 50 < s.size
    · go_wp2_with fail
      exact HQ.out _ _ ⟨rfl, HF1.out⟩
    · by_cases h3 : c.toNat < 48
      · go_wp2_with fail
        exact HQ.out _ _ ⟨rfl, HF1.out⟩
      · by_cases h4 : 122 < c.toNat
        · go_wp2_with fail
          exact HQ.out _ _ ⟨rfl, HF1.out⟩
        · have d0 : ((s.size : Int) == 0) = false := by simpa using h1
          go_wp2_with fail
          clear d0
          go_loop [6, 7] (fun v6 v7 => CsRel s c v6 v7) (fun _ v => s.size - (intOf v).toNat)
          case atStart => exact ⟨0, Nat.zero_le _, rfl, by simp, fun c hc => by simp at hc⟩
          case round =>
            obtain ⟨q, hq, rfl, rfl, hlet⟩ := hrel
            have HLT := Lib.hid hlet
            clear hlet
            by_cases hqn : q < s.size
            · have HM := Lib.hid (take_more hqn)
              by_cases hx1 : s[q].toNat < 97
              · go_wp2_with fail
                exact HQ.out _ _ ⟨rfl, HF1.out⟩
              · by_cases hx2 : 122 < s[q].toNat
                · go_wp2_with fail
                  exact HQ.out _ _ ⟨rfl, HF1.out⟩
                · have HL2 : Hid (letU ((strBytes s).take (q + 1))) := Lib.hid (by
                    rw [HM.out]
                    intro d hd
                    rcases List.mem_append.1 hd with hd | hd
                    · exact HLT.out d hd
                    · simp only [List.mem_cons, List.not_mem_nil, or_false] at hd
                      subst hd
                      omega)
                  have HB2 : Hid (decide (c ∈ (strBytes s).take (q + 1)) = (decide (c ∈ (strBytes s).take q) || ((s[q].toNat : Int) == (c.toNat : Int)))) := Lib.hid (by
                    rw [HM.out, Bool.eq_iff_iff]
                    simp only [decide_eq_true_iff, List.mem_append, List.mem_cons, List.not_mem_nil, or_false, Bool.or_eq_true, beq_iff_eq]
                    refine or_congr_right ?_
                    constructor
                    · rintro rfl; rfl
                    · intro h; exact UInt8.toNat.inj (by omega))
                  generalize decide (c ∈ (strBytes s).take q) = b at *
                  generalize hb2 : ((s[q].toNat : Int) == (c.toNat : Int)) = b2 at *
                  cases b <;> go_wp2_with fail
                  all_goals
                    go_round
                    case rel => exact ⟨q + 1, by omega, by go_num, by rw [HB2.out]; rfl, HL2.out⟩
                    case measure => simp [intOf]; omega
            · obtain ⟨L, hL⟩ : ∃ L, L = strBytes s := ⟨_, rfl⟩
              have HLL := Lib.hid hL
              have hTK : (strBytes s).take q = L := by rw [hL, List.take_of_length_le (by rw [strBytes_len]; omega)]
              have HTK := Lib.hid hTK
              have HLU : Hid (letU L) := Lib.hid (by rw [← hTK]; exact HLT.out)
              clear HLT
              rw [hTK]
              generalize hB : decide (c ∈ L) = b at *
              have HB := Lib.hid hB
              clear hB hTK hL
              have hcv := sgn_run
              obtain ⟨n, hn⟩ : ∃ n, s.size = n + 1 := ⟨s.size - 1, by omega⟩
              have i0 : 0 < s.size := by omega
              have i1 : n < s.size := by omega
              have hsg : ∀ x, (sgn x).size = 1 := fun _ => rfl
              have HL0 : Hid (L ≠ [] ∧ L.length ≤ 50) := Lib.hid (by
                have h : L.length = s.size := by rw [HLL.out, strBytes_len]
                exact ⟨by intro e; rw [e] at h; simp at h; omega, by omega⟩)
              have HLA : Hid (97 ≤ s[0].toNat ∧ s[0].toNat ≤ 122) := Lib.hid (HLU.out _ (by rw [HLL.out]; exact List.getElem_mem (l := strBytes s) (by rw [strBytes_len]; exact i0)))
              have HLZ : Hid (97 ≤ s[n].toNat ∧ s[n].toNat ≤ 122) := Lib.hid (HLU.out _ (by rw [HLL.out]; exact List.getElem_mem (l := strBytes s) (by rw [strBytes_len]; exact i1)))
              go_wp2_with fail
              have HFA := Lib.hid (((HF1.out.alloc (.cells #[.int .u8 (c.toNat : Int)] 5)).alloc (.cells #[.int .u8 (s[0].toNat : Int)] 5)).alloc (.cells #[.int .u8 (s[n].toNat : Int)] 5))
              generalize ((w1.alloc (.cells #[.int .u8 (c.toNat : Int)] 5)).alloc (.cells #[.int .u8 (s[0].toNat : Int)] 5)).alloc (.cells #[.int .u8 (s[n].toNat : Int)] 5) = w2 at *
              generalize s[0] = a at *
              generalize s[n] = z at *
              clear hcv
              have hP : strBytes ({ data := #[91] } ++ sgn a ++ { data := #[45] } ++ sgn z ++ { data := #[93] }) = [91, a, 45, z, 93] := by rw [strBytes_app, strBytes_app, strBytes_app, strBytes_app]; rfl
              have P1 : Hid (strBytes ({ data := #[91] } ++ s ++ { data := #[93] }) = [91] ++ L ++ [93]) := Lib.hid (by rw [strBytes_app, strBytes_app, HLL.out]; rfl)
              have P2 : Hid (strBytes ({ data := #[91, 94] } ++ s ++ { data := #[93] }) = [91, 94] ++ L ++ [93]) := Lib.hid (by rw [strBytes_app, strBytes_app, HLL.out]; rfl)
              have B0 : ({ data := #[91] } ++ sgn a ++ { data := #[45] } ++ sgn z ++ { data := #[93] } : ByteArray).size ≤ 9223372036854775807 := by rw [size_bytes hP]; simp
              have B1 : ({ data := #[91] } ++ s ++ { data := #[93] } : ByteArray).size ≤ 9223372036854775807 := by rw [size_bytes P1.out]; have := HL0.out.2; simp; omega
              have B2 : ({ data := #[91, 94] } ++ s ++ { data := #[93] } : ByteArray).size ≤ 9223372036854775807 := by rw [size_bytes P2.out]; have := HL0.out.2; simp; omega
              have M1 : Hid (matchB ({ data := #[91] } ++ s ++ { data := #[93] }) (sgn c) = b) := Lib.hid ((just_match HLU.out HL0.out.1 HL0.out.2 (by omega) P1.out).trans HB.out)
              have M2 : Hid (matchB ({ data := #[91, 94] } ++ s ++ { data := #[93] }) (sgn c) = !b) := Lib.hid ((not_match HLU.out HL0.out.1 HL0.out.2 (by omega) P2.out).trans (by rw [HB.out]))
              have M3 : Hid (matchB ({ data := #[91] } ++ s ++ { data := #[93] }) (sgn c ++ sgn c) = false) := Lib.hid (just_two HLU.out HL0.out.1 HL0.out.2 (by omega) P1.out)
              have M4 : Hid (matchB ({ data := #[91] } ++ s ++ { data := #[93] }) { data := #[] } = false) := Lib.hid (just_none HLU.out HL0.out.1 HL0.out.2 P1.out)
              have BT : (sgn c).size ≤ 1000000 := by rw [hsg]; omega
              have BU : (sgn c ++ sgn c).size ≤ 1000000 := by rw [ByteArray.size_append, hsg]; omega
              have hc128 : c.toNat < 128 := by omega
              have HP := Lib.hid hP
              clear hP HL0 HB HLU HLL HTK
              refine (Compile_l _ B0).mono ?_
              rintro e w3 ⟨hf3, ⟨er, hp, her, rfl⟩ | ⟨p, gp, hp, rfl, hg⟩⟩
              · have HF3 := Lib.hid (HFA.out.trans hf3 (by simp))
                by_cases hab : a.toNat ≤ z.toNat
                · rw [range_ok HLA.out HLZ.out hab HP.out] at hp; cases hp
                · have d1 : ((er : Int) == 0) = false := by simpa using her
                  have un := undef_not
                  have z1 : ¬9223372036854775807 < 1 + (n + 1) := by omega
                  have z2 : ¬9223372036854775807 < 1 + (n + 1) + 1 := by omega
                  have z3 : ¬9223372036854775807 < 2 + (n + 1) := by omega
                  have z4 : ¬9223372036854775807 < 2 + (n + 1) + 1 := by omega
                  have d2 : decide (a.toNat ≤ z.toNat) = false := by simpa using hab
                  have d3 : decide (z.toNat < a.toNat) = true := by simpa using hab
                  clear hp hf3 her
                  go_wp2_with fail
                  refine (match_l _ _ B1 BT).mono ?_
                  rintro e w4 ⟨rfl, hf4⟩
                  have HF4 := Lib.hid (HF3.out.trans hf4 (by simp))
                  clear hf4
                  rw [M1.out]
                  go_wp2_with fail
                  refine (match_l _ _ B2 BT).mono ?_
                  rintro e w5 ⟨rfl, hf5⟩
                  have HF5 := Lib.hid (HF4.out.trans hf5 (by simp))
                  clear hf5
                  rw [M2.out]
                  go_wp2_with fail
                  refine (match_l _ _ B1 BU).mono ?_
                  rintro e w6 ⟨rfl, hf6⟩
                  have HF6 := Lib.hid (HF5.out.trans hf6 (by simp))
                  clear hf6
                  rw [M3.out]
                  go_wp2_with fail
                  refine (match_l _ _ B1 (by decide)).mono ?_
                  rintro e w7 ⟨rfl, hf7⟩
                  have HF7 := Lib.hid (HF6.out.trans hf7 (by simp))
                  clear hf7
                  rw [M4.out]
                  go_wp2_with fail
                  exact HQ.out _ _ ⟨rfl, HF7.out⟩
              · have HF3 := Lib.hid (HFA.out.trans hf3 (by simp))
                by_cases hab : a.toNat ≤ z.toNat
                · rw [range_ok HLA.out HLZ.out hab HP.out] at hp
                  have hp' : Pt.pick [.row [.char false [⟨a.toNat, z.toNat⟩]]] = p := by injection hp with _ h; injection h
                  subst hp'
                  have HG := Lib.hid hg
                  clear hp hf3 hg
                  have z1 : ¬9223372036854775807 < 1 + (n + 1) := by omega
                  have z2 : ¬9223372036854775807 < 1 + (n + 1) + 1 := by omega
                  have z3 : ¬9223372036854775807 < 2 + (n + 1) := by omega
                  have z4 : ¬9223372036854775807 < 2 + (n + 1) + 1 := by omega
                  have un := undef_not
                  have d2 : decide (a.toNat ≤ z.toNat) = true := by simpa using hab
                  have d3 : decide (z.toNat < a.toNat) = false := by simpa using hab
                  obtain ⟨x1, hx1⟩ : ∃ x1 : Bool, decide (a.toNat ≤ c.toNat) = x1 := ⟨_, rfl⟩
                  obtain ⟨x2, hx2⟩ : ∃ x2 : Bool, decide (c.toNat ≤ z.toNat) = x2 := ⟨_, rfl⟩
                  have RM : Hid (langB (.pick [.row [.char false [⟨a.toNat, z.toNat⟩]]]) (chars (sgn c)) = (x1 && x2)) := Lib.hid (by rw [range_match hc128, ← hx1, ← hx2, Bool.eq_iff_iff]; simp)
                  go_wp2_with fail
                  have HQ3 := Lib.hid (Fr.refl [] w3)
                  refine (match_l _ _ B1 BT).mono ?_
                  rintro e w4 ⟨rfl, hf4⟩
                  have HF4 := Lib.hid (HF3.out.trans hf4 (by simp)); have HQ4 := Lib.hid (HQ3.out.trans hf4 (by simp))
                  clear hf4
                  rw [M1.out]
                  go_wp2_with fail
                  refine (match_l _ _ B2 BT).mono ?_
                  rintro e w5 ⟨rfl, hf5⟩
                  have HF5 := Lib.hid (HF4.out.trans hf5 (by simp)); have HQ5 := Lib.hid (HQ4.out.trans hf5 (by simp))
                  clear hf5
                  rw [M2.out]
                  cases x1 <;> go_wp2_with fail
                  all_goals
                    refine (Match_l (HG.out.fr HQ5.out) (sgn c) BT).mono ?_
                    rintro e w6 ⟨rfl, hf6⟩
                    have HF6 := Lib.hid (HF5.out.trans hf6 (by simp))
                    clear hf6
                    rw [RM.out]
                    go_wp2_with fail
                    refine (match_l _ _ B1 BU).mono ?_
                    rintro e w7 ⟨rfl, hf7⟩
                    have HF7 := Lib.hid (HF6.out.trans hf7 (by simp))
                    clear hf7
                    rw [M3.out]
                    go_wp2_with fail
                    refine (match_l _ _ B1 (by decide)).mono ?_
                    rintro e w8 ⟨rfl, hf8⟩
                    have HF8 := Lib.hid (HF7.out.trans hf8 (by simp))
                    clear hf8
                    rw [M4.out]
                    go_wp2_with fail
                    exact HQ.out _ _ ⟨rfl, HF8.out⟩
                · rw [range_bad HLA.out HLZ.out hab HP.out] at hp; cases hp

end Go.Proofs.Ytnhlgjjdpappkaa
