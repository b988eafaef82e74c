/-
  utf.Check, paren, and the walk of RegexParts.
-/
import Derived.Test.YtnhlgjjdpappkaaVc
import Derived.Laws.IdiomStrings
namespace Go.Proofs.Ytnhlgjjdpappkaa
open Go.RowKit

def validL (l : List UInt8) : Prop := ∀ c ∈ runesOf l, c < 2097152
theorem valid_drop {l : List UInt8} {r k : Nat} (h : nextOf l = some (r, k)) (hv : validL (l.drop k)) : validL l := by
  have hp := nextOf_pos h
  cases l with
  | nil => simp at hp; omega
  | cons b bs =>
    intro c hc
    rw [runesOf_some h] at hc
    rcases List.mem_cons.1 hc with rfl | hc
    · have := hp.2.2.2; omega
    · exact hv c hc
def ChkRes (w : World) (bs : List UInt8) (e : Ending) (w' : World) : Prop := Fr [] w w' ∧ ∃ v : Int, e = .returned (.int .i64 v) ∧ (v < 0 → validL bs)
def ChRel (w : World) (bs : List UInt8) (v3 : Value) (wr : World) : Prop := ∃ k : Nat, k ≤ bs.length ∧ v3 = .int .i64 (k : Int) ∧ Fr [] w wr ∧ (validL (bs.drop k) → validL bs)
set_option maxRecDepth 100000 in
theorem check_any {w : World} {A : Option Addr} {n c g : Nat} {bs : List UInt8} (hv : BytesAt w (.slice A n c) bs g) (hc : c ≤ 9223372036854775807) : Calls Try.prog 15 #[.slice A n c] w (ChkRes w bs) := by
  refine calls_post fun R HQ => ?_
  obtain ⟨hn, hnc⟩ := hv.len
  have HV := Lib.hid hv; have HN := Lib.hid hn
  clear hv hn
  go_enter Try.func15, Try.ntmps15
  go_wp2_with fail
  go_loopw [3] (fun v wr => ChRel w bs v wr) (fun v _ => n - (intOf v).toNat)
  case atStart => exact ⟨0, by omega, rfl, Fr.refl _ _, fun h => h⟩
  case round =>
    obtain ⟨k, hk, rfl, hf, hval⟩ := hrel
    rw [← HN.out] at hk
    have HF := Lib.hid hf; have HVA := Lib.hid hval
    clear hf hval
    by_cases hkn : k < n
    · have hbs := (HV.out.fr HF.out (by simp)).from_ k (by rw [← HN.out]; exact hk)
      rw [← HN.out] at hbs
      have hsl := slice_run_from (P := Try.prog) (t := 34) Try.underlying34 (by kernel_rfl) A n c k .i64 hk
      generalize (if c = k then A else A.map (·.add k)) = sa at *
      have HBS := Lib.hid hbs
      have hs1 := hsl wr
      clear hbs hsl
      go_wp2_with fail
      refine (next_any HBS.out (by omega)).mono ?_
      rintro e w1 ⟨rfl, hf1⟩
      have HF1 := Lib.hid (HF.out.trans hf1 (by simp))
      clear hf1 hs1
      unfold nextV
      cases hnx : nextOf (bs.drop k) with
      | none =>
        clear hnx
        go_wp2_with fail
        exact HQ.out _ _ ⟨HF1.out, _, rfl, fun h => by omega⟩
      | some y =>
        obtain ⟨r, m⟩ := y
        have hp := nextOf_pos hnx
        have HVD : Hid (validL (bs.drop (k + m)) → validL bs) := Lib.hid (fun h => HVA.out (valid_drop hnx (by rw [List.drop_drop]; exact h)))
        obtain ⟨h1, h2, h3, h4⟩ := hp
        rw [List.length_drop, ← HN.out] at h2
        have m0 : ((m : Int) == 0) = false := by simp; omega
        have hkm : k + m ≤ n := by omega
        have hn2 : n ≤ c := by rw [HN.out]; exact hnc
        clear hnx
        go_wp2_with fail
        go_roundw
        case rel => exact ⟨k + m, by rw [← HN.out]; omega, by go_num, HF1.out, HVD.out⟩
        case measure => simp [intOf]; omega
    · have HVB : Hid (validL bs) := Lib.hid (HVA.out (by rw [List.drop_of_length_le (by rw [← HN.out]; omega)]; intro c hc; cases hc))
      go_wp2_with fail
      exact HQ.out _ _ ⟨HF.out, _, rfl, fun _ => HVB.out⟩

theorem paren_any {w : World} (s : ByteArray) (hs : s.size ≤ 140737488351232) : Calls Try.prog 16 #[.string s] w fun e w' => e = .returned (.string ({ data := #[40] } ++ s ++ { data := #[41] })) ∧ w = w' := by
  refine calls_post fun R HQ => ?_
  go_enter Try.func16, Try.ntmps16
  go_wp2_with fail
  exact HQ.out _ _ ⟨rfl, rfl⟩

/-- '[]byte(s)': what is made reads as the text. -/
theorem conv_any (w : World) (s : ByteArray) (hs : s.size ≤ 140737488351232) : ∃ C w', (convert 9 34 (.string s)).run Try.prog w = .ok (.slice (some ⟨w.heap.size, 0, none⟩) s.size C) w' ∧ C ≤ 9223372036854775807 ∧ BytesAt w' (.slice (some ⟨w.heap.size, 0, none⟩) s.size C) (strBytes s) w.heap.size ∧ Fr [] w w' := by
  have hcv := run_bytes_of_string (P := Try.prog) w 9 34 5 s Try.underlying9 Try.underlying34 Try.underlying5
  have hge := grownCap_ge w s.size 0 5
  have hle := grownCap_le_maxLen w s.size 0 5 (by unfold maxLen; omega)
  unfold maxLen at hle
  generalize grownCap w s.size 0 5 = C at *
  refine ⟨C, _, hcv, hle, ⟨_, C, 0, by rw [strBytes_len], by rw [strBytes_len]; exact hge, fun h0 => ⟨rfl, fun j u hu => ?_⟩⟩, ((Fr.refl [] w).drew).alloc _⟩
  have hb : (w.drew.alloc (.cells (bytesRow s C) 5 ((bytesRow s C).size, (bytesRow s C).size + 1))).heap[w.heap.size]? = some (.cells (bytesRow s C) 5 ((bytesRow s C).size, (bytesRow s C).size + 1)) := heap_alloc_new w.drew _
  rw [Nat.zero_add]
  simp only [World.cell?, hb]
  rw [bcells_at] at hu
  obtain ⟨x, hx, rfl⟩ := Option.map_eq_some_iff.1 hu
  unfold strBytes at hx
  obtain ⟨hj, hx'⟩ := List.getElem?_eq_some_iff.1 hx
  have hj' : j < s.data.size := by simpa using hj
  simp only [Option.isSome_none, Bool.false_eq_true, if_false]
  rw [bytesRow, Array.getElem?_append_left (by simpa using hj')]
  simp only [Array.getElem?_map]
  rw [Array.getElem?_eq_getElem hj']
  have : s.data[j] = x := by simpa using hx'
  rw [this]; rfl

theorem undef_no : ∀ b : Bool, ¬(some undef = some (Value.bool b)) := fun b h => by cases h
/-- A text as a pattern, whatever it is. -/
def CRes (w : World) (s : ByteArray) (er : Int) (pv : Value) : Prop := er ≠ 0 ∨ er = 0 ∧ ∃ p gp, pv = .pointer (some ⟨gp, 0, none⟩) ∧ parsedT s = (0, some p) ∧ Pg w gp p
theorem CRes.fr {w w' : World} {s : ByteArray} {er : Int} {pv : Value} (h : CRes w s er pv) (hf : Fr [] w w') : CRes w' s er pv := by
  rcases h with h | ⟨h, p, gp, h1, h2, h3⟩
  · exact .inl h
  · exact .inr ⟨h, p, gp, h1, h2, h3.fr hf⟩
theorem Compile_c {w : World} (s : ByteArray) (hsz : s.size ≤ 9223372036854775807) : Calls Try.prog 10 #[.string s] w fun e w' => Fr [] w w' ∧ ∃ er pv, e = .returned (.tuple #[pv, .int .i64 er]) ∧ CRes w' s er pv := by
  refine (Compile_l s hsz).mono ?_
  rintro e w' ⟨hf, ⟨er, hp, her, rfl⟩ | ⟨p, gp, hp, rfl, hg⟩⟩
  · exact ⟨hf, er, _, rfl, .inl her⟩
  · exact ⟨hf, 0, _, rfl, .inr ⟨rfl, p, gp, rfl, hp, hg⟩⟩

section
variable {a b : ByteArray} {pa pb : Pt} {ea eb : Int} (ha : parsedT a = (ea, some pa)) (hb : parsedT b = (eb, some pb))
include ha hb
theorem row_is {q : Pt} (h : parsedT ({ data := #[40] } ++ a ++ { data := #[41] } ++ ({ data := #[40] } ++ b ++ { data := #[41] })) = (0, some q)) : q = .pick [.row [pa, pb]] := by
  rw [parsedT_L] at ha hb h
  have e : strBytes ({ data := #[40] } ++ a ++ { data := #[41] } ++ ({ data := #[40] } ++ b ++ { data := #[41] })) = 40 :: (strBytes a ++ 41 :: (40 :: (strBytes b ++ [41]))) := by
    simp only [strBytes_app]
    simp [strBytes]
  rw [e] at h
  obtain ⟨m, hm⟩ := read_row ha hb
  exact parsed_is h hm
theorem pick_is {q : Pt} (h : parsedT ({ data := #[40] } ++ a ++ { data := #[41] } ++ { data := #[124] } ++ ({ data := #[40] } ++ b ++ { data := #[41] })) = (0, some q)) : q = .pick [.row [pa], .row [pb]] := by
  rw [parsedT_L] at ha hb h
  have e : strBytes ({ data := #[40] } ++ a ++ { data := #[41] } ++ { data := #[124] } ++ ({ data := #[40] } ++ b ++ { data := #[41] })) = 40 :: (strBytes a ++ 41 :: (124 :: 40 :: (strBytes b ++ [41]))) := by
    simp only [strBytes_app]
    simp [strBytes]
  rw [e] at h
  obtain ⟨m, hm⟩ := read_pick ha hb
  exact parsed_is h hm
omit hb in
theorem star_is {q : Pt} (h : parsedT ({ data := #[40] } ++ a ++ { data := #[41] } ++ { data := #[42] }) = (0, some q)) : q = .pick [.row [.star pa]] := by
  rw [parsedT_L] at ha h
  have e : strBytes ({ data := #[40] } ++ a ++ { data := #[41] } ++ { data := #[42] }) = 40 :: (strBytes a ++ 41 :: [42]) := by
    simp only [strBytes_app]
    simp [strBytes]
  rw [e] at h
  obtain ⟨m, hm⟩ := read_star ha
  exact parsed_is h hm
end
theorem row_true {pa pb : Pt} {t u : ByteArray} (hv : validL (strBytes t)) (hx : langB pa (chars t) = true) (hy : langB pb (chars u) = true) : langB (.pick [.row [pa, pb]]) (chars (t ++ u)) = true := by
  rw [langB_iff] at hx hy ⊢
  rw [lang_two, chars_app hv]
  exact ⟨_, _, rfl, hx, hy⟩
theorem pick_either {pa pb : Pt} {l : List Int} : langB (.pick [.row [pa], .row [pb]]) l = (langB pa l || langB pb l) := by
  rw [Bool.eq_iff_iff, Bool.or_eq_true, langB_iff, langB_iff, langB_iff, lang_either]
theorem star_none {pa : Pt} : langB (.pick [.row [.star pa]]) (chars { data := #[] }) = true := by
  rw [langB_iff, lang_star]; exact .nil
theorem star_once {pa : Pt} {t : ByteArray} (hx : langB pa (chars t) = true) : langB (.pick [.row [.star pa]]) (chars t) = true := by
  rw [langB_iff] at hx ⊢
  rw [lang_star]
  have := Star.cons hx .nil
  rwa [List.append_nil] at this
theorem star_twice {pa : Pt} {t : ByteArray} (hv : validL (strBytes t)) (hx : langB pa (chars t) = true) : langB (.pick [.row [.star pa]]) (chars (t ++ t)) = true := by
  rw [langB_iff] at hx ⊢
  rw [lang_star, chars_app hv]
  have := Star.cons hx (Star.cons hx .nil)
  rwa [List.append_nil] at this

theorem size_1 {a b : ByteArray} (ha : a.size ≤ 140737488351232) (hb : b.size ≤ 140737488351232) : ({ data := #[40] } ++ a ++ { data := #[41] } ++ ({ data := #[40] } ++ b ++ { data := #[41] }) : ByteArray).size ≤ 9223372036854775807 := by
  have h1 : ∀ c : UInt8, ({ data := #[c] } : ByteArray).size = 1 := fun _ => rfl
  simp only [ByteArray.size_append, h1]
  omega
theorem size_2 {a b : ByteArray} (ha : a.size ≤ 140737488351232) (hb : b.size ≤ 140737488351232) : ({ data := #[40] } ++ a ++ { data := #[41] } ++ { data := #[124] } ++ ({ data := #[40] } ++ b ++ { data := #[41] }) : ByteArray).size ≤ 9223372036854775807 := by
  have h1 : ∀ c : UInt8, ({ data := #[c] } : ByteArray).size = 1 := fun _ => rfl
  simp only [ByteArray.size_append, h1]
  omega
theorem size_3 {a b : ByteArray} (ha : a.size ≤ 140737488351232) (hb : b.size ≤ 140737488351232) : ({ data := #[40] } ++ a ++ { data := #[41] } ++ { data := #[42] } : ByteArray).size ≤ 9223372036854775807 := by
  have h1 : ∀ c : UInt8, ({ data := #[c] } : ByteArray).size = 1 := fun _ => rfl
  simp only [ByteArray.size_append, h1]
  omega
set_option maxRecDepth 100000 in
set_option maxHeartbeats 4000000 in
theorem parts_walk (a b t u : ByteArray) (ha : a.size ≤ 140737488351232) (hb : b.size ≤ 140737488351232) (ht : t.size ≤ 140737488351232) (hu : u.size ≤ 140737488351232) (w : World) : Calls Try.prog 7 #[.string a, .string b, .string t, .string u] w fun e w' => e = .returned (.bool true) ∧ Fr [] w w' := by
  refine calls_post fun R HQ => ?_
  have Z1 : ({ data := #[40] } ++ a ++ { data := #[41] } ++ ({ data := #[40] } ++ b ++ { data := #[41] }) : ByteArray).size ≤ 9223372036854775807 := size_1 ha hb
  have Z2 : ({ data := #[40] } ++ a ++ { data := #[41] } ++ { data := #[124] } ++ ({ data := #[40] } ++ b ++ { data := #[41] }) : ByteArray).size ≤ 9223372036854775807 := size_2 ha hb
  have Z3 : ({ data := #[40] } ++ a ++ { data := #[41] } ++ { data := #[42] } : ByteArray).size ≤ 9223372036854775807 := size_3 ha hb
  go_enter Try.func7, Try.ntmps7
  go_wp2_with fail
  refine (awake14 w).mono ?_
  rintro e w1 ⟨rfl, hf1⟩
  have HF1 := Lib.hid hf1
  clear hf1
  by_cases h1 : 100 < a.size + b.size
  · go_wp2_with fail
    exact HQ.out _ _ ⟨rfl, HF1.out⟩
  · by_cases h2 : 60 < t.size + u.size
    · go_wp2_with fail
      exact HQ.out _ _ ⟨rfl, HF1.out⟩
    · obtain ⟨C, w2, hcv, hC, hba, hf2⟩ := conv_any w1 t ht
      have HF2 := Lib.hid (HF1.out.trans hf2 (by simp)); have HB := Lib.hid hba
      clear hf2 hba
      go_wp2_with fail
      refine (check_any HB.out hC).mono ?_
      rintro e w3 ⟨hf3, vt, rfl, hvt⟩
      have HF3 := Lib.hid (HF2.out.trans hf3 (by simp)); have HVT := Lib.hid hvt
      clear hf3 hvt hcv HB hC
      by_cases h3 : 0 ≤ vt
      · go_wp2_with fail
        exact HQ.out _ _ ⟨rfl, HF3.out⟩
      · have HV : Hid (validL (strBytes t)) := Lib.hid (HVT.out (by omega))
        clear HVT
        obtain ⟨C, w4, hcv, hC, hba, hf4⟩ := conv_any w3 u hu
        have HF4 := Lib.hid (HF3.out.trans hf4 (by simp)); have HB := Lib.hid hba
        clear hf4 hba
        go_wp2_with fail
        refine (check_any HB.out hC).mono ?_
        rintro e w5 ⟨hf5, vu, rfl, hvu⟩
        have HF5 := Lib.hid (HF4.out.trans hf5 (by simp))
        clear hf5 hvu hcv HB hC
        by_cases h4 : 0 ≤ vu
        · go_wp2_with fail
          exact HQ.out _ _ ⟨rfl, HF5.out⟩
        · go_wp2_with fail
          refine (Compile_c a (by omega)).mono ?_
          rintro e w6 ⟨hf6, e1, p1, rfl, hc1⟩
          have HF6 := Lib.hid (HF5.out.trans hf6 (by simp)); have HC1 := Lib.hid hc1
          clear hf6 hc1
          go_wp2_with fail
          refine (Compile_c b (by omega)).mono ?_
          rintro e w7 ⟨hf7, e2, p2, rfl, hc2⟩
          have HF7 := Lib.hid (HF6.out.trans hf7 (by simp)); have HC2 := Lib.hid hc2
          clear hf7 hc2 HF1 HF2 HF3 HF4 HF5
          go_wp2_with fail
          refine (paren_any a ha).mono ?_
          rintro e w' ⟨rfl, rfl⟩
          go_wp2_with fail
          refine (paren_any b hb).mono ?_
          rintro e w' ⟨rfl, rfl⟩
          go_wp2_with fail
          refine (Compile_c _ Z1).mono ?_
          rintro e w8 ⟨hf8, e3, p3, rfl, hc3⟩
          have HF8 := Lib.hid (HF7.out.trans hf8 (by simp)); have HC3 := Lib.hid hc3; have HQ8 := Lib.hid hf8
          clear hf8 hc3
          go_wp2_with fail
          refine (paren_any a ha).mono ?_
          rintro e w' ⟨rfl, rfl⟩
          go_wp2_with fail
          refine (paren_any b hb).mono ?_
          rintro e w' ⟨rfl, rfl⟩
          go_wp2_with fail
          refine (Compile_c _ Z2).mono ?_
          rintro e w9 ⟨hf9, e4, p4, rfl, hc4⟩
          have HF9 := Lib.hid (HF8.out.trans hf9 (by simp)); have HC4 := Lib.hid hc4; have HC3' := Lib.hid (HC3.out.fr hf9)
          clear hf9 hc4
          go_wp2_with fail
          refine (paren_any a ha).mono ?_
          rintro e w' ⟨rfl, rfl⟩
          go_wp2_with fail
          refine (Compile_c _ Z3).mono ?_
          rintro e w10 ⟨hf10, e5, p5, rfl, hc5⟩
          have HF10 := Lib.hid (HF9.out.trans hf10 (by simp)); have HC5 := Lib.hid hc5; have HC4' := Lib.hid (HC4.out.fr hf10); have HC3'' := Lib.hid (HC3'.out.fr hf10)
          clear hf10 hc5 HC3 HC3' HC4 HQ8 HF6 HF7 HF8 HF9
          by_cases e10 : e1 = 0
          · have d1 : (e1 != 0) = false := by simp [e10]
            by_cases e20 : e2 = 0
            · have d2 : (e2 != 0) = false := by simp [e20]
              by_cases e30 : e3 = 0
              · have d3 : (e3 != 0) = false := by simp [e30]
                by_cases e40 : e4 = 0
                · have d4 : (e4 != 0) = false := by simp [e40]
                  by_cases e50 : e5 = 0
                  · have d5 : (e5 != 0) = false := by simp [e50]
                    rcases HC1.out with h | ⟨-, pa, -, -, hpa, -⟩
                    · exact absurd e10 h
                    rcases HC2.out with h | ⟨-, pb, -, -, hpb, -⟩
                    · exact absurd e20 h
                    rcases HC3''.out with h | ⟨-, q3, g3, hv3, hq3, hg3⟩
                    · exact absurd e30 h
                    rcases HC4'.out with h | ⟨-, q4, g4, hv4, hq4, hg4⟩
                    · exact absurd e40 h
                    rcases HC5.out with h | ⟨-, q5, g5, hv5, hq5, hg5⟩
                    · exact absurd e50 h
                    obtain rfl := row_is hpa hpb hq3
                    obtain rfl := pick_is hpa hpb hq4
                    obtain rfl := star_is hpa hq5
                    obtain ⟨x, hx⟩ : ∃ x, langB pa (chars t) = x := ⟨_, rfl⟩
                    obtain ⟨y, hy⟩ : ∃ y, langB pb (chars u) = y := ⟨_, rfl⟩
                    obtain ⟨z, hz⟩ : ∃ z, langB pb (chars t) = z := ⟨_, rfl⟩
                    have MX : Hid (matchB a t = x) := Lib.hid ((matchB_some hpa).trans hx)
                    have MY : Hid (matchB b u = y) := Lib.hid ((matchB_some hpb).trans hy)
                    have MZ : Hid (matchB b t = z) := Lib.hid ((matchB_some hpb).trans hz)
                    have R1 : Hid (x = true → y = true → langB (.pick [.row [pa, pb]]) (chars (t ++ u)) = true) := Lib.hid (fun h h' => row_true HV.out (hx.trans h) (hy.trans h'))
                    have R2 : Hid (langB (.pick [.row [pa], .row [pb]]) (chars t) = (x || z)) := Lib.hid (by rw [pick_either, hx, hz])
                    have R3 : Hid (langB (.pick [.row [.star pa]]) (chars { data := #[] }) = true) := Lib.hid star_none
                    have R4 : Hid (x = true → langB (.pick [.row [.star pa]]) (chars t) = true) := Lib.hid (fun h => star_once (hx.trans h))
                    have R5 : Hid (x = true → langB (.pick [.row [.star pa]]) (chars (t ++ t)) = true) := Lib.hid (fun h => star_twice HV.out (hx.trans h))
                    have G3 := Lib.hid hg3; have G4 := Lib.hid hg4; have G5 := Lib.hid hg5
                    have S1 : (t ++ u).size ≤ 1000000 := by simp only [ByteArray.size_append]; omega
                    have S2 : (t ++ t).size ≤ 1000000 := by simp only [ByteArray.size_append]; omega
                    have HQ10 := Lib.hid (Fr.refl [] w10)
                    subst hv3 hv4 hv5
                    clear hx hy hz hg3 hg4 hg5 hpa hpb hq3 hq4 hq5 e10 e20 e30 e40 e50 HC1 HC2 HC3'' HC4' HC5
                    have un := undef_no
                    go_wp2_with fail
                    refine (match_l a t (by omega) (by omega)).mono ?_
                    rintro e w11 ⟨rfl, hf11⟩
                    have HF11 := Lib.hid (HF10.out.trans hf11 (by simp)); have HQ11 := Lib.hid (HQ10.out.trans hf11 (by simp))
                    clear hf11
                    rw [MX.out]
                    go_wp2_with fail
                    refine (match_l b u (by omega) (by omega)).mono ?_
                    rintro e w12 ⟨rfl, hf12⟩
                    have HF12 := Lib.hid (HF11.out.trans hf12 (by simp)); have HQ12 := Lib.hid (HQ11.out.trans hf12 (by simp))
                    clear hf12
                    rw [MY.out]
                    cases x with
                    | false =>
                      go_wp2_with fail
                      refine (Match_l (G4.out.fr HQ12.out) t (by omega)).mono ?_
                      rintro e w13 ⟨rfl, hf13⟩
                      have HF13 := Lib.hid (HF12.out.trans hf13 (by simp)); have HQ13 := Lib.hid (HQ12.out.trans hf13 (by simp))
                      clear hf13
                      rw [R2.out]
                      go_wp2_with fail
                      refine (match_l b t (by omega) (by omega)).mono ?_
                      rintro e w14 ⟨rfl, hf14⟩
                      have HF14 := Lib.hid (HF13.out.trans hf14 (by simp)); have HQ14 := Lib.hid (HQ13.out.trans hf14 (by simp))
                      clear hf14
                      rw [MZ.out]
                      go_wp2_with fail
                      refine (Match_l (G5.out.fr HQ14.out) { data := #[] } (by decide)).mono ?_
                      rintro e w15 ⟨rfl, hf15⟩
                      have HF15 := Lib.hid (HF14.out.trans hf15 (by simp)); have HQ15 := Lib.hid (HQ14.out.trans hf15 (by simp))
                      clear hf15
                      rw [R3.out]
                      go_wp2_with fail
                      exact HQ.out _ _ ⟨rfl, HF15.out⟩
                    | true =>
                      cases y with
                      | false =>
                        go_wp2_with fail
                        refine (Match_l (G4.out.fr HQ12.out) t (by omega)).mono ?_
                        rintro e w13 ⟨rfl, hf13⟩
                        have HF13 := Lib.hid (HF12.out.trans hf13 (by simp)); have HQ13 := Lib.hid (HQ12.out.trans hf13 (by simp))
                        clear hf13
                        rw [R2.out]
                        go_wp2_with fail
                        refine (Match_l (G5.out.fr HQ13.out) { data := #[] } (by decide)).mono ?_
                        rintro e w14 ⟨rfl, hf14⟩
                        have HF14 := Lib.hid (HF13.out.trans hf14 (by simp)); have HQ14 := Lib.hid (HQ13.out.trans hf14 (by simp))
                        clear hf14
                        rw [R3.out]
                        go_wp2_with fail
                        refine (Match_l (G5.out.fr HQ14.out) t (by omega)).mono ?_
                        rintro e w15 ⟨rfl, hf15⟩
                        have HF15 := Lib.hid (HF14.out.trans hf15 (by simp)); have HQ15 := Lib.hid (HQ14.out.trans hf15 (by simp))
                        clear hf15
                        rw [R4.out (by simp)]
                        go_wp2_with fail
                        refine (Match_l (G5.out.fr HQ15.out) (t ++ t) S2).mono ?_
                        rintro e w16 ⟨rfl, hf16⟩
                        have HF16 := Lib.hid (HF15.out.trans hf16 (by simp)); have HQ16 := Lib.hid (HQ15.out.trans hf16 (by simp))
                        clear hf16
                        rw [R5.out (by simp)]
                        go_wp2_with fail
                        have HC := Lib.hid (Match_l (G3.out.fr HQ16.out) (t ++ u) S1)
                        generalize langB (.pick [.row [pa, pb]]) (chars (t ++ u)) = r at *
                        refine (HC.out).mono ?_
                        rintro e w17 ⟨rfl, hf17⟩
                        have HF17 := Lib.hid (HF16.out.trans hf17 (by simp)); have HQ17 := Lib.hid (HQ16.out.trans hf17 (by simp))
                        clear hf17
                        cases r <;> go_wp2_with fail
                        all_goals exact HQ.out _ _ ⟨rfl, HF17.out⟩
                      | true =>
                        go_wp2_with fail
                        refine (Match_l (G3.out.fr HQ12.out) (t ++ u) S1).mono ?_
                        rintro e w13 ⟨rfl, hf13⟩
                        have HF13 := Lib.hid (HF12.out.trans hf13 (by simp)); have HQ13 := Lib.hid (HQ12.out.trans hf13 (by simp))
                        clear hf13
                        rw [R1.out (by simp) (by simp)]
                        go_wp2_with fail
                        refine (Match_l (G4.out.fr HQ13.out) t (by omega)).mono ?_
                        rintro e w14 ⟨rfl, hf14⟩
                        have HF14 := Lib.hid (HF13.out.trans hf14 (by simp)); have HQ14 := Lib.hid (HQ13.out.trans hf14 (by simp))
                        clear hf14
                        rw [R2.out]
                        go_wp2_with fail
                        refine (Match_l (G5.out.fr HQ14.out) { data := #[] } (by decide)).mono ?_
                        rintro e w15 ⟨rfl, hf15⟩
                        have HF15 := Lib.hid (HF14.out.trans hf15 (by simp)); have HQ15 := Lib.hid (HQ14.out.trans hf15 (by simp))
                        clear hf15
                        rw [R3.out]
                        go_wp2_with fail
                        refine (Match_l (G5.out.fr HQ15.out) t (by omega)).mono ?_
                        rintro e w16 ⟨rfl, hf16⟩
                        have HF16 := Lib.hid (HF15.out.trans hf16 (by simp)); have HQ16 := Lib.hid (HQ15.out.trans hf16 (by simp))
                        clear hf16
                        rw [R4.out (by simp)]
                        go_wp2_with fail
                        refine (Match_l (G5.out.fr HQ16.out) (t ++ t) S2).mono ?_
                        rintro e w17 ⟨rfl, hf17⟩
                        have HF17 := Lib.hid (HF16.out.trans hf17 (by simp)); have HQ17 := Lib.hid (HQ16.out.trans hf17 (by simp))
                        clear hf17
                        rw [R5.out (by simp)]
                        go_wp2_with fail
                        refine (Match_l (G3.out.fr HQ17.out) (t ++ u) S1).mono ?_
                        rintro e w18 ⟨rfl, hf18⟩
                        have HF18 := Lib.hid (HF17.out.trans hf18 (by simp)); have HQ18 := Lib.hid (HQ17.out.trans hf18 (by simp))
                        clear hf18
                        rw [R1.out (by simp) (by simp)]
                        go_wp2_with fail
                        exact HQ.out _ _ ⟨rfl, HF18.out⟩
                  · have d5 : (e5 != 0) = true := by simp [e50]
                    clear e10 e20 e30 e40 e50
                    go_wp2_with fail
                    exact HQ.out _ _ ⟨rfl, HF10.out⟩
                · have d4 : (e4 != 0) = true := by simp [e40]
                  clear e10 e20 e30 e40
                  go_wp2_with fail
                  exact HQ.out _ _ ⟨rfl, HF10.out⟩
              · have d3 : (e3 != 0) = true := by simp [e30]
                clear e10 e20 e30
                go_wp2_with fail
                exact HQ.out _ _ ⟨rfl, HF10.out⟩
            · have d2 : (e2 != 0) = true := by simp [e20]
              clear e10 e20
              go_wp2_with fail
              exact HQ.out _ _ ⟨rfl, HF10.out⟩
          · have d1 : (e1 != 0) = true := by simp [e10]
            clear e10
            go_wp2_with fail
            exact HQ.out _ _ ⟨rfl, HF10.out⟩

end Go.Proofs.Ytnhlgjjdpappkaa
