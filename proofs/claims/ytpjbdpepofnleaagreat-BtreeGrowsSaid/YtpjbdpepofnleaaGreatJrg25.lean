/-
  Joined by join.py: Yk Yg Yf Ym Yn
-/
import Derived.Test.YtpjbdpepofnleaaGreatJrg24
section
namespace Go.Proofs.YtpjbdpepofnleaaGreat
open Go.RowKit Go.ChangeMaps Go.MapKept Go.Maps Go.Sort Go.Shelf
set_option maxRecDepth 100000 in
set_option maxHeartbeats 16000000 in
theorem ranges_walk (W : World) (v va vb vc : Value) (l : List (Value × Ky)) (ka kb kc : Ky) (most : Int) (hv : ArgBB W v l) (ha : ArgBytes W va ka) (hb : ArgBytes W vb kb) (hc : ArgBytes W vc kc) :
    Calls Tryz.prog 3 #[v, va, vb, vc, .int .i64 most] W fun e w' => e = .returned (.bool true) ∧ Fr [] W w' := by
  obtain ⟨A, c, gl, off, rfl, hmax, hel⟩ := hv
  obtain ⟨_, ga, hba, hga⟩ := ha
  obtain ⟨_, gb, hbb, hgb⟩ := hb
  obtain ⟨_, gc, hbc, hgc⟩ := hc
  obtain ⟨Aa, ca, oa, rfl, hca, haa⟩ := id hba
  obtain ⟨Ab, cb, ob, rfl, hcb, hab⟩ := id hbb
  obtain ⟨Ac, cc, oc, rfl, hcc, hac⟩ := id hbc
  have HBA := Lib.hid hba; have HBB := Lib.hid hbb; have HBC := Lib.hid hbc; have HGA := Lib.hid hga; have HGB := Lib.hid hgb; have HGC := Lib.hid hgc
  have HAB := Lib.hid hab; have HAC := Lib.hid hac
  clear hba hbb hbc hga hgb hgc hca hcb hcc haa hab hac
  obtain ⟨S, hS⟩ : ∃ S : Int, wrap64 (wrap64 ((ka.length : Int) + (kb.length : Int)) + (kc.length : Int)) = S := ⟨_, rfl⟩
  refine calls_post fun R HQ => ?_
  go_enter Tryz.func3, Tryz.ntmps3
  go_wp2_with fail
  refine (awake10 W).mono ?_
  rintro e w1 ⟨rfl, hf1⟩
  have HF1 := Lib.hid hf1; have HEL := Lib.hid hel
  clear hf1 hel
  have HX1 := Lib.hid (HQ.out _ _ ⟨rfl, HF1.out⟩)
  by_cases h100 : 100 < l.length
  · have h100I : (100 : Int) < (l.length : Int) := by omega
    go_wp2_with fail
    exact HX1.out
  · have h100I : ¬ (100 : Int) < (l.length : Int) := by omega
    have HL100 : Hid (l.length ≤ 100) := Lib.hid (by omega)
    by_cases hS3 : 300 < S
    · go_wp2_with fail
      exact HX1.out
    · go_wp2_with fail
      refine (made_X w1 (n := 300) (by omega) (by omega)).mono ?_
      rintro e w2 ⟨dk, g, st, s, X, rfl, hm⟩
      have HM := Lib.hid hm
      have HS3 := Lib.hid hS3; have HSS := Lib.hid hS
      clear hm hS3 hS
      go_wp2_with fail
      go_loopw [14] (fun v14 wr => ∃ (i : Nat) (s' : PS) (E : En) (X' : Nat → Prop), i ≤ l.length ∧ v14 = .int .i64 (i : Int) ∧ StX w1 wr dk g st s' X' (only 2 E) ∧ s'.n = 300 ∧ E.length ≤ i ∧ ∀ k, k < w1.heap.size → X' k) (fun v14 _ => l.length - (intOf v14).toNat)
      case atStart => exact ⟨0, s, [], X, Nat.zero_le _, rfl, by rw [only_nil]; exact HM.out.st, HM.out.n, Nat.le_refl _, HM.out.old⟩
      case round =>
        rename World => wl
        obtain ⟨i, s', E, X', hil, rfl, hst, hn, hlen, hold⟩ := hrel
        have ST := Lib.hid hst; have HN := Lib.hid hn; have HLEN := Lib.hid hlen; have HOLD := Lib.hid hold
        clear hst hn hlen hold
        have HFR : Hid (Fr [] W wl) := Lib.hid (HF1.out.trans ST.out.px.frame (by simp))
        by_cases hi : i < l.length
        · obtain ⟨o, ho⟩ : ∃ o, l[i]? = some o := ⟨_, List.getElem?_eq_getElem hi⟩
          obtain ⟨hA, hcell, hby⟩ := HEL.out i o ho
          subst hA
          have cr := HFR.out.keep hcell
          obtain ⟨ov, key⟩ := o
          obtain ⟨hbl, gk, hbk, hgk⟩ := hby
          simp only at cr hbl hbk hgk hcell
          obtain ⟨Ak, ck, okk, rfl, hck, hak⟩ := id hbk
          have HX3 := Lib.hid (HQ.out (.returned (.bool true)) wl ⟨rfl, HFR.out⟩)
          have HBK := Lib.hid hbk; have HGK := Lib.hid hgk; have HCE := Lib.hid hcell
          clear ho hcell hbk hgk hck hak
          have hwi : IntKind.i64.wrap ((i : Int) + 1) = (i : Int) + 1 := by rw [IntKind.wrap_i64]; omega
          by_cases h200 : 200 < key.length
          · have h200I : (200 : Int) < (key.length : Int) := by omega
            go_wp2_with fail
            exact HX3.out
          · have h200I : ¬ (200 : Int) < (key.length : Int) := by omega
            have hu8 : IntKind.u8.wrap (i : Int) = ((UInt8.ofNat i).toNat : Int) := u8_wrap i (by have := HL100.out; omega)
            obtain ⟨bi, hbi⟩ : ∃ bi, bi = UInt8.ofNat i := ⟨_, rfl⟩
            rw [← hbi] at hu8
            clear hbi
            go_wp2_with fail
            have hfa : Fr [] wl (wl.alloc (.cells #[.int .u8 (bi.toNat : Int)] 5)) := (Fr.refl [] wl).alloc _
            have hba : BytesAt (wl.alloc (.cells #[.int .u8 (bi.toNat : Int)] 5)) (.slice (some ⟨wl.heap.size, 0, none⟩) 1 1) [bi] wl.heap.size := bytes_mark (w := wl) (C := [bi]) _ rfl
            have hza : (wl.alloc (.cells #[.int .u8 (bi.toNat : Int)] 5)).heap.size = wl.heap.size + 1 := by rw [World.size_alloc]
            generalize wl.alloc (.cells #[.int .u8 (bi.toNat : Int)] 5) = wv at *
            have SV := Lib.hid (ST.out.fr hfa)
            have HOLD2 := Lib.hid (fun k hk => Or.inl (b := wl.heap.size ≤ k ∧ k < wv.heap.size) (HOLD.out k hk))
            have HBK2 := Lib.hid (HBK.out.fr (HFR.out.trans hfa (by simp)) (by simp))
            have cr := (HFR.out.trans hfa (by simp)).keep HCE.out
            have HFA := Lib.hid hfa; have HBV := Lib.hid hba; have HZA := Lib.hid hza
            clear hfa hba hza
            by_cases hok : 1 ≤ key.length ∧ key.length ≤ 96
            · have hk0 : (0 : Int) < (key.length : Int) := by omega
              have hk96 : (key.length : Int) ≤ 96 := by omega
              have HXK : Hid (X' gk) := Lib.hid (HOLD.out gk (by
                have := HF1.out.size
                rcases HGK.out with h | h
                · rw [h] at hok; exact absurd hok.1 (by simp)
                · omega))
              have HPT := Lib.hid (Put_X SV.out (t := 2) (by omega) HBK2.out (.inl HXK.out) HBV.out (.inr ⟨Nat.le_refl _, by have := HZA.out; omega⟩) hok.1 hok.2 (by simp) (by rw [only_at]; have := HLEN.out; omega))
              clear hok
              refine HPT.out.mono ?_
              rintro e w4 hend
              obtain ⟨s4, rfl, hn4, h4⟩ := put_only hend HN.out (by have := HLEN.out; have := HL100.out; omega)
              have cr := (HF1.out.trans h4.px.frame (by simp)).keep HCE.out
              have HX : Hid (∃ (j : Nat) (s' : PS) (E : En) (X' : Nat → Prop), j ≤ l.length ∧ Value.int .i64 ((i : Int) + 1) = .int .i64 (j : Int) ∧ StX w1 w4 dk g st s' X' (only 2 E) ∧ s'.n = 300 ∧ E.length ≤ j ∧ ∀ k, k < w1.heap.size → X' k) := Lib.hid ⟨i + 1, s4, _, _, hi, rfl, h4, hn4, by have := putE_len E key [bi]; have := HLEN.out; omega, HOLD2.out⟩
              clear hend h4 hn4 HPT
              go_wp2_with fail
              go_roundw
              case rel => exact HX.out
              case measure => simp [intOf]; omega
            · have hmay : mayB ((2 : Nat) : Int) key = false := by
                unfold mayB
                by_cases h1 : 0 < key.length
                · have h2 : ¬ key.length ≤ 96 := by omega
                  simp [h2]
                · simp [h1]
              have HPT := Lib.hid (Put_bad (st := st) (vv := .slice (some ⟨wl.heap.size, 0, none⟩) 1 1) HBK2.out hmay)
              have HX : Hid (∃ (j : Nat) (s' : PS) (E : En) (X' : Nat → Prop), j ≤ l.length ∧ Value.int .i64 ((i : Int) + 1) = .int .i64 (j : Int) ∧ StX w1 wv dk g st s' X' (only 2 E) ∧ s'.n = 300 ∧ E.length ≤ j ∧ ∀ k, k < w1.heap.size → X' k) := Lib.hid ⟨i + 1, s', E, _, hi, rfl, SV.out, HN.out, by have := HLEN.out; omega, HOLD2.out⟩
              refine HPT.out.mono ?_
              rintro e w4 ⟨rfl, rfl⟩
              by_cases h1 : 0 < key.length
              · have hk0 : (0 : Int) < (key.length : Int) := by omega
                have hk96 : ¬ (key.length : Int) ≤ 96 := by omega
                clear hok hmay
                go_wp2_with fail
                go_roundw
                case rel => exact HX.out
                case measure => simp [intOf]; omega
              · have hk0 : ¬ (0 : Int) < (key.length : Int) := by omega
                clear hok hmay
                go_wp2_with fail
                go_roundw
                case rel => exact HX.out
                case measure => simp [intOf]; omega
        · obtain rfl : i = l.length := by omega
          have hnl : ¬ (l.length : Int) < (l.length : Int) := by omega
          have HQW := Lib.hid (fun w' (h : Fr [] wl w') => HQ.out (.returned (.bool true)) w' ⟨rfl, HFR.out.trans h (by simp)⟩)
          have HX3 := Lib.hid (HQW.out wl (Fr.refl _ _))
          have rsa := run_string_of (P := Tryz.prog) (src := 23) (dst := 9) Tryz.underlying23 Tryz.underlying5 Tryz.underlying9 (HBA.out.fr HFR.out (by simp))
          have rsb := run_string_of (P := Tryz.prog) (src := 23) (dst := 9) Tryz.underlying23 Tryz.underlying5 Tryz.underlying9 (HBB.out.fr HFR.out (by simp))
          have rsc := run_string_of (P := Tryz.prog) (src := 23) (dst := 9) Tryz.underlying23 Tryz.underlying5 Tryz.underlying9 (HBC.out.fr HFR.out (by simp))
          have hab := gtr_of ka kb
          have hbc := gtr_of kb kc
          obtain ⟨p1, hp1⟩ : ∃ p, Op.bytesLess ka kb = p := ⟨_, rfl⟩
          obtain ⟨p2, hp2⟩ : ∃ p, (ka == kb) = p := ⟨_, rfl⟩
          obtain ⟨q1, hq1⟩ : ∃ p, Op.bytesLess kb kc = p := ⟨_, rfl⟩
          obtain ⟨q2, hq2⟩ : ∃ p, (kb == kc) = p := ⟨_, rfl⟩
          rw [hp1, hp2] at hab
          rw [hq1, hq2] at hbc
          by_cases h1 : klt kb ka
          · simp only [h1, decide_true] at hab
            clear h1
            go_wp2_with fail
            exact HX3.out
          · have HAB1 := Lib.hid h1
            simp only [h1, decide_false] at hab
            clear h1
            by_cases h2 : klt kc kb
            · simp only [h2, decide_true] at hbc
              clear h2
              go_wp2_with fail
              exact HX3.out
            · have HBC1 := Lib.hid h2
              simp only [h2, decide_false] at hbc
              clear h2
              by_cases h3 : kb.length = 0
              · have h3I : (kb.length : Int) = 0 := by omega
                have h3B : ((kb.length : Int) == 0) = true := by rw [h3I]; rfl
                clear h3
                go_wp2_with fail
                exact HX3.out
              · have h3I : ¬ (kb.length : Int) = 0 := by omega
                have h3B : ((kb.length : Int) == 0) = false := by rw [beq_eq_false_iff_ne]; exact h3I
                by_cases h4 : kc.length = 0
                · have h4I : (kc.length : Int) = 0 := by omega
                  have h4B : ((kc.length : Int) == 0) = true := by rw [h4I]; rfl
                  clear h4
                  go_wp2_with fail
                  exact HX3.out
                · have h4I : ¬ (kc.length : Int) = 0 := by omega
                  have h4B : ((kc.length : Int) == 0) = false := by rw [beq_eq_false_iff_ne]; exact h4I
                  obtain ⟨rfl, -⟩ := HAB.out (by omega)
                  obtain ⟨rfl, -⟩ := HAC.out (by omega)
                  clear HAB HAC
                  obtain ⟨qa, ha2, hxa⟩ := key_x HBA.out HGA.out HFR.out HOLD.out HF1.out.size ST.out.xs
                  obtain ⟨qb, hb2, hxb⟩ := key_x HBB.out HGB.out HFR.out HOLD.out HF1.out.size ST.out.xs
                  obtain ⟨qc, hc2, hxc⟩ := key_x HBC.out HGC.out HFR.out HOLD.out HF1.out.size ST.out.xs
                  have BA := Lib.hid ha2; have XA := Lib.hid hxa; have BB := Lib.hid hb2; have XB := Lib.hid hxb; have BC := Lib.hid hc2; have XC := Lib.hid hxc
                  have RISE := Lib.hid (show Rise E by have := stx_rise ST.out (t := 2) (by omega); rwa [only_at] at this)
                  have F0 : Hid (Fr [] wl wl) := Lib.hid (Fr.refl _ _)
                  have HE100 : Hid (E.length ≤ 1000000) := Lib.hid (by have := HLEN.out; have := HL100.out; omega)
                  clear ha2 hxa hb2 hxb hc2 hxc
                  have HRG := Lib.hid (Range_X (ST.out.stay F0.out) (t := 2) (by omega) (low := ka) (up := some kb) (most := 1000) (BA.out.fr F0.out (by simp)) XA.out ⟨_, _, _, qb, rfl, BB.out.fr F0.out (by simp), XB.out⟩ (by omega) (by rw [only_at]; exact HE100.out))
                  go_wp2_with fail
                  refine HRG.out.mono ?_
                  rintro e w5 hend
                  obtain ⟨E1, A1, c1, hee, rfl, hrow, hfr⟩ := range_row hend RISE.out
                  have EQ1 := Lib.hid hee; have R1 := Lib.hid hrow; have F5 := Lib.hid (F0.out.trans hfr (by simp)); have D5 := Lib.hid hfr
                  clear hend hee hrow hfr HRG
                  clear rsa rsb rsc hab hbc
                  have HRG := Lib.hid (Range_X (ST.out.stay F5.out) (t := 2) (by omega) (low := kb) (up := some kc) (most := 1000) (BB.out.fr F5.out (by simp)) XB.out ⟨_, _, _, qc, rfl, BC.out.fr F5.out (by simp), XC.out⟩ (by omega) (by rw [only_at]; exact HE100.out))
                  go_wp2_with fail
                  refine HRG.out.mono ?_
                  rintro e w6 hend
                  obtain ⟨E2, A2, c2, hee, rfl, hrow, hfr⟩ := range_row hend RISE.out
                  have EQ2 := Lib.hid hee; have R2 := Lib.hid hrow; have F6 := Lib.hid (F5.out.trans hfr (by simp)); have D6 := Lib.hid hfr
                  clear hend hee hrow hfr HRG
                  have HRG := Lib.hid (Range_X (ST.out.stay F6.out) (t := 2) (by omega) (low := ka) (up := some kc) (most := 1000) (BA.out.fr F6.out (by simp)) XA.out ⟨_, _, _, qc, rfl, BC.out.fr F6.out (by simp), XC.out⟩ (by omega) (by rw [only_at]; exact HE100.out))
                  go_wp2_with fail
                  refine HRG.out.mono ?_
                  rintro e w7 hend
                  obtain ⟨E3, A3, c3, hee, rfl, hrow, hfr⟩ := range_row hend RISE.out
                  have EQ3 := Lib.hid hee; have R3 := Lib.hid hrow; have F7 := Lib.hid (F6.out.trans hfr (by simp)); have D7 := Lib.hid hfr
                  clear hend hee hrow hfr HRG
                  obtain ⟨k, hk63, hmk⟩ := and_mask most 63 (by omega)
                  have hmk' : bits .and .i64 most 63 = (k : Int) := hmk
                  clear hmk
                  have HRG := Lib.hid (Range_X (ST.out.stay F7.out) (t := 2) (by omega) (low := ka) (up := some kc) (most := k) (BA.out.fr F7.out (by simp)) XA.out ⟨_, _, _, qc, rfl, BC.out.fr F7.out (by simp), XC.out⟩ (by omega) (by rw [only_at]; exact HE100.out))
                  go_wp2_with fail
                  refine HRG.out.mono ?_
                  rintro e w8 hend
                  obtain ⟨E4, A4, c4, hee, rfl, hrow, hfr⟩ := range_row hend RISE.out
                  have EQ4 := Lib.hid hee; have R4 := Lib.hid hrow; have F8 := Lib.hid (F7.out.trans hfr (by simp)); have D8 := Lib.hid hfr
                  clear hend hee hrow hfr HRG
                  clear hmk'
                  obtain ⟨happ, hl3, htake, hmin⟩ := two_parts (k := k) RISE.out (by have := HLEN.out; have := HL100.out; omega) HAB1.out HBC1.out EQ1.out EQ2.out EQ3.out EQ4.out
                  have G1 := Lib.hid (R1.out.fr (D6.out.trans (D7.out.trans D8.out (by simp)) (by simp))); have G2 := Lib.hid (R2.out.fr (D7.out.trans D8.out (by simp))); have G3 := Lib.hid (R3.out.fr D8.out); have G4 := R4
                  have APP := Lib.hid happ; have L3 := Lib.hid hl3; have TAKE := Lib.hid htake
                  have hmin2 : min (k : Int) (E3.length : Int) = (E4.length : Int) := by omega
                  have L12 : Hid (E1.length + E2.length ≤ 100) := Lib.hid (by rw [← List.length_append, happ]; exact hl3)
                  have HL4 : Hid (E4.length ≤ E3.length) := Lib.hid (by omega)
                  clear happ hl3 htake hmin
                  have h0 : 0 < w8.heap.size := by have := ST.out.blk.lt; have := F8.out.size; omega
                  have H0 := Lib.hid h0
                  clear h0
                  go_upto_region 20 with fail
                  refine wp_region_lit ?_
                  refine wpList_plain rfl fun K hK => ?_
                  obtain ⟨te, hte, _, _, _⟩ := info_get info_en
                  refine wp_build_none rfl Tryz.underlying31 hte (hK _ _ ?_)
                  simp only [nrm]
                  clear hK
                  have hf9 : Fr [] w8 (w8.alloc (.cells #[] 39)) := (Fr.refl _ _).alloc _
                  have ha9 : EnAcc w8.heap.size (w8.alloc (.cells #[] 39)) (.slice (some ⟨w8.heap.size, 0, none⟩) 0 0) [] := ⟨[], World.ownsRow_made w8 #[] 0 (Nat.le_refl _) (Nat.zero_le _) rfl, trivial⟩
                  generalize w8.alloc (.cells #[] 39) = w9 at *
                  refine wpList_plain rfl fun K hK => ?_
                  refine wp_run_same (v := ?au2_1) ?yu2_1 (hK _ _ ?_)
                  case yu2_1 => go_simp <;> with_reducible rfl
                  clear hK K
                  simp only [nrm]
                  refine wpList_plain rfl fun K hK => ?_
                  refine wp_append_en (w0 := w8) (.tmp 139) (.tmp 140) rfl H0.out hf9 rfl ha9 rfl G1.out (by have := L12.out; simp only [List.length_nil]; omega) fun H1 A9 c9 wa hh1 hacc hfa => hK _ _ ?_
                  simp only [nrm]
                  clear hK ha9 hf9
                  rw [List.nil_append] at hh1
                  subst hh1
                  refine wpList_plain rfl fun K hK => ?_
                  refine wp_run_same (v := ?au3_3) ?yu3_3 (hK _ _ ?_)
                  case yu3_3 => go_simp <;> with_reducible rfl
                  clear hK K
                  simp only [nrm]
                  refine wpList_plain rfl fun K hK => ?_
                  refine wp_append_en (w0 := w8) (.tmp 141) (.tmp 142) rfl H0.out hfa rfl hacc rfl G2.out (by have := L12.out; omega) fun G A10 c10 wb hG hacc2 hfb => hK _ _ ?_
                  simp only [nrm]
                  clear hK
                  have HG := Lib.hid (hG.trans APP.out)
                  clear hG
                  refine wpList_plain rfl fun K hK => ?_
                  refine wp_run_same (v := ?au4_5) ?yu4_5 (hK _ _ ?_)
                  case yu4_5 => go_simp <;> with_reducible rfl
                  clear hK K
                  simp only [nrm]
                  refine wpList_nil ?_
                  have hG := HG.out
                  clear HG
                  subst hG
                  have HT1 := Lib.hid (theirs_any hacc2.sl (by have := L3.out; omega))
                  have FB := Lib.hid hfb
                  clear hacc hfa hacc2 hfb hte
                  go_wp2_with fail
                  refine HT1.out.mono ?_
                  rintro e wt ⟨vt, rfl, het, hft⟩
                  have HT2 := Lib.hid (theirs_any (G3.out.sl.fr (FB.out.trans hft (by simp))) (by have := L3.out; omega))
                  have HET := Lib.hid het; have FT := Lib.hid (FB.out.trans hft (by simp))
                  clear het hft HT1
                  go_wp2_with fail
                  refine HT2.out.mono ?_
                  rintro e wu ⟨vu, rfl, heu, hfu⟩
                  have HS := Lib.hid (same_any (HET.out.fr hfu) heu (by have := L3.out; omega))
                  have FU := Lib.hid (FT.out.trans hfu (by simp))
                  clear heu hfu HT2 HET
                  go_wp2_with fail
                  refine HS.out.mono ?_
                  rintro e wv ⟨rfl, hfv⟩
                  have FV := Lib.hid (FU.out.trans hfv (by simp))
                  clear hfv HS
                  have hsl := slice_to_en A3 G.length c3 E4.length (by obtain ⟨_, _, h1, h2⟩ := R3.out.shape; injection h1 with _ _ h3; have := HL4.out; omega)
                  have HT3 := Lib.hid (theirs_any (G4.out.sl.fr (FV.out.drew)) (by have := L3.out; have := HL4.out; omega))
                  have G5 := Lib.hid ((G3.out.sl.take HL4.out).fr (FV.out.drew))
                  rw [← TAKE.out] at G5
                  go_upto_region 23 with fail
                  refine wp_region_K (fun _ => True) [0, 1, 2, 4, 5, 6, 7, 10] (by kernel_rfl) ?_
                  refine wpAnyK_take (i := 0) (some 175) ?vq5_0 rfl rfl (by kernel_rfl) (fun _ _ _ h => h) trivial (.inl ⟨rfl, fun W hW => ?yq5_0⟩) ?_
                  case yq5_0 => go_simp <;> with_reducible rfl
                  simp only [nrm]
                  refine wpAnyK_take (i := 1) (some 176) ?vq5_1 rfl rfl (by kernel_rfl) (fun _ _ _ h => h) trivial (.inl ⟨rfl, fun W hW => ?yq5_1⟩) ?_
                  case yq5_1 => go_simp <;> with_reducible rfl
                  simp only [nrm]
                  refine wpAnyK_take (i := 2) (some 177) ?vq5_2 rfl rfl (by kernel_rfl) (fun _ _ _ h => h) trivial (.inl ⟨rfl, fun W hW => ?yq5_2⟩) ?_
                  case yq5_2 => go_simp <;> with_reducible rfl
                  simp only [nrm]
                  refine wpAnyK_take (i := 4) (some 179) ?vq5_4 rfl rfl (by kernel_rfl) (fun _ _ _ h => h) trivial (.inl ⟨rfl, fun W hW => ?yq5_4⟩) ?_
                  case yq5_4 => go_simp <;> with_reducible rfl
                  simp only [nrm]
                  refine wpAnyK_take (i := 5) (some 180) ?vq5_5 rfl rfl (by kernel_rfl) (fun _ _ _ h => h) trivial (.inl ⟨rfl, fun W hW => ?yq5_5⟩) ?_
                  case yq5_5 => go_simp <;> with_reducible rfl
                  simp only [nrm]
                  refine wpAnyK_take (i := 6) (some 181) ?vq5_6 rfl rfl (by kernel_rfl) (fun _ _ _ h => h) trivial (.inl ⟨rfl, fun W hW => ?yq5_6⟩) ?_
                  case yq5_6 => go_simp <;> with_reducible rfl
                  simp only [nrm]
                  refine wpAnyK_take (i := 7) (some 182) (.slice A3 E4.length c3) rfl rfl (by kernel_rfl) (fun _ _ _ h => h) trivial (.inl ⟨rfl, fun W' _ => by simp [execOp, Act.eval, hsl, Result.andThen]⟩) ?_
                  simp only [nrm]
                  refine wpAnyK_stepg (j := 3) (some 178) rfl rfl (by kernel_rfl) rfl fun K hK => ?_
                  refine wp_call_f (l := [.tmp 177]) rfl [.slice A4 E4.length c4] rfl (enter_theirs _) (HT3.out.mono ?_)
                  rintro e wt2 ⟨vt, rfl, het, hft⟩
                  have HET := Lib.hid het; have FT2 := Lib.hid hft
                  have HT4 := Lib.hid (theirs_any (G5.out.fr hft) (by have := L3.out; have := HL4.out; omega))
                  clear het hft HT3
                  refine ⟨_, rfl, hK _ _ (fun _ => trivial) ?_⟩
                  simp only [nrm]
                  clear hK
                  refine wpAnyK_stepg (j := 8) (some 183) rfl rfl (by kernel_rfl) rfl fun K hK => ?_
                  refine wp_call_f (l := [.tmp 182]) rfl [.slice A3 E4.length c3] rfl (enter_theirs _) (HT4.out.mono ?_)
                  rintro e wu2 ⟨vu, rfl, heu, hfu⟩
                  have HS := Lib.hid (same_any (HET.out.fr hfu) heu (by have := L3.out; have := HL4.out; omega))
                  have FU2 := Lib.hid (FT2.out.trans hfu (by simp))
                  clear heu hfu HT4
                  refine ⟨_, rfl, hK _ _ (fun _ => trivial) ?_⟩
                  simp only [nrm]
                  clear hK
                  refine wpAnyK_stepg (j := 9) (some 184) rfl rfl (by kernel_rfl) rfl fun K hK => ?_
                  refine wp_call_f (l := [.tmp 178, .tmp 183]) rfl [vt, vu] rfl (enter_same _) (HS.out.mono ?_)
                  rintro e wy ⟨rfl, hfy⟩
                  have HX := Lib.hid (HQW.out wy (((F8.out.trans (FV.out.drew) (by simp)).trans FU2.out (by simp)).trans hfy (by simp)))
                  clear hfy HS
                  refine ⟨_, rfl, hK _ _ (fun _ => trivial) ?_⟩
                  simp only [nrm]
                  clear hK
                  refine wpAnyK_take (i := 10) (some 185) ?vq5_10 rfl rfl (by kernel_rfl) (fun _ _ _ h => h) trivial (.inl ⟨rfl, fun W hW => ?yq5_10⟩) ?_
                  case yq5_10 => go_simp <;> with_reducible rfl
                  simp only [nrm]
                  refine wpAnyK_step (j := 11) (some 10) rfl rfl (by kernel_rfl) rfl fun K hK => ?_
                  refine wp_run_same (v := ?aq5_11) ?yq5_11 (hK _ _ (fun _ => trivial) ?_)
                  case yq5_11 => go_simp <;> with_reducible rfl
                  simp only [nrm]
                  refine wpAnyK_done (by kernel_rfl) ?_ _
                  go_wp2_with fail
                  exact HX.out
end Go.Proofs.YtpjbdpepofnleaaGreat
end
section
namespace Go.Proofs.YtpjbdpepofnleaaGreat
open Go.RowKit Go.ChangeMaps Go.MapKept Go.Maps Go.Sort Go.Shelf
section
variable {w0 w : World} {dk g st : Nat} {s : PS} {X : Nat → Prop} {E : Nat → En}
set_option maxRecDepth 100000 in
set_option maxHeartbeats 8000000 in
/-- Height. -/
theorem Height_X (h : StX w0 w dk g st s X E) {t : Nat} (ht : t < 8) (hE : (E t).length ≤ 1000000) :
    Calls Tryz.prog 17 #[.pointer (some ⟨st, 0, none⟩), .int .i64 (t : Int)] w fun e w' => ∃ m : Nat, e = .returned (.int .i64 (m : Int)) ∧ Fr [] w w' ∧ (m = 0 ↔ E t = []) ∧ (0 < m → m ≤ 40 ∧ 2 ^ (m - 1) ≤ (E t).length) := by
  obtain ⟨_, _, P, F, hF⟩ := h.store
  obtain ⟨c, hc⟩ : ∃ c, c = beginC s.page s.n := ⟨_, rfl⟩
  rw [← hc] at hF
  have hpc := h.pgc
  rw [← hc] at hpc
  have HC := Lib.hid hc; have HPC := Lib.hid hpc; have HF := Lib.hid hF
  have HEE := Lib.hid hE
  have HBG := Lib.hid h.begin
  clear h hc hpc hF hE
  have ht8 : ((t : Nat) : Int) < 8 := by omega
  have ht8' : ¬ (8 : Int) ≤ ((t : Nat) : Int) := by omega
  have ht0 : ¬ ((t : Nat) : Int) < 0 := by omega
  refine calls_post fun R HQ => ?_
  go_enter Tryz.func17, Tryz.ntmps17
  go_wp2_with fail
  refine HBG.out.mono ?_
  rintro e w1 ⟨bc, bn, bs, rfl, hch⟩
  rw [← HC.out] at hch
  have HCH := Lib.hid hch
  have cr := hch.blk.at_ (chC_root c g bn bs ht)
  clear hch HBG
  by_cases hr : c.roots t = 0
  · rw [hr] at cr
    have hEt : E t = [] := by
      rcases HF.out.tree t ht with ⟨_, h, _⟩ | ⟨h, _⟩
      · exact h
      · exact absurd hr h
    have HX := Lib.hid (HQ.out (.returned (.int .i64 0)) w1 ⟨0, rfl, HCH.out.fr, ⟨fun _ => hEt, fun _ => rfl⟩, fun h => absurd h (by omega)⟩)
    have HR0 := Lib.hid hr
    clear hr hEt
    go_wp2_with fail
    exact HX.out
  · have hrI : ¬ ((c.roots t : Nat) : Int) = 0 := by omega
    have hrb : (((c.roots t : Nat) : Int) == 0) = false := by simpa using hrI
    obtain ⟨hh, P', hs, hht⟩ : ∃ hh P', Sub c.N 1 hh (c.roots t) none none (E t) P' ∧ hh < 40 := by
      rcases HF.out.tree t ht with ⟨h, _, _⟩ | ⟨_, hh, hs⟩
      · exact absurd h hr
      · exact ⟨hh, _, hs, height_lt hs (by have := HEE.out; omega)⟩
    have hne : E t ≠ [] := (Sub.fine.all _ _ _ _ _ hs).2.2
    have hcnt := hs.count.2
    have HX := Lib.hid (fun w' (hf : Fr [] w w') => HQ.out (.returned (.int .i64 ((hh + 1 : Nat) : Int))) w' ⟨hh + 1, rfl, hf, ⟨fun h => absurd h (by omega), fun h => absurd h hne⟩, fun _ => ⟨by omega, by simpa using hcnt⟩⟩)
    have HR0 := Lib.hid hr; have HS := Lib.hid hs; have HHT := Lib.hid hht
    clear hr hs hht hne hcnt
    go_wp2_with fail
    go_loopw [7, 8] (fun v7 v8 wr => ∃ j r kk : Nat, j + r = hh ∧ v8 = .int .i64 ((j : Int) + 1) ∧ v7 = .int .i64 (kk : Int) ∧ (∃ lo hi E' P', Sub c.N 1 r kk lo hi E' P') ∧ ChAt w wr g bc bn bs (Dm_ X w bc bn bs) c) (fun _ v8 _ => 41 - (intOf v8).toNat)
    case atStart => exact ⟨0, hh, c.roots t, by omega, rfl, rfl, ⟨_, _, _, _, HS.out⟩, HCH.out⟩
    case round =>
      obtain ⟨j, r, kk, hjr, rfl, rfl, ⟨lo, hi, E', P2, hsub⟩, hci⟩ := hrel
      have CI := Lib.hid hci; have HJR := Lib.hid hjr; have HSUB := Lib.hid hsub
      clear hci hsub hjr cr
      by_cases hj : j + 1 < 40
      · have hjI : (j : Int) + 1 < 40 := by omega
        obtain ⟨n, hN, hlf, hnext⟩ : ∃ n, c.N kk = some n ∧ (n.lf = true ∧ r = 0 ∨ n.lf = false ∧ ∃ r', r = r' + 1 ∧ ∃ hi' E' P', Sub c.N 1 r' n.first lo hi' E' P') ∧ True := by
          cases r with
          | zero =>
            obtain ⟨n, _, h1, _, _, _, _, h5, _⟩ := HSUB.out
            exact ⟨n, h1, .inl ⟨h5, rfl⟩, trivial⟩
          | succ r =>
            obtain ⟨n, h1, h2, _, h4⟩ := first_sub HSUB.out
            exact ⟨n, h1, .inr ⟨h2, r, rfl, h4⟩, trivial⟩
        have HNC := Lib.hid (node_ch HPC.out CI.out hN CI.out.top)
        have HLF := Lib.hid hlf
        have hw1 : IntKind.i64.wrap ((j : Int) + 1 + 1) = (j : Int) + 1 + 1 := by rw [IntKind.wrap_i64]; omega
        clear hN hlf hnext
        go_wp2_with fail
        refine HNC.out.mono ?_
        rintro e w3 ⟨nv, rfl, hnv, hf3⟩
        obtain ⟨A, ca, cs0, rfl, _⟩ := hnv.open_
        have C3 := Lib.hid (CI.out.frame hf3)
        clear hnv hf3 HNC
        go_wp2_with (first
          | (with_reducible refine wpList_alloc_z rfl 88 rfl (.agg #[.int .i64 0, .int .i64 0, .slice none 0 0]) znd.toArray zero_nd rfl ?_)
          | (refine wpList_store_z (W := w3) rfl 88 (.tmp 9) (.tmp 51) rfl [.int .i64 (kindOf n), .int .i64 (n.first : Int), .slice A n.l.length ca] rfl rfl rfl size_nd rfl three_cells ?_))
        intro w4 hb4 hf4 hz4
        obtain ⟨p9, hp9⟩ : ∃ p9, p9 = w3.heap.size := ⟨_, rfl⟩
        rw [← hp9] at hb4 ⊢
        have C4 := Lib.hid (C3.out.frame hf4); have B4 := Lib.hid hb4
        clear hb4 hf4 hz4 hp9
        have d0 := B4.out.at_ (i := 0) rfl
        have d1 := B4.out.at_ (i := 1) rfl
        have d2 := B4.out.at_ (i := 2) rfl
        go_wp2_with fail
        refine (leaf_nd n).mono ?_
        rintro e w5 ⟨rfl, hf5⟩
        have C5 := Lib.hid (C4.out.frame hf5); have B5 := Lib.hid (B4.out.fr hf5 (by simp))
        clear hf5 d0 d1 d2
        rcases HLF.out with ⟨hl, hr0⟩ | ⟨hl, r', hr1, hi', E2, P3, hs'⟩
        · rw [hl]
          have HX5 := Lib.hid (HX.out w5 C5.out.fr)
          have hjh : j = hh := by have := HJR.out; omega
          rw [show (((hh + 1 : Nat)) : Int) = (j : Int) + 1 by rw [hjh]; rfl] at HX5
          have HR2 := Lib.hid hr0; have HJH := Lib.hid hjh
          clear hl hr0 hjh
          go_wp2_with fail
          exact HX5.out
        · rw [hl]
          have d1 := B5.out.at_ (i := 1) rfl
          have HXR : Hid (∃ j' r2 kk' : Nat, j' + r2 = hh ∧ Value.int .i64 ((j : Int) + 1 + 1) = .int .i64 ((j' : Int) + 1) ∧ Value.int .i64 (n.first : Int) = .int .i64 (kk' : Int) ∧ (∃ lo hi E' P', Sub c.N 1 r2 kk' lo hi E' P') ∧ ChAt w w5 g bc bn bs (Dm_ X w bc bn bs) c) := Lib.hid ⟨j + 1, r', n.first, by have := HJR.out; omega, rfl, rfl, ⟨_, _, _, _, hs'⟩, C5.out⟩
          have HR2 := Lib.hid hr1
          clear hl hr1 hs'
          go_wp2_with fail
          go_roundw
          case rel => exact HXR.out
          case measure => simp [intOf]; omega
      · have hjI : ¬ (j : Int) + 1 < 40 := by omega
        have HX5 := Lib.hid (HX.out wr CI.out.fr)
        have hjh : hh = 39 := by have := HJR.out; have := HHT.out; omega
        rw [hjh] at HX5
        have HX6 : Hid (R (.returned (.int .i64 40)) wr) := Lib.hid HX5.out
        have HJH := Lib.hid hjh
        clear hjh HX5
        go_wp2_with fail
        exact HX6.out
end
end Go.Proofs.YtpjbdpepofnleaaGreat
end
section
namespace Go.Proofs.YtpjbdpepofnleaaGreat
open Go.RowKit
theorem part3 (k : Ky) : ∀ {E : En}, Rise E → (E.filter fun e => decide (klt e.1 k)).length + (E.filter fun e => decide (klt k e.1)).length + (if hasE E k = true then 1 else 0) = E.length
  | [], _ => rfl
  | a :: E, hr => by
    obtain ⟨h1, h2⟩ := List.pairwise_cons.1 hr
    have ih := part3 k h2
    have hno : ¬ klt a.1 k → hasE E k = false := fun h => by
      cases hh : hasE E k with
      | false => rfl
      | true =>
        obtain ⟨e, he, hk⟩ := (hasE_iff E k).1 hh
        have := h1 e he
        rw [hk] at this
        exact absurd this h
    have hc : hasE (a :: E) k = (decide (a.1 = k) || hasE E k) := rfl
    rw [List.filter_cons, List.filter_cons, hc, List.length_cons]
    rcases klt_lt (a := a.1) (b := k) with h | h | h
    · have h3 : ¬ klt k a.1 := fun h' => klt_irrefl _ (klt_trans h h')
      have h4 : ¬ a.1 = k := fun e => by rw [e] at h; exact klt_irrefl _ h
      simp only [h, h3, h4, decide_true, decide_false, if_true, Bool.false_eq_true, if_false, Bool.false_or, List.length_cons]
      omega
    · have h3 : ¬ klt a.1 k := by rw [h]; exact klt_irrefl k
      have h4 : ¬ klt k a.1 := by rw [h]; exact klt_irrefl k
      rw [hno h3] at ih ⊢
      have h5 : ¬ klt k k := klt_irrefl k
      simp only [h5, h, decide_true, decide_false, if_true, Bool.false_eq_true, if_false, Bool.true_or] at ih ⊢
      omega
    · have h3 : ¬ klt a.1 k := fun h' => klt_irrefl _ (klt_trans h h')
      have h4 : ¬ a.1 = k := fun e => by rw [e] at h; exact klt_irrefl _ h
      rw [hno h3] at ih ⊢
      simp only [h, h3, h4, decide_true, decide_false, if_true, Bool.false_eq_true, if_false, Bool.false_or, List.length_cons] at ih ⊢
      omega
theorem putE_count {E : En} (hr : Rise E) (k : Ky) (v : List UInt8) : (putE E k v).length = if hasE E k = true then E.length else E.length + 1 := by
  have := part3 k hr
  unfold putE
  rw [List.length_append, List.length_cons]
  split <;> rename_i h
  · rw [if_pos h] at this; omega
  · rw [if_neg h] at this; omega
def gone10 (E : En) (l : List Ky) : En := E.filter fun e => !decide (e.1 ∈ l)
theorem gone10_nil (E : En) : gone10 E [] = E := List.filter_eq_self.2 fun e _ => by simp
theorem gone10_snoc (E : En) (l : List Ky) (k : Ky) : gone10 E (l ++ [k]) = delE (gone10 E l) k := by
  unfold gone10 delE
  rw [List.filter_filter]
  refine List.filter_congr fun e _ => ?_
  simp only [List.mem_append, List.mem_singleton]
  by_cases h1 : e.1 ∈ l <;> by_cases h2 : e.1 = k <;> simp [h1, h2]
theorem gone10_all {E : En} {l : List Ky} (h : ∀ e ∈ E, e.1 ∈ l) : gone10 E l = [] := List.filter_eq_nil_iff.2 fun e he => by simp [h e he]
theorem gone10_len (E : En) (l : List Ky) : (gone10 E l).length ≤ E.length := List.length_filter_le ..
theorem delE_len (E : En) (k : Ky) : (delE E k).length ≤ E.length := List.length_filter_le ..
end Go.Proofs.YtpjbdpepofnleaaGreat
end
section
namespace Go.Proofs.YtpjbdpepofnleaaGreat
open Go.RowKit
def atN (m c i : Nat) : Nat := (i * (2 * m + 1) + c) % 256
theorem odd_inv {m : Nat} (hm : m ≤ 127) : ∃ v q, v * (2 * m + 1) = 256 * q + 1 := by
  have h : ∀ m : Fin 128, ((2 * m.val + 1) ^ 63 * (2 * m.val + 1)) % 256 = 1 := by decide +kernel
  have h1 := h ⟨m, by omega⟩
  refine ⟨(2 * m + 1) ^ 63, ((2 * m + 1) ^ 63 * (2 * m + 1)) / 256, ?_⟩
  have h2 := Nat.div_add_mod ((2 * m + 1) ^ 63 * (2 * m + 1)) 256
  simp only at h1
  omega
theorem at_lt (m c i : Nat) : atN m c i < 256 := Nat.mod_lt _ (by omega)
theorem at_inj {m c i j : Nat} (hm : m ≤ 127) (hi : i < 256) (hj : j < 256) (h : atN m c i = atN m c j) : i = j := by
  obtain ⟨v, q, hv⟩ := odd_inv hm
  unfold atN at h
  have h1 : (v * (i * (2 * m + 1) + c)) % 256 = (v * (j * (2 * m + 1) + c)) % 256 := by rw [Nat.mul_mod, h, ← Nat.mul_mod]
  have h2 : ∀ k, v * (k * (2 * m + 1) + c) = 256 * (k * q) + k + v * c := fun k => by
    rw [Nat.mul_add, Nat.mul_left_comm, hv, Nat.mul_add, Nat.mul_left_comm, Nat.mul_one]
  rw [h2, h2] at h1
  omega
theorem at_sur {m c a : Nat} (hm : m ≤ 127) (hc : c < 256) (ha : a < 256) : ∃ i, i < 256 ∧ atN m c i = a := by
  obtain ⟨v, q, hv⟩ := odd_inv hm
  obtain ⟨x, hx⟩ : ∃ x, x = a + 256 - c := ⟨_, rfl⟩
  refine ⟨(v * x) % 256, Nat.mod_lt _ (by omega), ?_⟩
  obtain ⟨r, i, hr, hi⟩ : ∃ r i, v * x = 256 * r + i ∧ i = (v * x) % 256 := ⟨v * x / 256, _, (Nat.div_add_mod _ _).symm, rfl⟩
  rw [← hi]
  unfold atN
  have h1 : i * (2 * m + 1) + 256 * (r * (2 * m + 1)) = x * (256 * q + 1) := by
    rw [← hv, ← Nat.mul_assoc 256, ← Nat.add_mul, Nat.add_comm i, ← hr, Nat.mul_assoc, Nat.mul_left_comm]
  obtain ⟨A, hA⟩ : ∃ A, A = i * (2 * m + 1) := ⟨_, rfl⟩
  obtain ⟨B, hB⟩ : ∃ B, B = r * (2 * m + 1) := ⟨_, rfl⟩
  obtain ⟨C, hC⟩ : ∃ C, C = x * q := ⟨_, rfl⟩
  rw [← hA, ← hB, Nat.mul_add, Nat.mul_left_comm, Nat.mul_one, ← hC] at h1
  have h2 : (A + c) % 256 = a := by omega
  rw [hA] at h2
  exact h2
def keyB (p a : Nat) : Ky := 0 :: UInt8.ofNat a :: List.replicate p 0
theorem keyB_len (p a : Nat) : (keyB p a).length = p + 2 := by simp [keyB]
theorem of_nat8 {a b : Nat} (ha : a < 256) (hb : b < 256) (h : UInt8.ofNat a = UInt8.ofNat b) : a = b := by
  have h1 : (UInt8.ofNat a).toNat = (UInt8.ofNat b).toNat := by rw [h]
  rw [UInt8.toNat_ofNat', UInt8.toNat_ofNat'] at h1
  omega
theorem keyB_inj {p a b : Nat} (ha : a < 256) (hb : b < 256) (h : keyB p a = keyB p b) : a = b := by
  unfold keyB at h
  injection h with _ h
  injection h with h _
  exact of_nat8 ha hb h
theorem keyB_klt {p a b : Nat} (ha : a < 256) (hb : b < 256) (h : klt (keyB p a) (keyB p b)) : a < b := by
  unfold klt keyB Lib.compareBytes at h
  rw [if_neg (UInt8.lt_irrefl 0), if_neg (UInt8.lt_irrefl 0)] at h
  unfold Lib.compareBytes at h
  by_cases h1 : UInt8.ofNat a < UInt8.ofNat b
  · have h2 : (UInt8.ofNat a).toNat < (UInt8.ofNat b).toNat := h1
    rw [UInt8.toNat_ofNat', UInt8.toNat_ofNat'] at h2
    omega
  · rw [if_neg h1] at h
    by_cases h2 : UInt8.ofNat b < UInt8.ofNat a
    · rw [if_pos h2] at h
      exact absurd h (by decide)
    · rw [if_neg h2, cmp_self] at h
      exact absurd h (by decide)
structure Gr (p : Nat) (E : En) (S : List Nat) : Prop where
  rise : Rise E
  len : E.length = S.length
  mem : ∀ e ∈ E, ∃ a, a ∈ S ∧ a < 256 ∧ e = (keyB p a, [UInt8.ofNat a])
theorem Gr.nil (p : Nat) : Gr p [] [] := ⟨List.Pairwise.nil, rfl, fun e h => by cases h⟩
theorem Gr.put {p : Nat} {E : En} {S : List Nat} (h : Gr p E S) {a : Nat} (ha : a < 256) (hn : a ∉ S) : Gr p (putE E (keyB p a) [UInt8.ofNat a]) (S ++ [a]) := by
  refine ⟨putE_rise h.rise, ?_, fun e he => ?_⟩
  · have hh : hasE E (keyB p a) = false := by
      cases hq : hasE E (keyB p a) with
      | false => rfl
      | true =>
        obtain ⟨e, he, hk⟩ := (hasE_iff E _).1 hq
        obtain ⟨b, hb, hb2, rfl⟩ := h.mem e he
        exact absurd (keyB_inj hb2 ha hk ▸ hb) hn
    rw [putE_count h.rise, hh, h.len]
    simp
  · rcases putE_mem.1 he with rfl | ⟨he, _⟩
    · exact ⟨a, List.mem_append_right _ (List.mem_singleton.2 rfl), ha, rfl⟩
    · obtain ⟨b, hb, hb2, hb3⟩ := h.mem e he
      exact ⟨b, List.mem_append_left _ hb, hb2, hb3⟩
def atsN (m c i : Nat) : List Nat := (List.range i).map (atN m c)
theorem ats_succ (m c i : Nat) : atsN m c (i + 1) = atsN m c i ++ [atN m c i] := by unfold atsN; rw [List.range_succ, List.map_append]; rfl
theorem ats_len (m c i : Nat) : (atsN m c i).length = i := by simp [atsN]
theorem ats_new {m c i : Nat} (hm : m ≤ 127) (hi : i < 256) : atN m c i ∉ atsN m c i := by
  intro h
  obtain ⟨j, hj, he⟩ := List.mem_map.1 h
  rw [List.mem_range] at hj
  have := at_inj hm (by omega) hi he
  omega
theorem ats_all {m c a : Nat} (hm : m ≤ 127) (hc : c < 256) (ha : a < 256) : a ∈ atsN m c 256 := by
  obtain ⟨i, hi, he⟩ := at_sur hm hc ha
  exact List.mem_map.2 ⟨i, List.mem_range.2 hi, he⟩
theorem Gr.step {p m i : Nat} {E : En} (hm : m ≤ 127) (hi : i < 256) (h : Gr p E (atsN m 7 i)) : Gr p (putE E (keyB p (atN m 7 i)) [UInt8.ofNat (atN m 7 i)]) (atsN m 7 (i + 1)) := by
  rw [ats_succ]
  exact h.put (at_lt _ _ _) (ats_new hm hi)
theorem Gr.next {p : Nat} {E : En} {S : List Nat} (h : Gr p E S) {i : Nat} (hi : i + 1 < E.length) : ∃ a b, a < b ∧ b < 256 ∧ E[i]? = some (keyB p a, [UInt8.ofNat a]) ∧ E[i + 1]? = some (keyB p b, [UInt8.ofNat b]) := by
  obtain ⟨a, _, ha, h1⟩ := h.mem E[i] (List.getElem_mem _)
  obtain ⟨b, _, hb, h2⟩ := h.mem E[i + 1] (List.getElem_mem _)
  have h3 := List.pairwise_iff_getElem.1 h.rise i (i + 1) (by omega) hi (by omega)
  rw [h1, h2] at h3
  exact ⟨a, b, keyB_klt ha hb h3, hb, by rw [List.getElem?_eq_getElem (by omega), h1], by rw [List.getElem?_eq_getElem hi, h2]⟩
def lessN (p m i : Nat) (E : En) : En := gone10 E ((atsN m 3 i).map (keyB p))
theorem lessN_zero (p m : Nat) (E : En) : lessN p m 0 E = E := gone10_nil E
theorem lessN_succ (p m i : Nat) (E : En) : lessN p m (i + 1) E = delE (lessN p m i E) (keyB p (atN m 3 i)) := by
  unfold lessN
  rw [ats_succ, List.map_append]
  exact gone10_snoc ..
theorem lessN_len (p m i : Nat) (E : En) : (lessN p m i E).length ≤ E.length := gone10_len ..
theorem Gr.less {p m : Nat} {E : En} {S : List Nat} (h : Gr p E S) (hm : m ≤ 127) : lessN p m 256 E = [] := gone10_all fun e he => by
  obtain ⟨a, _, ha, rfl⟩ := h.mem e he
  exact List.mem_map.2 ⟨a, ats_all hm (by omega) ha, rfl⟩
theorem get_has (E : En) (k : Ky) : (getE E k).isSome = hasE E k := by
  unfold getE hasE
  induction E with
  | nil => rfl
  | cons e E ih =>
    rw [List.find?_cons, List.any_cons]
    by_cases h : e.1 = k
    · simp [h]
    · simp only [h, decide_false, Bool.false_or]
      exact ih
end Go.Proofs.YtpjbdpepofnleaaGreat
end
section
namespace Go.Proofs.YtpjbdpepofnleaaGreat
open Go.RowKit Go.ChangeMaps Go.MapKept Go.Maps Go.Sort Go.Shelf
theorem none_used {c : CD} {E : Nat → En} {P : Nat → List Nat} {F : List Nat} (h : Forest c E P F) (hE : ∀ t, t < 8 → E t = []) : F.length = c.next - 1 ∧ ∀ k ∈ F, 1 ≤ k ∧ k < c.n := by
  have hz : allP P = [] := List.flatMap_eq_nil_iff.2 fun t ht => by
    rcases h.tree t (List.mem_range.1 ht) with ⟨_, _, h1⟩ | ⟨_, hh, hs⟩
    · exact h1
    · exact absurd (hE t (List.mem_range.1 ht)) (Sub.fine.all _ _ _ _ _ hs).2.2
  have hp := h.acc.perm
  rw [hz, List.nil_append] at hp
  refine ⟨by rw [hp.length_eq, List.length_range'], fun k hk => ?_⟩
  have h1 := hp.mem_iff.1 hk
  rw [List.mem_range'_1] at h1
  have := h.acc.next1
  have := h.acc.next2
  omega
theorem made_bytes (n : Nat) : madeCells #[Value.int .u8 0] n = (bcells (List.replicate n 0)).toArray := by
  apply Array.toList_inj.1
  apply List.ext_getElem?
  intro i
  simp only [madeCells, bcells, List.map_replicate, List.getElem?_replicate, Array.getElem?_toList]
  by_cases hi : i < n
  · simp [hi, B8, Nat.mod_one]
  · simp [hi]
section
variable {w0 w : World} {dk g st : Nat} {s : PS} {X : Nat → Prop} {E : Nat → En}
set_option maxRecDepth 100000 in
set_option maxHeartbeats 8000000 in
/-- Used. -/
theorem Used_X (h : StX w0 w dk g st s X E) (hE : ∀ t, t < 8 → E t = []) :
    Calls Tryz.prog 19 #[.pointer (some ⟨st, 0, none⟩)] w fun e w' => e = .returned (.int .i64 1) ∧ Fr [] w w' := by
  obtain ⟨_, _, P, F, hF⟩ := h.store
  obtain ⟨c, hc⟩ : ∃ c, c = beginC s.page s.n := ⟨_, rfl⟩
  rw [← hc] at hF
  have hpc := h.pgc
  rw [← hc] at hpc
  obtain ⟨hlen, hmem⟩ := none_used hF hE
  have hn1 := hF.acc.next1
  have hn2 := hF.acc.next2
  have hfew := hF.acc.few
  have HC := Lib.hid hc; have HPC := Lib.hid hpc; have HCE := Lib.hid hF.e; have HCH := Lib.hid hF.acc.chain
  have HMEM := Lib.hid hmem
  have HBG := Lib.hid h.begin
  have HNX : Hid (c.next = F.length + 1) := Lib.hid (by omega)
  have HFW : Hid (F.length ≤ 4096) := Lib.hid (by omega)
  clear h hc hpc hF hE hlen hmem hn1 hn2 hfew
  refine calls_post fun R HQ => ?_
  go_enter Tryz.func19, Tryz.ntmps19
  go_wp2_with fail
  refine HBG.out.mono ?_
  rintro e w1 ⟨bc, bn, bs, rfl, hch⟩
  rw [← HC.out] at hch
  have HCA := Lib.hid hch
  have c0 := hch.blk.at_ (i := 0) rfl
  have c1 := hch.blk.at_ (i := 1) rfl
  clear hch HBG
  rw [HNX.out] at c0
  go_wp2_with fail
  go_loopw [5, 6] (fun v5 v6 wr => ∃ (F2 : List Nat) (a : Nat), F2.length ≤ F.length ∧ v5 = .int .i64 (((F2.length + 1 : Nat)) : Int) ∧ v6 = .int .i64 (a : Int) ∧ Chain c.nx a F2 ∧ (∀ k ∈ F2, 1 ≤ k ∧ k < c.n) ∧ ChAt w wr g bc bn bs (Dm_ X w bc bn bs) c) (fun v5 _ _ => (intOf v5).toNat)
  case atStart => exact ⟨F, c.head, Nat.le_refl _, rfl, rfl, HCH.out, HMEM.out, HCA.out⟩
  case round =>
    obtain ⟨F2, a, hle, rfl, rfl, hchain, hm2, hci⟩ := hrel
    have CI := Lib.hid hci; have HLE := Lib.hid hle
    clear hci hle c0 c1
    cases F2 with
    | nil =>
      have ha0 : a = 0 := hchain
      subst ha0
      have HX := Lib.hid (HQ.out (.returned (.int .i64 1)) wr ⟨rfl, CI.out.fr⟩)
      clear hchain hm2
      go_wp2_with fail
      exact HX.out
    | cons b F3 =>
      obtain ⟨rfl, j, hj, hch3⟩ := hchain
      obtain ⟨hb1, hb2⟩ := hm2 a (List.mem_cons_self ..)
      have haI : ¬ ((a : Nat) : Int) = 0 := by omega
      have hab : (((a : Nat) : Int) == 0) = false := by simpa using haI
      have hnI : (0 : Int) < (F3.length : Int) + 1 + 1 := by omega
      have HBH := Lib.hid (behind_ch HPC.out CI.out hb2 HCE.out)
      rw [nxC_of hj] at HBH
      have HC3 := Lib.hid hch3
      have HM3 := Lib.hid (fun k hk => hm2 k (List.mem_cons_of_mem _ hk))
      have HLN : Hid (F3.length + 1 ≤ F.length) := Lib.hid (by have := HLE.out; simpa using this)
      have hw1 : IntKind.i64.wrap ((F3.length : Int) + 1 + 1 - 1) = (F3.length : Int) + 1 := by have := HLN.out; have := HFW.out; rw [IntKind.wrap_i64]; omega
      have hw2 : IntKind.i64.wrap ((F3.length : Int) + 1) = (F3.length : Int) + 1 := by have := HLN.out; have := HFW.out; rw [IntKind.wrap_i64]; omega
      clear hch3 hm2 hj hb1 hb2
      go_wp2_with fail
      refine HBH.out.mono ?_
      rintro e w4 ⟨rfl, hc4, hf4⟩
      have HXR : Hid (∃ (F2 : List Nat) (a' : Nat), F2.length ≤ F.length ∧ Value.int .i64 ((F3.length : Int) + 1) = .int .i64 (((F2.length + 1 : Nat)) : Int) ∧ Value.int .i64 (j : Int) = .int .i64 (a' : Int) ∧ Chain c.nx a' F2 ∧ (∀ k ∈ F2, 1 ≤ k ∧ k < c.n) ∧ ChAt w w4 g bc bn bs (Dm_ X w bc bn bs) c) := Lib.hid ⟨F3, j, by have := HLN.out; omega, rfl, rfl, HC3.out, HM3.out, hc4⟩
      clear hc4 hf4 HBH
      go_wp2_with fail
      go_roundw
      case rel => exact HXR.out
      case measure => simp [intOf]; omega
end
set_option maxRecDepth 100000 in
set_option maxHeartbeats 4000000 in
/-- A number's key, made. -/
theorem key_any (w : World) (a : Nat) (ha : a < 256) (long : Int) (p : Nat) (hp : bits .and .i64 long 63 = (p : Int)) (hp63 : p ≤ 63) :
    Calls Tryz.prog 18 #[.int .i64 (a : Int), .int .i64 long] w fun e w' => e = .returned (.slice (some ⟨w.heap.size, 0, none⟩) (p + 2) (p + 2)) ∧ BytesAt w' (.slice (some ⟨w.heap.size, 0, none⟩) (p + 2) (p + 2)) (keyB p a) w.heap.size ∧ w'.heap.size = w.heap.size + 1 ∧ Fr [] w w' := by
  refine calls_post fun R HQ => ?_
  go_enter Tryz.func18, Tryz.ntmps18
  have hw2 : IntKind.i64.wrap (2 + (p : Int)) = (p : Int) + 2 := by rw [IntKind.wrap_i64]; omega
  have hmk := run_make_row' (P := Tryz.prog) 23 5 (.int .u8 0) 1 Tryz.underlying23 info_u8 rfl .i64 .i64 (p + 2) (by omega) (by omega)
  simp only [Int.natCast_add, Int.cast_ofNat_Int] at hmk
  have hsh : IntKind.u8.wrap ((a : Int) / 256) = 0 := by rw [IntKind.wrap_u8]; omega
  have hwa : IntKind.u8.wrap (a : Int) = ((UInt8.ofNat a).toNat : Int) := by rw [IntKind.wrap_u8, UInt8.toNat_ofNat']; omega
  have h2p : 1 < p + 2 := by omega
  go_upto_region 2 with fail
  rw [made_bytes]
  have hb1 := Blk.new w 5 (bcells (List.replicate (p + 2) 0))
  have hf1 : Fr [] w (w.alloc (.cells (bcells (List.replicate (p + 2) 0)).toArray 5)) := (Fr.refl _ _).alloc _
  have hz1 : (w.alloc (.cells (bcells (List.replicate (p + 2) 0)).toArray 5)).heap.size = w.heap.size + 1 := by rw [World.size_alloc]
  generalize w.alloc (.cells (bcells (List.replicate (p + 2) 0)).toArray 5) = w1 at *
  have HQ1 := Lib.hid HQ
  clear HQ hmk
  obtain ⟨q, hq⟩ : ∃ q, q = w.heap.size := ⟨_, rfl⟩
  rw [← hq] at hb1 ⊢
  have HQ0 := Lib.hid hq; have HZ1 := Lib.hid hz1; have HF1 := Lib.hid hf1
  clear hq hz1 hf1
  have d1 := hb1.at_ (i := 0) (v := .int .u8 0) (by simp [bcells, List.replicate_succ]; rfl)
  have fr1 := hb1.free 0
  have lt1 := hb1.lt
  have HB1 := Lib.hid hb1
  clear hb1
  go_upto_region 3 with fail
  have hb2 := HB1.out.set_ 0 (.int .u8 0)
  have hf2 : Fr [] w (w1.setCell ⟨q, 0, none⟩ (.int .u8 0)) := HF1.out.setCell (.inr (by show w.heap.size ≤ q; have := HQ0.out; omega)) _
  have hz2 : (w1.setCell ⟨q, 0, none⟩ (.int .u8 0)).heap.size = w.heap.size + 1 := by rw [World.size_setCell, HZ1.out]
  generalize w1.setCell ⟨q, 0, none⟩ (.int .u8 0) = w2 at *
  have HF2 := Lib.hid hf2; have HZ2 := Lib.hid hz2
  clear hf2 hz2 d1 fr1 lt1
  have d1 := hb2.at_ (i := 1) (v := .int .u8 0) (by simp [bcells, List.replicate_succ]; rfl)
  have fr1 := hb2.free 1
  have lt1 := hb2.lt
  have hb3 := hb2.set_ 1 (.int .u8 ((UInt8.ofNat a).toNat : Int))
  have hky : ((bcells (List.replicate (p + 2) 0)).set 0 (.int .u8 0)).set 1 (.int .u8 ((UInt8.ofNat a).toNat : Int)) = bcells (keyB p a) := by
    simp [bcells, keyB, List.replicate_succ, B8]
  rw [hky] at hb3
  have hf3 : Fr [] w (w2.setCell ⟨q, 1, none⟩ (.int .u8 ((UInt8.ofNat a).toNat : Int))) := HF2.out.setCell (.inr (by show w.heap.size ≤ q; have := HQ0.out; omega)) _
  have HX := Lib.hid (HQ1.out (.returned (.slice (some ⟨q, 0, none⟩) (p + 2) (p + 2))) (w2.setCell ⟨q, 1, none⟩ (.int .u8 ((UInt8.ofNat a).toNat : Int))) ⟨by rw [HQ0.out], by rw [← HQ0.out]; have := BytesAt.of_blk hb3 (p + 2) (by rw [keyB_len]; omega); rwa [keyB_len] at this, by rw [World.size_setCell, HZ2.out], hf3⟩)
  clear hb2 hb3 hky hf3
  go_wp2_with fail
  exact HX.out
end Go.Proofs.YtpjbdpepofnleaaGreat
end
