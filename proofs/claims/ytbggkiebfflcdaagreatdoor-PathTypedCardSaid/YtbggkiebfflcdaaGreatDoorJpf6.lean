/-
  Joined by join.py: Ff Fg Fh Str Fi
-/
import Derived.Lib.OthersKept
import Derived.Laws.BytesArg
import Derived.Test.YtbggkiebfflcdaaGreatDoorJpf5
set_option maxRecDepth 100000
set_option maxHeartbeats 32000000
namespace Go.Proofs.YtbggkiebfflcdaaGreatDoor
section
open Go.RowKit Go.Shelf
def ParseR (l : List UInt8) : Value × Int := match parseD l with
 | .ok d => (DecV d, 0)
 | .error e => (DecV .zero, e)
def parseT (neg point : Bool) (whole part : List UInt8) (x : Int × List UInt8 × Bool) : Except Int Dcm :=
 if (!x.2.2 || !x.2.1.isEmpty || whole.isEmpty || (decide (1 < whole.length) && isHead 48 whole) || (point && part.isEmpty)) = true then .error 2 else formD neg (whole ++ part) (x.1 - part.length)
theorem parseD_eq {s s1 : List UInt8} {neg pt : Bool} (hl : s.length <= 1000) (h1 : isHead 45 s = neg) (h2 : s1 = if neg = true then s.drop 1 else s) (h3 : isHead 46 (s1.dropWhile figB) = pt) :
  parseD s = parseT neg pt (s1.takeWhile figB) (if pt = true then ((s1.dropWhile figB).drop 1).takeWhile figB else []) (expD (if pt = true then ((s1.dropWhile figB).drop 1).dropWhile figB else s1.dropWhile figB)) := by
 unfold parseD parseT; rw [if_neg (by omega)]
 simp only
 rw [h1, <- h2, h3]
theorem cut_one (s : ByteArray) (c : UInt8) (w : World) : Calls Tryz.prog 156 #[.string s, .string { data := #[c] }] w fun e w' => ∃ t, e = .returned (.tuple #[.string t, .bool (isHead c (strBytes s))]) /\ strBytes t = (if isHead c (strBytes s) = true then (strBytes s).drop 1 else strBytes s) /\ w = w' := by
 refine (Tryz.strings_CutPrefix s { data := #[c] } w).mono ?_; rintro e w' ⟨rfl, rfl⟩
 have : Lib.hasPrefix s.data.toList [c] = isHead c (strBytes s) := by
  unfold Lib.hasPrefix isHead strBytes
  cases s.data.toList with
  | nil => rfl
  | cons x xs => simp [List.isPrefixOf, Bool.beq_comm]
 refine ⟨_, by rw [<- this], ?_, rfl⟩; rw [<- this]
 rfl
theorem expD_bd (l : List UInt8) : -1000000 <= (expD l).1 /\ (expD l).1 <= 1000000 := by
 unfold expD
 match l with
 | [] => simp
 | c :: cs =>
  simp only
  split
  ·have := smallD_le ((if (isHead 45 cs || isHead 43 cs) = true then List.drop 1 cs else cs).takeWhile figB)
   simp only
   split <;> omega
  ·simp
theorem head_eq {l : List UInt8} {c : UInt8} (h : l[0]? = some c) : isHead 48 l = ((c.toNat : Int) == 48) := by
 match l, h with
 | x :: xs, h =>
  simp only [List.getElem?_cons_zero, Option.some.injEq] at h; subst h
  exact eq_of_beq (u8_all (fun c => isHead 48 (c :: xs) == ((c.toNat : Int) == 48)) (by
   intro n; have : ∀ n : Fin 256, (some (UInt8.ofNat n.val) == some 48) == (((UInt8.ofNat n.val).toNat : Int) == 48) := by decide +kernel
   exact this n) x)
theorem Parse_any {w : World} (s : ByteArray) (hs : s.size <= 140737488355328) : Calls Tryz.prog 108 #[.string s] w fun e w' => e = .returned (.tuple #[(ParseR (strBytes s)).1, .int .i64 (ParseR (strBytes s)).2]) /\ Fr [] w w' := by
 refine calls_post fun R HQ => ?_; have hfz := (Fr.refl [] w).alloc (.cells #[.bool false, .string { data := #[] }, .int .i64 0] 93); have hbz := Blk.new w 93 [.bool false, .string { data := #[] }, .int .i64 0]; have HFZ := lh hfz; have HBZ := lh hbz; clear hfz hbz
 by_cases h1 : 1000 < s.size
 ·have HE : Hid (ParseR (strBytes s) = (DecV .zero, 4)) := lh (by unfold ParseR parseD; rw [if_pos (by rw [strBytes_len]; exact h1)])
  go_enter Tryz.func108, Tryz.ntmps108
  go_wp2_with fail; exact bodyPost_ret (results_cx (d := _) rfl rfl HBZ.out Tryz.underlying93 rfl (by kernel_rfl)) rfl (HQ.out _ _ ⟨by rw [HE.out]; rfl, HFZ.out⟩)
 ·have hsz : s.size <= 1000 := by omega
  go_enter Tryz.func108, Tryz.ntmps108
  go_wp2_with fail; refine (cut_one s 45 _).mono ?_; rintro e w1 ⟨s1, rfl, hs1, rfl⟩; obtain ⟨neg, hneg⟩ : ∃ neg, isHead 45 (strBytes s) = neg := ⟨_, rfl⟩; rw [hneg] at hs1 ⊢
  have hz1 : s1.size <= 1000 := by
   rw [size_bytes hs1]; have := strBytes_len s
   split
   ·rw [List.length_drop]; omega
   ·omega
  have HS1 := lh hs1; have HNEG := lh hneg; clear hs1 hneg; go_wp2_with fail; refine (lead_any s1 (by omega)).mono ?_; rintro e w2 ⟨wh, r1, rfl, hwh, hr1, hf2⟩; have HWH := lh hwh; have HR1 := lh hr1
  have hwz : wh.size <= 1000 := by
   rw [size_bytes hwh]; have := takeWhile_le figB (strBytes s1); have := strBytes_len s1; omega
  have hrz : r1.size <= 1000 := by
   rw [size_bytes hr1]; have := dropWhile_le figB (strBytes s1); have := strBytes_len s1; omega
  have HF2 := lh (HFZ.out.trans hf2 (by simp)); have HB2 := lh (HBZ.out.fr hf2 (by simp)); clear hwh hr1 hf2; go_wp2_with fail; refine (cut_one r1 46 _).mono ?_; rintro e w3 ⟨bh, rfl, hbh, rfl⟩; obtain ⟨pt, hpt⟩ : ∃ pt, isHead 46 (strBytes r1) = pt := ⟨_, rfl⟩; rw [hpt] at hbh ⊢
  have hbz : bh.size <= 1000 := by
   rw [size_bytes hbh]; have := strBytes_len r1
   split
   ·rw [List.length_drop]; omega
   ·omega
  have HPT := lh hpt; have HP0 : Hid (parseD (strBytes s) = _) := lh (parseD_eq (s1 := strBytes s1) (pt := pt) (by rw [strBytes_len]; omega) HNEG.out HS1.out (by rw [<- HR1.out]; exact hpt))
  cases pt with
  | true =>
   have hbh' : strBytes bh = (strBytes r1).drop 1 := hbh; have HBH := lh hbh'; clear hbh hbh' hpt; go_wp2_with fail; refine (lead_any bh (by omega)).mono ?_; rintro e w4 ⟨ps, r2, rfl, hps, hr2, hf4⟩
   have hpz : ps.size <= 1000 := by
    rw [size_bytes hps]; have := takeWhile_le figB (strBytes bh); have := strBytes_len bh; omega
   have hrz2 : r2.size <= 1000 := by
    rw [size_bytes hr2]; have := dropWhile_le figB (strBytes bh); have := strBytes_len bh; omega
   have HPS := lh hps; have HR2 := lh hr2; have HFK := lh (HF2.out.trans hf4 (by simp)); have HBK := lh (HB2.out.fr hf4 (by simp)); clear hps hr2 hf4
   have HP : Hid (parseD (strBytes s) = parseT neg true (strBytes wh) (strBytes ps) (expD (strBytes r2))) := lh (by
    rw [HP0.out, HPS.out, HR2.out, HBH.out, HWH.out, HR1.out]; rfl)
   go_wp2_with fail; refine (exponent_any r2 (by omega)).mono ?_; rintro e wN ⟨xr, rfl, hxr, hfN⟩; obtain ⟨xv, hxv⟩ := nm (expD (strBytes r2)); have hxb : -1000000 <= xv.1 /\ xv.1 <= 1000000 := by rw [hxv]; exact expD_bd _
   rw [<- hxv] at hxr ⊢; have HFN := lh (HFK.out.trans hfN (by simp)); have HBN := lh (HBK.out.fr hfN (by simp)); have z0 := HBN.out.at_ (i := 0) rfl; have z1 := HBN.out.at_ (i := 1) rfl; have z2 := HBN.out.at_ (i := 2) rfl; have zf := HBN.out.free; have hxn := str_nil xr; have hwn := str_nil wh; rw [hxr] at hxn; obtain ⟨xe, xl, xo⟩ := xv; have HXV := lh hxv
   simp only at hxn hxb ⊢
   clear hxv hxr hfN
   by_cases hw1 : 1 < wh.size
   ·have d1 : decide (1 < (wh.size : Int)) = true := by rw [decide_eq_true_eq]; omega
    have d1' : decide (1 < (strBytes wh).length) = true := by rw [decide_eq_true_eq, strBytes_len]; exact hw1
    obtain ⟨c0, hc0⟩ : ∃ c0, (strBytes wh)[0]? = some c0 := gx (by rw [strBytes_len]; omega); have hx0 := str_index (s := wh) (i := 0) hc0 .i64; rw [show ((0 : Nat) : Int) = 0 from rfl] at hx0; have hzz : ((c0.toNat : Int) == 48) = isHead 48 (strBytes wh) := by rw [head_eq hc0]
    have hwe : (strBytes wh).isEmpty = false := by
     cases hl : strBytes wh with
     | nil => rw [hl] at hc0; cases hc0
     | cons x xs => rfl
    rw [hwe] at hwn; have HWE := lh hwe
    cases hzz2 : isHead 48 (strBytes wh) with
    | true =>
     rw [hzz2] at hzz; have HZZ := lh hzz2; have HD1 := lh d1'; clear hzz2 d1' hc0 hwe
     cases xo with
     | false =>
      have HE : Hid (ParseR (strBytes s) = (DecV .zero, 2)) := lh (by
       unfold ParseR; rw [HP.out, <- HXV.out]; unfold parseT; rw [if_pos (by simp)])
      go_wp2_with fail; have hb := HBN.out.setL (vs := [.bool false, .string { data := #[] }, .int .i64 0]) rfl; exact bodyPost_ret (results_cx (d := _) rfl rfl hb Tryz.underlying93 rfl (by kernel_rfl)) rfl (HQ.out _ _ ⟨by rw [HE.out]; rfl, HFN.out.setL (k := 0) (vs := [.bool false, .string { data := #[] }, .int .i64 0]) (.inr (Nat.le_refl _))⟩)
     | true =>
      cases hxl : xl.isEmpty
      case' false =>
       rw [hxl] at hxn
       have HE : Hid (ParseR (strBytes s) = (DecV .zero, 2)) := lh (by
        unfold ParseR; rw [HP.out, <- HXV.out]; unfold parseT; rw [if_pos (by simp [hxl])])
      case' true =>
       rw [hxl] at hxn
       have HE : Hid (ParseR (strBytes s) = (DecV .zero, 2)) := lh (by
        unfold ParseR; rw [HP.out, <- HXV.out]; unfold parseT; rw [if_pos (by simp [HZZ.out, of_decide_eq_true HD1.out])])
      all_goals
       go_wp2_with fail; have hb := HBN.out.setL (vs := [.bool false, .string { data := #[] }, .int .i64 0]) rfl; exact bodyPost_ret (results_cx (d := _) rfl rfl hb Tryz.underlying93 rfl (by kernel_rfl)) rfl (HQ.out _ _ ⟨by rw [HE.out]; rfl, HFN.out.setL (k := 0) (vs := [.bool false, .string { data := #[] }, .int .i64 0]) (.inr (Nat.le_refl _))⟩)
    | false =>
     rw [hzz2] at hzz; have HZ : Hid ((decide (1 < (strBytes wh).length) && isHead 48 (strBytes wh)) = false) := lh (by rw [hzz2, Bool.and_false]); clear hzz2 d1' hc0 hwe
     cases xo with
     | false =>
      have HE : Hid (ParseR (strBytes s) = (DecV .zero, 2)) := lh (by
       unfold ParseR; rw [HP.out, <- HXV.out]; unfold parseT; rw [if_pos (by simp)])
      go_wp2_with fail; have hb := HBN.out.setL (vs := [.bool false, .string { data := #[] }, .int .i64 0]) rfl; exact bodyPost_ret (results_cx (d := _) rfl rfl hb Tryz.underlying93 rfl (by kernel_rfl)) rfl (HQ.out _ _ ⟨by rw [HE.out]; rfl, HFN.out.setL (k := 0) (vs := [.bool false, .string { data := #[] }, .int .i64 0]) (.inr (Nat.le_refl _))⟩)
     | true =>
      cases hxl : xl.isEmpty with
      | false =>
       rw [hxl] at hxn
       have HE : Hid (ParseR (strBytes s) = (DecV .zero, 2)) := lh (by
        unfold ParseR; rw [HP.out, <- HXV.out]; unfold parseT; rw [if_pos (by simp [hxl])])
       go_wp2_with fail; have hb := HBN.out.setL (vs := [.bool false, .string { data := #[] }, .int .i64 0]) rfl; exact bodyPost_ret (results_cx (d := _) rfl rfl hb Tryz.underlying93 rfl (by kernel_rfl)) rfl (HQ.out _ _ ⟨by rw [HE.out]; rfl, HFN.out.setL (k := 0) (vs := [.bool false, .string { data := #[] }, .int .i64 0]) (.inr (Nat.le_refl _))⟩)
      | true =>
       rw [hxl] at hxn; have HXL := lh hxl; clear hxl; have hpn := str_nil ps
       cases hpe : (strBytes ps).isEmpty with
       | true =>
        rw [hpe] at hpn
        have HE : Hid (ParseR (strBytes s) = (DecV .zero, 2)) := lh (by
         unfold ParseR; rw [HP.out, <- HXV.out]; unfold parseT; rw [if_pos (by simp [hpe])])
        go_wp2_with fail; have hb := HBN.out.setL (vs := [.bool false, .string { data := #[] }, .int .i64 0]) rfl; exact bodyPost_ret (results_cx (d := _) rfl rfl hb Tryz.underlying93 rfl (by kernel_rfl)) rfl (HQ.out _ _ ⟨by rw [HE.out]; rfl, HFN.out.setL (k := 0) (vs := [.bool false, .string { data := #[] }, .int .i64 0]) (.inr (Nat.le_refl _))⟩)
       | false =>
        rw [hpe] at hpn; have HPE := lh hpe; have hcs : (wh ++ ps).size <= 1000000 := by rw [ByteArray.size_append]; omega
        have had := fun W => run_string_add_sum (P := Tryz.prog) W wh ps (by omega); have HSN : Hid (strBytes (wh ++ ps) = strBytes wh ++ strBytes ps) := lh (strBytes_app _ _); obtain ⟨cat, hcat⟩ : ∃ cat, wh ++ ps = cat := ⟨_, rfl⟩; rw [hcat] at hcs had HSN; clear hpe hcat; have HG : Hid ((!true || !xl.isEmpty || (strBytes wh).isEmpty || (decide (1 < (strBytes wh).length) && isHead 48 (strBytes wh)) || (true && (strBytes ps).isEmpty)) = false) := lh (by rw [HXL.out, HWE.out, HZ.out, HPE.out]; rfl); have HCT : Hid (formD neg (strBytes wh ++ strBytes ps) (xe - ((strBytes ps).length : Int)) = formD neg (strBytes cat) (xe - (ps.size : Int))) := lh (by rw [HSN.out, strBytes_len])
        have HE : Hid (ParseR (strBytes s) = FormR neg (strBytes cat) (xe - (ps.size : Int))) := lh (by
         unfold ParseR FormR; rw [HP.out, <- HXV.out]; unfold parseT; rw [if_neg (by rw [HG.out]; simp), HCT.out]
         all_goals (cases formD neg (strBytes cat) (xe - (ps.size : Int)) <;> rfl))
        go_wp2_with fail; refine (form_any neg cat (xe - (ps.size : Int)) (by omega) (by omega) (by omega)).mono ?_; rintro e w6 ⟨rfl, hf6⟩; rw [<- HE.out]; have HF6 := lh (HFN.out.trans hf6 (by simp)); have hb6 := HBN.out.fr hf6 (by simp); have q0 := hb6.at_ (i := 0) rfl; have q1 := hb6.at_ (i := 1) rfl; have q2 := hb6.at_ (i := 2) rfl; have qf := hb6.free; have HB6 := lh hb6
        obtain ⟨D, hD⟩ : ∃ D : Dcm, (ParseR (strBytes s)).1 = DecV D := by
         unfold ParseR
         cases parseD (strBytes s) with
         | ok d => exact ⟨d, rfl⟩
         | error e => exact ⟨.zero, rfl⟩
        have HD := lh hD; rw [hD]; unfold DecV S8; clear hf6 hb6 hD z0 z1 z2 zf; obtain ⟨dx, hdx⟩ : ∃ dx : ByteArray, dx = ⟨D.digits.toArray⟩ := ⟨_, rfl⟩; rw [<- hdx]; have HDX := lh hdx; clear hdx; go_wp2_with fail; have hb := HB6.out.setL (vs := [.bool D.neg, .string dx, .int .i64 D.exp]) rfl; exact bodyPost_ret (results_cx (d := _) rfl rfl hb Tryz.underlying93 rfl (by kernel_rfl)) rfl (HQ.out _ _ ⟨by rw [HD.out]; unfold DecV S8; rw [<- HDX.out]; rfl, HF6.out.setL (k := 0) (vs := [.bool D.neg, .string dx, .int .i64 D.exp]) (.inr (Nat.le_refl _))⟩)
   ·have d1 : decide (1 < (wh.size : Int)) = false := by rw [decide_eq_false_iff_not]; omega
    have HZ : Hid ((decide (1 < (strBytes wh).length) && isHead 48 (strBytes wh)) = false) := lh (by rw [decide_eq_false (by rw [strBytes_len]; exact hw1), Bool.false_and])
    cases xo with
    | false =>
     have HE : Hid (ParseR (strBytes s) = (DecV .zero, 2)) := lh (by
      unfold ParseR; rw [HP.out, <- HXV.out]; unfold parseT; rw [if_pos (by simp)])
     go_wp2_with fail; have hb := HBN.out.setL (vs := [.bool false, .string { data := #[] }, .int .i64 0]) rfl; exact bodyPost_ret (results_cx (d := _) rfl rfl hb Tryz.underlying93 rfl (by kernel_rfl)) rfl (HQ.out _ _ ⟨by rw [HE.out]; rfl, HFN.out.setL (k := 0) (vs := [.bool false, .string { data := #[] }, .int .i64 0]) (.inr (Nat.le_refl _))⟩)
    | true =>
     cases hxl : xl.isEmpty with
     | false =>
      rw [hxl] at hxn
      have HE : Hid (ParseR (strBytes s) = (DecV .zero, 2)) := lh (by
       unfold ParseR; rw [HP.out, <- HXV.out]; unfold parseT; rw [if_pos (by simp [hxl])])
      go_wp2_with fail; have hb := HBN.out.setL (vs := [.bool false, .string { data := #[] }, .int .i64 0]) rfl; exact bodyPost_ret (results_cx (d := _) rfl rfl hb Tryz.underlying93 rfl (by kernel_rfl)) rfl (HQ.out _ _ ⟨by rw [HE.out]; rfl, HFN.out.setL (k := 0) (vs := [.bool false, .string { data := #[] }, .int .i64 0]) (.inr (Nat.le_refl _))⟩)
     | true =>
      rw [hxl] at hxn; have HXL := lh hxl
      cases hwe : (strBytes wh).isEmpty with
      | true =>
       rw [hwe] at hwn; have HWE := lh hwe; clear hwe hxl
       have HE : Hid (ParseR (strBytes s) = (DecV .zero, 2)) := lh (by
        unfold ParseR; rw [HP.out, <- HXV.out]; unfold parseT; rw [if_pos (by simp [HWE.out])])
       go_wp2_with fail; have hb := HBN.out.setL (vs := [.bool false, .string { data := #[] }, .int .i64 0]) rfl; exact bodyPost_ret (results_cx (d := _) rfl rfl hb Tryz.underlying93 rfl (by kernel_rfl)) rfl (HQ.out _ _ ⟨by rw [HE.out]; rfl, HFN.out.setL (k := 0) (vs := [.bool false, .string { data := #[] }, .int .i64 0]) (.inr (Nat.le_refl _))⟩)
      | false =>
       rw [hwe] at hwn; have HWE := lh hwe; clear hwe hxl; have hpn := str_nil ps
       cases hpe : (strBytes ps).isEmpty with
       | true =>
        rw [hpe] at hpn
        have HE : Hid (ParseR (strBytes s) = (DecV .zero, 2)) := lh (by
         unfold ParseR; rw [HP.out, <- HXV.out]; unfold parseT; rw [if_pos (by simp [hpe])])
        go_wp2_with fail; have hb := HBN.out.setL (vs := [.bool false, .string { data := #[] }, .int .i64 0]) rfl; exact bodyPost_ret (results_cx (d := _) rfl rfl hb Tryz.underlying93 rfl (by kernel_rfl)) rfl (HQ.out _ _ ⟨by rw [HE.out]; rfl, HFN.out.setL (k := 0) (vs := [.bool false, .string { data := #[] }, .int .i64 0]) (.inr (Nat.le_refl _))⟩)
       | false =>
        rw [hpe] at hpn; have HPE := lh hpe; have hcs : (wh ++ ps).size <= 1000000 := by rw [ByteArray.size_append]; omega
        have had := fun W => run_string_add_sum (P := Tryz.prog) W wh ps (by omega); have HSN : Hid (strBytes (wh ++ ps) = strBytes wh ++ strBytes ps) := lh (strBytes_app _ _); obtain ⟨cat, hcat⟩ : ∃ cat, wh ++ ps = cat := ⟨_, rfl⟩; rw [hcat] at hcs had HSN; clear hpe hcat; have HG : Hid ((!true || !xl.isEmpty || (strBytes wh).isEmpty || (decide (1 < (strBytes wh).length) && isHead 48 (strBytes wh)) || (true && (strBytes ps).isEmpty)) = false) := lh (by rw [HXL.out, HWE.out, HZ.out, HPE.out]; rfl); have HCT : Hid (formD neg (strBytes wh ++ strBytes ps) (xe - ((strBytes ps).length : Int)) = formD neg (strBytes cat) (xe - (ps.size : Int))) := lh (by rw [HSN.out, strBytes_len])
        have HE : Hid (ParseR (strBytes s) = FormR neg (strBytes cat) (xe - (ps.size : Int))) := lh (by
         unfold ParseR FormR; rw [HP.out, <- HXV.out]; unfold parseT; rw [if_neg (by rw [HG.out]; simp), HCT.out]
         all_goals (cases formD neg (strBytes cat) (xe - (ps.size : Int)) <;> rfl))
        go_wp2_with fail; refine (form_any neg cat (xe - (ps.size : Int)) (by omega) (by omega) (by omega)).mono ?_; rintro e w6 ⟨rfl, hf6⟩; rw [<- HE.out]; have HF6 := lh (HFN.out.trans hf6 (by simp)); have hb6 := HBN.out.fr hf6 (by simp); have q0 := hb6.at_ (i := 0) rfl; have q1 := hb6.at_ (i := 1) rfl; have q2 := hb6.at_ (i := 2) rfl; have qf := hb6.free; have HB6 := lh hb6
        obtain ⟨D, hD⟩ : ∃ D : Dcm, (ParseR (strBytes s)).1 = DecV D := by
         unfold ParseR
         cases parseD (strBytes s) with
         | ok d => exact ⟨d, rfl⟩
         | error e => exact ⟨.zero, rfl⟩
        have HD := lh hD; rw [hD]; unfold DecV S8; clear hf6 hb6 hD z0 z1 z2 zf; obtain ⟨dx, hdx⟩ : ∃ dx : ByteArray, dx = ⟨D.digits.toArray⟩ := ⟨_, rfl⟩; rw [<- hdx]; have HDX := lh hdx; clear hdx; go_wp2_with fail; have hb := HB6.out.setL (vs := [.bool D.neg, .string dx, .int .i64 D.exp]) rfl; exact bodyPost_ret (results_cx (d := _) rfl rfl hb Tryz.underlying93 rfl (by kernel_rfl)) rfl (HQ.out _ _ ⟨by rw [HD.out]; unfold DecV S8; rw [<- HDX.out]; rfl, HF6.out.setL (k := 0) (vs := [.bool D.neg, .string dx, .int .i64 D.exp]) (.inr (Nat.le_refl _))⟩)
  | false =>
   have HFK := HF2; have HBK := HB2
   have HP : Hid (parseD (strBytes s) = parseT neg false (strBytes wh) [] (expD (strBytes r1))) := lh (by
    rw [HP0.out, HWH.out, HR1.out]; rfl)
   clear hbh hpt; go_wp2_with fail; refine (exponent_any r1 (by omega)).mono ?_; rintro e wN ⟨xr, rfl, hxr, hfN⟩; obtain ⟨xv, hxv⟩ := nm (expD (strBytes r1)); have hxb : -1000000 <= xv.1 /\ xv.1 <= 1000000 := by rw [hxv]; exact expD_bd _
   rw [<- hxv] at hxr ⊢; have HFN := lh (HFK.out.trans hfN (by simp)); have HBN := lh (HBK.out.fr hfN (by simp)); have z0 := HBN.out.at_ (i := 0) rfl; have z1 := HBN.out.at_ (i := 1) rfl; have z2 := HBN.out.at_ (i := 2) rfl; have zf := HBN.out.free; have hxn := str_nil xr; have hwn := str_nil wh; rw [hxr] at hxn; obtain ⟨xe, xl, xo⟩ := xv; have HXV := lh hxv
   simp only at hxn hxb ⊢
   clear hxv hxr hfN
   by_cases hw1 : 1 < wh.size
   ·have d1 : decide (1 < (wh.size : Int)) = true := by rw [decide_eq_true_eq]; omega
    have d1' : decide (1 < (strBytes wh).length) = true := by rw [decide_eq_true_eq, strBytes_len]; exact hw1
    obtain ⟨c0, hc0⟩ : ∃ c0, (strBytes wh)[0]? = some c0 := gx (by rw [strBytes_len]; omega); have hx0 := str_index (s := wh) (i := 0) hc0 .i64; rw [show ((0 : Nat) : Int) = 0 from rfl] at hx0; have hzz : ((c0.toNat : Int) == 48) = isHead 48 (strBytes wh) := by rw [head_eq hc0]
    have hwe : (strBytes wh).isEmpty = false := by
     cases hl : strBytes wh with
     | nil => rw [hl] at hc0; cases hc0
     | cons x xs => rfl
    rw [hwe] at hwn; have HWE := lh hwe
    cases hzz2 : isHead 48 (strBytes wh) with
    | true =>
     rw [hzz2] at hzz; have HZZ := lh hzz2; have HD1 := lh d1'; clear hzz2 d1' hc0 hwe
     cases xo with
     | false =>
      have HE : Hid (ParseR (strBytes s) = (DecV .zero, 2)) := lh (by
       unfold ParseR; rw [HP.out, <- HXV.out]; unfold parseT; rw [if_pos (by simp)])
      go_wp2_with fail; have hb := HBN.out.setL (vs := [.bool false, .string { data := #[] }, .int .i64 0]) rfl; exact bodyPost_ret (results_cx (d := _) rfl rfl hb Tryz.underlying93 rfl (by kernel_rfl)) rfl (HQ.out _ _ ⟨by rw [HE.out]; rfl, HFN.out.setL (k := 0) (vs := [.bool false, .string { data := #[] }, .int .i64 0]) (.inr (Nat.le_refl _))⟩)
     | true =>
      cases hxl : xl.isEmpty
      case' false =>
       rw [hxl] at hxn
       have HE : Hid (ParseR (strBytes s) = (DecV .zero, 2)) := lh (by
        unfold ParseR; rw [HP.out, <- HXV.out]; unfold parseT; rw [if_pos (by simp [hxl])])
      case' true =>
       rw [hxl] at hxn
       have HE : Hid (ParseR (strBytes s) = (DecV .zero, 2)) := lh (by
        unfold ParseR; rw [HP.out, <- HXV.out]; unfold parseT; rw [if_pos (by simp [HZZ.out, of_decide_eq_true HD1.out])])
      all_goals
       go_wp2_with fail; have hb := HBN.out.setL (vs := [.bool false, .string { data := #[] }, .int .i64 0]) rfl; exact bodyPost_ret (results_cx (d := _) rfl rfl hb Tryz.underlying93 rfl (by kernel_rfl)) rfl (HQ.out _ _ ⟨by rw [HE.out]; rfl, HFN.out.setL (k := 0) (vs := [.bool false, .string { data := #[] }, .int .i64 0]) (.inr (Nat.le_refl _))⟩)
    | false =>
     rw [hzz2] at hzz; have HZ : Hid ((decide (1 < (strBytes wh).length) && isHead 48 (strBytes wh)) = false) := lh (by rw [hzz2, Bool.and_false]); clear hzz2 d1' hc0 hwe
     cases xo with
     | false =>
      have HE : Hid (ParseR (strBytes s) = (DecV .zero, 2)) := lh (by
       unfold ParseR; rw [HP.out, <- HXV.out]; unfold parseT; rw [if_pos (by simp)])
      go_wp2_with fail; have hb := HBN.out.setL (vs := [.bool false, .string { data := #[] }, .int .i64 0]) rfl; exact bodyPost_ret (results_cx (d := _) rfl rfl hb Tryz.underlying93 rfl (by kernel_rfl)) rfl (HQ.out _ _ ⟨by rw [HE.out]; rfl, HFN.out.setL (k := 0) (vs := [.bool false, .string { data := #[] }, .int .i64 0]) (.inr (Nat.le_refl _))⟩)
     | true =>
      cases hxl : xl.isEmpty with
      | false =>
       rw [hxl] at hxn
       have HE : Hid (ParseR (strBytes s) = (DecV .zero, 2)) := lh (by
        unfold ParseR; rw [HP.out, <- HXV.out]; unfold parseT; rw [if_pos (by simp [hxl])])
       go_wp2_with fail; have hb := HBN.out.setL (vs := [.bool false, .string { data := #[] }, .int .i64 0]) rfl; exact bodyPost_ret (results_cx (d := _) rfl rfl hb Tryz.underlying93 rfl (by kernel_rfl)) rfl (HQ.out _ _ ⟨by rw [HE.out]; rfl, HFN.out.setL (k := 0) (vs := [.bool false, .string { data := #[] }, .int .i64 0]) (.inr (Nat.le_refl _))⟩)
      | true =>
       rw [hxl] at hxn; have HXL := lh hxl; clear hxl; have HSN : Hid (strBytes (wh ++ { data := #[] }) = strBytes wh ++ []) := lh (strBytes_app _ _); have hcs : (wh ++ ({ data := #[] } : ByteArray)).size <= 1000000 := by rw [ByteArray.size_append, show ({ data := #[] } : ByteArray).size = 0 from rfl]; omega
       have had := fun W => run_string_add_sum (P := Tryz.prog) W wh { data := #[] } (by rw [show ({ data := #[] } : ByteArray).size = 0 from rfl]; omega); obtain ⟨cat, hcat⟩ : ∃ cat, wh ++ { data := #[] } = cat := ⟨_, rfl⟩; rw [hcat] at hcs had HSN; clear hcat; have HG : Hid ((!true || !xl.isEmpty || (strBytes wh).isEmpty || (decide (1 < (strBytes wh).length) && isHead 48 (strBytes wh)) || (false && ([] : List UInt8).isEmpty)) = false) := lh (by rw [HXL.out, HWE.out, HZ.out]; rfl); have HCT : Hid (formD neg (strBytes wh ++ []) (xe - (([] : List UInt8).length : Int)) = formD neg (strBytes cat) xe) := lh (by rw [HSN.out, show xe - (([] : List UInt8).length : Int) = xe by simp])
       have HE : Hid (ParseR (strBytes s) = FormR neg (strBytes cat) (xe)) := lh (by
        unfold ParseR FormR; rw [HP.out, <- HXV.out]; unfold parseT; rw [if_neg (by rw [HG.out]; simp), HCT.out]
        all_goals (cases formD neg (strBytes cat) (xe) <;> rfl))
       go_wp2_with fail; refine (form_any neg cat (xe) (by omega) (by omega) (by omega)).mono ?_; rintro e w6 ⟨rfl, hf6⟩; rw [<- HE.out]; have HF6 := lh (HFN.out.trans hf6 (by simp)); have hb6 := HBN.out.fr hf6 (by simp); have q0 := hb6.at_ (i := 0) rfl; have q1 := hb6.at_ (i := 1) rfl; have q2 := hb6.at_ (i := 2) rfl; have qf := hb6.free; have HB6 := lh hb6
       obtain ⟨D, hD⟩ : ∃ D : Dcm, (ParseR (strBytes s)).1 = DecV D := by
        unfold ParseR
        cases parseD (strBytes s) with
        | ok d => exact ⟨d, rfl⟩
        | error e => exact ⟨.zero, rfl⟩
       have HD := lh hD; rw [hD]; unfold DecV S8; clear hf6 hb6 hD z0 z1 z2 zf; obtain ⟨dx, hdx⟩ : ∃ dx : ByteArray, dx = ⟨D.digits.toArray⟩ := ⟨_, rfl⟩; rw [<- hdx]; have HDX := lh hdx; clear hdx; go_wp2_with fail; have hb := HB6.out.setL (vs := [.bool D.neg, .string dx, .int .i64 D.exp]) rfl; exact bodyPost_ret (results_cx (d := _) rfl rfl hb Tryz.underlying93 rfl (by kernel_rfl)) rfl (HQ.out _ _ ⟨by rw [HD.out]; unfold DecV S8; rw [<- HDX.out]; rfl, HF6.out.setL (k := 0) (vs := [.bool D.neg, .string dx, .int .i64 D.exp]) (.inr (Nat.le_refl _))⟩)
   ·have d1 : decide (1 < (wh.size : Int)) = false := by rw [decide_eq_false_iff_not]; omega
    have HZ : Hid ((decide (1 < (strBytes wh).length) && isHead 48 (strBytes wh)) = false) := lh (by rw [decide_eq_false (by rw [strBytes_len]; exact hw1), Bool.false_and])
    cases xo with
    | false =>
     have HE : Hid (ParseR (strBytes s) = (DecV .zero, 2)) := lh (by
      unfold ParseR; rw [HP.out, <- HXV.out]; unfold parseT; rw [if_pos (by simp)])
     go_wp2_with fail; have hb := HBN.out.setL (vs := [.bool false, .string { data := #[] }, .int .i64 0]) rfl; exact bodyPost_ret (results_cx (d := _) rfl rfl hb Tryz.underlying93 rfl (by kernel_rfl)) rfl (HQ.out _ _ ⟨by rw [HE.out]; rfl, HFN.out.setL (k := 0) (vs := [.bool false, .string { data := #[] }, .int .i64 0]) (.inr (Nat.le_refl _))⟩)
    | true =>
     cases hxl : xl.isEmpty with
     | false =>
      rw [hxl] at hxn
      have HE : Hid (ParseR (strBytes s) = (DecV .zero, 2)) := lh (by
       unfold ParseR; rw [HP.out, <- HXV.out]; unfold parseT; rw [if_pos (by simp [hxl])])
      go_wp2_with fail; have hb := HBN.out.setL (vs := [.bool false, .string { data := #[] }, .int .i64 0]) rfl; exact bodyPost_ret (results_cx (d := _) rfl rfl hb Tryz.underlying93 rfl (by kernel_rfl)) rfl (HQ.out _ _ ⟨by rw [HE.out]; rfl, HFN.out.setL (k := 0) (vs := [.bool false, .string { data := #[] }, .int .i64 0]) (.inr (Nat.le_refl _))⟩)
     | true =>
      rw [hxl] at hxn; have HXL := lh hxl
      cases hwe : (strBytes wh).isEmpty with
      | true =>
       rw [hwe] at hwn; have HWE := lh hwe; clear hwe hxl
       have HE : Hid (ParseR (strBytes s) = (DecV .zero, 2)) := lh (by
        unfold ParseR; rw [HP.out, <- HXV.out]; unfold parseT; rw [if_pos (by simp [HWE.out])])
       go_wp2_with fail; have hb := HBN.out.setL (vs := [.bool false, .string { data := #[] }, .int .i64 0]) rfl; exact bodyPost_ret (results_cx (d := _) rfl rfl hb Tryz.underlying93 rfl (by kernel_rfl)) rfl (HQ.out _ _ ⟨by rw [HE.out]; rfl, HFN.out.setL (k := 0) (vs := [.bool false, .string { data := #[] }, .int .i64 0]) (.inr (Nat.le_refl _))⟩)
      | false =>
       rw [hwe] at hwn; have HWE := lh hwe; clear hwe hxl; have HSN : Hid (strBytes (wh ++ { data := #[] }) = strBytes wh ++ []) := lh (strBytes_app _ _); have hcs : (wh ++ ({ data := #[] } : ByteArray)).size <= 1000000 := by rw [ByteArray.size_append, show ({ data := #[] } : ByteArray).size = 0 from rfl]; omega
       have had := fun W => run_string_add_sum (P := Tryz.prog) W wh { data := #[] } (by rw [show ({ data := #[] } : ByteArray).size = 0 from rfl]; omega); obtain ⟨cat, hcat⟩ : ∃ cat, wh ++ { data := #[] } = cat := ⟨_, rfl⟩; rw [hcat] at hcs had HSN; clear hcat; have HG : Hid ((!true || !xl.isEmpty || (strBytes wh).isEmpty || (decide (1 < (strBytes wh).length) && isHead 48 (strBytes wh)) || (false && ([] : List UInt8).isEmpty)) = false) := lh (by rw [HXL.out, HWE.out, HZ.out]; rfl); have HCT : Hid (formD neg (strBytes wh ++ []) (xe - (([] : List UInt8).length : Int)) = formD neg (strBytes cat) xe) := lh (by rw [HSN.out, show xe - (([] : List UInt8).length : Int) = xe by simp])
       have HE : Hid (ParseR (strBytes s) = FormR neg (strBytes cat) (xe)) := lh (by
        unfold ParseR FormR; rw [HP.out, <- HXV.out]; unfold parseT; rw [if_neg (by rw [HG.out]; simp), HCT.out]
        all_goals (cases formD neg (strBytes cat) (xe) <;> rfl))
       go_wp2_with fail; refine (form_any neg cat (xe) (by omega) (by omega) (by omega)).mono ?_; rintro e w6 ⟨rfl, hf6⟩; rw [<- HE.out]; have HF6 := lh (HFN.out.trans hf6 (by simp)); have hb6 := HBN.out.fr hf6 (by simp); have q0 := hb6.at_ (i := 0) rfl; have q1 := hb6.at_ (i := 1) rfl; have q2 := hb6.at_ (i := 2) rfl; have qf := hb6.free; have HB6 := lh hb6
       obtain ⟨D, hD⟩ : ∃ D : Dcm, (ParseR (strBytes s)).1 = DecV D := by
        unfold ParseR
        cases parseD (strBytes s) with
        | ok d => exact ⟨d, rfl⟩
        | error e => exact ⟨.zero, rfl⟩
       have HD := lh hD; rw [hD]; unfold DecV S8; clear hf6 hb6 hD z0 z1 z2 zf; obtain ⟨dx, hdx⟩ : ∃ dx : ByteArray, dx = ⟨D.digits.toArray⟩ := ⟨_, rfl⟩; rw [<- hdx]; have HDX := lh hdx; clear hdx; go_wp2_with fail; have hb := HB6.out.setL (vs := [.bool D.neg, .string dx, .int .i64 D.exp]) rfl; exact bodyPost_ret (results_cx (d := _) rfl rfl hb Tryz.underlying93 rfl (by kernel_rfl)) rfl (HQ.out _ _ ⟨by rw [HD.out]; unfold DecV S8; rw [<- HDX.out]; rfl, HF6.out.setL (k := 0) (vs := [.bool D.neg, .string dx, .int .i64 D.exp]) (.inr (Nat.le_refl _))⟩)
theorem fig_idx (c : UInt8) : decide (0 <= Lib.indexByte figL c) = figB c := eq_of_beq (u8_all (fun c => decide (0 <= Lib.indexByte figL c) == figB c) (by decide +kernel) c)
theorem digit_any (c : UInt8) (w : World) : Calls Tryz.prog 106 #[.int .u8 (c.toNat : Int)] w fun e w' => e = .returned (.bool (figB c)) /\ w = w' := by
 have h := fig_idx c
 go_enter Tryz.func106, Tryz.ntmps106
 go_wp2_with fail; refine (indexByte_u _ c _).mono ?_; rintro e w1 ⟨rfl, rfl⟩; obtain ⟨x, hx⟩ : ∃ x, Lib.indexByte figL c = x := ⟨_, rfl⟩; have e : Lib.indexByte (ByteArray.mk #[48, 49, 50, 51, 52, 53, 54, 55, 56, 57]).data.toList c = x := hx; rw [hx] at h; rw [e]; clear e hx; go_wp2_with fail
 go_ret
 exact ⟨by rw [<- h]; rfl, rfl⟩
def letR (r : Int) : Bool := decide (97 <= r /\ r <= 122) || decide (65 <= r /\ r <= 90) || r == 95 || decide (127 < r)
theorem letR_u8 (c : UInt8) : letR (c.toNat : Int) = begB c := eq_of_beq (u8_all (fun c => letR (c.toNat : Int) == begB c) (by decide +kernel) c)
theorem letR_hi {r : Int} (h : 128 <= r) : letR r = true := by
 unfold letR; rw [decide_eq_true (show 127 < r by omega)]; simp
theorem letter_any (r : Int) (w : World) : Calls Tryz.prog 104 #[.int .i32 r] w fun e w' => e = .returned (.bool (letR r)) /\ w = w' := by
 have hs : ∀ b, letR r = b -> Calls Tryz.prog 104 #[.int .i32 r] w fun e w' => e = .returned (.bool b) /\ w = w' := by
  intro b hb; unfold letR at hb
  by_cases h1 : 97 <= r
  ·by_cases h2 : r <= 122
   ·obtain rfl : b = true := by rw [<- hb, decide_eq_true (show 97 <= r /\ r <= 122 from ⟨h1, h2⟩)]; simp
    clear hb
    go_enter Tryz.func104, Tryz.ntmps104
    go_wp2_with fail
    go_ret
    exact ⟨rfl, rfl⟩
   ·by_cases h3 : 127 < r
    ·obtain rfl : b = true := by rw [<- hb, decide_eq_true h3]; simp
     have h4 : ¬ r <= 90 := by omega
     have h5 : (r == 95) = false := by rw [beq_eq_false_iff_ne]; omega
     clear hb
     go_enter Tryz.func104, Tryz.ntmps104
     go_wp2_with fail
     go_ret
     exact ⟨rfl, rfl⟩
    ·obtain rfl : b = false := by rw [<- hb, decide_eq_false h3, decide_eq_false (show ¬ (97 <= r /\ r <= 122) by omega), decide_eq_false (show ¬ (65 <= r /\ r <= 90) by omega), show (r == 95) = false by rw [beq_eq_false_iff_ne]; omega]; rfl
     have h4 : ¬ r <= 90 := by omega
     have h5 : (r == 95) = false := by rw [beq_eq_false_iff_ne]; omega
     clear hb
     go_enter Tryz.func104, Tryz.ntmps104
     go_wp2_with fail
     go_ret
     exact ⟨rfl, rfl⟩
  ·have h3 : ¬ 127 < r := by omega
   by_cases h2 : 65 <= r
   ·by_cases h4 : r <= 90
    ·obtain rfl : b = true := by rw [<- hb, decide_eq_true (show 65 <= r /\ r <= 90 from ⟨h2, h4⟩)]; simp
     clear hb
     go_enter Tryz.func104, Tryz.ntmps104
     go_wp2_with fail
     go_ret
     exact ⟨rfl, rfl⟩
    ·obtain rfl : b = (r == 95) := by rw [<- hb, decide_eq_false h3, decide_eq_false (show ¬ (97 <= r /\ r <= 122) by omega), decide_eq_false (show ¬ (65 <= r /\ r <= 90) by omega)]; simp
     clear hb
     cases h5 : (r == 95)
     ·skip
      go_enter Tryz.func104, Tryz.ntmps104
      go_wp2_with fail
      go_ret
      exact ⟨rfl, rfl⟩
     ·skip
      go_enter Tryz.func104, Tryz.ntmps104
      go_wp2_with fail
      go_ret
      exact ⟨rfl, rfl⟩
   ·obtain rfl : b = false := by rw [<- hb, decide_eq_false h3, decide_eq_false (show ¬ (97 <= r /\ r <= 122) by omega), decide_eq_false (show ¬ (65 <= r /\ r <= 90) by omega), show (r == 95) = false by rw [beq_eq_false_iff_ne]; omega]; rfl
    have h5 : (r == 95) = false := by rw [beq_eq_false_iff_ne]; omega
    clear hb
    go_enter Tryz.func104, Tryz.ntmps104
    go_wp2_with fail
    go_ret
    exact ⟨rfl, rfl⟩
 exact hs _ rfl
theorem Fr.iterAt {S : List Nat} {a b : World} (h : Fr S a b) {k : Nat} (hk : a.heap.size <= k) (s : ByteArray) (pos : Nat) : Fr S a (b.iterAt k s pos) :=
 ⟨h.os, h.tape, h.output, by rw [Lib.iterAt_size]; exact h.size, fun i hi hn => (Lib.iterAt_other b k i s pos (by omega)).trans (h.block i hi hn)⟩
def NmRel (w : World) (s : ByteArray) (j : Nat) (v4 : Value) (wr : World) : Prop := ∃ pos, v4 = .int .i64 (s.size : Int) /\ pos <= s.size /\ s.size <= pos + j /\ wr.heap[w.heap.size]? = some (.stringIter s pos) /\ (∀ c ∈ (strBytes s).take pos, nameB c = true) /\ Fr [] w wr
theorem name_step (s : ByteArray) (pos : Nat) (h : pos < s.size) : ∃ r k : Nat, Utf8.decode s pos = (r, k) /\ 1 <= k /\ pos + k <= s.size /\ r <= 2097151 /\
  ((letR (r : Int) = true ∨ (48 <= r /\ r <= 57)) -> ∀ c ∈ ((strBytes s).drop pos).take k, nameB c = true) /\ (¬ (letR (r : Int) = true ∨ (48 <= r /\ r <= 57)) -> nameB (s[pos]'h) = false) := by
 by_cases ha : (s[pos]'h).toNat < 128
 ·refine ⟨_, _, decode_ascii s pos h ha, Nat.le_refl _, by omega, by omega, fun hl c hc => ?_, fun hl => ?_⟩
  ·rw [drop_of_get (strBytes_at s h)] at hc; simp only [List.take_succ_cons, List.take_zero, List.mem_singleton] at hc; subst hc; unfold nameB; rw [<- letR_u8]; rcases hl with hl | hl
   ·rw [hl]; rfl
   ·unfold figB; rw [decide_eq_true hl]; simp
  ·unfold nameB; rw [<- letR_u8]; simp only [not_or] at hl; rw [Bool.not_eq_true] at hl; rw [hl.1]; unfold figB; rw [decide_eq_false hl.2]; rfl
 ·obtain ⟨r, k, hd, h1, h2, h3, h4, h5⟩ := decode_hi s pos h (by omega); refine ⟨r, k, hd, h3, h4, h2, fun _ c hc => ?_, fun hl => absurd (.inl (letR_hi (by omega))) hl⟩; obtain ⟨j, hj⟩ := List.mem_iff_getElem?.1 hc; rw [List.getElem?_take] at hj
  split at hj
  ·rename_i hjk
   rw [List.getElem?_drop] at hj; have hjs : pos + j < s.size := by omega
   rw [strBytes_at s hjs] at hj; injection hj with hj; rw [<- hj]; exact nameB_hi (h5 _ hjs (by omega) (by omega))
  ·cases hj
theorem name_any {w : World} (s : ByteArray) (hs : s.size <= 1000000) : Calls Tryz.prog 105 #[.string s] w fun e w' => e = .returned (.tuple #[.int .i64 (((strBytes s).takeWhile nameB).length : Int), .bool (checkU ((strBytes s).takeWhile nameB))]) /\ Fr [] w w' := by
 refine calls_post fun R HQ => ?_
 go_enter Tryz.func105, Tryz.ntmps105
 go_wp2_with fail; have hit0 : (w.iter s 0).heap[w.heap.size]? = some (.stringIter s 0) := World.iter_heap w s 0; have hf0 : Fr [] w (w.iter s 0) := (Fr.refl [] w).alloc _; generalize w.iter s 0 = w0 at *; have HI0 := lh hit0; have HF0 := lh hf0; clear hit0 hf0
 go_loopg [4, 5, 6] s.size (fun j v4 _ _ wr => NmRel w s j v4 wr)
 case atStart => exact ⟨0, rfl, Nat.zero_le _, by omega, HI0.out, by simp, HF0.out⟩
 case round =>
  obtain ⟨pos, rfl, hp, hj, hit, hall, hf⟩ := hrel; have HIT := lh hit; have HALL := lh hall; have HF := lh hf; clear hit hall hf HI0 HF0
  by_cases hps : pos < s.size
  ·obtain ⟨r, k, hd, hk1, hk2, hr, hy, hn⟩ := name_step s pos hps
   have hnx : ∀ ty, (Instr.next (.pointer (some ⟨w.heap.size, 0, none⟩)) true ty).run Tryz.prog wr = .ok (.tuple #[.bool true, .int .i64 pos, .int .i32 r]) (wr.iterAt w.heap.size s (pos + k)) := fun ty => by
    have := Lib.run_next_any_at (P := Tryz.prog) wr w.heap.size s pos ty HIT.out hps; rw [hd] at this; exact this
   have HIT2 := lh (Lib.iterAt_heap wr w.heap.size s pos (pos + k) HIT.out); have HF2 := lh (HF.out.iterAt (Nat.le_refl _) s (pos + k)); have HY := lh hy; have HN := lh hn; obtain ⟨w2, hw2⟩ : ∃ w2, wr.iterAt w.heap.size s (pos + k) = w2 := ⟨_, rfl⟩; rw [hw2] at hnx HIT2 HF2; clear hy hn hd hw2; obtain ⟨lt, hlt⟩ : ∃ lt, letR (r : Int) = lt := ⟨_, rfl⟩
   have hmore : (letR (r : Int) = true ∨ (48 <= r /\ r <= 57)) -> ∀ c ∈ (strBytes s).take (pos + k), nameB c = true := fun h c hc => by
    rw [List.take_add] at hc; rcases List.mem_append.1 hc with h1 | h1
    ·exact HALL.out c h1
    ·exact HY.out h c h1
   have hstop : ¬ (letR (r : Int) = true ∨ (48 <= r /\ r <= 57)) -> (strBytes s).takeWhile nameB = (strBytes s).take pos := fun h =>
    (takeWhile_at (by rw [strBytes_len]; exact hp) HALL.out (fun c hc => by
     rw [strBytes_at s hps] at hc; injection hc with hc; rw [<- hc]; exact HN.out h)).1
   have HM := lh hmore; have HS := lh hstop; have HLT := lh hlt; clear hmore hstop hlt; go_wp2_with fail; refine (letter_any _ _).mono ?_; rintro e w3 ⟨rfl, rfl⟩; rw [HLT.out]
   cases lt with
   | true =>
    have HM2 := lh (HM.out (.inl HLT.out)); clear hnx; go_wp2_with fail
    go_roundg (s.size - (pos + k))
    case measure => omega
    case rel => exact ⟨pos + k, rfl, hk2, by omega, HIT2.out, HM2.out, HF2.out⟩
   | false =>
    by_cases h48 : r < 48
    ·have HTK := lh (HS.out (by rw [HLT.out]; simp; omega)); have d1 : decide ((r : Int) < 48) = true := by rw [decide_eq_true_eq]; omega
     have HFW := HF2; clear hnx; obtain ⟨t, hext⟩ : ∃ t, s.extract 0 pos = t := ⟨_, rfl⟩; have ht : strBytes t = (strBytes s).take pos := by rw [<- hext, strBytes_sub]; simp
     have htw : strBytes t = (strBytes s).takeWhile nameB := by rw [ht]; exact HTK.out.symm
     have htz : t.size = pos := by rw [size_bytes ht, List.length_take, strBytes_len]; omega
     obtain ⟨C, w3, hcv, hC, hba, hf3⟩ := conv_s w2 t (by omega); rw [htw, htz] at hba; rw [htz] at hcv; have HF3 := lh (HFW.out.trans hf3 (by simp)); have HBA := lh hba; have HTW := lh htw; clear ht hba hf3 htw; go_wp2_with fail; refine (checkU_any HBA.out (by omega)).mono ?_; rintro e w4 ⟨x, rfl, hx, hf4⟩; have HF4 := lh (HF3.out.trans hf4 (by simp)); have HX := lh hx; clear hf4 hx hcv hext; go_wp2_with fail; have hlen : ((strBytes s).takeWhile nameB).length = pos := by rw [<- HTW.out, strBytes_len, htz]
     exact HQ.out _ _ ⟨by rw [hlen, <- HX.out]; rfl, HF4.out⟩
    ·have d1 : decide ((r : Int) < 48) = false := by rw [decide_eq_false_iff_not]; omega
     by_cases h57 : 57 < r
     ·have HTK := lh (HS.out (by rw [HLT.out]; simp; omega)); have d2 : decide (57 < (r : Int)) = true := by rw [decide_eq_true_eq]; omega
      have HFW := HF2; clear hnx; obtain ⟨t, hext⟩ : ∃ t, s.extract 0 pos = t := ⟨_, rfl⟩; have ht : strBytes t = (strBytes s).take pos := by rw [<- hext, strBytes_sub]; simp
      have htw : strBytes t = (strBytes s).takeWhile nameB := by rw [ht]; exact HTK.out.symm
      have htz : t.size = pos := by rw [size_bytes ht, List.length_take, strBytes_len]; omega
      obtain ⟨C, w3, hcv, hC, hba, hf3⟩ := conv_s w2 t (by omega); rw [htw, htz] at hba; rw [htz] at hcv; have HF3 := lh (HFW.out.trans hf3 (by simp)); have HBA := lh hba; have HTW := lh htw; clear ht hba hf3 htw; go_wp2_with fail; refine (checkU_any HBA.out (by omega)).mono ?_; rintro e w4 ⟨x, rfl, hx, hf4⟩; have HF4 := lh (HF3.out.trans hf4 (by simp)); have HX := lh hx; clear hf4 hx hcv hext; go_wp2_with fail; have hlen : ((strBytes s).takeWhile nameB).length = pos := by rw [<- HTW.out, strBytes_len, htz]
      exact HQ.out _ _ ⟨by rw [hlen, <- HX.out]; rfl, HF4.out⟩
     ·have HM2 := lh (HM.out (.inr ⟨by omega, by omega⟩)); have d2 : decide (57 < (r : Int)) = false := by rw [decide_eq_false_iff_not]; omega
      clear hnx; go_wp2_with fail
      go_roundg (s.size - (pos + k))
      case measure => omega
      case rel => exact ⟨pos + k, rfl, hk2, by omega, HIT2.out, HM2.out, HF2.out⟩
  ·have hpe : pos = s.size := by omega
   subst hpe; have hnx : ∀ ty, (Instr.next (.pointer (some ⟨w.heap.size, 0, none⟩)) true ty).run Tryz.prog wr = .ok (.tuple #[.bool false]) wr := fun ty => Lib.run_next_end_at wr w.heap.size s s.size ty HIT.out hps
   have HTK : Hid ((strBytes s).takeWhile nameB = (strBytes s).take s.size) := lh
    (takeWhile_at (by rw [strBytes_len]; exact Nat.le_refl _) HALL.out (fun c hc => by
     rw [List.getElem?_eq_none (by rw [strBytes_len]; exact Nat.le_refl _)] at hc; cases hc)).1
   have HFW := HF; obtain ⟨t, hext⟩ : ∃ t, s.extract 0 s.size = t := ⟨_, rfl⟩; have ht : strBytes t = (strBytes s).take s.size := by rw [<- hext, strBytes_sub]; simp
   have htw : strBytes t = (strBytes s).takeWhile nameB := by rw [ht]; exact HTK.out.symm
   have htz : t.size = s.size := by rw [size_bytes ht, List.length_take, strBytes_len]; omega
   obtain ⟨C, w3, hcv, hC, hba, hf3⟩ := conv_s wr t (by omega); rw [htw, htz] at hba; rw [htz] at hcv; have HF3 := lh (HFW.out.trans hf3 (by simp)); have HBA := lh hba; have HTW := lh htw; clear ht hba hf3 htw; go_wp2_with fail; refine (checkU_any HBA.out (by omega)).mono ?_; rintro e w4 ⟨x, rfl, hx, hf4⟩; have HF4 := lh (HF3.out.trans hf4 (by simp)); have HX := lh hx; clear hf4 hx hcv hext; go_wp2_with fail; have hlen : ((strBytes s).takeWhile nameB).length = s.size := by rw [<- HTW.out, strBytes_len, htz]
   exact HQ.out _ _ ⟨by rw [hlen, <- HX.out]; rfl, HF4.out⟩
theorem or32_ee (c : UInt8) : (bits .or .u8 (c.toNat : Int) 32 == 101) = eB c := eq_of_beq (u8_all (fun c => (bits .or .u8 (c.toNat : Int) 32 == 101) == eB c) (by decide +kernel) c)
theorem hasPre_any (s p : ByteArray) (w : World) : Calls Tryz.prog 155 #[.string s, .string p] w fun e w' => e = .returned (.bool ((strBytes p).isPrefixOf (strBytes s))) /\ w = w' := by
 refine (Tryz.strings_HasPrefix s p w).mono ?_; rintro e w' ⟨rfl, rfl⟩; exact ⟨rfl, rfl⟩
def NuRel (w : World) (s : ByteArray) (j : Nat) (v8 : Value) (wr : World) : Prop := ∃ (pos : Nat) (p : Option UInt8), pos <= s.size /\ s.size <= pos + j /\ v8 = .int .i64 (pos : Int) /\ numLen none (strBytes s) = pos + numLen p ((strBytes s).drop pos) /\
 ((pos = 0 /\ p = none) ∨ ∃ i b, pos = i + 1 /\ p = some b /\ (strBytes s)[i]? = some b) /\ Fr [] w wr
theorem number_any {w : World} (s : ByteArray) (hs : s.size <= 1000000) : Calls Tryz.prog 107 #[.string s] w fun e w' => e = .returned (.int .i64 (numLen none (strBytes s) : Int)) /\ Fr [] w w' := by
 refine calls_post fun R HQ => ?_
 go_enter Tryz.func107, Tryz.ntmps107
 go_wp2_with fail
 go_loopg [8] s.size (fun j v8 wr => NuRel w s j v8 wr)
 case atStart => exact ⟨0, none, Nat.zero_le _, by omega, rfl, by simp, .inl ⟨rfl, rfl⟩, Fr.refl _ _⟩
 case round =>
  obtain ⟨pos, p, hp, hj, rfl, hn, hprev, hq⟩ := hrel; have HN := lh hn; clear hn
  by_cases hps : pos < s.size
  ·obtain ⟨c, hc⟩ : ∃ c, (strBytes s)[pos]? = some c := ⟨_, strBytes_at s hps⟩; have hx := str_index hc .i64; have HC := lh hc; have HD : Hid ((strBytes s).drop pos = c :: (strBytes s).drop (pos + 1)) := lh (drop_of_get hc); obtain ⟨sp, hsp, hsl0⟩ := str_from s pos hp
   have hdots : c.toNat = 46 -> (strBytes { data := #[46, 46] }).isPrefixOf (strBytes sp) = isHead 46 ((strBytes s).drop (pos + 1)) := fun h46 => by
    have e : c = 46 := UInt8.toNat_inj.1 h46; rw [hsp, HD.out, e]
    show List.isPrefixOf [46, 46] (46 :: (strBytes s).drop (pos + 1)) = _
    cases (strBytes s).drop (pos + 1) with
    | nil => rfl
    | cons x xs => simp [List.isPrefixOf, isHead, Bool.beq_comm]
   have he := or32_ee c; have HDT := lh hdots; clear hc hsp hdots; have d0 : decide ((pos : Int) < (s.size : Int)) = true := by rw [decide_eq_true_eq]; omega
   rcases hprev with ⟨hp0, hpn⟩ | ⟨i, b, hpi, hpb, hb⟩
   ·subst hpn; have hpI : (pos : Int) = 0 := by omega
    have HBH : Hid (behindE none = true) := lh rfl; have HSL0 := lh hsl0; have d1 : ((pos : Int) == 0) = true := by rw [hpI]; rfl
    clear hsl0 hp0 hpI; go_wp2_with fail; refine (digit_any c _).mono ?_; rintro e w1 ⟨rfl, rfl⟩
    cases hfg : figB c with
    | true =>
     have HFG := lh hfg; clear hfg
     skip
     have HN2 : Hid (numLen none (strBytes s) = (pos + 1) + numLen (some c) ((strBytes s).drop (pos + 1))) := lh (by
      rw [HN.out, HD.out, numLen, if_pos (by simp [HFG.out])]; omega)
     go_wp2_with fail
     go_roundg (s.size - (pos + 1))
     case measure => omega
     case rel => exact ⟨pos + 1, some c, by omega, by omega, by go_num, HN2.out, .inr ⟨pos, c, rfl, rfl, HC.out⟩, hq⟩
    | false =>
     have HFG := lh hfg; clear hfg
     cases heb : eB c with
     | true =>
      have HEB := lh heb; rw [heb] at he; clear heb
      have HN2 : Hid (numLen none (strBytes s) = (pos + 1) + numLen (some c) ((strBytes s).drop (pos + 1))) := lh (by
       rw [HN.out, HD.out, numLen, if_pos (by simp [HFG.out, HEB.out])]; omega)
      go_wp2_with fail
      go_roundg (s.size - (pos + 1))
      case measure => omega
      case rel => exact ⟨pos + 1, some c, by omega, by omega, by go_num, HN2.out, .inr ⟨pos, c, rfl, rfl, HC.out⟩, hq⟩
     | false =>
      have HEB := lh heb; rw [heb] at he; clear heb
      cases hp1 : ((c.toNat : Int) == 43) with
      | true =>
       have c43 : c.toNat = 43 := by have := eq_of_beq hp1; omega
       have c46 : ((c.toNat : Int) == 46) = false := by rw [c43]; rfl
       have HCS := lh c43; clear c43
       have HN2 : Hid (numLen none (strBytes s) = (pos + 1) + numLen (some c) ((strBytes s).drop (pos + 1))) := lh (by
        rw [HN.out, HD.out, numLen, if_pos (by simp [HFG.out, HEB.out, HCS.out, HBH.out])]; omega)
       go_wp2_with fail
       go_roundg (s.size - (pos + 1))
       case measure => omega
       case rel => exact ⟨pos + 1, some c, by omega, by omega, by go_num, HN2.out, .inr ⟨pos, c, rfl, rfl, HC.out⟩, hq⟩
      | false =>
       cases hp2 : ((c.toNat : Int) == 45) with
       | true =>
        have c45 : c.toNat = 45 := by have := eq_of_beq hp2; omega
        have c46 : ((c.toNat : Int) == 46) = false := by rw [c45]; rfl
        have HCS := lh c45; clear c45
        have HN2 : Hid (numLen none (strBytes s) = (pos + 1) + numLen (some c) ((strBytes s).drop (pos + 1))) := lh (by
         rw [HN.out, HD.out, numLen, if_pos (by simp [HFG.out, HEB.out, HCS.out, HBH.out])]; omega)
        go_wp2_with fail
        go_roundg (s.size - (pos + 1))
        case measure => omega
        case rel => exact ⟨pos + 1, some c, by omega, by omega, by go_num, HN2.out, .inr ⟨pos, c, rfl, rfl, HC.out⟩, hq⟩
       | false =>
        have N43 : Hid (c.toNat ≠ 43) := lh (by intro e; rw [e] at hp1; cases hp1); have N45 : Hid (c.toNat ≠ 45) := lh (by intro e; rw [e] at hp2; cases hp2)
        cases hp3 : ((c.toNat : Int) == 46) with
        | false =>
         have N46 : Hid (c.toNat ≠ 46) := lh (by intro e; rw [e] at hp3; cases hp3)
         have HNE : Hid (numLen none (strBytes s) = pos) := lh (by
          rw [HN.out, HD.out, numLen, if_neg (by simp [HFG.out, HEB.out, N43.out, N45.out, N46.out])]; omega)
         go_wp2_with fail; exact HQ.out _ _ ⟨by rw [HNE.out]; first | done | rfl, hq⟩
        | true =>
         have C46 : Hid (c.toNat = 46) := lh (by have := eq_of_beq hp3; omega); have hsl := HSL0.out .i64; go_wp2_with fail; refine (hasPre_any sp _ _).mono ?_; rintro e w1 ⟨rfl, rfl⟩; rw [HDT.out C46.out]
         cases hdd : isHead 46 ((strBytes s).drop (pos + 1)) with
         | true =>
          have HDD := lh hdd; clear hdd hsl
          have HNE : Hid (numLen none (strBytes s) = pos) := lh (by
           rw [HN.out, HD.out, numLen, if_neg (by simp [HFG.out, HEB.out, C46.out, HDD.out])]; omega)
          go_wp2_with fail; exact HQ.out _ _ ⟨by rw [HNE.out]; first | done | rfl, hq⟩
         | false =>
          have HDD := lh hdd; clear hdd hsl
          have HN2 : Hid (numLen none (strBytes s) = (pos + 1) + numLen (some c) ((strBytes s).drop (pos + 1))) := lh (by
           rw [HN.out, HD.out, numLen, if_pos (by simp [HFG.out, HEB.out, C46.out, HDD.out])]; omega)
          go_wp2_with fail
          go_roundg (s.size - (pos + 1))
          case measure => omega
          case rel => exact ⟨pos + 1, some c, by omega, by omega, by go_num, HN2.out, .inr ⟨pos, c, rfl, rfl, HC.out⟩, hq⟩
   ·subst hpb; have d1 : ((pos : Int) == 0) = false := by rw [beq_eq_false_iff_ne]; omega
    have hxp := str_index hb .i64; have w1 : IntKind.i64.wrap ((pos : Int) - 1) = (i : Int) := by rw [IntKind.wrap_i64]; omega
    have w2 : (pos : Int) - 1 = (i : Int) := by omega
    have hob := or32_ee b; have HSL0 := lh hsl0; clear hsl0 hpi hb; go_wp2_with fail; refine (digit_any c _).mono ?_; rintro e w3 ⟨rfl, rfl⟩
    cases hfg : figB c with
    | true =>
     have HFG := lh hfg; clear hfg
     skip
     have HN2 : Hid (numLen none (strBytes s) = (pos + 1) + numLen (some c) ((strBytes s).drop (pos + 1))) := lh (by
      rw [HN.out, HD.out, numLen, if_pos (by simp [HFG.out])]; omega)
     go_wp2_with fail
     go_roundg (s.size - (pos + 1))
     case measure => omega
     case rel => exact ⟨pos + 1, some c, by omega, by omega, by go_num, HN2.out, .inr ⟨pos, c, rfl, rfl, HC.out⟩, hq⟩
    | false =>
     have HFG := lh hfg; clear hfg
     cases heb : eB c with
     | true =>
      have HEB := lh heb; rw [heb] at he; clear heb
      have HN2 : Hid (numLen none (strBytes s) = (pos + 1) + numLen (some c) ((strBytes s).drop (pos + 1))) := lh (by
       rw [HN.out, HD.out, numLen, if_pos (by simp [HFG.out, HEB.out])]; omega)
      go_wp2_with fail
      go_roundg (s.size - (pos + 1))
      case measure => omega
      case rel => exact ⟨pos + 1, some c, by omega, by omega, by go_num, HN2.out, .inr ⟨pos, c, rfl, rfl, HC.out⟩, hq⟩
     | false =>
      have HEB := lh heb; rw [heb] at he; clear heb
      cases hp1 : ((c.toNat : Int) == 43) with
      | true =>
       have c43 : c.toNat = 43 := by have := eq_of_beq hp1; omega
       have c46 : ((c.toNat : Int) == 46) = false := by rw [c43]; rfl
       have HCS := lh c43; clear c43
       cases hbv : eB b with
       | true =>
        have HBH : Hid (behindE (some b) = true) := lh hbv; rw [hbv] at hob; clear hbv
        have HN2 : Hid (numLen none (strBytes s) = (pos + 1) + numLen (some c) ((strBytes s).drop (pos + 1))) := lh (by
         rw [HN.out, HD.out, numLen, if_pos (by simp [HFG.out, HEB.out, HCS.out, HBH.out])]; omega)
        go_wp2_with fail
        go_roundg (s.size - (pos + 1))
        case measure => omega
        case rel => exact ⟨pos + 1, some c, by omega, by omega, by go_num, HN2.out, .inr ⟨pos, c, rfl, rfl, HC.out⟩, hq⟩
       | false =>
        have HBH : Hid (behindE (some b) = false) := lh hbv; rw [hbv] at hob; clear hbv
        have HNE : Hid (numLen none (strBytes s) = pos) := lh (by
         rw [HN.out, HD.out, numLen, if_neg (by simp [HFG.out, HEB.out, HCS.out, HBH.out])]; omega)
        go_wp2_with fail; exact HQ.out _ _ ⟨by rw [HNE.out]; first | done | rfl, hq⟩
      | false =>
       cases hp2 : ((c.toNat : Int) == 45) with
       | true =>
        have c45 : c.toNat = 45 := by have := eq_of_beq hp2; omega
        have c46 : ((c.toNat : Int) == 46) = false := by rw [c45]; rfl
        have HCS := lh c45; clear c45
        cases hbv : eB b with
        | true =>
         have HBH : Hid (behindE (some b) = true) := lh hbv; rw [hbv] at hob; clear hbv
         have HN2 : Hid (numLen none (strBytes s) = (pos + 1) + numLen (some c) ((strBytes s).drop (pos + 1))) := lh (by
          rw [HN.out, HD.out, numLen, if_pos (by simp [HFG.out, HEB.out, HCS.out, HBH.out])]; omega)
         go_wp2_with fail
         go_roundg (s.size - (pos + 1))
         case measure => omega
         case rel => exact ⟨pos + 1, some c, by omega, by omega, by go_num, HN2.out, .inr ⟨pos, c, rfl, rfl, HC.out⟩, hq⟩
        | false =>
         have HBH : Hid (behindE (some b) = false) := lh hbv; rw [hbv] at hob; clear hbv
         have HNE : Hid (numLen none (strBytes s) = pos) := lh (by
          rw [HN.out, HD.out, numLen, if_neg (by simp [HFG.out, HEB.out, HCS.out, HBH.out])]; omega)
         go_wp2_with fail; exact HQ.out _ _ ⟨by rw [HNE.out]; first | done | rfl, hq⟩
       | false =>
        have N43 : Hid (c.toNat ≠ 43) := lh (by intro e; rw [e] at hp1; cases hp1); have N45 : Hid (c.toNat ≠ 45) := lh (by intro e; rw [e] at hp2; cases hp2)
        cases hp3 : ((c.toNat : Int) == 46) with
        | false =>
         have N46 : Hid (c.toNat ≠ 46) := lh (by intro e; rw [e] at hp3; cases hp3)
         have HNE : Hid (numLen none (strBytes s) = pos) := lh (by
          rw [HN.out, HD.out, numLen, if_neg (by simp [HFG.out, HEB.out, N43.out, N45.out, N46.out])]; omega)
         go_wp2_with fail; exact HQ.out _ _ ⟨by rw [HNE.out]; first | done | rfl, hq⟩
        | true =>
         have C46 : Hid (c.toNat = 46) := lh (by have := eq_of_beq hp3; omega); have hsl := HSL0.out .i64; go_wp2_with fail; refine (hasPre_any sp _ _).mono ?_; rintro e w1 ⟨rfl, rfl⟩; rw [HDT.out C46.out]
         cases hdd : isHead 46 ((strBytes s).drop (pos + 1)) with
         | true =>
          have HDD := lh hdd; clear hdd hsl
          have HNE : Hid (numLen none (strBytes s) = pos) := lh (by
           rw [HN.out, HD.out, numLen, if_neg (by simp [HFG.out, HEB.out, C46.out, HDD.out])]; omega)
          go_wp2_with fail; exact HQ.out _ _ ⟨by rw [HNE.out]; first | done | rfl, hq⟩
         | false =>
          have HDD := lh hdd; clear hdd hsl
          have HN2 : Hid (numLen none (strBytes s) = (pos + 1) + numLen (some c) ((strBytes s).drop (pos + 1))) := lh (by
           rw [HN.out, HD.out, numLen, if_pos (by simp [HFG.out, HEB.out, C46.out, HDD.out])]; omega)
          go_wp2_with fail
          go_roundg (s.size - (pos + 1))
          case measure => omega
          case rel => exact ⟨pos + 1, some c, by omega, by omega, by go_num, HN2.out, .inr ⟨pos, c, rfl, rfl, HC.out⟩, hq⟩
  ·have hpe : pos = s.size := by omega
   subst hpe
   have HNE : Hid (numLen none (strBytes s) = s.size) := lh (by
    rw [HN.out, List.drop_of_length_le (by rw [strBytes_len]; exact Nat.le_refl _)]; simp [numLen])
   go_wp2_with fail; exact HQ.out _ _ ⟨by rw [HNE.out]; rfl, hq⟩
end
section
open Go.RowKit
theorem run_string_of {P : Program} {w : World} {src e dst : TypeId} (hs : P.underlying src = some (.slice e)) (he : P.underlying e = some (.int .u8)) (hd : P.underlying dst = some .string) {v : Value} {bs : List UInt8} {g : Nat} (h : BytesAt w v bs g) :
  (convert src dst v).run P w = .ok (.string ⟨bs.toArray⟩) w := by
 obtain ⟨A, c, off, rfl, hc, hb⟩ := h; rw [run_convert_bytes_string w src dst e _ _ c hs he hd]
 cases A with
 | none =>
  have h0 : bs = [] := by
   cases bs with
   | nil => rfl
   | cons x xs => have := (hb (by simp)).1; cases this
  subst h0
  simp [Conv.bytesToString]
  rfl
 | some a =>
  have hl : (loadCells a bs.length).run P w = .ok ((bs.map fun (c : UInt8) => (c.toNat : Int)).map (Value.int .u8)).toArray w := by
   have := run_loadCells_list (P := P) w a (bcells bs) (fun j v hj => by
    have h0 : 0 < bs.length := by have := (List.getElem?_eq_some_iff.1 hj).1; rw [bcells_len] at this; omega
    obtain ⟨ha, hcell⟩ := hb h0; injection ha with ha; subst ha; rw [Addr.add_mid]; exact hcell j v hj)
   rw [bcells_len] at this; rw [this]
   congr 2
   simp [bcells, B8, Function.comp_def]
  rw [run_bytesToString w a bs.length c _ hl, foldl_push_bytes]
  have e : (bs.map fun (c : UInt8) => (c.toNat : Int)).map (fun n => UInt8.ofNat n.toNat) = bs := by
   rw [List.map_map]
   conv => rhs; rw [<- List.map_id bs]
   apply List.map_congr_left
   intro x _
   simp
  rw [e]
  simp [ByteArray.empty, ByteArray.emptyWithCapacity]
  rfl
end
section
open Go.RowKit Go.Shelf
theorem u8_eqI (a b : UInt8) : ((a.toNat : Int) == (b.toNat : Int)) = (a == b) := by
 by_cases h : a = b
 ·subst h; simp
 ·have : a.toNat ≠ b.toNat := fun e => h (UInt8.toNat_inj.1 e); rw [beq_eq_false_iff_ne.2 h, beq_eq_false_iff_ne]; omega
theorem isHead_cons (c b : UInt8) (l : List UInt8) : isHead c (b :: l) = ((b.toNat : Int) == (c.toNat : Int)) := by
 rw [u8_eqI]; unfold isHead; simp
theorem tesc_any {w : World} {A : Option Addr} {n c g : Nat} {bs : List UInt8} (q : UInt8) (hv : BytesAt w (.slice A n c) bs g) (hc : c <= 9223372036854775807) : Calls Tryz.prog 160 #[.slice A n c, .int .u8 (q.toNat : Int)] w fun e w' => e = .returned (escV (escT q bs)) /\ Fr [] w w' := by
 refine calls_post fun R HQ => ?_; obtain ⟨hn, hnc⟩ := hv.len; have HV := lh hv; have HN := lh hn; clear hv
 cases bs with
 | nil =>
  have hn0 : n = 0 := by simpa using hn
  subst hn0; clear hn; have HE : Hid (escT q [] = escU []) := lh rfl
  go_enter Tryz.func160, Tryz.ntmps160
  go_wp2_with fail; refine (escape_any HV.out hc).mono ?_; rintro e w1 ⟨rfl, hf1⟩; rw [<- HE.out]
  cases he : escT q [] with
  | none =>
   simp only [escV]; rw [he] at HQ; go_wp2_with fail; exact HQ.out _ _ ⟨rfl, hf1⟩
  | some y => cases he
 | cons b0 l =>
  obtain ⟨off, rfl, c0⟩ := HV.out.head; have h0n : 0 < n := by rw [hn]; simp
  have d0 : decide (0 < (n : Int)) = true := by rw [decide_eq_true_eq]; omega
  clear hn; have e1 := isHead_cons q b0 l; have e2 := isHead_cons 34 b0 l; rw [show ((34 : UInt8).toNat : Int) = 34 from rfl] at e2
  cases h1 : isHead q (b0 :: l) with
  | true =>
   have HE : Hid (escT q (b0 :: l) = some (q.toNat, 1)) := lh (by unfold escT; rw [if_pos h1]); have b3 : IntKind.i32.wrap (q.toNat : Int) = (q.toNat : Int) := by rw [IntKind.wrap_i32]; have := q.toNat_lt; omega
   rw [h1] at e1; have e1' := e1.symm; clear h1 e1 e2
   go_enter Tryz.func160, Tryz.ntmps160
   go_wp2_with fail; exact HQ.out _ _ ⟨by rw [HE.out]; rfl, Fr.refl _ _⟩
  | false =>
   rw [h1] at e1; have e1' := e1.symm
   cases h2 : isHead 34 (b0 :: l) with
   | true =>
    have HE : Hid (escT q (b0 :: l) = none) := lh (by unfold escT; rw [if_neg (by rw [h1]; simp), if_pos h2]); rw [h2] at e2; have e2' := e2.symm; clear h1 h2 e1 e2
    go_enter Tryz.func160, Tryz.ntmps160
    go_wp2_with fail; exact HQ.out _ _ ⟨by rw [HE.out]; rfl, Fr.refl _ _⟩
   | false =>
    have HE : Hid (escT q (b0 :: l) = escU (b0 :: l)) := lh (by unfold escT; rw [if_neg (by rw [h1]; simp), if_neg (by rw [h2]; simp)]); rw [h2] at e2; have e2' := e2.symm; clear h1 h2 e1 e2
    go_enter Tryz.func160, Tryz.ntmps160
    go_wp2_with fail; refine (escape_any HV.out hc).mono ?_; rintro e w1 ⟨rfl, hf1⟩; rw [<- HE.out]; have HF1 := lh hf1; clear hf1
    cases he : escT q (b0 :: l) with
    | none =>
     rw [he] at HQ; clear he; simp only [escV]; go_wp2_with fail; exact HQ.out _ _ ⟨rfl, HF1.out⟩
    | some y =>
     obtain ⟨r, k⟩ := y; rw [he] at HQ; clear he; simp only [escV]; go_wp2_with fail; exact HQ.out _ _ ⟨rfl, HF1.out⟩
end
end Go.Proofs.YtbggkiebfflcdaaGreatDoor
