/-
  Joined by join.py: Ff Fg Fh Str Fi
-/
import Derived.Lib.OthersKept
import Derived.Laws.BytesArg
import Derived.Test.YtbggkiebfflcdaaGreatDoorJpb5
set_option maxRecDepth 100000
set_option maxHeartbeats 32000000
namespace Go.Proofs.YtbggkiebfflcdaaGreatDoor
section
open Go.RowKit Go.Shelf
def xA (l : List UInt8) : Value × Int := match xE l with
 | .ok d => (jC d, 0)
 | .error e => (jC .zero, e)
def uC (neg point : Bool) (whole part : List UInt8) (x : Int × List UInt8 × Bool) : Except Int Dcm :=
 if (!x.2.2 || !x.2.1.isEmpty || whole.isEmpty || (decide (1 < whole.length) && gA 48 whole) || (point && part.isEmpty)) = true then .error 2 else sE neg (whole ++ part) (x.1 - part.length)
theorem dV {s s1 : List UInt8} {neg pt : Bool} (hl : s.length <= 1000) (h1 : gA 45 s = neg) (h2 : s1 = if neg = true then s.drop 1 else s) (h3 : gA 46 (s1.dropWhile bB) = pt) :
  xE s = uC neg pt (s1.takeWhile bB) (if pt = true then ((s1.dropWhile bB).drop 1).takeWhile bB else []) (lK (if pt = true then ((s1.dropWhile bB).drop 1).dropWhile bB else s1.dropWhile bB)) := by
 unfold xE uC; rw [if_neg (by omega)]
 simp only
 rw [h1, <- h2, h3]
theorem aBI (s : ByteArray) (c : UInt8) (w : World) : Calls Tryz.prog 156 #[.string s, .string { data := #[c] }] w fun e w' => ∃ t, e = .returned (.tuple #[.string t, .bool (gA c (aA s))]) /\ aA t = (if gA c (aA s) = true then (aA s).drop 1 else aA s) /\ w = w' := by
 refine (Tryz.strings_CutPrefix s { data := #[c] } w).mono ?_; rintro e w' ⟨rfl, rfl⟩
 have : Lib.hasPrefix s.data.toList [c] = gA c (aA s) := by
  unfold Lib.hasPrefix gA aA
  cases s.data.toList with
  | nil => rfl
  | cons x xs => simp [List.isPrefixOf, Bool.beq_comm]
 refine ⟨_, by rw [<- this], ?_, rfl⟩; rw [<- this]
 rfl
theorem aBJ (l : List UInt8) : -1000000 <= (lK l).1 /\ (lK l).1 <= 1000000 := by
 unfold lK
 match l with
 | [] => simp
 | c :: cs =>
  simp only
  split
  ·have := aCp ((if (gA 45 cs || gA 43 cs) = true then List.drop 1 cs else cs).takeWhile bB)
   simp only
   split <;> omega
  ·simp
theorem aBK {l : List UInt8} {c : UInt8} (h : l[0]? = some c) : gA 48 l = ((c.toNat : Int) == 48) := by
 match l, h with
 | x :: xs, h =>
  simp only [List.getElem?_cons_zero, Option.some.injEq] at h; subst h
  exact eq_of_beq (wC (fun c => gA 48 (c :: xs) == ((c.toNat : Int) == 48)) (by
   intro n; have : ∀ n : Fin 256, (some (UInt8.ofNat n.val) == some 48) == (((UInt8.ofNat n.val).toNat : Int) == 48) := by decide +kernel
   exact this n) x)
theorem eV {w : World} (s : ByteArray) (hs : s.size <= 140737488355328) : RV 108 #[.string s] w (.tuple #[(xA (aA s)).1, .int .i64 (xA (aA s)).2]) := by
 refine cA fun R HQ => ?_; have hfz := (Fr.refl [] w).alloc (.cells #[.bool false, .string { data := #[] }, .int .i64 0] 93); have hbz := Blk.new w 93 [.bool false, .string { data := #[] }, .int .i64 0]; have HFZ := lh hfz; have HBZ := lh hbz; clear hfz hbz
 by_cases h1 : 1000 < s.size
 ·have HE : Hid (xA (aA s) = (jC .zero, 4)) := lh (by unfold xA xE; rw [if_pos (by rw [dA]; exact h1)])
  go_enter Tryz.func108, Tryz.ntmps108
  go_wp2_with fail; exact bodyPost_ret (qA (d := _) rfl rfl HBZ.out Tryz.underlying93 rfl (by kernel_rfl)) rfl (HQ.out _ _ ⟨by rw [HE.out]; rfl, HFZ.out⟩)
 ·have hsz : s.size <= 1000 := by omega
  go_enter Tryz.func108, Tryz.ntmps108
  go_wp2_with fail; refine (aBI s 45 _).mono ?_; rintro e w1 ⟨s1, rfl, hs1, rfl⟩; obtain ⟨neg, hneg⟩ : ∃ neg, gA 45 (aA s) = neg := ⟨_, rfl⟩; rw [hneg] at hs1 ⊢
  have hz1 : s1.size <= 1000 := by
   rw [sA hs1]; have := dA s
   split
   ·rw [List.length_drop]; omega
   ·omega
  have HS1 := lh hs1; have HNEG := lh hneg; clear hs1 hneg; go_wp2_with fail; refine (vM s1 (by omega)).mono ?_; rintro e w2 ⟨wh, r1, rfl, hwh, hr1, hf2⟩; have HWH := lh hwh; have HR1 := lh hr1
  have hwz : wh.size <= 1000 := by
   rw [sA hwh]; have := mF bB (aA s1); have := dA s1; omega
  have hrz : r1.size <= 1000 := by
   rw [sA hr1]; have := rD bB (aA s1); have := dA s1; omega
  have HF2 := lh (HFZ.out.trans hf2); have HB2 := lh (HBZ.out.fr hf2); clear hwh hr1 hf2; go_wp2_with fail; refine (aBI r1 46 _).mono ?_; rintro e w3 ⟨bh, rfl, hbh, rfl⟩; obtain ⟨pt, hpt⟩ : ∃ pt, gA 46 (aA r1) = pt := ⟨_, rfl⟩; rw [hpt] at hbh ⊢
  have hbz : bh.size <= 1000 := by
   rw [sA hbh]; have := dA r1
   split
   ·rw [List.length_drop]; omega
   ·omega
  have HPT := lh hpt; have HP0 : Hid (xE (aA s) = _) := lh (dV (s1 := aA s1) (pt := pt) (by rw [dA]; omega) HNEG.out HS1.out (by rw [<- HR1.out]; exact hpt))
  cases pt with
  | true =>
   have hbh' : aA bh = (aA r1).drop 1 := hbh; have HBH := lh hbh'; clear hbh hbh' hpt; go_wp2_with fail; refine (vM bh (by omega)).mono ?_; rintro e w4 ⟨ps, r2, rfl, hps, hr2, hf4⟩
   have hpz : ps.size <= 1000 := by
    rw [sA hps]; have := mF bB (aA bh); have := dA bh; omega
   have hrz2 : r2.size <= 1000 := by
    rw [sA hr2]; have := rD bB (aA bh); have := dA bh; omega
   have HPS := lh hps; have HR2 := lh hr2; have HFK := lh (HF2.out.trans hf4); have HBK := lh (HB2.out.fr hf4); clear hps hr2 hf4
   have HP : Hid (xE (aA s) = uC neg true (aA wh) (aA ps) (lK (aA r2))) := lh (by
    rw [HP0.out, HPS.out, HR2.out, HBH.out, HWH.out, HR1.out]; rfl)
   go_wp2_with fail; refine (tP r2 (by omega)).mono ?_; rintro e wN ⟨xr, rfl, hxr, hfN⟩; obtain ⟨xv, hxv⟩ := nm (lK (aA r2)); have hxb : -1000000 <= xv.1 /\ xv.1 <= 1000000 := by rw [hxv]; exact aBJ _
   rw [<- hxv] at hxr ⊢; have HFN := lh (HFK.out.trans hfN); have HBN := lh (HBK.out.fr hfN); have z0 := HBN.out.at_ (i := 0) rfl; have z1 := HBN.out.at_ (i := 1) rfl; have z2 := HBN.out.at_ (i := 2) rfl; have zf := HBN.out.free; have hxn := dG xr; have hwn := dG wh; rw [hxr] at hxn; obtain ⟨xe, xl, xo⟩ := xv; have HXV := lh hxv
   simp only at hxn hxb ⊢
   clear hxv hxr hfN
   by_cases hw1 : 1 < wh.size
   ·have d1 : decide (1 < (wh.size : Int)) = true := dT (by omega)
    have d1' : decide (1 < (aA wh).length) = true := by rw [decide_eq_true_eq, dA]; exact hw1
    obtain ⟨c0, hc0⟩ : ∃ c0, (aA wh)[0]? = some c0 := gx (by rw [dA]; omega); have hx0 := eC (s := wh) (i := 0) hc0 .i64; rw [show ((0 : Nat) : Int) = 0 from rfl] at hx0; have hzz : ((c0.toNat : Int) == 48) = gA 48 (aA wh) := by rw [aBK hc0]
    have hwe : (aA wh).isEmpty = false := by
     cases hl : aA wh with
     | nil => rw [hl] at hc0; cases hc0
     | cons x xs => rfl
    rw [hwe] at hwn; have HWE := lh hwe
    cases hzz2 : gA 48 (aA wh) with
    | true =>
     rw [hzz2] at hzz; have HZZ := lh hzz2; have HD1 := lh d1'; clear hzz2 d1' hc0 hwe
     cases xo with
     | false =>
      have HE : Hid (xA (aA s) = (jC .zero, 2)) := lh (by
       unfold xA; rw [HP.out, <- HXV.out]; unfold uC; rw [if_pos (by simp)])
      go_wp2_with fail; have hb := HBN.out.setL (vs := [.bool false, .string { data := #[] }, .int .i64 0]) rfl; exact bodyPost_ret (qA (d := _) rfl rfl hb Tryz.underlying93 rfl (by kernel_rfl)) rfl (HQ.out _ _ ⟨by rw [HE.out]; rfl, HFN.out.setL (k := 0) (vs := [.bool false, .string { data := #[] }, .int .i64 0]) (.inr (Nat.le_refl _))⟩)
     | true =>
      cases hxl : xl.isEmpty
      case' false =>
       rw [hxl] at hxn
       have HE : Hid (xA (aA s) = (jC .zero, 2)) := lh (by
        unfold xA; rw [HP.out, <- HXV.out]; unfold uC; rw [if_pos (by simp [hxl])])
      case' true =>
       rw [hxl] at hxn
       have HE : Hid (xA (aA s) = (jC .zero, 2)) := lh (by
        unfold xA; rw [HP.out, <- HXV.out]; unfold uC; rw [if_pos (by simp [HZZ.out, of_decide_eq_true HD1.out])])
      all_goals
       go_wp2_with fail; have hb := HBN.out.setL (vs := [.bool false, .string { data := #[] }, .int .i64 0]) rfl; exact bodyPost_ret (qA (d := _) rfl rfl hb Tryz.underlying93 rfl (by kernel_rfl)) rfl (HQ.out _ _ ⟨by rw [HE.out]; rfl, HFN.out.setL (k := 0) (vs := [.bool false, .string { data := #[] }, .int .i64 0]) (.inr (Nat.le_refl _))⟩)
    | false =>
     rw [hzz2] at hzz; have HZ : Hid ((decide (1 < (aA wh).length) && gA 48 (aA wh)) = false) := lh (by rw [hzz2, Bool.and_false]); clear hzz2 d1' hc0 hwe
     cases xo with
     | false =>
      have HE : Hid (xA (aA s) = (jC .zero, 2)) := lh (by
       unfold xA; rw [HP.out, <- HXV.out]; unfold uC; rw [if_pos (by simp)])
      go_wp2_with fail; have hb := HBN.out.setL (vs := [.bool false, .string { data := #[] }, .int .i64 0]) rfl; exact bodyPost_ret (qA (d := _) rfl rfl hb Tryz.underlying93 rfl (by kernel_rfl)) rfl (HQ.out _ _ ⟨by rw [HE.out]; rfl, HFN.out.setL (k := 0) (vs := [.bool false, .string { data := #[] }, .int .i64 0]) (.inr (Nat.le_refl _))⟩)
     | true =>
      cases hxl : xl.isEmpty with
      | false =>
       rw [hxl] at hxn
       have HE : Hid (xA (aA s) = (jC .zero, 2)) := lh (by
        unfold xA; rw [HP.out, <- HXV.out]; unfold uC; rw [if_pos (by simp [hxl])])
       go_wp2_with fail; have hb := HBN.out.setL (vs := [.bool false, .string { data := #[] }, .int .i64 0]) rfl; exact bodyPost_ret (qA (d := _) rfl rfl hb Tryz.underlying93 rfl (by kernel_rfl)) rfl (HQ.out _ _ ⟨by rw [HE.out]; rfl, HFN.out.setL (k := 0) (vs := [.bool false, .string { data := #[] }, .int .i64 0]) (.inr (Nat.le_refl _))⟩)
      | true =>
       rw [hxl] at hxn; have HXL := lh hxl; clear hxl; have hpn := dG ps
       cases hpe : (aA ps).isEmpty with
       | true =>
        rw [hpe] at hpn
        have HE : Hid (xA (aA s) = (jC .zero, 2)) := lh (by
         unfold xA; rw [HP.out, <- HXV.out]; unfold uC; rw [if_pos (by simp [hpe])])
        go_wp2_with fail; have hb := HBN.out.setL (vs := [.bool false, .string { data := #[] }, .int .i64 0]) rfl; exact bodyPost_ret (qA (d := _) rfl rfl hb Tryz.underlying93 rfl (by kernel_rfl)) rfl (HQ.out _ _ ⟨by rw [HE.out]; rfl, HFN.out.setL (k := 0) (vs := [.bool false, .string { data := #[] }, .int .i64 0]) (.inr (Nat.le_refl _))⟩)
       | false =>
        rw [hpe] at hpn; have HPE := lh hpe; have hcs : (wh ++ ps).size <= 1000000 := by rw [ByteArray.size_append]; omega
        have had := fun W => run_string_add_sum (P := Tryz.prog) W wh ps (by omega); have HSN : Hid (aA (wh ++ ps) = aA wh ++ aA ps) := lh (qI _ _); obtain ⟨cat, hcat⟩ : ∃ cat, wh ++ ps = cat := ⟨_, rfl⟩; rw [hcat] at hcs had HSN; clear hpe hcat; have HG : Hid ((!true || !xl.isEmpty || (aA wh).isEmpty || (decide (1 < (aA wh).length) && gA 48 (aA wh)) || (true && (aA ps).isEmpty)) = false) := lh (by rw [HXL.out, HWE.out, HZ.out, HPE.out]; rfl); have HCT : Hid (sE neg (aA wh ++ aA ps) (xe - ((aA ps).length : Int)) = sE neg (aA cat) (xe - (ps.size : Int))) := lh (by rw [HSN.out, dA])
        have HE : Hid (xA (aA s) = oI neg (aA cat) (xe - (ps.size : Int))) := lh (by
         unfold xA oI; rw [HP.out, <- HXV.out]; unfold uC; rw [if_neg (by rw [HG.out]; simp), HCT.out]
         all_goals (cases sE neg (aA cat) (xe - (ps.size : Int)) <;> rfl))
        go_wp2_with fail; refine (vP neg cat (xe - (ps.size : Int)) (by omega) (by omega) (by omega)).mono ?_; rintro e w6 ⟨rfl, hf6⟩; rw [<- HE.out]; have HF6 := lh (HFN.out.trans hf6); have hb6 := HBN.out.fr hf6; have q0 := hb6.at_ (i := 0) rfl; have q1 := hb6.at_ (i := 1) rfl; have q2 := hb6.at_ (i := 2) rfl; have qf := hb6.free; have HB6 := lh hb6
        obtain ⟨D, hD⟩ : ∃ D : Dcm, (xA (aA s)).1 = jC D := by
         unfold xA
         cases xE (aA s) with
         | ok d => exact ⟨d, rfl⟩
         | error e => exact ⟨.zero, rfl⟩
        have HD := lh hD; rw [hD]; unfold jC S8; clear hf6 hb6 hD z0 z1 z2 zf; obtain ⟨dx, hdx⟩ : ∃ dx : ByteArray, dx = ⟨D.digits.toArray⟩ := ⟨_, rfl⟩; rw [<- hdx]; have HDX := lh hdx; clear hdx; go_wp2_with fail; have hb := HB6.out.setL (vs := [.bool D.neg, .string dx, .int .i64 D.exp]) rfl; exact bodyPost_ret (qA (d := _) rfl rfl hb Tryz.underlying93 rfl (by kernel_rfl)) rfl (HQ.out _ _ ⟨by rw [HD.out]; unfold jC S8; rw [<- HDX.out]; rfl, HF6.out.setL (k := 0) (vs := [.bool D.neg, .string dx, .int .i64 D.exp]) (.inr (Nat.le_refl _))⟩)
   ·have d1 : decide (1 < (wh.size : Int)) = false := dF (by omega)
    have HZ : Hid ((decide (1 < (aA wh).length) && gA 48 (aA wh)) = false) := lh (by rw [decide_eq_false (by rw [dA]; exact hw1), Bool.false_and])
    cases xo with
    | false =>
     have HE : Hid (xA (aA s) = (jC .zero, 2)) := lh (by
      unfold xA; rw [HP.out, <- HXV.out]; unfold uC; rw [if_pos (by simp)])
     go_wp2_with fail; have hb := HBN.out.setL (vs := [.bool false, .string { data := #[] }, .int .i64 0]) rfl; exact bodyPost_ret (qA (d := _) rfl rfl hb Tryz.underlying93 rfl (by kernel_rfl)) rfl (HQ.out _ _ ⟨by rw [HE.out]; rfl, HFN.out.setL (k := 0) (vs := [.bool false, .string { data := #[] }, .int .i64 0]) (.inr (Nat.le_refl _))⟩)
    | true =>
     cases hxl : xl.isEmpty with
     | false =>
      rw [hxl] at hxn
      have HE : Hid (xA (aA s) = (jC .zero, 2)) := lh (by
       unfold xA; rw [HP.out, <- HXV.out]; unfold uC; rw [if_pos (by simp [hxl])])
      go_wp2_with fail; have hb := HBN.out.setL (vs := [.bool false, .string { data := #[] }, .int .i64 0]) rfl; exact bodyPost_ret (qA (d := _) rfl rfl hb Tryz.underlying93 rfl (by kernel_rfl)) rfl (HQ.out _ _ ⟨by rw [HE.out]; rfl, HFN.out.setL (k := 0) (vs := [.bool false, .string { data := #[] }, .int .i64 0]) (.inr (Nat.le_refl _))⟩)
     | true =>
      rw [hxl] at hxn; have HXL := lh hxl
      cases hwe : (aA wh).isEmpty with
      | true =>
       rw [hwe] at hwn; have HWE := lh hwe; clear hwe hxl
       have HE : Hid (xA (aA s) = (jC .zero, 2)) := lh (by
        unfold xA; rw [HP.out, <- HXV.out]; unfold uC; rw [if_pos (by simp [HWE.out])])
       go_wp2_with fail; have hb := HBN.out.setL (vs := [.bool false, .string { data := #[] }, .int .i64 0]) rfl; exact bodyPost_ret (qA (d := _) rfl rfl hb Tryz.underlying93 rfl (by kernel_rfl)) rfl (HQ.out _ _ ⟨by rw [HE.out]; rfl, HFN.out.setL (k := 0) (vs := [.bool false, .string { data := #[] }, .int .i64 0]) (.inr (Nat.le_refl _))⟩)
      | false =>
       rw [hwe] at hwn; have HWE := lh hwe; clear hwe hxl; have hpn := dG ps
       cases hpe : (aA ps).isEmpty with
       | true =>
        rw [hpe] at hpn
        have HE : Hid (xA (aA s) = (jC .zero, 2)) := lh (by
         unfold xA; rw [HP.out, <- HXV.out]; unfold uC; rw [if_pos (by simp [hpe])])
        go_wp2_with fail; have hb := HBN.out.setL (vs := [.bool false, .string { data := #[] }, .int .i64 0]) rfl; exact bodyPost_ret (qA (d := _) rfl rfl hb Tryz.underlying93 rfl (by kernel_rfl)) rfl (HQ.out _ _ ⟨by rw [HE.out]; rfl, HFN.out.setL (k := 0) (vs := [.bool false, .string { data := #[] }, .int .i64 0]) (.inr (Nat.le_refl _))⟩)
       | false =>
        rw [hpe] at hpn; have HPE := lh hpe; have hcs : (wh ++ ps).size <= 1000000 := by rw [ByteArray.size_append]; omega
        have had := fun W => run_string_add_sum (P := Tryz.prog) W wh ps (by omega); have HSN : Hid (aA (wh ++ ps) = aA wh ++ aA ps) := lh (qI _ _); obtain ⟨cat, hcat⟩ : ∃ cat, wh ++ ps = cat := ⟨_, rfl⟩; rw [hcat] at hcs had HSN; clear hpe hcat; have HG : Hid ((!true || !xl.isEmpty || (aA wh).isEmpty || (decide (1 < (aA wh).length) && gA 48 (aA wh)) || (true && (aA ps).isEmpty)) = false) := lh (by rw [HXL.out, HWE.out, HZ.out, HPE.out]; rfl); have HCT : Hid (sE neg (aA wh ++ aA ps) (xe - ((aA ps).length : Int)) = sE neg (aA cat) (xe - (ps.size : Int))) := lh (by rw [HSN.out, dA])
        have HE : Hid (xA (aA s) = oI neg (aA cat) (xe - (ps.size : Int))) := lh (by
         unfold xA oI; rw [HP.out, <- HXV.out]; unfold uC; rw [if_neg (by rw [HG.out]; simp), HCT.out]
         all_goals (cases sE neg (aA cat) (xe - (ps.size : Int)) <;> rfl))
        go_wp2_with fail; refine (vP neg cat (xe - (ps.size : Int)) (by omega) (by omega) (by omega)).mono ?_; rintro e w6 ⟨rfl, hf6⟩; rw [<- HE.out]; have HF6 := lh (HFN.out.trans hf6); have hb6 := HBN.out.fr hf6; have q0 := hb6.at_ (i := 0) rfl; have q1 := hb6.at_ (i := 1) rfl; have q2 := hb6.at_ (i := 2) rfl; have qf := hb6.free; have HB6 := lh hb6
        obtain ⟨D, hD⟩ : ∃ D : Dcm, (xA (aA s)).1 = jC D := by
         unfold xA
         cases xE (aA s) with
         | ok d => exact ⟨d, rfl⟩
         | error e => exact ⟨.zero, rfl⟩
        have HD := lh hD; rw [hD]; unfold jC S8; clear hf6 hb6 hD z0 z1 z2 zf; obtain ⟨dx, hdx⟩ : ∃ dx : ByteArray, dx = ⟨D.digits.toArray⟩ := ⟨_, rfl⟩; rw [<- hdx]; have HDX := lh hdx; clear hdx; go_wp2_with fail; have hb := HB6.out.setL (vs := [.bool D.neg, .string dx, .int .i64 D.exp]) rfl; exact bodyPost_ret (qA (d := _) rfl rfl hb Tryz.underlying93 rfl (by kernel_rfl)) rfl (HQ.out _ _ ⟨by rw [HD.out]; unfold jC S8; rw [<- HDX.out]; rfl, HF6.out.setL (k := 0) (vs := [.bool D.neg, .string dx, .int .i64 D.exp]) (.inr (Nat.le_refl _))⟩)
  | false =>
   have HFK := HF2; have HBK := HB2
   have HP : Hid (xE (aA s) = uC neg false (aA wh) [] (lK (aA r1))) := lh (by
    rw [HP0.out, HWH.out, HR1.out]; rfl)
   clear hbh hpt; go_wp2_with fail; refine (tP r1 (by omega)).mono ?_; rintro e wN ⟨xr, rfl, hxr, hfN⟩; obtain ⟨xv, hxv⟩ := nm (lK (aA r1)); have hxb : -1000000 <= xv.1 /\ xv.1 <= 1000000 := by rw [hxv]; exact aBJ _
   rw [<- hxv] at hxr ⊢; have HFN := lh (HFK.out.trans hfN); have HBN := lh (HBK.out.fr hfN); have z0 := HBN.out.at_ (i := 0) rfl; have z1 := HBN.out.at_ (i := 1) rfl; have z2 := HBN.out.at_ (i := 2) rfl; have zf := HBN.out.free; have hxn := dG xr; have hwn := dG wh; rw [hxr] at hxn; obtain ⟨xe, xl, xo⟩ := xv; have HXV := lh hxv
   simp only at hxn hxb ⊢
   clear hxv hxr hfN
   by_cases hw1 : 1 < wh.size
   ·have d1 : decide (1 < (wh.size : Int)) = true := dT (by omega)
    have d1' : decide (1 < (aA wh).length) = true := by rw [decide_eq_true_eq, dA]; exact hw1
    obtain ⟨c0, hc0⟩ : ∃ c0, (aA wh)[0]? = some c0 := gx (by rw [dA]; omega); have hx0 := eC (s := wh) (i := 0) hc0 .i64; rw [show ((0 : Nat) : Int) = 0 from rfl] at hx0; have hzz : ((c0.toNat : Int) == 48) = gA 48 (aA wh) := by rw [aBK hc0]
    have hwe : (aA wh).isEmpty = false := by
     cases hl : aA wh with
     | nil => rw [hl] at hc0; cases hc0
     | cons x xs => rfl
    rw [hwe] at hwn; have HWE := lh hwe
    cases hzz2 : gA 48 (aA wh) with
    | true =>
     rw [hzz2] at hzz; have HZZ := lh hzz2; have HD1 := lh d1'; clear hzz2 d1' hc0 hwe
     cases xo with
     | false =>
      have HE : Hid (xA (aA s) = (jC .zero, 2)) := lh (by
       unfold xA; rw [HP.out, <- HXV.out]; unfold uC; rw [if_pos (by simp)])
      go_wp2_with fail; have hb := HBN.out.setL (vs := [.bool false, .string { data := #[] }, .int .i64 0]) rfl; exact bodyPost_ret (qA (d := _) rfl rfl hb Tryz.underlying93 rfl (by kernel_rfl)) rfl (HQ.out _ _ ⟨by rw [HE.out]; rfl, HFN.out.setL (k := 0) (vs := [.bool false, .string { data := #[] }, .int .i64 0]) (.inr (Nat.le_refl _))⟩)
     | true =>
      cases hxl : xl.isEmpty
      case' false =>
       rw [hxl] at hxn
       have HE : Hid (xA (aA s) = (jC .zero, 2)) := lh (by
        unfold xA; rw [HP.out, <- HXV.out]; unfold uC; rw [if_pos (by simp [hxl])])
      case' true =>
       rw [hxl] at hxn
       have HE : Hid (xA (aA s) = (jC .zero, 2)) := lh (by
        unfold xA; rw [HP.out, <- HXV.out]; unfold uC; rw [if_pos (by simp [HZZ.out, of_decide_eq_true HD1.out])])
      all_goals
       go_wp2_with fail; have hb := HBN.out.setL (vs := [.bool false, .string { data := #[] }, .int .i64 0]) rfl; exact bodyPost_ret (qA (d := _) rfl rfl hb Tryz.underlying93 rfl (by kernel_rfl)) rfl (HQ.out _ _ ⟨by rw [HE.out]; rfl, HFN.out.setL (k := 0) (vs := [.bool false, .string { data := #[] }, .int .i64 0]) (.inr (Nat.le_refl _))⟩)
    | false =>
     rw [hzz2] at hzz; have HZ : Hid ((decide (1 < (aA wh).length) && gA 48 (aA wh)) = false) := lh (by rw [hzz2, Bool.and_false]); clear hzz2 d1' hc0 hwe
     cases xo with
     | false =>
      have HE : Hid (xA (aA s) = (jC .zero, 2)) := lh (by
       unfold xA; rw [HP.out, <- HXV.out]; unfold uC; rw [if_pos (by simp)])
      go_wp2_with fail; have hb := HBN.out.setL (vs := [.bool false, .string { data := #[] }, .int .i64 0]) rfl; exact bodyPost_ret (qA (d := _) rfl rfl hb Tryz.underlying93 rfl (by kernel_rfl)) rfl (HQ.out _ _ ⟨by rw [HE.out]; rfl, HFN.out.setL (k := 0) (vs := [.bool false, .string { data := #[] }, .int .i64 0]) (.inr (Nat.le_refl _))⟩)
     | true =>
      cases hxl : xl.isEmpty with
      | false =>
       rw [hxl] at hxn
       have HE : Hid (xA (aA s) = (jC .zero, 2)) := lh (by
        unfold xA; rw [HP.out, <- HXV.out]; unfold uC; rw [if_pos (by simp [hxl])])
       go_wp2_with fail; have hb := HBN.out.setL (vs := [.bool false, .string { data := #[] }, .int .i64 0]) rfl; exact bodyPost_ret (qA (d := _) rfl rfl hb Tryz.underlying93 rfl (by kernel_rfl)) rfl (HQ.out _ _ ⟨by rw [HE.out]; rfl, HFN.out.setL (k := 0) (vs := [.bool false, .string { data := #[] }, .int .i64 0]) (.inr (Nat.le_refl _))⟩)
      | true =>
       rw [hxl] at hxn; have HXL := lh hxl; clear hxl; have HSN : Hid (aA (wh ++ { data := #[] }) = aA wh ++ []) := lh (qI _ _); have hcs : (wh ++ ({ data := #[] } : ByteArray)).size <= 1000000 := by rw [ByteArray.size_append, show ({ data := #[] } : ByteArray).size = 0 from rfl]; omega
       have had := fun W => run_string_add_sum (P := Tryz.prog) W wh { data := #[] } (by rw [show ({ data := #[] } : ByteArray).size = 0 from rfl]; omega); obtain ⟨cat, hcat⟩ : ∃ cat, wh ++ { data := #[] } = cat := ⟨_, rfl⟩; rw [hcat] at hcs had HSN; clear hcat; have HG : Hid ((!true || !xl.isEmpty || (aA wh).isEmpty || (decide (1 < (aA wh).length) && gA 48 (aA wh)) || (false && ([] : List UInt8).isEmpty)) = false) := lh (by rw [HXL.out, HWE.out, HZ.out]; rfl); have HCT : Hid (sE neg (aA wh ++ []) (xe - (([] : List UInt8).length : Int)) = sE neg (aA cat) xe) := lh (by rw [HSN.out, show xe - (([] : List UInt8).length : Int) = xe by simp])
       have HE : Hid (xA (aA s) = oI neg (aA cat) (xe)) := lh (by
        unfold xA oI; rw [HP.out, <- HXV.out]; unfold uC; rw [if_neg (by rw [HG.out]; simp), HCT.out]
        all_goals (cases sE neg (aA cat) (xe) <;> rfl))
       go_wp2_with fail; refine (vP neg cat (xe) (by omega) (by omega) (by omega)).mono ?_; rintro e w6 ⟨rfl, hf6⟩; rw [<- HE.out]; have HF6 := lh (HFN.out.trans hf6); have hb6 := HBN.out.fr hf6; have q0 := hb6.at_ (i := 0) rfl; have q1 := hb6.at_ (i := 1) rfl; have q2 := hb6.at_ (i := 2) rfl; have qf := hb6.free; have HB6 := lh hb6
       obtain ⟨D, hD⟩ : ∃ D : Dcm, (xA (aA s)).1 = jC D := by
        unfold xA
        cases xE (aA s) with
        | ok d => exact ⟨d, rfl⟩
        | error e => exact ⟨.zero, rfl⟩
       have HD := lh hD; rw [hD]; unfold jC S8; clear hf6 hb6 hD z0 z1 z2 zf; obtain ⟨dx, hdx⟩ : ∃ dx : ByteArray, dx = ⟨D.digits.toArray⟩ := ⟨_, rfl⟩; rw [<- hdx]; have HDX := lh hdx; clear hdx; go_wp2_with fail; have hb := HB6.out.setL (vs := [.bool D.neg, .string dx, .int .i64 D.exp]) rfl; exact bodyPost_ret (qA (d := _) rfl rfl hb Tryz.underlying93 rfl (by kernel_rfl)) rfl (HQ.out _ _ ⟨by rw [HD.out]; unfold jC S8; rw [<- HDX.out]; rfl, HF6.out.setL (k := 0) (vs := [.bool D.neg, .string dx, .int .i64 D.exp]) (.inr (Nat.le_refl _))⟩)
   ·have d1 : decide (1 < (wh.size : Int)) = false := dF (by omega)
    have HZ : Hid ((decide (1 < (aA wh).length) && gA 48 (aA wh)) = false) := lh (by rw [decide_eq_false (by rw [dA]; exact hw1), Bool.false_and])
    cases xo with
    | false =>
     have HE : Hid (xA (aA s) = (jC .zero, 2)) := lh (by
      unfold xA; rw [HP.out, <- HXV.out]; unfold uC; rw [if_pos (by simp)])
     go_wp2_with fail; have hb := HBN.out.setL (vs := [.bool false, .string { data := #[] }, .int .i64 0]) rfl; exact bodyPost_ret (qA (d := _) rfl rfl hb Tryz.underlying93 rfl (by kernel_rfl)) rfl (HQ.out _ _ ⟨by rw [HE.out]; rfl, HFN.out.setL (k := 0) (vs := [.bool false, .string { data := #[] }, .int .i64 0]) (.inr (Nat.le_refl _))⟩)
    | true =>
     cases hxl : xl.isEmpty with
     | false =>
      rw [hxl] at hxn
      have HE : Hid (xA (aA s) = (jC .zero, 2)) := lh (by
       unfold xA; rw [HP.out, <- HXV.out]; unfold uC; rw [if_pos (by simp [hxl])])
      go_wp2_with fail; have hb := HBN.out.setL (vs := [.bool false, .string { data := #[] }, .int .i64 0]) rfl; exact bodyPost_ret (qA (d := _) rfl rfl hb Tryz.underlying93 rfl (by kernel_rfl)) rfl (HQ.out _ _ ⟨by rw [HE.out]; rfl, HFN.out.setL (k := 0) (vs := [.bool false, .string { data := #[] }, .int .i64 0]) (.inr (Nat.le_refl _))⟩)
     | true =>
      rw [hxl] at hxn; have HXL := lh hxl
      cases hwe : (aA wh).isEmpty with
      | true =>
       rw [hwe] at hwn; have HWE := lh hwe; clear hwe hxl
       have HE : Hid (xA (aA s) = (jC .zero, 2)) := lh (by
        unfold xA; rw [HP.out, <- HXV.out]; unfold uC; rw [if_pos (by simp [HWE.out])])
       go_wp2_with fail; have hb := HBN.out.setL (vs := [.bool false, .string { data := #[] }, .int .i64 0]) rfl; exact bodyPost_ret (qA (d := _) rfl rfl hb Tryz.underlying93 rfl (by kernel_rfl)) rfl (HQ.out _ _ ⟨by rw [HE.out]; rfl, HFN.out.setL (k := 0) (vs := [.bool false, .string { data := #[] }, .int .i64 0]) (.inr (Nat.le_refl _))⟩)
      | false =>
       rw [hwe] at hwn; have HWE := lh hwe; clear hwe hxl; have HSN : Hid (aA (wh ++ { data := #[] }) = aA wh ++ []) := lh (qI _ _); have hcs : (wh ++ ({ data := #[] } : ByteArray)).size <= 1000000 := by rw [ByteArray.size_append, show ({ data := #[] } : ByteArray).size = 0 from rfl]; omega
       have had := fun W => run_string_add_sum (P := Tryz.prog) W wh { data := #[] } (by rw [show ({ data := #[] } : ByteArray).size = 0 from rfl]; omega); obtain ⟨cat, hcat⟩ : ∃ cat, wh ++ { data := #[] } = cat := ⟨_, rfl⟩; rw [hcat] at hcs had HSN; clear hcat; have HG : Hid ((!true || !xl.isEmpty || (aA wh).isEmpty || (decide (1 < (aA wh).length) && gA 48 (aA wh)) || (false && ([] : List UInt8).isEmpty)) = false) := lh (by rw [HXL.out, HWE.out, HZ.out]; rfl); have HCT : Hid (sE neg (aA wh ++ []) (xe - (([] : List UInt8).length : Int)) = sE neg (aA cat) xe) := lh (by rw [HSN.out, show xe - (([] : List UInt8).length : Int) = xe by simp])
       have HE : Hid (xA (aA s) = oI neg (aA cat) (xe)) := lh (by
        unfold xA oI; rw [HP.out, <- HXV.out]; unfold uC; rw [if_neg (by rw [HG.out]; simp), HCT.out]
        all_goals (cases sE neg (aA cat) (xe) <;> rfl))
       go_wp2_with fail; refine (vP neg cat (xe) (by omega) (by omega) (by omega)).mono ?_; rintro e w6 ⟨rfl, hf6⟩; rw [<- HE.out]; have HF6 := lh (HFN.out.trans hf6); have hb6 := HBN.out.fr hf6; have q0 := hb6.at_ (i := 0) rfl; have q1 := hb6.at_ (i := 1) rfl; have q2 := hb6.at_ (i := 2) rfl; have qf := hb6.free; have HB6 := lh hb6
       obtain ⟨D, hD⟩ : ∃ D : Dcm, (xA (aA s)).1 = jC D := by
        unfold xA
        cases xE (aA s) with
        | ok d => exact ⟨d, rfl⟩
        | error e => exact ⟨.zero, rfl⟩
       have HD := lh hD; rw [hD]; unfold jC S8; clear hf6 hb6 hD z0 z1 z2 zf; obtain ⟨dx, hdx⟩ : ∃ dx : ByteArray, dx = ⟨D.digits.toArray⟩ := ⟨_, rfl⟩; rw [<- hdx]; have HDX := lh hdx; clear hdx; go_wp2_with fail; have hb := HB6.out.setL (vs := [.bool D.neg, .string dx, .int .i64 D.exp]) rfl; exact bodyPost_ret (qA (d := _) rfl rfl hb Tryz.underlying93 rfl (by kernel_rfl)) rfl (HQ.out _ _ ⟨by rw [HD.out]; unfold jC S8; rw [<- HDX.out]; rfl, HF6.out.setL (k := 0) (vs := [.bool D.neg, .string dx, .int .i64 D.exp]) (.inr (Nat.le_refl _))⟩)
theorem aFt (c : UInt8) : decide (0 <= Lib.indexByte tR c) = bB c := eq_of_beq (wC (fun c => decide (0 <= Lib.indexByte tR c) == bB c) (by decide +kernel) c)
theorem wI (c : UInt8) (w : World) : Calls Tryz.prog 106 #[.int .u8 (c.toNat : Int)] w fun e w' => e = .returned (.bool (bB c)) /\ w = w' := by
 have h := aFt c
 go_enter Tryz.func106, Tryz.ntmps106
 go_wp2_with fail; refine (yG _ c _).mono ?_; rintro e w1 ⟨rfl, rfl⟩; obtain ⟨x, hx⟩ : ∃ x, Lib.indexByte tR c = x := ⟨_, rfl⟩; have e : Lib.indexByte (ByteArray.mk #[48, 49, 50, 51, 52, 53, 54, 55, 56, 57]).data.toList c = x := hx; rw [hx] at h; rw [e]; clear e hx; go_wp2_with fail
 go_ret
 exact ⟨by rw [<- h]; rfl, rfl⟩
def uR (r : Int) : Bool := decide (97 <= r /\ r <= 122) || decide (65 <= r /\ r <= 90) || r == 95 || decide (127 < r)
theorem xW (c : UInt8) : uR (c.toNat : Int) = rR c := eq_of_beq (wC (fun c => uR (c.toNat : Int) == rR c) (by decide +kernel) c)
theorem aFu {r : Int} (h : 128 <= r) : uR r = true := by
 unfold uR; rw [decide_eq_true (show 127 < r by omega)]; simp
theorem uS (r : Int) (w : World) : Calls Tryz.prog 104 #[.int .i32 r] w fun e w' => e = .returned (.bool (uR r)) /\ w = w' := by
 have hs : ∀ b, uR r = b -> Calls Tryz.prog 104 #[.int .i32 r] w fun e w' => e = .returned (.bool b) /\ w = w' := by
  intro b hb; unfold uR at hb
  by_cases h1 : 97 <= r
  ·by_cases h2 : r <= 122
   ·obtain rfl : b = true := by rw [<- hb, decide_eq_true (show 97 <= r /\ r <= 122 from ⟨h1, h2⟩)]; simp
    clear hb
    go_enter Tryz.func104, Tryz.ntmps104
    go_wp2_with fail
    go_ret
    exact ⟨rfl, rfl⟩
   ·by_cases h3 : 127 < r
    ·obtain rfl : b = true := by rw [<- hb, decide_eq_true h3]; simp
     have h4 : ¬ r <= 90 := by omega
     have h5 : (r == 95) = false := bF (by omega)
     clear hb
     go_enter Tryz.func104, Tryz.ntmps104
     go_wp2_with fail
     go_ret
     exact ⟨rfl, rfl⟩
    ·obtain rfl : b = false := by rw [<- hb, decide_eq_false h3, decide_eq_false (show ¬ (97 <= r /\ r <= 122) by omega), decide_eq_false (show ¬ (65 <= r /\ r <= 90) by omega), show (r == 95) = false by rw [beq_eq_false_iff_ne]; omega]; rfl
     have h4 : ¬ r <= 90 := by omega
     have h5 : (r == 95) = false := bF (by omega)
     clear hb
     go_enter Tryz.func104, Tryz.ntmps104
     go_wp2_with fail
     go_ret
     exact ⟨rfl, rfl⟩
  ·have h3 : ¬ 127 < r := by omega
   by_cases h2 : 65 <= r
   ·by_cases h4 : r <= 90
    ·obtain rfl : b = true := by rw [<- hb, decide_eq_true (show 65 <= r /\ r <= 90 from ⟨h2, h4⟩)]; simp
     clear hb
     go_enter Tryz.func104, Tryz.ntmps104
     go_wp2_with fail
     go_ret
     exact ⟨rfl, rfl⟩
    ·obtain rfl : b = (r == 95) := by rw [<- hb, decide_eq_false h3, decide_eq_false (show ¬ (97 <= r /\ r <= 122) by omega), decide_eq_false (show ¬ (65 <= r /\ r <= 90) by omega)]; simp
     clear hb
     cases h5 : (r == 95)
     ·skip
      go_enter Tryz.func104, Tryz.ntmps104
      go_wp2_with fail
      go_ret
      exact ⟨rfl, rfl⟩
     ·skip
      go_enter Tryz.func104, Tryz.ntmps104
      go_wp2_with fail
      go_ret
      exact ⟨rfl, rfl⟩
   ·obtain rfl : b = false := by rw [<- hb, decide_eq_false h3, decide_eq_false (show ¬ (97 <= r /\ r <= 122) by omega), decide_eq_false (show ¬ (65 <= r /\ r <= 90) by omega), show (r == 95) = false by rw [beq_eq_false_iff_ne]; omega]; rfl
    have h5 : (r == 95) = false := bF (by omega)
    clear hb
    go_enter Tryz.func104, Tryz.ntmps104
    go_wp2_with fail
    go_ret
    exact ⟨rfl, rfl⟩
 exact hs _ rfl
theorem Fr.iterAt {S : List Nat} {a b : World} (h : Fr S a b) {k : Nat} (hk : a.heap.size <= k) (s : ByteArray) (pos : Nat) : Fr S a (b.iterAt k s pos) :=
 ⟨h.os, h.tape, h.output, by rw [Lib.iterAt_size]; exact h.size, fun i hi hn => (Lib.iterAt_other b k i s pos (by omega)).trans (h.block i hi hn)⟩
def NmRel (w : World) (s : ByteArray) (j : Nat) (v4 : Value) (wr : World) : Prop := ∃ pos, v4 = .int .i64 (s.size : Int) /\ pos <= s.size /\ s.size <= pos + j /\ wr.heap[w.heap.size]? = some (.stringIter s pos) /\ (∀ c ∈ (aA s).take pos, lD c = true) /\ Fr [] w wr
theorem aCs (s : ByteArray) (pos : Nat) (h : pos < s.size) : ∃ r k : Nat, Utf8.decode s pos = (r, k) /\ 1 <= k /\ pos + k <= s.size /\ r <= 2097151 /\
  ((uR (r : Int) = true ∨ (48 <= r /\ r <= 57)) -> ∀ c ∈ ((aA s).drop pos).take k, lD c = true) /\ (¬ (uR (r : Int) = true ∨ (48 <= r /\ r <= 57)) -> lD (s[pos]'h) = false) := by
 by_cases ha : (s[pos]'h).toNat < 128
 ·refine ⟨_, _, decode_ascii s pos h ha, Nat.le_refl _, by omega, by omega, fun hl c hc => ?_, fun hl => ?_⟩
  ·rw [tC (cI s h)] at hc; simp only [List.take_succ_cons, List.take_zero, List.mem_singleton] at hc; subst hc; unfold lD; rw [<- xW]; rcases hl with hl | hl
   ·rw [hl]; rfl
   ·unfold bB; rw [decide_eq_true hl]; simp
  ·unfold lD; rw [<- xW]; simp only [not_or] at hl; rw [Bool.not_eq_true] at hl; rw [hl.1]; unfold bB; rw [decide_eq_false hl.2]; rfl
 ·obtain ⟨r, k, hd, h1, h2, h3, h4, h5⟩ := aCk s pos h (by omega); refine ⟨r, k, hd, h3, h4, h2, fun _ c hc => ?_, fun hl => absurd (.inl (aFu (by omega))) hl⟩; obtain ⟨j, hj⟩ := List.mem_iff_getElem?.1 hc; rw [List.getElem?_take] at hj
  split at hj
  ·rename_i hjk
   rw [List.getElem?_drop] at hj; have hjs : pos + j < s.size := by omega
   rw [cI s hjs] at hj; injection hj with hj; rw [<- hj]; exact aDu (h5 _ hjs (by omega) (by omega))
  ·cases hj
theorem aDG {w : World} (s : ByteArray) (hs : s.size <= 1000000) : RV 105 #[.string s] w (.tuple #[.int .i64 (((aA s).takeWhile lD).length : Int), .bool (lE ((aA s).takeWhile lD))]) := by
 refine cA fun R HQ => ?_
 go_enter Tryz.func105, Tryz.ntmps105
 go_wp2_with fail; have hit0 : (w.iter s 0).heap[w.heap.size]? = some (.stringIter s 0) := World.iter_heap w s 0; have hf0 : Fr [] w (w.iter s 0) := (Fr.refl [] w).alloc _; generalize w.iter s 0 = w0 at *; have HI0 := lh hit0; have HF0 := lh hf0; clear hit0 hf0
 go_loopg [4, 5, 6] s.size (fun j v4 _ _ wr => NmRel w s j v4 wr)
 case atStart => exact ⟨0, rfl, Nat.zero_le _, by omega, HI0.out, by simp, HF0.out⟩
 case round =>
  obtain ⟨pos, rfl, hp, hj, hit, hall, hf⟩ := hrel; have HIT := lh hit; have HALL := lh hall; have HF := lh hf; clear hit hall hf HI0 HF0
  by_cases hps : pos < s.size
  ·obtain ⟨r, k, hd, hk1, hk2, hr, hy, hn⟩ := aCs s pos hps
   have hnx : ∀ ty, (Instr.next (.pointer (some ⟨w.heap.size, 0, none⟩)) true ty).run Tryz.prog wr = .ok (.tuple #[.bool true, .int .i64 pos, .int .i32 r]) (wr.iterAt w.heap.size s (pos + k)) := fun ty => by
    have := Lib.run_next_any_at (P := Tryz.prog) wr w.heap.size s pos ty HIT.out hps; rw [hd] at this; exact this
   have HIT2 := lh (Lib.iterAt_heap wr w.heap.size s pos (pos + k) HIT.out); have HF2 := lh (HF.out.iterAt (Nat.le_refl _) s (pos + k)); have HY := lh hy; have HN := lh hn; obtain ⟨w2, hw2⟩ : ∃ w2, wr.iterAt w.heap.size s (pos + k) = w2 := ⟨_, rfl⟩; rw [hw2] at hnx HIT2 HF2; clear hy hn hd hw2; obtain ⟨lt, hlt⟩ : ∃ lt, uR (r : Int) = lt := ⟨_, rfl⟩
   have hmore : (uR (r : Int) = true ∨ (48 <= r /\ r <= 57)) -> ∀ c ∈ (aA s).take (pos + k), lD c = true := fun h c hc => by
    rw [List.take_add] at hc; rcases List.mem_append.1 hc with h1 | h1
    ·exact HALL.out c h1
    ·exact HY.out h c h1
   have hstop : ¬ (uR (r : Int) = true ∨ (48 <= r /\ r <= 57)) -> (aA s).takeWhile lD = (aA s).take pos := fun h =>
    (qL (by rw [dA]; exact hp) HALL.out (fun c hc => by
     rw [cI s hps] at hc; injection hc with hc; rw [<- hc]; exact HN.out h)).1
   have HM := lh hmore; have HS := lh hstop; have HLT := lh hlt; clear hmore hstop hlt; go_wp2_with fail; refine (uS _ _).mono ?_; rintro e w3 ⟨rfl, rfl⟩; rw [HLT.out]
   cases lt with
   | true =>
    have HM2 := lh (HM.out (.inl HLT.out)); clear hnx; go_wp2_with fail
    go_roundg (s.size - (pos + k))
    case measure => omega
    case rel => exact ⟨pos + k, rfl, hk2, by omega, HIT2.out, HM2.out, HF2.out⟩
   | false =>
    by_cases h48 : r < 48
    ·have HTK := lh (HS.out (by rw [HLT.out]; simp; omega)); have d1 : decide ((r : Int) < 48) = true := dT (by omega)
     have HFW := HF2; clear hnx; obtain ⟨t, hext⟩ : ∃ t, s.extract 0 pos = t := ⟨_, rfl⟩; have ht : aA t = (aA s).take pos := by rw [<- hext, sB]; simp
     have htw : aA t = (aA s).takeWhile lD := by rw [ht]; exact HTK.out.symm
     have htz : t.size = pos := by rw [sA ht, List.length_take, dA]; omega
     obtain ⟨C, w3, hcv, hC, hba, hf3⟩ := rH w2 t (by omega); rw [htw, htz] at hba; rw [htz] at hcv; have HF3 := lh (HFW.out.trans hf3); have HBA := lh hba; have HTW := lh htw; clear ht hba hf3 htw; go_wp2_with fail; refine (mE HBA.out (by omega)).mono ?_; rintro e w4 ⟨x, rfl, hx, hf4⟩; have HF4 := lh (HF3.out.trans hf4); have HX := lh hx; clear hf4 hx hcv hext; go_wp2_with fail; have hlen : ((aA s).takeWhile lD).length = pos := by rw [<- HTW.out, dA, htz]
     exact HQ.out _ _ ⟨by rw [hlen, <- HX.out]; rfl, HF4.out⟩
    ·have d1 : decide ((r : Int) < 48) = false := dF (by omega)
     by_cases h57 : 57 < r
     ·have HTK := lh (HS.out (by rw [HLT.out]; simp; omega)); have d2 : decide (57 < (r : Int)) = true := dT (by omega)
      have HFW := HF2; clear hnx; obtain ⟨t, hext⟩ : ∃ t, s.extract 0 pos = t := ⟨_, rfl⟩; have ht : aA t = (aA s).take pos := by rw [<- hext, sB]; simp
      have htw : aA t = (aA s).takeWhile lD := by rw [ht]; exact HTK.out.symm
      have htz : t.size = pos := by rw [sA ht, List.length_take, dA]; omega
      obtain ⟨C, w3, hcv, hC, hba, hf3⟩ := rH w2 t (by omega); rw [htw, htz] at hba; rw [htz] at hcv; have HF3 := lh (HFW.out.trans hf3); have HBA := lh hba; have HTW := lh htw; clear ht hba hf3 htw; go_wp2_with fail; refine (mE HBA.out (by omega)).mono ?_; rintro e w4 ⟨x, rfl, hx, hf4⟩; have HF4 := lh (HF3.out.trans hf4); have HX := lh hx; clear hf4 hx hcv hext; go_wp2_with fail; have hlen : ((aA s).takeWhile lD).length = pos := by rw [<- HTW.out, dA, htz]
      exact HQ.out _ _ ⟨by rw [hlen, <- HX.out]; rfl, HF4.out⟩
     ·have HM2 := lh (HM.out (.inr ⟨by omega, by omega⟩)); have d2 : decide (57 < (r : Int)) = false := dF (by omega)
      clear hnx; go_wp2_with fail
      go_roundg (s.size - (pos + k))
      case measure => omega
      case rel => exact ⟨pos + k, rfl, hk2, by omega, HIT2.out, HM2.out, HF2.out⟩
  ·have hpe : pos = s.size := by omega
   subst hpe; have hnx : ∀ ty, (Instr.next (.pointer (some ⟨w.heap.size, 0, none⟩)) true ty).run Tryz.prog wr = .ok (.tuple #[.bool false]) wr := fun ty => Lib.run_next_end_at wr w.heap.size s s.size ty HIT.out hps
   have HTK : Hid ((aA s).takeWhile lD = (aA s).take s.size) := lh
    (qL (by rw [dA]; exact Nat.le_refl _) HALL.out (fun c hc => by
     rw [List.getElem?_eq_none (by rw [dA]; exact Nat.le_refl _)] at hc; cases hc)).1
   have HFW := HF; obtain ⟨t, hext⟩ : ∃ t, s.extract 0 s.size = t := ⟨_, rfl⟩; have ht : aA t = (aA s).take s.size := by rw [<- hext, sB]; simp
   have htw : aA t = (aA s).takeWhile lD := by rw [ht]; exact HTK.out.symm
   have htz : t.size = s.size := by rw [sA ht, List.length_take, dA]; omega
   obtain ⟨C, w3, hcv, hC, hba, hf3⟩ := rH wr t (by omega); rw [htw, htz] at hba; rw [htz] at hcv; have HF3 := lh (HFW.out.trans hf3); have HBA := lh hba; have HTW := lh htw; clear ht hba hf3 htw; go_wp2_with fail; refine (mE HBA.out (by omega)).mono ?_; rintro e w4 ⟨x, rfl, hx, hf4⟩; have HF4 := lh (HF3.out.trans hf4); have HX := lh hx; clear hf4 hx hcv hext; go_wp2_with fail; have hlen : ((aA s).takeWhile lD).length = s.size := by rw [<- HTW.out, dA, htz]
   exact HQ.out _ _ ⟨by rw [hlen, <- HX.out]; rfl, HF4.out⟩
theorem aBL (c : UInt8) : (bits .or .u8 (c.toNat : Int) 32 == 101) = eB c := eq_of_beq (wC (fun c => (bits .or .u8 (c.toNat : Int) 32 == 101) == eB c) (by decide +kernel) c)
theorem aP (s p : ByteArray) (w : World) : Calls Tryz.prog 155 #[.string s, .string p] w fun e w' => e = .returned (.bool ((aA p).isPrefixOf (aA s))) /\ w = w' := by
 refine (Tryz.strings_HasPrefix s p w).mono ?_; rintro e w' ⟨rfl, rfl⟩; exact ⟨rfl, rfl⟩
def NuRel (w : World) (s : ByteArray) (j : Nat) (v8 : Value) (wr : World) : Prop := ∃ (pos : Nat) (p : Option UInt8), pos <= s.size /\ s.size <= pos + j /\ v8 = .int .i64 (pos : Int) /\ pA none (aA s) = pos + pA p ((aA s).drop pos) /\
 ((pos = 0 /\ p = none) ∨ ∃ i b, pos = i + 1 /\ p = some b /\ (aA s)[i]? = some b) /\ Fr [] w wr
theorem vS {w : World} (s : ByteArray) (hs : s.size <= 1000000) : RV 107 #[.string s] w (.int .i64 (pA none (aA s) : Int)) := by
 refine cA fun R HQ => ?_
 go_enter Tryz.func107, Tryz.ntmps107
 go_wp2_with fail
 go_loopg [8] s.size (fun j v8 wr => NuRel w s j v8 wr)
 case atStart => exact ⟨0, none, Nat.zero_le _, by omega, rfl, by simp, .inl ⟨rfl, rfl⟩, Fr.refl _ _⟩
 case round =>
  obtain ⟨pos, p, hp, hj, rfl, hn, hprev, hq⟩ := hrel; have HN := lh hn; clear hn
  by_cases hps : pos < s.size
  ·obtain ⟨c, hc⟩ : ∃ c, (aA s)[pos]? = some c := ⟨_, cI s hps⟩; have hx := eC hc .i64; have HC := lh hc; have HD : Hid ((aA s).drop pos = c :: (aA s).drop (pos + 1)) := lh (tC hc); obtain ⟨sp, hsp, hsl0⟩ := iJ s pos hp
   have hdots : c.toNat = 46 -> (aA { data := #[46, 46] }).isPrefixOf (aA sp) = gA 46 ((aA s).drop (pos + 1)) := fun h46 => by
    have e : c = 46 := UInt8.toNat_inj.1 h46; rw [hsp, HD.out, e]
    show List.isPrefixOf [46, 46] (46 :: (aA s).drop (pos + 1)) = _
    cases (aA s).drop (pos + 1) with
    | nil => rfl
    | cons x xs => simp [List.isPrefixOf, gA, Bool.beq_comm]
   have he := aBL c; have HDT := lh hdots; clear hc hsp hdots; have d0 : decide ((pos : Int) < (s.size : Int)) = true := dT (by omega)
   rcases hprev with ⟨hp0, hpn⟩ | ⟨i, b, hpi, hpb, hb⟩
   ·subst hpn; have hpI : (pos : Int) = 0 := by omega
    have HBH : Hid (gH none = true) := lh rfl; have HSL0 := lh hsl0; have d1 : ((pos : Int) == 0) = true := by rw [hpI]; rfl
    clear hsl0 hp0 hpI; go_wp2_with fail; refine (wI c _).mono ?_; rintro e w1 ⟨rfl, rfl⟩
    cases hfg : bB c with
    | true =>
     have HFG := lh hfg; clear hfg
     skip
     have HN2 : Hid (pA none (aA s) = (pos + 1) + pA (some c) ((aA s).drop (pos + 1))) := lh (by
      rw [HN.out, HD.out, pA, if_pos (by simp [HFG.out])]; omega)
     go_wp2_with fail
     go_roundg (s.size - (pos + 1))
     case measure => omega
     case rel => exact ⟨pos + 1, some c, by omega, by omega, by go_num, HN2.out, .inr ⟨pos, c, rfl, rfl, HC.out⟩, hq⟩
    | false =>
     have HFG := lh hfg; clear hfg
     cases heb : eB c with
     | true =>
      have HEB := lh heb; rw [heb] at he; clear heb
      have HN2 : Hid (pA none (aA s) = (pos + 1) + pA (some c) ((aA s).drop (pos + 1))) := lh (by
       rw [HN.out, HD.out, pA, if_pos (by simp [HFG.out, HEB.out])]; omega)
      go_wp2_with fail
      go_roundg (s.size - (pos + 1))
      case measure => omega
      case rel => exact ⟨pos + 1, some c, by omega, by omega, by go_num, HN2.out, .inr ⟨pos, c, rfl, rfl, HC.out⟩, hq⟩
     | false =>
      have HEB := lh heb; rw [heb] at he; clear heb
      cases hp1 : ((c.toNat : Int) == 43) with
      | true =>
       have c43 : c.toNat = 43 := by have := eq_of_beq hp1; omega
       have c46 : ((c.toNat : Int) == 46) = false := by rw [c43]; rfl
       have HCS := lh c43; clear c43
       have HN2 : Hid (pA none (aA s) = (pos + 1) + pA (some c) ((aA s).drop (pos + 1))) := lh (by
        rw [HN.out, HD.out, pA, if_pos (by simp [HFG.out, HEB.out, HCS.out, HBH.out])]; omega)
       go_wp2_with fail
       go_roundg (s.size - (pos + 1))
       case measure => omega
       case rel => exact ⟨pos + 1, some c, by omega, by omega, by go_num, HN2.out, .inr ⟨pos, c, rfl, rfl, HC.out⟩, hq⟩
      | false =>
       cases hp2 : ((c.toNat : Int) == 45) with
       | true =>
        have c45 : c.toNat = 45 := by have := eq_of_beq hp2; omega
        have c46 : ((c.toNat : Int) == 46) = false := by rw [c45]; rfl
        have HCS := lh c45; clear c45
        have HN2 : Hid (pA none (aA s) = (pos + 1) + pA (some c) ((aA s).drop (pos + 1))) := lh (by
         rw [HN.out, HD.out, pA, if_pos (by simp [HFG.out, HEB.out, HCS.out, HBH.out])]; omega)
        go_wp2_with fail
        go_roundg (s.size - (pos + 1))
        case measure => omega
        case rel => exact ⟨pos + 1, some c, by omega, by omega, by go_num, HN2.out, .inr ⟨pos, c, rfl, rfl, HC.out⟩, hq⟩
       | false =>
        have N43 : Hid (c.toNat ≠ 43) := lh (by intro e; rw [e] at hp1; cases hp1); have N45 : Hid (c.toNat ≠ 45) := lh (by intro e; rw [e] at hp2; cases hp2)
        cases hp3 : ((c.toNat : Int) == 46) with
        | false =>
         have N46 : Hid (c.toNat ≠ 46) := lh (by intro e; rw [e] at hp3; cases hp3)
         have HNE : Hid (pA none (aA s) = pos) := lh (by
          rw [HN.out, HD.out, pA, if_neg (by simp [HFG.out, HEB.out, N43.out, N45.out, N46.out])]; omega)
         go_wp2_with fail; exact HQ.out _ _ ⟨by rw [HNE.out]; first | done | rfl, hq⟩
        | true =>
         have C46 : Hid (c.toNat = 46) := lh (by have := eq_of_beq hp3; omega); have hsl := HSL0.out .i64; go_wp2_with fail; refine (aP sp _ _).mono ?_; rintro e w1 ⟨rfl, rfl⟩; rw [HDT.out C46.out]
         cases hdd : gA 46 ((aA s).drop (pos + 1)) with
         | true =>
          have HDD := lh hdd; clear hdd hsl
          have HNE : Hid (pA none (aA s) = pos) := lh (by
           rw [HN.out, HD.out, pA, if_neg (by simp [HFG.out, HEB.out, C46.out, HDD.out])]; omega)
          go_wp2_with fail; exact HQ.out _ _ ⟨by rw [HNE.out]; first | done | rfl, hq⟩
         | false =>
          have HDD := lh hdd; clear hdd hsl
          have HN2 : Hid (pA none (aA s) = (pos + 1) + pA (some c) ((aA s).drop (pos + 1))) := lh (by
           rw [HN.out, HD.out, pA, if_pos (by simp [HFG.out, HEB.out, C46.out, HDD.out])]; omega)
          go_wp2_with fail
          go_roundg (s.size - (pos + 1))
          case measure => omega
          case rel => exact ⟨pos + 1, some c, by omega, by omega, by go_num, HN2.out, .inr ⟨pos, c, rfl, rfl, HC.out⟩, hq⟩
   ·subst hpb; have d1 : ((pos : Int) == 0) = false := by rw [beq_eq_false_iff_ne]; omega
    have hxp := eC hb .i64; have w1 : IntKind.i64.wrap ((pos : Int) - 1) = (i : Int) := by rw [IntKind.wrap_i64]; omega
    have w2 : (pos : Int) - 1 = (i : Int) := by omega
    have hob := aBL b; have HSL0 := lh hsl0; clear hsl0 hpi hb; go_wp2_with fail; refine (wI c _).mono ?_; rintro e w3 ⟨rfl, rfl⟩
    cases hfg : bB c with
    | true =>
     have HFG := lh hfg; clear hfg
     skip
     have HN2 : Hid (pA none (aA s) = (pos + 1) + pA (some c) ((aA s).drop (pos + 1))) := lh (by
      rw [HN.out, HD.out, pA, if_pos (by simp [HFG.out])]; omega)
     go_wp2_with fail
     go_roundg (s.size - (pos + 1))
     case measure => omega
     case rel => exact ⟨pos + 1, some c, by omega, by omega, by go_num, HN2.out, .inr ⟨pos, c, rfl, rfl, HC.out⟩, hq⟩
    | false =>
     have HFG := lh hfg; clear hfg
     cases heb : eB c with
     | true =>
      have HEB := lh heb; rw [heb] at he; clear heb
      have HN2 : Hid (pA none (aA s) = (pos + 1) + pA (some c) ((aA s).drop (pos + 1))) := lh (by
       rw [HN.out, HD.out, pA, if_pos (by simp [HFG.out, HEB.out])]; omega)
      go_wp2_with fail
      go_roundg (s.size - (pos + 1))
      case measure => omega
      case rel => exact ⟨pos + 1, some c, by omega, by omega, by go_num, HN2.out, .inr ⟨pos, c, rfl, rfl, HC.out⟩, hq⟩
     | false =>
      have HEB := lh heb; rw [heb] at he; clear heb
      cases hp1 : ((c.toNat : Int) == 43) with
      | true =>
       have c43 : c.toNat = 43 := by have := eq_of_beq hp1; omega
       have c46 : ((c.toNat : Int) == 46) = false := by rw [c43]; rfl
       have HCS := lh c43; clear c43
       cases hbv : eB b with
       | true =>
        have HBH : Hid (gH (some b) = true) := lh hbv; rw [hbv] at hob; clear hbv
        have HN2 : Hid (pA none (aA s) = (pos + 1) + pA (some c) ((aA s).drop (pos + 1))) := lh (by
         rw [HN.out, HD.out, pA, if_pos (by simp [HFG.out, HEB.out, HCS.out, HBH.out])]; omega)
        go_wp2_with fail
        go_roundg (s.size - (pos + 1))
        case measure => omega
        case rel => exact ⟨pos + 1, some c, by omega, by omega, by go_num, HN2.out, .inr ⟨pos, c, rfl, rfl, HC.out⟩, hq⟩
       | false =>
        have HBH : Hid (gH (some b) = false) := lh hbv; rw [hbv] at hob; clear hbv
        have HNE : Hid (pA none (aA s) = pos) := lh (by
         rw [HN.out, HD.out, pA, if_neg (by simp [HFG.out, HEB.out, HCS.out, HBH.out])]; omega)
        go_wp2_with fail; exact HQ.out _ _ ⟨by rw [HNE.out]; first | done | rfl, hq⟩
      | false =>
       cases hp2 : ((c.toNat : Int) == 45) with
       | true =>
        have c45 : c.toNat = 45 := by have := eq_of_beq hp2; omega
        have c46 : ((c.toNat : Int) == 46) = false := by rw [c45]; rfl
        have HCS := lh c45; clear c45
        cases hbv : eB b with
        | true =>
         have HBH : Hid (gH (some b) = true) := lh hbv; rw [hbv] at hob; clear hbv
         have HN2 : Hid (pA none (aA s) = (pos + 1) + pA (some c) ((aA s).drop (pos + 1))) := lh (by
          rw [HN.out, HD.out, pA, if_pos (by simp [HFG.out, HEB.out, HCS.out, HBH.out])]; omega)
         go_wp2_with fail
         go_roundg (s.size - (pos + 1))
         case measure => omega
         case rel => exact ⟨pos + 1, some c, by omega, by omega, by go_num, HN2.out, .inr ⟨pos, c, rfl, rfl, HC.out⟩, hq⟩
        | false =>
         have HBH : Hid (gH (some b) = false) := lh hbv; rw [hbv] at hob; clear hbv
         have HNE : Hid (pA none (aA s) = pos) := lh (by
          rw [HN.out, HD.out, pA, if_neg (by simp [HFG.out, HEB.out, HCS.out, HBH.out])]; omega)
         go_wp2_with fail; exact HQ.out _ _ ⟨by rw [HNE.out]; first | done | rfl, hq⟩
       | false =>
        have N43 : Hid (c.toNat ≠ 43) := lh (by intro e; rw [e] at hp1; cases hp1); have N45 : Hid (c.toNat ≠ 45) := lh (by intro e; rw [e] at hp2; cases hp2)
        cases hp3 : ((c.toNat : Int) == 46) with
        | false =>
         have N46 : Hid (c.toNat ≠ 46) := lh (by intro e; rw [e] at hp3; cases hp3)
         have HNE : Hid (pA none (aA s) = pos) := lh (by
          rw [HN.out, HD.out, pA, if_neg (by simp [HFG.out, HEB.out, N43.out, N45.out, N46.out])]; omega)
         go_wp2_with fail; exact HQ.out _ _ ⟨by rw [HNE.out]; first | done | rfl, hq⟩
        | true =>
         have C46 : Hid (c.toNat = 46) := lh (by have := eq_of_beq hp3; omega); have hsl := HSL0.out .i64; go_wp2_with fail; refine (aP sp _ _).mono ?_; rintro e w1 ⟨rfl, rfl⟩; rw [HDT.out C46.out]
         cases hdd : gA 46 ((aA s).drop (pos + 1)) with
         | true =>
          have HDD := lh hdd; clear hdd hsl
          have HNE : Hid (pA none (aA s) = pos) := lh (by
           rw [HN.out, HD.out, pA, if_neg (by simp [HFG.out, HEB.out, C46.out, HDD.out])]; omega)
          go_wp2_with fail; exact HQ.out _ _ ⟨by rw [HNE.out]; first | done | rfl, hq⟩
         | false =>
          have HDD := lh hdd; clear hdd hsl
          have HN2 : Hid (pA none (aA s) = (pos + 1) + pA (some c) ((aA s).drop (pos + 1))) := lh (by
           rw [HN.out, HD.out, pA, if_pos (by simp [HFG.out, HEB.out, C46.out, HDD.out])]; omega)
          go_wp2_with fail
          go_roundg (s.size - (pos + 1))
          case measure => omega
          case rel => exact ⟨pos + 1, some c, by omega, by omega, by go_num, HN2.out, .inr ⟨pos, c, rfl, rfl, HC.out⟩, hq⟩
  ·have hpe : pos = s.size := by omega
   subst hpe
   have HNE : Hid (pA none (aA s) = s.size) := lh (by
    rw [HN.out, List.drop_of_length_le (by rw [dA]; exact Nat.le_refl _)]; simp [pA])
   go_wp2_with fail; exact HQ.out _ _ ⟨by rw [HNE.out]; rfl, hq⟩
end
section
open Go.RowKit
theorem rU {P : Program} {w : World} {src e dst : TypeId} (hs : P.underlying src = some (.slice e)) (he : P.underlying e = some (.int .u8)) (hd : P.underlying dst = some .string) {v : Value} {bs : List UInt8} {g : Nat} (h : lC w v bs g) :
  (convert src dst v).run P w = .ok (.string ⟨bs.toArray⟩) w := by
 obtain ⟨A, c, off, rfl, hc, hb⟩ := h; rw [run_convert_bytes_string w src dst e _ _ c hs he hd]
 cases A with
 | none =>
  have h0 : bs = [] := by
   cases bs with
   | nil => rfl
   | cons x xs => have := (hb (by simp)).1; cases this
  subst h0
  simp [Conv.bytesToString]
  rfl
 | some a =>
  have hl : (loadCells a bs.length).run P w = .ok ((bs.map fun (c : UInt8) => (c.toNat : Int)).map (Value.int .u8)).toArray w := by
   have := run_loadCells_list (P := P) w a (lB bs) (fun j v hj => by
    have h0 : 0 < bs.length := by have := (List.getElem?_eq_some_iff.1 hj).1; rw [oH] at this; omega
    obtain ⟨ha, hcell⟩ := hb h0; injection ha with ha; subst ha; rw [Addr.add_mid]; exact hcell j v hj)
   rw [oH] at this; rw [this]
   congr 2
   simp [lB, B8, Function.comp_def]
  rw [run_bytesToString w a bs.length c _ hl, foldl_push_bytes]
  have e : (bs.map fun (c : UInt8) => (c.toNat : Int)).map (fun n => UInt8.ofNat n.toNat) = bs := by
   rw [List.map_map]
   conv => rhs; rw [<- List.map_id bs]
   apply List.map_congr_left
   intro x _
   simp
  rw [e]
  simp [ByteArray.empty, ByteArray.emptyWithCapacity]
  rfl
end
section
open Go.RowKit Go.Shelf
theorem aDH (a b : UInt8) : ((a.toNat : Int) == (b.toNat : Int)) = (a == b) := by
 by_cases h : a = b
 ·subst h; simp
 ·have : a.toNat ≠ b.toNat := fun e => h (UInt8.toNat_inj.1 e); rw [beq_eq_false_iff_ne.2 h, beq_eq_false_iff_ne]; omega
theorem mR (c b : UInt8) (l : List UInt8) : gA c (b :: l) = ((b.toNat : Int) == (c.toNat : Int)) := by
 rw [aDH]; unfold gA; simp
theorem aDI {w : World} {A : Option Addr} {n c g : Nat} {bs : List UInt8} (q : UInt8) (hv : lC w (.slice A n c) bs g) (hc : c <= 9223372036854775807) : RV 160 #[.slice A n c, .int .u8 (q.toNat : Int)] w (aCo (mK q bs)) := by
 refine cA fun R HQ => ?_; obtain ⟨hn, hnc⟩ := hv.len; have HV := lh hv; have HN := lh hn; clear hv
 cases bs with
 | nil =>
  have hn0 : n = 0 := by simpa using hn
  subst hn0; clear hn; have HE : Hid (mK q [] = dJ []) := lh rfl
  go_enter Tryz.func160, Tryz.ntmps160
  go_wp2_with fail; refine (sS HV.out hc).mono ?_; rintro e w1 ⟨rfl, hf1⟩; rw [<- HE.out]
  cases he : mK q [] with
  | none =>
   simp only [aCo]; rw [he] at HQ; go_wp2_with fail; exact HQ.out _ _ ⟨rfl, hf1⟩
  | some y => cases he
 | cons b0 l =>
  obtain ⟨off, rfl, c0⟩ := HV.out.head; have h0n : 0 < n := by rw [hn]; simp
  have d0 : decide (0 < (n : Int)) = true := dT (by omega)
  clear hn; have e1 := mR q b0 l; have e2 := mR 34 b0 l; rw [show ((34 : UInt8).toNat : Int) = 34 from rfl] at e2
  cases h1 : gA q (b0 :: l) with
  | true =>
   have HE : Hid (mK q (b0 :: l) = some (q.toNat, 1)) := lh (by unfold mK; rw [if_pos h1]); have b3 : IntKind.i32.wrap (q.toNat : Int) = (q.toNat : Int) := by rw [IntKind.wrap_i32]; have := q.toNat_lt; omega
   rw [h1] at e1; have e1' := e1.symm; clear h1 e1 e2
   go_enter Tryz.func160, Tryz.ntmps160
   go_wp2_with fail; exact HQ.out _ _ ⟨by rw [HE.out]; rfl, Fr.refl _ _⟩
  | false =>
   rw [h1] at e1; have e1' := e1.symm
   cases h2 : gA 34 (b0 :: l) with
   | true =>
    have HE : Hid (mK q (b0 :: l) = none) := lh (by unfold mK; rw [if_neg (by rw [h1]; simp), if_pos h2]); rw [h2] at e2; have e2' := e2.symm; clear h1 h2 e1 e2
    go_enter Tryz.func160, Tryz.ntmps160
    go_wp2_with fail; exact HQ.out _ _ ⟨by rw [HE.out]; rfl, Fr.refl _ _⟩
   | false =>
    have HE : Hid (mK q (b0 :: l) = dJ (b0 :: l)) := lh (by unfold mK; rw [if_neg (by rw [h1]; simp), if_neg (by rw [h2]; simp)]); rw [h2] at e2; have e2' := e2.symm; clear h1 h2 e1 e2
    go_enter Tryz.func160, Tryz.ntmps160
    go_wp2_with fail; refine (sS HV.out hc).mono ?_; rintro e w1 ⟨rfl, hf1⟩; rw [<- HE.out]; have HF1 := lh hf1; clear hf1
    cases he : mK q (b0 :: l) with
    | none =>
     rw [he] at HQ; clear he; simp only [aCo]; go_wp2_with fail; exact HQ.out _ _ ⟨rfl, HF1.out⟩
    | some y =>
     obtain ⟨r, k⟩ := y; rw [he] at HQ; clear he; simp only [aCo]; go_wp2_with fail; exact HQ.out _ _ ⟨rfl, HF1.out⟩
end
end Go.Proofs.YtbggkiebfflcdaaGreatDoor
