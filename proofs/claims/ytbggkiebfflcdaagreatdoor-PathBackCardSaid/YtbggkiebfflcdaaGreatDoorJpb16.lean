/-
  Joined by join.py: Hc Hd He Hf
-/
import Derived.Lib.ItoaLen
import Derived.Test.YtbggkiebfflcdaaGreatDoorJpb15
set_option maxRecDepth 100000
set_option maxHeartbeats 32000000
namespace Go.Proofs.YtbggkiebfflcdaaGreatDoor
section
open Go.RowKit Go.Shelf
theorem wU (m : Nat) : Lib.repeatL [48] m = zA m := by
 unfold zA
 induction m with
 | zero => rfl
 | succ m ih => rw [List.replicate_succ, <- ih]; rfl
theorem nF (a b : List UInt8) : (⟨a.toArray⟩ : ByteArray) ++ (⟨b.toArray⟩ : ByteArray) = ⟨(a ++ b).toArray⟩ := by
 apply ByteArray.ext
 rw [ByteArray.data_append]
 simp
theorem rA (a b : List UInt8) (h : a.length + b.length <= 1000000000000) (w : World) : (Op.stringOp .add ⟨a.toArray⟩ ⟨b.toArray⟩).run Tryz.prog w = .ok (.string ⟨(a ++ b).toArray⟩) w := by
 have hs : (⟨a.toArray⟩ : ByteArray).size = a.length := by simp [ByteArray.size]
 have hs2 : (⟨b.toArray⟩ : ByteArray).size = b.length := by simp [ByteArray.size]
 simp only [Op.stringOp, hs, hs2, nF]; rw [if_neg (by rw [show IntKind.i64.max = 9223372036854775807 from rfl]; omega)]
 rfl
theorem vT {w : World} (m : Nat) (hm : m <= 1000000) : RV 231 #[.string { data := #[48] }, .int .i64 (m : Int)] w (.string ⟨(zA m).toArray⟩) := by
 refine (Tryz.strings_Repeat { data := #[48] } m w (by omega) (by show 1 * m <= _; omega)).mono ?_; rintro e w' ⟨rfl, hb⟩; rw [show (⟨#[48]⟩ : ByteArray).data.toList = [48] from rfl, wU]; exact ⟨rfl, Fr.of_below hb []⟩
theorem sJ {t : ByteArray} {l : List UInt8} (h : aA t = l) : t = ⟨l.toArray⟩ := by
 subst h; exact (Lib.mk_data t).symm
theorem aEy : (Tryz.prog.info? 93).map (·.size) = some 3 := by kernel_rfl
theorem nZ {w : World} (hg : nI w) (d : Dcm) (hsn : d.sane = true) (hne : d.digits ≠ []) : RV 209 #[jC d] w (.string ⟨d.written.toArray⟩) := by
 refine cA fun R HQ => ?_; have hsn' := hsn; unfold Dcm.sane at hsn'; rw [if_neg hne] at hsn'; simp only [Bool.and_eq_true, decide_eq_true_eq] at hsn'; obtain ⟨⟨⟨⟨hl40, -⟩, hh⟩, -⟩, -⟩ := hsn'; have hhe := zO (w := w) d; obtain ⟨neg, digits, exp⟩ := d; have hhi : (digits.length : Int) + exp = Dcm.high ⟨neg, digits, exp⟩ := rfl
 simp only at hl40 hne
 have HG := lh hg; have HHE := lh (fun W => zO (w := W) ⟨neg, digits, exp⟩ (by simp only; omega) (by simp only; omega) (by simp only; omega)); obtain ⟨h, hhd⟩ : ∃ h, Dcm.high ⟨neg, digits, exp⟩ = h := ⟨_, rfl⟩; have HHD := lh hhd; rw [hhd] at HHE hh hhi; unfold jC S8 at HHE ⊢
 simp only at HHE ⊢
 obtain ⟨s, hs⟩ : ∃ s : ByteArray, s = ⟨digits.toArray⟩ := ⟨_, rfl⟩; have hz : s.size = digits.length := by rw [hs]; simp [ByteArray.size]
 rw [<- hs] at HHE ⊢; have HS := lh hs; have HZ := lh hz; have HNE := lh hne; have hn1 : 1 <= s.size := by rw [hz]; exact List.length_pos_iff.2 hne
 have hn40 : s.size <= 40 := by omega
 have HC1 : Hid ((Tryz.prog.info? 93).map (·.size) = some ([.bool neg, .string s, .int .i64 exp] : List Value).length) := lh aEy; clear hsn hg hhe hhd hs hz hne hl40
 go_enter Tryz.func209, Tryz.ntmps209
 go_wp2_with (with_reducible refine kA rfl 93 (.tmp 0) rfl [.bool neg, .string s, .int .i64 exp] rfl ?_)
 intro w0 hb0 hf0 hz0; have HF0 := lh hf0; have HB0 := lh hb0; have c1 := hb0.at_ (i := 1) rfl; have hlt := hb0.lt; clear hf0 hz0; go_upto_region 1 with fail
 refine iA (fun W => W.cell? ⟨w.heap.size, 1, none⟩ = some (.string s) /\ Blk W w.heap.size 93 [.bool neg, .string s, .int .i64 exp]) [0, 1, 2, 3] (by kernel_rfl) ?_; refine tks [0, 1, 2] ?_
 iterate 3 (refine tk rfl rfl ⟨c1, hb0⟩ rfl (fun _ hW => by (obtain ⟨q0, q1⟩ := hW; go_simp) <;> with_reducible rfl) ?_; simp only [nrm])
 refine tke ?_; refine tv 3 (.agg #[.bool neg, .string s, .int .i64 exp]) rfl rfl ⟨c1, hb0⟩ (.inl ⟨rfl, fun W hW => zK rfl rfl hW.2 Tryz.underlying93 rfl HC1.out⟩) ?_; simp only [nrm]; refine sp 4 rfl rfl rfl fun K hK => ?_; refine mA (l := [.tmp 10]) rfl [.agg #[.bool neg, .string s, .int .i64 exp]] rfl (fun W => by kernel_rfl) ((HHE.out _).mono ?_); rintro e w2 ⟨rfl, hf2⟩; have hf02 : Fr [] w0 w2 := ((Fr.refl [] w0).drew).trans hf2; have k1 := bA hf02 c1; have hb2 := hb0.fr hf02; refine ⟨_, rfl, hK _ _ (fun _ => ⟨k1, hb2⟩) ?_⟩; simp only [nrm]; clear hK; refine sp 5 rfl rfl rfl fun K hK => ?_; refine eA (v := ?aq1_5) ?yq1_5 (hK _ _ (fun _ => ⟨k1, hb2⟩) ?_)
 case yq1_5 => go_simp <;> with_reducible rfl
 simp only [nrm]; refine sp 6 rfl rfl rfl fun K hK => ?_; refine eA (v := ?aq1_6) ?yq1_6 (hK _ _ (fun _ => ⟨k1, hb2⟩) ?_)
 case yq1_6 => go_simp <;> with_reducible rfl
 simp only [nrm]; refine wd ?_ _; have HF2 := lh (HF0.out.trans hf02); have HB2 := lh hb2; have hl2 := hb2.lt; clear hf2 hf02 c1 hb0 hb2 hlt HB0 HF0
 by_cases hA : (s.size : Int) <= h /\ h <= 21
 ·obtain ⟨m, hm⟩ : ∃ m : Nat, (m : Int) = h - (s.size : Int) := ⟨(h - s.size).toNat, by omega⟩; have d1 : decide ((s.size : Int) <= h) = true := decide_eq_true hA.1; have d2 : decide (h <= 21) = true := decide_eq_true hA.2
  have HE : Hid (Dcm.written ⟨neg, digits, exp⟩ = digits ++ zA m) := lh (by
   unfold Dcm.written
   simp only
   rw [HHD.out, <- HZ.out, if_pos hA, <- hm]
   rfl)
  have HRP := lh (fun W => vT (w := W) m (by omega)); rw [hm] at HRP; have hadd := fun W => rA digits (zA m) (by unfold zA; rw [List.length_replicate]; have := HZ.out; omega) W; have hwr : IntKind.i64.wrap (h - (s.size : Int)) = h - (s.size : Int) := by rw [IntKind.wrap_i64]; omega
  rw [<- HS.out] at hadd; clear hm hA hh; go_upto_region 3 with fail
  refine iA (fun W => W.cell? ⟨w.heap.size, 1, none⟩ = some (.string s) /\ True) [0, 1, 2, 3, 4, 6] (by kernel_rfl) ?_; refine tks [0, 1, 2, 3, 4] ?_
  iterate 5 (refine tk rfl rfl ⟨k1, trivial⟩ rfl (fun _ hW => by (obtain ⟨q0, _⟩ := hW; go_simp) <;> with_reducible rfl) ?_; simp only [nrm])
  refine tke ?_; refine sp 5 rfl rfl rfl fun K hK => ?_; refine mA (l := [.const (.string { data := #[48] }), .tmp 24]) rfl [.string { data := #[48] }, .int .i64 (h - (s.size : Int))] rfl (fun W => by kernel_rfl) ((HRP.out _).mono ?_); rintro e w3 ⟨rfl, hf3⟩; have hf23 : Fr [] w2 w3 := ((Fr.refl [] w2).drew).trans hf3; have j1 := bA hf23 k1; refine ⟨_, rfl, hK _ _ (fun _ => ⟨j1, trivial⟩) ?_⟩; simp only [nrm]; clear hK; refine tks [6] ?_; refine tk rfl rfl ⟨j1, trivial⟩ rfl (fun _ hW => by (obtain ⟨q0, _⟩ := hW; go_simp) <;> with_reducible rfl) ?_; simp only [nrm]; refine tke ?_; refine sp 7 rfl rfl rfl fun K hK => ?_; refine eA (v := ?aq2_7) ?yq2_7 (hK _ _ (fun _ => ⟨j1, trivial⟩) ?_)
  case yq2_7 => go_simp <;> with_reducible rfl
  simp only [nrm]; refine wd ?_ _; have HF3 := lh (HF2.out.trans hf23); clear hf3 hf23 j1 k1; go_wp2_with fail; exact HQ.out _ _ ⟨by rw [HE.out]; rfl, HF3.out⟩
 ·have hto : ∀ k : Nat, k <= s.size -> ∀ (K : IntKind) (W : World), (Instr.slice 9 (.string s) none (some (.int K (k : Int))) none).run Tryz.prog W = .ok (.string ⟨(digits.take k).toArray⟩) W := fun k hk K W => by
   obtain ⟨t, ht, hsl⟩ := aAD s k hk; rw [show aA s = digits by rw [HS.out]; rfl] at ht; rw [hsl K W, sJ ht]
  have hfrom : ∀ k : Nat, k <= s.size -> ∀ (K : IntKind) (W : World), (Instr.slice 9 (.string s) (some (.int K (k : Int))) none none).run Tryz.prog W = .ok (.string ⟨(digits.drop k).toArray⟩) W := fun k hk K W => by
   obtain ⟨t, ht, hsl⟩ := iJ s k hk; rw [show aA s = digits by rw [HS.out]; rfl] at ht; rw [hsl K W, sJ ht]
  by_cases hB : 1 <= h /\ h <= 21
  ·have hnh : h < (s.size : Int) := by
    by_cases hh9 : (s.size : Int) <= h
    ·exact absurd ⟨hh9, hB.2⟩ hA
    ·omega
   obtain ⟨k, rfl⟩ : ∃ k : Nat, h = (k : Int) := ⟨h.toNat, by omega⟩; have d1 : decide ((s.size : Int) <= (k : Int)) = false := dF (by omega)
   have d2 : decide (1 <= (k : Int)) = true := decide_eq_true hB.1; have d3 : decide ((k : Int) <= 21) = true := decide_eq_true hB.2
   have HE : Hid (Dcm.written ⟨neg, digits, exp⟩ = digits.take k ++ 46 :: digits.drop k) := lh (by
    unfold Dcm.written
    simp only
    rw [HHD.out, <- HZ.out, if_neg hA, if_pos hB]
    rfl)
   have hs1 := hto k (by omega) .i64; have hs2 := hfrom k (by omega) .i64; have hz := HZ.out; have ha1 := fun W => rA (digits.take k) [46] (by simp; omega) W; have ha2 := fun W => rA (digits.take k ++ [46]) (digits.drop k) (by simp; omega) W; have hkz : k <= s.size := by omega
   clear hto hfrom hA hB hz hh hhi; go_upto_region 5 with fail
   refine iA (fun W => W.cell? ⟨w.heap.size, 1, none⟩ = some (.string s) /\ True) [0, 1, 2, 3, 4, 5, 6, 7, 8, 9] (by kernel_rfl) ?_; refine tks [0, 1, 2, 3, 4, 5, 6, 7, 8, 9] ?_
   iterate 10 (refine tk rfl rfl ⟨k1, trivial⟩ rfl (fun _ hW => by (obtain ⟨q0, _⟩ := hW; go_simp) <;> with_reducible rfl) ?_; simp only [nrm])
   refine tke ?_; refine sp 10 rfl rfl rfl fun K hK => ?_; refine eA (v := ?aq3_10) ?yq3_10 (hK _ _ (fun _ => ⟨k1, trivial⟩) ?_)
   case yq3_10 => go_simp <;> with_reducible rfl
   simp only [nrm]; refine wd ?_ _; go_wp2_with fail; exact HQ.out _ _ ⟨by rw [HE.out]; rfl, HF2.out.drew⟩
  ·by_cases hC : -5 <= h /\ h < 1
   ·obtain ⟨m, hm⟩ : ∃ m : Nat, (m : Int) = -h := ⟨(-h).toNat, by omega⟩; have d1 : decide ((s.size : Int) <= h) = false := dF (by omega)
    have d2 : decide (1 <= h) = false := dF (by omega)
    have d3 : decide (-5 <= h) = true := decide_eq_true hC.1; have d4 : decide (h < 1) = true := decide_eq_true hC.2
    have HE : Hid (Dcm.written ⟨neg, digits, exp⟩ = [48, 46] ++ zA m ++ digits) := lh (by
     unfold Dcm.written
     simp only
     rw [HHD.out, <- HZ.out, if_neg hA, if_neg hB, if_pos hC, <- hm]
     rfl)
    have HRP := lh (fun W => vT (w := W) m (by omega)); rw [hm] at HRP; have hz := HZ.out; have ha1 := fun W => rA [48, 46] (zA m) (by unfold zA; rw [List.length_replicate]; simp; omega) W; have ha2 := fun W => rA (48 :: 46 :: zA m) digits (by unfold zA; simp; omega) W; rw [<- HS.out] at ha2; have hwr : IntKind.i64.wrap (-h) = -h := by rw [IntKind.wrap_i64]; omega
    clear hto hfrom hA hB hC hm hz hh hhi; go_upto_region 7 with fail
    refine iA (fun W => W.cell? ⟨w.heap.size, 1, none⟩ = some (.string s) /\ True) [0, 1, 3, 4, 5, 6] (by kernel_rfl) ?_; refine tks [0, 1, 4, 5] ?_
    iterate 4 (refine tk rfl rfl ⟨k1, trivial⟩ rfl (fun _ hW => by (obtain ⟨q0, _⟩ := hW; go_simp) <;> with_reducible rfl) ?_; simp only [nrm])
    refine tke ?_; refine sp 2 rfl rfl rfl fun K hK => ?_; refine mA (l := [.const (.string { data := #[48] }), .tmp 52]) rfl [.string { data := #[48] }, .int .i64 (-h)] rfl (fun W => by kernel_rfl) ((HRP.out _).mono ?_); rintro e w3 ⟨rfl, hf3⟩; have hf23 : Fr [] w2 w3 := ((Fr.refl [] w2).drew).trans hf3; have j1 := bA hf23 k1; refine ⟨_, rfl, hK _ _ (fun _ => ⟨j1, trivial⟩) ?_⟩; simp only [nrm]; clear hK; refine tks [3, 6] ?_
    iterate 2 (refine tk rfl rfl ⟨j1, trivial⟩ rfl (fun _ hW => by (obtain ⟨q0, _⟩ := hW; go_simp) <;> with_reducible rfl) ?_; simp only [nrm])
    refine tke ?_; refine sp 7 rfl rfl rfl fun K hK => ?_; refine eA (v := ?aq4_7) ?yq4_7 (hK _ _ (fun _ => ⟨j1, trivial⟩) ?_)
    case yq4_7 => go_simp <;> with_reducible rfl
    simp only [nrm]; refine wd ?_ _; have HF3 := lh (HF2.out.trans hf23); clear hf3 hf23 j1 k1; go_wp2_with fail; exact HQ.out _ _ ⟨by rw [HE.out]; rfl, HF3.out⟩
   ·have hs1 := hto 1 (by omega) .i64; have hs2 := hfrom 1 (by omega) .i64; rw [show ((1 : Nat) : Int) = 1 from rfl] at hs1 hs2; have hz := HZ.out; have hwr : IntKind.i64.wrap (h - 1) = h - 1 := by rw [IntKind.wrap_i64]; omega
    have hi9 := Lib.itoa_length_le (h - 1) (by omega) (by omega); have HIT := lh (fun W (hW : Fr [] w W) => iT (w := W) (HG.out.fr hW) (h - 1) (by omega) (by omega)); clear hto hfrom
    by_cases hb : 21 < h
    ·have d2 : decide (h <= 21) = false := dF (by omega)
     have d3 : decide (1 <= h) = true := decide_eq_true (by omega); have d4 : decide (-5 <= h) = true := decide_eq_true (by omega); have d5 : decide (h < 1) = false := dF (by omega)
     have d6 : decide (0 < h) = true := decide_eq_true (by omega); have hp : 0 < h := by omega
     by_cases hnh : (s.size : Int) <= h
     case' pos =>
      have d1 : decide ((s.size : Int) <= h) = true := decide_eq_true hnh
     case' neg =>
      have d1 : decide ((s.size : Int) <= h) = false := decide_eq_false hnh
     all_goals
      by_cases hn2 : 1 < (s.size : Int)
      ·have d7 : decide (1 < (s.size : Int)) = true := decide_eq_true hn2
       have HE : Hid (Dcm.written ⟨neg, digits, exp⟩ = (digits.take 1 ++ 46 :: digits.drop 1) ++ [101, 43] ++ Lib.itoa (h - 1)) := lh (by
        unfold Dcm.written
        simp only
        rw [HHD.out, <- HZ.out, if_neg hA, if_neg hB, if_neg hC, if_pos hn2, if_pos hp])
       have ha1 := fun W => rA [46] (digits.drop 1) (by simp; omega) W; have ha2 := fun W => rA (digits.take 1) (46 :: digits.drop 1) (by simp; omega) W; have ha3 := fun W => rA (digits.take 1 ++ 46 :: digits.drop 1) [101, 43] (by simp; omega) W; have ha4 := fun W => rA ((digits.take 1 ++ 46 :: digits.drop 1) ++ [101, 43]) (Lib.itoa (h - 1)) (by simp; omega) W; have hd40 : digits.length <= 40 := by omega
       clear hA hB hC hn2 hz hh hhi; go_wp2_with fail; refine (HIT.out _ HF2.out).mono ?_; rintro e w3 ⟨rfl, hf3⟩; have HF3 := lh (HF2.out.trans hf3); clear hf3; go_wp2_with fail; exact HQ.out _ _ ⟨by rw [HE.out]; simp [nF], HF3.out⟩
      ·have d7 : decide (1 < (s.size : Int)) = false := decide_eq_false hn2
       have HE : Hid (Dcm.written ⟨neg, digits, exp⟩ = digits.take 1 ++ [101, 43] ++ Lib.itoa (h - 1)) := lh (by
        unfold Dcm.written
        simp only
        rw [HHD.out, <- HZ.out, if_neg hA, if_neg hB, if_neg hC, if_neg hn2, if_pos hp, List.append_nil])
       have ha3 := fun W => rA (digits.take 1) [101, 43] (by simp; omega) W; have ha4 := fun W => rA (digits.take 1 ++ [101, 43]) (Lib.itoa (h - 1)) (by simp; omega) W; have hd40 : digits.length <= 40 := by omega
       clear hA hB hC hn2 hz hh hhi; go_wp2_with fail; refine (HIT.out _ HF2.out).mono ?_; rintro e w3 ⟨rfl, hf3⟩; have HF3 := lh (HF2.out.trans hf3); clear hf3; go_wp2_with fail; exact HQ.out _ _ ⟨by rw [HE.out]; simp [], HF3.out⟩
    ·have hl : h < -5 := by
      by_cases h1 : 1 <= h
      ·exact absurd ⟨h1, by omega⟩ hB
      ·by_cases h5 : -5 <= h
       ·exact absurd ⟨h5, by omega⟩ hC
       ·omega
     have d1 : decide ((s.size : Int) <= h) = false := dF (by omega)
     have d3 : decide (1 <= h) = false := dF (by omega)
     have d4 : decide (-5 <= h) = false := dF (by omega)
     have d6 : decide (0 < h) = false := dF (by omega)
     have hp : ¬ 0 < h := by omega
     by_cases hn2 : 1 < (s.size : Int)
     ·have d7 : decide (1 < (s.size : Int)) = true := decide_eq_true hn2
      have HE : Hid (Dcm.written ⟨neg, digits, exp⟩ = (digits.take 1 ++ 46 :: digits.drop 1) ++ [101] ++ Lib.itoa (h - 1)) := lh (by
       unfold Dcm.written
       simp only
       rw [HHD.out, <- HZ.out, if_neg hA, if_neg hB, if_neg hC, if_pos hn2, if_neg hp])
      have ha1 := fun W => rA [46] (digits.drop 1) (by simp; omega) W; have ha2 := fun W => rA (digits.take 1) (46 :: digits.drop 1) (by simp; omega) W; have ha3 := fun W => rA (digits.take 1 ++ 46 :: digits.drop 1) [101] (by simp; omega) W; have ha4 := fun W => rA ((digits.take 1 ++ 46 :: digits.drop 1) ++ [101]) (Lib.itoa (h - 1)) (by simp; omega) W; have hd40 : digits.length <= 40 := by omega
      clear hA hB hC hn2 hz hh hhi; go_wp2_with fail; refine (HIT.out _ HF2.out).mono ?_; rintro e w3 ⟨rfl, hf3⟩; have HF3 := lh (HF2.out.trans hf3); clear hf3; go_wp2_with fail; exact HQ.out _ _ ⟨by rw [HE.out]; simp [nF], HF3.out⟩
     ·have d7 : decide (1 < (s.size : Int)) = false := decide_eq_false hn2
      have HE : Hid (Dcm.written ⟨neg, digits, exp⟩ = digits.take 1 ++ [101] ++ Lib.itoa (h - 1)) := lh (by
       unfold Dcm.written
       simp only
       rw [HHD.out, <- HZ.out, if_neg hA, if_neg hB, if_neg hC, if_neg hn2, if_neg hp, List.append_nil])
      have ha3 := fun W => rA (digits.take 1) [101] (by simp; omega) W; have ha4 := fun W => rA (digits.take 1 ++ [101]) (Lib.itoa (h - 1)) (by simp; omega) W; have hd40 : digits.length <= 40 := by omega
      clear hA hB hC hn2 hz hh hhi; go_wp2_with fail; refine (HIT.out _ HF2.out).mono ?_; rintro e w3 ⟨rfl, hf3⟩; have HF3 := lh (HF2.out.trans hf3); clear hf3; go_wp2_with fail; exact HQ.out _ _ ⟨by rw [HE.out]; simp [], HF3.out⟩
theorem dN (d : Dcm) (hsn : d.sane = true) (hne : d.digits ≠ []) : d.written.length <= 500 := by
 have hsn' := hsn; unfold Dcm.sane at hsn'; rw [if_neg hne] at hsn'; simp only [Bool.and_eq_true, decide_eq_true_eq] at hsn'; obtain ⟨⟨⟨⟨hl40, -⟩, hh⟩, -⟩, -⟩ := hsn'; have hi := Lib.itoa_length_le (d.high - 1) (by omega) (by omega); unfold Dcm.written zA
 simp only
 split
 ·simp; omega
 ·split
  ·simp; omega
  ·split
   ·simp; omega
   ·have : (if 0 < d.high then ([101, 43] : List UInt8) else [101]).length <= 2 := by split <;> decide
    have h2 : (if 1 < (d.digits.length : Int) then 46 :: d.digits.drop 1 else []).length <= 41 := by split <;> simp <;> omega
    simp only [List.length_append, List.length_take]; omega
theorem aBi {w : World} (hg : nI w) (d : Dcm) (hl : d.digits.length <= 140737488355328) (h1 : -9223372036854775808 <= d.exp) (h2 : d.exp <= 9223372036854775807) : RV 181 #[jC d] w (.string ⟨d.text.toArray⟩) := by
 refine cA fun R HQ => ?_; have HSN := lh (fun W => jJ (w := W) d hl h1 h2); have HWR := lh (fun W (hW : Fr [] w W) => nZ (w := W) (hg.fr hW) d); have hwl := dN d; obtain ⟨sn, hsn⟩ : ∃ sn, d.sane = sn := ⟨_, rfl⟩; have HT : Hid (d.text = if sn = false then [] else if d.digits = [] then [48] else if d.neg = true then 45 :: d.written else d.written) := lh (by unfold Dcm.text; rw [hsn]); rw [hsn] at HSN HWR hwl; rw [HT.out] at HQ; obtain ⟨neg, digits, exp⟩ := d; obtain ⟨wr, hwr⟩ : ∃ x, Dcm.written ⟨neg, digits, exp⟩ = x := ⟨_, rfl⟩; rw [hwr] at HQ HWR hwl; unfold jC S8 at HSN HWR ⊢
 simp only at HSN HWR HQ hl hwl ⊢
 obtain ⟨s, hs⟩ : ∃ s : ByteArray, s = ⟨digits.toArray⟩ := ⟨_, rfl⟩; have hsb : aA s = digits := by rw [hs]; rfl
 have hnil := dG s; rw [hsb] at hnil; rw [<- hs] at HSN HWR ⊢; have HC1 : Hid ((Tryz.prog.info? 93).map (·.size) = some ([.bool neg, .string s, .int .i64 exp] : List Value).length) := lh aEy; clear hs hsb hsn HT hg hwr hl h1 h2
 go_enter Tryz.func181, Tryz.ntmps181
 go_wp2_with (with_reducible refine kA rfl 93 (.tmp 0) rfl [.bool neg, .string s, .int .i64 exp] rfl ?_)
 intro w0 hb0 hf0 hz0; have HF0 := lh hf0; have HB0 := lh hb0; clear hf0 hz0 hb0
 go_wp2_with (with_reducible refine tA rfl 93 (.tmp 1) rfl rfl HB0.out Tryz.underlying93 rfl HC1.out ?_)
 refine (HSN.out _).mono ?_; rintro e w1 ⟨rfl, hf1⟩; have HF1 := lh (HF0.out.trans hf1); have HB1 := lh (HB0.out.fr hf1); have c0 := HB1.out.at_ (i := 0) rfl; have c1 := HB1.out.at_ (i := 1) rfl; clear hf1 HSN
 cases sn with
 | false =>
  clear HWR hwl; go_wp2_with fail; exact HQ.out _ _ ⟨rfl, HF1.out⟩
 | true =>
  by_cases hd : digits = []
  ·rw [if_neg (by simp), if_pos hd] at HQ; rw [hd, show (([] : List UInt8).isEmpty) = true from rfl] at hnil; clear HWR hwl hd; go_wp2_with fail; exact HQ.out _ _ ⟨rfl, HF1.out⟩
  ·rw [if_neg (by simp), if_neg hd] at HQ; rw [show digits.isEmpty = false by simpa using hd] at hnil; have hwr2 := hwl rfl hd; have HW := lh (HWR.out w1 HF1.out rfl hd); clear HWR hwl hd
   cases neg with
   | true =>
    go_wp2_with (with_reducible refine tA rfl 93 (.tmp 1) rfl rfl HB1.out Tryz.underlying93 rfl HC1.out ?_)
    refine HW.out.mono ?_; rintro e w2 ⟨rfl, hf2⟩; have HF2 := lh (HF1.out.trans hf2); clear hf2; go_wp2_with fail; exact HQ.out _ _ ⟨by simp [nF], HF2.out⟩
   | false =>
    go_wp2_with (with_reducible refine tA rfl 93 (.tmp 1) rfl rfl HB1.out Tryz.underlying93 rfl HC1.out ?_)
    refine HW.out.mono ?_; rintro e w2 ⟨rfl, hf2⟩; have HF2 := lh (HF1.out.trans hf2); clear hf2; go_wp2_with fail; exact HQ.out _ _ ⟨by simp, HF2.out⟩
theorem lX : (Tryz.prog.info? 9).map (fun i => (i.zero, i.size, i.bytes)) = some (some (.string { data := #[] }), 1, 16) := by kernel_rfl
def SV (l : List UInt8) : Value := .string ⟨l.toArray⟩
def aEz {α : Type} (t : α -> List UInt8) (l : List α) (ln : Nat) (w : World) (j : Nat) (v7 v12 : Value) (wr : World) : Prop :=
 ∃ k : Nat, k + j = ln /\ v12 = .int .i64 (k : Int) /\ wr.ownsRow 0 9 1 v7 (l.take k).length ((l.take k).map fun x => SV (t x)) /\ (∀ g, v7.ownBlock = some g -> w.heap.size <= g) /\ Fr [] w wr
theorem fP {α : Type} {w : World} {g : Nat} (l : List α) (t : α -> List UInt8) (sep : List UInt8) {A : Option Addr} {c ln : Nat} (hlen : (Lib.join (l.map t) sep).length <= 100000000) (hbig : ln <= 1000000) (hln : l.length = ln) (ho : w.ownsRow g 9 1 (.slice A l.length c) l.length (l.map fun x => SV (t x))) :
  RV 58 #[.slice A l.length c, .string ⟨sep.toArray⟩] w (.string ⟨(Lib.join (l.map t) sep).toArray⟩) := by
 have hm : ∀ l : List α, (l.map fun x => (⟨(t x).toArray⟩ : ByteArray)).map (·.data.toList) = l.map t := fun l => by
  rw [List.map_map]
  apply List.map_congr_left
  intro x _
  rfl
 by_cases h0 : 0 < l.length
 ·obtain ⟨b, hv, hcell⟩ := rK ho h0; subst hv; have hlt : b < w.heap.size := wO ho b rfl; have hcap := zB ho; obtain ⟨A', c', hv', hc', _⟩ := hcap; injection hv' with e1 e2 e3; subst e3
  have h := Tryz.strings_Join b 0 c (l.map fun x => (⟨(t x).toArray⟩ : ByteArray)) ⟨sep.toArray⟩ w (fun j x hx => by
   rw [List.getElem?_map] at hx; obtain ⟨y, hy, rfl⟩ := Option.map_eq_some_iff.1 hx; have := hcell j (SV (t y)) (by rw [List.getElem?_map, hy]; rfl); rw [Nat.zero_add]; exact this) hlt (by simp; omega) (by simpa using hc') (by rw [hm]; exact Nat.le_trans hlen (by decide))
  rw [hm, List.length_map] at h; refine h.mono ?_; rintro e w' ⟨rfl, hb⟩; exact ⟨rfl, Fr.of_below hb []⟩
 ·have hl0 : l = [] := List.eq_nil_of_length_eq_zero (by omega); subst hl0; refine (Tryz.strings_Join_none A c ⟨sep.toArray⟩ w).mono ?_; rintro e w' ⟨rfl, rfl⟩; exact ⟨rfl, Fr.refl _ _⟩
theorem aJ {w : World} {N : Nat -> Prop} {l : List Xpr} {A : Option Addr} {n cp : Nat} (h : CAt w N (.rows 13 (l.map Xpr.cells)) (.slice A n cp)) (hbig : n <= 1000000) (sep : List UInt8) {f : FuncId} {first cap : Array Value} {all : Value -> Array Value} (hall : ∀ v, first.push v ++ cap = all v)
  (he : ∀ v w, (callFunc f (all v)).run Tryz.prog w = .ok (.enter f (all v)) w) (t : Xpr -> List UInt8) (hlen : (Lib.join (l.map t) sep).length <= 100000000)
  (hp : ∀ (x : Xpr), x ∈ l -> ∀ (w1 : World) (cs : List Value), Fr [] w w1 -> fA w1 N x.cells cs -> Calls Tryz.prog f (all (.agg cs.toArray)) w1 fun e w' => e = .returned (.string ⟨(t x).toArray⟩) /\ Fr [] w1 w') :
  RV 95 #[.slice A n cp, .string ⟨sep.toArray⟩, .func (.func f) first cap] w (.string ⟨(Lib.join (l.map t) sep).toArray⟩) := by
 refine cA fun R HQ => ?_; obtain ⟨A', c', g, off, hv, hA, hrow⟩ := h.row; injection hv with e1 e2 e3; subst e1 e2 e3; have hll : (l.map Xpr.cells).length = l.length := by simp
 rw [hll] at hA h hbig ⊢; have HROW := lh hrow; have HA := lh hA; have HP := lh hp; have HALL := lh hall; have HEN := lh he; have HJL := lh hlen; obtain ⟨ln, hln⟩ : ∃ ln, l.length = ln := ⟨_, rfl⟩; have HLN := lh hln; rw [hln] at hbig ⊢; obtain ⟨iu, hi, hz', hsz', hby⟩ := info_parts lX; have k1 : 0 < 1 := by omega
 clear hrow hA hp hall h hll hln he hlen
 go_enter Tryz.func95, Tryz.ntmps95
 go_wp2_with fail
 go_loopg [7, 12] ln (fun j v7 v12 wr => aEz t l ln w j v7 v12 wr)
 case atStart => exact ⟨0, by omega, rfl, by simpa using qG _ _ _ _, by simp [Value.ownBlock], Fr.refl _ _⟩
 case round =>
  obtain ⟨k, hk, rfl, ho, hog, hf⟩ := hrel; have HO := lh ho; have HOG := lh hog; have HF := lh hf; clear ho hog hf; have hkl9 : (l.take k).length = k := by rw [List.length_take, HLN.out]; omega
  by_cases hkl : k < ln
  ·obtain ⟨x, hx⟩ : ∃ x, l[k]? = some x := gx (by rw [HLN.out]; exact hkl); obtain ⟨rfl, hNg⟩ := HA.out (by have := HLN.out; omega); obtain ⟨_, cs, hcs, hcell⟩ := HROW.out k x.cells (by rw [List.getElem?_map, hx]; rfl); have hcl : cs.length = 13 := hcs.1.trans (lA x); have hc1 : (Tryz.prog.info? 109).map (·.size) = some cs.length := by rw [hcl]; exact nB
   have hc2 : zx.length = cs.length := by rw [hcl]; rfl
   have hra : wr.rangeAt g (off + k * 13) cs := fun j u hj => by
    have := hcell j u hj; rw [show off + 13 * k + j = off + k * 13 + j by rw [Nat.mul_comm]] at this; exact bA HF.out this
   have HC1 := lh hc1; have HC2 := lh hc2; have HRA := lh hra; have HCS := lh hcs; have HONE := lh hcs.one; have HX := lh hx
   have htk : l.take (k + 1) = l.take k ++ [x] := by
    obtain ⟨hk', hx'⟩ := List.getElem?_eq_some_iff.1 hx; rw [List.take_succ_eq_append_getElem hk', hx']
   have HTK := lh htk; have hl0 : 0 < ln := by omega
   clear hcs hcell hcl hc1 hc2 hra hx htk; have hen := HEN.out (.agg cs.toArray); have hal := HALL.out (.agg cs.toArray)
   go_wp2_with (first
    | (with_reducible refine wpList_load_mid rfl 109 (.tmp 14) rfl g (off + k * 13) rfl cs _ HRA.out Tryz.underlying109 rfl HC1.out ?_)
    | (with_reducible refine xD rfl rfl 109 (.tmp 15) rfl rfl rfl rfl (.agg zx.toArray) zx uG vG cs rfl rfl HC1.out HC2.out HONE.out ?_))
   intro w4 hb4 hf4 hz4; have HB4 := lh hb4; have HF4 := lh (HF.out.trans hf4); have HO4 := lh (vB HO.out hf4 (by simp)); have HC := lh (HP.out x (List.mem_of_getElem? HX.out) w4 cs HF4.out (HCS.out.fr HF4.out)); clear hb4 hf4
   go_wp2_with (with_reducible refine tA rfl 109 (.tmp 9) rfl rfl HB4.out Tryz.underlying109 rfl HC1.out ?_)
   refine HC.out.mono ?_; rintro e w5 ⟨rfl, hf5⟩; have HF5 := lh (HF4.out.trans hf5); have HO5 := lh (vB HO4.out hf5 (by simp)); obtain ⟨tx, htx⟩ : ∃ tx : ByteArray, tx = ⟨(t x).toArray⟩ := ⟨_, rfl⟩; rw [<- htx]; have HTX := lh htx; clear hf5 hen hal htx HC HB4; have hfa : Fr [] w5 (w5.alloc (.cells #[.string tx] 9)) := (Fr.refl [] w5).alloc _; have hba := Blk.new w5 9 [.string tx]; have hza : (w5.alloc (.cells #[.string tx] 9)).heap.size = w5.heap.size + 1 := by simp
   have hoa := vB HO5.out hfa (by simp); have hcl6 : ([.string tx] : List Value).length = 1 * 1 := rfl; have hat6 : ∀ (j : Nat) (u : Value), ([.string tx] : List Value)[j]? = some u -> (w5.alloc (.cells #[.string tx] 9)).cell? ((⟨w5.heap.size, 0, none⟩ : Addr).add j) = some u := fun j u hu => by rw [Addr.add_mid, Nat.zero_add]; exact hba.at_ hu
   have hone6 : ∀ u ∈ ([.string tx] : List Value), u.oneCell' = true := by intro u hu; simp at hu; subst hu; rfl
   have hml6 : (l.take k).length + 1 <= maxLen := by rw [hkl9]; unfold maxLen; omega
   have hbb6 : ((l.take k).length + 1) * 16 <= 140737488355328 := by rw [hkl9]; omega
   have HW6 : Hid (Fr [] w (w5.alloc (.cells #[.string tx] 9))) := lh (HF5.out.trans hfa); clear hfa hba
   go_wp2_with (with_reducible refine sF rfl (.tmp 16) (.tmp 20) rfl 9 1 16 Tryz.underlying43 hi hz' hsz' hby rfl k1 u7 (l.take k).length ((l.take k).map fun x => SV (t x)) rfl hoa ⟨w5.heap.size, 0, none⟩ 1 1 [.string tx] rfl hcl6 hat6 hone6 Nat.one_pos hml6 hbb6 (w5.heap.size + 1) hza ?_)
   intro g7 cap w7 ho7 hf7 hat7; have hF7 : Fr [] w w7 := HW6.out.trans hf7 (fun x hx => .inr (HOG.out x (by simpa using hx)))
   have hg7 : w.heap.size <= g7 := by
    rcases hat7 with h | h
    ·exact HOG.out _ h
    ·have := HF5.out.size; omega
   have HO7 : Hid (w7.ownsRow 0 9 1 (.slice (some ⟨g7, 0, none⟩) (k + 1) cap) (l.take (k + 1)).length ((l.take (k + 1)).map fun x => SV (t x))) := lh (by
    rw [HTK.out, List.map_append, List.length_append, hkl9]; rw [HTX.out, <- List.map_take] at ho7; exact ho7)
   have HF7 := lh hF7; have HG7 := lh hg7; clear ho7 hf7 hat7 hF7 hg7 hza hoa hcl6 hat6 hone6 hml6 hbb6; go_wp2_with fail
   go_roundg (ln - (k + 1))
   case measure => omega
   case rel => exact ⟨k + 1, by omega, by go_num, HO7.out, by simp [Value.ownBlock]; exact HG7.out, HF7.out⟩
  ·have hte : l.take k = l := List.take_of_length_le (by rw [HLN.out]; omega); have hO := HO.out; rw [hte] at hO; obtain ⟨oA, oc, hov, hoc, _⟩ := zB hO; subst hov; have hO2 := hO; have hJ := fP (w := wr) (g := 0) l t sep HJL.out hbig HLN.out hO; have HJ := lh hJ; have hll := HLN.out; rw [hll] at HJ ⊢; clear hO hO2 hte hoc hkl9 hJ hll HO; go_wp2_with fail; refine HJ.out.mono ?_; rintro e w2 ⟨rfl, hf2⟩; have HF2 := lh (HF.out.trans hf2); clear hf2; go_wp2_with fail; exact HQ.out _ _ ⟨rfl, HF2.out⟩
theorem aCO {w : World} {N : Nat -> Prop} {l : List Slr} {A : Option Addr} {n cp : Nat} (h : CAt w N (.rows 10 (l.map Slr.cells)) (.slice A n cp)) (hbig : n <= 1000000) (sep : List UInt8) {f : FuncId} {first cap : Array Value} {all : Value -> Array Value} (hall : ∀ v, first.push v ++ cap = all v)
  (he : ∀ v w, (callFunc f (all v)).run Tryz.prog w = .ok (.enter f (all v)) w) (t : Slr -> List UInt8) (hlen : (Lib.join (l.map t) sep).length <= 100000000)
  (hp : ∀ (x : Slr), x ∈ l -> ∀ (w1 : World) (cs : List Value), Fr [] w w1 -> fA w1 N x.cells cs -> Calls Tryz.prog f (all (.agg cs.toArray)) w1 fun e w' => e = .returned (.string ⟨(t x).toArray⟩) /\ Fr [] w1 w') :
  RV 59 #[.slice A n cp, .string ⟨sep.toArray⟩, .func (.func f) first cap] w (.string ⟨(Lib.join (l.map t) sep).toArray⟩) := by
 refine cA fun R HQ => ?_; obtain ⟨A', c', g, off, hv, hA, hrow⟩ := h.row; injection hv with e1 e2 e3; subst e1 e2 e3; have hll : (l.map Slr.cells).length = l.length := by simp
 rw [hll] at hA h hbig ⊢; have HROW := lh hrow; have HA := lh hA; have HP := lh hp; have HALL := lh hall; have HEN := lh he; have HJL := lh hlen; obtain ⟨ln, hln⟩ : ∃ ln, l.length = ln := ⟨_, rfl⟩; have HLN := lh hln; rw [hln] at hbig ⊢; obtain ⟨iu, hi, hz', hsz', hby⟩ := info_parts lX; have k1 : 0 < 1 := by omega
 clear hrow hA hp hall h hll hln he hlen
 go_enter Tryz.func59, Tryz.ntmps59
 go_wp2_with fail
 go_loopg [7, 12] ln (fun j v7 v12 wr => aEz t l ln w j v7 v12 wr)
 case atStart => exact ⟨0, by omega, rfl, by simpa using qG _ _ _ _, by simp [Value.ownBlock], Fr.refl _ _⟩
 case round =>
  obtain ⟨k, hk, rfl, ho, hog, hf⟩ := hrel; have HO := lh ho; have HOG := lh hog; have HF := lh hf; clear ho hog hf; have hkl9 : (l.take k).length = k := by rw [List.length_take, HLN.out]; omega
  by_cases hkl : k < ln
  ·obtain ⟨x, hx⟩ : ∃ x, l[k]? = some x := gx (by rw [HLN.out]; exact hkl); obtain ⟨rfl, hNg⟩ := HA.out (by have := HLN.out; omega); obtain ⟨_, cs, hcs, hcell⟩ := HROW.out k x.cells (by rw [List.getElem?_map, hx]; rfl); have hcl : cs.length = 10 := hcs.1.trans (dC x); have hc1 : (Tryz.prog.info? 50).map (·.size) = some cs.length := by rw [hcl]; exact lH
   have hc2 : zs.length = cs.length := by rw [hcl]; rfl
   have hra : wr.rangeAt g (off + k * 10) cs := fun j u hj => by
    have := hcell j u hj; rw [show off + 10 * k + j = off + k * 10 + j by rw [Nat.mul_comm]] at this; exact bA HF.out this
   have HC1 := lh hc1; have HC2 := lh hc2; have HRA := lh hra; have HCS := lh hcs; have HONE := lh hcs.one; have HX := lh hx
   have htk : l.take (k + 1) = l.take k ++ [x] := by
    obtain ⟨hk', hx'⟩ := List.getElem?_eq_some_iff.1 hx; rw [List.take_succ_eq_append_getElem hk', hx']
   have HTK := lh htk; have hl0 : 0 < ln := by omega
   clear hcs hcell hcl hc1 hc2 hra hx htk; have hen := HEN.out (.agg cs.toArray); have hal := HALL.out (.agg cs.toArray)
   go_wp2_with (first
    | (with_reducible refine wpList_load_mid rfl 50 (.tmp 14) rfl g (off + k * 10) rfl cs _ HRA.out Tryz.underlying50 rfl HC1.out ?_)
    | (with_reducible refine xD rfl rfl 50 (.tmp 15) rfl rfl rfl rfl (.agg zs.toArray) zs aEq aEr cs rfl rfl HC1.out HC2.out HONE.out ?_))
   intro w4 hb4 hf4 hz4; have HB4 := lh hb4; have HF4 := lh (HF.out.trans hf4); have HO4 := lh (vB HO.out hf4 (by simp)); have HC := lh (HP.out x (List.mem_of_getElem? HX.out) w4 cs HF4.out (HCS.out.fr HF4.out)); clear hb4 hf4
   go_wp2_with (with_reducible refine tA rfl 50 (.tmp 9) rfl rfl HB4.out Tryz.underlying50 rfl HC1.out ?_)
   refine HC.out.mono ?_; rintro e w5 ⟨rfl, hf5⟩; have HF5 := lh (HF4.out.trans hf5); have HO5 := lh (vB HO4.out hf5 (by simp)); obtain ⟨tx, htx⟩ : ∃ tx : ByteArray, tx = ⟨(t x).toArray⟩ := ⟨_, rfl⟩; rw [<- htx]; have HTX := lh htx; clear hf5 hen hal htx HC HB4; have hfa : Fr [] w5 (w5.alloc (.cells #[.string tx] 9)) := (Fr.refl [] w5).alloc _; have hba := Blk.new w5 9 [.string tx]; have hza : (w5.alloc (.cells #[.string tx] 9)).heap.size = w5.heap.size + 1 := by simp
   have hoa := vB HO5.out hfa (by simp); have hcl6 : ([.string tx] : List Value).length = 1 * 1 := rfl; have hat6 : ∀ (j : Nat) (u : Value), ([.string tx] : List Value)[j]? = some u -> (w5.alloc (.cells #[.string tx] 9)).cell? ((⟨w5.heap.size, 0, none⟩ : Addr).add j) = some u := fun j u hu => by rw [Addr.add_mid, Nat.zero_add]; exact hba.at_ hu
   have hone6 : ∀ u ∈ ([.string tx] : List Value), u.oneCell' = true := by intro u hu; simp at hu; subst hu; rfl
   have hml6 : (l.take k).length + 1 <= maxLen := by rw [hkl9]; unfold maxLen; omega
   have hbb6 : ((l.take k).length + 1) * 16 <= 140737488355328 := by rw [hkl9]; omega
   have HW6 : Hid (Fr [] w (w5.alloc (.cells #[.string tx] 9))) := lh (HF5.out.trans hfa); clear hfa hba
   go_wp2_with (with_reducible refine sF rfl (.tmp 16) (.tmp 20) rfl 9 1 16 Tryz.underlying43 hi hz' hsz' hby rfl k1 u7 (l.take k).length ((l.take k).map fun x => SV (t x)) rfl hoa ⟨w5.heap.size, 0, none⟩ 1 1 [.string tx] rfl hcl6 hat6 hone6 Nat.one_pos hml6 hbb6 (w5.heap.size + 1) hza ?_)
   intro g7 cap w7 ho7 hf7 hat7; have hF7 : Fr [] w w7 := HW6.out.trans hf7 (fun x hx => .inr (HOG.out x (by simpa using hx)))
   have hg7 : w.heap.size <= g7 := by
    rcases hat7 with h | h
    ·exact HOG.out _ h
    ·have := HF5.out.size; omega
   have HO7 : Hid (w7.ownsRow 0 9 1 (.slice (some ⟨g7, 0, none⟩) (k + 1) cap) (l.take (k + 1)).length ((l.take (k + 1)).map fun x => SV (t x))) := lh (by
    rw [HTK.out, List.map_append, List.length_append, hkl9]; rw [HTX.out, <- List.map_take] at ho7; exact ho7)
   have HF7 := lh hF7; have HG7 := lh hg7; clear ho7 hf7 hat7 hF7 hg7 hza hoa hcl6 hat6 hone6 hml6 hbb6; go_wp2_with fail
   go_roundg (ln - (k + 1))
   case measure => omega
   case rel => exact ⟨k + 1, by omega, by go_num, HO7.out, by simp [Value.ownBlock]; exact HG7.out, HF7.out⟩
  ·have hte : l.take k = l := List.take_of_length_le (by rw [HLN.out]; omega); have hO := HO.out; rw [hte] at hO; obtain ⟨oA, oc, hov, hoc, _⟩ := zB hO; subst hov; have hO2 := hO; have hJ := fP (w := wr) (g := 0) l t sep HJL.out hbig HLN.out hO; have HJ := lh hJ; have hll := HLN.out; rw [hll] at HJ ⊢; clear hO hO2 hte hoc hkl9 hJ hll HO; go_wp2_with fail; refine HJ.out.mono ?_; rintro e w2 ⟨rfl, hf2⟩; have HF2 := lh (HF.out.trans hf2); clear hf2; go_wp2_with fail; exact HQ.out _ _ ⟨rfl, HF2.out⟩
def zgv : List Value := [.bool false, .slice none 0 0]
theorem aGP : (Tryz.prog.info? 54).map (·.zero) = some (some (.agg zgv.toArray)) := by kernel_rfl
theorem aFN : (Value.agg zgv.toArray).cells = zgv.toArray := rfl
theorem aCP {w : World} {N : Nat -> Prop} {l : List Sgm} {A : Option Addr} {n cp : Nat} (h : CAt w N (.rows 2 (l.map Sgm.cells)) (.slice A n cp)) (hbig : n <= 1000000) (sep : List UInt8) {f : FuncId} {first cap : Array Value} {all : Value -> Array Value} (hall : ∀ v, first.push v ++ cap = all v)
  (he : ∀ v w, (callFunc f (all v)).run Tryz.prog w = .ok (.enter f (all v)) w) (t : Sgm -> List UInt8) (hlen : (Lib.join (l.map t) sep).length <= 100000000)
  (hp : ∀ (x : Sgm), x ∈ l -> ∀ (w1 : World) (cs : List Value), Fr [] w w1 -> fA w1 N x.cells cs -> Calls Tryz.prog f (all (.agg cs.toArray)) w1 fun e w' => e = .returned (.string ⟨(t x).toArray⟩) /\ Fr [] w1 w') :
  RV 32 #[.slice A n cp, .string ⟨sep.toArray⟩, .func (.func f) first cap] w (.string ⟨(Lib.join (l.map t) sep).toArray⟩) := by
 refine cA fun R HQ => ?_; obtain ⟨A', c', g, off, hv, hA, hrow⟩ := h.row; injection hv with e1 e2 e3; subst e1 e2 e3; have hll : (l.map Sgm.cells).length = l.length := by simp
 rw [hll] at hA h hbig ⊢; have HROW := lh hrow; have HA := lh hA; have HP := lh hp; have HALL := lh hall; have HEN := lh he; have HJL := lh hlen; obtain ⟨ln, hln⟩ : ∃ ln, l.length = ln := ⟨_, rfl⟩; have HLN := lh hln; rw [hln] at hbig ⊢; obtain ⟨iu, hi, hz', hsz', hby⟩ := info_parts lX; have k1 : 0 < 1 := by omega
 clear hrow hA hp hall h hll hln he hlen
 go_enter Tryz.func32, Tryz.ntmps32
 go_wp2_with fail
 go_loopg [7, 12] ln (fun j v7 v12 wr => aEz t l ln w j v7 v12 wr)
 case atStart => exact ⟨0, by omega, rfl, by simpa using qG _ _ _ _, by simp [Value.ownBlock], Fr.refl _ _⟩
 case round =>
  obtain ⟨k, hk, rfl, ho, hog, hf⟩ := hrel; have HO := lh ho; have HOG := lh hog; have HF := lh hf; clear ho hog hf; have hkl9 : (l.take k).length = k := by rw [List.length_take, HLN.out]; omega
  by_cases hkl : k < ln
  ·obtain ⟨x, hx⟩ : ∃ x, l[k]? = some x := gx (by rw [HLN.out]; exact hkl); obtain ⟨rfl, hNg⟩ := HA.out (by have := HLN.out; omega); obtain ⟨_, cs, hcs, hcell⟩ := HROW.out k x.cells (by rw [List.getElem?_map, hx]; rfl); have hcl : cs.length = 2 := hcs.1.trans (qJ x); have hc1 : (Tryz.prog.info? 54).map (·.size) = some cs.length := by rw [hcl]; exact aEn
   have hc2 : zgv.length = cs.length := by rw [hcl]; rfl
   have hra : wr.rangeAt g (off + k * 2) cs := fun j u hj => by
    have := hcell j u hj; rw [show off + 2 * k + j = off + k * 2 + j by rw [Nat.mul_comm]] at this; exact bA HF.out this
   have HC1 := lh hc1; have HC2 := lh hc2; have HRA := lh hra; have HCS := lh hcs; have HONE := lh hcs.one; have HX := lh hx
   have htk : l.take (k + 1) = l.take k ++ [x] := by
    obtain ⟨hk', hx'⟩ := List.getElem?_eq_some_iff.1 hx; rw [List.take_succ_eq_append_getElem hk', hx']
   have HTK := lh htk; have hl0 : 0 < ln := by omega
   clear hcs hcell hcl hc1 hc2 hra hx htk; have hen := HEN.out (.agg cs.toArray); have hal := HALL.out (.agg cs.toArray)
   go_wp2_with (first
    | (with_reducible refine wpList_load_mid rfl 54 (.tmp 14) rfl g (off + k * 2) rfl cs _ HRA.out Tryz.underlying54 rfl HC1.out ?_)
    | (with_reducible refine xD rfl rfl 54 (.tmp 15) rfl rfl rfl rfl (.agg zgv.toArray) zgv aGP aFN cs rfl rfl HC1.out HC2.out HONE.out ?_))
   intro w4 hb4 hf4 hz4; have HB4 := lh hb4; have HF4 := lh (HF.out.trans hf4); have HO4 := lh (vB HO.out hf4 (by simp)); have HC := lh (HP.out x (List.mem_of_getElem? HX.out) w4 cs HF4.out (HCS.out.fr HF4.out)); clear hb4 hf4
   go_wp2_with (with_reducible refine tA rfl 54 (.tmp 9) rfl rfl HB4.out Tryz.underlying54 rfl HC1.out ?_)
   refine HC.out.mono ?_; rintro e w5 ⟨rfl, hf5⟩; have HF5 := lh (HF4.out.trans hf5); have HO5 := lh (vB HO4.out hf5 (by simp)); obtain ⟨tx, htx⟩ : ∃ tx : ByteArray, tx = ⟨(t x).toArray⟩ := ⟨_, rfl⟩; rw [<- htx]; have HTX := lh htx; clear hf5 hen hal htx HC HB4; have hfa : Fr [] w5 (w5.alloc (.cells #[.string tx] 9)) := (Fr.refl [] w5).alloc _; have hba := Blk.new w5 9 [.string tx]; have hza : (w5.alloc (.cells #[.string tx] 9)).heap.size = w5.heap.size + 1 := by simp
   have hoa := vB HO5.out hfa (by simp); have hcl6 : ([.string tx] : List Value).length = 1 * 1 := rfl; have hat6 : ∀ (j : Nat) (u : Value), ([.string tx] : List Value)[j]? = some u -> (w5.alloc (.cells #[.string tx] 9)).cell? ((⟨w5.heap.size, 0, none⟩ : Addr).add j) = some u := fun j u hu => by rw [Addr.add_mid, Nat.zero_add]; exact hba.at_ hu
   have hone6 : ∀ u ∈ ([.string tx] : List Value), u.oneCell' = true := by intro u hu; simp at hu; subst hu; rfl
   have hml6 : (l.take k).length + 1 <= maxLen := by rw [hkl9]; unfold maxLen; omega
   have hbb6 : ((l.take k).length + 1) * 16 <= 140737488355328 := by rw [hkl9]; omega
   have HW6 : Hid (Fr [] w (w5.alloc (.cells #[.string tx] 9))) := lh (HF5.out.trans hfa); clear hfa hba
   go_wp2_with (with_reducible refine sF rfl (.tmp 16) (.tmp 20) rfl 9 1 16 Tryz.underlying43 hi hz' hsz' hby rfl k1 u7 (l.take k).length ((l.take k).map fun x => SV (t x)) rfl hoa ⟨w5.heap.size, 0, none⟩ 1 1 [.string tx] rfl hcl6 hat6 hone6 Nat.one_pos hml6 hbb6 (w5.heap.size + 1) hza ?_)
   intro g7 cap w7 ho7 hf7 hat7; have hF7 : Fr [] w w7 := HW6.out.trans hf7 (fun x hx => .inr (HOG.out x (by simpa using hx)))
   have hg7 : w.heap.size <= g7 := by
    rcases hat7 with h | h
    ·exact HOG.out _ h
    ·have := HF5.out.size; omega
   have HO7 : Hid (w7.ownsRow 0 9 1 (.slice (some ⟨g7, 0, none⟩) (k + 1) cap) (l.take (k + 1)).length ((l.take (k + 1)).map fun x => SV (t x))) := lh (by
    rw [HTK.out, List.map_append, List.length_append, hkl9]; rw [HTX.out, <- List.map_take] at ho7; exact ho7)
   have HF7 := lh hF7; have HG7 := lh hg7; clear ho7 hf7 hat7 hF7 hg7 hza hoa hcl6 hat6 hone6 hml6 hbb6; go_wp2_with fail
   go_roundg (ln - (k + 1))
   case measure => omega
   case rel => exact ⟨k + 1, by omega, by go_num, HO7.out, by simp [Value.ownBlock]; exact HG7.out, HF7.out⟩
  ·have hte : l.take k = l := List.take_of_length_le (by rw [HLN.out]; omega); have hO := HO.out; rw [hte] at hO; obtain ⟨oA, oc, hov, hoc, _⟩ := zB hO; subst hov; have hO2 := hO; have hJ := fP (w := wr) (g := 0) l t sep HJL.out hbig HLN.out hO; have HJ := lh hJ; have hll := HLN.out; rw [hll] at HJ ⊢; clear hO hO2 hte hoc hkl9 hJ hll HO; go_wp2_with fail; refine HJ.out.mono ?_; rintro e w2 ⟨rfl, hf2⟩; have HF2 := lh (HF.out.trans hf2); clear hf2; go_wp2_with fail; exact HQ.out _ _ ⟨rfl, HF2.out⟩
def rF (n : Int) : Bool := decide (-9223372036854775808 <= n /\ n <= 9223372036854775807)
def Dcm.inR (d : Dcm) : Bool := rF d.exp && decide (d.digits.length <= 140737488355328)
theorem tF {w : World} {N : Nat -> Prop} {v : Vlu} {cs : List Value} (h : fA w N v.cells cs) : ∃ vl vm, cs = [.int .i64 v.kind, .bool v.b, .bool v.n.neg, .string ⟨v.n.digits.toArray⟩, .int .i64 v.n.exp, .string ⟨v.s.toArray⟩, vl, vm] /\ CAt w N v.l vl /\ CAt w N v.m vm := by
 obtain ⟨c1, rfl, h1⟩ := h.lf; obtain ⟨c2, rfl, h2⟩ := h1.lf; obtain ⟨c3, rfl, h3⟩ := h2.lf; obtain ⟨c4, rfl, h4⟩ := h3.lf; obtain ⟨c5, rfl, h5⟩ := h4.lf; obtain ⟨c6, rfl, h6⟩ := h5.lf; obtain ⟨vl, c7, rfl, k1, h7⟩ := h6.inv; obtain ⟨vm, c8, rfl, k2, h8⟩ := h7.inv; rw [h8.nil_inv]; exact ⟨vl, vm, rfl, k1, k2⟩
theorem wV (l : List UInt8) : l.length <= (qE l).length := by
 have h1 : ∀ c, 1 <= (aD c).length := fun c => of_decide_eq_true (wC (fun c => decide (1 <= (aD c).length)) (by decide +kernel) c)
 have h2 : ∀ l : List UInt8, l.length <= (l.flatMap aD).length := by
  intro l
  induction l with
  | nil => simp
  | cons c l ih => have := h1 c; rw [List.flatMap_cons, List.length_append, List.length_cons]; omega
 have := h2 l; unfold qE; simp only [List.cons_append, List.length_cons, List.length_append, List.length_nil]; omega
theorem oZ {w : World} {N : Nat -> Prop} (hg : nI w) {v : Vlu} {cs : List Value} (h : fA w N v.cells cs) (hin : v.n.inR = true) (hlen : v.text.length <= 100000000) : RV 146 #[.agg cs.toArray] w (.string ⟨v.text.toArray⟩) := by
 refine cA fun R HQ => ?_; obtain ⟨vl, vm, rfl, -, -⟩ := tF h; obtain ⟨kind, b, n, s, l, m⟩ := v
 simp only at h hin ⊢
 unfold Dcm.inR rF at hin; simp only [Bool.and_eq_true, decide_eq_true_eq] at hin; have HDP := lh (fun W (hW : Fr [] w W) => aBi (w := W) (hg.fr hW) n hin.2 hin.1.1 hin.1.2); have HT : Hid (Vlu.text ⟨kind, b, n, s, l, m⟩ = if kind = 0 then jM else if kind = 1 then (if b = true then tK else mI) else if kind = 2 then n.text else qE s) := lh rfl; rw [HT.out] at HQ hlen; unfold jC S8 at HDP; generalize n.text = nt at *; obtain ⟨neg, digits, exp⟩ := n
 simp only at HDP ⊢
 generalize (⟨digits.toArray⟩ : ByteArray) = ds at *; clear h hin HT hg
 go_enter Tryz.func146, Tryz.ntmps146
 go_wp2_with (with_reducible refine kA rfl 107 (.tmp 0) rfl [.int .i64 kind, .bool b, .bool neg, .string ds, .int .i64 exp, .string ⟨s.toArray⟩, vl, vm] rfl ?_)
 intro w0 hb0 hf0 hz0; have c0 := hb0.at_ (i := 0) rfl; have c1 := hb0.at_ (i := 1) rfl; have c2 := hb0.at_ (i := 2) rfl; have c3 := hb0.at_ (i := 3) rfl; have c4 := hb0.at_ (i := 4) rfl; have c5 := hb0.at_ (i := 5) rfl; have HF0 := lh hf0; clear hb0 hf0 hz0
 by_cases h0 : kind = 0
 ·have d0 : (kind == 0) = true := by simpa using h0
  rw [if_pos h0] at HQ; clear h0 hlen; go_wp2_with fail; exact HQ.out _ _ ⟨rfl, HF0.out⟩
 ·have d0 : (kind == 0) = false := by simpa using h0
  rw [if_neg h0] at HQ hlen
  by_cases h1 : kind = 1
  ·have d1 : (kind == 1) = true := by simpa using h1
   rw [if_pos h1] at HQ; clear h0 h1 hlen; go_wp2_with fail; refine (Tryz.strconv_FormatBool b _).mono ?_; rintro e w1 ⟨rfl, rfl⟩; go_wp2_with fail; exact HQ.out _ _ ⟨by cases b <;> rfl, HF0.out⟩
  ·have d1 : (kind == 1) = false := by simpa using h1
   rw [if_neg h1] at HQ hlen
   by_cases h2 : kind = 2
   ·have d2 : (kind == 2) = true := by simpa using h2
    rw [if_pos h2] at HQ; clear h0 h1 h2 hlen; go_wp2_with fail; refine (HDP.out _ HF0.out).mono ?_; rintro e w1 ⟨rfl, hf1⟩; have HF1 := lh (HF0.out.trans hf1); clear hf1; go_wp2_with fail; exact HQ.out _ _ ⟨rfl, HF1.out⟩
   ·have d2 : (kind == 2) = false := by simpa using h2
    rw [if_neg h2] at HQ hlen; have hql := wV s; have HQT := lh (fun W => aBT (w := W) ⟨s.toArray⟩ (by show s.toArray.size <= _; simp; omega)); clear h0 h1 h2 hlen hql; go_wp2_with fail; refine (HQT.out _).mono ?_; rintro e w1 ⟨rfl, hf1⟩; have HF1 := lh (HF0.out.trans hf1); clear hf1; go_wp2_with fail; exact HQ.out _ _ ⟨rfl, HF1.out⟩
def slP (has : Bool × Bool × Bool) (s : Int × Int × Int) : Nat -> List UInt8
 | 0 => []
 | 1 => if has.1 = true then Lib.itoa s.1 else []
 | 2 => (if has.1 = true then Lib.itoa s.1 else []) ++ 58 :: (if has.2.1 = true then Lib.itoa s.2.1 else [])
 | _ => (if has.1 = true then Lib.itoa s.1 else []) ++ 58 :: (if has.2.1 = true then Lib.itoa s.2.1 else []) ++ (if has.2.2 = true then 58 :: Lib.itoa s.2.2 else [])
theorem aFO (has : Bool × Bool × Bool) (s : Int × Int × Int) (h0 : (Lib.itoa s.1).length <= 21) (h1 : (Lib.itoa s.2.1).length <= 21) (h2 : (Lib.itoa s.2.2).length <= 21) (k : Nat) : (slP has s k).length <= 70 := by
 have e0 : (if has.1 = true then Lib.itoa s.1 else []).length <= 21 := by split; exact h0; exact Nat.zero_le _
 have e1 : (if has.2.1 = true then Lib.itoa s.2.1 else []).length <= 21 := by split; exact h1; exact Nat.zero_le _
 have e2 : (if has.2.2 = true then 58 :: Lib.itoa s.2.2 else []).length <= 22 := by split; exact Nat.succ_le_succ h2; exact Nat.zero_le _
 match k with
 | 0 => exact Nat.zero_le _
 | 1 => exact Nat.le_trans e0 (by decide)
 | 2 =>
  show ((if has.1 = true then Lib.itoa s.1 else []) ++ 58 :: (if has.2.1 = true then Lib.itoa s.2.1 else [])).length <= 70
  rw [List.length_append, List.length_cons]; omega
 | k + 3 =>
  show ((if has.1 = true then Lib.itoa s.1 else []) ++ 58 :: (if has.2.1 = true then Lib.itoa s.2.1 else []) ++ (if has.2.2 = true then 58 :: Lib.itoa s.2.2 else [])).length <= 70
  rw [List.length_append, List.length_append, List.length_cons]; omega
theorem fG {w : World} {N : Nat -> Prop} {x : Slr} {cs : List Value} (h : fA w N x.cells cs) : ∃ A c, cs = [.int .i64 x.what, .string ⟨x.name.toArray⟩, .int .i64 x.at_, .bool x.has.1, .bool x.has.2.1, .bool x.has.2.2, .int .i64 x.s.1, .int .i64 x.s.2.1, .int .i64 x.s.2.2, .slice A x.f.length c] /\ CAt w N (.rows 13 (x.f.map Xpr.cells)) (.slice A x.f.length c) := by
 obtain ⟨what, name, at_, has, s, f⟩ := x; obtain ⟨c1, rfl, h1⟩ := h.lf; obtain ⟨c2, rfl, h2⟩ := h1.lf; obtain ⟨c3, rfl, h3⟩ := h2.lf; obtain ⟨c4, rfl, h4⟩ := h3.lf; obtain ⟨c5, rfl, h5⟩ := h4.lf; obtain ⟨c6, rfl, h6⟩ := h5.lf; obtain ⟨c7, rfl, h7⟩ := h6.lf; obtain ⟨c8, rfl, h8⟩ := h7.lf; obtain ⟨c9, rfl, h9⟩ := h8.lf; obtain ⟨vl, c10, rfl, k1, h10⟩ := h9.inv; rw [pB] at k1; obtain ⟨A, c, rfl, _⟩ := k1.slice; rw [h10.nil_inv]; exact ⟨A, c, by simp [Slr.what, Slr.name, Slr.at_, Slr.has, Slr.s, Slr.f, S8], by simpa [Slr.f] using k1⟩
def SlRel (has : Bool × Bool × Bool) (s : Int × Int × Int) (w0 : World) (b : Nat) (j : Nat) (v : Value) (wr : World) : Prop :=
 ∃ k : Nat, k + j = 3 /\ v = .int .i64 (k : Int) /\ cN w0 wr b (slP has s k)
theorem gP (n : Int) (h : rF n = true) : (Lib.itoa n).length <= 21 := by
 unfold rF at h; have := of_decide_eq_true h; exact Lib.itoa_length_le n this.1 this.2
theorem cS {w : World} (hg : nI w) (n : Int) (h : rF n = true) : RV 93 #[.int .i64 n] w (.string ⟨(Lib.itoa n).toArray⟩) := by
 unfold rF at h; have := of_decide_eq_true h; exact iT hg n this.1 this.2
theorem aBj {w : World} {N : Nat -> Prop} (hg : nI w) {x : Slr} {cs : List Value} (h : fA w N x.cells cs) (h0 : rF x.s.1 = true) (h1 : rF x.s.2.1 = true) (h2 : rF x.s.2.2 = true) : RV 94 #[.agg cs.toArray] w (.string ⟨(slP x.has x.s 3).toArray⟩) := by
 refine cA fun R HQ => ?_; obtain ⟨A, c, rfl, -⟩ := fG h; have HG := lh hg; clear h hg; generalize x.what = wh at *; generalize (⟨x.name.toArray⟩ : ByteArray) = nm at *; generalize x.at_ = at_ at *; generalize x.f.length = fl at *; generalize x.has = has at *; generalize x.s = s at *; obtain ⟨a0, a1, a2⟩ := has; obtain ⟨s0, s1, s2⟩ := s
 simp only at h0 h1 h2 HQ ⊢
 have H0 := lh h0; have H1 := lh h1; have H2 := lh h2; have L0 := gP _ h0; have L1 := gP _ h1; have L2 := gP _ h2; have HLS : Hid (∀ k, (slP (a0, a1, a2) (s0, s1, s2) k).length <= 70) := lh (aFO (a0, a1, a2) (s0, s1, s2) L0 L1 L2); clear h0 h1 h2
 go_enter Tryz.func94, Tryz.ntmps94
 go_wp2_with (with_reducible refine kA rfl 50 (.tmp 0) rfl [.int .i64 wh, .string nm, .int .i64 at_, .bool a0, .bool a1, .bool a2, .int .i64 s0, .int .i64 s1, .int .i64 s2, .slice A fl c] rfl ?_)
 intro w0 hb0 hf0 hz0; have HB0 := lh hb0; have HF0 := lh hf0; clear hb0 hf0; go_wp2_with fail; have hb := Blk.new w0 151 [.pointer none, .slice none 0 0]; have hf : Fr [] w0 (w0.alloc (.cells #[.pointer none, .slice none 0 0] 151)) := (Fr.refl [] w0).alloc _; generalize w0.alloc (.cells #[.pointer none, .slice none 0 0] 151) = wa at *; have hn := jX hb hf (Nat.le_refl _); rw [hz0] at hn; have HN := lh hn; clear hb hf hn
 go_loopg [5] 3 (fun j v wr => SlRel (a0, a1, a2) (s0, s1, s2) w0 (w.heap.size + 1) j v wr)
 case atStart => exact ⟨0, rfl, rfl, HN.out⟩
 case round =>
  obtain ⟨k, hk, rfl, hbk⟩ := hrel; have HB := lh hbk; have HBx := lh (HB0.out.fr hbk.fr); have c3 := HBx.out.at_ (i := 3) rfl; have c4 := HBx.out.at_ (i := 4) rfl; have c5 := HBx.out.at_ (i := 5) rfl; have c6 := HBx.out.at_ (i := 6) rfl; have c7 := HBx.out.at_ (i := 7) rfl; have c8 := HBx.out.at_ (i := 8) rfl; have HGr := lh ((HG.out.fr HF0.out).fr hbk.fr); clear hbk
  match k, hk with
  | 0, hk =>
   cases a0 with
   | false =>
    go_wp2_with fail
    go_roundg (3 - 1)
    case measure => omega
    case rel => exact ⟨1, by omega, by go_num, by simpa [slP] using HB.out⟩
   | true =>
    go_wp2_with fail; refine (cS HGr.out _ H0.out).mono ?_; rintro e w2 ⟨rfl, hfn⟩; have HK2 := lh (HB.out.keep hfn); clear hfn; go_wp2_with fail; refine (bL HK2.out ⟨(Lib.itoa s0).toArray⟩ (by have := HLS.out 0; simp only [ByteArray.size, List.size_toArray] at this ⊢; omega)).mono ?_; rintro e w3 ⟨rfl, hbn⟩; rw [show aA ⟨(Lib.itoa s0).toArray⟩ = Lib.itoa s0 from rfl] at hbn; have HB3 := lh hbn; clear hbn; go_wp2_with fail
    go_roundg (3 - 1)
    case measure => omega
    case rel => exact ⟨1, by omega, by go_num, by simpa [slP] using HB3.out⟩
  | 1, hk =>
   go_wp2_with fail; refine (fD HB.out 58 (Nat.le_trans (HLS.out 1) (by decide)) rfl).mono ?_; rintro e w2 ⟨rfl, hbn⟩; have HB2 := lh hbn; clear hbn; have HG2 := lh ((HG.out.fr HF0.out).fr HB2.out.fr); have HBx2 := lh (HB0.out.fr HB2.out.fr); have e3 := HBx2.out.at_ (i := 3) rfl; have e4 := HBx2.out.at_ (i := 4) rfl; have e5 := HBx2.out.at_ (i := 5) rfl; have e7 := HBx2.out.at_ (i := 7) rfl
   cases a1 with
   | false =>
    go_wp2_with fail
    go_roundg (3 - 2)
    case measure => omega
    case rel => exact ⟨2, by omega, by go_num, by simpa [slP] using HB2.out⟩
   | true =>
    go_wp2_with fail; refine (cS HG2.out _ H1.out).mono ?_; rintro e w3 ⟨rfl, hfn⟩; have HK3 := lh (HB2.out.keep hfn); clear hfn; go_wp2_with fail; refine (bL HK3.out ⟨(Lib.itoa s1).toArray⟩ (by have := HLS.out 1; simp only [List.length_append, List.length_cons, List.length_nil, ByteArray.size, List.size_toArray] at this ⊢; omega)).mono ?_; rintro e w4 ⟨rfl, hbn⟩; rw [show aA ⟨(Lib.itoa s1).toArray⟩ = Lib.itoa s1 from rfl] at hbn; have HB4 := lh hbn; clear hbn; go_wp2_with fail
    go_roundg (3 - 2)
    case measure => omega
    case rel => exact ⟨2, by omega, by go_num, by simpa [slP] using HB4.out⟩
  | 2, hk =>
   cases a2 with
   | false =>
    go_wp2_with fail
    go_roundg (3 - 3)
    case measure => omega
    case rel => exact ⟨3, by omega, by go_num, by simpa [slP] using HB.out⟩
   | true =>
    go_wp2_with fail; refine (fD HB.out 58 (Nat.le_trans (HLS.out 2) (by decide)) rfl).mono ?_; rintro e w2 ⟨rfl, hbn⟩; have HB2 := lh hbn; clear hbn; have HG2 := lh ((HG.out.fr HF0.out).fr HB2.out.fr); have HBx2 := lh (HB0.out.fr HB2.out.fr); have e5 := HBx2.out.at_ (i := 5) rfl; have e8 := HBx2.out.at_ (i := 8) rfl; go_wp2_with fail; refine (cS HG2.out _ H2.out).mono ?_; rintro e w3 ⟨rfl, hfn⟩; have HK3 := lh (HB2.out.keep hfn); clear hfn; go_wp2_with fail; refine (bL HK3.out ⟨(Lib.itoa s2).toArray⟩ (by have := HLS.out 2; simp only [List.length_append, List.length_cons, List.length_nil, ByteArray.size, List.size_toArray] at this ⊢; omega)).mono ?_; rintro e w4 ⟨rfl, hbn⟩; rw [show aA ⟨(Lib.itoa s2).toArray⟩ = Lib.itoa s2 from rfl] at hbn; have HB4 := lh hbn; clear hbn; go_wp2_with fail
    go_roundg (3 - 3)
    case measure => omega
    case rel => exact ⟨3, by omega, by go_num, by simpa [slP] using HB4.out⟩
  | 3, hk =>
   go_wp2_with fail; refine (sT HB.out).mono ?_; rintro e w2 ⟨rfl, hf2⟩; have HF2 := lh (HF0.out.trans hf2); clear hf2; go_wp2_with fail; exact HQ.out _ _ ⟨rfl, HF2.out⟩
  | k + 4, hk => exact absurd hk (by omega)
def Cl.rowsB : Cl -> Bool
 | .leaf _ => false
 | .rows _ l => decide (l.length <= 9223372036854775807)
def Vlu.inR (v : Vlu) : Bool := v.n.inR && v.l.rowsB && v.m.rowsB
theorem Vlu.inR_n {v : Vlu} (h : v.inR = true) : v.n.inR = true := by
 unfold Vlu.inR at h; simp only [Bool.and_eq_true] at h; exact h.1.1
mutual
def Qry.inR : Qry -> Bool
 | .mk _ l => dS l
 termination_by structural q => q
def dS : List Sgm -> Bool
 | [] => true
 | x :: l => x.inR && dS l
 termination_by structural l => l
def Sgm.inR : Sgm -> Bool
 | .mk _ l => eS l
 termination_by structural q => q
def eS : List Slr -> Bool
 | [] => true
 | x :: l => x.inR && eS l
 termination_by structural l => l
def Slr.inR : Slr -> Bool
 | .mk _ _ at_ _ s f => (rF at_ && rF s.1 && rF s.2.1 && rF s.2.2) && tJ f
 termination_by structural q => q
def tJ : List Xpr -> Bool
 | [] => true
 | x :: l => x.inR && tJ l
 termination_by structural l => l
def Xpr.inR : Xpr -> Bool
 | .mk _ l _ q v => v.inR && q.inR && tJ l
 termination_by structural e => e
end
theorem iI : ∀ l : List Sgm, dS l = l.all Sgm.inR
 | [] => rfl
 | x :: l => by rw [dS, iI l]; rfl
theorem jI : ∀ l : List Slr, eS l = l.all Slr.inR
 | [] => rfl
 | x :: l => by rw [eS, jI l]; rfl
theorem oF : ∀ l : List Xpr, tJ l = l.all Xpr.inR
 | [] => rfl
 | x :: l => by rw [tJ, oF l]; rfl
def mH (m : Int) (x : Xpr) : List UInt8 := if 1 <= x.what /\ x.what <= m then 40 :: x.text ++ [41] else x.text
theorem gG (m : Int) : ∀ l : List Xpr, oB m l = l.map (mH m)
 | [] => rfl
 | x :: l => by rw [oB, gG m l]; rfl
theorem hP (x : Xpr) : mH 0 x = x.text := by
 unfold mH; rw [if_neg (by omega)]
theorem pZ (m : Int) (x : Xpr) : x.text.length <= (mH m x).length := by
 unfold mH
 split
 ·simp; omega
 ·exact Nat.le_refl _
theorem aEA (m : Int) (x : Xpr) : (mH m x).length <= x.text.length + 2 := by
 unfold mH
 split
 ·simp
 ·omega
theorem wL : ∀ l : List Slr, fF l = l.map Slr.text
 | [] => rfl
 | x :: l => by rw [fF, wL l]; rfl
theorem xL : ∀ l : List Sgm, iE l = l.map Sgm.text
 | [] => rfl
 | x :: l => by rw [iE, xL l]; rfl
theorem uJ (l : List (List UInt8)) : Lib.join l [] = l.flatten := by
 match l with
 | [] => rfl
 | x :: r =>
  rw [Lib.join_cons]; unfold Lib.joinTail
  simp
theorem kI {x sep : List UInt8} {l : List (List UInt8)} (h : x ∈ l) : x.length <= (Lib.join l sep).length := by
 have ht : ∀ r : List (List UInt8), x ∈ r -> x.length <= (Lib.joinTail sep r).length := by
  intro r hr
  induction r with
  | nil => simp at hr
  | cons y r ih =>
   unfold Lib.joinTail at ih ⊢; simp only [List.map_cons, List.flatten_cons, List.length_append]; rcases List.mem_cons.1 hr with rfl | hr
   ·omega
   ·have := ih hr; omega
 match l, h with
 | y :: r, h =>
  rw [Lib.join_cons, List.length_append]; rcases List.mem_cons.1 h with rfl | h
  ·omega
  ·have := ht r h; omega
def TX (x : Xpr) : Prop := ∀ (w : World) (N : Nat -> Prop) (cs : List Value), nI w -> fA w N x.cells cs -> x.text.length <= 100000000 -> RV 96 #[.agg cs.toArray] w (.string ⟨x.text.toArray⟩)
section
variable {w : World} {N : Nat -> Prop} {cs : List Value}
theorem qZ {x : Xpr} (h : fA w N x.cells cs) : RV 145 #[.agg cs.toArray] w (.bool x.bare) := by
 refine cA fun R HQ => ?_; have hw := kE h; have HS : Hid (x.bare = (x.what == 6 || x.what == 7)) := lh rfl; obtain ⟨wh, hwh⟩ : ∃ wh, x.what = wh := ⟨_, rfl⟩; rw [hwh] at hw HS; have HW := lh hw; clear h hw hwh
 go_enter Tryz.func145, Tryz.ntmps145
 go_wp2_with (with_reducible refine kA rfl 109 (.tmp 0) rfl cs rfl ?_)
 intro w0 hb0 hf0 hz0; have c0 := hb0.at_ HW.out; have HF := lh hf0; clear hb0 hf0 hz0; rw [HS.out] at HQ
 by_cases h1 : wh = 6
 ·have d1 : (wh == 6) = true := by simpa using h1
  rw [d1] at HQ; clear h1; go_wp2_with fail; exact HQ.out _ _ ⟨rfl, HF.out⟩
 ·have d1 : (wh == 6) = false := by simpa using h1
  rw [d1, Bool.false_or] at HQ; clear h1; go_wp2_with fail; exact HQ.out _ _ ⟨rfl, HF.out⟩
theorem aCQ {x : Xpr} (hg : nI w) (h : fA w N x.cells cs) (hx : TX x) (hl : x.text.length <= 100000000) : RV 143 #[.agg cs.toArray] w (.string ⟨(mH 1 x).toArray⟩) := by
 refine cA fun R HQ => ?_; have hw := kE h; have hcl : cs.length = 13 := h.1.trans (lA x); have HC1 : Hid ((Tryz.prog.info? 109).map (·.size) = some cs.length) := lh (by rw [hcl]; exact nB); have HS : Hid (mH 1 x = if 1 <= x.what /\ x.what <= 1 then 40 :: x.text ++ [41] else x.text) := lh rfl; have HT := lh (fun W (hW : Fr [] w W) => hx W N cs (hg.fr hW) (h.fr hW) hl); rw [HS.out] at HQ; obtain ⟨wh, hwh⟩ : ∃ wh, x.what = wh := ⟨_, rfl⟩; rw [hwh] at hw HQ; have HW := lh hw; generalize x.text = tx at *; clear h hw hwh hx hcl HS hg
 go_enter Tryz.func143, Tryz.ntmps143
 go_wp2_with (with_reducible refine kA rfl 109 (.tmp 0) rfl cs rfl ?_)
 intro w0 hb0 hf0 hz0; have c0 := hb0.at_ HW.out; have HF0 := lh hf0; have HB0 := lh hb0; have HTX := lh (HT.out w0 hf0); clear hb0 hf0 hz0
 by_cases h1 : wh = 1
 ·have d1 : (wh == 1) = true := by simpa using h1
  rw [if_pos (by omega)] at HQ; clear h1
  go_wp2_with (with_reducible refine tA rfl 109 (.tmp 1) rfl rfl HB0.out Tryz.underlying109 rfl HC1.out ?_)
  refine HTX.out.mono ?_; rintro e w2 ⟨rfl, hf2⟩; have HF2 := lh (HF0.out.trans hf2); clear hf2; go_wp2_with fail; exact HQ.out _ _ ⟨by simp [nF], HF2.out⟩
 ·have d1 : (wh == 1) = false := by simpa using h1
  rw [if_neg (by omega)] at HQ; clear h1
  go_wp2_with (with_reducible refine tA rfl 109 (.tmp 1) rfl rfl HB0.out Tryz.underlying109 rfl HC1.out ?_)
  refine HTX.out.mono ?_; rintro e w2 ⟨rfl, hf2⟩; have HF2 := lh (HF0.out.trans hf2); clear hf2; go_wp2_with fail; exact HQ.out _ _ ⟨by simp, HF2.out⟩
theorem aCR {x : Xpr} (hg : nI w) (h : fA w N x.cells cs) (hx : TX x) (hl : x.text.length <= 100000000) : RV 144 #[.agg cs.toArray] w (.string ⟨(mH 2 x).toArray⟩) := by
 refine cA fun R HQ => ?_; have hw := kE h; have hcl : cs.length = 13 := h.1.trans (lA x); have HC1 : Hid ((Tryz.prog.info? 109).map (·.size) = some cs.length) := lh (by rw [hcl]; exact nB); have HS : Hid (mH 2 x = if 1 <= x.what /\ x.what <= 2 then 40 :: x.text ++ [41] else x.text) := lh rfl; have HT := lh (fun W (hW : Fr [] w W) => hx W N cs (hg.fr hW) (h.fr hW) hl); rw [HS.out] at HQ; obtain ⟨wh, hwh⟩ : ∃ wh, x.what = wh := ⟨_, rfl⟩; rw [hwh] at hw HQ; have HW := lh hw; generalize x.text = tx at *; clear h hw hwh hx hcl HS hg
 go_enter Tryz.func144, Tryz.ntmps144
 go_wp2_with (with_reducible refine kA rfl 109 (.tmp 0) rfl cs rfl ?_)
 intro w0 hb0 hf0 hz0; have c0 := hb0.at_ HW.out; have HF0 := lh hf0; have HB0 := lh hb0; have HTX := lh (HT.out w0 hf0); clear hb0 hf0 hz0
 by_cases h1 : wh = 1
 ·have d1 : (wh == 1) = true := by simpa using h1
  rw [if_pos (by omega)] at HQ; clear h1
  go_wp2_with (with_reducible refine tA rfl 109 (.tmp 1) rfl rfl HB0.out Tryz.underlying109 rfl HC1.out ?_)
  refine HTX.out.mono ?_; rintro e w2 ⟨rfl, hf2⟩; have HF2 := lh (HF0.out.trans hf2); clear hf2; go_wp2_with fail; exact HQ.out _ _ ⟨by simp [nF], HF2.out⟩
 ·have d1 : (wh == 1) = false := by simpa using h1
  by_cases h2 : wh = 2
  ·have d2 : (wh == 2) = true := by simpa using h2
   rw [if_pos (by omega)] at HQ; clear h1 h2
   go_wp2_with (with_reducible refine tA rfl 109 (.tmp 1) rfl rfl HB0.out Tryz.underlying109 rfl HC1.out ?_)
   refine HTX.out.mono ?_; rintro e w2 ⟨rfl, hf2⟩; have HF2 := lh (HF0.out.trans hf2); clear hf2; go_wp2_with fail; exact HQ.out _ _ ⟨by simp [nF], HF2.out⟩
  ·have d2 : (wh == 2) = false := by simpa using h2
   rw [if_neg (by omega)] at HQ; clear h1 h2
   go_wp2_with (with_reducible refine tA rfl 109 (.tmp 1) rfl rfl HB0.out Tryz.underlying109 rfl HC1.out ?_)
   refine HTX.out.mono ?_; rintro e w2 ⟨rfl, hf2⟩; have HF2 := lh (HF0.out.trans hf2); clear hf2; go_wp2_with fail; exact HQ.out _ _ ⟨by simp, HF2.out⟩
end
end
end Go.Proofs.YtbggkiebfflcdaaGreatDoor
