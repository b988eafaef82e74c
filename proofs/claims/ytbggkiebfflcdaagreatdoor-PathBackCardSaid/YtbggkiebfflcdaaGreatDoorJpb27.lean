/-
  Joined by join.py: Iq
-/
import Derived.Test.YtbggkiebfflcdaaGreatDoorJpb24
import Derived.Test.YtbggkiebfflcdaaGreatDoorJpb26
set_option maxRecDepth 100000
set_option maxHeartbeats 32000000
namespace Go.Proofs.YtbggkiebfflcdaaGreatDoor
section
open Go.RowKit Go.Shelf
theorem aDm {w : World} (hg : nI w) (h8 : 8 <= w.heap.size) {q : Qry} {cs : List Value} (hr : fA w (fun g => g < w.heap.size) q.cells cs) (hin : q.inR = true) (hst : q.stB = true) :
  RV 4 #[.agg cs.toArray] w (.bool true) := by
 refine cA fun R HQ => ?_; obtain ⟨A, c, rfl, -⟩ := aC hr; have HG := lh hg; have HIN := lh hin; have HST := lh hst; have HR := lh hr; obtain ⟨rel, hrel⟩ : ∃ rel, q.rel = rel := ⟨_, rfl⟩; obtain ⟨ln, hln⟩ : ∃ ln, q.l.length = ln := ⟨_, rfl⟩; rw [hrel, hln] at HR ⊢; have HRL := lh hrel; have HLN := lh hln; clear hg hr hin hst hrel hln
 go_enter Tryz.func4, Tryz.ntmps4
 go_upto_region 1 with fail
 have hf0 : Fr [] w (w.alloc (.cells #[.bool rel, .slice A ln c] 31)) := (Fr.refl [] w).alloc _; have hb0 := Blk.new w 31 [.bool rel, .slice A ln c]; generalize w.alloc (.cells #[.bool rel, .slice A ln c] 31) = w0 at *; have hz0 := hf0.size; have HF0 := lh hf0; have HBa := lh hb0; have b0 := hb0.at_ (i := 0) rfl; have b1 := hb0.at_ (i := 1) rfl; clear hf0 hb0; go_wp2_with fail; refine (aDf (HG.out.fr HF0.out) (by omega)).mono ?_; rintro e w1 ⟨rfl, hf1⟩; have HF1 := lh (HF0.out.trans hf1)
 replace b0 := bA hf1 b0
 replace b1 := bA hf1 b1
 have HBb := lh (HBa.out.fr hf1); clear hf1; go_wp2_with fail; refine (aGm (q := q) (most := 400) (HR.out.fr HF1.out) HST.out (by decide) (by decide)).mono ?_; rintro e w2 ⟨b, rfl, hb, hf2⟩; have HF2 := lh (HF1.out.trans hf2)
 replace b0 := bA hf2 b0
 replace b1 := bA hf2 b1
 have HBc := lh (HBb.out.fr hf2); have HB := lh hb; clear hf2 hb
 cases b with
 | false =>
  go_wp2_with fail; exact HQ.out _ _ ⟨rfl, HF2.out⟩
 | true =>
  have HFW : Hid (q.fw <= 400) := lh (by have := HB.out rfl; omega); have HWT : Hid (q.wt <= 400) := lh (Nat.le_trans q.wt_le HFW.out); have hz2 := HF2.out.size; go_wp2_with fail; refine (q.ours_any (by have := HWT.out; omega) w2 w.heap.size [.bool rel, .slice A ln c] hz2 (HR.out.fr HF2.out)).mono ?_; rintro e w3 ⟨ds, rfl, hrd, hf3⟩; obtain ⟨A2, c2, rfl, -⟩ := aC hrd; rw [HRL.out, HLN.out] at hrd ⊢; have HF3 := lh (HF2.out.trans hf3); have HRD := lh hrd
  replace b0 := bA hf3 b0
  replace b1 := bA hf3 b1
  have HBd := lh (HBc.out.fr hf3); clear hf3 hrd; go_upto_region 5 with fail
  have hfa : Fr [] w3 (w3.alloc (.cells #[.bool rel, .slice A2 ln c2] 25)) := (Fr.refl [] w3).alloc _; have hba := Blk.new w3 25 [.bool rel, .slice A2 ln c2]; generalize w3.alloc (.cells #[.bool rel, .slice A2 ln c2] 25) = w4 at *; have HF4 := lh (HF3.out.trans hfa); have HR4 := lh (HRD.out.fr hfa)
  replace b0 := bA hfa b0
  replace b1 := bA hfa b1
  have HBe := lh (HBd.out.fr hfa); have a0 := hba.at_ (i := 0) rfl; have a1 := hba.at_ (i := 1) rfl; clear hfa hba HRD; go_wp2_with fail; refine (q.print_any (HG.out.fr HF4.out) HR4.out HIN.out (by have := HWT.out; omega) (by have := q.text_len HFW.out HIN.out; omega)).mono ?_; rintro e w5 ⟨rfl, hf5⟩; have HF5 := lh (HF4.out.trans hf5); have HR5 := lh (HR4.out.fr hf5)
  replace b0 := bA hf5 b0
  replace b1 := bA hf5 b1
  have HBf := lh (HBe.out.fr hf5)
  replace a0 := bA hf5 a0
  replace a1 := bA hf5 a1
  obtain ⟨tx, htx⟩ : ∃ tx, q.text = tx := ⟨_, rfl⟩; have HTX := lh htx; rw [htx]; clear hf5 htx HR4; go_wp2_with fail; refine (q.sane_any HR5.out (by have := HFW.out; omega) HIN.out).mono ?_; rintro e w6 ⟨rfl, hf6⟩; have HF6 := lh (HF5.out.trans hf6); have HB6 := lh (HBf.out.fr hf6); obtain ⟨sn, hsn⟩ : ∃ sn, q.sane = sn := ⟨_, rfl⟩; have HSN := lh hsn; rw [hsn]; clear hf6 hsn b0 b1 a0 a1 HR5
  cases sn with
  | false =>
   go_wp2_with fail; exact HQ.out _ _ ⟨rfl, HF6.out⟩
  | true =>
   by_cases hl : tx.length <= 8192
   ·have hlt : ¬ 8192 < tx.length := by omega
    have HPQ : Hid (qD tx = .ok q) := lh (by rw [<- HTX.out]; exact aBy HSN.out HST.out (by rw [HTX.out]; exact hl)); have HSZ : Hid (tx.toArray.size <= 100000) := lh (by rw [List.size_toArray]; omega); have hz6 := HF6.out.size; clear hl; go_wp2_with fail; refine (aAj (HG.out.fr HF6.out) (by omega) ⟨tx.toArray⟩ HSZ.out HPQ.out).mono ?_; rintro e w7 ⟨A7, c7, rfl, hr7, hf7⟩; rw [HRL.out, HLN.out] at hr7 ⊢; have hr7b := hr7.bound; have HF7 := lh (HF6.out.trans hf7); have HB7 := lh (HB6.out.fr hf7); have HR7 := lh (hr7b.mono (fun g hg => hg.2) : fA w7 (fun g => g < w7.heap.size) q.cells [.bool rel, .slice A7 ln c7]); clear hf7 hr7 hr7b; go_upto_region 9 with fail
    have hfa : Fr [] w7 (w7.alloc (.cells #[.bool rel, .slice A7 ln c7] 25)) := (Fr.refl [] w7).alloc _; have hba := Blk.new w7 25 [.bool rel, .slice A7 ln c7]; generalize w7.alloc (.cells #[.bool rel, .slice A7 ln c7] 25) = w8 at *; have HF8 := lh (HF7.out.trans hfa); have HR8 := lh (HR7.out.fr hfa); have HZ8 := lh hfa.size; have hS : (fun W => Blk W w.heap.size 31 [.bool rel, .slice A ln c] /\ Blk W w7.heap.size 25 [.bool rel, .slice A7 ln c7]) w8 := ⟨HB7.out.fr hfa, hba⟩; have hSf : ∀ {W W' : World}, Fr [] W W' -> (fun W => Blk W w.heap.size 31 [.bool rel, .slice A ln c] /\ Blk W w7.heap.size 25 [.bool rel, .slice A7 ln c7]) W -> (fun W => Blk W w.heap.size 31 [.bool rel, .slice A ln c] /\ Blk W w7.heap.size 25 [.bool rel, .slice A7 ln c7]) W' := fun hf h => ⟨h.1.fr hf, h.2.fr hf⟩; clear hfa hba; refine iA (fun W => Blk W w.heap.size 31 [.bool rel, .slice A ln c] /\ Blk W w7.heap.size 25 [.bool rel, .slice A7 ln c7]) [0, 1, 2, 3, 4, 5, 6, 8, 10, 11, 12, 14, 15, 16] (by kernel_rfl) ?_; refine tks [0, 1, 2, 3, 4, 5, 6, 8] ?_
    iterate 8 (refine tk rfl rfl hS rfl (fun _ hW => by (obtain ⟨k0, k1⟩ := hW; have e0 := k0.at_ (i := 0) rfl; have e1 := k0.at_ (i := 1) rfl; have f0 := k1.at_ (i := 0) rfl; have f1 := k1.at_ (i := 1) rfl; go_simp) <;> with_reducible rfl) ?_; simp only [nrm])
    refine tke ?_; refine xB (j := 7) (some 38) rfl rfl (by kernel_rfl) rfl fun K hK => ?_; have hfd : Fr [] w8 w8.drew := (Fr.refl [] w8).drew; refine mA (l := [.tmp 37]) rfl [.agg #[.bool rel, .slice A7 ln c7]] rfl (fun W => by kernel_rfl) ((q.theirs_any (by have := HWT.out; omega) w8.drew w7.heap.size [.bool rel, .slice A7 ln c7] (by have := HZ8.out; have := hfd.size; omega) (HR8.out.fr hfd)).mono ?_); rintro e wa ⟨dsa, rfl, hrd, hfb⟩; have HKa := lh (hfd.trans hfb); have HDa := lh hrd; have hSa := hSf HKa.out hS; refine ⟨_, rfl, hK _ _ (fun _ => hSa) ?_⟩; simp only [nrm]; clear hK hfd hfb hrd hS; refine xB (j := 9) (some 40) rfl rfl (by kernel_rfl) rfl fun K hK => ?_; refine mA (l := [.tmp 38, .tmp 39]) rfl [.agg dsa.toArray, .agg #[.bool rel, .slice A ln c]] rfl (fun W => by kernel_rfl) ((Qry.same_any HSN.out HST.out HFW.out wa _ _ dsa [.bool rel, .slice A ln c] HDa.out ((HR.out.fr HF8.out).fr HKa.out)).mono ?_); rintro e wb ⟨rfl, hfb⟩; have HKb := lh (HKa.out.trans hfb); have hSb := hSf hfb hSa; refine ⟨_, rfl, hK _ _ (fun _ => hSb) ?_⟩; simp only [nrm]; clear hK hfb hSa; refine tks [10, 11, 12, 14] ?_
    iterate 4 (refine tk rfl rfl hSb rfl (fun _ hW => by (obtain ⟨k0, k1⟩ := hW; have e0 := k0.at_ (i := 0) rfl; have e1 := k0.at_ (i := 1) rfl; have f0 := k1.at_ (i := 0) rfl; have f1 := k1.at_ (i := 1) rfl; go_simp) <;> with_reducible rfl) ?_; simp only [nrm])
    refine tke ?_; refine xB (j := 13) (some 44) rfl rfl (by kernel_rfl) rfl fun K hK => ?_; refine mA (l := [.tmp 43]) rfl [.agg #[.bool rel, .slice A7 ln c7]] rfl (fun W => by kernel_rfl) ((q.print_any ((HG.out.fr HF8.out).fr HKb.out) (HR8.out.fr HKb.out) HIN.out (by have := HWT.out; omega) (by have := q.text_len HFW.out HIN.out; omega)).mono ?_); rintro e wc ⟨rfl, hfb⟩; rw [HTX.out]; have HKc := lh (HKb.out.trans hfb); have hSc := hSf hfb hSb; refine ⟨_, rfl, hK _ _ (fun _ => hSc) ?_⟩; simp only [nrm]; clear hK hfb hSb; refine tks [15, 16] ?_
    iterate 2 (refine tk rfl rfl hSc rfl (fun _ hW => by (obtain ⟨k0, k1⟩ := hW; have e0 := k0.at_ (i := 0) rfl; have e1 := k0.at_ (i := 1) rfl; have f0 := k1.at_ (i := 0) rfl; have f1 := k1.at_ (i := 1) rfl; go_simp) <;> with_reducible rfl) ?_; simp only [nrm])
    refine tke ?_; refine sp 17 rfl rfl rfl fun K hK => ?_; refine eA (v := ?aq1_17) ?yq1_17 (hK _ _ (fun _ => hSc) ?_)
    case yq1_17 => go_simp <;> with_reducible rfl
    simp only [nrm]; refine wd ?_ _; have HFE := lh (HF8.out.trans HKc.out); clear hSf; go_wp2_with fail; exact HQ.out _ _ ⟨rfl, HFE.out⟩
   ·have hlt : 8192 < tx.length := by omega
    clear hl; go_wp2_with fail; exact HQ.out _ _ ⟨rfl, HF6.out⟩
end
end Go.Proofs.YtbggkiebfflcdaaGreatDoor
