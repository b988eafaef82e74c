/-
  Joined by join.py: Ql Qm Qn Qo Qp
-/
import Derived.Test.YtpjbdpepofnleaaGreatJpl21
set_option maxRecDepth 100000
set_option maxHeartbeats 32000000
namespace Go.Proofs.YtpjbdpepofnleaaGreat
section
open Go.RowKit Go.ChangeMaps Go.MapKept Go.Maps Go.Sort Go.Shelf
def rdZ (pg : Nat -> List UInt8) (n : Nat) : CD := { pg := pg, n := n, next := 0, head := 0, roots := fun _ => 0, M := [], S := [], e := 0 }
def rdK (pg : Nat -> List UInt8) (n : Nat) (b : List UInt8) (k : Nat) : CD := { pg := pg, n := n, next := r16 (b.drop 2), head := r16 (b.drop 4), roots := fun t => if t < k then r16 (b.drop (6 + 2 * t)) else 0, M := [], S := [], e := 0 }
def rdC (pg : Nat -> List UInt8) (n : Nat) (b : List UInt8) : CD :=
 if b = zpage then { pg := pg, n := n, next := 1, head := 0, roots := fun _ => 0, M := [], S := [], e := 0 }
 else { pg := pg, n := n, next := r16 (b.drop 2), head := r16 (b.drop 4), roots := fun t => r16 (b.drop (6 + 2 * t)), M := [], S := [], e := 0 }
theorem rdC_begin (pg : Nat -> List UInt8) (n : Nat) : rdC pg n (pg 0) = beginC pg n := rfl
theorem rdK_root (pg : Nat -> List UInt8) (n : Nat) (b : List UInt8) (k : Nat) : (rdK pg n b k).root k (r16 (b.drop (6 + 2 * k))) = rdK pg n b (k + 1) := by
 unfold rdK CD.root; simp only [CD.mk.injEq, true_and, and_true]
 funext j
 unfold setR
 by_cases hj : j = k
 ·rw [if_pos hj, hj, if_pos (by omega)]
 ·rw [if_neg hj]
  by_cases h2 : j < k
  ·show (if j < k then _ else _) = _
   rw [if_pos h2, if_pos (by omega)]
  ·show (if j < k then _ else _) = _
   rw [if_neg h2, if_neg (by omega)]
theorem make512b (w : World) : (Instr.makeSlice 23 (.int .i64 512) (.int .i64 512)).run Tryz.prog w = .ok (.slice (some ⟨w.heap.size, 0, none⟩) 512 512) (w.alloc (.cells (bcells zpage).toArray 5)) := by
 obtain ⟨i, hi, hz, hs, hb⟩ := info_parts info_u8z; have h := run_makeSlice (P := Tryz.prog) w 23 5 i _ Tryz.underlying23 hi hz .i64 .i64 512 512 (by omega) (by omega) (by rw [hs]; decide) (by rw [hb]; decide) (by omega)
 have e : madeCells #[Value.int .u8 0] 512 = (bcells zpage).toArray := by
  have := made_zero 8; have e1 : (DM.new 8).S.flatten = List.replicate (8 * 64) 0 := List.flatten_replicate_replicate; rw [e1] at this; rw [show zpage = List.replicate (8 * 64) 0 from rfl, <- this]
 rw [hs] at h; exact h.trans (by rw [<- e]; rfl)
theorem enter_h16 (vs : Array Value) (w : World) : (callFunc 85 vs).run Tryz.prog w = .ok (.enter 85 vs) w := by kernel_rfl
theorem getD_at {b : List UInt8} {j : Nat} {x : UInt8} (h : b.getD j 0 = x) (hj : j < b.length) : b[j]? = some x := by
 rw [List.getD_eq_getElem?_getD, List.getElem?_eq_getElem hj] at h; rw [List.getElem?_eq_getElem hj]; exact congrArg some h
theorem zpage_len' : zpage.length = 512 := by unfold zpage; rw [List.length_replicate]
/-- Page 0 read into a change. -/
theorem read_sp {w : World} {g bc bn bs gb n : Nat} {pg : Nat -> List UInt8} {v : Value} {b : List UInt8} (hb : Blk w bc 84 (chC (rdZ pg n) g bn bs)) (hv : BytesAt w v b gb) (hg : gb ≠ bc) (hl : b.length = 512)
  (hm : b = zpage ∨ (b ≠ zpage /\ b.getD 0 0 = 79 /\ b.getD 1 0 = 82)) (h1 : 1 <= (rdC pg n b).next) :
  Calls Tryz.prog 61 #[.pointer (some ⟨bc, 0, none⟩), v] w fun e w' => e = .returned (.bool true) /\ Blk w' bc 84 (chC (rdC pg n b) g bn bs) /\ Fr [bc] w w' := by
 obtain ⟨w1, hw1⟩ := nm (w.alloc (.cells (bcells zpage).toArray 5)); have hf1 : Fr [] w w1 := by rw [hw1]; exact (Fr.refl [] w).alloc _
 have hb1 : BytesAt w1 (.slice (some ⟨w.heap.size, 0, none⟩) 512 512) zpage w.heap.size := by
  rw [hw1]; have h := BytesAt.of_blk (Blk.new w 5 (bcells zpage)) 512 (by rw [zpage_len']; exact Nat.le_refl _); rw [zpage_len'] at h; exact h
 have HEQ := lh (bytes_equal (hv.fr hf1 (by simp)) hb1); have hmk := make512b w; rw [<- hw1] at hmk; obtain ⟨A, ca, off, rfl, hca, hcell⟩ := hv; obtain ⟨rfl, hc'⟩ := hcell (by omega); clear hc'; rw [hl] at hca HEQ ⊢; have hvl : BytesAt w (.slice (some ⟨gb, off, none⟩) 512 ca) b gb := ⟨_, ca, off, by rw [hl], by omega, hcell⟩; have HV := lh hvl; have HB := lh (hb.fr hf1 (by simp)); have HL := lh hl; have HM := lh hm; have H1 := lh h1; have HF1 := lh hf1; have HG := lh hg; have HCELL := lh hcell; clear hb1 hb hl hm h1 hg hf1 hw1 hvl hcell; refine calls_post fun R HQ => ?_
 go_enter Tryz.func61, Tryz.ntmps61
 go_wp2_with fail; refine HEQ.out.mono ?_; rintro e w2 ⟨rfl, rfl⟩
 by_cases hz : b = zpage
 ·rw [decide_eq_true hz]; have hfz := HB.out.free 0; have hlt := HB.out.lt; have hc0 := HB.out.at_ (i := 0) rfl
  have HX : Hid (R (.returned (.bool true)) (w1.setCell ⟨bc, 0, none⟩ (.int .i64 1))) := lh (HQ.out _ _ ⟨rfl, by
   have h := HB.out.set_ 0 (.int .i64 1); unfold rdC; rw [if_pos hz]; exact h, (HF1.out.mono (by simp)).trans ((Fr.refl [bc] w1).setCell (.inl (by simp)) _) (fun q hq => .inl hq)⟩)
  have HZ := lh hz; clear hz; go_wp2_with fail; exact HX.out
 ·rw [decide_eq_false hz]
  obtain ⟨hm0, hm1⟩ : b.getD 0 0 = 79 /\ b.getD 1 0 = 82 := by
   rcases HM.out with h | ⟨_, h1, h2⟩
   ·exact absurd h hz
   ·exact ⟨h1, h2⟩
  have en : rdC pg n b = { pg := pg, n := n, next := r16 (b.drop 2), head := r16 (b.drop 4), roots := fun t => r16 (b.drop (6 + 2 * t)), M := [], S := [], e := 0 } := if_neg hz; have hnx : 1 <= r16 (b.drop 2) := by have := H1.out; rw [en] at this; exact this
  have HEN := lh en; have HCC := (HCELL.out (by have := HL.out; omega)).2; have hbl := HL.out; have x0 := fr_keep HF1.out (HCC 0 (.int .u8 79) (by rw [bcells_at, getD_at hm0 (by omega)]; rfl)); have x1 := fr_keep HF1.out (HCC 1 (.int .u8 82) (by rw [bcells_at, getD_at hm1 (by omega)]; rfl)); rw [Nat.add_zero] at x0; have HX0 := lh x0; have HX1 := lh x1; have HZ := lh hz; have HNX := lh hnx; have HVW := lh (HV.out.fr HF1.out (by simp)); clear hm0 hm1 en hnx HCC x0 x1 hz hbl; have hs2 : ∀ w, _ := fun w => slice_run_from (P := Tryz.prog) Tryz.underlying23 rfl (some ⟨gb, off, none⟩) 512 ca 2 .i64 (by omega) w; have hs4 : ∀ w, _ := fun w => slice_run_from (P := Tryz.prog) Tryz.underlying23 rfl (some ⟨gb, off, none⟩) 512 ca 4 .i64 (by omega) w; rw [if_neg (by omega)] at hs2 hs4; simp only [Option.map_some, Addr.add_mid] at hs2 hs4; have hv2 := HVW.out.from_ 2 (by have := HL.out; omega); have hv4 := HVW.out.from_ 4 (by have := HL.out; omega); rw [if_neg (by omega), HL.out] at hv2 hv4; simp only [Option.map_some, Addr.add_mid] at hv2 hv4; have HH2 := lh (half16_any (hv2.fr (w' := w1.drew) ((Fr.refl [] w1).drew) (by simp)) (by rw [List.length_drop]; have := HL.out; omega)); have HV4 := lh hv4; have HB2 := lh (HB.out.fr ((Fr.refl [] w1).drew) (by simp)); clear hv2 hv4; go_upto_region 4 with fail
  refine wp_region_K (fun _ => True) [0, 1, 2, 3, 5, 6, 8, 9, 11, 12] (by kernel_rfl) ?_; refine tks [0, 1, 2] ?_
  iterate 3 (refine tk rfl rfl trivial rfl (fun _ _ => by go_simp <;> with_reducible rfl) ?_; simp only [nrm])
  refine tke ?_; refine tv 3 (.slice (some ⟨gb, off + 2, none⟩) 510 (ca - 2)) rfl rfl trivial (.inl ⟨rfl, fun W _ => exec_slice rfl rfl rfl rfl (hs2 W)⟩) ?_; simp only [nrm]; refine tks [5] ?_; refine tk rfl rfl trivial rfl (fun _ _ => by go_simp <;> with_reducible rfl) ?_; simp only [nrm]; refine tke ?_; refine tv 6 (.slice (some ⟨gb, off + 4, none⟩) 508 (ca - 4)) rfl rfl trivial (.inl ⟨rfl, fun W _ => exec_slice rfl rfl rfl rfl (hs4 W)⟩) ?_; simp only [nrm]; refine sp 4 rfl rfl rfl fun K hK => ?_; refine wp_call_f (l := [.tmp 15]) rfl [.slice (some ⟨gb, off + 2, none⟩) 510 (ca - 2)] rfl (enter_h16 _) (HH2.out.mono ?_); rintro e w3 ⟨rfl, q3, rfl⟩; refine ⟨_, rfl, hK _ _ (fun _ => trivial) ?_⟩; simp only [nrm]; clear hK HH2; have hf3 : Fr [] w1 (w1.drew.drewN q3) := ((Fr.refl [] w1).drew).drewN q3; generalize w1.drew.drewN q3 = w3 at *; have HH4 := lh (half16_any (HV4.out.fr hf3 (by simp)) (by rw [List.length_drop]; have := HL.out; omega)); refine sp 7 rfl rfl rfl fun K hK => ?_; refine wp_call_f (l := [.tmp 18]) rfl [.slice (some ⟨gb, off + 4, none⟩) 508 (ca - 4)] rfl (enter_h16 _) (HH4.out.mono ?_); rintro e w4 ⟨rfl, q4, rfl⟩; refine ⟨_, rfl, hK _ _ (fun _ => trivial) ?_⟩; simp only [nrm]; clear hK HH4; have hf4 : Fr [] w1 (w3.drewN q4) := hf3.drewN q4; generalize w3.drewN q4 = w4 at *; have HB4 := lh (HB.out.fr hf4 (by simp)); have HF4 := lh hf4; clear hf4 hf3 HB2; have hfz := HB4.out.free 0; have hlt := HB4.out.lt; have hc0 := HB4.out.at_ (i := 0) rfl; refine tks [8, 9] ?_
  iterate 2 (refine tk rfl rfl trivial rfl (fun _ _ => by go_simp <;> with_reducible rfl) ?_; simp only [nrm])
  refine tke ?_; refine wpAnyK_step (j := 10) none rfl rfl (by kernel_rfl) rfl fun K hK => ?_; refine wp_run_skip (w' := w4.setCell ⟨bc, 0, none⟩ (.int .i64 ((r16 (b.drop 2) : Nat) : Int))) (by go_simp) (hK _ _ (fun _ => trivial) ?_); simp only [Act.put]; clear hK; have HB5 := lh (HB4.out.set_ 0 (.int .i64 ((r16 (b.drop 2) : Nat) : Int))); have HF5 : Hid (Fr [bc] w1 (w4.setCell ⟨bc, 0, none⟩ (.int .i64 ((r16 (b.drop 2) : Nat) : Int)))) := lh ((HF4.out.mono (by simp)).setCell (.inl (by simp)) _); clear hfz hlt hc0; generalize w4.setCell ⟨bc, 0, none⟩ (.int .i64 ((r16 (b.drop 2) : Nat) : Int)) = w5 at *; have hfz := HB5.out.free 1; have hlt := HB5.out.lt; have hc1 := HB5.out.at_ (i := 1) (v := .int .i64 0) rfl; refine tks [11, 12] ?_
  iterate 2 (refine tk rfl rfl trivial rfl (fun _ _ => by go_simp <;> with_reducible rfl) ?_; simp only [nrm])
  refine tke ?_; refine wpAnyK_step (j := 13) none rfl rfl (by kernel_rfl) rfl fun K hK => ?_; refine wp_run_skip (w' := w5.setCell ⟨bc, 1, none⟩ (.int .i64 ((r16 (b.drop 4) : Nat) : Int))) (by go_simp) (hK _ _ (fun _ => trivial) ?_); simp only [Act.put]; clear hK; refine wd ?_ _; have HB6 : Hid (Blk (w5.setCell ⟨bc, 1, none⟩ (.int .i64 ((r16 (b.drop 4) : Nat) : Int))) bc 84 (chC (rdK pg n b 0) g bn bs)) := lh (HB5.out.set_ 1 (.int .i64 ((r16 (b.drop 4) : Nat) : Int))); have HF6 : Hid (Fr [bc] w1 (w5.setCell ⟨bc, 1, none⟩ (.int .i64 ((r16 (b.drop 4) : Nat) : Int)))) := lh (HF5.out.setCell (.inl (by simp)) _); clear hfz hlt hc1 HB5 HF5 HB4 HF4; generalize w5.setCell ⟨bc, 1, none⟩ (.int .i64 ((r16 (b.drop 4) : Nat) : Int)) = w6 at *; go_wp2_with fail
  go_loopw [24] (fun v wr => ∃ k : Nat, k <= 8 /\ v = .int .i64 (k : Int) /\ Blk wr bc 84 (chC (rdK pg n b k) g bn bs) /\ Fr [bc] w1 wr) (fun v _ => 8 - (intOf v).toNat)
  case atStart => exact ⟨0, by omega, rfl, HB6.out, HF6.out⟩
  case round =>
   obtain ⟨k, hk, rfl, hbk, hfk⟩ := hrel; have HBK := lh hbk; have HFK := lh hfk; clear hbk hfk
   by_cases hk8 : k < 8
   ·have hm1 : IntKind.i64.wrap (2 * (k : Int)) = 2 * (k : Int) := by rw [IntKind.wrap_i64]; omega
    have hm2 : IntKind.i64.wrap (6 + 2 * (k : Int)) = 6 + 2 * (k : Int) := by rw [IntKind.wrap_i64]; omega
    have hm3 := wi k (by omega)
    have hsk : ∀ w, _ := fun w => slice_run_from (P := Tryz.prog) Tryz.underlying23 rfl (some ⟨gb, off, none⟩) 512 ca (6 + 2 * k) .i64 (by omega) w; have hck : ((6 + 2 * k : Nat) : Int) = 6 + 2 * (k : Int) := by omega
    rw [if_neg (by omega), hck] at hsk; simp only [Option.map_some, Addr.add_mid] at hsk; clear hck; have HSK : Hid (∀ w, (Instr.sliceAt 23 (.slice (some ⟨gb, off, none⟩) 512 ca) (some (.int .i64 (6 + 2 * (k : Int)))) none none).run Tryz.prog w = .ok (.slice (some ⟨gb, off + (6 + 2 * k), none⟩) (512 - (6 + 2 * k)) (ca - (6 + 2 * k))) w) := lh hsk; have hvk := HVW.out.from_ (6 + 2 * k) (by have := HL.out; omega); rw [if_neg (by omega), HL.out] at hvk; simp only [Option.map_some, Addr.add_mid] at hvk; have hfd : Fr [bc] w1 wr.drew := HFK.out.drew; have HHK := lh (half16_any (hvk.fr hfd (by have := HG.out; simpa using this)) (by rw [List.length_drop]; have := HL.out; omega)); clear hvk hfd; go_upto_region 8 with fail
    refine wp_region_K (fun _ => True) [0, 1, 2, 3, 4, 5, 6, 8, 9, 10] (by kernel_rfl) ?_; refine tks [0, 1, 2, 3, 4, 5] ?_
    iterate 6 (refine tk rfl rfl trivial rfl (fun _ _ => by go_simp <;> with_reducible rfl) ?_; simp only [nrm])
    refine tke ?_; refine tv 6 (.slice (some ⟨gb, off + (6 + 2 * k), none⟩) (512 - (6 + 2 * k)) (ca - (6 + 2 * k))) rfl rfl trivial (.inl ⟨rfl, fun W _ => exec_slice rfl rfl rfl rfl (HSK.out W)⟩) ?_; simp only [nrm]; refine tks [8, 9] ?_
    iterate 2 (refine tk rfl rfl trivial rfl (fun _ _ => by go_simp <;> with_reducible rfl) ?_; simp only [nrm])
    refine tke ?_; refine sp 7 rfl rfl rfl fun K hK => ?_; refine wp_call_f (l := [.tmp 33]) rfl [.slice (some ⟨gb, off + (6 + 2 * k), none⟩) (512 - (6 + 2 * k)) (ca - (6 + 2 * k))] rfl (enter_h16 _) (HHK.out.mono ?_); rintro e w7 ⟨rfl, q7, rfl⟩; refine ⟨_, rfl, hK _ _ (fun _ => trivial) ?_⟩; simp only [nrm]; clear hK HHK; have HB7 := lh (HBK.out.fr (((Fr.refl [] wr).drew).drewN q7) (by simp)); have HF7 := lh (HFK.out.drew.drewN q7); generalize wr.drew.drewN q7 = w7 at *; have hfz := HB7.out.free (2 + k); have hlt := HB7.out.lt; have hck := HB7.out.at_ (chC_root _ g bn bs hk8); refine tks [10] ?_; refine tk rfl rfl trivial rfl (fun _ _ => by go_simp <;> with_reducible rfl) ?_; simp only [nrm]; refine tke ?_; refine wpAnyK_step (j := 11) none rfl rfl (by kernel_rfl) rfl fun K hK => ?_; refine wp_run_skip (w' := w7.setCell ⟨bc, 2 + k, none⟩ (.int .i64 ((r16 (b.drop (6 + 2 * k)) : Nat) : Int))) (by go_simp) (hK _ _ (fun _ => trivial) ?_); simp only [Act.put]; clear hK; refine wd ?_ _
    have HX : Hid (∃ j : Nat, j <= 8 /\ Value.int .i64 ((k : Int) + 1) = .int .i64 (j : Int) /\ Blk (w7.setCell ⟨bc, 2 + k, none⟩ (.int .i64 ((r16 (b.drop (6 + 2 * k)) : Nat) : Int))) bc 84 (chC (rdK pg n b j) g bn bs) /\ Fr [bc] w1 (w7.setCell ⟨bc, 2 + k, none⟩ (.int .i64 ((r16 (b.drop (6 + 2 * k)) : Nat) : Int)))) := lh ⟨k + 1, hk8, rfl, by
     have h := HB7.out.set_ (2 + k) (.int .i64 ((r16 (b.drop (6 + 2 * k)) : Nat) : Int)); rw [chC_set _ g bn bs hk8, rdK_root] at h; exact h, HF7.out.setCell (.inl (by simp)) _⟩
    clear hfz hlt hck HB7 HF7; go_wp2_with fail
    go_roundw
    case rel => exact HX.out
    case measure => simp [intOf]; omega
   ·obtain rfl : k = 8 := by omega
    have y0 := fr_keepS HFK.out (by have := HG.out; simpa using this) HX0.out; have y1 := fr_keepS HFK.out (by have := HG.out; simpa using this) HX1.out; have c0 := HBK.out.at_ (i := 0) (v := .int .i64 ((r16 (b.drop 2) : Nat) : Int)) rfl; have hpos : (0 : Int) < ((r16 (b.drop 2) : Nat) : Int) := by have := HNX.out; omega
    have hposn : 0 < r16 (b.drop 2) := by have := HNX.out; omega
    have HX : Hid (R (.returned (.bool true)) wr) := lh (HQ.out _ _ ⟨rfl, by
     rw [HEN.out]; exact HBK.out, (HF1.out.mono (by simp)).trans HFK.out (fun q hq => .inl hq)⟩)
    go_wp2_with fail; exact HX.out
section
variable {P : Program} {md : Region.Mode} {ops : Array Oper} {Q : Exit -> Act -> World -> Prop} {S1 S2 : World -> Prop} {I : List Nat}
theorem wpAnyK_strong (hS : ∀ W, S1 W -> S2 W) : ∀ (fuel : Nat) {listed : Array Bool} {a : Act} {w : World}, wpAnyK P md ops Q S1 I fuel listed a w -> wpAnyK P md ops Q S2 I fuel listed a w
 | 0, _, _, _, h => h
 | fuel + 1, _listed, _a, _w, h => ⟨h.1, fun i hi => wpOp_mono (fun _ _ h' => ⟨fun hc => hS _ (h'.1 hc), wpAnyK_strong hS fuel h'.2⟩) (h.2 i hi)⟩
end
theorem cell_lt {w : World} {g j : Nat} {v : Value} (h : w.cell? ⟨g, j, none⟩ = some v) : g < w.heap.size := by
 rcases Nat.lt_or_ge g w.heap.size with h1 | h1
 ·exact h1
 ·have : w.cell? ⟨g, j, none⟩ = none := by simp [World.cell?, Array.getElem?_eq_none h1]
  rw [h] at this; cases this
theorem at_blk_lt {w : World} {v : Value} {bs : List UInt8} {g : Nat} (h : BytesAt w v bs g) (h0 : 0 < bs.length) : g < w.heap.size := by
 obtain ⟨A, c, off, _, _, hc⟩ := h; exact cell_lt ((hc h0).2 0 (B8 bs[0]) (by rw [bcells_at, List.getElem?_eq_getElem h0]; rfl))
def Dm_ (X : Nat -> Prop) (w : World) (bc bn bs : Nat) : Nat -> Prop := fun q => (X q ∨ w.heap.size <= q) /\ q ≠ bc /\ q ≠ bn /\ q ≠ bs
theorem begin_wf {pg : Nat -> List UInt8} {n : Nat} {E : Nat -> En} (h : Store pg n E) : WfW (beginC pg n) := by
 obtain ⟨_, hp, P, F, hF⟩ := h; obtain ⟨e1, e2, e3, e4, e5⟩ := begin_pg pg n; refine ⟨hF.acc.few, hF.acc.next2, hF.acc.head, ?_, hF.acc.wf.rM, hF.acc.wf.rS, ?_, ?_, fun t => ?_⟩
 ·rw [e1, e2]; exact hp
 ·rw [e3]; simp
 ·rw [e4]; simp
 ·unfold beginC
  split
  ·show 0 < 65536; omega
  ·exact r16_lt _
theorem enter_spread (vs : Array Value) (w : World) : (callFunc 61 vs).run Tryz.prog w = .ok (.enter 61 vs) w := by kernel_rfl
theorem enter_pages (vs : Array Value) (w : World) : (callFunc 62 vs).run Tryz.prog w = .ok (.enter 62 vs) w := by kernel_rfl
section
variable {w0 w : World} {dk g st : Nat} {s : PS} {X : Nat -> Prop} {E : Nat -> En}
/-- A change of nothing yet. -/
theorem begin_st (hp : PgX w0 w dk g s X) (hbr : s.br = false) (hcalm : Calm s) (hst : w.cell? ⟨st, 0, none⟩ = some (.pointer (some ⟨g, 0, none⟩))) (hS : Store s.page s.n E) :
  Calls Tryz.prog 31 #[.pointer (some ⟨st, 0, none⟩)] w fun e w' => ∃ bc bn bs, e = .returned (.tuple #[.pointer (some ⟨bc, 0, none⟩), .int .i64 0]) /\ ChAt w w' g bc bn bs (Dm_ X w bc bn bs) (beginC s.page s.n) := by
 have hwf := begin_wf hS; obtain ⟨hmk, hpl, P, F, hF⟩ := hS; have hn1 : 1 <= s.n := by have := hF.acc.next1; have := hF.acc.next2; have := (begin_pg s.page s.n).2.1; omega
 have hnx1 := hF.acc.next1; have hnx2 := hF.acc.next2; rw [(begin_pg s.page s.n).2.1] at hnx2; have HRD := lh (read_Y hp hbr hcalm 0 hn1); have HPL := lh (hpl 0 hn1); have HMK := lh hmk; have HWF := lh hwf; have HP := lh hp; have HN1 := lh hnx1; have HN2 := lh hnx2; have HN4 := lh hwf.n; clear hp hbr hcalm hwf hmk hpl hF hn1 hnx1 hnx2; have hmm := @run_makeMap Tryz.prog; refine calls_post fun R HQ => ?_
 go_enter Tryz.func31, Tryz.ntmps31
 go_wp2_with fail; refine HRD.out.mono ?_; rintro e w1 ⟨v, gb, rfl, hv, hgb, hf1⟩; have hst1 := fr_keep hf1 hst; have HV := lh hv; have HF1 := lh hf1; have HGB := lh hgb; clear hv hf1 hgb hst; go_upto_region 7 with fail
 have hfw : Fr [] w1 (((w1.alloc (.map #[] 0)).alloc (.map #[] 0)).alloc (.cells (chC (rdZ s.page s.n) g w1.heap.size (w1.heap.size + 1)).toArray 84)) := (((Fr.refl [] w1).alloc _).alloc _).alloc _; have hm1 : VAt (((w1.alloc (.map #[] 0)).alloc (.map #[] 0)).alloc (.cells (chC (rdZ s.page s.n) g w1.heap.size (w1.heap.size + 1)).toArray 84)) w1.heap.size [] := (VAt.new w1).fr (((Fr.refl [] _).alloc _).alloc _) (by simp)
 have hm2 : VAt (((w1.alloc (.map #[] 0)).alloc (.map #[] 0)).alloc (.cells (chC (rdZ s.page s.n) g w1.heap.size (w1.heap.size + 1)).toArray 84)) (w1.heap.size + 1) [] := by
  have := (VAt.new (w1.alloc (.map #[] 0))).fr ((Fr.refl [] _).alloc (.cells (chC (rdZ s.page s.n) g w1.heap.size (w1.heap.size + 1)).toArray 84)) (by simp)
  rwa [World.size_alloc] at this
 have hb1 : Blk (((w1.alloc (.map #[] 0)).alloc (.map #[] 0)).alloc (.cells (chC (rdZ s.page s.n) g w1.heap.size (w1.heap.size + 1)).toArray 84)) (w1.heap.size + 1 + 1) 84 (chC (rdZ s.page s.n) g w1.heap.size (w1.heap.size + 1)) := by
  have := Blk.new ((w1.alloc (.map #[] 0)).alloc (.map #[] 0)) 84 (chC (rdZ s.page s.n) g w1.heap.size (w1.heap.size + 1))
  rwa [World.size_alloc, World.size_alloc] at this
 have hz1 := HF1.out.size
 show Code.wp _ _ _ _ (((w1.alloc (.map #[] 0)).alloc (.map #[] 0)).alloc (.cells (chC (rdZ s.page s.n) g w1.heap.size (w1.heap.size + 1)).toArray 84))
 generalize ((w1.alloc (.map #[] 0)).alloc (.map #[] 0)).alloc (.cells (chC (rdZ s.page s.n) g w1.heap.size (w1.heap.size + 1)).toArray 84) = w2 at *; obtain ⟨bn, hbn⟩ := nm (w1.heap.size); rw [<- hbn] at hm1 hm2 hb1 hz1 ⊢; have hlt2 := hb1.lt
 have hgb2 : gb ≠ bn + 1 + 1 := fun e => by
  have := at_blk_lt HV.out (by rw [HPL.out]; omega); omega
 have hge := HGB.out; have HLT := lh hlt2; have HZ1 := lh hz1; have HM1 := lh hm1; have HM2 := lh hm2; have HFW := lh hfw; have hb1' := hb1.fr (w' := w2.drew) ((Fr.refl [] w2).drew) (by simp)
 have HRS := lh (read_sp hb1' (HV.out.fr (hfw.trans ((Fr.refl [] w2).drew) (by simp)) (by simp)) hgb2 HPL.out (by
  rcases HMK.out with h | h
  ·exact .inl h
  ·exact .inr h) (by rw [rdC_begin]; exact HN1.out))
 have hst2 : w2.drew.cell? ⟨st, 0, none⟩ = some (.pointer (some ⟨g, 0, none⟩)) := fr_keep ((Fr.refl [] w2).drew) (fr_keep hfw hst1)
 have hstn : st ≠ bn + 1 + 1 := fun e => by
  have h1 : st < w1.heap.size := cell_lt hst1; omega
 have HSTN := lh hstn; have HBN := lh hbn; clear hm1 hm2 hb1 hfw hgb2 hge hst1 hstn hlt2 hz1 hb1' hbn hmm; refine wp_region_K (fun W => W.cell? ⟨st, 0, none⟩ = some (.pointer (some ⟨g, 0, none⟩)) /\ True) [0, 1, 2, 3, 5, 6, 7, 8, 9, 10, 11, 12, 13, 14, 15, 17, 18] (by kernel_rfl) ?_; refine tks [0, 1, 2, 3] ?_
 iterate 4 (refine tk rfl rfl ⟨hst2, trivial⟩ rfl (fun _ hW => by (obtain ⟨q0, _⟩ := hW; go_simp) <;> with_reducible rfl) ?_; simp only [nrm])
 refine tke ?_; refine wpAnyK_strong (S1 := fun W => W.cell? ⟨st, 0, none⟩ = some (.pointer (some ⟨g, 0, none⟩)) /\ W.cell? ⟨bn + 1 + 1, 0, none⟩ = some (.int .i64 (((beginC s.page s.n).next : Nat) : Int))) (fun W h => ⟨h.1, trivial⟩) _ ?_; refine sp 4 rfl rfl rfl fun K hK => ?_; refine wp_call_f (l := [.tmp 37, .tmp 38]) rfl [.pointer (some ⟨bn + 1 + 1, 0, none⟩), v] rfl (enter_spread _) (HRS.out.mono ?_); rintro e w3 ⟨rfl, hb3, hf3⟩; rw [rdC_begin] at hb3; have hst3 := fr_keepS hf3 (by simpa using HSTN.out) hst2; have hn3 := hb3.at_ (i := 0) (v := .int .i64 (((beginC s.page s.n).next : Nat) : Int)) rfl; refine ⟨_, rfl, hK _ _ (fun _ => ⟨hst3, hn3⟩) ?_⟩; simp only [nrm]; clear hK HRS; refine tks [5, 6, 7, 8, 9, 10, 11, 12, 13, 14, 15] ?_
 iterate 11 (refine tk rfl rfl ⟨hst3, hn3⟩ rfl (fun _ hW => by (obtain ⟨q0, q1⟩ := hW; go_simp) <;> with_reducible rfl) ?_; simp only [nrm])
 refine tke ?_
 have hf3' : Fr [] w w3 := by
  have h1 := (HF1.out.trans HFW.out (by simp)).drew; refine h1.trans hf3 fun q hq => .inr ?_; obtain rfl := List.mem_singleton.1 hq; have := HZ1.out; omega
 refine wpAnyK_stepg (j := 16) (some 51) rfl rfl (by kernel_rfl) rfl fun K hK => ?_; refine wp_call_f (l := [.tmp 50]) rfl [.pointer (some ⟨g, 0, none⟩)] rfl (enter_pages _) ((pages_Y (HP.out.stay hf3')).mono ?_); rintro e w4 ⟨rfl, rfl⟩; refine ⟨_, rfl, hK _ _ (fun _ => ⟨hst3, hn3⟩) ?_⟩; simp only [nrm]; clear hK; have hle : ¬ ((s.n : Nat) : Int) < (((beginC s.page s.n).next : Nat) : Int) := by have := HN2.out; omega
 refine tks [17, 18] ?_
 iterate 2 (refine tk rfl rfl ⟨hst3, hn3⟩ rfl (fun _ hW => by (obtain ⟨q0, q1⟩ := hW; go_simp) <;> with_reducible rfl) ?_; simp only [nrm])
 refine tke ?_; refine wd ?_ _; have hz3 := hf3.size; have HX := lh (HQ.out _ _ ⟨bn + 1 + 1, bn, bn + 1, rfl, ⟨hf3', by have := HZ1.out; omega, HZ1.out, by have := HZ1.out; omega, by omega, hb3, ⟨[], (HM1.out.fr ((Fr.refl [] _).drew) (by simp)).fr hf3 (by simp; omega), by rw [(begin_pg s.page s.n).2.2.1]; trivial⟩, ⟨[], (HM2.out.fr ((Fr.refl [] _).drew) (by simp)).fr hf3 (by simp), by rw [(begin_pg s.page s.n).2.2.2.1]; trivial⟩, fun q hq => hq.2, HWF.out⟩⟩); clear hst3 hn3 hb3 hf3 hf3' hst2; go_wp2_with fail; exact HX.out
end
theorem grow_pre {c c' : CD} {m h k : Nat} {lo hi : Option Ky} {E : En} {u : Ky × Nat} {R : List Nat} (hl : Left c c' m h k lo hi E u R) :
  u.2 ≠ 0 -> 1 <= u.1.length /\ u.1.length <= 96 /\ u.2 < 65536 /\ c'.e = 0 /\ 0 < c'.n /\ (c'.head ≠ 0 -> c'.head < c'.n /\ ∃ j, c'.nx c'.head = some j) := fun hu => by
 obtain ⟨_, ⟨e0, P, F, ha, _, hres⟩ | ⟨_, u0, _⟩⟩ := hl
 ·rcases hres with ⟨u0, _⟩ | ⟨_, u1, u2, _, _, E1, P1, E2, P2, s1, s2, rfl, rfl⟩
  ·exact absurd u0 hu
  ·have hm2 := (ha.mem (k := u.2) (.inl (List.mem_append_left _ (List.mem_append_right _ s2.head)))).2; have := ha.next2; have := ha.few; have := ha.next1; exact ⟨u1, u2, by omega, e0, by omega, head_ok ha⟩
 ·exact absurd u0 hu
def restE (E : Nat -> En) (t : Nat) : En := ((List.range 8).erase t).flatMap E
theorem tree_pages {N : Nat -> Option Nd} {r : Nat} {E : En} {P : List Nat} (h : Tree N r E P) : P.length <= 2 * E.length := by
 rcases h with ⟨_, rfl, rfl⟩ | ⟨_, h, hs⟩
 ·simp
 ·have := hs.count.1; omega
theorem flat_le {P : Nat -> List Nat} {E : Nat -> En} : ∀ {l : List Nat}, (∀ s ∈ l, (P s).length <= 2 * (E s).length) -> (l.flatMap P).length <= 2 * (l.flatMap E).length
 | [], _ => by simp
 | s :: l, h => by
  have h1 := h s (List.mem_cons_self ..); have h2 := flat_le (l := l) fun q hq => h q (List.mem_cons_of_mem _ hq); rw [List.flatMap_cons, List.flatMap_cons, List.length_append, List.length_append]; omega
theorem rest_pages {c : CD} {E : Nat -> En} {P : Nat -> List Nat} {F : List Nat} (h : Forest c E P F) (t : Nat) : (restP P t).length <= 2 * (restE E t).length :=
 flat_le fun s hs => tree_pages (h.tree s (List.mem_range.1 (List.mem_of_mem_erase hs)))
def Wr (s s' : PS) : Prop := ∃ l : List (Nat × List UInt8), (∀ p ∈ l, p.1 < s.n /\ p.2.length <= 512) /\ s' = l.foldl (fun s p => s.write p.1 p.2) s
theorem Wr.refl (s : PS) : Wr s s := ⟨[], fun _ h => (by cases h), rfl⟩
theorem foldw_same : ∀ (l : List (Nat × List UInt8)) {s s' : PS}, SameS s s' -> SameS s (l.foldl (fun s p => s.write p.1 p.2) s')
 | [], _, _, h => h
 | _ :: l, _, _, h => foldw_same l (h.write _ _)
theorem Wr.same {s s' : PS} (h : Wr s s') : SameS s s' := by
 obtain ⟨l, _, rfl⟩ := h; exact foldw_same l (SameS.refl s)
theorem Wr.end_ {s : PS} {c : CD} (hwf : WfW c) (hn : c.n = s.n) (h0 : 0 < c.n) : Wr s (endS s c) := by
 refine ⟨(c.M.map fun p => (p.1, p.2.written)) ++ (c.S.map fun p => (p.1, b16 p.2)) ++ [(0, spaceB c)], fun p hp => ?_, ?_⟩
 ·rcases List.mem_append.1 hp with hp | hp
  ·rcases List.mem_append.1 hp with hp | hp
   ·obtain ⟨q, hq, rfl⟩ := List.mem_map.1 hp; obtain ⟨a, b, d⟩ := hwf.mM q hq; exact ⟨by show q.1 < s.n; omega, by show q.2.written.length <= 512; rw [Nd.written_len]; exact d⟩
   ·obtain ⟨q, hq, rfl⟩ := List.mem_map.1 hp; obtain ⟨a, b⟩ := hwf.mS q hq; exact ⟨by show q.1 < s.n; omega, by show 2 <= 512; omega⟩
  ·obtain rfl := List.mem_singleton.1 hp; exact ⟨by show 0 < s.n; omega, by show (spaceB c).length <= 512; rw [spaceB_len]; omega⟩
 ·unfold endS endF endM; rw [List.foldl_append, List.foldl_append, List.foldl_map, List.foldl_map]
  rfl
theorem store_to {s : PS} {c : CD} {E : Nat -> En} {P : Nat -> List Nat} {F : List Nat} (hF : Forest c E P F) (hp : c.pg = s.page) (hn : c.n = s.n) (hwf : WfW c) : Store (endS s c).page s.n E := by
 have h1 := store_end hF (by exact hwf.pg)
 have e : (endS s c).page = endPg c := by
  funext j
  exact endS_page hwf.rM hwf.rS hp j
 rw [e, <- hn]; exact h1
structure StX (w0 w : World) (dk g st : Nat) (s : PS) (X : Nat -> Prop) (E : Nat -> En) : Prop where
 px : PgX w0 w dk g s X
 blk : Blk w st 125 [.pointer (some ⟨g, 0, none⟩)]
 xs : X st
 br : s.br = false
 calm : Calm s
 store : Store s.page s.n E
section
variable {w0 w w' : World} {dk g st : Nat} {s s' : PS} {X : Nat -> Prop} {E E' : Nat -> En}
theorem StX.fr (h : StX w0 w dk g st s X E) (hf : Fr [] w w') : StX w0 w' dk g st s (More X w w') E := ⟨h.px.fr hf, h.blk.fr hf (by simp), .inl h.xs, h.br, h.calm, h.store⟩
theorem StX.stay (h : StX w0 w dk g st s X E) (hf : Fr [] w w') : StX w0 w' dk g st s X E := ⟨h.px.stay hf, h.blk.fr hf (by simp), h.xs, h.br, h.calm, h.store⟩
theorem StX.kept (h : StX w0 w dk g st s X E) (hp : PgX w0 w' dk g s' X) (hk : Kp X w w') (hs : SameS s s') (hS : Store s'.page s.n E') : StX w0 w' dk g st s' X E' := ⟨hp, hk.blk h.blk h.xs, h.xs, by rw [hs.br]; exact h.br, hs.calm h.calm, by rw [hs.n]; exact hS⟩
theorem StX.pgc (h : StX w0 w dk g st s X E) : PgC w0 w dk g s X (beginC s.page s.n) := ⟨h.px, h.br, h.calm, (begin_pg _ _).1, (begin_pg _ _).2.1⟩
theorem StX.begin (h : StX w0 w dk g st s X E) :
  Calls Tryz.prog 31 #[.pointer (some ⟨st, 0, none⟩)] w fun e w' => ∃ bc bn bs, e = .returned (.tuple #[.pointer (some ⟨bc, 0, none⟩), .int .i64 0]) /\ ChAt w w' g bc bn bs (Dm_ X w bc bn bs) (beginC s.page s.n) :=
 begin_st h.px h.br h.calm (h.blk.at_ (i := 0) rfl) h.store
theorem ChAt.top {wS : World} {bc bn bs : Nat} {c : CD} (h : ChAt wS w g bc bn bs (Dm_ X wS bc bn bs) c) : ∀ q, w.heap.size <= q -> Dm_ X wS bc bn bs q := fun q hq => by
 have h1 := h.blk.lt; obtain ⟨vs, v1, _⟩ := h.nodes; obtain ⟨ss, s1, _⟩ := h.spare; have h2 := v1.lt; have h3 := s1.lt; have h4 := h.fr.size; exact ⟨.inr (by omega), by omega, by omega, by omega⟩
theorem StX.key {bc bn bs gk : Nat} {kv : Value} {key : Ky} (h : StX w0 w dk g st s X E) (hk : BytesAt w kv key gk) (hX : X gk) (h1 : w.heap.size <= bc) (h2 : w.heap.size <= bn) (h3 : w.heap.size <= bs) (hf : Fr [] w w') : ∃ q, BytesAt w' kv key q /\ Dm_ X w bc bn bs q := by
 have hlt : gk < w.heap.size := by obtain ⟨_, _, _, _, _, _, _, h4⟩ := h.px; exact h4 gk hX
 exact ⟨gk, hk.fr hf (by simp), .inl hX, by omega, by omega, by omega⟩
/-- The store of a pager. -/
theorem Open_X (hp : PgX w0 w dk g s X) (hbr : s.br = false) (hcalm : Calm s) (hS : Store s.page s.n E) :
  Calls Tryz.prog 25 #[.pointer (some ⟨g, 0, none⟩)] w fun e w' => ∃ st, e = .returned (.tuple #[.pointer (some ⟨st, 0, none⟩), .int .i64 0]) /\ StX w0 w' dk g st s (More X w w') E /\ Fr [] w w' := by
 obtain ⟨wb, hwb⟩ := nm (w.alloc (.cells #[.pointer (some ⟨g, 0, none⟩)] 125)); have hf : Fr [] w wb := by rw [hwb]; exact (Fr.refl [] w).alloc _
 have hb : Blk wb w.heap.size 125 [.pointer (some ⟨g, 0, none⟩)] := by rw [hwb]; exact Blk.new w _ [.pointer (some ⟨g, 0, none⟩)]
 have hbg := begin_st (hp.stay hf) hbr hcalm (hb.at_ (i := 0) rfl) hS; refine calls_post fun R HQ => ?_; have HB := lh hb; have HF := lh hf; have HBG := lh hbg; have HP := lh hp; have HS := lh hS; have HC := lh hcalm; have HBR := lh hbr; clear hb hf hbg hp hS hcalm hbr
 go_enter Tryz.func25, Tryz.ntmps25
 go_upto_region 2 with fail
 rw [<- hwb]; clear hwb; go_wp2_with fail; refine HBG.out.mono ?_; rintro e w2 ⟨bc, bn, bs, rfl, hch⟩; have hf2 : Fr [] w w2 := HF.out.trans hch.fr (by simp); have HX := lh (HQ.out _ _ ⟨w.heap.size, rfl, ⟨HP.out.fr hf2, HB.out.fr hch.fr (by simp), .inr ⟨Nat.le_refl _, by have := HB.out.lt; have := hch.fr.size; omega⟩, HBR.out, HC.out, HS.out⟩, hf2⟩); clear hf2 hch; go_wp2_with fail; exact HX.out
end
def mayB (t : Int) (key : Ky) : Bool := decide (0 <= t) && decide (t < 8) && decide (0 < key.length) && decide (key.length <= 96)
/-- May a tree, and a key, be? -/
theorem may_any {w : World} {kv : Value} {key : Ky} {gk : Nat} (t : Int) (hk : BytesAt w kv key gk) : Calls Tryz.prog 30 #[.int .i64 t, kv] w fun e w' => e = .returned (.bool (mayB t key)) /\ w = w' := by
 obtain ⟨A, c, _, rfl, _, _⟩ := hk; refine calls_post fun R HQ => ?_; have HX := lh (HQ.out _ _ ⟨rfl, rfl⟩)
 by_cases h1 : 0 <= t
 ·by_cases h2 : t < 8
  ·by_cases h3 : 0 < key.length
   ·have h3' : (0 : Int) < (key.length : Int) := by omega
    by_cases h4 : key.length <= 96
    ·have h4' : (key.length : Int) <= 96 := by omega
     have e : mayB t key = true := by unfold mayB; simp [h1, h2, h3, h4]
     rw [e] at HX
     go_enter Tryz.func30, Tryz.ntmps30
     go_wp2_with fail; exact HX.out
    ·have h4' : ¬ (key.length : Int) <= 96 := by omega
     have e : mayB t key = false := by unfold mayB; simp [h4]
     rw [e] at HX
     go_enter Tryz.func30, Tryz.ntmps30
     go_wp2_with fail; exact HX.out
   ·have h3' : ¬ (0 : Int) < (key.length : Int) := by omega
    have e : mayB t key = false := by unfold mayB; simp [h3]
    rw [e] at HX
    go_enter Tryz.func30, Tryz.ntmps30
    go_wp2_with fail; exact HX.out
  ·have e : mayB t key = false := by unfold mayB; simp [h2]
   rw [e] at HX
   go_enter Tryz.func30, Tryz.ntmps30
   go_wp2_with fail; exact HX.out
 ·have e : mayB t key = false := by unfold mayB; simp [h1]
  rw [e] at HX
  go_enter Tryz.func30, Tryz.ntmps30
  go_wp2_with fail; exact HX.out
theorem putC_parts {c : CD} {E : Nat -> En} {P : Nat -> List Nat} {F : List Nat} {t : Nat} {x : It} (h : Forest c E P F) (ht : t < 8) (hx : x.ok true) (hE : (E t).length < 1099511627776) (hr : c.roots t ≠ 0) :
  ∃ c1 u, PutW 40 c (c.roots t) x c1 u /\ putC c t x = some (growC c1 t u) /\ (c1.pg = c.pg /\ c1.n = c.n) /\ c1.roots t = c.roots t /\ (u.2 ≠ 0 -> 1 <= u.1.length /\ u.1.length <= 96 /\ u.2 < 65536 /\ c1.e = 0 /\ 0 < c1.n /\ (c1.head ≠ 0 -> c1.head < c1.n /\ ∃ j, c1.nx c1.head = some j)) := by
 have ha := h.acc.swap (allP_perm ht).symm; rcases h.tree t ht with ⟨r0, _, _⟩ | ⟨_, hh, hs⟩
 ·exact absurd r0 hr
 ·obtain ⟨c1, u, e1, hl⟩ := put_ok hh (f := 40) (height_lt hs hE) hs ha h.e hx (fun _ h => by cases h) (fun _ h => by cases h); refine ⟨c1, u, putW_ok hh (height_lt hs hE) hs ha h.e hx (fun _ h => by cases h) (fun _ h => by cases h) _ _ e1, ?_, ⟨hl.1.pg, hl.1.n⟩, by rw [hl.1.roots], grow_pre hl⟩; unfold putC; rw [if_neg hr, e1]
  rfl
theorem enter_grow (vs : Array Value) (w : World) : (callFunc 36 vs).run Tryz.prog w = .ok (.enter 36 vs) w := by kernel_rfl
def PutEnd (w0 : World) (dk g st : Nat) (s : PS) (X : Nat -> Prop) (E : Nat -> En) (t : Nat) (key v : Ky) (w : World) (e : Ending) (w' : World) : Prop :=
 ∃ s', Wr s s' /\ Kp X w w' /\ ((e = .returned (.int .i64 0) /\ StX w0 w' dk g st s' X (setR E t (putE (E t) key v))) ∨ (e = .returned (.int .i64 5) /\ s' = s /\ StX w0 w' dk g st s X E /\ s.n <= 2 * (putE (E t) key v).length + 2 * (restE E t).length))
section
variable {w0 w : World} {dk g st : Nat} {s : PS} {X : Nat -> Prop} {E : Nat -> En}
/-- Put. -/
theorem Put_X (h : StX w0 w dk g st s X E) {t : Nat} (ht : t < 8) {kv vv : Value} {key v : Ky} {gk gv : Nat} (hk : BytesAt w kv key gk) (hkX : X gk) (hv : BytesAt w vv v gv) (hvX : X gv) (h1 : 1 <= key.length) (h2 : key.length <= 96) (h3 : v.length <= 64) (hE : (E t).length < 1099511627776) :
  Calls Tryz.prog 10 #[.pointer (some ⟨st, 0, none⟩), .int .i64 (t : Int), kv, vv] w (PutEnd w0 dk g st s X E t key v w) := by
 have hlt : ∀ q, X q -> q < w.heap.size := by obtain ⟨_, _, _, _, _, _, _, h4⟩ := h.px; exact h4
 obtain ⟨_, _, P, F, hF⟩ := h.store; obtain ⟨c, hc⟩ := nm (beginC s.page s.n); rw [<- hc] at hF; obtain ⟨x, hx⟩ : ∃ x : It, x = ⟨key, v, 0⟩ := ⟨_, rfl⟩; have hxo : x.ok true := by rw [hx]; exact ⟨h1, h2, h3, by show 0 < 65536; omega, rfl⟩
 obtain ⟨c', hput, hsame, hres⟩ := put_forest (x := x) hF ht hxo hE; have hpc := h.pgc; rw [<- hc] at hpc; have hrp := rest_pages hF t
 have hmay : mayB (t : Int) key = true := by
  unfold mayB; have a1 : (0 : Int) <= (t : Int) := by omega
  have a2 : (t : Int) < 8 := by omega
  simp [a1, a2, h2]
  omega
 obtain ⟨Av, cv, _, rfl, hcv, hcellv⟩ := id hv; have hl64 : ¬ (64 : Int) < (v.length : Int) := by omega
 have H := lh h; have HC := lh hc; have HXX := lh hx; have HXO := lh hxo; have HPUT := lh hput; have HRES := lh hres; have HPC := lh hpc; have HRP := lh hrp; have HF := lh hF; have HPC2 : Hid (PgC w0 w dk g s X c') := lh (hpc.to ⟨hsame.pg, hsame.n⟩); have HMAY := lh (may_any (t : Int) hk); rw [hmay] at HMAY; have HK := lh hk; have HV := lh hv; have HKX := lh hkX; have HVX := lh hvX; have HLT := lh hlt; have HK2 := lh h2; have HV3 := lh h3; have HEE := lh hE; have HBG := lh h.begin; have hxk : x.key = key := by rw [hx]
 have hxv : x.v = v := by rw [hx]
 rw [hxk, hxv] at HRES; clear h hc hx hxo hput hres hpc hrp hF hsame hk hv hkX hvX hlt h1 h2 h3 hE hmay hcv hcellv; have ht8 : ((t : Nat) : Int) < 8 := by omega
 refine calls_post fun R HQ => ?_
 go_enter Tryz.func10, Tryz.ntmps10
 go_wp2_with fail; refine HMAY.out.mono ?_; rintro e w1 ⟨rfl, rfl⟩; go_wp2_with fail; refine HBG.out.mono ?_; rintro e w1 ⟨bc, bn, bs, rfl, hch⟩; rw [<- HC.out] at hch; have S0 := lh (Sx.start hch hch.top); have HCL := lh (bytes_clone (HK.out.fr hch.fr (by simp)) (by have := HK2.out; omega)); have HBC := lh hch.l1; clear hch HBG HMAY; go_wp2_with fail; refine HCL.out.mono ?_; rintro e w2 ⟨kv2, rfl, ⟨gk2, hk2, hgk2⟩, hf2⟩; obtain ⟨Ak, ck, _, rfl, _, _⟩ := id hk2; have S1 := lh ((S0.out.quiet hf2).key ⟨gk2, hk2, S0.out.offD _ hgk2⟩); have HCL2 := lh (bytes_clone (HV.out.fr S1.out.fin.1.fr (by simp)) (by have := HV3.out; omega)); clear hk2 hgk2 hf2 S0 HCL; go_wp2_with fail; refine HCL2.out.mono ?_; rintro e w3 ⟨vv2, rfl, ⟨gv2, hv2, hgv2⟩, hf3⟩; obtain ⟨Aw, cw, _, rfl, _, _⟩ := id hv2; have S2 := lh ((S1.out.quiet hf3).key ⟨gv2, hv2, S1.out.offD _ hgv2⟩); clear hv2 hgv2 hf3 S1 HCL2
 go_wp2_with (first
  | (with_reducible refine wpList_alloc_z rfl 77 rfl (.agg #[.slice none 0 0, .slice none 0 0, .int .i64 0]) zit.toArray zero_it rfl ?_)
  | (refine wpList_store_z (W := w3) rfl 77 (.tmp 11) (.tmp 38) rfl [.slice Ak key.length ck, .slice Aw v.length cw, .int .i64 0] rfl rfl rfl size_it rfl three_item ?_))
 intro w4 hb4 hf4 hz4; obtain ⟨p11, hp11⟩ := nm (w3.heap.size); rw [<- hp11] at hb4 ⊢; have S3 := lh (S2.out.new1 hf4 hb4 (by omega)); clear hf4 hb4 hz4 hp11 S2; have cr := (S3.out.ch.blk).at_ (chC_root c g bn bs ht)
 by_cases hr : c.roots t = 0
 case' pos =>
  have hcc : c' = (c.alloc.1.root t c.alloc.2).write c.alloc.2 ⟨true, 0, [x]⟩ := by
   have := HPUT.out; unfold putC at this; rw [if_pos hr] at this; exact (Option.some.inj this).symm
  subst hcc; rw [hr] at cr; have HR0 := lh hr; obtain ⟨nr, hnr⟩ : ∃ nr : Nd, nr = ⟨true, 0, [x]⟩ := ⟨_, rfl⟩; rw [<- hnr] at HRES HPC2; have hn0 : 0 < c.n := by have := HF.out.acc.next1; have := HF.out.acc.next2; omega
  have hh := head_ok HF.out.acc
  have ha2 : c.alloc.2 < c.n := by
   unfold CD.alloc
   split
   ·rename_i h; exact (hh h).1
   ·split
    ·assumption
    ·exact hn0
  have ha1 : c.alloc.1.n = c.n := alloc_n c; have hnok := one_ok HXO.out; rw [<- hnr] at hnok; have HA2 := lh ha2; have HA1 := lh ha1; have HHH := lh hh; have HNOK := lh hnok; have HNR := lh hnr; have HN4 := lh S3.out.fin.1.wf.n; clear hr hnr hn0 hh ha2 ha1 hnok; go_upto_region 8 with fail
  have S4 := lh (S3.out.quiet ((Fr.refl [] w4).drew)); clear S3 cr; have HAL := lh (alloc_ch HPC.out S4.out.ch HF.out.e HHH.out)
  apply tail1 (H := fun W => Hid (Sx w w1 g bc bn bs (Dm_ X w bc bn bs) ((p11, 77, [.slice Ak key.length ck, .slice Aw v.length cw, .int .i64 0]) :: []) [] (.by_ (.slice Aw v.length cw) v :: .by_ (.slice Ak key.length ck) key :: []) (c.alloc.1.root t c.alloc.2) W))
  case main =>
   intro TAIL; refine wp_region_K (fun _ => True) [0, 1, 2, 4, 5, 6, 7] (by kernel_rfl) ?_; refine tks [0, 1, 2, 4, 5, 6] ?_
   iterate 6 (refine tk rfl rfl trivial rfl (fun _ _ => by go_simp <;> with_reducible rfl) ?_; simp only [nrm])
   refine tke ?_; refine sp 3 rfl rfl rfl fun K hK => ?_; refine wp_call_f (l := [.tmp 49]) rfl [.pointer (some ⟨bc, 0, none⟩)] rfl (enter_alloc _) (HAL.out.mono ?_); rintro e w5 ⟨rfl, hc5, hf5⟩; refine ⟨_, rfl, hK _ _ (fun _ => trivial) ?_⟩; simp only [nrm]; have S5 := lh (S4.out.call hf5 (by simp) hc5); clear hK hc5 hf5; have hroot := S5.out.ch.root ht (v := c.alloc.2) (by have := HA2.out; have := HN4.out; omega); have hfz := S5.out.ch.blk.free (2 + t); have hcl := S5.out.ch.blk.at_ (chC_root _ g bn bs ht); refine tks [7] ?_; refine tk rfl rfl trivial rfl (fun _ _ => by go_simp <;> with_reducible rfl) ?_; simp only [nrm]; refine tke ?_; refine wpAnyK_step (j := 8) none rfl rfl (by kernel_rfl) rfl fun K hK => ?_; refine wp_run_skip (w' := w5.setCell ⟨bc, 2 + t, none⟩ (.int .i64 ((c.alloc.2 : Nat) : Int))) (by go_simp) (hK _ _ (fun _ => trivial) ?_); simp only [Act.put]; clear hK; refine wd ?_ _; exact TAIL _ (lh (S5.out.call hroot.2 (by simp) hroot.1))
  intro w5 S5; clear S4 HAL; have S6 := lh (S5.out.quiet ((Fr.refl [] w5).drew)); clear S5; have i0 := (S6.out.loc _ (.head _)).1.at_ (i := 0) rfl; have i1 := (S6.out.loc _ (.head _)).1.at_ (i := 1) rfl; have i2 := (S6.out.loc _ (.head _)).1.at_ (i := 2) rfl; have cr := S6.out.ch.blk.at_ (chC_root _ g bn bs ht); rw [show (c.alloc.1.root t c.alloc.2).roots t = c.alloc.2 by show (if t = t then _ else _) = _; rw [if_pos rfl]] at cr; obtain ⟨wx, hwx⟩ := nm (w5.drew.alloc (.cells ([.slice Ak key.length ck, .slice Aw v.length cw, .int .i64 0] : List Value).toArray 77)); have hfx : Fr [] w5.drew wx := by rw [hwx]; exact (Fr.refl [] _).alloc _
  have hbx : Blk wx w5.drew.heap.size 77 [.slice Ak key.length ck, .slice Aw v.length cw, .int .i64 0] := by rw [hwx]; exact Blk.new w5.drew _ [.slice Ak key.length ck, .slice Aw v.length cw, .int .i64 0]
  have HND0 := S6.out.row1 (n := nr) (x := x) (kv := .slice Ak key.length ck) (vv := .slice Aw v.length cw) (av := .int .i64 0) (by rw [HXX.out]; exact ⟨S6.out.kb (.tail _ (.head _)), S6.out.kb (.head _), rfl⟩) hfx hbx (Nat.le_refl _) (by rw [HNR.out]); rw [show kindOf nr = 1 by rw [HNR.out]; rfl, show nr.first = 0 by rw [HNR.out]] at HND0; have S7 := lh ((S6.out.quiet hfx).nd HND0); have HWR := lh (write_ch S7.out.ch (S7.out.kn (n := nr) (.head _)) (k := c.alloc.2) (by have := HA2.out; have := HA1.out; show _ < c.alloc.1.n; omega) HNOK.out.1 HNOK.out.2); have j0 := fr_keep hfx i0; have j1 := fr_keep hfx i1; have j2 := fr_keep hfx i2; have jr := fr_keep hfx cr; go_upto_region 9 with fail
  apply tail1 (H := fun W => Hid (Sx w w1 g bc bn bs (Dm_ X w bc bn bs) [] [] [] ((c.alloc.1.root t c.alloc.2).write c.alloc.2 nr) W))
  case main =>
   intro TAIL; refine wp_region_K (fun W => W.cell? ⟨bc, 2 + t, none⟩ = some (.int .i64 ((c.alloc.2 : Nat) : Int)) /\ W.cell? ⟨p11, 0, none⟩ = some (.slice Ak key.length ck) /\ W.cell? ⟨p11, 1, none⟩ = some (.slice Aw v.length cw) /\ W.cell? ⟨p11, 2, none⟩ = some (.int .i64 0)) [0, 1, 2, 3, 4, 5, 6, 7, 8, 10] (by kernel_rfl) ?_; refine tks [0, 1, 2, 3, 4, 5, 6, 7, 8] ?_
   iterate 9 (refine tk rfl rfl ⟨cr, i0, i1, i2⟩ rfl (fun _ hW => by (obtain ⟨q0, q1, q2, q3⟩ := hW; go_simp) <;> with_reducible rfl) ?_; simp only [nrm])
   refine tke ?_; obtain ⟨ti, hti, hz', hsz', hby⟩ := info_get info_it; refine sp 9 rfl rfl rfl fun K hK => ?_; refine wp_build_one (.tmp 63) rfl Tryz.underlying86 hti hz' [.slice Ak key.length ck, .slice Aw v.length cw, .int .i64 0] rfl hsz' rfl (by simp) (by simp) (hK _ _ (fun _ => by rw [<- hwx]; exact ⟨jr, j0, j1, j2⟩) ?_); simp only [nrm]; rw [<- hwx]; clear hK hti hz' hsz' hby; refine tv 10 (.agg #[.int .i64 1, .int .i64 ((0 : Nat) : Int), .slice (some ⟨w5.drew.heap.size, 0, none⟩) 1 1]) rfl rfl ⟨jr, j0, j1, j2⟩ (.inl ⟨rfl, fun W hW => by go_simp⟩) ?_; simp only [nrm]; refine sp 11 rfl rfl rfl fun K hK => ?_; refine wp_call_f (l := [.tmp 55, .tmp 62, .tmp 65]) rfl [.pointer (some ⟨bc, 0, none⟩), .int .i64 ((c.alloc.2 : Nat) : Int), .agg #[.int .i64 1, .int .i64 ((0 : Nat) : Int), .slice (some ⟨w5.drew.heap.size, 0, none⟩) 1 1]] rfl (enter_write _) (HWR.out.mono ?_); rintro e w6 ⟨rfl, hc6, hf6⟩; have S8 := lh (S7.out.call hf6 (by simp) hc6); have cr' := S8.out.ch.blk.at_ (chC_root _ g bn bs ht); rw [show ((c.alloc.1.root t c.alloc.2).write c.alloc.2 nr).roots t = c.alloc.2 by show (if t = t then _ else _) = _; rw [if_pos rfl]] at cr'; refine ⟨_, rfl, hK _ _ (fun _ => ⟨cr', (S8.out.loc _ (.head _)).1.at_ (i := 0) rfl, (S8.out.loc _ (.head _)).1.at_ (i := 1) rfl, (S8.out.loc _ (.head _)).1.at_ (i := 2) rfl⟩) ?_⟩; simp only [nrm]; clear hK hc6 hf6; refine wd ?_ _; exact TAIL _ (lh (S8.out.less (L' := []) (N' := []) (K' := []) (List.nil_sublist _) (List.Sublist.refl _) (by simp)))
  intro w6 S8; clear S6 S7 i0 i1 i2 j0 j1 j2 cr jr hfx hbx HND0 HWR hwx
 case' neg =>
  obtain ⟨c1, u, hPW, hpe, hs1, hrt, hgp⟩ := putC_parts HF.out ht HXO.out HEE.out hr; have hcc : c' = growC c1 t u := by rw [HPUT.out] at hpe; exact Option.some.inj hpe
  subst hcc; have hrI : ¬ ((c.roots t : Nat) : Int) = 0 := by omega
  have HPW := lh hPW; have HGP := lh hgp; have HR0 := lh hr; have HRT := lh hrt; have HPC1 := lh (HPC.out.to hs1); clear hPW hpe hs1 hgp hr hrt; go_upto_region 11 with fail
  have S4 := lh (S3.out.quiet ((Fr.refl [] w4).drew)); clear S3; have i0 := (S4.out.loc _ (.head _)).1.at_ (i := 0) rfl; have i1 := (S4.out.loc _ (.head _)).1.at_ (i := 1) rfl; have i2 := (S4.out.loc _ (.head _)).1.at_ (i := 2) rfl; have cr := S4.out.ch.blk.at_ (chC_root c g bn bs ht)
  have HPT := lh ((put_ch 40).go (deep := 0) (kv := .slice Ak key.length ck) (vv := .slice Aw v.length cw) (av := .int .i64 0) rfl HPW.out HPC.out S4.out.ch (by
   rw [HXX.out]; exact ⟨S4.out.kb (.tail _ (.head _)), S4.out.kb (.head _), rfl⟩) HXO.out S4.out.offD)
  apply tail3 (H := fun (_ : Option Addr) (_ : Nat) W => Hid (Sx w w1 g bc bn bs (Dm_ X w bc bn bs) [] [] [] (growC c1 t u) W))
  case main =>
   intro TAIL; refine wp_region_K (fun _ => True) [0, 1, 2, 3, 4, 5, 6, 7, 8] (by kernel_rfl) ?_; refine tks [0, 1, 2, 3, 4, 5, 6, 7, 8] ?_
   iterate 9 (refine tk rfl rfl trivial rfl (fun _ _ => by go_simp <;> with_reducible rfl) ?_; simp only [nrm])
   refine tke ?_; refine wpAnyK_two (i := 9) (j := 10) (some 78) (some 79) rfl rfl rfl rfl (by kernel_rfl) rfl rfl (fun K hK => ?_) (fun K hK => ?_)
   ·
    refine wp_run_same (v := .int .i64 ((c.roots t : Nat) : Int)) (by go_simp) (hK _ _ (fun _ => trivial) ?_); simp only [nrm]; clear hK; refine sp 10 rfl rfl rfl fun K hK => ?_; refine wp_run_same (v := .agg #[.slice Ak key.length ck, .slice Aw v.length cw, .int .i64 0]) (by go_simp) (hK _ _ (fun _ => trivial) ?_); simp only [nrm]; clear hK; refine sp 11 rfl rfl rfl fun K hK => ?_; refine wp_call_f (l := [.tmp 71, .tmp 78, .tmp 79, .const (.int .i64 0)]) rfl [.pointer (some ⟨bc, 0, none⟩), .int .i64 ((c.roots t : Nat) : Int), .agg #[.slice Ak key.length ck, .slice Aw v.length cw, .int .i64 0], .int .i64 ((0 : Nat) : Int)] rfl (enter_put _) (HPT.out.mono ?_); rintro e w5 ⟨uv, rfl, huv, hc5, hf5⟩; obtain ⟨Au, cu, rfl, hbu⟩ := huv.open_; have S5 := lh ((S4.out.call hf5 (by simp) hc5).key hbu); refine ⟨_, rfl, hK _ _ (fun _ => trivial) ?_⟩; simp only [nrm]; clear hK huv hc5 hf5; have HGR := lh (grow_ch (u := u) HPC1.out S5.out.ch ⟨_, rfl, S5.out.kb (.head _)⟩ S5.out.offD ht HGP.out); refine sp 12 rfl rfl rfl fun K hK => ?_; refine wp_call_f (l := [.tmp 69, .tmp 70, .tmp 80]) rfl [.pointer (some ⟨bc, 0, none⟩), .int .i64 (t : Int), .agg #[.slice Au u.1.length cu, .int .i64 ((u.2 : Nat) : Int)]] rfl (enter_grow _) (HGR.out.mono ?_); rintro e w6 ⟨rfl, hc6, hf6⟩; have S6 := lh (S5.out.call hf6 (by simp) hc6); refine ⟨_, rfl, hK _ _ (fun _ => trivial) ?_⟩; simp only [nrm]; clear hK hc6 hf6; refine wd ?_ _; exact TAIL Au cu w6 (lh (S6.out.less (L' := []) (N' := []) (K' := []) (List.nil_sublist _) (List.Sublist.refl _) (by simp)))
   ·
    refine wp_run_same (v := .agg #[.slice Ak key.length ck, .slice Aw v.length cw, .int .i64 0]) (by go_simp) (hK _ _ (fun _ => trivial) ?_); simp only [nrm]; clear hK; refine sp 9 rfl rfl rfl fun K hK => ?_; refine wp_run_same (v := .int .i64 ((c.roots t : Nat) : Int)) (by go_simp) (hK _ _ (fun _ => trivial) ?_); simp only [nrm]; clear hK; refine sp 11 rfl rfl rfl fun K hK => ?_; refine wp_call_f (l := [.tmp 71, .tmp 78, .tmp 79, .const (.int .i64 0)]) rfl [.pointer (some ⟨bc, 0, none⟩), .int .i64 ((c.roots t : Nat) : Int), .agg #[.slice Ak key.length ck, .slice Aw v.length cw, .int .i64 0], .int .i64 ((0 : Nat) : Int)] rfl (enter_put _) (HPT.out.mono ?_); rintro e w5 ⟨uv, rfl, huv, hc5, hf5⟩; obtain ⟨Au, cu, rfl, hbu⟩ := huv.open_; have S5 := lh ((S4.out.call hf5 (by simp) hc5).key hbu); refine ⟨_, rfl, hK _ _ (fun _ => trivial) ?_⟩; simp only [nrm]; clear hK huv hc5 hf5; have HGR := lh (grow_ch (u := u) HPC1.out S5.out.ch ⟨_, rfl, S5.out.kb (.head _)⟩ S5.out.offD ht HGP.out); refine sp 12 rfl rfl rfl fun K hK => ?_; refine wp_call_f (l := [.tmp 69, .tmp 70, .tmp 80]) rfl [.pointer (some ⟨bc, 0, none⟩), .int .i64 (t : Int), .agg #[.slice Au u.1.length cu, .int .i64 ((u.2 : Nat) : Int)]] rfl (enter_grow _) (HGR.out.mono ?_); rintro e w6 ⟨rfl, hc6, hf6⟩; have S6 := lh (S5.out.call hf6 (by simp) hc6); refine ⟨_, rfl, hK _ _ (fun _ => trivial) ?_⟩; simp only [nrm]; clear hK hc6 hf6; refine wd ?_ _; exact TAIL Au cu w6 (lh (S6.out.less (L' := []) (N' := []) (K' := []) (List.nil_sublist _) (List.Sublist.refl _) (by simp)))
  intro Au cu w6 S8; clear S4 HPT i0 i1 i2 cr
 all_goals
  rcases HRES.out with ⟨P2, F2, hF2⟩ | ⟨e5, hful⟩
  ·
   have HEN := lh (end_ch HPC2.out S8.out.fin.1 (fun q hq => hq.1) hF2.e (by have := hF2.acc.next1; have := hF2.acc.next2; omega)); have HST := lh (store_to hF2 HPC2.out.pg HPC2.out.n S8.out.fin.1.wf); have HWR := lh (Wr.end_ S8.out.fin.1.wf HPC2.out.n (by have := hF2.acc.next1; have := hF2.acc.next2; omega)); clear hF2; go_wp2_with fail; refine HEN.out.mono ?_; rintro e we ⟨rfl, hpx, hkp⟩; have hkk : Kp X w we := (Kp.of S8.out.fin.1.fr).more hkp; have HX := lh (HQ.out _ _ ⟨_, HWR.out, hkk, .inl ⟨rfl, H.out.kept hpx hkk HWR.out.same HST.out⟩⟩); clear hpx hkp hkk HEN; go_wp2_with fail; exact HX.out
  ·
   have HEN := lh (end_err S8.out.fin.1 (by rw [e5]; omega)); rw [e5] at HEN; have HFU := lh hful; clear e5 hful; go_wp2_with fail; refine HEN.out.mono ?_; rintro e we ⟨rfl, rfl⟩
   have HX := lh (HQ.out _ _ ⟨s, Wr.refl s, Kp.of S8.out.fin.1.fr, .inr ⟨rfl, rfl, H.out.stay S8.out.fin.1.fr, by
    have h1 := HFU.out; have h2 := HRP.out; have h3 := (begin_pg s.page s.n).2.1; rw [HC.out, h3] at h1; omega⟩⟩)
   clear HEN; go_wp2_with fail; exact HX.out
end
def hasE (E : En) (key : Ky) : Bool := E.any fun e => decide (e.1 = key)
theorem hasE_iff (E : En) (key : Ky) : hasE E key = true ↔ ∃ e ∈ E, e.1 = key := by
 unfold hasE; rw [List.any_eq_true]
 simp
theorem growC_same (c : CD) (t : Nat) (u : Ky × Nat) : (growC c t u).pg = c.pg /\ (growC c t u).n = c.n := by
 unfold growC
 split
 ·exact ⟨rfl, rfl⟩
 ·unfold CD.alloc
  split
  ·exact ⟨rfl, rfl⟩
  ·split
   ·exact ⟨rfl, rfl⟩
   ·unfold CD.full; split <;> exact ⟨rfl, rfl⟩
theorem setR_same (E : Nat -> En) (t : Nat) : setR E t (E t) = E := by
 funext j
 unfold setR
 split
 ·rename_i h; rw [h]
 ·rfl
theorem delC_parts {c : CD} {E : Nat -> En} {P : Nat -> List Nat} {F : List Nat} {t : Nat} {key : Ky} (h : Forest c E P F) (ht : t < 8) (hE : (E t).length < 1099511627776) (hr : c.roots t ≠ 0) :
  ∃ c1 is u, CutW 40 c (c.roots t) key c1 is u /\ (c1.pg = c.pg /\ c1.n = c.n) /\ (u.2 ≠ 0 -> 1 <= u.1.length /\ u.1.length <= 96 /\ u.2 < 65536 /\ c1.e = 0 /\ 0 < c1.n /\ (c1.head ≠ 0 -> c1.head < c1.n /\ ∃ j, c1.nx c1.head = some j)) /\
   (is = false -> growC c1 t u = c /\ delC c t key = some (c, false)) /\ (is = true -> delC c t key = (lowerC (growC c1 t u) t).map fun d => (d, true)) := by
 have ha := h.acc.swap (allP_perm ht).symm; rcases h.tree t ht with ⟨r0, _, _⟩ | ⟨_, hh, hs⟩
 ·exact absurd r0 hr
 ·obtain ⟨c1, is, u, e1, _, hno, hyes⟩ := cut_ok hh (f := 40) (key := key) (height_lt hs hE) hs ha h.e (fun _ h => by cases h) (fun _ h => by cases h); have hW := cutW_ok hh (height_lt hs hE) hs ha h.e (fun _ h => by cases h) (fun _ h => by cases h) _ _ _ e1
  have hd : delC c t key = if is then (lowerC (growC c1 t u) t).map fun d => (d, true) else some (c1, false) := by
   unfold delC; rw [if_neg hr, e1]
  refine ⟨c1, is, u, hW, hW.same, fun hu => ?_, fun hi => ?_, fun hi => by rw [hd, if_pos hi]⟩
  ·cases is with
   | false => exact absurd (hno rfl).2 hu
   | true => exact grow_pre (hyes rfl) hu
  ·obtain ⟨a, b⟩ := hno hi; subst a; refine ⟨by unfold growC; rw [if_pos b], by rw [hd, hi]; rfl⟩
def DelEnd (w0 : World) (dk g st : Nat) (s : PS) (X : Nat -> Prop) (E : Nat -> En) (t : Nat) (key : Ky) (w : World) (e : Ending) (w' : World) : Prop :=
 ∃ s', Wr s s' /\ Kp X w w' /\ ((e = .returned (.tuple #[.bool (hasE (E t) key), .int .i64 0]) /\ StX w0 w' dk g st s' X (setR E t (delE (E t) key))) ∨ (e = .returned (.tuple #[.bool false, .int .i64 5]) /\ s' = s /\ StX w0 w' dk g st s X E /\ s.n <= 2 * (delE (E t) key).length + 2 * (restE E t).length))
section
variable {w0 w : World} {dk g st : Nat} {s : PS} {X : Nat -> Prop} {E : Nat -> En}
/-- Delete. -/
theorem Delete_X (h : StX w0 w dk g st s X E) {t : Nat} (ht : t < 8) {kv : Value} {key : Ky} {gk : Nat} (hk : BytesAt w kv key gk) (hkX : X gk) (h1 : 1 <= key.length) (h2 : key.length <= 96) (hE : (E t).length < 1099511627776) :
  Calls Tryz.prog 15 #[.pointer (some ⟨st, 0, none⟩), .int .i64 (t : Int), kv] w (DelEnd w0 dk g st s X E t key w) := by
 have hlt : ∀ q, X q -> q < w.heap.size := by obtain ⟨_, _, _, _, _, _, _, h4⟩ := h.px; exact h4
 obtain ⟨_, _, P, F, hF⟩ := h.store; obtain ⟨c, hc⟩ := nm (beginC s.page s.n); rw [<- hc] at hF; obtain ⟨c', is, hdel, hsame, his, hno, hres⟩ := del_forest (key := key) hF ht hE
 have hhas : hasE (E t) key = is := by
  rw [Bool.eq_iff_iff, hasE_iff]; exact his.symm
 have hpc := h.pgc; rw [<- hc] at hpc; have hrp := rest_pages hF t
 have hmay : mayB (t : Int) key = true := by
  unfold mayB; have a1 : (0 : Int) <= (t : Int) := by omega
  have a2 : (t : Int) < 8 := by omega
  simp [a1, a2, h2]
  omega
 have H := lh h; have HC := lh hc; have HDEL := lh hdel; have HRES := lh hres; have HPC := lh hpc; have HRP := lh hrp; have HF := lh hF; have HHAS := lh hhas; have HPC2 : Hid (PgC w0 w dk g s X c') := lh (hpc.to ⟨hsame.pg, hsame.n⟩); have HMAY := lh (may_any (t : Int) hk); rw [hmay] at HMAY; have HK := lh hk; have HKX := lh hkX; have HLT := lh hlt; have HEE := lh hE; have HNO := lh hno; have HBG := lh h.begin; clear h hc hdel hres hpc hrp hF hsame hk hkX hlt h1 h2 hE hmay hhas his hno; have ht8 : ((t : Nat) : Int) < 8 := by omega
 refine calls_post fun R HQ => ?_
 go_enter Tryz.func15, Tryz.ntmps15
 go_wp2_with fail; refine HMAY.out.mono ?_; rintro e w1 ⟨rfl, rfl⟩; go_wp2_with fail; refine HBG.out.mono ?_; rintro e w1 ⟨bc, bn, bs, rfl, hch⟩; rw [<- HC.out] at hch; have S0 := lh (Sx.start hch hch.top); have HKD := lh (H.out.key HK.out HKX.out hch.l1 hch.l2 hch.l3 hch.fr); clear hch HBG HMAY; have cr := (S0.out.ch.blk).at_ (chC_root c g bn bs ht)
 by_cases hr : c.roots t = 0
 ·rw [hr] at cr
  have hEt : E t = [] := by
   rcases HF.out.tree t ht with ⟨_, h, _⟩ | ⟨h, _⟩
   ·exact h
   ·exact absurd hr h
  have HX := lh (HQ.out _ _ ⟨s, Wr.refl s, Kp.of S0.out.fin.1.fr, .inl ⟨by rw [hEt]; first | done | rfl, by
   have e : setR E t (delE (E t) key) = E := by
    rw [show delE (E t) key = E t by rw [hEt]; rfl, setR_same]
   rw [e]; exact H.out.stay S0.out.fin.1.fr⟩⟩)
  have HR0 := lh hr; clear hr hEt; go_wp2_with fail; exact HX.out
 ·obtain ⟨c1, is1, u, hCW, hs1, hgp, hf, htr⟩ := delC_parts (key := key) HF.out ht HEE.out hr; have hrI : ¬ ((c.roots t : Nat) : Int) = 0 := by omega
  have HCW := lh hCW; have HGP := lh hgp; have HR0 := lh hr; have HFF := lh hf; have HTR := lh htr; have HPC1 := lh (HPC.out.to hs1); clear hCW hs1 hgp hr hf htr; have HCT := lh ((cut_ch 40).go (deep := 0) rfl HCW.out HPC.out S0.out.fin.1 HKD.out S0.out.fin.1.top); go_wp2_with fail; refine HCT.out.mono ?_; rintro e w2 ⟨uv, rfl, huv, hc2, hf2⟩; obtain ⟨Au, cu, rfl, hbu⟩ := huv.open_; have S1 := lh ((Sx.start hc2 hc2.top).key (hbu.imp fun q hq => ⟨hq.1, hq.2, fun _ h => by simp at h, fun _ h => by simp at h⟩)); clear huv hc2 hf2 HCT S0 cr hbu
  go_wp2_with (first
   | (with_reducible refine wpList_alloc_z rfl 91 rfl (.agg #[.slice none 0 0, .int .i64 0]) zup.toArray zero_up rfl ?_)
   | (refine wpList_store_z (W := w2) rfl 91 (.tmp 11) (.tmp 51) rfl [.slice Au u.1.length cu, .int .i64 ((u.2 : Nat) : Int)] rfl rfl rfl size_up rfl two_cells ?_))
  intro w3 hb3 hf3 hz3; obtain ⟨p11, hp11⟩ := nm (w2.heap.size); rw [<- hp11] at hb3 ⊢; have S2 := lh (S1.out.new1 hf3 hb3 (by omega)); clear hf3 hb3 hz3 hp11 S1; have i0 := (S2.out.loc _ (.head _)).1.at_ (i := 0) rfl; have i1 := (S2.out.loc _ (.head _)).1.at_ (i := 1) rfl; have HGR := lh (grow_ch (u := u) HPC1.out S2.out.ch ⟨_, rfl, S2.out.kb (.head _)⟩ S2.out.offD ht HGP.out); go_wp2_with fail; refine HGR.out.mono ?_; rintro e w4 ⟨rfl, hc4, hf4⟩; have S3 := lh ((S2.out.call hf4 (by simp) hc4).less (L' := []) (N' := []) (K' := []) (List.nil_sublist _) (List.Sublist.refl _) (by simp)); clear hc4 hf4 HGR S2 i0 i1
  cases is1 with
  | false =>
   obtain ⟨hg1, hd1⟩ := HFF.out rfl; rw [hg1] at S3
   have hcc : c' = c /\ is = false := by
    rw [HDEL.out] at hd1; have := Option.some.inj hd1; exact ⟨congrArg Prod.fst this, congrArg Prod.snd this⟩
   obtain ⟨hcc1, hcc2⟩ := hcc; subst hcc2; rw [<- hcc1] at S3; clear hg1 hd1 hcc1; have hdf : True := trivial; rcases HRES.out with ⟨P2, F2, hF2⟩ | ⟨e5, hist, hful⟩
   ·
    have HEN := lh (end_ch HPC2.out S3.out.fin.1 (fun q hq => hq.1) hF2.e (by have := hF2.acc.next1; have := hF2.acc.next2; omega)); have HST := lh (store_to hF2 HPC2.out.pg HPC2.out.n S3.out.fin.1.wf); have HWR := lh (Wr.end_ S3.out.fin.1.wf HPC2.out.n (by have := hF2.acc.next1; have := hF2.acc.next2; omega)); clear hF2; go_wp2_with fail; refine HEN.out.mono ?_; rintro e we ⟨rfl, hpx, hkp⟩; have hkk : Kp X w we := (Kp.of S3.out.fin.1.fr).more hkp; have HX := lh (HQ.out _ _ ⟨_, HWR.out, hkk, .inl ⟨by rw [HHAS.out], H.out.kept hpx hkk HWR.out.same HST.out⟩⟩); clear hpx hkp hkk HEN; go_wp2_with fail; exact HX.out
   ·
    have HEN := lh (end_err S3.out.fin.1 (by rw [e5]; omega)); rw [e5] at HEN; have HFU := lh hful; have HIST := lh hist; clear e5 hful hist; go_wp2_with fail; refine HEN.out.mono ?_; rintro e we ⟨rfl, rfl⟩
    have HX := lh (HQ.out _ _ ⟨s, Wr.refl s, Kp.of S3.out.fin.1.fr, .inr ⟨rfl, rfl, H.out.stay S3.out.fin.1.fr, by
     have h1 := HFU.out; have h2 := HRP.out; have h3 := (begin_pg s.page s.n).2.1; rw [HC.out, h3] at h1; omega⟩⟩)
    clear HEN; go_wp2_with fail; exact HX.out
  | true =>
   have hl := HTR.out rfl; rw [HDEL.out] at hl
   cases hlc : lowerC (growC c1 t u) t with
   | none => rw [hlc] at hl; cases hl
   | some d =>
    rw [hlc] at hl
    have hcc : c' = d /\ is = true := by
     have := Option.some.inj hl; exact ⟨congrArg Prod.fst this, congrArg Prod.snd this⟩
    obtain ⟨rfl, rfl⟩ := hcc
    obtain ⟨n, hn⟩ : ∃ n, (growC c1 t u).N ((growC c1 t u).roots t) = some n := by
     cases hN : (growC c1 t u).N ((growC c1 t u).roots t) with
     | some n => exact ⟨n, rfl⟩
     | none => unfold lowerC at hlc; rw [hN] at hlc; cases hlc
    have HLW := lh (lower_ch (HPC1.out.to (growC_same c1 t u)) S3.out.fin.1 S3.out.fin.1.top ht hn hlc); clear hl hlc hn; go_wp2_with fail; refine HLW.out.mono ?_; rintro e w5 ⟨rfl, hc5, hf5⟩; have S4 := lh (Sx.start hc5 hc5.top); clear hc5 hf5 HLW S3; rcases HRES.out with ⟨P2, F2, hF2⟩ | ⟨e5, hist, hful⟩
    ·
     have HEN := lh (end_ch HPC2.out S4.out.fin.1 (fun q hq => hq.1) hF2.e (by have := hF2.acc.next1; have := hF2.acc.next2; omega)); have HST := lh (store_to hF2 HPC2.out.pg HPC2.out.n S4.out.fin.1.wf); have HWR := lh (Wr.end_ S4.out.fin.1.wf HPC2.out.n (by have := hF2.acc.next1; have := hF2.acc.next2; omega)); clear hF2; go_wp2_with fail; refine HEN.out.mono ?_; rintro e we ⟨rfl, hpx, hkp⟩; have hkk : Kp X w we := (Kp.of S4.out.fin.1.fr).more hkp; have HX := lh (HQ.out _ _ ⟨_, HWR.out, hkk, .inl ⟨by rw [HHAS.out], H.out.kept hpx hkk HWR.out.same HST.out⟩⟩); clear hpx hkp hkk HEN; go_wp2_with fail; exact HX.out
    ·
     have HEN := lh (end_err S4.out.fin.1 (by rw [e5]; omega)); rw [e5] at HEN; have HFU := lh hful; have HIST := lh hist; clear e5 hful hist; go_wp2_with fail; refine HEN.out.mono ?_; rintro e we ⟨rfl, rfl⟩
     have HX := lh (HQ.out _ _ ⟨s, Wr.refl s, Kp.of S4.out.fin.1.fr, .inr ⟨rfl, rfl, H.out.stay S4.out.fin.1.fr, by
      have h1 := HFU.out; have h2 := HRP.out; have h3 := (begin_pg s.page s.n).2.1; rw [HC.out, h3] at h1; omega⟩⟩)
     clear HEN; go_wp2_with fail; exact HX.out
end
end
end Go.Proofs.YtpjbdpepofnleaaGreat
