/-
  Joined by join.py: Hg Hh Hi Eo Hk Hl Hm Hq Hr
-/
import Derived.KernelRfl
import Derived.Test.YtbggkiebfflcdaaGreatDoorJpb17
set_option maxRecDepth 100000
set_option maxHeartbeats 32000000
namespace Go.Proofs.YtbggkiebfflcdaaGreatDoor
section
open Go.RowKit Go.Shelf
theorem aEK (x : Slr) : x.text = if x.what = 1 then qE x.name else if x.what = 2 then [42] else if x.what = 3 then Lib.itoa x.at_ else if x.what = 4 then slP x.has x.s 3 else 63 :: (oB 0 x.f).flatten := by
 obtain ⟨_, _, _, _, _, _⟩ := x; rfl
theorem aCa (x : Slr) : x.inR = ((rF x.at_ && rF x.s.1 && rF x.s.2.1 && rF x.s.2.2) && x.f.all Xpr.inR) := by
 obtain ⟨_, _, _, _, _, _⟩ := x; rw [Slr.inR, oF]; rfl
section
variable {w : World} {N : Nat -> Prop} {cs : List Value}
theorem aAd {x : Slr} (hg : nI w) (h : fA w N x.cells cs) (hin : x.inR = true) (hwt : x.wt <= 1000000) (hlen : x.text.length <= 100000000) (hf : ∀ y ∈ x.f, TX y) : RV 60 #[.agg cs.toArray] w (.string ⟨x.text.toArray⟩) := by
 refine cA fun R HQ => ?_; obtain ⟨A, c, hcs, hcf⟩ := fG h; rw [aCa] at hin; simp only [Bool.and_eq_true] at hin; obtain ⟨⟨⟨⟨ia, i0⟩, i1⟩, i2⟩, -⟩ := hin; have hfl : x.f.length <= 1000000 := by have := x.wt_eq; have := yC x.f; omega
 have HSL := lh (fun W (hW : Fr [] w W) => aBj (hg.fr hW) (h.fr hW) i0 i1 i2); have HIT := lh (fun W (hW : Fr [] w W) => cS (hg.fr hW) x.at_ ia); have HC1 : Hid ((Tryz.prog.info? 50).map (·.size) = some cs.length) := lh (by rw [h.1.trans (dC x)]; exact lH); rw [aEK] at HQ hlen
 have hfj : (oB 0 x.f).flatten = Lib.join (x.f.map Xpr.text) [] := by
  rw [uJ, gG]
  congr 1
  apply List.map_congr_left
  intro y _; exact hP y
 rw [hfj] at HQ hlen; have HFL := lh hfl; have HG := lh hg; have HCF := lh hcf; have HTF := lh hf; have b0 : cs[0]? = some (.int .i64 x.what) := by rw [hcs]; rfl
 have b1 : cs[1]? = some (.string ⟨x.name.toArray⟩) := by rw [hcs]; rfl
 have b2 : cs[2]? = some (.int .i64 x.at_) := by rw [hcs]; rfl
 have b9 : cs[9]? = some (.slice A x.f.length c) := by rw [hcs]; rfl
 clear h hcs hcf hwt hfj hf hg ia i0 i1 i2 hfl; generalize slP x.has x.s 3 = st at *; generalize x.at_ = an at *; generalize x.name = nm at *; obtain ⟨wh, hwh⟩ : ∃ wh, x.what = wh := ⟨_, rfl⟩; rw [hwh] at HQ hlen b0; clear hwh
 go_enter Tryz.func60, Tryz.ntmps60
 go_wp2_with (with_reducible refine kA rfl 50 (.tmp 0) rfl cs rfl ?_)
 intro w0 hb0 hf0 hz0; have HB0 := lh hb0; have HF0 := lh hf0; have c0 := hb0.at_ b0; have c1 := hb0.at_ b1; have c2 := hb0.at_ b2; have c9 := hb0.at_ b9; clear hb0 hf0 b0 b1 b2 b9
 by_cases h1 : wh = 1
 ·have d1 : (wh == 1) = true := by simpa using h1
  rw [if_pos h1] at HQ hlen; have hql := wV nm; have HQT := lh (fun W => aBT (w := W) ⟨nm.toArray⟩ (by show nm.toArray.size <= _; simp; omega)); clear h1 hlen hql; go_wp2_with fail; refine (HQT.out _).mono ?_; rintro e w1 ⟨rfl, hf1⟩; have HF1 := lh (HF0.out.trans hf1); clear hf1; go_wp2_with fail; exact HQ.out _ _ ⟨rfl, HF1.out⟩
 ·have d1 : (wh == 1) = false := by simpa using h1
  rw [if_neg h1] at HQ hlen
  by_cases h2 : wh = 2
  ·have d2 : (wh == 2) = true := by simpa using h2
   rw [if_pos h2] at HQ; clear h1 h2 hlen; go_wp2_with fail; exact HQ.out _ _ ⟨rfl, HF0.out⟩
  ·have d2 : (wh == 2) = false := by simpa using h2
   rw [if_neg h2] at HQ hlen
   by_cases h3 : wh = 3
   ·have d3 : (wh == 3) = true := by simpa using h3
    rw [if_pos h3] at HQ; clear h1 h2 h3 hlen; go_wp2_with fail; refine (HIT.out _ HF0.out).mono ?_; rintro e w1 ⟨rfl, hf1⟩; have HF1 := lh (HF0.out.trans hf1); clear hf1; go_wp2_with fail; exact HQ.out _ _ ⟨rfl, HF1.out⟩
   ·have d3 : (wh == 3) = false := by simpa using h3
    rw [if_neg h3] at HQ hlen
    by_cases h4 : wh = 4
    ·have d4 : (wh == 4) = true := by simpa using h4
     rw [if_pos h4] at HQ; clear h1 h2 h3 h4 hlen
     go_wp2_with (with_reducible refine tA rfl 50 (.tmp 1) rfl rfl HB0.out Tryz.underlying50 rfl HC1.out ?_)
     refine (HSL.out _ HF0.out).mono ?_; rintro e w1 ⟨rfl, hf1⟩; have HF1 := lh (HF0.out.trans hf1); clear hf1; go_wp2_with fail; exact HQ.out _ _ ⟨rfl, HF1.out⟩
    ·have d4 : (wh == 4) = false := by simpa using h4
     rw [if_neg h4] at HQ hlen; have hjl : (Lib.join (x.f.map Xpr.text) []).length <= 100000000 := by rw [List.length_cons] at hlen; omega
     have hmm : (x.f.map Xpr.cells).length = x.f.length := by simp
     have hnn := HFL.out; have hcf2 := HCF.out.fr HF0.out; obtain ⟨fn, hfn⟩ : ∃ fn, x.f.length = fn := ⟨_, rfl⟩; rw [hfn] at hcf2 hnn c9
     have HJ := lh (aJ hcf2 hnn [] (f := 96) (first := #[]) (cap := #[]) (all := fun v => #[v]) (fun v => rfl) (fun v w => by kernel_rfl) Xpr.text hjl
      (fun y hy w1 ds hf1 h1 => HTF.out y hy w1 _ ds ((HG.out.fr HF0.out).fr hf1) h1 (Nat.le_trans (kI (List.mem_map_of_mem hy)) hjl)))
     obtain ⟨jt, hjt⟩ : ∃ jt, Lib.join (x.f.map Xpr.text) [] = jt := ⟨_, rfl⟩; rw [hjt] at HJ HQ hjl; clear h1 h2 h3 h4 hlen hmm hcf2 hfn hjt; go_wp2_with fail; refine HJ.out.mono ?_; rintro e w1 ⟨rfl, hf1⟩; have HF1 := lh (HF0.out.trans hf1); clear hf1; go_wp2_with fail; exact HQ.out _ _ ⟨by simp [nF], HF1.out⟩
theorem aAe (x : Sgm) : x.text = (if x.deep = true then [46, 46] else []) ++ (91 :: Lib.join (x.l.map Slr.text) [44] ++ [93]) := by
 obtain ⟨_, _⟩ := x; rw [Sgm.text, wL]; rfl
theorem aCb (x : Sgm) : x.inR = x.l.all Slr.inR := by
 obtain ⟨_, _⟩ := x; rw [Sgm.inR, jI]; rfl
theorem aAf (q : Qry) : q.text = (if q.rel = true then 64 else 36) :: Lib.join (q.l.map Sgm.text) [] := by
 obtain ⟨_, _⟩ := q; rw [Qry.text, xL, uJ]; rfl
theorem aCc (q : Qry) : q.inR = q.l.all Sgm.inR := by
 obtain ⟨_, _⟩ := q; rw [Qry.inR, iI]; rfl
theorem aAg {x : Sgm} (hg : nI w) (h : fA w N x.cells cs) (hin : x.inR = true) (hwt : x.wt <= 1000000) (hlen : x.text.length <= 100000000) (hf : ∀ y ∈ mB x.l, TX y) : RV 33 #[.agg cs.toArray] w (.string ⟨x.text.toArray⟩) := by
 refine cA fun R HQ => ?_; obtain ⟨A, c, rfl, hc⟩ := iF h; rw [aCb, List.all_eq_true] at hin; have hll : x.l.length <= 1000000 := by have := x.wt_eq; have := zF x.l; omega
 have hjl : (Lib.join (x.l.map Slr.text) [44]).length <= 100000000 := by
  rw [aAe] at hlen; simp only [List.length_append, List.length_cons] at hlen; omega
 rw [aAe] at HQ; have hwx : ∀ y ∈ x.l, y.wt <= 1000000 := fun y hy => by have := tG hy; have := x.wt_eq; omega
 have hfx : ∀ y ∈ x.l, ∀ z ∈ y.f, TX z := fun y hy z hz => hf z (List.mem_flatMap.2 ⟨y, hy, hz⟩); have hmm : (x.l.map Slr.cells).length = x.l.length := by simp
 have HJ := lh (fun W (hW : Fr [] w W) => aCO (hc.fr hW) hll [44] (f := 60) (first := #[]) (cap := #[]) (all := fun v => #[v]) (fun v => rfl) (fun v w => by kernel_rfl) Slr.text hjl
  (fun y hy w1 ds hf1 h1 => aAd ((hg.fr hW).fr hf1) h1 (hin y hy) (hwx y hy) (Nat.le_trans (kI (List.mem_map_of_mem hy)) hjl) (hfx y hy)))
 obtain ⟨jt, hjt⟩ : ∃ jt, Lib.join (x.l.map Slr.text) [44] = jt := ⟨_, rfl⟩; rw [hjt] at HJ HQ hjl; generalize x.l.length = n at *; generalize x.deep = dp at *; clear h hc hin hwt hlen hf hwx hfx hmm hjt hll hg
 go_enter Tryz.func33, Tryz.ntmps33
 go_wp2_with (with_reducible refine kA rfl 54 (.tmp 0) rfl [.bool dp, .slice A n c] rfl ?_)
 intro w0 hb0 hf0 hz0; have c0 := hb0.at_ (i := 0) rfl; have c1 := hb0.at_ (i := 1) rfl; have HF0 := lh hf0; clear hb0 hf0; go_wp2_with fail; refine (HJ.out _ HF0.out).mono ?_; rintro e w1 ⟨rfl, hf1⟩; have k0 := bA hf1 c0; have HF1 := lh (HF0.out.trans hf1); clear hf1 c0 c1
 cases dp with
 | true =>
  go_wp2_with fail; exact HQ.out _ _ ⟨by simp [nF], HF1.out⟩
 | false =>
  go_wp2_with fail; exact HQ.out _ _ ⟨by simp [nF], HF1.out⟩
theorem print_any {q : Qry} (hg : nI w) (h : fA w N q.cells cs) (hin : q.inR = true) (hwt : q.wt <= 1000000) (hlen : q.text.length <= 100000000) (hf : ∀ y ∈ q.fil, TX y) : RV 16 #[.agg cs.toArray] w (.string ⟨q.text.toArray⟩) := by
 refine cA fun R HQ => ?_; obtain ⟨A, c, rfl, hc⟩ := aC h; rw [aCc, List.all_eq_true] at hin; have hll : q.l.length <= 1000000 := by have := q.len_le; omega
 have hjl : (Lib.join (q.l.map Sgm.text) []).length <= 100000000 := by
  rw [aAf] at hlen; simp only [List.length_cons] at hlen; omega
 rw [aAf] at HQ; have hwx : ∀ y ∈ q.l, y.wt <= 1000000 := fun y hy => by have := rC hy; have := q.wt_eq; omega
 have hfx : ∀ y ∈ q.l, ∀ z ∈ mB y.l, TX z := fun y hy z hz => hf z (List.mem_flatMap.2 ⟨y, hy, hz⟩); have hmm : (q.l.map Sgm.cells).length = q.l.length := by simp
 have HJ := lh (fun W (hW : Fr [] w W) => aCP (hc.fr hW) hll [] (f := 33) (first := #[]) (cap := #[]) (all := fun v => #[v]) (fun v => rfl) (fun v w => by kernel_rfl) Sgm.text hjl
  (fun y hy w1 ds hf1 h1 => aAg ((hg.fr hW).fr hf1) h1 (hin y hy) (hwx y hy) (Nat.le_trans (kI (List.mem_map_of_mem hy)) hjl) (hfx y hy)))
 obtain ⟨jt, hjt⟩ : ∃ jt, Lib.join (q.l.map Sgm.text) [] = jt := ⟨_, rfl⟩; rw [hjt] at HJ HQ hjl; generalize q.l.length = n at *; generalize q.rel = rel at *; clear h hc hin hwt hlen hf hwx hfx hmm hjt hll hg
 go_enter Tryz.func16, Tryz.ntmps16
 go_wp2_with (with_reducible refine kA rfl 25 (.tmp 0) rfl [.bool rel, .slice A n c] rfl ?_)
 intro w0 hb0 hf0 hz0; have c0 := hb0.at_ (i := 0) rfl; have c1 := hb0.at_ (i := 1) rfl; have HF0 := lh hf0; clear hb0 hf0
 cases rel with
 | true =>
  go_wp2_with fail; refine (HJ.out _ HF0.out).mono ?_; rintro e w1 ⟨rfl, hf1⟩; have HF1 := lh (HF0.out.trans hf1); clear hf1 c0 c1; go_wp2_with fail; exact HQ.out _ _ ⟨by simp [nF], HF1.out⟩
 | false =>
  go_wp2_with fail; refine (HJ.out _ HF0.out).mono ?_; rintro e w1 ⟨rfl, hf1⟩; have HF1 := lh (HF0.out.trans hf1); clear hf1 c0 c1; go_wp2_with fail; exact HQ.out _ _ ⟨by simp [nF], HF1.out⟩
end
theorem bH {w : World} {N : Nat -> Prop} {x : Xpr} {cs : List Value} (h : fA w N x.cells cs) : ∃ A c Aq cq vcs, cs = .int .i64 x.what :: .slice A x.l.length c :: .string ⟨x.op.toArray⟩ :: .bool x.q.rel :: .slice Aq x.q.l.length cq :: vcs /\
  CAt w N (.rows 13 (x.l.map Xpr.cells)) (.slice A x.l.length c) /\ fA w N x.q.cells [.bool x.q.rel, .slice Aq x.q.l.length cq] /\ fA w N x.v.cells vcs := by
 obtain ⟨what, l, op, ⟨rel, ql⟩, v⟩ := x; obtain ⟨c1, rfl, h1⟩ := h.lf; obtain ⟨v1, c2, rfl, k1, h2⟩ := h1.inv; obtain ⟨c3, rfl, h3⟩ := h2.lf; obtain ⟨c4, rfl, h4⟩ := fA.lf (a := .bool rel) (row := .rows 2 (sH ql) :: v.cells) h3; obtain ⟨v2, c5, rfl, k2, h5⟩ := h4.inv; rw [pB] at k1; obtain ⟨A, c, rfl, _⟩ := k1.slice; have k3 := k2; rw [qC] at k3; obtain ⟨Aq, cq, rfl, _⟩ := k3.slice; refine ⟨A, c, Aq, cq, c5, by simp [Xpr.what, Xpr.l, Xpr.op, Xpr.q, Qry.rel, Qry.l, S8], by simpa [Xpr.l] using k1, ?_, h5⟩; have h8 : fA w N (Qry.cells (.mk rel ql)) [.bool rel, .slice Aq (ql.map Sgm.cells).length cq] := .tl rfl (.cons k2 (.nil _ _))
 simpa [Xpr.q, Qry.l, Qry.rel] using h8
theorem aEL (x : Xpr) : x.text = if x.what = 1 then Lib.join (x.l.map (mH 1)) [32, 124, 124, 32] else if x.what = 2 then Lib.join (x.l.map (mH 2)) [32, 38, 38, 32]
  else if x.what = 3 then (if (match x.l with | [y] => y.bare | _ => false) = true then 33 :: Lib.join (x.l.map Xpr.text) [] else [33, 40] ++ Lib.join (x.l.map Xpr.text) [] ++ [41])
  else if x.what = 4 then Lib.join (x.l.map Xpr.text) (32 :: x.op ++ [32]) else if x.what = 6 then x.q.text
  else if x.what = 7 then x.op ++ 40 :: Lib.join (x.l.map Xpr.text) [44] ++ [41] else x.v.text := by
 have h0 : ∀ l : List Xpr, oB 0 l = l.map Xpr.text := fun l => by
  rw [gG]
  apply List.map_congr_left
  intro y _; exact hP y
 obtain ⟨what, l, op, q, v⟩ := x; rw [Xpr.text.eq_def]; simp only [h0, gG, uJ]
 rfl
theorem qX (x : Xpr) : x.inR = (x.v.inR && x.q.inR && x.l.all Xpr.inR) := by
 obtain ⟨_, _, _, _, _⟩ := x; rw [Xpr.inR, oF]; rfl
theorem rX {a j : List UInt8} (h : (a ++ 40 :: j ++ [41]).length <= 100000000) : j.length <= 100000000 := by
 simp only [List.length_append, List.length_cons] at h; omega
section
variable {w : World} {N : Nat -> Prop} {cs : List Value}
theorem aDc {x : Xpr} (hg : nI w) (h : fA w N x.cells cs) (hin : x.inR = true) (hwt : x.wt <= 1000000) (hlen : x.text.length <= 100000000) (hq : ∀ y ∈ x.q.fil, TX y) (hl : ∀ y ∈ x.l, TX y) : RV 96 #[.agg cs.toArray] w (.string ⟨x.text.toArray⟩) := by
 refine cA fun R HQ => ?_; obtain ⟨A, c, Aq, cq, vcs, rfl, hcl, hcq, hcv⟩ := bH h; rw [qX] at hin; simp only [Bool.and_eq_true] at hin; obtain ⟨⟨iv, iq⟩, -⟩ := hin; have hwe := x.wt_eq; have hll : x.l.length <= 1000000 := by have := yC x.l; omega
 have hol : x.op.length <= 1000000 := by omega
 have hvl : vcs.length = 8 := hcv.1; have HC8 : Hid ((Tryz.prog.info? 107).map (·.size) = some vcs.length) := lh (by rw [hvl]; kernel_rfl); rw [aEL] at HQ hlen; have HTQ := lh (fun (hl9 : x.q.text.length <= 100000000) W (hW : Fr [] w W) => print_any (hg.fr hW) (hcq.fr hW) iq (by omega) hl9 hq); have HLT := lh (fun (hl9 : x.v.text.length <= 100000000) W (hW : Fr [] w W) => oZ (hg.fr hW) (hcv.fr hW) (Vlu.inR_n iv) hl9); have HLL := lh hll; have HG := lh hg; have HCL := lh hcl; have HTL := lh hl; have HOL := lh hol; clear h hcq hcv hvl hq hl hg iv iq hwe hwt hll hol; obtain ⟨wh, hwh⟩ : ∃ wh, x.what = wh := ⟨_, rfl⟩; rw [hwh] at HQ hlen ⊢; clear hwh
 go_enter Tryz.func96, Tryz.ntmps96
 go_wp2_with (with_reducible refine kA rfl 109 (.tmp 0) rfl (.int .i64 wh :: .slice A x.l.length c :: .string ⟨x.op.toArray⟩ :: .bool x.q.rel :: .slice Aq x.q.l.length cq :: vcs) rfl ?_)
 intro w0 hb0 hf0 hz0; have HB0 := lh hb0; have HF0 := lh hf0; have c0 := hb0.at_ (i := 0) rfl; have c1 := hb0.at_ (i := 1) rfl; have c2 := hb0.at_ (i := 2) rfl; have c3 := hb0.at_ (i := 3) rfl; have c4 := hb0.at_ (i := 4) rfl
 have hra : w0.rangeAt w.heap.size 5 vcs := fun j u hj => by
  have := hb0.at_ (i := j + 5) (v := u) (by simpa using hj); rw [Nat.add_comm 5 j]; exact this
 have HRA := lh hra; clear hb0 hf0 hra
 by_cases h1 : wh = 1
 ·have d1 : (wh == 1) = true := by simpa using h1
  rw [if_pos h1] at HQ hlen; have hjl : (Lib.join (x.l.map (mH 1)) [32, 124, 124, 32]).length <= 100000000 := by (exact hlen)
  have HJW := lh (fun W (hW : Fr [] w W) => aJ (A := A) (n := x.l.length) (cp := c) (HCL.out.fr hW) HLL.out [32, 124, 124, 32] (f := 143) (first := #[]) (cap := #[]) (all := fun v => #[v]) (fun v => rfl) (fun v w => by kernel_rfl) (mH 1) hjl
   (fun y hy w1 ds hf1 h1 => aCQ ((HG.out.fr hW).fr hf1) h1 (HTL.out y hy) (Nat.le_trans (pZ 1 y) (Nat.le_trans (kI (List.mem_map_of_mem hy)) hjl))))
  have HJ := lh (HJW.out w0 HF0.out); clear h1 hlen hjl; generalize x.l.length = n at *; go_wp2_with fail; refine HJ.out.mono ?_; rintro e w1 ⟨rfl, hf1⟩; have HF1 := lh (HF0.out.trans hf1); clear hf1; go_wp2_with fail; exact HQ.out _ _ ⟨by rfl, HF1.out⟩
 ·have d1 : (wh == 1) = false := by simpa using h1
  rw [if_neg h1] at HQ hlen
  by_cases h2 : wh = 2
  ·have d2 : (wh == 2) = true := by simpa using h2
   rw [if_pos h2] at HQ hlen; clear h1 h2; have hjl : (Lib.join (x.l.map (mH 2)) [32, 38, 38, 32]).length <= 100000000 := by (exact hlen)
   have HJW := lh (fun W (hW : Fr [] w W) => aJ (A := A) (n := x.l.length) (cp := c) (HCL.out.fr hW) HLL.out [32, 38, 38, 32] (f := 144) (first := #[]) (cap := #[]) (all := fun v => #[v]) (fun v => rfl) (fun v w => by kernel_rfl) (mH 2) hjl
    (fun y hy w1 ds hf1 h1 => aCR ((HG.out.fr hW).fr hf1) h1 (HTL.out y hy) (Nat.le_trans (pZ 2 y) (Nat.le_trans (kI (List.mem_map_of_mem hy)) hjl))))
   have HJ := lh (HJW.out w0 HF0.out); clear hlen hjl; generalize x.l.length = n at *; go_wp2_with fail; refine HJ.out.mono ?_; rintro e w1 ⟨rfl, hf1⟩; have HF1 := lh (HF0.out.trans hf1); clear hf1; go_wp2_with fail; exact HQ.out _ _ ⟨by rfl, HF1.out⟩
  ·have d2 : (wh == 2) = false := by simpa using h2
   rw [if_neg h2] at HQ hlen
   by_cases h3 : wh = 3
   ·have d3 : (wh == 3) = true := by simpa using h3
    rw [if_pos h3] at HQ hlen; clear h1 h2 h3
    have hjl : (Lib.join (x.l.map Xpr.text) []).length <= 100000000 := by
     have key : ∀ (b : Bool) (J : List UInt8), (if b = true then 33 :: J else [33, 40] ++ J ++ [41]).length <= 100000000 -> J.length <= 100000000 := by
      intro b J hb
      cases b <;> simp at hb <;> omega
     exact key _ _ hlen
    have HJL := lh hjl; have hjl : (Lib.join (x.l.map Xpr.text) []).length <= 100000000 := by (exact HJL.out)
    have HJW := lh (fun W (hW : Fr [] w W) => aJ (A := A) (n := x.l.length) (cp := c) (HCL.out.fr hW) HLL.out [] (f := 96) (first := #[]) (cap := #[]) (all := fun v => #[v]) (fun v => rfl) (fun v w => by kernel_rfl) Xpr.text hjl
     (fun y hy w1 ds hf1 h1 => HTL.out y hy w1 _ ds ((HG.out.fr hW).fr hf1) h1 (Nat.le_trans (kI (List.mem_map_of_mem hy)) HJL.out)))
    have HJ := lh (HJW.out w0 HF0.out); clear hlen hjl
    by_cases hn : x.l.length = 1
    ·obtain ⟨y, hy⟩ : ∃ y, x.l = [y] := by
      match hx : x.l, hn with
      | [y], _ => exact ⟨y, rfl⟩
     have hcl := HCL.out; have htl := HTL.out y (by rw [hy]; simp); rw [hy] at hcl c1 HQ HJL; clear HJ; obtain ⟨A', c', g, off, hv, hA, hrow⟩ := hcl.row; injection hv with e1 e2 e3; subst e1 e3; obtain ⟨rfl, hNg⟩ := hA (by simp); obtain ⟨_, cs1, hcs1, hcell1⟩ := hrow 0 y.cells rfl
     have hra1 : w0.rangeAt g off cs1 := fun j u hj => by
      have := hcell1 j u hj; rw [show off + 13 * 0 + j = off + j by omega] at this; exact bA HF0.out this
     have hcl1 : cs1.length = 13 := hcs1.1.trans (lA y); have HCX : Hid ((Tryz.prog.info? 109).map (·.size) = some cs1.length) := lh (by rw [hcl1]; exact nB); have HRY := lh hra1; have HBA := lh (qZ (hcs1.fr HF0.out)); have hyl : y.text.length <= 100000000 := by have := HJL.out; rw [List.map_cons, List.map_nil, Lib.join_one] at this; exact this
     have HTY := lh (fun W (hW : Fr [] w W) => htl W _ cs1 (HG.out.fr hW) (hcs1.fr hW) hyl); have hjo : Lib.join ([y].map Xpr.text) [] = y.text := by rw [List.map_cons, List.map_nil, Lib.join_one]
     rw [hjo] at HQ; rw [hy, hjo] at HJW; have HQ2 : Hid (∀ e w', e = .returned (.string ⟨(if y.bare = true then 33 :: y.text else [33, 40] ++ y.text ++ [41]).toArray⟩) /\ Fr [] w w' -> R e w') := lh HQ.out; generalize y.bare = b at *; generalize y.text = ty at *; have hone : ([y] : List Xpr).length = 1 := rfl; rw [hone] at c1 HJW; clear hcl htl hrow hA hcs1 hcell1 hra1 hcl1 hjo HQ hn hy hone
     go_wp2_with (refine jE (by kernel_rfl) 109 (.tmp 24) rfl g off rfl cs1 _ HRY.out Tryz.underlying109 rfl HCX.out ?_)
     refine HBA.out.mono ?_; rintro e w3 ⟨rfl, hf3⟩; have HF3 := lh (HF0.out.trans hf3); have k1 := bA hf3 c1; have hra3 : w3.rangeAt g off cs1 := fun j u hj => bA hf3 (HRY.out j u hj); have HRY3 := lh hra3; have HTY3 := lh (HTY.out w3 HF3.out); have HJ3 := lh (HJW.out w3 HF3.out); clear hf3 hra3 c0 c1 c2 c3 c4
     cases b with
     | true =>
      go_wp2_with (with_reducible refine wpList_load_mid rfl 109 (.tmp 30) rfl g off rfl cs1 _ HRY3.out Tryz.underlying109 rfl HCX.out ?_)
      refine HTY3.out.mono ?_; rintro e w4 ⟨rfl, hf4⟩; have HF4 := lh (HF3.out.trans hf4); clear hf4; go_wp2_with fail; exact HQ2.out _ _ ⟨by simp [nF], HF4.out⟩
     | false =>
      go_wp2_with fail; refine HJ3.out.mono ?_; rintro e w4 ⟨rfl, hf4⟩; have HF4 := lh (HF3.out.trans hf4); clear hf4; go_wp2_with fail; exact HQ2.out _ _ ⟨by simp [nF], HF4.out⟩
    ·have hm : (match x.l with | [y] => y.bare | _ => false) = false := by
      match hx : x.l, hn with
      | [], _ => rfl
      | [y], hn => exact absurd rfl hn
      | a :: b :: l, _ => rfl
     rw [hm, if_neg (by simp)] at HQ; have d9 : ((x.l.length : Int) == 1) = false := by rw [beq_eq_false_iff_ne]; omega
     obtain ⟨jt, hjt⟩ : ∃ jt, Lib.join (x.l.map Xpr.text) [] = jt := ⟨_, rfl⟩; rw [hjt] at HJ HQ HJL; have hjl := HJL.out; generalize x.l.length = n at *; clear hn hm hjt; go_wp2_with fail; refine HJ.out.mono ?_; rintro e w1 ⟨rfl, hf1⟩; have HF1 := lh (HF0.out.trans hf1); clear hf1; go_wp2_with fail; exact HQ.out _ _ ⟨by simp [nF], HF1.out⟩
   ·have d3 : (wh == 3) = false := by simpa using h3
    rw [if_neg h3] at HQ hlen
    by_cases h4 : wh = 4
    ·have d4 : (wh == 4) = true := by simpa using h4
     rw [if_pos h4] at HQ hlen; clear h1 h2 h3 h4; have hjl : (Lib.join (x.l.map Xpr.text) (32 :: x.op ++ [32])).length <= 100000000 := by (exact hlen)
     have HJW := lh (fun W (hW : Fr [] w W) => aJ (A := A) (n := x.l.length) (cp := c) (HCL.out.fr hW) HLL.out (32 :: x.op ++ [32]) (f := 96) (first := #[]) (cap := #[]) (all := fun v => #[v]) (fun v => rfl) (fun v w => by kernel_rfl) Xpr.text hjl
      (fun y hy w1 ds hf1 h1 => HTL.out y hy w1 _ ds ((HG.out.fr hW).fr hf1) h1 (Nat.le_trans (kI (List.mem_map_of_mem hy)) hjl)))
     have HJ := lh (HJW.out w0 HF0.out); have hsp : (⟨(32 :: x.op ++ [32]).toArray⟩ : ByteArray) = (⟨#[32]⟩ : ByteArray) ++ (⟨x.op.toArray⟩ : ByteArray) ++ (⟨#[32]⟩ : ByteArray) := by simp [nF]
     rw [hsp] at HJ; have hol := HOL.out; clear hlen hjl; generalize x.l.length = n at *; go_wp2_with fail; refine HJ.out.mono ?_; rintro e w1 ⟨rfl, hf1⟩; have HF1 := lh (HF0.out.trans hf1); clear hf1; go_wp2_with fail; exact HQ.out _ _ ⟨by rfl, HF1.out⟩
    ·have d4 : (wh == 4) = false := by simpa using h4
     rw [if_neg h4] at HQ hlen
     by_cases h6 : wh = 6
     ·have d6 : (wh == 6) = true := by simpa using h6
      rw [if_pos h6] at HQ hlen; have HJ := lh (HTQ.out hlen w0 HF0.out); clear h1 h2 h3 h4 h6 hlen; generalize x.q.l.length = qn at *; generalize x.q.rel = rel at *; go_wp2_with fail; refine HJ.out.mono ?_; rintro e w1 ⟨rfl, hf1⟩; have HF1 := lh (HF0.out.trans hf1); clear hf1; go_wp2_with fail; exact HQ.out _ _ ⟨by rfl, HF1.out⟩
     ·have d6 : (wh == 6) = false := by simpa using h6
      rw [if_neg h6] at HQ hlen
      by_cases h7 : wh = 7
      ·have d7 : (wh == 7) = true := by simpa using h7
       rw [if_pos h7] at HQ hlen; clear h1 h2 h3 h4 h6 h7; have hjl : (Lib.join (x.l.map Xpr.text) [44]).length <= 100000000 := by (exact rX hlen)
       have HJW := lh (fun W (hW : Fr [] w W) => aJ (A := A) (n := x.l.length) (cp := c) (HCL.out.fr hW) HLL.out [44] (f := 96) (first := #[]) (cap := #[]) (all := fun v => #[v]) (fun v => rfl) (fun v w => by kernel_rfl) Xpr.text hjl
        (fun y hy w1 ds hf1 h1 => HTL.out y hy w1 _ ds ((HG.out.fr hW).fr hf1) h1 (Nat.le_trans (kI (List.mem_map_of_mem hy)) hjl)))
       have HJ := lh (HJW.out w0 HF0.out); obtain ⟨jt, hjt⟩ : ∃ jt, Lib.join (x.l.map Xpr.text) [44] = jt := ⟨_, rfl⟩; rw [hjt] at HJW HQ hjl; have hol := HOL.out; have ha1 := fun W => rA x.op [40] (by simp; omega) W; have ha2 := fun W => rA (x.op ++ [40]) jt (by simp; omega) W; have ha3 := fun W => rA (x.op ++ 40 :: jt) [41] (by simp; omega) W; generalize x.l.length = n at *; generalize x.op = op at *; clear hlen HJ hjt; go_upto_region 15 with fail
       refine iA (fun W => W.cell? ⟨w.heap.size, 1, none⟩ = some (.slice A n c) /\ W.cell? ⟨w.heap.size, 2, none⟩ = some (.string ⟨op.toArray⟩)) [0, 1, 2, 3, 4, 6, 7] (by kernel_rfl) ?_; refine tks [0, 1, 2, 3, 4] ?_
       iterate 5 (refine tk rfl rfl ⟨c1, c2⟩ rfl (fun _ hW => by (obtain ⟨q0, q1⟩ := hW; go_simp) <;> with_reducible rfl) ?_; simp only [nrm])
       refine tke ?_; refine sp 5 rfl rfl rfl fun K hK => ?_; refine mA (l := [.tmp 59, .const (.string { data := #[44] }), .func 96]) rfl [.slice A n c, .string { data := #[44] }, .func (.func 96) #[] #[]] rfl (fun W => by kernel_rfl) ((HJW.out _ HF0.out.drew).mono ?_); rintro e w3 ⟨rfl, hf3⟩; have hf23 : Fr [] w0 w3 := ((Fr.refl [] w0).drew).trans hf3; have j1 := bA hf23 c1; have j2 := bA hf23 c2; refine ⟨_, rfl, hK _ _ (fun _ => ⟨j1, j2⟩) ?_⟩; simp only [nrm]; clear hK; refine tks [6, 7] ?_
       iterate 2 (refine tk rfl rfl ⟨j1, j2⟩ rfl (fun _ hW => by (obtain ⟨q0, q1⟩ := hW; go_simp) <;> with_reducible rfl) ?_; simp only [nrm])
       refine tke ?_; refine sp 8 rfl rfl rfl fun K hK => ?_; refine eA (v := ?aq1_8) ?yq1_8 (hK _ _ (fun _ => ⟨j1, j2⟩) ?_)
       case yq1_8 => go_simp <;> with_reducible rfl
       simp only [nrm]; refine wd ?_ _; have HF3 := lh (HF0.out.trans hf23); clear hf3 hf23 j1 j2 c0 c1 c2 c3 c4; go_wp2_with fail; exact HQ.out _ _ ⟨by simp [], HF3.out⟩
      ·have d7 : (wh == 7) = false := by simpa using h7
       rw [if_neg h7] at HQ hlen; have HJ := lh (HLT.out hlen w0 HF0.out); clear h1 h2 h3 h4 h6 h7 hlen
       go_wp2_with (with_reducible refine wpList_load_mid rfl 107 (.tmp 63) rfl w.heap.size 5 rfl vcs _ HRA.out Tryz.underlying107 rfl HC8.out ?_)
       refine HJ.out.mono ?_; rintro e w1 ⟨rfl, hf1⟩; have HF1 := lh (HF0.out.trans hf1); clear hf1; go_wp2_with fail; exact HQ.out _ _ ⟨by rfl, HF1.out⟩
end
theorem sX {q : Qry} (h : q.inR = true) {y : Xpr} (hy : y ∈ q.fil) : y.inR = true := by
 rw [aCc, List.all_eq_true] at h; unfold Qry.fil kB mB at hy; obtain ⟨s, hs, hy⟩ := List.mem_flatMap.1 hy; obtain ⟨t, ht, hy⟩ := List.mem_flatMap.1 hy; have h1 := h s hs; rw [aCb, List.all_eq_true] at h1; have h2 := h1 t ht; rw [aCa] at h2; simp only [Bool.and_eq_true, List.all_eq_true] at h2; exact h2.2 y hy
theorem aGT : ∀ (n : Nat), n <= 1000000 -> ∀ x : Xpr, x.wt <= n -> x.inR = true -> TX x := by
 intro n
 induction n with
 | zero => intro _ x hx; have := x.wt_pos; omega
 | succ n ih =>
  intro hn x hx hin w N cs hg h hl; have hwe := x.wt_eq; have hin' := hin; rw [qX] at hin'; simp only [Bool.and_eq_true, List.all_eq_true] at hin'; exact aDc hg h hin (by omega) hl (fun y hy => ih (by omega) y (by have := Qry.fil_lt hy; omega) (sX hin'.1.2 hy)) (fun y hy => ih (by omega) y (by have := cC hy; omega) (hin'.2 y hy))
theorem Qry.print_any {q : Qry} {w : World} {N : Nat -> Prop} {cs : List Value} (hg : nI w) (h : fA w N q.cells cs) (hin : q.inR = true) (hwt : q.wt <= 1000000) (hlen : q.text.length <= 100000000) : RV 16 #[.agg cs.toArray] w (.string ⟨q.text.toArray⟩) :=
 Go.Proofs.YtbggkiebfflcdaaGreatDoor.print_any hg h hin hwt hlen fun y hy => aGT _ hwt y (by have := Qry.fil_lt hy; omega) (sX hin hy)
section
variable {w : World} {N M : Nat -> Prop} {cs ds : List Value}
theorem aEM {x : Xpr} (h : fA w N x.cells cs) : RV 187 #[.agg cs.toArray] w (.bool (decide (x.what < 5))) := by
 refine cA fun R HQ => ?_; have hw := kE h; obtain ⟨wh, hwh⟩ : ∃ wh, x.what = wh := ⟨_, rfl⟩; rw [hwh] at hw HQ; have HW := lh hw; clear h hw hwh
 go_enter Tryz.func187, Tryz.ntmps187
 go_wp2_with (with_reducible refine kA rfl 109 (.tmp 0) rfl cs rfl ?_)
 intro w0 hb0 hf0 hz0; have c0 := hb0.at_ HW.out; have HF := lh hf0; clear hb0 hf0 hz0; go_wp2_with fail; exact HQ.out _ _ ⟨rfl, HF.out⟩
theorem aBr {x y : Xpr} (h : fA w N x.cells cs) (h2 : fA w M y.cells ds) : RV 150 #[.agg cs.toArray, .agg ds.toArray] w (.int .i64 (x.deeper y)) := by
 refine cA fun R HQ => ?_; have hw := kE h; have hv := kE h2; have hcl : ds.length = 13 := h2.1.trans (lA y); have HC1 : Hid ((Tryz.prog.info? 109).map (·.size) = some ds.length) := lh (by rw [hcl]; exact nB); have HBA := lh (fun W (hW : Fr [] w W) => qZ (h2.fr hW)); have HS : Hid (x.deeper y = if (x.what = 1 /\ y.what = 1) ∨ (x.what = 2 /\ (y.what = 1 ∨ y.what = 2)) ∨ (x.what = 3 /\ y.bare = false) then 1 else 0) := lh rfl; rw [HS.out] at HQ; obtain ⟨wh, hwh⟩ : ∃ wh, x.what = wh := ⟨_, rfl⟩; obtain ⟨vh, hvh⟩ : ∃ vh, y.what = vh := ⟨_, rfl⟩; rw [hwh] at hw HQ; rw [hvh] at hv HQ; generalize y.bare = b at *; have HW := lh hw; have HV := lh hv; clear h h2 hw hv hwh hvh hcl HS
 go_enter Tryz.func150, Tryz.ntmps150
 go_wp2_with (with_reducible refine kA rfl 109 (.tmp 0) rfl cs rfl ?_)
 intro w0 hb0 hf0 hz0
 go_wp2_with (with_reducible refine kA rfl 109 (.tmp 1) rfl ds rfl ?_)
 intro w1 hb1 hf1 hz1; have c0 := (hb0.fr hf1).at_ HW.out; have e0 := hb1.at_ HV.out; have HB1 := lh hb1; have HF1 := lh (hf0.trans hf1); clear hb0 hb1 hf0 hf1
 by_cases h1 : wh = 1
 ·have d1 : (wh == 1) = true := by simpa using h1
  by_cases g1 : vh = 1
  ·have k1 : (vh == 1) = true := by simpa using g1
   rw [if_pos (.inl ⟨h1, g1⟩)] at HQ; clear h1 g1; go_wp2_with fail; exact HQ.out _ _ ⟨rfl, HF1.out⟩
  ·have k1 : (vh == 1) = false := by simpa using g1
   have d2 : (wh == 2) = false := bF (by omega)
   have d3 : (wh == 3) = false := bF (by omega)
   rw [if_neg (by omega)] at HQ; clear h1 g1; go_wp2_with fail; exact HQ.out _ _ ⟨rfl, HF1.out⟩
 ·have d1 : (wh == 1) = false := by simpa using h1
  by_cases h2 : wh = 2
  ·have d2 : (wh == 2) = true := by simpa using h2
   have d3 : (wh == 3) = false := bF (by omega)
   by_cases g1 : vh = 1
   ·have k1 : (vh == 1) = true := by simpa using g1
    rw [if_pos (by omega)] at HQ; clear h1 h2 g1; go_wp2_with fail; exact HQ.out _ _ ⟨rfl, HF1.out⟩
   ·have k1 : (vh == 1) = false := by simpa using g1
    by_cases g2 : vh = 2
    ·have k2 : (vh == 2) = true := by simpa using g2
     rw [if_pos (by omega)] at HQ; clear h1 h2 g1 g2; go_wp2_with fail; exact HQ.out _ _ ⟨rfl, HF1.out⟩
    ·have k2 : (vh == 2) = false := by simpa using g2
     rw [if_neg (by omega)] at HQ; clear h1 h2 g1 g2; go_wp2_with fail; exact HQ.out _ _ ⟨rfl, HF1.out⟩
  ·have d2 : (wh == 2) = false := by simpa using h2
   by_cases h3 : wh = 3
   ·have d3 : (wh == 3) = true := by simpa using h3
    have hra : w1.rangeAt (w.heap.size + 1) 0 ds := fun j u hj => by rw [Nat.zero_add]; exact HB1.out.at_ hj
    have HRA := lh hra; clear hra; have HBW := lh (HBA.out w1 HF1.out)
    have HQ2 : Hid (∀ e w', e = .returned (.int .i64 (if b = false then 1 else 0)) /\ Fr [] w w' -> R e w') := lh (by
     have hc : ((wh = 1 /\ vh = 1) ∨ (wh = 2 /\ (vh = 1 ∨ vh = 2)) ∨ (wh = 3 /\ b = false)) ↔ b = false := by
      constructor
      ·rintro (h | h | h)
       ·exact absurd h.1 h1
       ·exact absurd h.1 h2
       ·exact h.2
      ·exact fun h => .inr (.inr ⟨h3, h⟩)
     have h9 := HQ.out; simp only [hc] at h9; exact h9)
    clear h1 h2 h3 HQ; go_upto_region 3 with fail
    go_wp2_with (refine jE (by kernel_rfl) 109 (.tmp 3) rfl (w.heap.size + 1) 0 rfl ds _ HRA.out Tryz.underlying109 rfl HC1.out ?_)
    refine HBW.out.mono ?_; rintro e w2 ⟨rfl, hf2⟩; have HF2 := lh (HF1.out.trans hf2); clear hf2
    cases b <;> (go_wp2_with fail; exact HQ2.out _ _ ⟨rfl, HF2.out⟩)
   ·have d3 : (wh == 3) = false := by simpa using h3
    rw [if_neg (by
     rintro (h | h | h)
     ·exact h1 h.1
     ·exact h2 h.1
     ·exact h3 h.1)] at HQ
    clear h1 h2 h3; go_wp2_with fail; exact HQ.out _ _ ⟨rfl, HF1.out⟩
end
end
section
open Go.RowKit
def Cl.isNil : Cl -> Bool
 | .rows _ [] => true
 | _ => false
def Vlu.isNull (v : Vlu) : Bool := decide (v.kind = 0) && !v.b && decide (v.n = .zero) && v.s.isEmpty && v.l.isNil && v.m.isNil
mutual
def Qry.easy : Qry -> Bool
 | .mk _ l => gU l
 termination_by structural q => q
def gU : List Sgm -> Bool
 | [] => true
 | x :: l => x.easy && gU l
 termination_by structural l => l
def Sgm.easy : Sgm -> Bool
 | .mk _ l => hU l
 termination_by structural q => q
def hU : List Slr -> Bool
 | [] => true
 | x :: l => x.easy && hU l
 termination_by structural l => l
def Slr.easy : Slr -> Bool
 | .mk what name at_ has s f =>
  decide (1 <= what /\ what <= 5 /\ name.length <= 1000000) && (decide (what = 1) || name.isEmpty) && (decide (what = 3) || decide (at_ = 0)) && (decide (what = 4) || (decide (has = (false, false, false)) && decide (s = (0, 0, 0))))
   && (if what = 5 then decide (f.length = 1) else f.isEmpty) && gR f
 termination_by structural q => q
def gR : List Xpr -> Bool
 | [] => true
 | x :: l => x.easy && gR l
 termination_by structural l => l
def Xpr.easy : Xpr -> Bool
 | .mk what l op q v => decide (what = 6) && l.isEmpty && op.isEmpty && v.isNull && q.easy
 termination_by structural e => e
end
theorem lQ : ∀ l : List Sgm, gU l = l.all Sgm.easy
 | [] => rfl
 | x :: l => by rw [List.all_cons, <- lQ l]; rfl
theorem mQ : ∀ l : List Slr, hU l = l.all Slr.easy
 | [] => rfl
 | x :: l => by rw [List.all_cons, <- mQ l]; rfl
theorem yJ (d : Int) : ∀ l : List Sgm, nJ d l = l.all (Sgm.shaped d)
 | [] => rfl
 | x :: l => by rw [List.all_cons, <- yJ d l]; rfl
theorem zJ (d : Int) : ∀ l : List Slr, oJ d l = l.all (Slr.shaped d)
 | [] => rfl
 | x :: l => by rw [List.all_cons, <- zJ d l]; rfl
theorem aEN {v : Vlu} (h : v.isNull = true) : v.lit = true := by
 obtain ⟨k, b, n, s, l, m⟩ := v; simp only [Vlu.isNull, Bool.and_eq_true, decide_eq_true_eq, Bool.not_eq_true', List.isEmpty_iff] at h; obtain ⟨⟨⟨⟨⟨rfl, rfl⟩, rfl⟩, rfl⟩, hl⟩, hm⟩ := h; have e1 : l.len = 0 := by match l, hl with | .rows _ [], _ => rfl
 have e2 : m.len = 0 := by match m, hm with | .rows _ [], _ => rfl
 unfold Vlu.lit
 simp [e1, e2]
 exact ⟨by decide, by decide⟩
theorem iU {x : Xpr} (h : x.easy = true) : x.own = true /\ x.what = 6 /\ x.l = [] /\ x.op = [] /\ x.v.isNull = true /\ x.q.easy = true := by
 obtain ⟨what, l, op, q, v⟩ := x; simp only [Xpr.easy, Bool.and_eq_true, decide_eq_true_eq, List.isEmpty_iff] at h; obtain ⟨⟨⟨⟨rfl, rfl⟩, rfl⟩, hv⟩, hq⟩ := h; refine ⟨?_, rfl, rfl, rfl, hv, hq⟩; have h1 := aEN hv; have h2 : v.kind = 0 := by simp only [Vlu.isNull, Bool.and_eq_true, decide_eq_true_eq] at hv; exact hv.1.1.1.1.1
 simp [Xpr.own, Xpr.what, Xpr.q, Xpr.v, Xpr.op, Xpr.l, h1, h2]
def aGU : List UInt8 := [36, 46, 97, 91, 49, 93]
def aGV : List UInt8 := [36, 91, 63, 108, 101, 110, 103, 116, 104, 40, 64, 46, 42, 41, 61, 61, 49, 93]
def aEO : List UInt8 := [36, 91, 39, 97, 39, 93, 91, 49, 93]
def gN : Qry := .mk false [.mk false [.ofName [97]], .mk false [.ofAt 1]]
theorem aAh : qD aGU = .ok gN := by kernel_rfl
theorem aG : gN.text = aEO /\ gN.sane = true /\ gN.singular = true /\ gN.easy = true /\ gN.wt <= 1000000 := by decide +kernel
theorem aDd : errQ aGV = 8 := by decide +kernel
end
section
open Go.RowKit Go.Shelf
section
variable {w : World} {N : Nat -> Prop} {cs : List Value}
theorem aEP {v : Vlu} (h : fA w N v.cells cs) (hv : v.isNull = true) : RV 184 #[.agg cs.toArray] w (.bool true) := by
 refine cA fun R HQ => ?_; obtain ⟨vl, vm, rfl, hl, hm⟩ := tF h; obtain ⟨k, b, n, s, l, m⟩ := v; simp only [Vlu.isNull, Bool.and_eq_true, decide_eq_true_eq, Bool.not_eq_true', List.isEmpty_iff] at hv; obtain ⟨⟨⟨⟨⟨rfl, rfl⟩, rfl⟩, rfl⟩, hl1⟩, hm1⟩ := hv
 match l, hl1 with
 | .rows k1 [], _ =>
  match m, hm1 with
  | .rows k2 [], _ =>
   obtain ⟨A1, c1, rfl, -⟩ := hl.slice; obtain ⟨A2, c2, rfl, -⟩ := hm.slice; clear h hl hm; simp only [List.length_nil, Dcm.zero]
   go_enter Tryz.func184, Tryz.ntmps184
   go_upto_region 3 with fail
   have hf2 : Fr [] w ((w.alloc (.cells #[.int .i64 0, .bool false, .bool false, .string ⟨#[]⟩, .int .i64 0, .string ⟨#[]⟩, .slice A1 0 c1, .slice A2 0 c2] 107)).alloc (.cells #[.int .i64 0, .bool false, .bool false, .string ⟨#[]⟩, .int .i64 0, .string ⟨#[]⟩, .slice A1 0 c1, .slice A2 0 c2] 107)) := ((Fr.refl [] w).alloc _).alloc _; have hb1 := (Blk.new w 107 [.int .i64 0, .bool false, .bool false, .string ⟨#[]⟩, .int .i64 0, .string ⟨#[]⟩, .slice A1 0 c1, .slice A2 0 c2]).alloc (.cells #[.int .i64 0, .bool false, .bool false, .string ⟨#[]⟩, .int .i64 0, .string ⟨#[]⟩, .slice A1 0 c1, .slice A2 0 c2] 107); have hb2 := Blk.new (w.alloc (.cells #[.int .i64 0, .bool false, .bool false, .string ⟨#[]⟩, .int .i64 0, .string ⟨#[]⟩, .slice A1 0 c1, .slice A2 0 c2] 107)) 107 [.int .i64 0, .bool false, .bool false, .string ⟨#[]⟩, .int .i64 0, .string ⟨#[]⟩, .slice A1 0 c1, .slice A2 0 c2]; rw [show (w.alloc (.cells #[.int .i64 0, .bool false, .bool false, .string ⟨#[]⟩, .int .i64 0, .string ⟨#[]⟩, .slice A1 0 c1, .slice A2 0 c2] 107)).heap.size = w.heap.size + 1 by simp] at hb2; have HF := lh hf2; have HB1 := lh hb1; have c0 := hb1.at_ (i := 0) rfl; have e1 := hb2.at_ (i := 1) rfl; have e2 := hb2.at_ (i := 2) rfl; have e3 := hb2.at_ (i := 3) rfl; have e4 := hb2.at_ (i := 4) rfl; have e5 := hb2.at_ (i := 5) rfl; have e6 := hb2.at_ (i := 6) rfl; have e7 := hb2.at_ (i := 7) rfl; have d2 := hb1.at_ (i := 2) rfl; have d3 := hb1.at_ (i := 3) rfl; have d4 := hb1.at_ (i := 4) rfl; clear hf2 hb1 hb2; generalize ((w.alloc (.cells #[.int .i64 0, .bool false, .bool false, .string ⟨#[]⟩, .int .i64 0, .string ⟨#[]⟩, .slice A1 0 c1, .slice A2 0 c2] 107)).alloc (.cells #[.int .i64 0, .bool false, .bool false, .string ⟨#[]⟩, .int .i64 0, .string ⟨#[]⟩, .slice A1 0 c1, .slice A2 0 c2] 107)) = w2 at *; go_wp2_with fail; refine (jJ (w := w2) .zero (by decide) (by decide) (by decide)).mono ?_; rintro e w3 ⟨rfl, hf3⟩; have HF3 := lh (HF.out.trans hf3); have k5 := (HB1.out.fr hf3).at_ (i := 5) rfl; rw [show Dcm.sane .zero = true by decide]; obtain ⟨C, w4, hcv, hC, hba, hf4⟩ := rH w3 ⟨#[]⟩ (by decide); have HBA := lh hba; have HF4 := lh (HF3.out.trans hf4); clear hf3 hf4 hba c0 e1 e2 e3 e4 e5 e6 e7 d2 d3 d4; go_wp2_with fail; refine (mE HBA.out hC).mono ?_; rintro e w5 ⟨x, rfl, hx, hf5⟩; have hx' : decide (x < 0) = true := by rw [hx]; rfl
   have HF5 := lh (HF4.out.trans hf5); clear hx hf5; go_wp2_with fail; exact HQ.out _ _ ⟨rfl, HF5.out⟩
theorem aBs {v : Vlu} (h : fA w N v.cells cs) (hv : v.isNull = true) : ∃ A1 c1 A2 c2, cs = [.int .i64 0, .bool false, .bool false, .string ⟨#[]⟩, .int .i64 0, .string ⟨#[]⟩, .slice A1 0 c1, .slice A2 0 c2] := by
 obtain ⟨vl, vm, rfl, hl, hm⟩ := tF h; obtain ⟨k, b, n, s, l, m⟩ := v; simp only [Vlu.isNull, Bool.and_eq_true, decide_eq_true_eq, Bool.not_eq_true', List.isEmpty_iff] at hv; obtain ⟨⟨⟨⟨⟨rfl, rfl⟩, rfl⟩, rfl⟩, hl1⟩, hm1⟩ := hv
 match l, hl1 with
 | .rows k1 [], _ =>
  match m, hm1 with
  | .rows k2 [], _ =>
   obtain ⟨A1, c1, rfl, -⟩ := hl.slice; obtain ⟨A2, c2, rfl, -⟩ := hm.slice; exact ⟨A1, c1, A2, c2, rfl⟩
theorem aEQ {x : Xpr} (h : fA w N x.cells cs) (hx : x.easy = true) : RV 148 #[.agg cs.toArray] w (.bool true) := by
 refine cA fun R HQ => ?_; obtain ⟨-, h6, hl, ho, hv, -⟩ := iU hx; obtain ⟨A, c, Aq, cq, vcs, rfl, -, -, hvr⟩ := bH h; obtain ⟨A1, c1, A2, c2, rfl⟩ := aBs hvr hv; have HLIT := lh (fun W (hW : Fr [] w W) => aEP (hvr.fr hW) hv); rw [h6, hl, ho]; obtain ⟨qr, hqr⟩ : ∃ qr, x.q.rel = qr := ⟨_, rfl⟩; obtain ⟨qn, hqn⟩ : ∃ qn, x.q.l.length = qn := ⟨_, rfl⟩; rw [hqr, hqn]; clear h hx hl ho hv hvr h6 hqr hqn; obtain ⟨cs, hcs⟩ : ∃ cs : List Value, Value.int .i64 6 :: .slice A ([] : List Xpr).length c :: .string ⟨([] : List UInt8).toArray⟩ :: .bool qr :: .slice Aq qn cq :: [.int .i64 0, .bool false, .bool false, .string ⟨#[]⟩, .int .i64 0, .string ⟨#[]⟩, .slice A1 0 c1, .slice A2 0 c2] = cs := ⟨_, rfl⟩; rw [hcs]
 go_enter Tryz.func148, Tryz.ntmps148
 go_wp2_with (with_reducible refine kA rfl 109 (.tmp 0) rfl cs rfl ?_)
 intro w0 hb0 hf0 hz0; subst hcs; have c0 := hb0.at_ (i := 0) rfl; have c1 := hb0.at_ (i := 1) rfl; have c2 := hb0.at_ (i := 2) rfl; have c5 := hb0.at_ (i := 5) rfl; have c6 := hb0.at_ (i := 6) rfl; have c7 := hb0.at_ (i := 7) rfl; have c8 := hb0.at_ (i := 8) rfl; have c9 := hb0.at_ (i := 9) rfl; have c10 := hb0.at_ (i := 10) rfl; have c11 := hb0.at_ (i := 11) rfl; have c12 := hb0.at_ (i := 12) rfl; have HF0 := lh hf0; have HL := lh (HLIT.out w0 hf0); simp only [List.length_nil] at c1; clear hb0 hf0 hz0 HLIT; go_upto_region 1 with fail
 go_wp2_with fail; refine HL.out.mono ?_; rintro e w2 ⟨rfl, hf2⟩; have HF2 := lh (HF0.out.trans hf2); have k0 := bA hf2 c0; have k1 := bA hf2 c1; have k2 := bA hf2 c2; clear hf2 c0 c1 c2 c5 c6 c7 c8 c9 c10 c11 c12; go_upto_region 3 with fail
 refine iA (fun W => W.cell? ⟨w.heap.size, 2, none⟩ = some (.string ⟨#[]⟩) /\ True) [1, 2, 4, 5, 6] (by kernel_rfl) ?_; refine tks [1, 2] ?_
 iterate 2 (refine tk rfl rfl ⟨k2, trivial⟩ rfl (fun _ hW => by (obtain ⟨q0, _⟩ := hW; go_simp) <;> with_reducible rfl) ?_; simp only [nrm])
 refine tke ?_; refine sp 0 rfl rfl rfl fun K hK => ?_; refine mA (l := []) rfl [] rfl (fun W => by kernel_rfl) (tD.mono ?_); rintro e w3 ⟨mb, rfl, hcm, hf3⟩; have hf23 : Fr [] w2 w3 := ((Fr.refl [] w2).drew).trans hf3; have hk2 := bA hf23 k2; have hlk := hcm.look_ok ⟨#[]⟩ (by decide); refine ⟨_, rfl, hK _ _ (fun _ => ⟨hk2, trivial⟩) ?_⟩; simp only [nrm]; clear hK; refine sp 3 rfl rfl rfl fun K hK => ?_; refine eA (v := .tuple #[.bool (nA (aA ⟨#[]⟩)), .bool (tB (aA ⟨#[]⟩))]) (by simp [execOp, Act.eval, hlk, Result.andThen]) (hK _ _ (fun _ => ⟨hk2, trivial⟩) ?_); simp only [nrm]; clear hK; refine tks [4, 5, 6] ?_
 iterate 3 (refine tk rfl rfl ⟨hk2, trivial⟩ rfl (fun _ hW => by (obtain ⟨q0, _⟩ := hW; go_simp) <;> with_reducible rfl) ?_; simp only [nrm])
 refine tke ?_; refine sp 7 rfl rfl rfl fun K hK => ?_; refine eA (v := ?aq1_7) ?yq1_7 (hK _ _ (fun _ => ⟨hk2, trivial⟩) ?_)
 case yq1_7 => go_simp <;> with_reducible rfl
 simp only [nrm]; refine sp 8 rfl rfl rfl fun K hK => ?_; refine eA (v := ?aq1_8) ?yq1_8 (hK _ _ (fun _ => ⟨hk2, trivial⟩) ?_)
 case yq1_8 => go_simp <;> with_reducible rfl
 simp only [nrm]; refine wd ?_ _; have j0 := bA hf23 k0; have j1 := bA hf23 k1; have HF3 := lh (HF2.out.trans hf23); clear hf3 hf23 hcm hlk hk2 k0 k1 k2; go_wp2_with fail; exact HQ.out _ _ ⟨rfl, HF3.out⟩
end
section
variable {w : World} {N : Nat -> Prop} {cs : List Value}
theorem tX {x : Xpr} {d : Int} (h : fA w N x.cells cs) (hx : x.easy = true) (hd : d <= 32) (hQ : ∀ (w1 : World) (ds : List Value), Fr [] w w1 -> fA w1 N x.q.cells ds -> RV 34 #[.agg ds.toArray, .int .i64 d] w1 (.bool true)) :
  RV 99 #[.agg cs.toArray, .int .i64 d] w (.bool true) := by
 refine cA fun R HQ => ?_; obtain ⟨-, h6, hl, ho, hv, -⟩ := iU hx; have hcl : cs.length = 13 := h.1.trans (lA x); have hc1 : (Tryz.prog.info? 109).map (·.size) = some cs.length := by rw [hcl]; exact nB
 have hw0 := kE h; rw [h6] at hw0; obtain ⟨Aq, cq, hc3, hc4, hrq⟩ := aL h; obtain ⟨A, c, hcx, hcv⟩ := aN h; rw [hl] at hcx hcv; simp only [List.length_nil] at hcx hcv; have HOWN := lh (fun W (hW : Fr [] w W) => aEQ (h.fr hW) hx); have HRQ := lh hrq; have HCV := lh hcv; have HC1 := lh hc1; have HQQ := lh hQ; have d1 : decide (d > 32) = false := dF (by omega)
 obtain ⟨qr, hqr⟩ : ∃ qr, x.q.rel = qr := ⟨_, rfl⟩; obtain ⟨qn, hqn⟩ : ∃ qn, x.q.l.length = qn := ⟨_, rfl⟩; rw [hqr] at hc3 HRQ; rw [hqn] at hc4 HRQ; clear h hx hl ho hv h6 hrq hcv hcl hc1 hQ hqr hqn
 go_enter Tryz.func99, Tryz.ntmps99
 go_wp2_with (with_reducible refine kA rfl 109 (.tmp 0) rfl cs rfl ?_)
 intro w0 hb0 hf0 hz0; go_upto_region 1 with fail
 have hf1 : Fr [] w0 (w0.alloc (.cells #[.int .i64 d] 3)) := (Fr.refl [] w0).alloc _; have hbd := Blk.new w0 3 [.int .i64 d]; rw [hz0] at hbd; generalize w0.alloc (.cells #[.int .i64 d] 3) = w1 at *; have hb1 := hb0.fr hf1; have c0 := hb1.at_ hw0; have c1 := hb1.at_ hcx; have c3 := hb1.at_ hc3; have c4 := hb1.at_ hc4; have cd := hbd.at_ (i := 0) rfl; have hra : w1.rangeAt w.heap.size 0 cs := fun j u hj => by rw [Nat.zero_add]; exact hb1.at_ hj
 have HF1 := lh (hf0.trans hf1); have HRA := lh hra; have HO := lh (HOWN.out w1 HF1.out); clear hb0 hb1 hbd hf0 hf1 hra hw0 hcx hc3 hc4 HOWN; go_upto_region 3 with fail
 go_wp2_with (refine jE (by kernel_rfl) 109 (.tmp 2) rfl w.heap.size 0 rfl cs _ HRA.out Tryz.underlying109 rfl HC1.out ?_)
 refine HO.out.mono ?_; rintro e w2 ⟨rfl, hf2⟩; have HF2 := lh (HF1.out.trans hf2); have k1 := bA hf2 c1; have k3 := bA hf2 c3; have k4 := bA hf2 c4; have kd := bA hf2 cd; have HC := lh (HQQ.out w2 _ HF2.out (HRQ.out.fr HF2.out)); clear hf2 c0 c1 c3 c4 cd HRA HC1 HO; go_wp2_with fail; refine HC.out.mono ?_; rintro e w3 ⟨rfl, hf3⟩; have HF3 := lh (HF2.out.trans hf3); have j1 := bA hf3 k1
 have HP := lh (gF (l := []) (HCV.out.fr HF3.out) (by decide) (f := 149) (first := #[]) (cap := #[.pointer (some ⟨w.heap.size + 1, 0, none⟩), .pointer (some ⟨w.heap.size, 0, none⟩)])
  (all := fun v => #[v, .pointer (some ⟨w.heap.size + 1, 0, none⟩), .pointer (some ⟨w.heap.size, 0, none⟩)]) (fun v => rfl) (fun v w => by kernel_rfl) (fun _ => false) (fun x hx => absurd hx (by simp)))
 clear hf3 k1 k3 k4 kd HC; go_wp2_with fail; refine HP.out.mono ?_; rintro e w4 ⟨rfl, hf4⟩; have HF4 := lh (HF3.out.trans hf4); clear hf4; go_wp2_with fail; exact HQ.out _ _ ⟨rfl, HF4.out⟩
end
theorem fW (w : World) : (Op.equalIn 10000 46 (.agg #[.bool false, .bool false, .bool false]) (.agg #[.bool false, .bool false, .bool false])).run Tryz.prog w = .ok true w := by kernel_rfl
theorem gW (w : World) : (Op.equalIn 10000 47 (.agg #[.int .i64 0, .int .i64 0, .int .i64 0]) (.agg #[.int .i64 0, .int .i64 0, .int .i64 0])).run Tryz.prog w = .ok true w := by kernel_rfl
section
variable {w : World} {N : Nat -> Prop} {cs : List Value}
theorem aER {d : Int} {A : Option Addr} {c : Nat} : RV 64 #[.agg ([.int .i64 2, .string ⟨#[]⟩, .int .i64 0, .bool false, .bool false, .bool false, .int .i64 0, .int .i64 0, .int .i64 0, .slice A 0 c] : List Value).toArray, .int .i64 d] w (.bool true) := by
 refine cA fun R HQ => ?_; obtain ⟨cs, hcs⟩ : ∃ cs : List Value, [.int .i64 2, .string ⟨#[]⟩, .int .i64 0, .bool false, .bool false, .bool false, .int .i64 0, .int .i64 0, .int .i64 0, .slice A 0 c] = cs := ⟨_, rfl⟩; rw [hcs]
 go_enter Tryz.func64, Tryz.ntmps64
 go_wp2_with (with_reducible refine kA rfl 50 (.tmp 0) rfl cs rfl ?_)
 intro w0 hb0 hf0 hz0; subst hcs; have c0 := hb0.at_ (i := 0) rfl; have c1 := hb0.at_ (i := 1) rfl; have c2 := hb0.at_ (i := 2) rfl; have c3 := hb0.at_ (i := 3) rfl; have c4 := hb0.at_ (i := 4) rfl; have c5 := hb0.at_ (i := 5) rfl; have c6 := hb0.at_ (i := 6) rfl; have c7 := hb0.at_ (i := 7) rfl; have c8 := hb0.at_ (i := 8) rfl; have c9 := hb0.at_ (i := 9) rfl; have HF0 := lh hf0; clear hb0 hf0; go_upto_region 4 with fail
 have hfa : Fr [] w0 (w0.alloc (.cells ([.int .i64 0, .string ⟨#[]⟩, .int .i64 0, .bool false, .bool false, .bool false, .int .i64 0, .int .i64 0, .int .i64 0, .slice none 0 0] : List Value).toArray 50)) := (Fr.refl [] w0).alloc _; have hb1 := Blk.new w0 50 [.int .i64 0, .string ⟨#[]⟩, .int .i64 0, .bool false, .bool false, .bool false, .int .i64 0, .int .i64 0, .int .i64 0, .slice none 0 0]; simp only [List.toArray] at hfa hb1; generalize w0.alloc (.cells _ 50) = w1 at *; rw [hz0] at hb1; have k0 := bA hfa c0; have k1 := bA hfa c1; have k2 := bA hfa c2; have k3 := bA hfa c3; have k4 := bA hfa c4; have k5 := bA hfa c5; have k6 := bA hfa c6; have k7 := bA hfa c7; have k8 := bA hfa c8; have k9 := bA hfa c9; have HF1 := lh (HF0.out.trans hfa); have HB1 := lh hb1; clear c0 c1 c2 c3 c4 c5 c6 c7 c8 c9 hfa hb1; have e1 := HB1.out.at_ (i := 1) rfl; have e2 := HB1.out.at_ (i := 2) rfl; have e3 := HB1.out.at_ (i := 3) rfl; have e4 := HB1.out.at_ (i := 4) rfl; have e5 := HB1.out.at_ (i := 5) rfl; have e6 := HB1.out.at_ (i := 6) rfl; have e7 := HB1.out.at_ (i := 7) rfl; have e8 := HB1.out.at_ (i := 8) rfl; have q1 := fW w1; have q2 := gW w1; go_wp2_with fail; exact HQ.out _ _ ⟨rfl, HF1.out⟩
theorem aES {d : Int} {A : Option Addr} {c : Nat} {name : List UInt8} (hk : lE name = true) (hsz : name.length <= 1000000) : RV 64 #[.agg ([.int .i64 1, .string ⟨name.toArray⟩, .int .i64 0, .bool false, .bool false, .bool false, .int .i64 0, .int .i64 0, .int .i64 0, .slice A 0 c] : List Value).toArray, .int .i64 d] w (.bool true) := by
 refine cA fun R HQ => ?_; have HK := lh hk; clear hk; obtain ⟨cs, hcs⟩ : ∃ cs : List Value, [.int .i64 1, .string ⟨name.toArray⟩, .int .i64 0, .bool false, .bool false, .bool false, .int .i64 0, .int .i64 0, .int .i64 0, .slice A 0 c] = cs := ⟨_, rfl⟩; rw [hcs]
 go_enter Tryz.func64, Tryz.ntmps64
 go_wp2_with (with_reducible refine kA rfl 50 (.tmp 0) rfl cs rfl ?_)
 intro w0 hb0 hf0 hz0; subst hcs; have c0 := hb0.at_ (i := 0) rfl; have c1 := hb0.at_ (i := 1) rfl; have c2 := hb0.at_ (i := 2) rfl; have c3 := hb0.at_ (i := 3) rfl; have c4 := hb0.at_ (i := 4) rfl; have c5 := hb0.at_ (i := 5) rfl; have c6 := hb0.at_ (i := 6) rfl; have c7 := hb0.at_ (i := 7) rfl; have c8 := hb0.at_ (i := 8) rfl; have c9 := hb0.at_ (i := 9) rfl; have HF0 := lh hf0; clear hb0 hf0; go_upto_region 8 with fail
 have hfa : Fr [] w0 (w0.alloc (.cells ([.int .i64 0, .string ⟨#[]⟩, .int .i64 0, .bool false, .bool false, .bool false, .int .i64 0, .int .i64 0, .int .i64 0, .slice none 0 0] : List Value).toArray 50)) := (Fr.refl [] w0).alloc _; have hb1 := Blk.new w0 50 [.int .i64 0, .string ⟨#[]⟩, .int .i64 0, .bool false, .bool false, .bool false, .int .i64 0, .int .i64 0, .int .i64 0, .slice none 0 0]; simp only [List.toArray] at hfa hb1; generalize w0.alloc (.cells _ 50) = w1 at *; rw [hz0] at hb1; have k0 := bA hfa c0; have k1 := bA hfa c1; have k2 := bA hfa c2; have k3 := bA hfa c3; have k4 := bA hfa c4; have k5 := bA hfa c5; have k6 := bA hfa c6; have k7 := bA hfa c7; have k8 := bA hfa c8; have k9 := bA hfa c9; have HF1 := lh (HF0.out.trans hfa); have HB1 := lh hb1; clear c0 c1 c2 c3 c4 c5 c6 c7 c8 c9 hfa hb1; obtain ⟨C, w2, hcv, hC, hba, hf2⟩ := rH w1 ⟨name.toArray⟩ (by simp [ByteArray.size]; omega); have HBA := lh hba; have HF2 := lh (HF1.out.trans hf2); have HB2 := lh (HB1.out.fr hf2); clear hba hf2 k0 k2 k3 k4 k5 k6 k7 k8 k9; go_wp2_with fail; refine (mE HBA.out hC).mono ?_; rintro e w3 ⟨x, rfl, hx, hf3⟩; have hx' : decide (x < 0) = true := by rw [hx]; exact HK.out
 have HF3 := lh (HF2.out.trans hf3); have HB3 := lh (HB2.out.fr hf3); clear hx hf3 k1; have e1 := HB3.out.at_ (i := 1) rfl; have e2 := HB3.out.at_ (i := 2) rfl; have e3 := HB3.out.at_ (i := 3) rfl; have e4 := HB3.out.at_ (i := 4) rfl; have e5 := HB3.out.at_ (i := 5) rfl; have e6 := HB3.out.at_ (i := 6) rfl; have e7 := HB3.out.at_ (i := 7) rfl; have e8 := HB3.out.at_ (i := 8) rfl; have q1 := fW w3; have q2 := gW w3; go_wp2_with fail; exact HQ.out _ _ ⟨rfl, HF3.out⟩
theorem aET {d at_ : Int} {A : Option Addr} {c : Nat} (hk : lG at_ = true) : RV 64 #[.agg ([.int .i64 3, .string ⟨#[]⟩, .int .i64 at_, .bool false, .bool false, .bool false, .int .i64 0, .int .i64 0, .int .i64 0, .slice A 0 c] : List Value).toArray, .int .i64 d] w (.bool true) := by
 refine cA fun R HQ => ?_; have hk1 : decide (at_ <= 9007199254740991) = true := by simp [lG] at hk; simpa using hk.2
 have hk2 : decide (at_ ≥ -9007199254740991) = true := by simp [lG] at hk; simpa using hk.1
 clear hk; obtain ⟨cs, hcs⟩ : ∃ cs : List Value, [.int .i64 3, .string ⟨#[]⟩, .int .i64 at_, .bool false, .bool false, .bool false, .int .i64 0, .int .i64 0, .int .i64 0, .slice A 0 c] = cs := ⟨_, rfl⟩; rw [hcs]
 go_enter Tryz.func64, Tryz.ntmps64
 go_wp2_with (with_reducible refine kA rfl 50 (.tmp 0) rfl cs rfl ?_)
 intro w0 hb0 hf0 hz0; subst hcs; have c0 := hb0.at_ (i := 0) rfl; have c1 := hb0.at_ (i := 1) rfl; have c2 := hb0.at_ (i := 2) rfl; have c3 := hb0.at_ (i := 3) rfl; have c4 := hb0.at_ (i := 4) rfl; have c5 := hb0.at_ (i := 5) rfl; have c6 := hb0.at_ (i := 6) rfl; have c7 := hb0.at_ (i := 7) rfl; have c8 := hb0.at_ (i := 8) rfl; have c9 := hb0.at_ (i := 9) rfl; have HF0 := lh hf0; clear hb0 hf0; go_upto_region 12 with fail
 have hfa : Fr [] w0 (w0.alloc (.cells ([.int .i64 0, .string ⟨#[]⟩, .int .i64 0, .bool false, .bool false, .bool false, .int .i64 0, .int .i64 0, .int .i64 0, .slice none 0 0] : List Value).toArray 50)) := (Fr.refl [] w0).alloc _; have hb1 := Blk.new w0 50 [.int .i64 0, .string ⟨#[]⟩, .int .i64 0, .bool false, .bool false, .bool false, .int .i64 0, .int .i64 0, .int .i64 0, .slice none 0 0]; simp only [List.toArray] at hfa hb1; generalize w0.alloc (.cells _ 50) = w1 at *; rw [hz0] at hb1; have k0 := bA hfa c0; have k1 := bA hfa c1; have k2 := bA hfa c2; have k3 := bA hfa c3; have k4 := bA hfa c4; have k5 := bA hfa c5; have k6 := bA hfa c6; have k7 := bA hfa c7; have k8 := bA hfa c8; have k9 := bA hfa c9; have HF1 := lh (HF0.out.trans hfa); have HB1 := lh hb1; clear c0 c1 c2 c3 c4 c5 c6 c7 c8 c9 hfa hb1; have e1 := HB1.out.at_ (i := 1) rfl; have e2 := HB1.out.at_ (i := 2) rfl; have e3 := HB1.out.at_ (i := 3) rfl; have e4 := HB1.out.at_ (i := 4) rfl; have e5 := HB1.out.at_ (i := 5) rfl; have e6 := HB1.out.at_ (i := 6) rfl; have e7 := HB1.out.at_ (i := 7) rfl; have e8 := HB1.out.at_ (i := 8) rfl; have q1 := fW w1; have q2 := gW w1; go_wp2_with fail; exact HQ.out _ _ ⟨rfl, HF1.out⟩
end
section
variable {w : World} {N : Nat -> Prop} {cs : List Value}
theorem aEU {d : Int} {A : Option Addr} {c : Nat} {h0 h1 h2 : Bool} {s0 s1 s2 : Int} (n0 : lG s0 = true) (n1 : lG s1 = true) (n2 : lG s2 = true) (z0 : (h0 || decide (s0 = 0)) = true) (z1 : (h1 || decide (s1 = 0)) = true) (z2 : (h2 || decide (s2 = 0)) = true) :
  RV 64 #[.agg ([.int .i64 4, .string ⟨#[]⟩, .int .i64 0, .bool h0, .bool h1, .bool h2, .int .i64 s0, .int .i64 s1, .int .i64 s2, .slice A 0 c] : List Value).toArray, .int .i64 d] w (.bool true) := by
 refine cA fun R HQ => ?_; have HN0 := lh n0; have HN1 := lh n1; have HN2 := lh n2; have HZ0 := lh z0; have HZ1 := lh z1; have HZ2 := lh z2; clear n0 n1 n2 z0 z1 z2; obtain ⟨cs, hcs⟩ : ∃ cs : List Value, [.int .i64 4, .string ⟨#[]⟩, .int .i64 0, .bool h0, .bool h1, .bool h2, .int .i64 s0, .int .i64 s1, .int .i64 s2, .slice A 0 c] = cs := ⟨_, rfl⟩; rw [hcs]
 go_enter Tryz.func64, Tryz.ntmps64
 go_wp2_with (with_reducible refine kA rfl 50 (.tmp 0) rfl cs rfl ?_)
 intro w0 hb0 hf0 hz0; subst hcs; have c0 := hb0.at_ (i := 0) rfl; have c1 := hb0.at_ (i := 1) rfl; have c2 := hb0.at_ (i := 2) rfl; have c3 := hb0.at_ (i := 3) rfl; have c4 := hb0.at_ (i := 4) rfl; have c5 := hb0.at_ (i := 5) rfl; have c6 := hb0.at_ (i := 6) rfl; have c7 := hb0.at_ (i := 7) rfl; have c8 := hb0.at_ (i := 8) rfl; have c9 := hb0.at_ (i := 9) rfl; have HF0 := lh hf0; clear hb0 hf0; go_upto_region 15 with fail
 have hfa : Fr [] w0 (w0.alloc (.cells ([.int .i64 0, .string ⟨#[]⟩, .int .i64 0, .bool false, .bool false, .bool false, .int .i64 0, .int .i64 0, .int .i64 0, .slice none 0 0] : List Value).toArray 50)) := (Fr.refl [] w0).alloc _; have hb1 := Blk.new w0 50 [.int .i64 0, .string ⟨#[]⟩, .int .i64 0, .bool false, .bool false, .bool false, .int .i64 0, .int .i64 0, .int .i64 0, .slice none 0 0]; simp only [List.toArray] at hfa hb1; generalize w0.alloc (.cells _ 50) = w1 at *; rw [hz0] at hb1; have k0 := bA hfa c0; have k1 := bA hfa c1; have k2 := bA hfa c2; have k3 := bA hfa c3; have k4 := bA hfa c4; have k5 := bA hfa c5; have k6 := bA hfa c6; have k7 := bA hfa c7; have k8 := bA hfa c8; have k9 := bA hfa c9; have HF1 := lh (HF0.out.trans hfa); have HB1 := lh hb1; clear c0 c1 c2 c3 c4 c5 c6 c7 c8 c9 hfa hb1; clear k0 k1 k2 k9; go_wp2_with fail; clear k6 k7 k8
 go_loopg [6, 53] 3 (fun j v6 v53 wr => ∃ k : Nat, k + j = 3 /\ v6 = .bool true /\ v53 = .int .i64 (k : Int) /\ w1 = wr)
 case atStart => exact ⟨0, rfl, rfl, rfl, rfl⟩
 case round =>
  obtain ⟨k, hk, rfl, rfl, rfl⟩ := hrel
  match k, hk with
  | 0, hk =>
   have hn := HN0.out; have hz := HZ0.out; have hs1 : decide (s0 <= 9007199254740991) = true := by simp [lG] at hn; simpa using hn.2
   have hs2 : decide (s0 ≥ -9007199254740991) = true := by simp [lG] at hn; simpa using hn.1
   have hix : (Instr.index 47 (.agg #[.int .i64 s0, .int .i64 s1, .int .i64 s2]) (.int .i64 0)).run Tryz.prog w1 = .ok (.int .i64 s0) w1 := by kernel_rfl
   cases h0 with
   | true =>
    clear hz; go_wp2_with fail
    go_roundg (3 - (0 + 1))
    case measure => omega
    case rel => exact ⟨0 + 1, by omega, rfl, by go_num, rfl⟩
   | false =>
    have hz' : (s0 == 0) = true := by simpa using hz
    clear hz; go_wp2_with fail
    go_roundg (3 - (0 + 1))
    case measure => omega
    case rel => exact ⟨0 + 1, by omega, rfl, by go_num, rfl⟩
  | 1, hk =>
   have hn := HN1.out; have hz := HZ1.out; have hs1 : decide (s1 <= 9007199254740991) = true := by simp [lG] at hn; simpa using hn.2
   have hs2 : decide (s1 ≥ -9007199254740991) = true := by simp [lG] at hn; simpa using hn.1
   have hix : (Instr.index 47 (.agg #[.int .i64 s0, .int .i64 s1, .int .i64 s2]) (.int .i64 1)).run Tryz.prog w1 = .ok (.int .i64 s1) w1 := by kernel_rfl
   cases h1 with
   | true =>
    clear hz; go_wp2_with fail
    go_roundg (3 - (1 + 1))
    case measure => omega
    case rel => exact ⟨1 + 1, by omega, rfl, by go_num, rfl⟩
   | false =>
    have hz' : (s1 == 0) = true := by simpa using hz
    clear hz; go_wp2_with fail
    go_roundg (3 - (1 + 1))
    case measure => omega
    case rel => exact ⟨1 + 1, by omega, rfl, by go_num, rfl⟩
  | 2, hk =>
   have hn := HN2.out; have hz := HZ2.out; have hs1 : decide (s2 <= 9007199254740991) = true := by simp [lG] at hn; simpa using hn.2
   have hs2 : decide (s2 ≥ -9007199254740991) = true := by simp [lG] at hn; simpa using hn.1
   have hix : (Instr.index 47 (.agg #[.int .i64 s0, .int .i64 s1, .int .i64 s2]) (.int .i64 2)).run Tryz.prog w1 = .ok (.int .i64 s2) w1 := by kernel_rfl
   cases h2 with
   | true =>
    clear hz; go_wp2_with fail
    go_roundg (3 - (2 + 1))
    case measure => omega
    case rel => exact ⟨2 + 1, by omega, rfl, by go_num, rfl⟩
   | false =>
    have hz' : (s2 == 0) = true := by simpa using hz
    clear hz; go_wp2_with fail
    go_roundg (3 - (2 + 1))
    case measure => omega
    case rel => exact ⟨2 + 1, by omega, rfl, by go_num, rfl⟩
  | 3, hk =>
   have e1 := HB1.out.at_ (i := 1) rfl; have e2 := HB1.out.at_ (i := 2) rfl; have e3 := HB1.out.at_ (i := 3) rfl; have e4 := HB1.out.at_ (i := 4) rfl; have e5 := HB1.out.at_ (i := 5) rfl; have e6 := HB1.out.at_ (i := 6) rfl; have e7 := HB1.out.at_ (i := 7) rfl; have e8 := HB1.out.at_ (i := 8) rfl; have q1 := fW w1; have q2 := gW w1; go_wp2_with fail; exact HQ.out _ _ ⟨rfl, HF1.out⟩
  | k + 4, hk => omega
end
section
variable {w : World} {N : Nat -> Prop} {cs : List Value}
theorem aEV {d : Int} {A : Option Addr} {c : Nat} {y : Xpr} (hcf : CAt w N (.rows 13 [y.cells]) (.slice A 1 c)) (hd1 : -1 <= d) (hd2 : d <= 100)
  (hE : ∀ (w1 : World) (ds : List Value), Fr [] w w1 -> fA w1 N y.cells ds -> RV 99 #[.agg ds.toArray, .int .i64 (d + 1)] w1 (.bool true)) :
  RV 64 #[.agg ([.int .i64 5, .string ⟨#[]⟩, .int .i64 0, .bool false, .bool false, .bool false, .int .i64 0, .int .i64 0, .int .i64 0, .slice A 1 c] : List Value).toArray, .int .i64 d] w (.bool true) := by
 refine cA fun R HQ => ?_; obtain ⟨A', c', g, off, hv, hA, hrow⟩ := hcf.row; injection hv with e1 e2 e3; subst e1 e3; obtain ⟨rfl, hNg⟩ := hA (by simp); obtain ⟨_, ds, hds, hcell⟩ := hrow 0 y.cells rfl; have hcl : ds.length = 13 := hds.1.trans (lA y); have hc1 : (Tryz.prog.info? 109).map (·.size) = some ds.length := by rw [hcl]; exact nB
 have HCELL := lh hcell; have HDS := lh hds; have HC1 := lh hc1; have HEE := lh hE; have HWR : Hid (IntKind.i64.wrap (d + 1) = d + 1) := lh (by rw [IntKind.wrap_i64]; omega); clear hrow hA hcf hds hcell hcl hc1 hE e2; obtain ⟨cs, hcs⟩ : ∃ cs : List Value, [.int .i64 5, .string ⟨#[]⟩, .int .i64 0, .bool false, .bool false, .bool false, .int .i64 0, .int .i64 0, .int .i64 0, .slice (some ⟨g, off, none⟩) 1 c] = cs := ⟨_, rfl⟩; rw [hcs]
 go_enter Tryz.func64, Tryz.ntmps64
 go_wp2_with (with_reducible refine kA rfl 50 (.tmp 0) rfl cs rfl ?_)
 intro w0 hb0 hf0 hz0; subst hcs; have c0 := hb0.at_ (i := 0) rfl; have c1 := hb0.at_ (i := 1) rfl; have c2 := hb0.at_ (i := 2) rfl; have c3 := hb0.at_ (i := 3) rfl; have c4 := hb0.at_ (i := 4) rfl; have c5 := hb0.at_ (i := 5) rfl; have c6 := hb0.at_ (i := 6) rfl; have c7 := hb0.at_ (i := 7) rfl; have c8 := hb0.at_ (i := 8) rfl; have c9 := hb0.at_ (i := 9) rfl; have HF0 := lh hf0; clear hb0 hf0; go_upto_region 21 with fail
 have hfa : Fr [] w0 (w0.alloc (.cells ([.int .i64 0, .string ⟨#[]⟩, .int .i64 0, .bool false, .bool false, .bool false, .int .i64 0, .int .i64 0, .int .i64 0, .slice none 0 0] : List Value).toArray 50)) := (Fr.refl [] w0).alloc _; have hb1 := Blk.new w0 50 [.int .i64 0, .string ⟨#[]⟩, .int .i64 0, .bool false, .bool false, .bool false, .int .i64 0, .int .i64 0, .int .i64 0, .slice none 0 0]; simp only [List.toArray] at hfa hb1; generalize w0.alloc (.cells _ 50) = w1 at *; rw [hz0] at hb1; have k0 := bA hfa c0; have k1 := bA hfa c1; have k2 := bA hfa c2; have k3 := bA hfa c3; have k4 := bA hfa c4; have k5 := bA hfa c5; have k6 := bA hfa c6; have k7 := bA hfa c7; have k8 := bA hfa c8; have k9 := bA hfa c9; have HF1 := lh (HF0.out.trans hfa); have HB1 := lh hb1; clear c0 c1 c2 c3 c4 c5 c6 c7 c8 c9 hfa hb1
 have hra : w1.rangeAt g off ds := fun j u hj => by
  have := HCELL.out j u hj; rw [show off + 13 * 0 + j = off + j by omega] at this; rw [HF1.out.cell (World.block_lt_of_cell? w _ this) (by simp)]; exact this
 have HRA := lh hra; have HC := lh (HEE.out w1 ds HF1.out (HDS.out.fr HF1.out)); have hwr := HWR.out; clear hra k0 k1 k2 k3 k4 k5 k6 k7 k8
 go_wp2_with (refine jE (by kernel_rfl) 109 (.tmp 86) rfl g off rfl ds _ HRA.out Tryz.underlying109 rfl HC1.out ?_)
 refine HC.out.mono ?_; rintro e w2 ⟨rfl, hf2⟩; have HF2 := lh (HF1.out.trans hf2); have HB2 := lh (HB1.out.fr hf2); clear hf2 hwr; have e1 := HB2.out.at_ (i := 1) rfl; have e2 := HB2.out.at_ (i := 2) rfl; have e3 := HB2.out.at_ (i := 3) rfl; have e4 := HB2.out.at_ (i := 4) rfl; have e5 := HB2.out.at_ (i := 5) rfl; have e6 := HB2.out.at_ (i := 6) rfl; have e7 := HB2.out.at_ (i := 7) rfl; have e8 := HB2.out.at_ (i := 8) rfl; have q1 := fW w2; have q2 := gW w2; go_wp2_with fail; exact HQ.out _ _ ⟨rfl, HF2.out⟩
end
end
end Go.Proofs.YtbggkiebfflcdaaGreatDoor
