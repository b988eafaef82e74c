/-
  Joined by join.py: Hg Hh Em En Eo Hk
-/
import Derived.KernelRfl
import Derived.Test.YtbggkiebfflcdaaGreatDoorJpf16
set_option maxRecDepth 100000
set_option maxHeartbeats 32000000
namespace Go.Proofs.YtbggkiebfflcdaaGreatDoor
section
open Go.RowKit Go.Shelf
theorem slr_text (x : Slr) : x.text = if x.what = 1 then quoteT x.name else if x.what = 2 then [42] else if x.what = 3 then Lib.itoa x.at_ else if x.what = 4 then slP x.has x.s 3 else 63 :: (xprTexts 0 x.f).flatten := by
 obtain ⟨_, _, _, _, _, _⟩ := x; rfl
theorem slr_inR (x : Slr) : x.inR = ((i64Ok x.at_ && i64Ok x.s.1 && i64Ok x.s.2.1 && i64Ok x.s.2.2) && x.f.all Xpr.inR) := by
 obtain ⟨_, _, _, _, _, _⟩ := x; rw [Slr.inR, inRExprs_all]; rfl
section
variable {w : World} {N : Nat -> Prop} {cs : List Value}
theorem seltext_any {x : Slr} (hg : Glob w) (h : RowAt w N x.cells cs) (hin : x.inR = true) (hwt : x.wt <= 1000000) (hlen : x.text.length <= 100000000) (hf : ∀ y ∈ x.f, TX y) : Calls Tryz.prog 60 #[.agg cs.toArray] w fun e w' => e = .returned (.string ⟨x.text.toArray⟩) /\ Fr [] w w' := by
 refine calls_post fun R HQ => ?_; obtain ⟨A, c, hcs, hcf⟩ := slr_shape h; rw [slr_inR] at hin; simp only [Bool.and_eq_true] at hin; obtain ⟨⟨⟨⟨ia, i0⟩, i1⟩, i2⟩, -⟩ := hin; have hfl : x.f.length <= 1000000 := by have := x.wt_eq; have := wtList_len x.f; omega
 have HSL := lh (fun W (hW : Fr [] w W) => sslice_any (hg.fr hW (by simp)) (h.fr hW (by simp)) i0 i1 i2); have HIT := lh (fun W (hW : Fr [] w W) => itoa_ok (hg.fr hW (by simp)) x.at_ ia); have HC1 : Hid ((Tryz.prog.info? 50).map (·.size) = some cs.length) := lh (by rw [h.1.trans (scells_len x)]; exact size_sel); rw [slr_text] at HQ hlen
 have hfj : (xprTexts 0 x.f).flatten = Lib.join (x.f.map Xpr.text) [] := by
  rw [join_empty, xprTexts_map]
  congr 1
  apply List.map_congr_left
  intro y _; exact wrapT_zero y
 rw [hfj] at HQ hlen; have HFL := lh hfl; have HG := lh hg; have HCF := lh hcf; have HTF := lh hf; have b0 : cs[0]? = some (.int .i64 x.what) := by rw [hcs]; rfl
 have b1 : cs[1]? = some (.string ⟨x.name.toArray⟩) := by rw [hcs]; rfl
 have b2 : cs[2]? = some (.int .i64 x.at_) := by rw [hcs]; rfl
 have b9 : cs[9]? = some (.slice A x.f.length c) := by rw [hcs]; rfl
 clear h hcs hcf hwt hfj hf hg ia i0 i1 i2 hfl; generalize slP x.has x.s 3 = st at *; generalize x.at_ = an at *; generalize x.name = nm at *; obtain ⟨wh, hwh⟩ : ∃ wh, x.what = wh := ⟨_, rfl⟩; rw [hwh] at HQ hlen b0; clear hwh
 go_enter Tryz.func60, Tryz.ntmps60
 go_wp2_with (with_reducible refine wpList_box rfl 50 (.tmp 0) rfl cs rfl ?_)
 intro w0 hb0 hf0 hz0; have HB0 := lh hb0; have HF0 := lh hf0; have c0 := hb0.at_ b0; have c1 := hb0.at_ b1; have c2 := hb0.at_ b2; have c9 := hb0.at_ b9; clear hb0 hf0 b0 b1 b2 b9
 by_cases h1 : wh = 1
 ·have d1 : (wh == 1) = true := by simpa using h1
  rw [if_pos h1] at HQ hlen; have hql := quoteT_ge nm; have HQT := lh (fun W => quote_t (w := W) ⟨nm.toArray⟩ (by show nm.toArray.size <= _; simp; omega)); clear h1 hlen hql; go_wp2_with fail; refine (HQT.out _).mono ?_; rintro e w1 ⟨rfl, hf1⟩; have HF1 := lh (HF0.out.trans hf1 (by simp)); clear hf1; go_wp2_with fail; exact HQ.out _ _ ⟨rfl, HF1.out⟩
 ·have d1 : (wh == 1) = false := by simpa using h1
  rw [if_neg h1] at HQ hlen
  by_cases h2 : wh = 2
  ·have d2 : (wh == 2) = true := by simpa using h2
   rw [if_pos h2] at HQ; clear h1 h2 hlen; go_wp2_with fail; exact HQ.out _ _ ⟨rfl, HF0.out⟩
  ·have d2 : (wh == 2) = false := by simpa using h2
   rw [if_neg h2] at HQ hlen
   by_cases h3 : wh = 3
   ·have d3 : (wh == 3) = true := by simpa using h3
    rw [if_pos h3] at HQ; clear h1 h2 h3 hlen; go_wp2_with fail; refine (HIT.out _ HF0.out).mono ?_; rintro e w1 ⟨rfl, hf1⟩; have HF1 := lh (HF0.out.trans hf1 (by simp)); clear hf1; go_wp2_with fail; exact HQ.out _ _ ⟨rfl, HF1.out⟩
   ·have d3 : (wh == 3) = false := by simpa using h3
    rw [if_neg h3] at HQ hlen
    by_cases h4 : wh = 4
    ·have d4 : (wh == 4) = true := by simpa using h4
     rw [if_pos h4] at HQ; clear h1 h2 h3 h4 hlen
     go_wp2_with (with_reducible refine wpList_get rfl 50 (.tmp 1) rfl rfl HB0.out Tryz.underlying50 rfl HC1.out ?_)
     refine (HSL.out _ HF0.out).mono ?_; rintro e w1 ⟨rfl, hf1⟩; have HF1 := lh (HF0.out.trans hf1 (by simp)); clear hf1; go_wp2_with fail; exact HQ.out _ _ ⟨rfl, HF1.out⟩
    ·have d4 : (wh == 4) = false := by simpa using h4
     rw [if_neg h4] at HQ hlen; have hjl : (Lib.join (x.f.map Xpr.text) []).length <= 100000000 := by rw [List.length_cons] at hlen; omega
     have hmm : (x.f.map Xpr.cells).length = x.f.length := by simp
     have hnn := HFL.out; have hcf2 := HCF.out.fr HF0.out (by simp); obtain ⟨fn, hfn⟩ : ∃ fn, x.f.length = fn := ⟨_, rfl⟩; rw [hfn] at hcf2 hnn c9
     have HJ := lh (joinX_any hcf2 hnn [] (f := 96) (first := #[]) (cap := #[]) (all := fun v => #[v]) (fun v => rfl) (fun v w => by kernel_rfl) Xpr.text hjl
      (fun y hy w1 ds hf1 h1 => HTF.out y hy w1 _ ds ((HG.out.fr HF0.out (by simp)).fr hf1 (by simp)) h1 (Nat.le_trans (join_mem (List.mem_map_of_mem hy)) hjl)))
     obtain ⟨jt, hjt⟩ : ∃ jt, Lib.join (x.f.map Xpr.text) [] = jt := ⟨_, rfl⟩; rw [hjt] at HJ HQ hjl; clear h1 h2 h3 h4 hlen hmm hcf2 hfn hjt; go_wp2_with fail; refine HJ.out.mono ?_; rintro e w1 ⟨rfl, hf1⟩; have HF1 := lh (HF0.out.trans hf1 (by simp)); clear hf1; go_wp2_with fail; exact HQ.out _ _ ⟨by simp [mk_app], HF1.out⟩
theorem sgm_text (x : Sgm) : x.text = (if x.deep = true then [46, 46] else []) ++ (91 :: Lib.join (x.l.map Slr.text) [44] ++ [93]) := by
 obtain ⟨_, _⟩ := x; rw [Sgm.text, selTexts_map]; rfl
theorem sgm_inR (x : Sgm) : x.inR = x.l.all Slr.inR := by
 obtain ⟨_, _⟩ := x; rw [Sgm.inR, inRSels_all]; rfl
theorem qry_text (q : Qry) : q.text = (if q.rel = true then 64 else 36) :: Lib.join (q.l.map Sgm.text) [] := by
 obtain ⟨_, _⟩ := q; rw [Qry.text, segTexts_map, join_empty]; rfl
theorem qry_inR (q : Qry) : q.inR = q.l.all Sgm.inR := by
 obtain ⟨_, _⟩ := q; rw [Qry.inR, inRSegs_all]; rfl
theorem segtext_any {x : Sgm} (hg : Glob w) (h : RowAt w N x.cells cs) (hin : x.inR = true) (hwt : x.wt <= 1000000) (hlen : x.text.length <= 100000000) (hf : ∀ y ∈ filSels x.l, TX y) : Calls Tryz.prog 33 #[.agg cs.toArray] w fun e w' => e = .returned (.string ⟨x.text.toArray⟩) /\ Fr [] w w' := by
 refine calls_post fun R HQ => ?_; obtain ⟨A, c, rfl, hc⟩ := seg_shape h; rw [sgm_inR, List.all_eq_true] at hin; have hll : x.l.length <= 1000000 := by have := x.wt_eq; have := wtSels_len x.l; omega
 have hjl : (Lib.join (x.l.map Slr.text) [44]).length <= 100000000 := by
  rw [sgm_text] at hlen; simp only [List.length_append, List.length_cons] at hlen; omega
 rw [sgm_text] at HQ; have hwx : ∀ y ∈ x.l, y.wt <= 1000000 := fun y hy => by have := wtSels_mem hy; have := x.wt_eq; omega
 have hfx : ∀ y ∈ x.l, ∀ z ∈ y.f, TX z := fun y hy z hz => hf z (List.mem_flatMap.2 ⟨y, hy, hz⟩); have hmm : (x.l.map Slr.cells).length = x.l.length := by simp
 have HJ := lh (fun W (hW : Fr [] w W) => joinS_any (hc.fr hW (by simp)) hll [44] (f := 60) (first := #[]) (cap := #[]) (all := fun v => #[v]) (fun v => rfl) (fun v w => by kernel_rfl) Slr.text hjl
  (fun y hy w1 ds hf1 h1 => seltext_any ((hg.fr hW (by simp)).fr hf1 (by simp)) h1 (hin y hy) (hwx y hy) (Nat.le_trans (join_mem (List.mem_map_of_mem hy)) hjl) (hfx y hy)))
 obtain ⟨jt, hjt⟩ : ∃ jt, Lib.join (x.l.map Slr.text) [44] = jt := ⟨_, rfl⟩; rw [hjt] at HJ HQ hjl; generalize x.l.length = n at *; generalize x.deep = dp at *; clear h hc hin hwt hlen hf hwx hfx hmm hjt hll hg
 go_enter Tryz.func33, Tryz.ntmps33
 go_wp2_with (with_reducible refine wpList_box rfl 54 (.tmp 0) rfl [.bool dp, .slice A n c] rfl ?_)
 intro w0 hb0 hf0 hz0; have c0 := hb0.at_ (i := 0) rfl; have c1 := hb0.at_ (i := 1) rfl; have HF0 := lh hf0; clear hb0 hf0; go_wp2_with fail; refine (HJ.out _ HF0.out).mono ?_; rintro e w1 ⟨rfl, hf1⟩; have k0 := fr_keep hf1 c0; have HF1 := lh (HF0.out.trans hf1 (by simp)); clear hf1 c0 c1
 cases dp with
 | true =>
  go_wp2_with fail; exact HQ.out _ _ ⟨by simp [mk_app], HF1.out⟩
 | false =>
  go_wp2_with fail; exact HQ.out _ _ ⟨by simp [mk_app], HF1.out⟩
theorem print_any {q : Qry} (hg : Glob w) (h : RowAt w N q.cells cs) (hin : q.inR = true) (hwt : q.wt <= 1000000) (hlen : q.text.length <= 100000000) (hf : ∀ y ∈ q.fil, TX y) : Calls Tryz.prog 16 #[.agg cs.toArray] w fun e w' => e = .returned (.string ⟨q.text.toArray⟩) /\ Fr [] w w' := by
 refine calls_post fun R HQ => ?_; obtain ⟨A, c, rfl, hc⟩ := qry_shape h; rw [qry_inR, List.all_eq_true] at hin; have hll : q.l.length <= 1000000 := by have := q.len_le; omega
 have hjl : (Lib.join (q.l.map Sgm.text) []).length <= 100000000 := by
  rw [qry_text] at hlen; simp only [List.length_cons] at hlen; omega
 rw [qry_text] at HQ; have hwx : ∀ y ∈ q.l, y.wt <= 1000000 := fun y hy => by have := wtSegs_mem hy; have := q.wt_eq; omega
 have hfx : ∀ y ∈ q.l, ∀ z ∈ filSels y.l, TX z := fun y hy z hz => hf z (List.mem_flatMap.2 ⟨y, hy, hz⟩); have hmm : (q.l.map Sgm.cells).length = q.l.length := by simp
 have HJ := lh (fun W (hW : Fr [] w W) => joinG_any (hc.fr hW (by simp)) hll [] (f := 33) (first := #[]) (cap := #[]) (all := fun v => #[v]) (fun v => rfl) (fun v w => by kernel_rfl) Sgm.text hjl
  (fun y hy w1 ds hf1 h1 => segtext_any ((hg.fr hW (by simp)).fr hf1 (by simp)) h1 (hin y hy) (hwx y hy) (Nat.le_trans (join_mem (List.mem_map_of_mem hy)) hjl) (hfx y hy)))
 obtain ⟨jt, hjt⟩ : ∃ jt, Lib.join (q.l.map Sgm.text) [] = jt := ⟨_, rfl⟩; rw [hjt] at HJ HQ hjl; generalize q.l.length = n at *; generalize q.rel = rel at *; clear h hc hin hwt hlen hf hwx hfx hmm hjt hll hg
 go_enter Tryz.func16, Tryz.ntmps16
 go_wp2_with (with_reducible refine wpList_box rfl 25 (.tmp 0) rfl [.bool rel, .slice A n c] rfl ?_)
 intro w0 hb0 hf0 hz0; have c0 := hb0.at_ (i := 0) rfl; have c1 := hb0.at_ (i := 1) rfl; have HF0 := lh hf0; clear hb0 hf0
 cases rel with
 | true =>
  go_wp2_with fail; refine (HJ.out _ HF0.out).mono ?_; rintro e w1 ⟨rfl, hf1⟩; have HF1 := lh (HF0.out.trans hf1 (by simp)); clear hf1 c0 c1; go_wp2_with fail; exact HQ.out _ _ ⟨by simp [mk_app], HF1.out⟩
 | false =>
  go_wp2_with fail; refine (HJ.out _ HF0.out).mono ?_; rintro e w1 ⟨rfl, hf1⟩; have HF1 := lh (HF0.out.trans hf1 (by simp)); clear hf1 c0 c1; go_wp2_with fail; exact HQ.out _ _ ⟨by simp [mk_app], HF1.out⟩
end
theorem xpr_shape {w : World} {N : Nat -> Prop} {x : Xpr} {cs : List Value} (h : RowAt w N x.cells cs) : ∃ A c Aq cq vcs, cs = .int .i64 x.what :: .slice A x.l.length c :: .string ⟨x.op.toArray⟩ :: .bool x.q.rel :: .slice Aq x.q.l.length cq :: vcs /\
  CAt w N (.rows 13 (x.l.map Xpr.cells)) (.slice A x.l.length c) /\ RowAt w N x.q.cells [.bool x.q.rel, .slice Aq x.q.l.length cq] /\ RowAt w N x.v.cells vcs := by
 obtain ⟨what, l, op, ⟨rel, ql⟩, v⟩ := x; obtain ⟨c1, rfl, h1⟩ := h.lf; obtain ⟨v1, c2, rfl, k1, h2⟩ := h1.inv; obtain ⟨c3, rfl, h3⟩ := h2.lf; obtain ⟨c4, rfl, h4⟩ := RowAt.lf (a := .bool rel) (row := .rows 2 (cellsSegs ql) :: v.cells) h3; obtain ⟨v2, c5, rfl, k2, h5⟩ := h4.inv; rw [cellsExprs_map] at k1; obtain ⟨A, c, rfl, _⟩ := k1.slice; have k3 := k2; rw [cellsSegs_map] at k3; obtain ⟨Aq, cq, rfl, _⟩ := k3.slice; refine ⟨A, c, Aq, cq, c5, by simp [Xpr.what, Xpr.l, Xpr.op, Xpr.q, Qry.rel, Qry.l, S8], by simpa [Xpr.l] using k1, ?_, h5⟩; have h8 : RowAt w N (Qry.cells (.mk rel ql)) [.bool rel, .slice Aq (ql.map Sgm.cells).length cq] := .tl rfl (.cons k2 (.nil _ _))
 simpa [Xpr.q, Qry.l, Qry.rel] using h8
theorem xpr_text (x : Xpr) : x.text = if x.what = 1 then Lib.join (x.l.map (wrapT 1)) [32, 124, 124, 32] else if x.what = 2 then Lib.join (x.l.map (wrapT 2)) [32, 38, 38, 32]
  else if x.what = 3 then (if (match x.l with | [y] => y.bare | _ => false) = true then 33 :: Lib.join (x.l.map Xpr.text) [] else [33, 40] ++ Lib.join (x.l.map Xpr.text) [] ++ [41])
  else if x.what = 4 then Lib.join (x.l.map Xpr.text) (32 :: x.op ++ [32]) else if x.what = 6 then x.q.text
  else if x.what = 7 then x.op ++ 40 :: Lib.join (x.l.map Xpr.text) [44] ++ [41] else x.v.text := by
 have h0 : ∀ l : List Xpr, xprTexts 0 l = l.map Xpr.text := fun l => by
  rw [xprTexts_map]
  apply List.map_congr_left
  intro y _; exact wrapT_zero y
 obtain ⟨what, l, op, q, v⟩ := x; rw [Xpr.text.eq_def]; simp only [h0, xprTexts_map, join_empty]
 rfl
theorem xpr_inR (x : Xpr) : x.inR = (x.v.inR && x.q.inR && x.l.all Xpr.inR) := by
 obtain ⟨_, _, _, _, _⟩ := x; rw [Xpr.inR, inRExprs_all]; rfl
theorem join_tail_le {a j : List UInt8} (h : (a ++ 40 :: j ++ [41]).length <= 100000000) : j.length <= 100000000 := by
 simp only [List.length_append, List.length_cons] at h; omega
section
variable {w : World} {N : Nat -> Prop} {cs : List Value}
theorem etext_any {x : Xpr} (hg : Glob w) (h : RowAt w N x.cells cs) (hin : x.inR = true) (hwt : x.wt <= 1000000) (hlen : x.text.length <= 100000000) (hq : ∀ y ∈ x.q.fil, TX y) (hl : ∀ y ∈ x.l, TX y) : Calls Tryz.prog 96 #[.agg cs.toArray] w fun e w' => e = .returned (.string ⟨x.text.toArray⟩) /\ Fr [] w w' := by
 refine calls_post fun R HQ => ?_; obtain ⟨A, c, Aq, cq, vcs, rfl, hcl, hcq, hcv⟩ := xpr_shape h; rw [xpr_inR] at hin; simp only [Bool.and_eq_true] at hin; obtain ⟨⟨iv, iq⟩, -⟩ := hin; have hwe := x.wt_eq; have hll : x.l.length <= 1000000 := by have := wtList_len x.l; omega
 have hol : x.op.length <= 1000000 := by omega
 have hvl : vcs.length = 8 := hcv.1; have HC8 : Hid ((Tryz.prog.info? 107).map (·.size) = some vcs.length) := lh (by rw [hvl]; kernel_rfl); rw [xpr_text] at HQ hlen; have HTQ := lh (fun (hl9 : x.q.text.length <= 100000000) W (hW : Fr [] w W) => print_any (hg.fr hW (by simp)) (hcq.fr hW (by simp)) iq (by omega) hl9 hq); have HLT := lh (fun (hl9 : x.v.text.length <= 100000000) W (hW : Fr [] w W) => literal_any (hg.fr hW (by simp)) (hcv.fr hW (by simp)) (Vlu.inR_n iv) hl9); have HLL := lh hll; have HG := lh hg; have HCL := lh hcl; have HTL := lh hl; have HOL := lh hol; clear h hcq hcv hvl hq hl hg iv iq hwe hwt hll hol; obtain ⟨wh, hwh⟩ : ∃ wh, x.what = wh := ⟨_, rfl⟩; rw [hwh] at HQ hlen ⊢; clear hwh
 go_enter Tryz.func96, Tryz.ntmps96
 go_wp2_with (with_reducible refine wpList_box rfl 109 (.tmp 0) rfl (.int .i64 wh :: .slice A x.l.length c :: .string ⟨x.op.toArray⟩ :: .bool x.q.rel :: .slice Aq x.q.l.length cq :: vcs) rfl ?_)
 intro w0 hb0 hf0 hz0; have HB0 := lh hb0; have HF0 := lh hf0; have c0 := hb0.at_ (i := 0) rfl; have c1 := hb0.at_ (i := 1) rfl; have c2 := hb0.at_ (i := 2) rfl; have c3 := hb0.at_ (i := 3) rfl; have c4 := hb0.at_ (i := 4) rfl
 have hra : w0.rangeAt w.heap.size 5 vcs := fun j u hj => by
  have := hb0.at_ (i := j + 5) (v := u) (by simpa using hj); rw [Nat.add_comm 5 j]; exact this
 have HRA := lh hra; clear hb0 hf0 hra
 by_cases h1 : wh = 1
 ·have d1 : (wh == 1) = true := by simpa using h1
  rw [if_pos h1] at HQ hlen; have hjl : (Lib.join (x.l.map (wrapT 1)) [32, 124, 124, 32]).length <= 100000000 := by (exact hlen)
  have HJW := lh (fun W (hW : Fr [] w W) => joinX_any (A := A) (n := x.l.length) (cp := c) (HCL.out.fr hW (by simp)) HLL.out [32, 124, 124, 32] (f := 143) (first := #[]) (cap := #[]) (all := fun v => #[v]) (fun v => rfl) (fun v w => by kernel_rfl) (wrapT 1) hjl
   (fun y hy w1 ds hf1 h1 => among_any ((HG.out.fr hW (by simp)).fr hf1 (by simp)) h1 (HTL.out y hy) (Nat.le_trans (wrapT_ge 1 y) (Nat.le_trans (join_mem (List.mem_map_of_mem hy)) hjl))))
  have HJ := lh (HJW.out w0 HF0.out); clear h1 hlen hjl; generalize x.l.length = n at *; go_wp2_with fail; refine HJ.out.mono ?_; rintro e w1 ⟨rfl, hf1⟩; have HF1 := lh (HF0.out.trans hf1 (by simp)); clear hf1; go_wp2_with fail; exact HQ.out _ _ ⟨by rfl, HF1.out⟩
 ·have d1 : (wh == 1) = false := by simpa using h1
  rw [if_neg h1] at HQ hlen
  by_cases h2 : wh = 2
  ·have d2 : (wh == 2) = true := by simpa using h2
   rw [if_pos h2] at HQ hlen; clear h1 h2; have hjl : (Lib.join (x.l.map (wrapT 2)) [32, 38, 38, 32]).length <= 100000000 := by (exact hlen)
   have HJW := lh (fun W (hW : Fr [] w W) => joinX_any (A := A) (n := x.l.length) (cp := c) (HCL.out.fr hW (by simp)) HLL.out [32, 38, 38, 32] (f := 144) (first := #[]) (cap := #[]) (all := fun v => #[v]) (fun v => rfl) (fun v w => by kernel_rfl) (wrapT 2) hjl
    (fun y hy w1 ds hf1 h1 => inner_any ((HG.out.fr hW (by simp)).fr hf1 (by simp)) h1 (HTL.out y hy) (Nat.le_trans (wrapT_ge 2 y) (Nat.le_trans (join_mem (List.mem_map_of_mem hy)) hjl))))
   have HJ := lh (HJW.out w0 HF0.out); clear hlen hjl; generalize x.l.length = n at *; go_wp2_with fail; refine HJ.out.mono ?_; rintro e w1 ⟨rfl, hf1⟩; have HF1 := lh (HF0.out.trans hf1 (by simp)); clear hf1; go_wp2_with fail; exact HQ.out _ _ ⟨by rfl, HF1.out⟩
  ·have d2 : (wh == 2) = false := by simpa using h2
   rw [if_neg h2] at HQ hlen
   by_cases h3 : wh = 3
   ·have d3 : (wh == 3) = true := by simpa using h3
    rw [if_pos h3] at HQ hlen; clear h1 h2 h3
    have hjl : (Lib.join (x.l.map Xpr.text) []).length <= 100000000 := by
     have key : ∀ (b : Bool) (J : List UInt8), (if b = true then 33 :: J else [33, 40] ++ J ++ [41]).length <= 100000000 -> J.length <= 100000000 := by
      intro b J hb
      cases b <;> simp at hb <;> omega
     exact key _ _ hlen
    have HJL := lh hjl; have hjl : (Lib.join (x.l.map Xpr.text) []).length <= 100000000 := by (exact HJL.out)
    have HJW := lh (fun W (hW : Fr [] w W) => joinX_any (A := A) (n := x.l.length) (cp := c) (HCL.out.fr hW (by simp)) HLL.out [] (f := 96) (first := #[]) (cap := #[]) (all := fun v => #[v]) (fun v => rfl) (fun v w => by kernel_rfl) Xpr.text hjl
     (fun y hy w1 ds hf1 h1 => HTL.out y hy w1 _ ds ((HG.out.fr hW (by simp)).fr hf1 (by simp)) h1 (Nat.le_trans (join_mem (List.mem_map_of_mem hy)) HJL.out)))
    have HJ := lh (HJW.out w0 HF0.out); clear hlen hjl
    by_cases hn : x.l.length = 1
    ·obtain ⟨y, hy⟩ : ∃ y, x.l = [y] := by
      match hx : x.l, hn with
      | [y], _ => exact ⟨y, rfl⟩
     have hcl := HCL.out; have htl := HTL.out y (by rw [hy]; simp); rw [hy] at hcl c1 HQ HJL; clear HJ; obtain ⟨A', c', g, off, hv, hA, hrow⟩ := hcl.row; injection hv with e1 e2 e3; subst e1 e3; obtain ⟨rfl, hNg⟩ := hA (by simp); obtain ⟨_, cs1, hcs1, hcell1⟩ := hrow 0 y.cells rfl
     have hra1 : w0.rangeAt g off cs1 := fun j u hj => by
      have := hcell1 j u hj; rw [show off + 13 * 0 + j = off + j by omega] at this; exact fr_keep HF0.out this
     have hcl1 : cs1.length = 13 := hcs1.1.trans (xcells_len y); have HCX : Hid ((Tryz.prog.info? 109).map (·.size) = some cs1.length) := lh (by rw [hcl1]; exact size_x); have HRY := lh hra1; have HBA := lh (bare_any (hcs1.fr HF0.out (by simp))); have hyl : y.text.length <= 100000000 := by have := HJL.out; rw [List.map_cons, List.map_nil, Lib.join_one] at this; exact this
     have HTY := lh (fun W (hW : Fr [] w W) => htl W _ cs1 (HG.out.fr hW (by simp)) (hcs1.fr hW (by simp)) hyl); have hjo : Lib.join ([y].map Xpr.text) [] = y.text := by rw [List.map_cons, List.map_nil, Lib.join_one]
     rw [hjo] at HQ; rw [hy, hjo] at HJW; have HQ2 : Hid (∀ e w', e = .returned (.string ⟨(if y.bare = true then 33 :: y.text else [33, 40] ++ y.text ++ [41]).toArray⟩) /\ Fr [] w w' -> R e w') := lh HQ.out; generalize y.bare = b at *; generalize y.text = ty at *; have hone : ([y] : List Xpr).length = 1 := rfl; rw [hone] at c1 HJW; clear hcl htl hrow hA hcs1 hcell1 hra1 hcl1 hjo HQ hn hy hone
     go_wp2_with (refine wpList_mid_g (by kernel_rfl) 109 (.tmp 24) rfl g off rfl cs1 _ HRY.out Tryz.underlying109 rfl HCX.out ?_)
     refine HBA.out.mono ?_; rintro e w3 ⟨rfl, hf3⟩; have HF3 := lh (HF0.out.trans hf3 (by simp)); have k1 := fr_keep hf3 c1; have hra3 : w3.rangeAt g off cs1 := fun j u hj => fr_keep hf3 (HRY.out j u hj); have HRY3 := lh hra3; have HTY3 := lh (HTY.out w3 HF3.out); have HJ3 := lh (HJW.out w3 HF3.out); clear hf3 hra3 c0 c1 c2 c3 c4
     cases b with
     | true =>
      go_wp2_with (with_reducible refine wpList_load_mid rfl 109 (.tmp 30) rfl g off rfl cs1 _ HRY3.out Tryz.underlying109 rfl HCX.out ?_)
      refine HTY3.out.mono ?_; rintro e w4 ⟨rfl, hf4⟩; have HF4 := lh (HF3.out.trans hf4 (by simp)); clear hf4; go_wp2_with fail; exact HQ2.out _ _ ⟨by simp [mk_app], HF4.out⟩
     | false =>
      go_wp2_with fail; refine HJ3.out.mono ?_; rintro e w4 ⟨rfl, hf4⟩; have HF4 := lh (HF3.out.trans hf4 (by simp)); clear hf4; go_wp2_with fail; exact HQ2.out _ _ ⟨by simp [mk_app], HF4.out⟩
    ·have hm : (match x.l with | [y] => y.bare | _ => false) = false := by
      match hx : x.l, hn with
      | [], _ => rfl
      | [y], hn => exact absurd rfl hn
      | a :: b :: l, _ => rfl
     rw [hm, if_neg (by simp)] at HQ; have d9 : ((x.l.length : Int) == 1) = false := by rw [beq_eq_false_iff_ne]; omega
     obtain ⟨jt, hjt⟩ : ∃ jt, Lib.join (x.l.map Xpr.text) [] = jt := ⟨_, rfl⟩; rw [hjt] at HJ HQ HJL; have hjl := HJL.out; generalize x.l.length = n at *; clear hn hm hjt; go_wp2_with fail; refine HJ.out.mono ?_; rintro e w1 ⟨rfl, hf1⟩; have HF1 := lh (HF0.out.trans hf1 (by simp)); clear hf1; go_wp2_with fail; exact HQ.out _ _ ⟨by simp [mk_app], HF1.out⟩
   ·have d3 : (wh == 3) = false := by simpa using h3
    rw [if_neg h3] at HQ hlen
    by_cases h4 : wh = 4
    ·have d4 : (wh == 4) = true := by simpa using h4
     rw [if_pos h4] at HQ hlen; clear h1 h2 h3 h4; have hjl : (Lib.join (x.l.map Xpr.text) (32 :: x.op ++ [32])).length <= 100000000 := by (exact hlen)
     have HJW := lh (fun W (hW : Fr [] w W) => joinX_any (A := A) (n := x.l.length) (cp := c) (HCL.out.fr hW (by simp)) HLL.out (32 :: x.op ++ [32]) (f := 96) (first := #[]) (cap := #[]) (all := fun v => #[v]) (fun v => rfl) (fun v w => by kernel_rfl) Xpr.text hjl
      (fun y hy w1 ds hf1 h1 => HTL.out y hy w1 _ ds ((HG.out.fr hW (by simp)).fr hf1 (by simp)) h1 (Nat.le_trans (join_mem (List.mem_map_of_mem hy)) hjl)))
     have HJ := lh (HJW.out w0 HF0.out); have hsp : (⟨(32 :: x.op ++ [32]).toArray⟩ : ByteArray) = (⟨#[32]⟩ : ByteArray) ++ (⟨x.op.toArray⟩ : ByteArray) ++ (⟨#[32]⟩ : ByteArray) := by simp [mk_app]
     rw [hsp] at HJ; have hol := HOL.out; clear hlen hjl; generalize x.l.length = n at *; go_wp2_with fail; refine HJ.out.mono ?_; rintro e w1 ⟨rfl, hf1⟩; have HF1 := lh (HF0.out.trans hf1 (by simp)); clear hf1; go_wp2_with fail; exact HQ.out _ _ ⟨by rfl, HF1.out⟩
    ·have d4 : (wh == 4) = false := by simpa using h4
     rw [if_neg h4] at HQ hlen
     by_cases h6 : wh = 6
     ·have d6 : (wh == 6) = true := by simpa using h6
      rw [if_pos h6] at HQ hlen; have HJ := lh (HTQ.out hlen w0 HF0.out); clear h1 h2 h3 h4 h6 hlen; generalize x.q.l.length = qn at *; generalize x.q.rel = rel at *; go_wp2_with fail; refine HJ.out.mono ?_; rintro e w1 ⟨rfl, hf1⟩; have HF1 := lh (HF0.out.trans hf1 (by simp)); clear hf1; go_wp2_with fail; exact HQ.out _ _ ⟨by rfl, HF1.out⟩
     ·have d6 : (wh == 6) = false := by simpa using h6
      rw [if_neg h6] at HQ hlen
      by_cases h7 : wh = 7
      ·have d7 : (wh == 7) = true := by simpa using h7
       rw [if_pos h7] at HQ hlen; clear h1 h2 h3 h4 h6 h7; have hjl : (Lib.join (x.l.map Xpr.text) [44]).length <= 100000000 := by (exact join_tail_le hlen)
       have HJW := lh (fun W (hW : Fr [] w W) => joinX_any (A := A) (n := x.l.length) (cp := c) (HCL.out.fr hW (by simp)) HLL.out [44] (f := 96) (first := #[]) (cap := #[]) (all := fun v => #[v]) (fun v => rfl) (fun v w => by kernel_rfl) Xpr.text hjl
        (fun y hy w1 ds hf1 h1 => HTL.out y hy w1 _ ds ((HG.out.fr hW (by simp)).fr hf1 (by simp)) h1 (Nat.le_trans (join_mem (List.mem_map_of_mem hy)) hjl)))
       have HJ := lh (HJW.out w0 HF0.out); obtain ⟨jt, hjt⟩ : ∃ jt, Lib.join (x.l.map Xpr.text) [44] = jt := ⟨_, rfl⟩; rw [hjt] at HJW HQ hjl; have hol := HOL.out; have ha1 := fun W => str_add x.op [40] (by simp; omega) W; have ha2 := fun W => str_add (x.op ++ [40]) jt (by simp; omega) W; have ha3 := fun W => str_add (x.op ++ 40 :: jt) [41] (by simp; omega) W; generalize x.l.length = n at *; generalize x.op = op at *; clear hlen HJ hjt; go_upto_region 15 with fail
       refine wp_region_K (fun W => W.cell? ⟨w.heap.size, 1, none⟩ = some (.slice A n c) /\ W.cell? ⟨w.heap.size, 2, none⟩ = some (.string ⟨op.toArray⟩)) [0, 1, 2, 3, 4, 6, 7] (by kernel_rfl) ?_; refine tks [0, 1, 2, 3, 4] ?_
       iterate 5 (refine tk rfl rfl ⟨c1, c2⟩ rfl (fun _ hW => by (obtain ⟨q0, q1⟩ := hW; go_simp) <;> with_reducible rfl) ?_; simp only [nrm])
       refine tke ?_; refine sp 5 rfl rfl rfl fun K hK => ?_; refine wp_call_f (l := [.tmp 59, .const (.string { data := #[44] }), .func 96]) rfl [.slice A n c, .string { data := #[44] }, .func (.func 96) #[] #[]] rfl (fun W => by kernel_rfl) ((HJW.out _ HF0.out.drew).mono ?_); rintro e w3 ⟨rfl, hf3⟩; have hf23 : Fr [] w0 w3 := ((Fr.refl [] w0).drew).trans hf3 (by simp); have j1 := fr_keep hf23 c1; have j2 := fr_keep hf23 c2; refine ⟨_, rfl, hK _ _ (fun _ => ⟨j1, j2⟩) ?_⟩; simp only [nrm]; clear hK; refine tks [6, 7] ?_
       iterate 2 (refine tk rfl rfl ⟨j1, j2⟩ rfl (fun _ hW => by (obtain ⟨q0, q1⟩ := hW; go_simp) <;> with_reducible rfl) ?_; simp only [nrm])
       refine tke ?_; refine sp 8 rfl rfl rfl fun K hK => ?_; refine wp_run_same (v := ?aq1_8) ?yq1_8 (hK _ _ (fun _ => ⟨j1, j2⟩) ?_)
       case yq1_8 => go_simp <;> with_reducible rfl
       simp only [nrm]; refine wd ?_ _; have HF3 := lh (HF0.out.trans hf23 (by simp)); clear hf3 hf23 j1 j2 c0 c1 c2 c3 c4; go_wp2_with fail; exact HQ.out _ _ ⟨by simp [], HF3.out⟩
      ·have d7 : (wh == 7) = false := by simpa using h7
       rw [if_neg h7] at HQ hlen; have HJ := lh (HLT.out hlen w0 HF0.out); clear h1 h2 h3 h4 h6 h7 hlen
       go_wp2_with (with_reducible refine wpList_load_mid rfl 107 (.tmp 63) rfl w.heap.size 5 rfl vcs _ HRA.out Tryz.underlying107 rfl HC8.out ?_)
       refine HJ.out.mono ?_; rintro e w1 ⟨rfl, hf1⟩; have HF1 := lh (HF0.out.trans hf1 (by simp)); clear hf1; go_wp2_with fail; exact HQ.out _ _ ⟨by rfl, HF1.out⟩
end
theorem fil_inR {q : Qry} (h : q.inR = true) {y : Xpr} (hy : y ∈ q.fil) : y.inR = true := by
 rw [qry_inR, List.all_eq_true] at h; unfold Qry.fil filSegs filSels at hy; obtain ⟨s, hs, hy⟩ := List.mem_flatMap.1 hy; obtain ⟨t, ht, hy⟩ := List.mem_flatMap.1 hy; have h1 := h s hs; rw [sgm_inR, List.all_eq_true] at h1; have h2 := h1 t ht; rw [slr_inR] at h2; simp only [Bool.and_eq_true, List.all_eq_true] at h2; exact h2.2 y hy
theorem tx_all : ∀ (n : Nat), n <= 1000000 -> ∀ x : Xpr, x.wt <= n -> x.inR = true -> TX x := by
 intro n
 induction n with
 | zero => intro _ x hx; have := x.wt_pos; omega
 | succ n ih =>
  intro hn x hx hin w N cs hg h hl; have hwe := x.wt_eq; have hin' := hin; rw [xpr_inR] at hin'; simp only [Bool.and_eq_true, List.all_eq_true] at hin'; exact etext_any hg h hin (by omega) hl (fun y hy => ih (by omega) y (by have := Qry.fil_lt hy; omega) (fil_inR hin'.1.2 hy)) (fun y hy => ih (by omega) y (by have := wtList_mem hy; omega) (hin'.2 y hy))
theorem Qry.print_any {q : Qry} {w : World} {N : Nat -> Prop} {cs : List Value} (hg : Glob w) (h : RowAt w N q.cells cs) (hin : q.inR = true) (hwt : q.wt <= 1000000) (hlen : q.text.length <= 100000000) : Calls Tryz.prog 16 #[.agg cs.toArray] w fun e w' => e = .returned (.string ⟨q.text.toArray⟩) /\ Fr [] w w' :=
 Go.Proofs.YtbggkiebfflcdaaGreatDoor.print_any hg h hin hwt hlen fun y hy => tx_all _ hwt y (by have := Qry.fil_lt hy; omega) (fil_inR hin hy)
end
section
open Go.RowKit
def Toks (a : Nat) (l : List UInt8) (ts : List Tkn) : Prop := ∀ n, l.length < n -> tokensF n a l = .ok ts
theorem toks_nil (a : Nat) : Toks a [] [] := fun n hn => by
 match n, hn with
 | n + 1, _ => simp [tokensF, nextT]
theorem toks_cons {a k m : Nat} {c : UInt8} {u l s : List UInt8} {d : Dcm} {ts : List Tkn} (hw : whiteB c = false) (hr : readT (c :: (u ++ l)) = .ok (k, s, d, m)) (hm : m = u.length + 1) (hk : k ≠ 0)
  (h : Toks (a + m) l ts) : Toks a (c :: (u ++ l)) (⟨k, s, d, a, a + m⟩ :: ts) := fun n hn => by
 match n, hn with
 | n + 1, hn =>
  have e1 : nextT a (c :: (u ++ l)) = .ok ⟨k, s, d, a, a + m⟩ := by
   unfold nextT; have : (c :: (u ++ l)).dropWhile whiteB = c :: (u ++ l) := by simp [hw]
   simp only [this, Nat.sub_self, Nat.add_zero, hr]
  unfold tokensF; rw [e1]; simp only [hk, if_false]; have : (c :: (u ++ l)).drop (a + m - a) = l := by rw [Nat.add_sub_cancel_left, hm]; simp
  rw [this, h n (by simp at hn; omega)]
def soloL : List UInt8 := [36, 64, 44, 59, 63, 42, 91, 93, 40, 41, 123, 125, 43]
theorem readT_solo {c : UInt8} (h : c ∈ soloL) (l : List UInt8) : readT (c :: l) = .ok (4, [c], .zero, 1) := by
 simp only [soloL, List.mem_cons, List.not_mem_nil, or_false] at h; rcases h with h | h | h | h | h | h | h | h | h | h | h | h | h <;> subst h <;> rfl
theorem solo_white {c : UInt8} (h : c ∈ soloL) : whiteB c = false := by
 simp only [soloL, List.mem_cons, List.not_mem_nil, or_false] at h; rcases h with h | h | h | h | h | h | h | h | h | h | h | h | h <;> subst h <;> rfl
theorem toks_solo {a : Nat} {c : UInt8} {l : List UInt8} {ts : List Tkn} (hc : c ∈ soloL) (h : Toks (a + 1) l ts) : Toks a (c :: l) (⟨4, [c], .zero, a, a + 1⟩ :: ts) :=
 toks_cons (u := []) (solo_white hc) (readT_solo hc l) rfl (by decide) h
theorem readT_dots (l : List UInt8) : readT (46 :: 46 :: l) = .ok (4, [46, 46], .zero, 2) := rfl
theorem toks_dots {a : Nat} {l : List UInt8} {ts : List Tkn} (h : Toks (a + 2) l ts) : Toks a (46 :: 46 :: l) (⟨4, [46, 46], .zero, a, a + 2⟩ :: ts) :=
 toks_cons (u := [46]) rfl (readT_dots l) rfl (by decide) h
theorem isPre_two {x y c : UInt8} {l : List UInt8} (h : isHead y l = false) : [x, y].isPrefixOf (c :: l) = false := by
 match l with
 | [] => simp [List.isPrefixOf]
 | d :: l =>
  have : y ≠ d := fun e => by subst e; simp [isHead] at h
  simp [List.isPrefixOf, this]
theorem readT_dot {l : List UInt8} (h : isHead 46 l = false) : readT (46 :: l) = .ok (4, [46], .zero, 1) := by
 have e : signT (46 :: l) = 1 := by
  unfold signT
  have : twos.any (fun x => x.isPrefixOf (46 :: l)) = false := by
   simp only [twos, List.any_cons, List.any_nil, isPre_two h, Bool.or_false, Bool.false_or]; rfl
  rw [this]; rfl
 unfold readT; simp only [e]
 rfl
theorem toks_dot {a : Nat} {l : List UInt8} {ts : List Tkn} (hl : isHead 46 l = false) (h : Toks (a + 1) l ts) : Toks a (46 :: l) (⟨4, [46], .zero, a, a + 1⟩ :: ts) :=
 toks_cons (u := []) rfl (readT_dot hl) rfl (by decide) h
theorem readT_colon {l : List UInt8} (h : isHead 61 l = false) : readT (58 :: l) = .ok (4, [58], .zero, 1) := by
 have e : signT (58 :: l) = 1 := by
  unfold signT
  have : twos.any (fun x => x.isPrefixOf (58 :: l)) = false := by
   simp only [twos, List.any_cons, List.any_nil, isPre_two h, Bool.or_false, Bool.false_or]; rfl
  rw [this]; rfl
 unfold readT; simp only [e]
 rfl
theorem toks_colon {a : Nat} {l : List UInt8} {ts : List Tkn} (hl : isHead 61 l = false) (h : Toks (a + 1) l ts) : Toks a (58 :: l) (⟨4, [58], .zero, a, a + 1⟩ :: ts) :=
 toks_cons (u := []) rfl (readT_colon hl) rfl (by decide) h
theorem lead_low {c : UInt8} (h : c.toNat < 128) : leadB 0 c = true /\ soundB (c.toNat : Int) = true := by
 have := u8_all (fun c => !decide (c.toNat < 128) || (leadB 0 c && soundB (c.toNat : Int))) (by decide +kernel) c
 simpa [h] using this
theorem nextOf_low {c : UInt8} (h : c.toNat < 128) (l : List UInt8) : nextOf (c :: l) = some (c.toNat, 1) := by
 obtain ⟨h1, h2⟩ := lead_low h; unfold nextOf
 dsimp only
 rw [if_pos h1]; unfold nextK; have : tails (headOf 0 c) (l.take 0) = some c.toNat := by simp [tails, headOf, leadOf]
 rw [this]
 dsimp only
 rw [h2, if_neg (by simp [leastOf])]
theorem checkF_low : ∀ (n : Nat) (l : List UInt8), l.length <= n -> (∀ c ∈ l, c.toNat < 128) -> checkF n l = true
 | 0, l, h, _ => by have : l = [] := List.length_eq_zero_iff.mp (by omega); subst this; rfl
 | n + 1, [], _, _ => rfl
 | n + 1, c :: l, h, hc => by
  unfold checkF
  dsimp only
  rw [nextOf_low (hc c (by simp)) l]; exact checkF_low n l (by simp at h; omega) fun d hd => hc d (by simp [hd])
theorem checkU_low {l : List UInt8} (h : ∀ c ∈ l, c.toNat < 128) : checkU l = true := checkF_low _ l (Nat.le_refl _) h
def lowB (c : UInt8) : Bool := decide (97 <= c.toNat /\ c.toNat <= 122)
theorem lowB_facts {c : UInt8} (h : lowB c = true) : begB c = true /\ nameB c = true /\ whiteB c = false /\ c.toNat < 128 /\ c ≠ 39 /\ c ≠ 46 /\ c.toNat ≠ 92 /\ 32 <= c.toNat /\ putU c.toNat = [c] := by
 have := u8_all (fun c => !lowB c || (begB c && nameB c && !whiteB c && decide (c.toNat < 128) && decide (c ≠ 39) && decide (c ≠ 46) && decide (c.toNat ≠ 92) && decide (32 <= c.toNat) && (putU c.toNat == [c]))) (by decide +kernel) c
 simp [h] at this
 simp [this]
theorem low_name {l : List UInt8} (h : l.all lowB = true) : l.takeWhile nameB = l := by
 induction l with
 | nil => rfl
 | cons c l ih =>
  simp only [List.all_cons, Bool.and_eq_true] at h; rw [List.takeWhile_cons, (lowB_facts h.1).2.1, if_pos rfl, ih h.2]
theorem low_check {l : List UInt8} (h : l.all lowB = true) : checkU l = true :=
 checkU_low fun c hc => (lowB_facts (List.all_eq_true.mp h c hc)).2.2.2.1
theorem toks_low {a : Nat} {l : List UInt8} (h : l.all lowB = true) (h0 : l ≠ []) : Toks a l [⟨1, l, .zero, a, a + l.length⟩] := by
 match l, h0 with
 | c :: l, _ =>
  have hc : lowB c = true := by simp only [List.all_cons, Bool.and_eq_true] at h; exact h.1
  have hr : readT (c :: (l ++ [])) = .ok (1, c :: l, .zero, l.length + 1) := by
   unfold readT
   dsimp only
   rw [List.append_nil, (lowB_facts hc).1, if_pos rfl, low_name h, low_check h, if_pos rfl, List.length_cons]
  have := toks_cons (u := l) (l := []) (a := a) (lowB_facts hc).2.2.1 hr rfl (by decide) (toks_nil _)
  simpa using this
theorem textF_low : ∀ (n : Nat) (l r : List UInt8), l.length < n -> l.all lowB = true -> textF n 39 (l ++ 39 :: r) = some (l, l.length + 1)
 | 0, l, r, h, _ => absurd h (Nat.not_lt_zero _)
 | n + 1, [], r, h, _ => by simp [textF]
 | n + 1, c :: l, r, h, hl => by
  simp only [List.all_cons, Bool.and_eq_true] at hl; obtain ⟨g1, g2, g3, g4, g5, g6, g7, g8, g9⟩ := lowB_facts hl.1
  have hs : stepT 39 (c :: (l ++ 39 :: r)) = some (c.toNat, 1) := by
   unfold stepT; rw [nextOf_low g4]
   dsimp only
   rw [if_neg g7, if_neg (by omega)]
  have ih := textF_low n l r (by simp at h; omega) hl.2; rw [List.cons_append]; unfold textF
  dsimp only
  rw [if_neg g5, hs]
  dsimp only
  rw [List.drop_succ_cons, List.drop_zero, ih]
  dsimp only
  rw [g9]
  simp [Nat.add_comm]
theorem toks_text {a : Nat} {l r : List UInt8} {ts : List Tkn} (h : l.all lowB = true) (hr : Toks (a + (l.length + 2)) r ts) : Toks a (39 :: (l ++ 39 :: r)) (⟨2, l, .zero, a, a + (l.length + 2)⟩ :: ts) := by
 have ht : textT (39 :: (l ++ 39 :: r)) = some (l, l.length + 2) := by
  unfold textT
  dsimp only
  rw [textF_low _ l r (by simp; omega) h]
 have hx : readT (39 :: (l ++ 39 :: r)) = .ok (2, l, .zero, l.length + 2) := by
  unfold readT; simp only [ht]
  rfl
 have := toks_cons (a := a) (c := 39) (u := l ++ [39]) (l := r) (ts := ts) (k := 2) (s := l) (d := .zero) (m := l.length + 2) rfl (by simpa using hx) (by simp) (by decide) hr
 simpa using this
theorem all_take {p : UInt8 -> Bool} : ∀ {l : List UInt8}, l.all p = true -> l.takeWhile p = l /\ l.dropWhile p = []
 | [], _ => ⟨rfl, rfl⟩
 | c :: l, h => by
  simp only [List.all_cons, Bool.and_eq_true] at h; obtain ⟨i1, i2⟩ := all_take h.2; rw [List.takeWhile_cons, List.dropWhile_cons, h.1, if_pos rfl, if_pos rfl, i1, i2]; exact ⟨rfl, rfl⟩
theorem dropTail_facts (p : UInt8 -> Bool) (l : List UInt8) : dropTail p l <+: l /\ (∀ c, (dropTail p l).getLast? = some c -> p c = false) := by
 unfold dropTail
 constructor
 ·have := (List.dropWhile_suffix p (l := l.reverse)); have := List.reverse_prefix.mpr this
  simpa using this
 ·intro c hc; rw [List.getLast?_reverse] at hc
  match hd : l.reverse.dropWhile p with
  | [] => rw [hd] at hc; cases hc
  | x :: xs =>
   rw [hd] at hc; have : x = c := by simpa using hc
   subst this; have := List.head?_dropWhile_not p l.reverse; rw [hd] at this
   simpa using this
theorem formD_ok {neg : Bool} {d : List UInt8} {exp : Int} (h1 : d.length <= 40) (h2 : d.all figB = true) (h3 : -300 <= exp) (h4 : exp <= 300) : ∃ x, formD neg d exp = .ok x := by
 unfold formD
 dsimp only
 have hd : d.dropWhile zeroB <:+ d := List.dropWhile_suffix zeroB; obtain ⟨hp, hl⟩ := dropTail_facts zeroB (d.dropWhile zeroB); have hn : (d.dropWhile zeroB).length <= 40 := Nat.le_trans hd.length_le h1; have hm := hp.length_le
 by_cases h0 : dropTail zeroB (d.dropWhile zeroB) = []
 ·rw [if_pos h0]; exact ⟨_, rfl⟩
 ·rw [if_neg h0, if_pos]
  ·exact ⟨_, rfl⟩
  ·unfold Dcm.sane Dcm.high; rw [if_neg h0]; simp only [Bool.and_eq_true, decide_eq_true_eq]; refine ⟨⟨⟨⟨by omega, ?_⟩, by omega, by omega⟩, ?_⟩, ?_⟩
   ·rw [List.all_eq_true]; intro c hc; exact List.all_eq_true.mp h2 c (hd.subset (hp.subset hc))
   ·intro hc; have := List.head?_dropWhile_not zeroB d; obtain ⟨t, ht⟩ := hp
    match hx : dropTail zeroB (d.dropWhile zeroB), h0 with
    | y :: ys, _ =>
     rw [hx] at hc ht; rw [<- ht] at this; have e : y = 48 := by simpa using hc
     subst e
     simp [zeroB] at this
   ·intro hc; have := hl 48 hc
    simp [zeroB] at this
theorem itoa_form (v : Int) (h1 : -9007199254740991 <= v) (h2 : v <= 9007199254740991) : ∃ (u : Nat), u <= 9007199254740991 /\ (Lib.itoa v = Lib.decDigits u ∨ Lib.itoa v = 45 :: Lib.decDigits u) := by
 by_cases hv : v < 0
 ·refine ⟨v.natAbs, by omega, .inr ?_⟩; have : v = -(v.natAbs : Int) := by omega
  conv => lhs; rw [this]
  exact Lib.itoa_neg _ (by omega)
 ·refine ⟨v.toNat, by omega, .inl ?_⟩; have : v = (v.toNat : Int) := by omega
  conv => lhs; rw [this]
  exact Lib.itoa_nonneg _
theorem dd_head (u : Nat) : ∃ c l, Lib.decDigits u = c :: l /\ figB c = true /\ l.all figB = true /\ ¬ (1 < (c :: l).length /\ isHead 48 (c :: l) = true) := by
 obtain ⟨i1, i2, i3, i4, i5⟩ := dd_ok u
 match hd : Lib.decDigits u, i2 with
 | c :: l, _ =>
  rw [hd] at i1; simp only [List.all_cons, Bool.and_eq_true] at i1; refine ⟨c, l, rfl, i1.1, i1.2, fun hh => ?_⟩
  by_cases h0 : 0 < u
  ·rw [hd] at i4; rw [i4 h0] at hh; exact absurd hh.2 (by simp)
  ·have := i5 0 (by omega); rw [hd] at this; omega
theorem dd_len {u : Nat} (h : u <= 9007199254740991) : (Lib.decDigits u).length <= 16 := (dd_ok u).2.2.2.2 15 (by have := numD_max; omega)
theorem fig_not {c : UInt8} (h : figB c = true) : begB c = false /\ whiteB c = false /\ c ≠ 45 /\ c.toNat ≠ 45 /\ c ≠ 61 /\ c ≠ 46 := by
 have := u8_all (fun c => !figB c || (!begB c && !whiteB c && decide (c ≠ 45) && decide (c.toNat ≠ 45) && decide (c ≠ 61) && decide (c ≠ 46))) (by decide +kernel) c
 simp [h] at this
 simp [this]
theorem parse_figs (neg : Bool) {d : List UInt8} (h1 : d.length <= 40) (h2 : d.all figB = true) (h3 : d ≠ []) (h4 : ¬ (1 < d.length /\ isHead 48 d = true)) : ∃ x, parseD (if neg then 45 :: d else d) = .ok x := by
 obtain ⟨x, hx⟩ := formD_ok (neg := neg) (exp := 0) h1 h2 (by decide) (by decide); refine ⟨x, ?_⟩; obtain ⟨e1, e2⟩ := all_take h2
 have hneg : isHead 45 (if neg then 45 :: d else d) = neg := by
  cases neg
  ·match d, h3 with
   | c :: l, _ =>
    simp only [List.all_cons, Bool.and_eq_true] at h2; have := (fig_not h2.1).2.2.1
    simp [isHead, this]
  ·rfl
 have hs : (if neg then (if neg then 45 :: d else d).drop 1 else (if neg then 45 :: d else d)) = d := by cases neg <;> rfl
 have hlen : ¬ 1000 < (if neg then 45 :: d else d).length := by cases neg <;> simp <;> omega
 have h4' : (decide (1 < d.length) && isHead 48 d) = false := by
  rw [Bool.eq_false_iff]; intro h; simp only [Bool.and_eq_true, decide_eq_true_eq] at h; exact h4 h
 have h3' : d.isEmpty = false := by cases d with | nil => exact absurd rfl h3 | cons _ _ => rfl
 unfold parseD; rw [if_neg hlen]; simp only [hneg, hs, e1, e2, h4', h3']
 simp [isHead, expD, hx]
def stopB : List UInt8 -> Bool
 | [] => true
 | c :: _ => !figB c && !eB c && !(c.toNat == 43) && !(c.toNat == 45) && !(c.toNat == 46)
theorem numLen_stop {l : List UInt8} (h : stopB l = true) (p : Option UInt8) : numLen p l = 0 := by
 match l with
 | [] => cases p <;> rfl
 | c :: l =>
  simp only [stopB, Bool.and_eq_true, Bool.not_eq_true'] at h; obtain ⟨⟨⟨⟨a1, a2⟩, a3⟩, a4⟩, a5⟩ := h; unfold numLen
  simp [a1, a2, a3, a4, a5]
theorem numLen_figs : ∀ (d r : List UInt8) (p : Option UInt8), d.all figB = true -> stopB r = true -> numLen p (d ++ r) = d.length
 | [], r, p, _, h => by simpa using numLen_stop h p
 | c :: d, r, p, hd, h => by
  simp only [List.all_cons, Bool.and_eq_true] at hd; have ih := numLen_figs d r (some c) hd.2 h; rw [List.cons_append]; unfold numLen; rw [hd.1, Bool.true_or, Bool.true_or, Bool.true_or, if_pos rfl, ih, List.length_cons]
theorem toks_itoa {a : Nat} {v : Int} {r : List UInt8} {ts : List Tkn} (h1 : -9007199254740991 <= v) (h2 : v <= 9007199254740991) (hr : stopB r = true) (h : Toks (a + (Lib.itoa v).length) r ts) :
  ∃ d, Toks a (Lib.itoa v ++ r) (⟨3, [], d, a, a + (Lib.itoa v).length⟩ :: ts) := by
 obtain ⟨u, hu, hi⟩ := itoa_form v h1 h2; obtain ⟨c, l, e, k1, k2, k3⟩ := dd_head u; have hl := dd_len hu; have hall : (c :: l).all figB = true := by simp [k1, k2]
 rw [e] at hi hl; rcases hi with hi | hi
 ·rw [hi] at h ⊢; obtain ⟨x, hx⟩ := parse_figs false (d := c :: l) (by omega) hall (by simp) k3; refine ⟨x, ?_⟩; refine toks_cons (u := l) (fig_not k1).2.1 ?_ rfl (by decide) h; have hn : numLen none (c :: (l ++ r)) = (c :: l).length := numLen_figs (c :: l) r none hall hr; unfold readT
  dsimp only
  rw [(fig_not k1).1, if_neg (by simp), k1, Bool.true_or, if_pos rfl, hn]; have : List.take (c :: l).length (c :: (l ++ r)) = c :: l := by simp
  rw [this]; simp only [Bool.false_eq_true, if_false] at hx; rw [hx]
 ·rw [hi] at h ⊢; obtain ⟨x, hx⟩ := parse_figs true (d := c :: l) (by omega) hall (by simp) k3; refine ⟨x, ?_⟩; refine toks_cons (c := 45) (u := c :: l) rfl ?_ rfl (by decide) h
  have hn : numLen none (45 :: (c :: l ++ r)) = (c :: l).length + 1 := by
   have := numLen_figs (c :: l) r (some 45) hall hr; unfold numLen; rw [this]
   rfl
  unfold readT
  dsimp only
  rw [hn, if_neg (show ¬ begB 45 = true by decide), if_pos (show (figB 45 || ((45 : UInt8).toNat == 45 && headFig (c :: l ++ r))) = true by simp [headFig, k1])]; have : List.take ((c :: l).length + 1) (45 :: (c :: l ++ r)) = 45 :: c :: l := by simp
  rw [this]; simp only [if_true] at hx; rw [hx]
  rfl
theorem tokens_of {l : List UInt8} {ts : List Tkn} (h : Toks 0 l ts) (hl : l.length <= 8192) : tokens l = .ok ts := by
 unfold tokens; rw [if_neg (by omega)]; exact h _ (Nat.lt_succ_self _)
theorem parseQ_of {l : List UInt8} {ts : List Tkn} {q : Qry} {m : Int} (h : tokens l = .ok ts) (hq : rWholeQ l ts = some (q, m)) (hm : m <= 32) (ht : q.typed = true) (hp : q.parts <= 512) : parseQ l = .ok q := by
 unfold parseQ; rw [h]
 dsimp only
 rw [hq]
 dsimp only
 rw [if_neg (by omega), ht, if_neg (by simp), if_neg (by omega)]
theorem low_head {c : UInt8} {s : List UInt8} (h : s.all lowB = true) (hc : isHead c s = true) : lowB c = true := by
 match s with
 | [] => simp [isHead] at hc
 | x :: s =>
  have : x = c := by simpa [isHead] using hc
  subst this; simp only [List.all_cons, Bool.and_eq_true] at h; exact h.1
theorem low_dot {s : List UInt8} (h : s.all lowB = true) : isHead 46 s = false := by
 match hc : isHead 46 s with
 | false => rfl
 | true => exact absurd (low_head h hc) (by decide)
theorem parse_name {s : List UInt8} (h : s.all lowB = true) (h0 : s ≠ []) (h1 : s.length <= 100) : parseQ (36 :: 46 :: s) = .ok (.mk false [.mk false [.ofName s]]) := by
 have ht := tokens_of (toks_solo (a := 0) (c := 36) (by decide) (toks_dot (low_dot h) (toks_low h h0))) (by simp; omega); exact parseQ_of ht (m := 0) rfl (by decide) rfl (Nat.le_of_ble_eq_true rfl)
theorem parse_name_deep {s : List UInt8} (h : s.all lowB = true) (h0 : s ≠ []) (h1 : s.length <= 100) : parseQ (36 :: 46 :: 46 :: s) = .ok (.mk false [.mk true [.ofName s]]) := by
 have ht := tokens_of (toks_solo (a := 0) (c := 36) (by decide) (toks_dots (toks_low h h0))) (by simp; omega); exact parseQ_of ht (m := 0) rfl (by decide) rfl (Nat.le_of_ble_eq_true rfl)
theorem parse_text {s : List UInt8} (h : s.all lowB = true) (h1 : s.length <= 100) : parseQ (36 :: 91 :: 39 :: (s ++ [39, 93])) = .ok (.mk false [.mk false [.ofName s]]) := by
 have ht := tokens_of (toks_solo (a := 0) (c := 36) (by decide) (toks_solo (c := 91) (by decide) (toks_text h (r := [93]) (toks_solo (by decide) (toks_nil _))))) (by simp; omega); exact parseQ_of ht (m := 0) rfl (by decide) rfl (Nat.le_of_ble_eq_true rfl)
theorem parse_text_deep {s : List UInt8} (h : s.all lowB = true) (h1 : s.length <= 100) : parseQ (36 :: 46 :: 46 :: 91 :: 39 :: (s ++ [39, 93])) = .ok (.mk false [.mk true [.ofName s]]) := by
 have ht := tokens_of (toks_solo (a := 0) (c := 36) (by decide) (toks_dots (toks_solo (c := 91) (by decide) (toks_text h (r := [93]) (toks_solo (by decide) (toks_nil _)))))) (by simp; omega); exact parseQ_of ht (m := 0) rfl (by decide) rfl (Nat.le_of_ble_eq_true rfl)
theorem parse_wild : parseQ [36, 46, 42] = .ok (.mk false [.mk false [.of 2]]) := rfl
theorem parse_wild_deep : parseQ [36, 46, 46, 42] = .ok (.mk false [.mk true [.of 2]]) := rfl
theorem parse_star : parseQ [36, 91, 32, 42, 32, 93] = .ok (.mk false [.mk false [.of 2]]) := rfl
theorem parse_star_deep : parseQ [36, 46, 46, 91, 32, 42, 32, 93] = .ok (.mk false [.mk true [.of 2]]) := rfl
def optN (h : Bool) (v : Int) : List UInt8 := if h = true then Lib.itoa v else []
def optT (h : Bool) (d : Dcm) (a t : Nat) : List Tkn := if h = true then [⟨3, [], d, a, t⟩] else []
theorem opt_num {txt r : List UInt8} {ts : List Tkn} {a : Nat} {h : Bool} {v : Int} (ht : txt.drop a = optN h v ++ r) (h1 : -9007199254740991 <= v) (h2 : v <= 9007199254740991) (hs : stopB r = true)
  (hk : ∀ t ∈ ts.head?, t.kind ≠ 3) (hr : Toks (a + (optN h v).length) r ts) :
  ∃ d, Toks a (optN h v ++ r) (optT h d a (a + (optN h v).length) ++ ts) /\ ∀ m, rWhole txt ⟨optT h d a (a + (optN h v).length) ++ ts, m⟩ = (if h = true then v else 0, h, ⟨ts, m⟩) := by
 match h with
 | false =>
  refine ⟨.zero, by simpa [optN, optT] using hr, fun m => ?_⟩; unfold rWhole
  match ts with
  | [] => rfl
  | t :: ts =>
   have := hk t (by simp)
   simp [optT, QS.peek, this]
 | true =>
  simp only [optN, if_true] at ht hr ⊢; obtain ⟨d, hd⟩ := toks_itoa h1 h2 hs hr; refine ⟨d, by simpa [optT] using hd, fun m => ?_⟩
  have hw : wholeN ((txt.drop a).take (a + (Lib.itoa v).length - a)) = some v := by
   rw [ht, Nat.add_sub_cancel_left, List.take_left]; exact whole_of rfl h1 h2
  unfold rWhole; simp only [optT, if_true, List.cons_append, List.nil_append, QS.peek, hw, QS.go, List.drop_succ_cons, List.drop_zero]
theorem opt_head (h : Bool) (v : Int) (r : List UInt8) (hr : isHead 61 r = false) : isHead 61 (optN h v ++ r) = false := by
 cases h with
 | false => exact hr
 | true =>
  unfold optN; rw [if_pos rfl]; unfold Lib.itoa
  by_cases hv : v < 0
  ·rw [if_pos hv]; rfl
  ·rw [if_neg hv]; obtain ⟨c, l, e, k1, _, _⟩ := dd_head v.toNat; rw [e]; have := (fig_not k1).2.2.2.2.1
   simp [isHead, this]
theorem next_hd (x : List UInt8) (d : Dcm) (a b : Nat) (l : List Tkn) (m : Int) : QS.next ⟨⟨4, x, d, a, b⟩ :: l, m⟩ x = true := by simp [QS.next, QS.peek]
def tailS (txt : List UInt8) (n : Int) (has : Bool) (bv : Int) (bh : Bool) (s : QS) : Option (Slr × QS) :=
 if s.next [58] = true then some (.ofSlice (has, bh, (rWhole txt s.go).2.1) (n, bv, (rWhole txt s.go).1), (rWhole txt s.go).2.2) else some (.ofSlice (has, bh, false) (n, bv, 0), s)
def endS (hc : Bool) (c : Int) : List UInt8 := (if hc = true then 58 :: Lib.itoa c else []) ++ [93]
theorem slice_tail {T : List UInt8} {p : Nat} {hc : Bool} {c : Int} (hp : T.drop p = endS hc c) (h1 : -9007199254740991 <= c) (h2 : c <= 9007199254740991) :
  ∃ ts, Toks p (endS hc c) ts /\ (∀ t ∈ ts.head?, t.kind ≠ 3) /\ ts ≠ [] /\ ∃ t, ∀ m n has bv bh, tailS T n has bv bh ⟨ts, m⟩ = some (.ofSlice (has, bh, hc) (n, bv, if hc = true then c else 0), ⟨[⟨4, [93], .zero, t, t + 1⟩], m⟩) := by
 match hc with
 | false => exact ⟨[⟨4, [93], .zero, p, p + 1⟩], toks_solo (by decide) (toks_nil _), by simp, by simp, p, fun _ _ _ _ _ => rfl⟩
 | true =>
  have hp1 : T.drop (p + 1) = optN true c ++ [93] := by
   rw [<- List.drop_drop, hp]; simp [optN, endS]
  obtain ⟨d, i1, i2⟩ := opt_num hp1 h1 h2 rfl (ts := [⟨4, [93], .zero, p + 1 + (optN true c).length, p + 1 + (optN true c).length + 1⟩]) (by simp) (toks_solo (by decide) (toks_nil _)); refine ⟨_, toks_colon (a := p) (opt_head true c [93] rfl) i1, by simp, by simp, p + 1 + (optN true c).length, fun m n has bv bh => ?_⟩; have i3 := i2 m; unfold tailS; rw [if_pos (next_hd _ _ _ _ _ _)]; simp only [QS.go, List.drop_succ_cons, List.drop_zero, i3]
theorem slice_body {T : List UInt8} {hc hb : Bool} {b c : Int} {p : Nat} (hp : T.drop p = optN hb b ++ endS hc c) (hb1 : -9007199254740991 <= b) (hb2 : b <= 9007199254740991) (h1 : -9007199254740991 <= c) (h2 : c <= 9007199254740991) :
  ∃ ts, Toks p (optN hb b ++ endS hc c) ts /\ ∃ t, ∀ m n has f, rSlice T n has ⟨⟨4, [58], .zero, f, f + 1⟩ :: ts, m⟩ = some (.ofSlice (has, hb, hc) (n, if hb = true then b else 0, if hc = true then c else 0), ⟨[⟨4, [93], .zero, t, t + 1⟩], m⟩) := by
 have hp2 : T.drop (p + (optN hb b).length) = endS hc c := by rw [<- List.drop_drop, hp]; simp
 obtain ⟨tc, j1, j2, j3, t, j4⟩ := slice_tail hp2 h1 h2; have hsC : stopB (endS hc c) = true := by cases hc <;> rfl
 obtain ⟨db, k1, k2⟩ := opt_num hp hb1 hb2 hsC j2 j1; refine ⟨_, k1, t, fun m n has f => ?_⟩; have k3 := k2 m; have j5 := j4 m n has (if hb = true then b else 0) hb; unfold rSlice; rw [if_pos (next_hd _ _ _ _ _ _)]; simp only [QS.go, List.drop_succ_cons, List.drop_zero, k3]; exact j5
theorem sel_slice {T : List UInt8} {E : Int -> Rd Xpr} {ha : Bool} {d : Dcm} {f t : Nat} {n : Int} {ts : List Tkn} {m : Int} {g : Nat} {r : Slr × QS}
  (hw : rWhole T ⟨optT ha d f t ++ ⟨4, [58], .zero, g, g + 1⟩ :: ts, m⟩ = (n, ha, ⟨⟨4, [58], .zero, g, g + 1⟩ :: ts, m⟩)) (hr : rSlice T n ha ⟨⟨4, [58], .zero, g, g + 1⟩ :: ts, m⟩ = some r) :
  rSel T E 0 ⟨optT ha d f t ++ ⟨4, [58], .zero, g, g + 1⟩ :: ts, m⟩ = some r := by
 unfold rSel; rw [if_neg (by cases ha <;> simp [optT, QS.peek]), if_neg (by cases ha <;> simp [optT, QS.next, QS.peek]), if_neg (by cases ha <;> simp [optT, QS.next, QS.peek]), hw]
 dsimp only
 rw [if_pos (next_hd _ _ _ _ _ _), hr]
theorem parse_slice (h : Bool × Bool × Bool) (s : Int × Int × Int) (ha1 : -9007199254740991 <= s.1) (ha2 : s.1 <= 9007199254740991) (hb1 : -9007199254740991 <= s.2.1) (hb2 : s.2.1 <= 9007199254740991)
  (hc1 : -9007199254740991 <= s.2.2) (hc2 : s.2.2 <= 9007199254740991) (hl : (optN h.1 s.1 ++ 58 :: (optN h.2.1 s.2.1 ++ endS h.2.2 s.2.2)).length <= 8000) :
  parseQ (36 :: 91 :: (optN h.1 s.1 ++ 58 :: (optN h.2.1 s.2.1 ++ endS h.2.2 s.2.2))) = .ok (.mk false [.mk false [.ofSlice h (if h.1 = true then s.1 else 0, if h.2.1 = true then s.2.1 else 0, if h.2.2 = true then s.2.2 else 0)]]) := by
 obtain ⟨ha, hb, hc⟩ := h; obtain ⟨a, b, c⟩ := s
 dsimp only at ha1 ha2 hb1 hb2 hc1 hc2 hl ⊢
 generalize hT : 36 :: 91 :: (optN ha a ++ 58 :: (optN hb b ++ endS hc c)) = T; have hA2 : T.drop 2 = optN ha a ++ 58 :: (optN hb b ++ endS hc c) := by rw [<- hT]; rfl
 have hB2 : T.drop (2 + (optN ha a).length + 1) = optN hb b ++ endS hc c := by
  rw [Nat.add_assoc, <- List.drop_drop, hA2, <- List.drop_drop, List.drop_left]; rfl
 obtain ⟨ts, j1, t, j2⟩ := slice_body hB2 hb1 hb2 hc1 hc2; have hhC : isHead 61 (endS hc c) = false := by cases hc <;> rfl
 obtain ⟨da, l1, l2⟩ := opt_num (ts := ⟨4, [58], .zero, 2 + (optN ha a).length, 2 + (optN ha a).length + 1⟩ :: ts) hA2 ha1 ha2 rfl (by simp) (toks_colon (opt_head hb b _ hhC) j1); have hl' : T.length <= 8192 := by rw [<- hT]; simp only [List.length_cons]; omega
 have ht := tokens_of (l := T) (by rw [<- hT]; exact toks_solo (a := 0) (c := 36) (by decide) (toks_solo (c := 91) (by decide) l1)) hl'; refine parseQ_of ht (m := 0) ?_ (by decide) rfl (by simp [Qry.parts, partsSegs, Sgm.parts, partsSels, Slr.parts, Slr.ofSlice, partsList]); generalize hr : optT ha da 2 (2 + (optN ha a).length) ++ ⟨4, [58], .zero, 2 + (optN ha a).length, 2 + (optN ha a).length + 1⟩ :: ts = L
 have hsel : ∀ E, rSel T E 0 ⟨L, 0⟩ = some (.ofSlice (ha, hb, hc) (if ha = true then a else 0, if hb = true then b else 0, if hc = true then c else 0), ⟨[⟨4, [93], .zero, t, t + 1⟩], 0⟩) := fun E => by
  rw [<- hr]; refine sel_slice (n := if ha = true then a else 0) ?_ ?_
  ·exact l2 0
  ·exact j2 0 _ ha _
 have hbr : ∀ E, rBrackets T E 0 ⟨L, 0⟩ = some ([.ofSlice (ha, hb, hc) (if ha = true then a else 0, if hb = true then b else 0, if hc = true then c else 0)], ⟨[], 0⟩) := fun E => by
  unfold rBrackets rList rListF; rw [hsel E]
  rfl
 unfold rWholeQ
 dsimp only
 rw [if_pos (next_hd _ _ _ _ _ _)]; unfold rQuery; have hg : QS.go ⟨(⟨4, [36], .zero, 0, 0 + 1⟩ : Tkn) :: ⟨4, [91], .zero, 0 + 1, 0 + 1 + 1⟩ :: L, 0⟩ = ⟨⟨4, [91], .zero, 0 + 1, 0 + 1 + 1⟩ :: L, 0⟩ := rfl; rw [hg]
 have hs : ∀ E n, rSegsF T E 0 (n + 2) ⟨(⟨4, [91], .zero, 0 + 1, 0 + 1 + 1⟩ : Tkn) :: L, 0⟩ = some ([.mk false [.ofSlice (ha, hb, hc) (if ha = true then a else 0, if hb = true then b else 0, if hc = true then c else 0)]], ⟨[], 0⟩) := fun E n => by
  unfold rSegsF
  dsimp only
  have h0 : QS.next ⟨(⟨4, [91], .zero, 0 + 1, 0 + 1 + 1⟩ : Tkn) :: L, 0⟩ [46, 46] = false := rfl; have h2 : QS.next ⟨(⟨4, [91], .zero, 0 + 1, 0 + 1 + 1⟩ : Tkn) :: L, 0⟩ [91] = true := rfl; have h3 : QS.go ⟨(⟨4, [91], .zero, 0 + 1, 0 + 1 + 1⟩ : Tkn) :: L, 0⟩ = ⟨L, 0⟩ := rfl; rw [h0, if_neg (show ¬ (false = true) by simp)]; rw [if_neg (show ¬ (false = true) by simp), h2, if_pos rfl, h3, hbr E]
  rfl
 simp only [List.length_cons]; rw [hs]
 rfl
def Cl.isNil : Cl -> Bool
 | .rows _ [] => true
 | _ => false
def Vlu.isNull (v : Vlu) : Bool := decide (v.kind = 0) && !v.b && decide (v.n = .zero) && v.s.isEmpty && v.l.isNil && v.m.isNil
mutual
def Qry.easy : Qry -> Bool
 | .mk _ l => easySegs l
 termination_by structural q => q
def easySegs : List Sgm -> Bool
 | [] => true
 | x :: l => x.easy && easySegs l
 termination_by structural l => l
def Sgm.easy : Sgm -> Bool
 | .mk _ l => easySels l
 termination_by structural q => q
def easySels : List Slr -> Bool
 | [] => true
 | x :: l => x.easy && easySels l
 termination_by structural l => l
def Slr.easy : Slr -> Bool
 | .mk what name at_ has s f =>
  decide (1 <= what /\ what <= 5 /\ name.length <= 1000000) && (decide (what = 1) || name.isEmpty) && (decide (what = 3) || decide (at_ = 0)) && (decide (what = 4) || (decide (has = (false, false, false)) && decide (s = (0, 0, 0))))
   && (if what = 5 then decide (f.length = 1) else f.isEmpty) && easyExprs f
 termination_by structural q => q
def easyExprs : List Xpr -> Bool
 | [] => true
 | x :: l => x.easy && easyExprs l
 termination_by structural l => l
def Xpr.easy : Xpr -> Bool
 | .mk what l op q v => decide (what = 6) && l.isEmpty && op.isEmpty && v.isNull && q.easy
 termination_by structural e => e
end
theorem easySegs_all : ∀ l : List Sgm, easySegs l = l.all Sgm.easy
 | [] => rfl
 | x :: l => by rw [List.all_cons, <- easySegs_all l]; rfl
theorem easySels_all : ∀ l : List Slr, easySels l = l.all Slr.easy
 | [] => rfl
 | x :: l => by rw [List.all_cons, <- easySels_all l]; rfl
theorem shapedSegs_all (d : Int) : ∀ l : List Sgm, shapedSegs d l = l.all (Sgm.shaped d)
 | [] => rfl
 | x :: l => by rw [List.all_cons, <- shapedSegs_all d l]; rfl
theorem shapedSels_all (d : Int) : ∀ l : List Slr, shapedSels d l = l.all (Slr.shaped d)
 | [] => rfl
 | x :: l => by rw [List.all_cons, <- shapedSels_all d l]; rfl
theorem null_lit {v : Vlu} (h : v.isNull = true) : v.lit = true := by
 obtain ⟨k, b, n, s, l, m⟩ := v; simp only [Vlu.isNull, Bool.and_eq_true, decide_eq_true_eq, Bool.not_eq_true', List.isEmpty_iff] at h; obtain ⟨⟨⟨⟨⟨rfl, rfl⟩, rfl⟩, rfl⟩, hl⟩, hm⟩ := h; have e1 : l.len = 0 := by match l, hl with | .rows _ [], _ => rfl
 have e2 : m.len = 0 := by match m, hm with | .rows _ [], _ => rfl
 unfold Vlu.lit
 simp [e1, e2]
 exact ⟨by decide, by decide⟩
theorem easy_own {x : Xpr} (h : x.easy = true) : x.own = true /\ x.what = 6 /\ x.l = [] /\ x.op = [] /\ x.v.isNull = true /\ x.q.easy = true := by
 obtain ⟨what, l, op, q, v⟩ := x; simp only [Xpr.easy, Bool.and_eq_true, decide_eq_true_eq, List.isEmpty_iff] at h; obtain ⟨⟨⟨⟨rfl, rfl⟩, rfl⟩, hv⟩, hq⟩ := h; refine ⟨?_, rfl, rfl, rfl, hv, hq⟩; have h1 := null_lit hv; have h2 : v.kind = 0 := by simp only [Vlu.isNull, Bool.and_eq_true, decide_eq_true_eq] at hv; exact hv.1.1.1.1.1
 simp [Xpr.own, Xpr.what, Xpr.q, Xpr.v, Xpr.op, Xpr.l, h1, h2]
def parenT : Nat -> List UInt8
 | 0 => [64]
 | n + 1 => 40 :: (parenT n ++ [41])
def filtT : Nat -> List UInt8
 | 0 => [64]
 | n + 1 => 64 :: 91 :: 63 :: (filtT n ++ [93])
def deepT (f : Bool) (n : Nat) : List UInt8 := if f = true then filtT n else parenT n
def deepQ (f : Bool) (n : Nat) : List UInt8 := 36 :: 91 :: 63 :: (deepT f n ++ [93])
def deepB (f : Bool) (n : Nat) : Bool := match parseQ (deepQ f n) with
 | .ok q => decide (n < 32) && q.sane && q.easy && decide (q.wt <= 1000000)
 | .error e => decide (32 <= n) && decide (e = 3)
def typedAll : List (List UInt8) := [[64, 46, 97], [64, 91, 49, 93], [99, 111, 117, 110, 116, 40, 64, 46, 42, 41], [108, 101, 110, 103, 116, 104, 40, 64, 46, 97, 41], [118, 97, 108, 117, 101, 40, 64, 46, 46, 97, 41], [49], [39, 120, 39], [110, 117, 108, 108], [64, 46, 42], [64, 46, 46, 97], [64, 91, 49, 58, 50, 93], [64, 91, 39, 97, 39, 44, 39, 98, 39, 93], [109, 97, 116, 99, 104, 40, 64, 46, 97, 44, 39, 120, 39, 41], [115, 101, 97, 114, 99, 104, 40, 64, 46, 97, 44, 39, 120, 39, 41]]
def typedOps : List (List UInt8) := [[61, 61], [33, 61], [60], [60, 61], [62], [62, 61]]
def cmpT (a o : List UInt8) : List UInt8 := [36, 91, 63] ++ a ++ [32] ++ o ++ [32, 49, 93]
def askT (a : List UInt8) : List UInt8 := [36, 91, 63] ++ a ++ [93]
def notT (a : List UInt8) : List UInt8 := [36, 91, 63, 33] ++ a ++ [32, 124, 124, 32, 64, 93]
def typedV (k j : Nat) : Int × Int × Int := (errQ (cmpT (typedAll.getD k []) (typedOps.getD j [])), errQ (askT (typedAll.getD k [])), errQ (notT (typedAll.getD k [])))
def typedW (k : Nat) : Int × Int × Int := if k < 2 then (0, 0, 0) else if k < 5 then (0, 8, 8) else if k < 8 then (0, 8, 2) else (8, 0, 0)
theorem typed_0 : ((List.range 6).all fun j => decide (typedV 0 j = typedW 0)) = true := by decide +kernel
theorem typed_1 : ((List.range 6).all fun j => decide (typedV 1 j = typedW 1)) = true := by decide +kernel
theorem typed_2 : ((List.range 6).all fun j => decide (typedV 2 j = typedW 2)) = true := by decide +kernel
theorem typed_3 : ((List.range 6).all fun j => decide (typedV 3 j = typedW 3)) = true := by decide +kernel
theorem typed_4 : ((List.range 6).all fun j => decide (typedV 4 j = typedW 4)) = true := by decide +kernel
theorem typed_5 : ((List.range 6).all fun j => decide (typedV 5 j = typedW 5)) = true := by decide +kernel
theorem typed_6 : ((List.range 6).all fun j => decide (typedV 6 j = typedW 6)) = true := by decide +kernel
theorem typed_7 : ((List.range 6).all fun j => decide (typedV 7 j = typedW 7)) = true := by decide +kernel
theorem typed_8 : ((List.range 6).all fun j => decide (typedV 8 j = typedW 8)) = true := by decide +kernel
theorem typed_9 : ((List.range 6).all fun j => decide (typedV 9 j = typedW 9)) = true := by decide +kernel
theorem typed_10 : ((List.range 6).all fun j => decide (typedV 10 j = typedW 10)) = true := by decide +kernel
theorem typed_11 : ((List.range 6).all fun j => decide (typedV 11 j = typedW 11)) = true := by decide +kernel
theorem typed_12 : ((List.range 6).all fun j => decide (typedV 12 j = typedW 12)) = true := by decide +kernel
theorem typed_13 : ((List.range 6).all fun j => decide (typedV 13 j = typedW 13)) = true := by decide +kernel
theorem typed_one {k j : Nat} (hk : k < 14) (hj : j < 6) : typedV k j = typedW k := by
 have hm : ∀ {k : Nat}, ((List.range 6).all fun j => decide (typedV k j = typedW k)) = true -> typedV k j = typedW k := fun {k} h => by
  have := List.all_eq_true.1 h j (List.mem_range.2 hj); exact of_decide_eq_true this
 match k, hk with
 | 0, _ => exact hm typed_0
 | 1, _ => exact hm typed_1
 | 2, _ => exact hm typed_2
 | 3, _ => exact hm typed_3
 | 4, _ => exact hm typed_4
 | 5, _ => exact hm typed_5
 | 6, _ => exact hm typed_6
 | 7, _ => exact hm typed_7
 | 8, _ => exact hm typed_8
 | 9, _ => exact hm typed_9
 | 10, _ => exact hm typed_10
 | 11, _ => exact hm typed_11
 | 12, _ => exact hm typed_12
 | 13, _ => exact hm typed_13
def awakeT : List UInt8 := [36, 46, 97, 91, 49, 93]
def awakeL : List UInt8 := [36, 91, 63, 108, 101, 110, 103, 116, 104, 40, 64, 46, 42, 41, 61, 61, 49, 93]
def awakeP : List UInt8 := [36, 91, 39, 97, 39, 93, 91, 49, 93]
def awakeQ : Qry := .mk false [.mk false [.ofName [97]], .mk false [.ofAt 1]]
theorem awake_parse : parseQ awakeT = .ok awakeQ := by kernel_rfl
theorem awake_facts : awakeQ.text = awakeP /\ awakeQ.sane = true /\ awakeQ.singular = true /\ awakeQ.easy = true /\ awakeQ.wt <= 1000000 := by decide +kernel
theorem awake_err : errQ awakeL = 8 := by decide +kernel
end
section
open Go.RowKit Go.Shelf
section
variable {w : World} {N : Nat -> Prop} {cs : List Value}
theorem lit_null {v : Vlu} (h : RowAt w N v.cells cs) (hv : v.isNull = true) : Calls Tryz.prog 184 #[.agg cs.toArray] w fun e w' => e = .returned (.bool true) /\ Fr [] w w' := by
 refine calls_post fun R HQ => ?_; obtain ⟨vl, vm, rfl, hl, hm⟩ := vlu_shape h; obtain ⟨k, b, n, s, l, m⟩ := v; simp only [Vlu.isNull, Bool.and_eq_true, decide_eq_true_eq, Bool.not_eq_true', List.isEmpty_iff] at hv; obtain ⟨⟨⟨⟨⟨rfl, rfl⟩, rfl⟩, rfl⟩, hl1⟩, hm1⟩ := hv
 match l, hl1 with
 | .rows k1 [], _ =>
  match m, hm1 with
  | .rows k2 [], _ =>
   obtain ⟨A1, c1, rfl, -⟩ := hl.slice; obtain ⟨A2, c2, rfl, -⟩ := hm.slice; clear h hl hm; simp only [List.length_nil, Dcm.zero]
   go_enter Tryz.func184, Tryz.ntmps184
   go_upto_region 3 with fail
   have hf2 : Fr [] w ((w.alloc (.cells #[.int .i64 0, .bool false, .bool false, .string ⟨#[]⟩, .int .i64 0, .string ⟨#[]⟩, .slice A1 0 c1, .slice A2 0 c2] 107)).alloc (.cells #[.int .i64 0, .bool false, .bool false, .string ⟨#[]⟩, .int .i64 0, .string ⟨#[]⟩, .slice A1 0 c1, .slice A2 0 c2] 107)) := ((Fr.refl [] w).alloc _).alloc _; have hb1 := (Blk.new w 107 [.int .i64 0, .bool false, .bool false, .string ⟨#[]⟩, .int .i64 0, .string ⟨#[]⟩, .slice A1 0 c1, .slice A2 0 c2]).alloc (.cells #[.int .i64 0, .bool false, .bool false, .string ⟨#[]⟩, .int .i64 0, .string ⟨#[]⟩, .slice A1 0 c1, .slice A2 0 c2] 107); have hb2 := Blk.new (w.alloc (.cells #[.int .i64 0, .bool false, .bool false, .string ⟨#[]⟩, .int .i64 0, .string ⟨#[]⟩, .slice A1 0 c1, .slice A2 0 c2] 107)) 107 [.int .i64 0, .bool false, .bool false, .string ⟨#[]⟩, .int .i64 0, .string ⟨#[]⟩, .slice A1 0 c1, .slice A2 0 c2]; rw [show (w.alloc (.cells #[.int .i64 0, .bool false, .bool false, .string ⟨#[]⟩, .int .i64 0, .string ⟨#[]⟩, .slice A1 0 c1, .slice A2 0 c2] 107)).heap.size = w.heap.size + 1 by simp] at hb2; have HF := lh hf2; have HB1 := lh hb1; have c0 := hb1.at_ (i := 0) rfl; have e1 := hb2.at_ (i := 1) rfl; have e2 := hb2.at_ (i := 2) rfl; have e3 := hb2.at_ (i := 3) rfl; have e4 := hb2.at_ (i := 4) rfl; have e5 := hb2.at_ (i := 5) rfl; have e6 := hb2.at_ (i := 6) rfl; have e7 := hb2.at_ (i := 7) rfl; have d2 := hb1.at_ (i := 2) rfl; have d3 := hb1.at_ (i := 3) rfl; have d4 := hb1.at_ (i := 4) rfl; clear hf2 hb1 hb2; generalize ((w.alloc (.cells #[.int .i64 0, .bool false, .bool false, .string ⟨#[]⟩, .int .i64 0, .string ⟨#[]⟩, .slice A1 0 c1, .slice A2 0 c2] 107)).alloc (.cells #[.int .i64 0, .bool false, .bool false, .string ⟨#[]⟩, .int .i64 0, .string ⟨#[]⟩, .slice A1 0 c1, .slice A2 0 c2] 107)) = w2 at *; go_wp2_with fail; refine (Sane_any (w := w2) .zero (by decide) (by decide) (by decide)).mono ?_; rintro e w3 ⟨rfl, hf3⟩; have HF3 := lh (HF.out.trans hf3 (by simp)); have k5 := (HB1.out.fr hf3 (by simp)).at_ (i := 5) rfl; rw [show Dcm.sane .zero = true by decide]; obtain ⟨C, w4, hcv, hC, hba, hf4⟩ := conv_s w3 ⟨#[]⟩ (by decide); have HBA := lh hba; have HF4 := lh (HF3.out.trans hf4 (by simp)); clear hf3 hf4 hba c0 e1 e2 e3 e4 e5 e6 e7 d2 d3 d4; go_wp2_with fail; refine (checkU_any HBA.out hC).mono ?_; rintro e w5 ⟨x, rfl, hx, hf5⟩; have hx' : decide (x < 0) = true := by rw [hx]; rfl
   have HF5 := lh (HF4.out.trans hf5 (by simp)); clear hx hf5; go_wp2_with fail; exact HQ.out _ _ ⟨rfl, HF5.out⟩
theorem null_cells {v : Vlu} (h : RowAt w N v.cells cs) (hv : v.isNull = true) : ∃ A1 c1 A2 c2, cs = [.int .i64 0, .bool false, .bool false, .string ⟨#[]⟩, .int .i64 0, .string ⟨#[]⟩, .slice A1 0 c1, .slice A2 0 c2] := by
 obtain ⟨vl, vm, rfl, hl, hm⟩ := vlu_shape h; obtain ⟨k, b, n, s, l, m⟩ := v; simp only [Vlu.isNull, Bool.and_eq_true, decide_eq_true_eq, Bool.not_eq_true', List.isEmpty_iff] at hv; obtain ⟨⟨⟨⟨⟨rfl, rfl⟩, rfl⟩, rfl⟩, hl1⟩, hm1⟩ := hv
 match l, hl1 with
 | .rows k1 [], _ =>
  match m, hm1 with
  | .rows k2 [], _ =>
   obtain ⟨A1, c1, rfl, -⟩ := hl.slice; obtain ⟨A2, c2, rfl, -⟩ := hm.slice; exact ⟨A1, c1, A2, c2, rfl⟩
theorem own_easy {x : Xpr} (h : RowAt w N x.cells cs) (hx : x.easy = true) : Calls Tryz.prog 148 #[.agg cs.toArray] w fun e w' => e = .returned (.bool true) /\ Fr [] w w' := by
 refine calls_post fun R HQ => ?_; obtain ⟨-, h6, hl, ho, hv, -⟩ := easy_own hx; obtain ⟨A, c, Aq, cq, vcs, rfl, -, -, hvr⟩ := xpr_shape h; obtain ⟨A1, c1, A2, c2, rfl⟩ := null_cells hvr hv; have HLIT := lh (fun W (hW : Fr [] w W) => lit_null (hvr.fr hW (by simp)) hv); rw [h6, hl, ho]; obtain ⟨qr, hqr⟩ : ∃ qr, x.q.rel = qr := ⟨_, rfl⟩; obtain ⟨qn, hqn⟩ : ∃ qn, x.q.l.length = qn := ⟨_, rfl⟩; rw [hqr, hqn]; clear h hx hl ho hv hvr h6 hqr hqn; obtain ⟨cs, hcs⟩ : ∃ cs : List Value, Value.int .i64 6 :: .slice A ([] : List Xpr).length c :: .string ⟨([] : List UInt8).toArray⟩ :: .bool qr :: .slice Aq qn cq :: [.int .i64 0, .bool false, .bool false, .string ⟨#[]⟩, .int .i64 0, .string ⟨#[]⟩, .slice A1 0 c1, .slice A2 0 c2] = cs := ⟨_, rfl⟩; rw [hcs]
 go_enter Tryz.func148, Tryz.ntmps148
 go_wp2_with (with_reducible refine wpList_box rfl 109 (.tmp 0) rfl cs rfl ?_)
 intro w0 hb0 hf0 hz0; subst hcs; have c0 := hb0.at_ (i := 0) rfl; have c1 := hb0.at_ (i := 1) rfl; have c2 := hb0.at_ (i := 2) rfl; have c5 := hb0.at_ (i := 5) rfl; have c6 := hb0.at_ (i := 6) rfl; have c7 := hb0.at_ (i := 7) rfl; have c8 := hb0.at_ (i := 8) rfl; have c9 := hb0.at_ (i := 9) rfl; have c10 := hb0.at_ (i := 10) rfl; have c11 := hb0.at_ (i := 11) rfl; have c12 := hb0.at_ (i := 12) rfl; have HF0 := lh hf0; have HL := lh (HLIT.out w0 hf0); simp only [List.length_nil] at c1; clear hb0 hf0 hz0 HLIT; go_upto_region 1 with fail
 go_wp2_with fail; refine HL.out.mono ?_; rintro e w2 ⟨rfl, hf2⟩; have HF2 := lh (HF0.out.trans hf2 (by simp)); have k0 := fr_keep hf2 c0; have k1 := fr_keep hf2 c1; have k2 := fr_keep hf2 c2; clear hf2 c0 c1 c2 c5 c6 c7 c8 c9 c10 c11 c12; go_upto_region 3 with fail
 refine wp_region_K (fun W => W.cell? ⟨w.heap.size, 2, none⟩ = some (.string ⟨#[]⟩) /\ True) [1, 2, 4, 5, 6] (by kernel_rfl) ?_; refine tks [1, 2] ?_
 iterate 2 (refine tk rfl rfl ⟨k2, trivial⟩ rfl (fun _ hW => by (obtain ⟨q0, _⟩ := hW; go_simp) <;> with_reducible rfl) ?_; simp only [nrm])
 refine tke ?_; refine sp 0 rfl rfl rfl fun K hK => ?_; refine wp_call_f (l := []) rfl [] rfl (fun W => by kernel_rfl) (calls_any.mono ?_); rintro e w3 ⟨mb, rfl, hcm, hf3⟩; have hf23 : Fr [] w2 w3 := ((Fr.refl [] w2).drew).trans hf3 (by simp); have hk2 := fr_keep hf23 k2; have hlk := hcm.look_ok ⟨#[]⟩ (by decide); refine ⟨_, rfl, hK _ _ (fun _ => ⟨hk2, trivial⟩) ?_⟩; simp only [nrm]; clear hK; refine sp 3 rfl rfl rfl fun K hK => ?_; refine wp_run_same (v := .tuple #[.bool (isTruthCall (strBytes ⟨#[]⟩)), .bool (isCall (strBytes ⟨#[]⟩))]) (by simp [execOp, Act.eval, hlk, Result.andThen]) (hK _ _ (fun _ => ⟨hk2, trivial⟩) ?_); simp only [nrm]; clear hK; refine tks [4, 5, 6] ?_
 iterate 3 (refine tk rfl rfl ⟨hk2, trivial⟩ rfl (fun _ hW => by (obtain ⟨q0, _⟩ := hW; go_simp) <;> with_reducible rfl) ?_; simp only [nrm])
 refine tke ?_; refine sp 7 rfl rfl rfl fun K hK => ?_; refine wp_run_same (v := ?aq1_7) ?yq1_7 (hK _ _ (fun _ => ⟨hk2, trivial⟩) ?_)
 case yq1_7 => go_simp <;> with_reducible rfl
 simp only [nrm]; refine sp 8 rfl rfl rfl fun K hK => ?_; refine wp_run_same (v := ?aq1_8) ?yq1_8 (hK _ _ (fun _ => ⟨hk2, trivial⟩) ?_)
 case yq1_8 => go_simp <;> with_reducible rfl
 simp only [nrm]; refine wd ?_ _; have j0 := fr_keep hf23 k0; have j1 := fr_keep hf23 k1; have HF3 := lh (HF2.out.trans hf23 (by simp)); clear hf3 hf23 hcm hlk hk2 k0 k1 k2; go_wp2_with fail; exact HQ.out _ _ ⟨rfl, HF3.out⟩
end
end
end Go.Proofs.YtbggkiebfflcdaaGreatDoor
