/-
  Joined by join.py: Io Eu
-/
import Derived.Test.YtbggkiebfflcdaaGreatDoorJpb18
import Derived.Test.YtbggkiebfflcdaaGreatDoorJpb22
set_option maxRecDepth 100000
set_option maxHeartbeats 32000000
namespace Go.Proofs.YtbggkiebfflcdaaGreatDoor
section
open Go.RowKit Go.Shelf
def SmQ (q : Qry) : Prop := ∀ (w : World) (N M : Nat -> Prop) (cs ds : List Value), fA w N q.cells cs -> fA w M q.cells ds -> RV 12 #[.agg cs.toArray, .agg ds.toArray] w (.bool true)
def LitV (v : Vlu) : Prop := (v.kind = 2 -> v.n.sane = true) /\ v.s.length <= 100000000 /\ v.l.isR 8 = true /\ v.m.isR 9 = true
theorem iS {W : World} {g : Nat} {t : TypeId} {cs : List Value} (h : Blk W g t cs) (o : Nat) (ds : List Value) (hd : ∀ j u, ds[j]? = some u -> cs[o + j]? = some u) : W.rangeAt g o ds := fun j u hu => h.at_ (hd j u hu)
theorem aEZ {f : List Xpr} (hn : f.length <= 1000000) (hE : ∀ x ∈ f, SmX x.l /\ SmQ x.q /\ LitV x.v) : SmX f := by
 intro w N M v1 v2 h1 h2; refine cA fun R HQ => ?_; obtain ⟨A, c, g, off, rfl, hA, hrow⟩ := h1.row; obtain ⟨A', c', g', off', rfl, hA', hrow'⟩ := h2.row; have hml : (f.map Xpr.cells).length = f.length := by simp
 rw [hml] at hA hA' ⊢; obtain ⟨ln, hln⟩ : ∃ ln, f.length = ln := ⟨_, rfl⟩; have HLN := lh hln; rw [hln] at hA hA' hn ⊢; have HROW := lh hrow; have HROW' := lh hrow'; have HA := lh hA; have HA' := lh hA'; have HEE := lh hE; clear h1 h2 hrow hrow' hA hA' hE hml hln
 go_enter Tryz.func28, Tryz.ntmps28
 go_wp2_with fail
 go_loopg [5] ln (fun j v5 wr => aEY w ln j v5 wr)
 case atStart => exact ⟨0, by omega, rfl, Fr.refl _ _⟩
 case round =>
  obtain ⟨wo, rfl⟩ := nm (wr); obtain ⟨k, hk, rfl, hF⟩ := hrel; have HF := lh hF; clear hF
  by_cases hkl : k < ln
  ·obtain ⟨x, hx⟩ : ∃ x, f[k]? = some x := gx (by rw [HLN.out]; exact hkl); obtain ⟨rfl, -⟩ := HA.out (by omega); obtain ⟨rfl, -⟩ := HA'.out (by omega); obtain ⟨_, ds, hds, hcell⟩ := HROW.out k x.cells (by rw [List.getElem?_map, hx]; rfl); obtain ⟨_, es, hes, hcell'⟩ := HROW'.out k x.cells (by rw [List.getElem?_map, hx]; rfl); obtain ⟨A5, c5, A6, c6, vcs, rfl, hc5, hrq, hrv⟩ := bH hds; obtain ⟨B5, d5, B6, d6, ucs, rfl, hd5, hsq, hsv⟩ := bH hes; have hrv0 := hrv; have hsv0 := hsv; obtain ⟨vl, vm, rfl, hvl, hvm⟩ := tF hrv0; obtain ⟨ul, um, rfl, hul, hum⟩ := tF hsv0; obtain ⟨hX1, hX2, hX3⟩ := HEE.out x (List.mem_of_getElem? hx); obtain ⟨what, l, op, ⟨rel, ql⟩, ⟨kind, b, ⟨neg, dg, ex⟩, s, cl, cm⟩⟩ := x; simp only [Xpr.what, Xpr.l, Xpr.op, Xpr.q, Xpr.v, Qry.rel, Qry.l] at hcell hcell' hc5 hd5 hrq hsq hrv hsv hX1 hX2 hX3
   obtain ⟨ck, crl, rfl⟩ : ∃ k rl, cl = .rows k rl := by
    cases cl with
    | leaf _ => exact absurd hX3.2.2.1 (by simp [Cl.isR])
    | rows k rl => exact ⟨k, rl, rfl⟩
   obtain ⟨mk, mrl, rfl⟩ : ∃ k rl, cm = .rows k rl := by
    cases cm with
    | leaf _ => exact absurd hX3.2.2.2 (by simp [Cl.isR])
    | rows k rl => exact ⟨k, rl, rfl⟩
   obtain ⟨Vl, vlc, rfl, -⟩ := hvl.slice; obtain ⟨Vm, vmc, rfl, -⟩ := hvm.slice; obtain ⟨Ul, ulc, rfl, -⟩ := hul.slice; obtain ⟨Um, umc, rfl, -⟩ := hum.slice; generalize crl.length = rl1 at *; generalize mrl.length = rl2 at *; have hF0 := HF.out
   have hl1 : ∀ (i : Nat) (u : Value), ([.int .i64 what, .slice A5 l.length c5, .string ⟨op.toArray⟩, .bool rel, .slice A6 ql.length c6, .int .i64 kind, .bool b, .bool neg, .string ⟨dg.toArray⟩, .int .i64 ex, .string ⟨s.toArray⟩, .slice Vl rl1 vlc, .slice Vm rl2 vmc] : List Value)[i]? = some u -> wo.cell? ⟨g, off + k * 13 + i, none⟩ = some u := fun i u hi => by
    have h9 := hcell i u hi; rw [show off + k * 13 + i = off + 13 * k + i by rw [Nat.mul_comm], hF0.cell (World.block_lt_of_cell? w _ h9) (by simp)]; exact h9
   have hl2 : ∀ (i : Nat) (u : Value), ([.int .i64 what, .slice B5 l.length d5, .string ⟨op.toArray⟩, .bool rel, .slice B6 ql.length d6, .int .i64 kind, .bool b, .bool neg, .string ⟨dg.toArray⟩, .int .i64 ex, .string ⟨s.toArray⟩, .slice Ul rl1 ulc, .slice Um rl2 umc] : List Value)[i]? = some u -> wo.cell? ⟨g', off' + k * 13 + i, none⟩ = some u := fun i u hi => by
    have h9 := hcell' i u hi; rw [show off' + k * 13 + i = off' + 13 * k + i by rw [Nat.mul_comm], hF0.cell (World.block_lt_of_cell? w _ h9) (by simp)]; exact h9
   have x0 := hl1 0 _ rfl; rw [Nat.add_zero] at x0; have x1 := hl1 1 _ rfl; have x2 := hl1 2 _ rfl; have x3 := hl1 3 _ rfl; have x4 := hl1 4 _ rfl; have x5 := hl1 5 _ rfl; have x6 := hl1 6 _ rfl; have x7 := hl1 7 _ rfl; have x8 := hl1 8 _ rfl; have x9 := hl1 9 _ rfl; have x10 := hl1 10 _ rfl; have x11 := hl1 11 _ rfl; have x12 := hl1 12 _ rfl; have y0 := hl2 0 _ rfl; rw [Nat.add_zero] at y0; have y1 := hl2 1 _ rfl; have y2 := hl2 2 _ rfl; have y3 := hl2 3 _ rfl; have y4 := hl2 4 _ rfl; have y5 := hl2 5 _ rfl; have y6 := hl2 6 _ rfl; have y7 := hl2 7 _ rfl; have y8 := hl2 8 _ rfl; have y9 := hl2 9 _ rfl; have y10 := hl2 10 _ rfl; have y11 := hl2 11 _ rfl; have y12 := hl2 12 _ rfl; have HC5 := lh (hc5.fr hF0); have HRQ := lh (hrq.fr hF0); have HRV := lh (hrv.fr hF0); have HD5 := lh (hd5.fr hF0); have HSQ := lh (hsq.fr hF0); have HSV := lh (hsv.fr hF0); have HX1 := lh hX1; have HX2 := lh hX2; have HX3 := lh hX3; have hki : (k : Int) < (ln : Int) := by omega
   have hm0 : 0 < ln := by omega
   have hltg := World.block_lt_of_cell? wo _ x0; have hltg' := World.block_lt_of_cell? wo _ y0
   simp only at hltg hltg'
   obtain ⟨ll, hll⟩ : ∃ ll, l.length = ll := ⟨_, rfl⟩; obtain ⟨lq, hlq⟩ : ∃ lq, ql.length = lq := ⟨_, rfl⟩; have HLL := lh hll; have HLQ := lh hlq; rw [hll] at x1 y1; rw [hlq] at x4 y4; clear hds hes hcell hcell' hc5 hd5 hrq hsq hrv hsv hvl hvm hul hum hX1 hX2 hX3 hx hF0 hl1 hl2 hrv0 hsv0 hll hlq; go_upto_region 8 with fail
   have hf2 : Fr [] wo ((wo.alloc (.cells #[.int .i64 what, .slice A5 ll c5, .string ⟨op.toArray⟩, .bool rel, .slice A6 lq c6, .int .i64 kind, .bool b, .bool neg, .string ⟨dg.toArray⟩, .int .i64 ex, .string ⟨s.toArray⟩, .slice Vl rl1 vlc, .slice Vm rl2 vmc] 117)).alloc (.cells #[.int .i64 what, .slice B5 ll d5, .string ⟨op.toArray⟩, .bool rel, .slice B6 lq d6, .int .i64 kind, .bool b, .bool neg, .string ⟨dg.toArray⟩, .int .i64 ex, .string ⟨s.toArray⟩, .slice Ul rl1 ulc, .slice Um rl2 umc] 117)) := ((Fr.refl [] wo).alloc _).alloc _; have hb2 := (Blk.new wo 117 [.int .i64 what, .slice A5 ll c5, .string ⟨op.toArray⟩, .bool rel, .slice A6 lq c6, .int .i64 kind, .bool b, .bool neg, .string ⟨dg.toArray⟩, .int .i64 ex, .string ⟨s.toArray⟩, .slice Vl rl1 vlc, .slice Vm rl2 vmc]).alloc (.cells #[.int .i64 what, .slice B5 ll d5, .string ⟨op.toArray⟩, .bool rel, .slice B6 lq d6, .int .i64 kind, .bool b, .bool neg, .string ⟨dg.toArray⟩, .int .i64 ex, .string ⟨s.toArray⟩, .slice Ul rl1 ulc, .slice Um rl2 umc] 117); have hb3 := Blk.new (wo.alloc (.cells #[.int .i64 what, .slice A5 ll c5, .string ⟨op.toArray⟩, .bool rel, .slice A6 lq c6, .int .i64 kind, .bool b, .bool neg, .string ⟨dg.toArray⟩, .int .i64 ex, .string ⟨s.toArray⟩, .slice Vl rl1 vlc, .slice Vm rl2 vmc] 117)) 117 [.int .i64 what, .slice B5 ll d5, .string ⟨op.toArray⟩, .bool rel, .slice B6 lq d6, .int .i64 kind, .bool b, .bool neg, .string ⟨dg.toArray⟩, .int .i64 ex, .string ⟨s.toArray⟩, .slice Ul rl1 ulc, .slice Um rl2 umc]; rw [show (wo.alloc (.cells #[.int .i64 what, .slice A5 ll c5, .string ⟨op.toArray⟩, .bool rel, .slice A6 lq c6, .int .i64 kind, .bool b, .bool neg, .string ⟨dg.toArray⟩, .int .i64 ex, .string ⟨s.toArray⟩, .slice Vl rl1 vlc, .slice Vm rl2 vmc] 117)).heap.size = wo.heap.size + 1 by simp] at hb3; generalize (wo.alloc (.cells #[.int .i64 what, .slice A5 ll c5, .string ⟨op.toArray⟩, .bool rel, .slice A6 lq c6, .int .i64 kind, .bool b, .bool neg, .string ⟨dg.toArray⟩, .int .i64 ex, .string ⟨s.toArray⟩, .slice Vl rl1 vlc, .slice Vm rl2 vmc] 117)).alloc (.cells #[.int .i64 what, .slice B5 ll d5, .string ⟨op.toArray⟩, .bool rel, .slice B6 lq d6, .int .i64 kind, .bool b, .bool neg, .string ⟨dg.toArray⟩, .int .i64 ex, .string ⟨s.toArray⟩, .slice Ul rl1 ulc, .slice Um rl2 umc] 117) = w2 at *; have HF2 := lh (HF.out.trans hf2); have HFa := lh hf2; have hS : (fun W => Blk W wo.heap.size 117 [.int .i64 what, .slice A5 ll c5, .string ⟨op.toArray⟩, .bool rel, .slice A6 lq c6, .int .i64 kind, .bool b, .bool neg, .string ⟨dg.toArray⟩, .int .i64 ex, .string ⟨s.toArray⟩, .slice Vl rl1 vlc, .slice Vm rl2 vmc] /\ Blk W (wo.heap.size + 1) 117 [.int .i64 what, .slice B5 ll d5, .string ⟨op.toArray⟩, .bool rel, .slice B6 lq d6, .int .i64 kind, .bool b, .bool neg, .string ⟨dg.toArray⟩, .int .i64 ex, .string ⟨s.toArray⟩, .slice Ul rl1 ulc, .slice Um rl2 umc]) w2 := ⟨hb2, hb3⟩; have hSf : ∀ {W W' : World}, Fr [] W W' -> (fun W => Blk W wo.heap.size 117 [.int .i64 what, .slice A5 ll c5, .string ⟨op.toArray⟩, .bool rel, .slice A6 lq c6, .int .i64 kind, .bool b, .bool neg, .string ⟨dg.toArray⟩, .int .i64 ex, .string ⟨s.toArray⟩, .slice Vl rl1 vlc, .slice Vm rl2 vmc] /\ Blk W (wo.heap.size + 1) 117 [.int .i64 what, .slice B5 ll d5, .string ⟨op.toArray⟩, .bool rel, .slice B6 lq d6, .int .i64 kind, .bool b, .bool neg, .string ⟨dg.toArray⟩, .int .i64 ex, .string ⟨s.toArray⟩, .slice Ul rl1 ulc, .slice Um rl2 umc]) W -> (fun W => Blk W wo.heap.size 117 [.int .i64 what, .slice A5 ll c5, .string ⟨op.toArray⟩, .bool rel, .slice A6 lq c6, .int .i64 kind, .bool b, .bool neg, .string ⟨dg.toArray⟩, .int .i64 ex, .string ⟨s.toArray⟩, .slice Vl rl1 vlc, .slice Vm rl2 vmc] /\ Blk W (wo.heap.size + 1) 117 [.int .i64 what, .slice B5 ll d5, .string ⟨op.toArray⟩, .bool rel, .slice B6 lq d6, .int .i64 kind, .bool b, .bool neg, .string ⟨dg.toArray⟩, .int .i64 ex, .string ⟨s.toArray⟩, .slice Ul rl1 ulc, .slice Um rl2 umc]) W' := fun hf h => ⟨h.1.fr hf, h.2.fr hf⟩; clear hf2 hb2 hb3 x0 x1 x2 x3 x4 x5 x6 x7 x8 x9 x10 x11 x12 y0 y1 y2 y3 y4 y5 y6 y7 y8 y9 y10 y11 y12 hltg hltg'; refine iA (fun W => Blk W wo.heap.size 117 [.int .i64 what, .slice A5 ll c5, .string ⟨op.toArray⟩, .bool rel, .slice A6 lq c6, .int .i64 kind, .bool b, .bool neg, .string ⟨dg.toArray⟩, .int .i64 ex, .string ⟨s.toArray⟩, .slice Vl rl1 vlc, .slice Vm rl2 vmc] /\ Blk W (wo.heap.size + 1) 117 [.int .i64 what, .slice B5 ll d5, .string ⟨op.toArray⟩, .bool rel, .slice B6 lq d6, .int .i64 kind, .bool b, .bool neg, .string ⟨dg.toArray⟩, .int .i64 ex, .string ⟨s.toArray⟩, .slice Ul rl1 ulc, .slice Um rl2 umc]) [0, 1, 2, 3, 4, 5, 6, 7, 8, 9, 10, 11, 12, 13, 14, 15, 16, 18, 19, 20, 21, 22, 23, 24, 26, 27, 28, 29, 30, 31, 33, 34, 35, 37, 38] (by kernel_rfl) ?_; refine tks [0, 1, 2, 3, 4, 5, 6, 7, 8, 9, 10, 11, 12, 13] ?_
   iterate 14 (refine tk rfl rfl hS rfl (fun _ hW => by (obtain ⟨k0, k1⟩ := hW; have e0 := k0.at_ (i := 0) rfl; have e1 := k0.at_ (i := 1) rfl; have e2 := k0.at_ (i := 2) rfl; have f0 := k1.at_ (i := 0) rfl; have f1 := k1.at_ (i := 1) rfl; have f2 := k1.at_ (i := 2) rfl; go_simp) <;> with_reducible rfl) ?_; simp only [nrm])
   refine tke ?_; refine tv 14 (.agg #[.bool rel, .slice A6 lq c6]) rfl rfl hS (.inl ⟨rfl, fun W hW => nH (cs := [.bool rel, .slice A6 lq c6]) (off := 3) rfl rfl (iS hW.1 3 _ (fun j u hu => match j, hu with | 0, hu => hu | 1, hu => hu | j + 2, hu => by simp at hu)) Tryz.underlying31 rfl (by kernel_rfl)⟩) ?_; simp only [nrm]; refine tks [15] ?_; refine tk rfl rfl hS rfl (fun _ hW => by (obtain ⟨k0, k1⟩ := hW; have e0 := k0.at_ (i := 0) rfl; have e1 := k0.at_ (i := 1) rfl; have e2 := k0.at_ (i := 2) rfl; have f0 := k1.at_ (i := 0) rfl; have f1 := k1.at_ (i := 1) rfl; have f2 := k1.at_ (i := 2) rfl; go_simp) <;> with_reducible rfl) ?_; simp only [nrm]; refine tke ?_; refine tv 16 (.agg #[.bool rel, .slice B6 lq d6]) rfl rfl hS (.inl ⟨rfl, fun W hW => nH (cs := [.bool rel, .slice B6 lq d6]) (off := 3) rfl rfl (iS hW.2 3 _ (fun j u hu => match j, hu with | 0, hu => hu | 1, hu => hu | j + 2, hu => by simp at hu)) Tryz.underlying31 rfl (by kernel_rfl)⟩) ?_; simp only [nrm]; refine xB (j := 17) (some 44) rfl rfl (by kernel_rfl) rfl fun K hK => ?_; have hfd : Fr [] w2 w2.drew := (Fr.refl [] w2).drew; refine mA (l := [.tmp 41, .tmp 43]) rfl [.agg #[.bool rel, .slice A6 lq c6], .agg #[.bool rel, .slice B6 lq d6]] rfl (fun W => by kernel_rfl) ((HX2.out w2.drew N M [.bool rel, .slice A6 lq c6] [.bool rel, .slice B6 lq d6] (by have h9 := (HRQ.out.fr HFa.out).fr hfd; rw [HLQ.out] at h9; exact h9) (by have h9 := (HSQ.out.fr HFa.out).fr hfd; rw [HLQ.out] at h9; exact h9)).mono ?_); rintro e wa ⟨rfl, hfb⟩; have HKa := lh (hfd.trans hfb); have hSa := hSf HKa.out hS; refine ⟨_, rfl, hK _ _ (fun _ => hSa) ?_⟩; simp only [nrm]; clear hK hfd hfb hS; refine tks [18, 19, 20, 21, 22, 23, 24] ?_
   iterate 7 (refine tk rfl rfl hSa rfl (fun _ hW => by (obtain ⟨k0, k1⟩ := hW; have e0 := k0.at_ (i := 0) rfl; have e1 := k0.at_ (i := 1) rfl; have e2 := k0.at_ (i := 2) rfl; have f0 := k1.at_ (i := 0) rfl; have f1 := k1.at_ (i := 1) rfl; have f2 := k1.at_ (i := 2) rfl; go_simp) <;> with_reducible rfl) ?_; simp only [nrm])
   refine tke ?_; refine xB (j := 25) (some 52) rfl rfl (by kernel_rfl) rfl fun K hK => ?_; refine mA (l := [.tmp 49, .tmp 51]) rfl [.slice A5 ll c5, .slice B5 ll d5] rfl (fun W => by kernel_rfl) ((HX1.out wa N M (.slice A5 ll c5) (.slice B5 ll d5) (by have h9 := (HC5.out.fr HFa.out).fr HKa.out; rw [HLL.out] at h9; exact h9) (by have h9 := (HD5.out.fr HFa.out).fr HKa.out; rw [HLL.out] at h9; exact h9)).mono ?_); rintro e wb ⟨rfl, hfb⟩; have HKb := lh (HKa.out.trans hfb); have hSb := hSf hfb hSa; refine ⟨_, rfl, hK _ _ (fun _ => hSb) ?_⟩; simp only [nrm]; clear hK hfb hSa; refine tks [26, 27, 28, 29] ?_
   iterate 4 (refine tk rfl rfl hSb rfl (fun _ hW => by (obtain ⟨k0, k1⟩ := hW; have e0 := k0.at_ (i := 0) rfl; have e1 := k0.at_ (i := 1) rfl; have e2 := k0.at_ (i := 2) rfl; have f0 := k1.at_ (i := 0) rfl; have f1 := k1.at_ (i := 1) rfl; have f2 := k1.at_ (i := 2) rfl; go_simp) <;> with_reducible rfl) ?_; simp only [nrm])
   refine tke ?_; refine tv 30 (.agg #[.int .i64 kind, .bool b, .bool neg, .string ⟨dg.toArray⟩, .int .i64 ex, .string ⟨s.toArray⟩, .slice Vl rl1 vlc, .slice Vm rl2 vmc]) rfl rfl hSb (.inl ⟨rfl, fun W hW => nH (cs := [.int .i64 kind, .bool b, .bool neg, .string ⟨dg.toArray⟩, .int .i64 ex, .string ⟨s.toArray⟩, .slice Vl rl1 vlc, .slice Vm rl2 vmc]) (off := 5) rfl rfl (iS hW.1 5 _ (fun j u hu => by rw [Nat.add_comm]; exact hu)) Tryz.underlying107 rfl (by kernel_rfl)⟩) ?_; simp only [nrm]; refine tks [31, 33] ?_
   iterate 2 (refine tk rfl rfl hSb rfl (fun _ hW => by (obtain ⟨k0, k1⟩ := hW; have e0 := k0.at_ (i := 0) rfl; have e1 := k0.at_ (i := 1) rfl; have e2 := k0.at_ (i := 2) rfl; have f0 := k1.at_ (i := 0) rfl; have f1 := k1.at_ (i := 1) rfl; have f2 := k1.at_ (i := 2) rfl; go_simp) <;> with_reducible rfl) ?_; simp only [nrm])
   refine tke ?_; refine tv 34 (.agg #[.int .i64 kind, .bool b, .bool neg, .string ⟨dg.toArray⟩, .int .i64 ex, .string ⟨s.toArray⟩, .slice Ul rl1 ulc, .slice Um rl2 umc]) rfl rfl hSb (.inl ⟨rfl, fun W hW => nH (cs := [.int .i64 kind, .bool b, .bool neg, .string ⟨dg.toArray⟩, .int .i64 ex, .string ⟨s.toArray⟩, .slice Ul rl1 ulc, .slice Um rl2 umc]) (off := 5) rfl rfl (iS hW.2 5 _ (fun j u hu => by rw [Nat.add_comm]; exact hu)) Tryz.underlying107 rfl (by kernel_rfl)⟩) ?_; simp only [nrm]; refine tks [35] ?_; refine tk rfl rfl hSb rfl (fun _ hW => by (obtain ⟨k0, k1⟩ := hW; have e0 := k0.at_ (i := 0) rfl; have e1 := k0.at_ (i := 1) rfl; have e2 := k0.at_ (i := 2) rfl; have f0 := k1.at_ (i := 0) rfl; have f1 := k1.at_ (i := 1) rfl; have f2 := k1.at_ (i := 2) rfl; go_simp) <;> with_reducible rfl) ?_; simp only [nrm]; refine tke ?_; refine xB (j := 32) (some 59) rfl rfl (by kernel_rfl) rfl fun K hK => ?_; refine mA (l := [.tmp 58]) rfl [.agg #[.int .i64 5, .slice none 0 0, .string ⟨#[]⟩, .bool false, .slice none 0 0, .int .i64 kind, .bool b, .bool neg, .string ⟨dg.toArray⟩, .int .i64 ex, .string ⟨s.toArray⟩, .slice Vl rl1 vlc, .slice Vm rl2 vmc]] rfl (fun W => by kernel_rfl) ((eW (l := .rows ck crl) (m := .rows mk mrl) HX3.out.1 HX3.out.2.1).mono ?_); rintro e wc ⟨rfl, hfb⟩; have HKc := lh (HKb.out.trans hfb); have hSc := hSf hfb hSb; refine ⟨_, rfl, hK _ _ (fun _ => hSc) ?_⟩; simp only [nrm]; clear hK hfb hSb; refine xB (j := 36) (some 63) rfl rfl (by kernel_rfl) rfl fun K hK => ?_; refine mA (l := [.tmp 62]) rfl [.agg #[.int .i64 5, .slice none 0 0, .string ⟨#[]⟩, .bool false, .slice none 0 0, .int .i64 kind, .bool b, .bool neg, .string ⟨dg.toArray⟩, .int .i64 ex, .string ⟨s.toArray⟩, .slice Ul rl1 ulc, .slice Um rl2 umc]] rfl (fun W => by kernel_rfl) ((eW (l := .rows ck crl) (m := .rows mk mrl) HX3.out.1 HX3.out.2.1).mono ?_); rintro e wd ⟨rfl, hfb⟩; have HKd := lh (HKc.out.trans hfb); have hSd := hSf hfb hSc; refine ⟨_, rfl, hK _ _ (fun _ => hSd) ?_⟩; simp only [nrm]; clear hK hfb hSc; refine tks [37, 38] ?_
   iterate 2 (refine tk rfl rfl hSd rfl (fun _ hW => by (obtain ⟨k0, k1⟩ := hW; have e0 := k0.at_ (i := 0) rfl; have e1 := k0.at_ (i := 1) rfl; have e2 := k0.at_ (i := 2) rfl; have f0 := k1.at_ (i := 0) rfl; have f1 := k1.at_ (i := 1) rfl; have f2 := k1.at_ (i := 2) rfl; go_simp) <;> with_reducible rfl) ?_; simp only [nrm])
   refine tke ?_; refine _root_.Go.Proofs.YtbggkiebfflcdaaGreatDoor.wd ?_ _; have HFE := lh (HF2.out.trans HKd.out); clear hSf; go_wp2_with fail
   go_roundg (ln - (k + 1))
   case measure => omega
   case rel => exact ⟨k + 1, by omega, by go_num, HFE.out⟩
  ·obtain rfl : k = ln := by omega
   go_wp2_with fail; exact HQ.out _ _ ⟨rfl, HF.out⟩
end
section
open Go.RowKit
def aAn (l : List UInt8) : Bool := match l with
 | [] => false
 | c :: _ => c == 93 || c == 44 || c == 41 || c == 32
theorem xH {l : List UInt8} (h : aAn l = true) : vO l = true /\ gA 61 l = false /\ ∀ c r, l = c :: r -> lD c = false := by
 cases l with
 | nil => exact absurd h (by decide)
 | cons c r =>
  simp only [aAn, Bool.or_eq_true, beq_iff_eq] at h; rcases h with ((h | h) | h) | h <;> subst h <;> exact ⟨rfl, rfl, fun c r e => by injection e with e _; subst e; rfl⟩
theorem fO {a : Nat} {w r : List UInt8} {ts : List Tkn} (h : w.all aCU = true) (h0 : w ≠ []) (hr : ∀ c s, r = c :: s -> lD c = false) (ht : dE (a + w.length) r ts) : dE a (w ++ r) (⟨1, w, .zero, a, a + w.length⟩ :: ts) := by
 match w, h0 with
 | c :: l, _ =>
  have hc : aCU c = true := by simp only [List.all_cons, Bool.and_eq_true] at h; exact h.1
  have hn : (c :: l).all lD = true := List.all_eq_true.2 fun x hx => (eM (List.all_eq_true.1 h x hx)).2.1; obtain ⟨s1, _⟩ := cJ (t := r) hn hr; rw [List.cons_append] at s1 ⊢; refine fC (eM hc).2.2.1 ?_ rfl (by decide) ht; unfold gB
  dsimp only
  rw [(eM hc).1, if_pos rfl, s1, aCV h, if_pos rfl]
theorem aFa {a : Nat} {x l : List UInt8} {ts : List Tkn} (hx : x = [38, 38] ∨ x = [124, 124]) (h : dE (a + 2) l ts) : dE a (x ++ l) (⟨4, x, .zero, a, a + 2⟩ :: ts) := by
 rcases hx with rfl | rfl
 ·exact fC (c := 38) (u := [38]) (l := l) rfl (show gB (38 :: 38 :: l) = .ok (4, [38, 38], .zero, 2) from rfl) rfl (by decide) h
 ·exact fC (c := 124) (u := [124]) (l := l) rfl (show gB (124 :: 124 :: l) = .ok (4, [124, 124], .zero, 2) from rfl) rfl (by decide) h
theorem aFY {a : Nat} {x l : List UInt8} {ts : List Tkn} (hx : x ∈ cK) (h : dE (a + x.length) (32 :: l) ts) : dE a (x ++ 32 :: l) (⟨4, x, .zero, a, a + x.length⟩ :: ts) := by
 simp only [cK, List.mem_cons, List.not_mem_nil, or_false] at hx; rcases hx with rfl | rfl | rfl | rfl | rfl | rfl
 ·exact fC (c := 61) (u := [61]) (l := 32 :: l) rfl (show gB (61 :: 61 :: 32 :: l) = .ok (4, [61, 61], .zero, 2) from rfl) rfl (by decide) h
 ·exact fC (c := 33) (u := [61]) (l := 32 :: l) rfl (show gB (33 :: 61 :: 32 :: l) = .ok (4, [33, 61], .zero, 2) from rfl) rfl (by decide) h
 ·exact fC (c := 60) (u := [61]) (l := 32 :: l) rfl (show gB (60 :: 61 :: 32 :: l) = .ok (4, [60, 61], .zero, 2) from rfl) rfl (by decide) h
 ·exact fC (c := 62) (u := [61]) (l := 32 :: l) rfl (show gB (62 :: 61 :: 32 :: l) = .ok (4, [62, 61], .zero, 2) from rfl) rfl (by decide) h
 ·exact fC (c := 60) (u := []) (l := 32 :: l) rfl (show gB (60 :: 32 :: l) = .ok (4, [60], .zero, 1) from rfl) rfl (by decide) h
 ·exact fC (c := 62) (u := []) (l := 32 :: l) rfl (show gB (62 :: 32 :: l) = .ok (4, [62], .zero, 1) from rfl) rfl (by decide) h
theorem aBu {l : List UInt8} (h : gA 61 l = false) : gB (33 :: l) = .ok (4, [33], .zero, 1) := by
 have e : jG (33 :: l) = 1 := by
  unfold jG
  have : xO.any (fun x => x.isPrefixOf (33 :: l)) = false := by
   simp only [xO, List.any_cons, List.any_nil, zV h, Bool.or_false, Bool.false_or]; rfl
  rw [this]; rfl
 unfold gB; simp only [e]
 rfl
theorem jW {a : Nat} {l : List UInt8} {ts : List Tkn} (hl : gA 61 l = false) (h : dE (a + 1) l ts) : dE a (33 :: l) (⟨4, [33], .zero, a, a + 1⟩ :: ts) :=
 fC (u := []) rfl (aBu hl) rfl (by decide) h
def aAo (s x : List UInt8) : Prop := (∀ a l ts, dE (a + s.length) l ts -> ∃ f g, dE a (s ++ l) (⟨4, x, .zero, f, g⟩ :: ts)) /\ ∀ l, aAn (s ++ l) = true
theorem kW : aAo [44] [44] := ⟨fun a l ts h => ⟨a, a + 1, jF (c := 44) (by decide) h⟩, fun _ => rfl⟩
theorem jS {x : List UInt8} (hx : x = [38, 38] ∨ x = [124, 124]) : aAo (32 :: x ++ [32]) x := by
 refine ⟨fun a l ts h => ⟨a + 1, a + 1 + 2, ?_⟩, fun _ => rfl⟩; have e : 32 :: x ++ [32] ++ l = 32 :: (x ++ (32 :: l)) := by simp
 have e2 : a + (32 :: x ++ [32]).length = a + 1 + 2 + 1 := by rcases hx with rfl | rfl <;> rfl
 rw [e2] at h; rw [e]; exact cM rfl (aFa hx (cM rfl h))
theorem aGZ {x : List UInt8} (hx : x ∈ cK) : aAo (32 :: x ++ [32]) x := by
 refine ⟨fun a l ts h => ⟨a + 1, a + 1 + x.length, ?_⟩, fun _ => rfl⟩; have e : 32 :: x ++ [32] ++ l = 32 :: (x ++ (32 :: l)) := by simp
 have e2 : a + (32 :: x ++ [32]).length = a + 1 + x.length + 1 := by simp only [List.cons_append, List.length_cons, List.length_append, List.length_nil]; omega
 rw [e2] at h; rw [e]; exact cM rfl (aFY hx (cM rfl h))
def Fol (good : List (List UInt8)) (ts : List Tkn) : Prop := ∃ t r, ts = t :: r /\ t.kind = 4 /\ t.s ∈ good
theorem Fol.mono {g g' : List (List UInt8)} {ts : List Tkn} (h : Fol g ts) (hg : ∀ x ∈ g, x ∈ g') : Fol g' ts := by
 obtain ⟨t, r, h1, h2, h3⟩ := h; exact ⟨t, r, h1, h2, hg _ h3⟩
theorem Fol.no {g : List (List UInt8)} {ts : List Tkn} (h : Fol g ts) {x : List UInt8} (hx : x ∉ g) (m : Int) : QS.next ⟨ts, m⟩ x = false := by
 obtain ⟨t, r, rfl, h2, h3⟩ := h; have : t.s ≠ x := fun e => hx (e ▸ h3)
 simp [QS.next, QS.peek, this]
theorem Fol.of (g : List (List UInt8)) {x : List UInt8} (h : x ∈ g) (f t : Nat) (l : List Tkn) : Fol g (⟨4, x, .zero, f, t⟩ :: l) := ⟨_, l, rfl, rfl, h⟩
def gK : List (List UInt8) := [[44], [93], [41]]
def iK : List (List UInt8) := [124, 124] :: gK
def aK : List (List UInt8) := [38, 38] :: iK
def bK : List (List UInt8) := cK ++ aK
theorem aCg : ∀ x ∈ gK, x ∈ iK := fun _ h => List.mem_cons_of_mem _ h
theorem aCh : ∀ x ∈ iK, x ∈ aK := fun _ h => List.mem_cons_of_mem _ h
theorem wX : ∀ x ∈ aK, x ∈ bK := fun _ h => List.mem_append_right _ h
def Rds {X : Type} (T : List UInt8) (F : Nat -> Rd X) (good : List (List UInt8)) (H : Tkn -> Prop) (u : List UInt8) (x : X) : Prop :=
 ∀ a rest ts', T.drop a = u ++ rest -> aAn rest = true -> dE (a + u.length) rest ts' -> Fol good ts' ->
  ∃ t ts, dE a (u ++ rest) (t :: (ts ++ ts')) /\ H t /\ ∀ n (m : Int), ts.length <= n -> m <= 32 -> ∃ m', m' <= 32 /\ F n ⟨t :: (ts ++ ts'), m⟩ = some (x, ⟨ts', m'⟩)
theorem aAp (u v : List UInt8) (r : List (List UInt8)) (sep : List UInt8) : Lib.join (u :: v :: r) sep = u ++ (sep ++ Lib.join (v :: r) sep) := by
 rw [Lib.join_cons, Lib.join_cons]
 simp [Lib.joinTail]
theorem zD {T u r : List UInt8} {a : Nat} (h : T.drop a = u ++ r) : T.drop (a + u.length) = r := by
 rw [<- List.drop_drop, h, List.drop_left]
theorem jU {X : Type} {T : List UInt8} {F : Nat -> Rd X} {good good' : List (List UInt8)} {H : Tkn -> Prop} {sep x : List UInt8} (hs : aAo sep x) (h1 : x ∈ good') (hg : ∀ y ∈ good, y ∈ good') (hx : x ∉ good) :
  ∀ (l : List (List UInt8 × X)), l ≠ [] -> (∀ p ∈ l, Rds T F good' H p.1 p.2) -> ∀ a rest ts', T.drop a = Lib.join (l.map Prod.fst) sep ++ rest -> aAn rest = true -> dE (a + (Lib.join (l.map Prod.fst) sep).length) rest ts' -> Fol good ts' ->
  ∃ t ts, dE a (Lib.join (l.map Prod.fst) sep ++ rest) (t :: (ts ++ ts')) /\ H t /\ l.length <= ts.length + 1 /\ ∀ n (m : Int) fuel, ts.length <= n -> m <= 32 -> l.length <= fuel -> ∃ m', m' <= 32 /\ iC x (F n) fuel ⟨t :: (ts ++ ts'), m⟩ = some (l.map Prod.snd, ⟨ts', m'⟩)
 | [p], _, hl, a, rest, ts', hd, he, ht, hf => by
  simp only [List.map_cons, List.map_nil, Lib.join_one] at hd ht ⊢; obtain ⟨t, ts, i1, i2, i3⟩ := hl p (by simp) a rest ts' hd he ht (hf.mono hg); refine ⟨t, ts, i1, i2, by simp, fun n m fuel hn hm hfu => ?_⟩; obtain ⟨m', j1, j2⟩ := i3 n m hn hm; refine ⟨m', j1, ?_⟩
  match fuel, hfu with
  | f + 1, _ =>
   unfold iC; rw [j2]
   dsimp only
   rw [hf.no hx m', if_neg (by simp)]
 | p :: q :: r, _, hl, a, rest, ts', hd, he, ht, hf => by
  simp only [List.map_cons] at hd ht ⊢; rw [aAp] at hd ht ⊢; have ih := jU hs h1 hg hx (q :: r) (by simp) (fun y hy => hl y (by simp [List.mem_cons.1 hy])) (a + p.1.length + sep.length) rest ts'; simp only [List.map_cons] at ih; generalize hJ : Lib.join (q.1 :: r.map Prod.fst) sep = J at hd ht ih ⊢; rw [List.append_assoc, List.append_assoc] at hd ⊢; have hd1 := zD hd; have hd2 := zD hd1; rw [List.length_append, List.length_append, <- Nat.add_assoc, <- Nat.add_assoc] at ht; obtain ⟨t2, ts2, i1, i2, i3, i4⟩ := ih hd2 he ht hf; obtain ⟨f, g, k1⟩ := hs.1 _ _ _ i1; obtain ⟨t1, ts1, o1, o2, o3⟩ := hl p (by simp) a (sep ++ (J ++ rest)) _ hd (hs.2 _) k1 (Fol.of _ h1 _ _ _); have e : ∀ t : Tkn, t :: (ts1 ++ ⟨4, x, .zero, f, g⟩ :: t2 :: (ts2 ++ ts')) = t :: ((ts1 ++ ⟨4, x, .zero, f, g⟩ :: t2 :: ts2) ++ ts') := fun t => by simp
  rw [e] at o1; refine ⟨t1, ts1 ++ ⟨4, x, .zero, f, g⟩ :: t2 :: ts2, o1, o2, by simp only [List.length_cons, List.length_append] at i3 ⊢; omega, fun n m fuel hn hm hfu => ?_⟩; rw [List.length_append, List.length_cons, List.length_cons] at hn; obtain ⟨m1, j1, j2⟩ := o3 n m (by omega) hm; rw [e] at j2
  match fuel, hfu with
  | fu + 1, hfu =>
   obtain ⟨m2, l1, l2⟩ := i4 n m1 fu (by omega) j1 (by simp only [List.length_cons] at hfu ⊢; omega); refine ⟨m2, l1, ?_⟩; unfold iC; rw [j2]
   dsimp only
   rw [if_pos (bI _ _ _ _ _ _)]; simp only [QS.go, List.drop_succ_cons, List.drop_zero]; rw [l2]
theorem cH {X : Type} {T : List UInt8} {F : Nat -> Rd X} {good good' : List (List UInt8)} {H : Tkn -> Prop} {sep x : List UInt8} (hs : aAo sep x) (h1 : x ∈ good') (hg : ∀ y ∈ good, y ∈ good') (hx : x ∉ good)
  (l : List (List UInt8 × X)) (h0 : l ≠ []) (hl : ∀ p ∈ l, Rds T F good' H p.1 p.2) : Rds T (fun n => oC x (F n)) good H (Lib.join (l.map Prod.fst) sep) (l.map Prod.snd) := fun a rest ts' hd he ht hf => by
 obtain ⟨t, ts, i1, i2, i3, i4⟩ := jU hs h1 hg hx l h0 hl a rest ts' hd he ht hf; refine ⟨t, ts, i1, i2, fun n m hn hm => ?_⟩; unfold oC; exact i4 n m _ hn hm (by simp only [List.length_cons, List.length_append]; omega)
section
variable (T : List UInt8) (d : Int)
def fS (n : Nat) : Rd Xpr := iB T (tE T n).1 (tE T n).2 d
def fT (n : Nat) : Rd Xpr := aE T (tE T n).1 (tE T n).2 d
def fB (n : Nat) : Rd Xpr := lM T (tE T n).1 (tE T n).2 d
def fE (n : Nat) : Rd Xpr := jH T (tE T n).1 (tE T n).2 d
theorem aGC (n : Nat) : (tE T (n + 1)).1 d = fE T d n := rfl
end
def hdS (t : Tkn) : Prop := t.kind ≠ 4 ∨ t.s = [36] ∨ t.s = [64]
def pG (_ : Tkn) : Prop := True
theorem iR {t : Tkn} (h : hdS t) {x : List UInt8} (hx : x ≠ [36] /\ x ≠ [64]) (l : List Tkn) (m : Int) : QS.next ⟨t :: l, m⟩ x = false := by
 unfold QS.next QS.peek; rcases h with h | h | h
 ·simp [h]
 ·simp [h, Ne.symm hx.1]
 ·simp [h, Ne.symm hx.2]
section
variable {T : List UInt8} {d : Int} {u : List UInt8} {x : Xpr}
theorem up_T (h : Rds T (fS T d) bK hdS u x) : Rds T (fT T d) aK pG u x := fun a rest ts' hd he ht hf => by
 obtain ⟨t, ts, i1, i2, i3⟩ := h a rest ts' hd he ht (hf.mono wX); refine ⟨t, ts, i1, trivial, fun n m hn hm => ?_⟩; obtain ⟨m', j1, j2⟩ := i3 n m hn hm; refine ⟨m', j1, ?_⟩; unfold fS at j2; unfold fT aE; rw [iR i2 (by decide), if_neg (by simp), iR i2 (by decide), if_neg (by simp), j2]
 dsimp only
 obtain ⟨t', r, rfl, k1, k2⟩ := hf; rw [if_neg]; rintro ⟨-, hh⟩
 revert hh
 simp only [QS.peek]; simp only [aK, iK, gK, List.mem_cons, List.not_mem_nil, or_false] at k2; rcases k2 with k2 | k2 | k2 | k2 | k2 <;> rw [k2] <;> decide
theorem aFb {H : Tkn -> Prop} (h : Rds T (fT T d) aK H u x) : Rds T (fB T d) iK H u x := fun a rest ts' hd he ht hf => by
 have hl := cH (good := iK) (good' := aK) (sep := 32 :: [38, 38] ++ [32]) (jS (.inl rfl)) (by decide) aCh (by decide) [(u, x)] (by simp) (fun p hp => by obtain rfl := List.mem_singleton.1 hp; exact h); simp only [List.map_cons, List.map_nil, Lib.join_one] at hl; obtain ⟨t, ts, i1, i2, i3⟩ := hl a rest ts' hd he ht hf; refine ⟨t, ts, i1, i2, fun n m hn hm => ?_⟩; obtain ⟨m', j1, j2⟩ := i3 n m hn hm; refine ⟨m', j1, ?_⟩; unfold fT at j2
 dsimp only at j2
 unfold fB lM; rw [j2]
 rfl
theorem up_E {H : Tkn -> Prop} (h : Rds T (fB T d) iK H u x) : Rds T (fE T d) gK H u x := fun a rest ts' hd he ht hf => by
 have hl := cH (good := gK) (good' := iK) (sep := 32 :: [124, 124] ++ [32]) (jS (.inr rfl)) (by decide) aCg (by decide) [(u, x)] (by simp) (fun p hp => by obtain rfl := List.mem_singleton.1 hp; exact h); simp only [List.map_cons, List.map_nil, Lib.join_one] at hl; obtain ⟨t, ts, i1, i2, i3⟩ := hl a rest ts' hd he ht hf; refine ⟨t, ts, i1, i2, fun n m hn hm => ?_⟩; obtain ⟨m', j1, j2⟩ := i3 n m hn hm; refine ⟨m', j1, ?_⟩; unfold fB at j2
 dsimp only at j2
 unfold fE jH; rw [j2]
 rfl
theorem aAq {H : Tkn -> Prop} (h : Rds T (fE T (d + 1)) gK H u x) (h32 : d + 1 <= 32) {a : Nat} {rest : List UInt8} {ts' : List Tkn} (hd : T.drop a = 40 :: (u ++ 41 :: rest)) (ht : dE (a + 1 + u.length + 1) rest ts') :
  ∃ ts f g, dE a (40 :: (u ++ 41 :: rest)) (⟨4, [40], .zero, f, g⟩ :: (ts ++ ts')) /\ ∀ n (m : Int), ts.length <= n -> m <= 32 -> ∃ m', m' <= 32 /\ dD (tE T n).1 d ⟨ts ++ ts', m⟩ = some (x, ⟨ts', m'⟩) := by
 have hd1 : T.drop (a + 1) = u ++ 41 :: rest := zD (u := [40]) hd; obtain ⟨t, ts, i1, i2, i3⟩ := h (a + 1) (41 :: rest) _ hd1 rfl (jF (c := 41) (by decide) ht) (Fol.of _ (by decide) _ _ _); refine ⟨t :: (ts ++ [⟨4, [41], .zero, a + 1 + u.length, a + 1 + u.length + 1⟩]), a, a + 1, ?_, fun n m hn hm => ?_⟩
 ·have := jF (a := a) (c := 40) (by decide) i1
  simpa using this
 ·rw [List.length_cons, List.length_append, List.length_cons] at hn
  match n, hn with
  | n + 1, hn =>
   obtain ⟨m', j1, j2⟩ := i3 n (max m (d + 1)) (by omega) (by omega); refine ⟨m', j1, ?_⟩; unfold dD; rw [aGC]; have e : (⟨t :: (ts ++ [⟨4, [41], .zero, a + 1 + u.length, a + 1 + u.length + 1⟩]) ++ ts', m⟩ : QS).l = t :: (ts ++ ⟨4, [41], .zero, a + 1 + u.length, a + 1 + u.length + 1⟩ :: ts') := by simp
   rw [e, j2]
   rfl
theorem aGD {H : Tkn -> Prop} (h : Rds T (fE T (d + 1)) gK H u x) (h32 : d + 1 <= 32) : Rds T (fT T d) aK pG (40 :: u ++ [41]) x := fun a rest ts' hd he ht hf => by
 have e : 40 :: u ++ [41] ++ rest = 40 :: (u ++ 41 :: rest) := by simp
 rw [e] at hd ⊢; have e2 : a + (40 :: u ++ [41]).length = a + 1 + u.length + 1 := by simp only [List.cons_append, List.length_cons, List.length_append, List.length_nil]; omega
 rw [e2] at ht; obtain ⟨ts, f, g, i1, i2⟩ := aAq h h32 hd ht; refine ⟨_, ts, i1, trivial, fun n m hn hm => ?_⟩; obtain ⟨m', j1, j2⟩ := i2 n m hn hm; refine ⟨m', j1, ?_⟩; unfold fT aE; rw [if_neg (by simp [QS.next, QS.peek]), if_pos (bI _ _ _ _ _ _)]; exact j2
theorem aFZ {H : Tkn -> Prop} (h : Rds T (fE T (d + 1)) gK H u x) (h32 : d + 1 <= 32) : Rds T (fT T d) aK pG ([33, 40] ++ u ++ [41]) (.of 3 [x] []) := fun a rest ts' hd he ht hf => by
 have e : [33, 40] ++ u ++ [41] ++ rest = 33 :: 40 :: (u ++ 41 :: rest) := by simp
 rw [e] at hd ⊢; have e2 : a + ([33, 40] ++ u ++ [41]).length = a + 1 + 1 + u.length + 1 := by simp only [List.cons_append, List.nil_append, List.length_cons, List.length_append, List.length_nil]; omega
 rw [e2] at ht; obtain ⟨ts, f, g, i1, i2⟩ := aAq h h32 (zD (u := [33]) hd) ht; refine ⟨_, _ :: ts, jW rfl i1, trivial, fun n m hn hm => ?_⟩; rw [List.length_cons] at hn; obtain ⟨m', j1, j2⟩ := i2 n m (by omega) hm; refine ⟨m', j1, ?_⟩; unfold fT aE; rw [if_pos (bI _ _ _ _ _ _)]; simp only [QS.go, List.drop_succ_cons, List.drop_zero]; unfold uK; rw [List.cons_append, if_pos (bI _ _ _ _ _ _)]; simp only [QS.go, List.drop_succ_cons, List.drop_zero]; rw [j2]
theorem aFc (h : Rds T (fS T d) bK hdS u x) (hw : x.what = 6 ∨ x.what = 7) (hu : ∀ r, gA 61 (u ++ r) = false) : Rds T (fT T d) aK pG (33 :: u) (.of 3 [x] []) := fun a rest ts' hd he ht hf => by
 rw [List.cons_append] at hd ⊢; have e2 : a + (33 :: u).length = a + 1 + u.length := by rw [List.length_cons]; omega
 rw [e2] at ht; obtain ⟨t, ts, i1, i2, i3⟩ := h (a + 1) rest ts' (zD (u := [33]) hd) he ht (hf.mono wX); refine ⟨_, t :: ts, jW (hu _) i1, trivial, fun n m hn hm => ?_⟩; rw [List.length_cons] at hn; obtain ⟨m', j1, j2⟩ := i3 n m (by omega) hm; refine ⟨m', j1, ?_⟩; unfold fS at j2; unfold fT aE; rw [if_pos (bI _ _ _ _ _ _)]; simp only [QS.go, List.drop_succ_cons, List.drop_zero]; unfold uK; rw [List.cons_append, iR i2 (by decide), if_neg (by simp), j2]
 dsimp only
 rw [if_pos hw]
theorem cmp_T {u1 u2 : List UInt8} {x1 x2 : Xpr} {op : List UInt8} (hop : op ∈ cK) (h1 : Rds T (fS T d) bK hdS u1 x1) (h2 : Rds T (fS T d) bK hdS u2 x2) : Rds T (fT T d) aK pG (u1 ++ ((32 :: op ++ [32]) ++ u2)) (.of 4 [x1, x2] op) := fun a rest ts' hd he ht hf => by
 obtain ⟨s1, s2⟩ := aGZ hop; generalize 32 :: op ++ [32] = sep at *; rw [List.append_assoc, List.append_assoc] at hd ⊢; rw [List.length_append, List.length_append, <- Nat.add_assoc, <- Nat.add_assoc] at ht; obtain ⟨t2, ts2, i1, i2, i3⟩ := h2 _ rest ts' (zD (zD hd)) he ht (hf.mono wX); obtain ⟨f, g, k1⟩ := s1 _ _ _ i1; obtain ⟨t1, ts1, o1, o2, o3⟩ := h1 a (sep ++ (u2 ++ rest)) _ hd (s2 _) k1 (Fol.of _ (List.mem_append_left _ hop) _ _ _); have e : t1 :: (ts1 ++ ⟨4, op, .zero, f, g⟩ :: t2 :: (ts2 ++ ts')) = t1 :: ((ts1 ++ ⟨4, op, .zero, f, g⟩ :: t2 :: ts2) ++ ts') := by simp
 rw [e] at o1 o3; refine ⟨t1, _, o1, trivial, fun n m hn hm => ?_⟩; rw [List.length_append, List.length_cons, List.length_cons] at hn; obtain ⟨m1, j1, j2⟩ := o3 n m (by omega) hm; obtain ⟨m2, l1, l2⟩ := i3 n m1 (by omega) j1; refine ⟨m2, l1, ?_⟩; unfold fS at j2 l2; unfold fT aE; rw [iR o2 (by decide), if_neg (by simp), iR o2 (by decide), if_neg (by simp), j2]
 dsimp only
 rw [if_pos ⟨rfl, hop⟩]; simp only [QS.go, List.drop_succ_cons, List.drop_zero]; rw [l2]
 rfl
theorem aAr {w : Int} {l : List Xpr} (h : 1 < l.length) : Xpr.many w l = .of w l [] := by
 match l, h with
 | _ :: _ :: _, _ => rfl
theorem and_B {H : Tkn -> Prop} {l : List (List UInt8 × Xpr)} (h1 : 1 < l.length) (h : ∀ p ∈ l, Rds T (fT T d) aK H p.1 p.2) : Rds T (fB T d) iK H (Lib.join (l.map Prod.fst) [32, 38, 38, 32]) (.of 2 (l.map Prod.snd) []) := fun a rest ts' hd he ht hf => by
 have hl := cH (good := iK) (good' := aK) (sep := 32 :: [38, 38] ++ [32]) (jS (.inl rfl)) (by decide) aCh (by decide) l (fun e => by subst e; simp at h1) h; obtain ⟨t, ts, i1, i2, i3⟩ := hl a rest ts' hd he ht hf; refine ⟨t, ts, i1, i2, fun n m hn hm => ?_⟩; obtain ⟨m', j1, j2⟩ := i3 n m hn hm; refine ⟨m', j1, ?_⟩; unfold fT at j2
 dsimp only at j2
 unfold fB lM; rw [j2]
 dsimp only
 rw [aAr (by simpa using h1)]
theorem or_E {H : Tkn -> Prop} {l : List (List UInt8 × Xpr)} (h1 : 1 < l.length) (h : ∀ p ∈ l, Rds T (fB T d) iK H p.1 p.2) : Rds T (fE T d) gK H (Lib.join (l.map Prod.fst) [32, 124, 124, 32]) (.of 1 (l.map Prod.snd) []) := fun a rest ts' hd he ht hf => by
 have hl := cH (good := gK) (good' := iK) (sep := 32 :: [124, 124] ++ [32]) (jS (.inr rfl)) (by decide) aCg (by decide) l (fun e => by subst e; simp at h1) h; obtain ⟨t, ts, i1, i2, i3⟩ := hl a rest ts' hd he ht hf; refine ⟨t, ts, i1, i2, fun n m hn hm => ?_⟩; obtain ⟨m', j1, j2⟩ := i3 n m hn hm; refine ⟨m', j1, ?_⟩; unfold fB at j2
 dsimp only at j2
 unfold fE jH; rw [j2]
 dsimp only
 rw [aAr (by simpa using h1)]
theorem aHa {op : List UInt8} (hop : op ∈ kM) (h32 : d + 1 <= 32) {l : List (List UInt8 × Xpr)} (h1 : l ≠ []) (h : ∀ p ∈ l, Rds T (fS T (d + 1)) bK hdS p.1 p.2) : Rds T (fS T d) bK hdS (op ++ 40 :: Lib.join (l.map Prod.fst) [44] ++ [41]) (.of 7 (l.map Prod.snd) op) := fun a rest ts' hd he ht hf => by
 have hl := cH (good := [[41]]) (good' := bK) (sep := [44]) kW (by decide) (by decide) (by decide) l h1 h; generalize Lib.join (l.map Prod.fst) [44] = J at hd ht hl ⊢; have e : op ++ 40 :: J ++ [41] ++ rest = op ++ ([40] ++ (J ++ 41 :: rest)) := by simp
 rw [e] at hd ⊢; have e2 : a + (op ++ 40 :: J ++ [41]).length = a + op.length + 1 + J.length + 1 := by simp only [LN]; omega
 rw [e2] at ht; obtain ⟨t, ts, i1, i2, i3⟩ := hl _ (41 :: rest) _ (zD (zD hd)) rfl (jF (c := 41) (by decide) ht) (Fol.of _ (by decide) _ _ _); rw [show ([40] : List UInt8).length = 1 from rfl] at i1 i3
 have hlow : op.all aCU = true /\ op ≠ [] /\ op ≠ jM /\ ¬ (op = tK ∨ op = mI) := by
  simp only [kM, List.mem_cons, List.not_mem_nil, or_false] at hop; rcases hop with rfl | rfl | rfl | rfl | rfl <;> decide
 have ht0 := fO (a := a) hlow.1 hlow.2.1 (fun c s hc => by injection hc with hc _; subst hc; rfl) (jF (c := 40) (by decide) i1); refine ⟨⟨1, op, .zero, a, a + op.length⟩, ⟨4, [40], .zero, a + op.length, a + op.length + 1⟩ :: t :: (ts ++ [⟨4, [41], .zero, a + op.length + 1 + J.length, a + op.length + 1 + J.length + 1⟩]), by simpa using ht0, .inl (show (1 : Nat) ≠ 4 by decide), fun n m hn hm => ?_⟩; simp only [LN] at hn
 match n, hn with
 | n + 1, hn =>
  obtain ⟨m', j1, j2⟩ := i3 n (max m (d + 1)) (by omega) (by omega); refine ⟨m', j1, ?_⟩; unfold fS iB; simp only [Nat.reduceEqDiff, if_false, if_true]; unfold zE; rw [if_neg hlow.2.2.1, if_neg hlow.2.2.2, if_pos ⟨hop, by simp [QS.go, QS.next, QS.peek]⟩]; simp only [QS.go, List.cons_append, List.drop_succ_cons, List.drop_zero]; rw [iR i2 (by decide), if_neg (by simp), List.append_assoc]; simp only [List.cons_append, List.nil_append]; have e3 : (tE T (n + 1)).2 (d + 1) = fS T (d + 1) n := rfl
  dsimp only at j2
  rw [e3, j2]
  rfl
theorem lit_S {v : Vlu} (hv : v.lit = true) (h8 : v.l.isR 8 = true /\ v.m.isR 9 = true) : Rds T (fS T d) bK hdS v.text (.lit v) := fun a rest ts' hd he ht hf => by
 obtain ⟨kind, b, n, s, l, m⟩ := v; simp only [Vlu.lit, Bool.and_eq_true, Bool.or_eq_true, decide_eq_true_eq, Bool.not_eq_true', List.isEmpty_iff] at hv; obtain ⟨⟨⟨⟨⟨⟨⟨k1, k2⟩, k3⟩, k4⟩, k5⟩, k6⟩, k7⟩, k8⟩ := hv
 have hl : l = .rows 8 [] := by
  cases l with
  | leaf v => exact absurd h8.1 (by simp [Cl.isR])
  | rows k l =>
   have e8 : k = 8 := by simpa [Cl.isR] using h8.1
   have e0 : l = [] := List.length_eq_zero_iff.1 (by simp only [Cl.len] at k6; omega); rw [e8, e0]
 have hm : m = .rows 9 [] := by
  cases m with
  | leaf v => exact absurd h8.2 (by simp [Cl.isR])
  | rows k l =>
   have e8 : k = 9 := by simpa [Cl.isR] using h8.2
   have e0 : l = [] := List.length_eq_zero_iff.1 (by simp only [Cl.len] at k6; omega); rw [e8, e0]
 subst hl hm; obtain ⟨g1, g2, g3⟩ := xH he
 by_cases c0 : kind = 0
 ·subst c0; obtain rfl : b = false := k3.resolve_left (by decide); obtain rfl : n = .zero := k4.resolve_left (by decide); obtain rfl : s = [] := k5.resolve_left (by decide); exact ⟨_, [], fO (w := jM) (by decide) (by decide) g3 ht, .inl (show (1 : Nat) ≠ 4 by decide), fun n m _ hm => ⟨m, hm, rfl⟩⟩
 by_cases c1 : kind = 1
 ·subst c1; obtain rfl : n = .zero := k4.resolve_left (by decide); obtain rfl : s = [] := k5.resolve_left (by decide)
  cases b
  ·exact ⟨_, [], fO (w := mI) (by decide) (by decide) g3 ht, .inl (show (1 : Nat) ≠ 4 by decide), fun n m _ hm => ⟨m, hm, rfl⟩⟩
  ·exact ⟨_, [], fO (w := tK) (by decide) (by decide) g3 ht, .inl (show (1 : Nat) ≠ 4 by decide), fun n m _ hm => ⟨m, hm, rfl⟩⟩
 by_cases c2 : kind = 2
 ·subst c2; obtain rfl : b = false := k3.resolve_left (by decide); obtain rfl : s = [] := k5.resolve_left (by decide); exact ⟨_, [], aEJ k7 g1 ht, .inl (by simp), fun n m _ hm => ⟨m, hm, rfl⟩⟩
 ·obtain rfl : kind = 3 := by omega
  obtain rfl : b = false := k3.resolve_left (by decide); obtain rfl : n = .zero := k4.resolve_left (by decide); exact ⟨_, [], dU k8 ht, .inl (by simp), fun n m _ hm => ⟨m, hm, rfl⟩⟩
end
end
end Go.Proofs.YtbggkiebfflcdaaGreatDoor
