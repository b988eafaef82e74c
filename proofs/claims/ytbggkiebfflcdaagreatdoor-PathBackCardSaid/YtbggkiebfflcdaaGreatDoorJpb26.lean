/-
  Joined by join.py: Ig Ih Ii Ew
-/
import Derived.Test.YtbggkiebfflcdaaGreatDoorJpb25
set_option maxRecDepth 100000
set_option maxHeartbeats 32000000
namespace Go.Proofs.YtbggkiebfflcdaaGreatDoor
section
open Go.RowKit Go.Shelf
theorem aGh : (Tryz.prog.info? 54).map (fun i => (i.zero, i.size, i.bytes)) = some (some (.agg #[.bool false, .slice none 0 0]), 2, 32) := by kernel_rfl
theorem aGi : (Tryz.prog.info? 50).map (fun i => (i.zero, i.size, i.bytes)) = some (some (.agg zs.toArray), 10, 88) := by kernel_rfl
theorem aGj : (Tryz.prog.info? 109).map (fun i => (i.zero, i.size, i.bytes)) = some (some (.agg zx.toArray), 13, 192) := by kernel_rfl
theorem aGk : (Tryz.prog.info? 25).map (·.size) = some 2 := by kernel_rfl
def OuE (f : List Xpr) : Prop := ∀ (w : World) (p : Nat) (v : Value), p <= w.heap.size -> CAt w (fun g => g < p) (.rows 13 (f.map Xpr.cells)) v -> Calls Tryz.prog 31 #[v] w fun e w' => ∃ v', e = .returned v' /\ CAt w' (fun g => w.heap.size <= g ∨ g < p) (.rows 13 (f.map Xpr.cells)) v' /\ Fr [] w w'
def OuQ (q : Qry) : Prop := ∀ (w : World) (p : Nat) (cs : List Value), p <= w.heap.size -> fA w (fun g => g < p) q.cells cs -> Calls Tryz.prog 15 #[.agg cs.toArray] w fun e w' => ∃ ds, e = .returned (.agg ds.toArray) /\ fA w' (fun g => w.heap.size <= g ∨ g < p) q.cells ds /\ Fr [] w w'
def aHi (p : Nat) (w : World) (q : Qry) (A : Option Addr) (c ln : Nat) (j : Nat) (v4 : Value) (wr : World) : Prop :=
 ∃ (k : Nat) (v : Value), k + j = ln /\ v4 = .int .i64 (k : Int) /\ Blk wr w.heap.size 31 [.bool q.rel, .slice A ln c] /\ Blk wr (w.heap.size + 1) 25 [.bool false, .slice none 0 0] /\ Blk wr (w.heap.size + 1 + 1) 25 [.bool q.rel, v] /\
  bG wr p (w.heap.size + 3) 54 2 v ((q.l.take k).map Sgm.cells) /\ Fr [] w wr
def aHj (p : Nat) (wo : World) (x : Sgm) (dp : Bool) (m : Nat) (j : Nat) (v6 : Value) (wi : World) : Prop :=
 ∃ (i : Nat) (v5 : Value), i + j = m /\ v6 = .int .i64 (i : Int) /\ Blk wi wo.heap.size 54 [.bool dp, v5] /\ bG wi p (wo.heap.size + 1) 50 10 v5 ((x.l.take i).map Slr.cells) /\ Fr [] wo wi
theorem mU {w : World} {p : Nat} {q : Qry} {cs : List Value} (hpw : p <= w.heap.size) (h : fA w (fun g => g < p) q.cells cs) (hw : q.wt <= 1000000) (hE : ∀ x ∈ q.l, ∀ y ∈ x.l, OuE y.f) :
  Calls Tryz.prog 15 #[.agg cs.toArray] w fun e w' => ∃ ds, e = .returned (.agg ds.toArray) /\ fA w' (fun g => w.heap.size <= g ∨ g < p) q.cells ds /\ Fr [] w w' := by
 refine cA fun R HQ => ?_; obtain ⟨A, c, rfl, hc⟩ := aC h; have hwe := q.wt_eq; have hll := sG q.l; obtain ⟨A', c', g, off, hv, hA, hrow⟩ := hc.row; injection hv with e1 e2 e3; subst e1 e3; have hml : (q.l.map Sgm.cells).length = q.l.length := by simp
 rw [hml] at hA; obtain ⟨ln, hln⟩ : ∃ ln, q.l.length = ln := ⟨_, rfl⟩; have HLN := lh hln; rw [hln] at hA ⊢; have HROW := lh hrow; have HA := lh hA; have HEE := lh hE; obtain ⟨ig, hig, hzg', hszg', hbyg⟩ := info_parts aGh; obtain ⟨iu, his, hzs', hszs', hbys⟩ := info_parts aGi; have HLB : Hid (ln <= 1000000) := lh (by omega); have HWT := lh hw; have HPW := lh hpw; clear h hc hrow hA hE e2 hwe hll hml hln hw hpw
 go_enter Tryz.func15, Tryz.ntmps15
 go_upto_region 2 with fail
 have hf0 : Fr [] w (((w.alloc (.cells #[.bool q.rel, .slice A ln c] 31)).alloc (.cells #[.bool false, .slice none 0 0] 25)).alloc (.cells #[.bool q.rel, .slice none 0 0] 25)) := (((Fr.refl [] w).alloc _).alloc _).alloc _; have hb0 := ((Blk.new w 31 [.bool q.rel, .slice A ln c]).alloc (.cells #[.bool false, .slice none 0 0] 25)).alloc (.cells #[.bool q.rel, .slice none 0 0] 25); have hb1 := (Blk.new (w.alloc (.cells #[.bool q.rel, .slice A ln c] 31)) 25 [.bool false, .slice none 0 0]).alloc (.cells #[.bool q.rel, .slice none 0 0] 25); have hb2 := Blk.new ((w.alloc (.cells #[.bool q.rel, .slice A ln c] 31)).alloc (.cells #[.bool false, .slice none 0 0] 25)) 25 [.bool q.rel, .slice none 0 0]; rw [show (w.alloc (.cells #[.bool q.rel, .slice A ln c] 31)).heap.size = w.heap.size + 1 by simp] at hb1; rw [show ((w.alloc (.cells #[.bool q.rel, .slice A ln c] 31)).alloc (.cells #[.bool false, .slice none 0 0] 25)).heap.size = w.heap.size + 1 + 1 by simp] at hb2; generalize ((w.alloc (.cells #[.bool q.rel, .slice A ln c] 31)).alloc (.cells #[.bool false, .slice none 0 0] 25)).alloc (.cells #[.bool q.rel, .slice none 0 0] 25) = w0 at *; have HB0 := lh hb0; have HB1 := lh hb1; have HB2 := lh hb2; have HF0 := lh hf0; clear hb0 hb1 hb2 hf0; go_wp2_with fail
 go_loopg [4] ln (fun j v4 wr => aHi p w q A c ln j v4 wr)
 case atStart => exact ⟨0, .slice none 0 0, by omega, rfl, HB0.out, HB1.out, HB2.out, bG.nil _ _ _ _ _, HF0.out⟩
 case round =>
  obtain ⟨wo, rfl⟩ := nm (wr); obtain ⟨k, v, hk, rfl, hB0, hB1, hB2, hO, hF⟩ := hrel; have HB0r := lh hB0; have HB1r := lh hB1; have HB2r := lh hB2; have HO := lh hO; have HF := lh hF; have b0 := hB0.at_ (i := 0) rfl; have b1 := hB0.at_ (i := 1) rfl; clear HB0 HB1 HB2 HF0 hB0 hB1 hB2 hO hF
  by_cases hkl : k < ln
  ·obtain ⟨x, hx⟩ : ∃ x, q.l[k]? = some x := gx (by rw [HLN.out]; exact hkl); obtain ⟨rfl, hNg⟩ := HA.out (by have := HLN.out; omega); obtain ⟨_, ds, hds, hcell⟩ := HROW.out k x.cells (by rw [List.getElem?_map, hx]; rfl); obtain ⟨A5, c5, rfl, hc5⟩ := iF hds
   have hlt0 : ∀ {i : Nat} {u : Value}, w.cell? ⟨g, off + 2 * k + i, none⟩ = some u -> wo.cell? ⟨g, off + k * 2 + i, none⟩ = some u := fun {i u} hi => by
    rw [show off + k * 2 + i = off + 2 * k + i by rw [Nat.mul_comm]]; rw [HF.out.cell (World.block_lt_of_cell? w _ hi) (by simp)]; exact hi
   have x0 := hlt0 (hcell 0 _ rfl); have x1 := hlt0 (hcell 1 _ rfl); rw [Nat.add_zero] at x0; have hl0 : 0 < ln := by omega
   have HX := lh hx; have HDS := lh hds; have HC5 := lh hc5; obtain ⟨m, hm⟩ : ∃ m, x.l.length = m := ⟨_, rfl⟩; obtain ⟨dp, hdp⟩ : ∃ dp, x.deep = dp := ⟨_, rfl⟩; have HM := lh hm; have HDP := lh hdp; have HMB : Hid (m <= 1000000) := lh (by have h1 := rC (List.mem_of_getElem? hx); have h2 := zF x.l; have h3 := x.wt_eq; have h4 := q.wt_eq; have h5 := HWT.out; omega); rw [hm] at x1 HC5; rw [hdp] at x0; clear hds hcell hc5 hlt0 hx hm hdp HDS; go_upto_region 6 with fail
   have hfa : Fr [] wo (wo.alloc (.cells #[.bool dp, .slice none 0 0] 54)) := (Fr.refl [] wo).alloc _; have hba := Blk.new wo 54 [.bool dp, .slice none 0 0]; generalize wo.alloc (.cells #[.bool dp, .slice none 0 0] 54) = w1 at *; have HFA := lh hfa; have HBA := lh hba; clear hfa hba; go_wp2_with fail
   go_loopg [6] m (fun j v6 wi => aHj p wo x dp m j v6 wi)
   case atStart => exact ⟨0, .slice none 0 0, by omega, rfl, HBA.out, bG.nil _ _ _ _ _, HFA.out⟩
   case round =>
    obtain ⟨wi, rfl⟩ := nm (wr); obtain ⟨i, v5, hi, rfl, hB5, hO5, hFi⟩ := hrel; have HB5 := lh hB5; have HO5 := lh hO5; have HFi := lh hFi
    replace b0 := bA hFi b0
    replace b1 := bA hFi b1
    replace x0 := bA hFi x0
    replace x1 := bA hFi x1
    have p1 := hB5.at_ (i := 1) rfl; clear hB5 hO5 hFi
    by_cases him : i < m
    ·obtain ⟨y, hy⟩ : ∃ y, x.l[i]? = some y := gx (by rw [HM.out]; exact him); obtain ⟨A6, c6, g5, off5, hv5, hA5, hrow5⟩ := HC5.out.row; injection hv5 with e1 e2 e3; subst e1; have hml5 : (x.l.map Slr.cells).length = m := by simp [HM.out]
     obtain ⟨rfl, hNg5⟩ := hA5 (by omega); obtain ⟨_, es, hes, hcell5⟩ := hrow5 i y.cells (by rw [List.getElem?_map, hy]; rfl); obtain ⟨what, name, at_, ⟨a0, a1, a2⟩, ⟨s0, s1, s2⟩, f⟩ := y; obtain ⟨Af, cf, rfl, hcf⟩ := fG hes; simp only [Slr.what, Slr.name, Slr.at_, Slr.has, Slr.s, Slr.f] at hcell5 hcf; have HTH := lh (HEE.out x (List.mem_of_getElem? HX.out) _ (List.mem_of_getElem? hy)); simp only [Slr.f] at HTH; have hFwi : Fr [] w wi := HF.out.trans HFi.out; have HFWI := lh hFwi
     have hlt5 : ∀ {a : Nat} {u : Value}, w.cell? ⟨g5, off5 + 10 * i + a, none⟩ = some u -> wi.cell? ⟨g5, off5 + i * 10 + a, none⟩ = some u := fun {a u} h9 => by
      rw [show off5 + i * 10 + a = off5 + 10 * i + a by rw [Nat.mul_comm]]; rw [hFwi.cell (World.block_lt_of_cell? w _ h9) (by simp)]; exact h9
     have y0 := hlt5 (hcell5 0 _ rfl); have y1 := hlt5 (hcell5 1 _ rfl); have y2 := hlt5 (hcell5 2 _ rfl); have y3 := hlt5 (hcell5 3 _ rfl); have y4 := hlt5 (hcell5 4 _ rfl); have y5 := hlt5 (hcell5 5 _ rfl); have y6 := hlt5 (hcell5 6 _ rfl); have y7 := hlt5 (hcell5 7 _ rfl); have y8 := hlt5 (hcell5 8 _ rfl); have y9 := hlt5 (hcell5 9 _ rfl); rw [Nat.add_zero] at y0; have HY := lh hy; have HCF := lh hcf; have hm0 : 0 < m := by omega
     have him2 : ((x.l.take i).map Slr.cells).length = i := by simp [HM.out]; omega
     obtain ⟨Av, cv, hvv⟩ := HO5.out.slice; rw [him2] at hvv; subst hvv; have hown5 : ∀ z, (Value.slice Av i cv).ownBlock = some z -> wo.heap.size + 1 <= z /\ z < wi.heap.size := fun z hz => ⟨by obtain ⟨_, _, _, h9, _⟩ := HO5.out; exact h9 z hz, HO5.out.lt z hz⟩; have HOW := lh hown5; clear hes hcell5 hcf hlt5 hy hrow5 hA5 hml5 hFwi hown5 e2; go_upto_region 10 with fail
     have hf2 : Fr [] wi (wi.alloc (.cells #[.int .i64 what, .string ⟨name.toArray⟩, .int .i64 at_, .bool a0, .bool a1, .bool a2, .int .i64 s0, .int .i64 s1, .int .i64 s2, .slice Af f.length cf] 80)) := (Fr.refl [] wi).alloc _; have hb2 := Blk.new wi 80 [.int .i64 what, .string ⟨name.toArray⟩, .int .i64 at_, .bool a0, .bool a1, .bool a2, .int .i64 s0, .int .i64 s1, .int .i64 s2, .slice Af f.length cf]; generalize wi.alloc (.cells #[.int .i64 what, .string ⟨name.toArray⟩, .int .i64 at_, .bool a0, .bool a1, .bool a2, .int .i64 s0, .int .i64 s1, .int .i64 s2, .slice Af f.length cf] 80) = w2 at *; have hb52 := HB5.out.fr hf2; have hz2 := hf2.size; have hlt2 := hb2.lt; have hm2 := HMB.out; clear y0 y1 y2 y3 y4 y5 y6 y7 y8 y9; refine iA (fun W => Blk W wi.heap.size 80 [.int .i64 what, .string ⟨name.toArray⟩, .int .i64 at_, .bool a0, .bool a1, .bool a2, .int .i64 s0, .int .i64 s1, .int .i64 s2, .slice Af f.length cf] /\ Blk W wo.heap.size 54 [.bool dp, .slice Av i cv]) [0, 1, 2, 3, 4, 5, 6, 7, 8, 9, 10, 11, 12, 13, 15, 18] (by kernel_rfl) ?_; refine tks [0, 1, 2, 3, 4, 5, 6, 7, 8, 9, 10, 11, 12, 13] ?_
     iterate 14 (refine tk rfl rfl ⟨hb2, hb52⟩ rfl (fun _ hW => by (obtain ⟨k0, k1⟩ := hW; have z0 := k0.at_ (i := 0) rfl; have z1 := k0.at_ (i := 1) rfl; have z2 := k0.at_ (i := 2) rfl; have z3 := k0.at_ (i := 3) rfl; have z4 := k0.at_ (i := 4) rfl; have z5 := k0.at_ (i := 5) rfl; have z6 := k0.at_ (i := 6) rfl; have z7 := k0.at_ (i := 7) rfl; have z8 := k0.at_ (i := 8) rfl; have z9 := k0.at_ (i := 9) rfl; have z10 := k1.at_ (i := 1) rfl; go_simp) <;> with_reducible rfl) ?_; simp only [nrm])
     refine tke ?_; refine sp 14 rfl rfl rfl fun K hK => ?_; have hfd : Fr [] w2 w2.drew := (Fr.refl [] w2).drew; refine mA (l := [.tmp 58]) rfl [.slice Af f.length cf] rfl (fun W => by kernel_rfl) ((HTH.out w2.drew p _ (by have := HPW.out; have := HFWI.out.size; have := hf2.size; have := hfd.size; omega) ((HCF.out.fr HFWI.out).fr (hf2.trans hfd))).mono ?_); rintro e w3 ⟨v', rfl, hcv, hf3⟩; have hf23 : Fr [] w2 w3 := hfd.trans hf3; refine ⟨_, rfl, hK _ _ (fun _ => ⟨hb2.fr hf23, hb52.fr hf23⟩) ?_⟩; simp only [nrm]; clear hK; obtain ⟨Ae, ce, rfl, -⟩ := hcv.slice; have hfl : (f.map Xpr.cells).length = f.length := by simp
     rw [hfl] at hcv ⊢; have hb3 := hb2.fr hf23; have hb53 := hb52.fr hf23; have hfi3 : Fr [] wi w3 := hf2.trans hf23; have HO3 := lh (HO5.out.fr hfi3); have hz3 := hfi3.size; have HCV := lh hcv; have HF3 := lh (HFi.out.trans hfi3); have hs23 : w2.drew.heap.size = w2.heap.size := rfl; clear hcv hfd hf3 hf23 hb2 hb52 hf2; refine tks [15] ?_; refine tk rfl rfl ⟨hb3, hb53⟩ rfl (fun _ hW => by (obtain ⟨k0, k1⟩ := hW; go_simp) <;> with_reducible rfl) ?_; simp only [nrm]; refine tke ?_; refine sp 16 rfl rfl rfl fun K hK => ?_; refine oD (.tmp 60) rfl Tryz.underlying52 his hzs' [.int .i64 what, .string ⟨name.toArray⟩, .int .i64 at_, .bool a0, .bool a1, .bool a2, .int .i64 s0, .int .i64 s1, .int .i64 s2, .slice Ae f.length ce] rfl hszs' rfl (by simp) (by simp) (hK _ _ (fun _ => ⟨hb3.alloc _, hb53.alloc _⟩) ?_); simp only [nrm]; clear hK; have hb4 := Blk.new w3 50 [.int .i64 what, .string ⟨name.toArray⟩, .int .i64 at_, .bool a0, .bool a1, .bool a2, .int .i64 s0, .int .i64 s1, .int .i64 s2, .slice Ae f.length ce]; have hf4 : Fr [] w3 (w3.alloc (.cells #[.int .i64 what, .string ⟨name.toArray⟩, .int .i64 at_, .bool a0, .bool a1, .bool a2, .int .i64 s0, .int .i64 s1, .int .i64 s2, .slice Ae f.length ce] 50)) := (Fr.refl [] w3).alloc _; have hz4 : (w3.alloc (.cells #[.int .i64 what, .string ⟨name.toArray⟩, .int .i64 at_, .bool a0, .bool a1, .bool a2, .int .i64 s0, .int .i64 s1, .int .i64 s2, .slice Ae f.length ce] 50)).heap.size = w3.heap.size + 1 := by simp
     generalize w3.alloc (.cells #[.int .i64 what, .string ⟨name.toArray⟩, .int .i64 at_, .bool a0, .bool a1, .bool a2, .int .i64 s0, .int .i64 s1, .int .i64 s2, .slice Ae f.length ce] 50) = w4 at *; have hb34 := hb3.fr hf4; have hb54 := hb53.fr hf4; obtain ⟨css, hcss, how6, hge6, -⟩ := HO3.out; rw [him2] at how6
     have hrw : fA w3 (fun z => (wo.heap.size + 1 <= z ∨ z < p) /\ (Value.slice Av i cv).ownBlock ≠ some z) (Slr.cells (.mk what name at_ (a0, a1, a2) (s0, s1, s2) f)) [.int .i64 what, .string ⟨name.toArray⟩, .int .i64 at_, .bool a0, .bool a1, .bool a2, .int .i64 s0, .int .i64 s1, .int .i64 s2, .slice Ae f.length ce] := by
      refine .tl rfl (.tl rfl (.tl rfl (.tl rfl (.tl rfl (.tl rfl (.tl rfl (.tl rfl (.tl rfl (.cons ?_ (.nil _ _)))))))))); rw [pB]; exact HCV.out.mono fun z hz => ⟨by have := HBA.out.lt; have := HFA.out.size; have := HFi.out.size; omega, fun e => by have := HOW.out z e; have := HPW.out; have := HF.out.size; omega⟩
     have HRWW := lh hrw; refine sp 17 rfl rfl rfl fun K hK => ?_; refine jB (.tmp 46) (.tmp 61) rfl 50 10 88 Tryz.underlying52 his hzs' hszs' hbys rfl (by omega) (.slice Av i cv) i css.flatten rfl (vB how6 hf4 (by simp)) ⟨w3.heap.size, 0, none⟩ 1 1 [.int .i64 what, .string ⟨name.toArray⟩, .int .i64 at_, .bool a0, .bool a1, .bool a2, .int .i64 s0, .int .i64 s1, .int .i64 s2, .slice Ae f.length ce] rfl rfl (fun j u hu => by rw [Addr.add_mid, Nat.zero_add]; exact hb4.at_ hu) (HRWW.out.one) (by omega) (by unfold maxLen; have := HMB.out; omega) (by have := HMB.out; omega) (w3.heap.size + 1) hz4 fun g7 cap w7 ho7 hf7 hat7 hlt7 => hK _ _ (fun _ => ⟨hb34.fr hf7 (fun hm => by have := HOW.out _ (by simpa using hm); omega), hb54.fr hf7 (fun hm => by have := HOW.out _ (by simpa using hm); omega)⟩) ?_; simp only [nrm]; clear hK; have hlo3 : wo.heap.size + 1 <= w3.heap.size := by have := HB5.out.lt; omega
     have HO7 := lh (bG.app (row := Slr.cells (.mk what name at_ (a0, a1, a2) (s0, s1, s2) f)) (l := (x.l.take i).map Slr.cells) (g7 := g7) (cap := cap) HO3.out rfl hf4 hz4 hlo3 rfl HRWW.out hf7 (by rw [him2]; exact ho7) (by rw [him2]; exact how6) hat7); have hb57 := hb54.fr hf7 (fun hm => by have := HOW.out _ (by simpa using hm); omega); have hb37 := hb34.fr hf7 (fun hm => by have := HOW.out _ (by simpa using hm); omega); have HF7 := lh ((HF3.out.trans hf4).trans hf7 (fun z hz => .inr (by have := HOW.out z (by simpa using hz); omega))); refine tks [18] ?_; refine tk rfl rfl ⟨hb37, hb57⟩ rfl (fun _ hW => by (obtain ⟨k0, k1⟩ := hW; go_simp) <;> with_reducible rfl) ?_; simp only [nrm]; refine tke ?_; refine sC (j := 19) none rfl rfl (by kernel_rfl) rfl fun K hK => ?_; have q1 := hb57.at_ (i := 1) rfl; have qf := hb57.free; refine kC (w' := w7.setCell ⟨wo.heap.size, 1, none⟩ (.slice (some ⟨g7, 0, none⟩) (i + 1) cap)) (by go_simp) (hK _ _ (fun h => absurd h (by decide +kernel)) ?_); simp only [Act.put]; clear hK; refine wd ?_ _; have hf9 : Fr [wo.heap.size] w7 (w7.setCell ⟨wo.heap.size, 1, none⟩ (.slice (some ⟨g7, 0, none⟩) (i + 1) cap)) := (Fr.refl [wo.heap.size] w7).setCell (.inl (by simp)) _; have hb59 : Blk (w7.setCell ⟨wo.heap.size, 1, none⟩ (.slice (some ⟨g7, 0, none⟩) (i + 1) cap)) wo.heap.size 54 [.bool dp, .slice (some ⟨g7, 0, none⟩) (i + 1) cap] := hb57.set_ 1 _; generalize w7.setCell ⟨wo.heap.size, 1, none⟩ (.slice (some ⟨g7, 0, none⟩) (i + 1) cap) = w9 at *; have HO9 := lh (HO7.out.fr hf9 (fun z hz => .inl (by have := HPW.out; have := HF.out.size; simp at hz; omega))); have HF9 := lh (HF7.out.trans hf9 (fun z hz => .inr (by simp at hz; omega))); have HB9 := lh hb59
     have htk : x.l.take (i + 1) = x.l.take i ++ [.mk what name at_ (a0, a1, a2) (s0, s1, s2) f] := by
      obtain ⟨hk', hx'⟩ := List.getElem?_eq_some_iff.1 HY.out; rw [List.take_succ_eq_append_getElem hk', hx']
     have HTK := lh htk; clear hf9 hb59 q1 qf hb57 hb37 hb54 hb34 how6 hge6 ho7 hf7 hat7 hlt7 hb4 hf4 hz4 htk; go_wp2_with fail
     go_roundg (m - (i + 1))
     case measure => omega
     case rel => exact ⟨i + 1, .slice (some ⟨g7, 0, none⟩) (i + 1) cap, by omega, by go_num, HB9.out, by rw [HTK.out, List.map_append, List.map_cons, List.map_nil]; have h9 := HO9.out; rw [him2] at h9; exact h9, HF9.out⟩
    ·obtain rfl : i = m := by omega
     clear hi him; have hti : x.l.take i = x.l := List.take_of_length_le (by rw [HM.out]; exact Nat.le_refl _); rw [hti] at HO5; have hxl5 : (x.l.map Slr.cells).length = i := by simp [HM.out]
     obtain ⟨Av, cv, hvv⟩ := HO5.out.slice; rw [hxl5] at hvv; subst hvv; have hcat5 := HO5.out.cat (by decide); obtain ⟨css, hcss, how6, hge6, -⟩ := HO.out; have hkl6 : ((q.l.take k).map Sgm.cells).length = k := by simp [HLN.out]; omega
     obtain ⟨Aw, cw, hvw⟩ := HO.out.slice; rw [hkl6] at hvw how6; subst hvw; have HWO : Hid (∀ z, (Value.slice Aw k cw).ownBlock = some z -> w.heap.size + 3 <= z /\ z < wo.heap.size) := lh fun z hz => ⟨hge6 z hz, HO.out.lt z hz⟩; have HB0i := lh (HB0r.out.fr HFi.out); have HB1i := lh (HB1r.out.fr HFi.out); have HB2i := lh (HB2r.out.fr HFi.out); have HOi := lh (HO.out.fr HFi.out); have HFWi := lh (HF.out.trans HFi.out); have hzi := HFi.out.size; have hlb := HLB.out; have hb51 := HB5.out.at_ (i := 0) rfl
     have hrow5 : fA wi (fun z => (w.heap.size + 3 <= z ∨ z < p) /\ (Value.slice Aw k cw).ownBlock ≠ some z) x.cells [.bool dp, .slice Av i cv] := by
      obtain ⟨dp', sl⟩ := x; have hd9 := HDP.out; simp only [Sgm.deep] at hd9; subst hd9; refine .tl rfl (.cons ?_ (.nil _ _)); rw [rE]; have h9 := hcat5; simp only [Sgm.l] at h9; exact h9.mono fun z hz => ⟨by have := HB2r.out.lt; omega, fun e => by have := HWO.out z e; have := HPW.out; omega⟩
     have HR5 := lh hrow5; have c31 := HB2i.out.at_ (i := 1) rfl; have c51 := HB5.out.at_ (i := 1) rfl; clear hcat5 hti hxl5 hrow5; go_upto_region 11 with fail
     refine wp_region_lit ?_
     iterate 3 (refine rn rfl (by go_simp <;> with_reducible rfl) ?_; simp only [nrm])
     refine lp fun K hK => ?_; refine oD (.tmp 66) rfl Tryz.underlying23 hig hzg' [.bool dp, .slice Av i cv] rfl hszg' rfl (by simp) (by simp) (hK _ _ ?_); simp only [nrm]; clear hK; have hb4 := Blk.new wi 54 [.bool dp, .slice Av i cv]; have hf4 : Fr [] wi (wi.alloc (.cells #[.bool dp, .slice Av i cv] 54)) := (Fr.refl [] wi).alloc _; have hz4 : (wi.alloc (.cells #[.bool dp, .slice Av i cv] 54)).heap.size = wi.heap.size + 1 := by simp
     generalize wi.alloc (.cells #[.bool dp, .slice Av i cv] 54) = w4 at *; have how7 := vB how6 HFi.out (by simp); refine lp fun K hK => ?_; refine jB (.tmp 65) (.tmp 67) rfl 54 2 32 Tryz.underlying23 hig hzg' hszg' hbyg rfl (by omega) (.slice Aw k cw) k css.flatten rfl (vB how7 hf4 (by simp)) ⟨wi.heap.size, 0, none⟩ 1 1 [.bool dp, .slice Av i cv] rfl rfl (fun j u hu => by rw [Addr.add_mid, Nat.zero_add]; exact hb4.at_ hu) (HR5.out.one) (by omega) (by unfold maxLen; omega) (by omega) (wi.heap.size + 1) hz4 fun g7 cap w7 ho7 hf7 hat7 hlt7 => hK _ _ ?_; simp only [nrm]; clear hK; have hlo3 : w.heap.size + 3 <= wi.heap.size := by have := HB2r.out.lt; have := HB5.out.lt; omega
     have HO7 := lh (bG.app (row := Sgm.cells x) (l := (q.l.take k).map Sgm.cells) (g7 := g7) (cap := cap) HOi.out rfl hf4 hz4 hlo3 (qJ x) HR5.out hf7 (by rw [hkl6]; exact ho7) (by rw [hkl6]; exact how7) hat7); have hnm : ∀ z, z ∈ (Value.slice Aw k cw).ownBlock.toList -> w.heap.size + 3 <= z := fun z hz => (HWO.out z (by simpa using hz)).1; have HB07 := lh ((HB0i.out.fr hf4).fr hf7 (fun hm => by have := hnm _ hm; omega)); have HB17 := lh ((HB1i.out.fr hf4).fr hf7 (fun hm => by have := hnm _ hm; omega)); have hb27 := (HB2i.out.fr hf4).fr hf7 (fun hm => by have := hnm _ hm; omega); have HF7 := lh ((HFWi.out.trans hf4).trans hf7 (fun z hz => .inr (by have := hnm z hz; omega))); have q1 := hb27.at_ (i := 1) rfl; have qf := hb27.free; refine rn rfl (by go_simp <;> with_reducible rfl) ?_; simp only [nrm]; refine lp fun K hK => ?_; refine kC (w' := w7.setCell ⟨w.heap.size + 1 + 1, 1, none⟩ (.slice (some ⟨g7, 0, none⟩) (k + 1) cap)) (by go_simp) (hK _ _ ?_); simp only [Act.put]; clear hK; refine wpList_nil ?_; have hf9 : Fr [w.heap.size + 1 + 1] w7 (w7.setCell ⟨w.heap.size + 1 + 1, 1, none⟩ (.slice (some ⟨g7, 0, none⟩) (k + 1) cap)) := (Fr.refl [w.heap.size + 1 + 1] w7).setCell (.inl (by simp)) _; have hb29 : Blk (w7.setCell ⟨w.heap.size + 1 + 1, 1, none⟩ (.slice (some ⟨g7, 0, none⟩) (k + 1) cap)) (w.heap.size + 1 + 1) 25 [.bool q.rel, .slice (some ⟨g7, 0, none⟩) (k + 1) cap] := hb27.set_ 1 _; generalize w7.setCell ⟨w.heap.size + 1 + 1, 1, none⟩ (.slice (some ⟨g7, 0, none⟩) (k + 1) cap) = w9 at *; have HO9 := lh (HO7.out.fr hf9 (fun z hz => .inl (by have := HPW.out; have := HF.out.size; simp at hz; omega))); have HF9 := lh (HF7.out.trans hf9 (fun z hz => .inr (by simp at hz; omega))); have HB09 := lh (HB07.out.fr hf9 (by simp; omega)); have HB19 := lh (HB17.out.fr hf9); have HB29 := lh hb29
     have htk : q.l.take (k + 1) = q.l.take k ++ [x] := by
      obtain ⟨hk', hx'⟩ := List.getElem?_eq_some_iff.1 HX.out; rw [List.take_succ_eq_append_getElem hk', hx']
     have HTK := lh htk; clear hf9 hb29 q1 qf hb27 how6 how7 hge6 ho7 hf7 hat7 hlt7 hb4 hf4 hz4 htk c31 c51 hb51 b0 b1 x0 x1 p1 hnm; go_wp2_with fail
     go_roundg (ln - (k + 1))
     case measure => omega
     case rel => exact ⟨k + 1, .slice (some ⟨g7, 0, none⟩) (k + 1) cap, by omega, by go_num, HB09.out, HB19.out, HB29.out, by rw [HTK.out, List.map_append, List.map_cons, List.map_nil]; have h9 := HO9.out; rw [hkl6] at h9; exact h9, HF9.out⟩
  ·obtain rfl : k = ln := by omega
   have htk : q.l.take k = q.l := List.take_of_length_le (by rw [HLN.out]; exact Nat.le_refl _); have HQC := lh (HO.out.cat (by decide)); rw [htk] at HQC; have hml : (q.l.map Sgm.cells).length = k := by simp [HLN.out]
   obtain ⟨Av, cv, hvv, -⟩ := HQC.out.slice; rw [hml] at hvv; subst hvv; have c0 := HB2r.out.at_ (i := 0) rfl; have c1 := HB2r.out.at_ (i := 1) rfl; have d0 := HB1r.out.at_ (i := 0) rfl; have d1 := HB1r.out.at_ (i := 1) rfl; have df := HB1r.out.free; clear htk hkl hk; go_wp2_with fail; have hf9 : Fr [w.heap.size + 1] wo ((wo.setCell ⟨w.heap.size + 1, 0, none⟩ (.bool q.rel)).setCell ⟨w.heap.size + 1, 1, none⟩ (.slice Av k cv)) := ((Fr.refl [w.heap.size + 1] wo).setCell (.inl (by simp)) _).setCell (.inl (by simp)) _; have hb9 := (HB1r.out.set_ 0 (.bool q.rel)).set_ 1 (.slice Av k cv); refine mL rfl rfl hb9 Tryz.underlying25 rfl aGk (HQ.out _ _ ⟨_, rfl, ?_, HF.out.trans hf9 (fun z hz => .inr (by simp at hz; omega))⟩); obtain ⟨rel, l⟩ := q; refine .tl rfl (.cons ?_ (.nil _ _)); rw [qC]; have h9 := HQC.out; simp only [Qry.l] at h9; exact (h9.fr hf9 (fun z hz => by have := HPW.out; simp; omega)).mono fun z hz => by omega
def aHk (p : Nat) (w : World) (f : List Xpr) (ln : Nat) (j : Nat) (v3 v4 : Value) (wr : World) : Prop :=
 ∃ k : Nat, k + j = ln /\ v4 = .int .i64 (k : Int) /\ bG wr p w.heap.size 109 13 v3 ((f.take k).map Xpr.cells) /\ Fr [] w wr
theorem kN {f : List Xpr} (hn : f.length <= 1000000) (hE : ∀ x ∈ f, OuE x.l /\ OuQ x.q) : OuE f := by
 intro w p v hpw h; refine cA fun R HQ => ?_; obtain ⟨A, c, g, off, rfl, hA, hrow⟩ := h.row; have hml : (f.map Xpr.cells).length = f.length := by simp
 rw [hml] at hA; obtain ⟨ln, hln⟩ : ∃ ln, f.length = ln := ⟨_, rfl⟩; have HLN := lh hln; rw [hln] at hA hn; have HML : Hid ((f.map Xpr.cells).length = ln) := lh (hml.trans hln); rw [HML.out]; have HROW := lh hrow; have HA := lh hA; have HEE := lh hE; have HPW := lh hpw; have HNB := lh hn; obtain ⟨ix, hix, hzx', hszx', hbyx⟩ := info_parts aGj; clear h hrow hA hE hml hln hpw hn
 go_enter Tryz.func31, Tryz.ntmps31
 go_wp2_with fail
 go_loopg [3, 4] ln (fun j v3 v4 wr => aHk p w f ln j v3 v4 wr)
 case atStart => exact ⟨0, by omega, rfl, bG.nil _ _ _ _ _, Fr.refl [] w⟩
 case round =>
  obtain ⟨wo, rfl⟩ := nm (wr); obtain ⟨k, hk, rfl, hO, hF⟩ := hrel; have HO := lh hO; have HF := lh hF; clear hO hF; have hkl6 : ((f.take k).map Xpr.cells).length = k := by have := HLN.out; simp; omega
  obtain ⟨Av, cv, hvv⟩ := HO.out.slice; rw [hkl6] at hvv; subst hvv; have HKL := lh hkl6; clear hkl6
  by_cases hkl : k < ln
  ·obtain ⟨x, hx⟩ : ∃ x, f[k]? = some x := gx (by rw [HLN.out]; exact hkl); obtain ⟨rfl, hNg⟩ := HA.out (by omega); obtain ⟨_, ds, hds, hcell⟩ := HROW.out k x.cells (by rw [List.getElem?_map, hx]; rfl); obtain ⟨A5, c5, A6, c6, vcs, rfl, hc5, hrq, hrv⟩ := bH hds; obtain ⟨vl, vm, rfl, hvl, hvm⟩ := tF hrv; obtain ⟨hX1, hX2⟩ := HEE.out x (List.mem_of_getElem? hx); obtain ⟨what, l, op, ⟨rel, ql⟩, ⟨kind, b, ⟨neg, dg, ex⟩, s, cl, cm⟩⟩ := x; simp only [Xpr.what, Xpr.l, Xpr.op, Xpr.q, Xpr.v, Qry.rel, Qry.l] at hcell hc5 hrq hvl hvm hX1 hX2; obtain ⟨row, hrw⟩ : ∃ row : List Value, [.int .i64 what, .slice A5 l.length c5, .string ⟨op.toArray⟩, .bool rel, .slice A6 ql.length c6, .int .i64 kind, .bool b, .bool neg, .string ⟨dg.toArray⟩, .int .i64 ex, .string ⟨s.toArray⟩, vl, vm] = row := ⟨_, rfl⟩
   have hra : w.rangeAt g (off + k * 13) row := fun j u hu => by
    rw [<- hrw] at hu; rw [show off + k * 13 + j = off + 13 * k + j by rw [Nat.mul_comm]]; exact hcell j u hu
   have HC5 := lh hc5; have HRQ := lh hrq; have HVL := lh hvl; have HVM := lh hvm; have HX := lh hx; have HX1 := lh hX1; have HX2 := lh hX2; have hRA := nD hra HF.out; have HRW := lh hrw; have hm0 : 0 < ln := by omega
   have hnb := HNB.out; have hlo : ∀ z, (Value.slice Av k cv).ownBlock = some z -> w.heap.size <= z /\ z < wo.heap.size := fun z hz => ⟨by obtain ⟨_, _, _, h9, _⟩ := HO.out; exact h9 z hz, HO.out.lt z hz⟩; have HOW := lh hlo; have hfl : (l.map Xpr.cells).length = l.length := by simp
   have hql : (ql.map Sgm.cells).length = ql.length := by simp
   have HFL := lh hfl; have hv1 := hvl.one; have hv2 := hvm.one; clear hds hcell hc5 hrq hrv hvl hvm hx hX1 hX2 hrw hra hlo hfl hql; go_upto_region 5 with fail
   refine iA (fun W => W.rangeAt g (off + k * 13) row /\ True) [0, 1, 2, 3, 4, 5, 6, 7, 8, 9, 10, 12, 13, 14, 15, 16, 17, 18, 19, 20, 21, 23, 24, 25, 26, 27, 28] (by kernel_rfl) ?_; refine tks [0, 1, 2, 3, 4, 5, 6, 7, 8, 9, 10, 12, 13, 14, 15, 16, 17, 18, 19, 20] ?_
   iterate 20 (refine tk rfl rfl ⟨hRA, trivial⟩ rfl (fun _ hW => by (obtain ⟨k0, k1⟩ := hW; rw [<- HRW.out] at k0; have z0 := k0 0 _ rfl; rw [Nat.add_zero] at z0; have z1 := k0 1 _ rfl; have z2 := k0 2 _ rfl; go_simp) <;> with_reducible rfl) ?_; simp only [nrm])
   refine tke ?_; refine tv 21 (.agg #[.bool rel, .slice A6 ql.length c6]) rfl rfl ⟨hRA, trivial⟩ (.inl ⟨rfl, fun W hW => nH (cs := [.bool rel, .slice A6 ql.length c6]) (off := off + k * 13 + 3) rfl rfl (fun j u hu => by rw [Nat.add_assoc]; refine hW.1 (3 + j) u ?_; rw [<- HRW.out]; match j, hu with | 0, hu => exact hu | 1, hu => exact hu | j + 2, hu => simp at hu) Tryz.underlying31 rfl (by kernel_rfl)⟩) ?_; simp only [nrm]; refine tks [23, 24, 25, 26] ?_
   iterate 4 (refine tk rfl rfl ⟨hRA, trivial⟩ rfl (fun _ hW => by (obtain ⟨k0, k1⟩ := hW; rw [<- HRW.out] at k0; have z0 := k0 0 _ rfl; rw [Nat.add_zero] at z0; have z1 := k0 1 _ rfl; have z2 := k0 2 _ rfl; go_simp) <;> with_reducible rfl) ?_; simp only [nrm])
   refine tke ?_; refine tv 27 (.agg #[.int .i64 kind, .bool b, .bool neg, .string ⟨dg.toArray⟩, .int .i64 ex, .string ⟨s.toArray⟩, vl, vm]) rfl rfl ⟨hRA, trivial⟩ (.inl ⟨rfl, fun W hW => nH (cs := [.int .i64 kind, .bool b, .bool neg, .string ⟨dg.toArray⟩, .int .i64 ex, .string ⟨s.toArray⟩, vl, vm]) (off := off + k * 13 + 5) rfl rfl (fun j u hu => by rw [Nat.add_assoc]; refine hW.1 (5 + j) u ?_; rw [<- HRW.out, Nat.add_comm]; exact hu) Tryz.underlying107 rfl (by kernel_rfl)⟩) ?_; simp only [nrm]; refine sp 11 rfl rfl rfl fun K hK => ?_; have hfd : Fr [] wo wo.drew := (Fr.refl [] wo).drew; refine mA (l := [.tmp 21]) rfl [.slice A5 l.length c5] rfl (fun W => by kernel_rfl) ((HX1.out wo.drew p _ (by have := HPW.out; have := HF.out.size; have := hfd.size; omega) ((HC5.out.fr HF.out).fr hfd)).mono ?_); rintro e w3 ⟨v', rfl, hcv, hf3⟩; have hf03 : Fr [] wo w3 := hfd.trans hf3; refine ⟨_, rfl, hK _ _ (fun _ => ⟨nD hRA hf03, trivial⟩) ?_⟩; simp only [nrm]; clear hK; obtain ⟨Ae, ce, rfl, -⟩ := hcv.slice; rw [HFL.out] at hcv ⊢; have hRA3 := nD hRA hf03; have HCV := lh hcv; have HF3 := lh hf03; have hs0 : wo.drew.heap.size = wo.heap.size := rfl; clear hcv hf3 hf03 hfd; refine sp 22 rfl rfl rfl fun K hK => ?_; refine mA (l := [.tmp 32]) rfl [.agg #[.bool rel, .slice A6 ql.length c6]] rfl (fun W => by kernel_rfl) ((HX2.out w3 p _ (by have := HPW.out; have := HF.out.size; have := HF3.out.size; omega) ((HRQ.out.fr HF.out).fr HF3.out)).mono ?_); rintro e w5 ⟨es, rfl, hes, hf5⟩; have hRA5 := nD hRA3 hf5; obtain ⟨A7, c7, rfl, hc7⟩ := aC hes; simp only [Qry.l] at hc7; refine ⟨_, rfl, hK _ _ (fun _ => ⟨hRA5, trivial⟩) ?_⟩; simp only [nrm]; clear hK; have HC7 := lh hc7; have HF5 := lh (HF3.out.trans hf5); have HZ5 := lh hf5.size; have HF35 := lh hf5; clear hes hc7 hf5 hRA3; refine tks [28] ?_; refine tk rfl rfl ⟨hRA5, trivial⟩ rfl (fun _ hW => by (obtain ⟨k0, k1⟩ := hW; go_simp) <;> with_reducible rfl) ?_; simp only [nrm]; refine tke ?_; refine sp 29 rfl rfl rfl fun K hK => ?_; refine oD (.tmp 39) rfl Tryz.underlying48 hix hzx' [.int .i64 what, .slice Ae l.length ce, .string ⟨op.toArray⟩, .bool rel, .slice A7 ql.length c7, .int .i64 kind, .bool b, .bool neg, .string ⟨dg.toArray⟩, .int .i64 ex, .string ⟨s.toArray⟩, vl, vm] rfl hszx' rfl (by simp) (by simp) (hK _ _ (fun _ => ⟨nD hRA5 ((Fr.refl [] w5).alloc _), trivial⟩) ?_); simp only [nrm]; clear hK; have hb4 := Blk.new w5 109 [.int .i64 what, .slice Ae l.length ce, .string ⟨op.toArray⟩, .bool rel, .slice A7 ql.length c7, .int .i64 kind, .bool b, .bool neg, .string ⟨dg.toArray⟩, .int .i64 ex, .string ⟨s.toArray⟩, vl, vm]; have hf4 : Fr [] w5 (w5.alloc (.cells #[.int .i64 what, .slice Ae l.length ce, .string ⟨op.toArray⟩, .bool rel, .slice A7 ql.length c7, .int .i64 kind, .bool b, .bool neg, .string ⟨dg.toArray⟩, .int .i64 ex, .string ⟨s.toArray⟩, vl, vm] 109)) := (Fr.refl [] w5).alloc _; have hz4 : (w5.alloc (.cells #[.int .i64 what, .slice Ae l.length ce, .string ⟨op.toArray⟩, .bool rel, .slice A7 ql.length c7, .int .i64 kind, .bool b, .bool neg, .string ⟨dg.toArray⟩, .int .i64 ex, .string ⟨s.toArray⟩, vl, vm] 109)).heap.size = w5.heap.size + 1 := by simp
   generalize w5.alloc (.cells #[.int .i64 what, .slice Ae l.length ce, .string ⟨op.toArray⟩, .bool rel, .slice A7 ql.length c7, .int .i64 kind, .bool b, .bool neg, .string ⟨dg.toArray⟩, .int .i64 ex, .string ⟨s.toArray⟩, vl, vm] 109) = w4 at *; have HO5 := lh (HO.out.fr HF5.out); have hz5 := HF5.out.size; have hz9 := HZ5.out; have hz8 := HF.out.size; have hz3 := HF3.out.size; have hpw := HPW.out; obtain ⟨css, hcss, how6, hge6, -⟩ := HO5.out; rw [HKL.out] at how6
   have hrw : fA w5 (fun z => (w.heap.size <= z ∨ z < p) /\ (Value.slice Av k cv).ownBlock ≠ some z) (Xpr.cells (.mk what l op (.mk rel ql) ⟨kind, b, ⟨neg, dg, ex⟩, s, cl, cm⟩)) [.int .i64 what, .slice Ae l.length ce, .string ⟨op.toArray⟩, .bool rel, .slice A7 ql.length c7, .int .i64 kind, .bool b, .bool neg, .string ⟨dg.toArray⟩, .int .i64 ex, .string ⟨s.toArray⟩, vl, vm] := by
    refine .tl rfl (.cons ?_ (.tl rfl (.tl rfl (.cons ?_ (.tl rfl (.tl rfl (.tl rfl (.tl rfl (.tl rfl (.tl rfl (.cons ?_ (.cons ?_ (.nil _ _)))))))))))))
    ·rw [pB]; exact (HCV.out.fr (HF35.out)).mono fun z hz => ⟨by omega, fun e => by have := HOW.out z e; omega⟩
    ·rw [qC]; exact HC7.out.mono fun z hz => ⟨by omega, fun e => by have := HOW.out z e; omega⟩
    ·exact ((HVL.out.fr HF.out).fr HF5.out).mono fun z hz => ⟨.inr hz, fun e => by have := HOW.out z e; omega⟩
    ·exact ((HVM.out.fr HF.out).fr HF5.out).mono fun z hz => ⟨.inr hz, fun e => by have := HOW.out z e; omega⟩
   have HRWW := lh hrw; refine sp 30 rfl rfl rfl fun K hK => ?_; refine jB (.tmp 11) (.tmp 40) rfl 109 13 192 Tryz.underlying48 hix hzx' hszx' hbyx rfl (by omega) (.slice Av k cv) k css.flatten rfl (vB how6 hf4 (by simp)) ⟨w5.heap.size, 0, none⟩ 1 1 [.int .i64 what, .slice Ae l.length ce, .string ⟨op.toArray⟩, .bool rel, .slice A7 ql.length c7, .int .i64 kind, .bool b, .bool neg, .string ⟨dg.toArray⟩, .int .i64 ex, .string ⟨s.toArray⟩, vl, vm] rfl rfl (fun j u hu => by rw [Addr.add_mid, Nat.zero_add]; exact hb4.at_ hu) (HRWW.out.one) (by omega) (by unfold maxLen; omega) (by omega) (w5.heap.size + 1) hz4 fun g7 cap w7 ho7 hf7 hat7 hlt7 => hK _ _ (fun _ => ⟨eO (nD hRA5 hf4) hf7 (fun hm => by have := HOW.out g (by simpa using hm); omega), trivial⟩) ?_; simp only [nrm]; clear hK; have hRA7 := eO (nD hRA5 hf4) hf7 (fun hm => by have := HOW.out g (by simpa using hm); omega); have HO7 := lh (bG.app (row := Xpr.cells (.mk what l op (.mk rel ql) ⟨kind, b, ⟨neg, dg, ex⟩, s, cl, cm⟩)) (l := (f.take k).map Xpr.cells) (g7 := g7) (cap := cap) HO5.out rfl hf4 hz4 (by omega) rfl HRWW.out hf7 (by rw [HKL.out]; exact ho7) (by rw [HKL.out]; exact how6) hat7); have HF7 := lh (((HF.out.trans HF5.out).trans hf4).trans hf7 (fun z hz => .inr (by have := HOW.out z (by simpa using hz); omega)))
   have htk : f.take (k + 1) = f.take k ++ [.mk what l op (.mk rel ql) ⟨kind, b, ⟨neg, dg, ex⟩, s, cl, cm⟩] := by
    obtain ⟨hk', hx'⟩ := List.getElem?_eq_some_iff.1 HX.out; rw [List.take_succ_eq_append_getElem hk', hx']
   have HTK := lh htk; clear how6 hge6 ho7 hf7 hat7 hlt7 hb4 hf4 hz4 htk hRA5 hrw; refine sp 31 rfl rfl rfl fun K hK => ?_; refine eA (v := ?aq7_31) ?yq7_31 (hK _ _ (fun _ => ⟨hRA7, trivial⟩) ?_)
   case yq7_31 => go_simp <;> with_reducible rfl
   simp only [nrm]; refine wd ?_ _; go_wp2_with fail
   go_roundg (ln - (k + 1))
   case measure => omega
   case rel => exact ⟨k + 1, by omega, by go_num, by rw [HTK.out, List.map_append, List.map_cons, List.map_nil]; have h9 := HO7.out; rw [HKL.out] at h9; exact h9, HF7.out⟩
  ·obtain rfl : k = ln := by omega
   have htk : f.take k = f := List.take_of_length_le (by rw [HLN.out]; exact Nat.le_refl _); have hc := HO.out.cat (by decide); rw [htk] at hc; have HX := lh (HQ.out _ _ ⟨_, rfl, hc, HF.out⟩); clear htk hc hkl hk; go_wp2_with fail; exact HX.out
theorem aFk : ∀ n : Nat, n <= 1000000 -> (∀ q : Qry, q.wt <= n -> OuQ q) /\ ∀ f : List Xpr, uB f <= n -> OuE f := by
 intro n
 induction n with
 | zero =>
  intro _; refine ⟨fun q hq => fun w p cs hp h => ?_, fun f hf => kN (by have := yC f; omega) fun x hx => by have := cC hx; have := x.wt_pos; omega⟩; exact mU hp h (by omega) fun x hx => by have := rC hx; have := q.wt_eq; omega
 | succ n ih =>
  intro hn; obtain ⟨i1, i2⟩ := ih (by omega); refine ⟨fun q hq => fun w p cs hp h => ?_, fun f hf => kN (by have := yC f; omega) fun x hx => ?_⟩
  ·refine mU hp h (by omega) fun x hx y hy => i2 y.f ?_; have := rC hx; have := q.wt_eq; have := tG hy; have := x.wt_eq; have := y.wt_eq; omega
  ·have h1 := cC hx; have h2 := x.wt_eq; exact ⟨i2 x.l (by omega), i1 x.q (by omega)⟩
theorem Qry.ours_any {q : Qry} (h : q.wt <= 1000000) : OuQ q := (aFk _ h).1 q (Nat.le_refl _)
def qQ (r : Int) : Prop := -1125899906842624 <= r /\ r <= 1000000
def FeE (f : List Xpr) : Prop := ∀ (w : World) (N : Nat -> Prop) (v : Value) (left deep : Int), qQ left -> 0 <= deep -> deep <= 61 -> CAt w N (.rows 13 (f.map Xpr.cells)) v -> Calls Tryz.prog 57 #[v, .int .i64 left, .int .i64 deep] w fun e w' => ∃ r, e = .returned (.int .i64 r) /\ qQ r /\ (0 <= r -> r + (zC f : Int) = left) /\ Fr [] w w'
def FeQ (q : Qry) : Prop := ∀ (w : World) (N : Nat -> Prop) (cs : List Value) (left deep : Int), qQ left -> 0 <= deep -> deep <= 61 -> fA w N q.cells cs -> Calls Tryz.prog 30 #[.agg cs.toArray, .int .i64 left, .int .i64 deep] w fun e w' => ∃ r, e = .returned (.int .i64 r) /\ qQ r /\ (0 <= r -> r + (q.fw : Int) = left) /\ Fr [] w w'
def aHl (w : World) (q : Qry) (left : Int) (ln : Nat) (j : Nat) (v1 v7 : Value) (wr : World) : Prop := ∃ (k : Nat) (lf : Int), k + j = ln /\ v1 = .int .i64 lf /\ v7 = .int .i64 (k : Int) /\ qQ lf /\ (0 <= lf -> lf + (bE (q.l.take k) : Int) = left) /\ Fr [] w wr
def aHm (w : World) (x : Sgm) (left : Int) (m : Nat) (j : Nat) (v1 v8 : Value) (wr : World) : Prop := ∃ (i : Nat) (lf : Int), i + j = m /\ v1 = .int .i64 lf /\ v8 = .int .i64 (i : Int) /\ qQ lf /\ (0 <= lf -> lf + (cE (x.l.take i) : Int) = left) /\ Fr [] w wr
theorem aFl {q : Qry} (hst : q.stB = true) (hE : ∀ x ∈ q.l, ∀ y ∈ x.l, FeE y.f) : FeQ q := by
 intro w N cs left deep hlow hd0 hd1 h; refine cA fun R HQ => ?_; obtain ⟨A, c, rfl, hc⟩ := aC h; obtain ⟨A', c', g, off, hv, hA, hrow⟩ := hc.row; injection hv with e1 e2 e3; subst e1 e3; have hml : (q.l.map Sgm.cells).length = q.l.length := by simp
 rw [hml] at hA; obtain ⟨ln, hln⟩ : ∃ ln, q.l.length = ln := ⟨_, rfl⟩; have HLN := lh hln; rw [hln] at hA ⊢
 have hst' : ∀ x ∈ q.l, x.stB = true := by
  obtain ⟨rel, l⟩ := q; exact List.all_eq_true.1 ((uH l).symm.trans hst)
 have HROW := lh hrow; have HA := lh hA; have HEE := lh hE; have HST := lh hst'; have HLO := lh hlow; have HD0 := lh hd0; have HD1 := lh hd1; have hfq := q.fw_eq; obtain ⟨fq, hfq'⟩ : ∃ fq, q.fw = fq := ⟨_, rfl⟩; rw [hfq'] at HQ hfq; have HFQ := lh hfq; clear h hc hrow hA hE hml hln hst hst' hlow hd0 hd1 hfq hfq' e2; obtain ⟨cs, hcs⟩ : ∃ cs : List Value, [Value.bool q.rel, .slice A ln c] = cs := ⟨_, rfl⟩; rw [hcs]
 go_enter Tryz.func30, Tryz.ntmps30
 go_wp2_with (with_reducible refine kA rfl 31 (.tmp 0) rfl cs rfl ?_)
 intro w0 hb0 hf0 hz0; subst hcs; have HF0 := lh hf0; have HB0 := lh hb0; have b1 := hb0.at_ (i := 1) rfl; clear hf0 hb0 hz0
 by_cases hdp : deep > 60
 ·have HX := lh (HQ.out (.returned (.int .i64 (-1))) w0 ⟨-1, rfl, ⟨by decide, by decide⟩, fun h => absurd h (by decide), HF0.out⟩); go_wp2_with fail; exact HX.out
 ·have hdw : IntKind.i64.wrap (deep + 1) = deep + 1 := by have := HD0.out; rw [IntKind.wrap_i64]; omega
  have HDW := lh hdw; have HDP := lh hdp; clear hdw; go_wp2_with fail; clear hdp b1
  go_loopg [1, 7] ln (fun j v1 v7 wr => aHl w0 q left ln j v1 v7 wr)
  case atStart => exact ⟨0, left, by omega, rfl, rfl, HLO.out, fun _ => by simp [bE], Fr.refl _ _⟩
  case round =>
   obtain ⟨wo, rfl⟩ := nm (wr); obtain ⟨k, lf, hk, rfl, rfl, hlf, hsum, hF⟩ := hrel; have HLF := lh hlf; have HSUM := lh hsum; have HF := lh hF; have b1 := (HB0.out.fr hF).at_ (i := 1) rfl; clear hlf hsum hF
   by_cases hkl : k < ln
   ·by_cases hl0 : 0 <= lf
    ·obtain ⟨x, hx⟩ : ∃ x, q.l[k]? = some x := gx (by rw [HLN.out]; exact hkl); obtain ⟨rfl, hNg⟩ := HA.out (by omega); obtain ⟨_, ds, hds, hcell⟩ := HROW.out k x.cells (by rw [List.getElem?_map, hx]; rfl); obtain ⟨A5, c5, rfl, hc5⟩ := iF hds; have hFw : Fr [] w wo := HF0.out.trans HF.out
     have x1 : wo.cell? ⟨g, off + k * 2 + 1, none⟩ = some (.slice A5 x.l.length c5) := by
      rw [show off + k * 2 + 1 = off + 2 * k + 1 by rw [Nat.mul_comm]]; exact bA hFw (hcell 1 _ rfl)
     have hkb : k <= 1000000 := by have h1 := HSUM.out hl0; have h2 := HLO.out.2; have h3 := vJ (q.l.take k); have h4 := HLN.out; rw [List.length_take] at h3; omega
     have HKB := lh hkb; have HX := lh hx; have HC5 := lh hc5; have HFW := lh hFw; have HL0 := lh hl0; have HXS := lh (HST.out x (List.mem_of_getElem? hx)); have hw1 : IntKind.i64.wrap (lf - 1) = lf - 1 := by have := HLF.out.2; rw [IntKind.wrap_i64]; omega
     obtain ⟨m, hm⟩ : ∃ m, x.l.length = m := ⟨_, rfl⟩; have HM := lh hm; rw [hm] at x1 HC5; clear hds hcell hc5 hx hm hFw hNg hkb; go_wp2_with fail; clear hw1
     go_loopg [1, 8] m (fun j v1 v8 wi => aHm wo x (lf - 1) m j v1 v8 wi)
     case atStart => exact ⟨0, lf - 1, by omega, rfl, rfl, by have := HLF.out; unfold qQ at this ⊢; omega, fun _ => by simp [cE], Fr.refl _ _⟩
     case round =>
      obtain ⟨wi, rfl⟩ := nm (wr); obtain ⟨i, li, hi, rfl, rfl, hlf, hsum, hF⟩ := hrel; have HLI := lh hlf; have HSUI := lh hsum; have HFi := lh hF
      replace b1 := bA hF b1
      replace x1 := bA hF x1
      clear hlf hsum hF hl0
      by_cases him : i < m
      ·by_cases hli : 0 <= li
       ·obtain ⟨y, hy⟩ : ∃ y, x.l[i]? = some y := gx (by rw [HM.out]; exact him); have hml5 : (x.l.map Slr.cells).length = m := by simp [HM.out]
        obtain ⟨A6, c6, g5, off5, hv5, hA5, hrow5⟩ := HC5.out.row; injection hv5 with e1 e2 e3; subst e1; obtain ⟨rfl, hNg5⟩ := hA5 (by omega); obtain ⟨_, es, hes, hcell5⟩ := hrow5 i y.cells (by rw [List.getElem?_map, hy]; rfl); obtain ⟨what, name, at_, ⟨a0, a1, a2⟩, ⟨s0, s1, s2⟩, f⟩ := y; obtain ⟨Af, cf, rfl, hcf⟩ := fG hes; simp only [Slr.what, Slr.name, Slr.at_, Slr.has, Slr.s, Slr.f] at hcell5 hcf; have hFwi : Fr [] w wi := HFW.out.trans HFi.out
        have hlt5 : ∀ {a : Nat} {u : Value}, w.cell? ⟨g5, off5 + 10 * i + a, none⟩ = some u -> wi.cell? ⟨g5, off5 + i * 10 + a, none⟩ = some u := fun {a u} h9 => by
         rw [show off5 + i * 10 + a = off5 + 10 * i + a by rw [Nat.mul_comm]]; exact bA hFwi h9
        have y1 := hlt5 (hcell5 1 _ rfl); have y9 := hlt5 (hcell5 9 _ rfl); have hys := HXS.out
        have hys2 : iO name = true := by
         obtain ⟨dp, sl⟩ := x; have h1 := List.all_eq_true.1 ((vH sl).symm.trans hys) _ (List.mem_of_getElem? hy); simp only [Slr.stB, Bool.and_eq_true] at h1; exact h1.1
        unfold iO at hys2; rw [decide_eq_true_eq] at hys2; obtain ⟨nl, hnl⟩ : ∃ nl, name.length = nl := ⟨_, rfl⟩; rw [hnl] at hys2; have hib : i <= 1000000 := by have h1 := HSUI.out hli; have h2 := HLF.out.2; have h3 := iP (x.l.take i); have h4 := HM.out; rw [List.length_take] at h3; omega
        have hw1 : IntKind.i64.wrap (li - 1) = li - 1 := by have := HLI.out.2; rw [IntKind.wrap_i64]; omega
        have hw2 : IntKind.i64.wrap (li - 1 - (nl : Int)) = li - 1 - (nl : Int) := by have := HLI.out.2; rw [IntKind.wrap_i64]; omega
        have hwd := HDW.out; have hsz : (⟨name.toArray⟩ : ByteArray).size = nl := by rw [<- hnl]; rfl
        have HFE := lh (HEE.out x (List.mem_of_getElem? HX.out) _ (List.mem_of_getElem? hy) wi N _ (li - 1 - (nl : Int)) (deep + 1) (by have := HLI.out; unfold qQ at this ⊢; omega) (by have := HD0.out; omega) (by have := HDP.out; omega) (hcf.fr hFwi)); simp only [Slr.f] at HFE; have HCF := lh hcf; have HY := lh hy; have HNL := lh hnl; have HIB := lh hib; have HFWI := lh hFwi; have HNLB := lh hys2; have HLI0 := lh hli; have HFX := lh (HEE.out x (List.mem_of_getElem? HX.out) _ (List.mem_of_getElem? hy)); clear hes hcell5 hcf hlt5 hy hrow5 hA5 hml5 hFwi hys hys2 hnl hib e2 e3 HFE hNg5; go_upto_region 10 with fail
        refine iA (fun W => W.cell? ⟨w.heap.size, 1, none⟩ = some (.slice (some ⟨g, off, none⟩) ln c) /\ W.cell? ⟨g, off + k * 2 + 1, none⟩ = some (.slice (some ⟨g5, off5, none⟩) m c5) /\ W.cell? ⟨g5, off5 + i * 10 + 1, none⟩ = some (.string ⟨name.toArray⟩) /\ W.cell? ⟨g5, off5 + i * 10 + 9, none⟩ = some (.slice Af f.length cf)) [0, 1, 2, 3, 4, 5, 6, 7, 8, 9, 10, 11, 12, 13, 14, 15, 16, 17, 18, 19, 20, 21, 22, 23, 24, 25] (by kernel_rfl) ?_; refine tks [0, 1, 2, 3, 4, 5, 6, 7, 8, 9, 10, 11, 12, 13, 14, 15, 16, 17, 18, 19, 20, 21, 22, 23, 24, 25] ?_
        iterate 26 (refine tk rfl rfl ⟨b1, x1, y1, y9⟩ rfl (fun _ hW => by (obtain ⟨k0, k1, k2, k3⟩ := hW; go_simp) <;> with_reducible rfl) ?_; simp only [nrm])
        refine tke ?_; refine sp 26 rfl rfl rfl fun K hK => ?_; have hfd : Fr [] wi wi.drew := (Fr.refl [] wi).drew; refine mA (l := [.tmp 48, .tmp 62, .tmp 64]) rfl [.slice Af f.length cf, .int .i64 (li - 1 - (nl : Int)), .int .i64 (deep + 1)] rfl (fun W => by kernel_rfl) ((HFX.out wi.drew N _ (li - 1 - (nl : Int)) (deep + 1) (by have := HLI.out; have := HNLB.out; unfold qQ at *; omega) (by have := HD0.out; omega) (by have := HDP.out; omega) ((HCF.out.fr HFWI.out).fr hfd)).mono ?_); rintro e w3 ⟨r, rfl, hr1, hr2, hf3⟩; have hf03 : Fr [] wi w3 := hfd.trans hf3; refine ⟨_, rfl, hK _ _ (fun _ => ⟨bA hf03 b1, bA hf03 x1, bA hf03 y1, bA hf03 y9⟩) ?_⟩; simp only [nrm]; clear hK; have HR1 := lh hr1; have HR2 := lh hr2; have HF3 := lh hf03; refine sp 27 rfl rfl rfl fun K hK => ?_; refine eA (v := ?aq1_27) ?yq1_27 (hK _ _ (fun _ => ⟨bA hf03 b1, bA hf03 x1, bA hf03 y1, bA hf03 y9⟩) ?_)
        case yq1_27 => go_simp <;> with_reducible rfl
        simp only [nrm]; refine wd ?_ _; clear hr1 hr2 hf3 hf03 hfd; have hwi := _root_.Go.Proofs.YtbggkiebfflcdaaGreatDoor.wi i (by have := HIB.out; omega)
        go_wp2_with fail
        go_roundg (m - (i + 1))
        case measure => omega
        case rel =>
         refine ⟨i + 1, r, by omega, rfl, by push_cast; rfl, HR1.out, fun h9 => ?_, HFi.out.trans HF3.out⟩; have h1 := HR2.out h9; have h2 := HSUI.out HLI0.out; have h3 := sZ HY.out; have h4 := HNL.out; rw [Slr.fw_eq] at h3; simp only [Slr.name, Slr.f] at h1 h3; omega
       ·have HNLI := lh hli; have hli' : decide (li ≥ 0) = false := by rw [decide_eq_false_iff_not]; exact hli
        have hwk := _root_.Go.Proofs.YtbggkiebfflcdaaGreatDoor.wi k (by have := HKB.out; omega)
        go_wp2_with fail
        go_roundg (ln - (k + 1))
        case measure => omega
        case rel => exact ⟨k + 1, li, by omega, rfl, by push_cast; rfl, HLI.out, fun h9 => by have := HNLI.out; omega, HF.out.trans HFi.out⟩
      ·obtain rfl : i = m := by omega
       have hwk := _root_.Go.Proofs.YtbggkiebfflcdaaGreatDoor.wi k (by have := HKB.out; omega)
       clear him; go_wp2_with fail
       go_roundg (ln - (k + 1))
       case measure => omega
       case rel =>
        refine ⟨k + 1, li, by omega, rfl, by push_cast; rfl, HLI.out, fun h9 => ?_, HF.out.trans HFi.out⟩; have h1 := HSUI.out h9; have h2 := HSUM.out HL0.out; have h3 := rZ HX.out; have h4 := x.fw_eq; rw [List.take_of_length_le (by rw [HM.out]; exact Nat.le_refl _)] at h1; omega
    ·have hl0' : decide (lf ≥ 0) = false := by rw [decide_eq_false_iff_not]; exact hl0
     have HX := lh (HQ.out (.returned (.int .i64 lf)) wo ⟨lf, rfl, HLF.out, fun h9 => absurd h9 hl0, HF0.out.trans HF.out⟩); go_wp2_with fail; exact HX.out
   ·obtain rfl : k = ln := by omega
    have HX := lh (HQ.out (.returned (.int .i64 lf)) wo ⟨lf, rfl, HLF.out, fun h9 => by
     have h1 := HSUM.out h9; rw [List.take_of_length_le (by rw [HLN.out]; exact Nat.le_refl _)] at h1; rw [HFQ.out]; exact h1, HF0.out.trans HF.out⟩)
    clear hkl; go_wp2_with fail; exact HX.out
def aHn (w : World) (f : List Xpr) (left : Int) (ln : Nat) (j : Nat) (v1 v7 : Value) (wr : World) : Prop := ∃ (k : Nat) (lf : Int), k + j = ln /\ v1 = .int .i64 lf /\ v7 = .int .i64 (k : Int) /\ qQ lf /\ (0 <= lf -> lf + (zC (f.take k) : Int) = left) /\ Fr [] w wr
theorem nW {f : List Xpr} (hst : ∀ x ∈ f, x.stB = true) (hE : ∀ x ∈ f, FeE x.l /\ FeQ x.q) : FeE f := by
 intro w N v left deep hlow hd0 hd1 h; refine cA fun R HQ => ?_; obtain ⟨A, c, g, off, rfl, hA, hrow⟩ := h.row; have hml : (f.map Xpr.cells).length = f.length := by simp
 rw [hml] at hA ⊢; obtain ⟨ln, hln⟩ : ∃ ln, f.length = ln := ⟨_, rfl⟩; have HLN := lh hln; rw [hln] at hA ⊢; have HROW := lh hrow; have HA := lh hA; have HEE := lh hE; have HST := lh hst; have HLO := lh hlow; have HD0 := lh hd0; have HD1 := lh hd1; clear h hrow hA hE hml hln hst hlow hd0 hd1
 go_enter Tryz.func57, Tryz.ntmps57
 by_cases hdp : deep > 60
 ·have HX := lh (HQ.out (.returned (.int .i64 (-1))) w ⟨-1, rfl, ⟨by decide, by decide⟩, fun h => absurd h (by decide), Fr.refl _ _⟩); go_wp2_with fail; exact HX.out
 ·have hdw : IntKind.i64.wrap (deep + 1) = deep + 1 := by have := HD0.out; rw [IntKind.wrap_i64]; omega
  have HDW := lh hdw; have HDP := lh hdp; clear hdw; go_wp2_with fail; clear hdp
  go_loopg [1, 7] ln (fun j v1 v7 wr => aHn w f left ln j v1 v7 wr)
  case atStart => exact ⟨0, left, by omega, rfl, rfl, HLO.out, fun _ => by simp [zC], Fr.refl _ _⟩
  case round =>
   obtain ⟨wo, rfl⟩ := nm (wr); obtain ⟨k, lf, hk, rfl, rfl, hlf, hsum, hF⟩ := hrel; have HLF := lh hlf; have HSUM := lh hsum; have HF := lh hF; clear hlf hsum hF
   by_cases hkl : k < ln
   ·by_cases hl0 : 0 <= lf
    ·obtain ⟨x, hx⟩ : ∃ x, f[k]? = some x := gx (by rw [HLN.out]; exact hkl); obtain ⟨rfl, hNg⟩ := HA.out (by omega); obtain ⟨_, ds, hds, hcell⟩ := HROW.out k x.cells (by rw [List.getElem?_map, hx]; rfl); obtain ⟨A5, c5, A6, c6, vcs, rfl, hc5, hrq, hrv⟩ := bH hds; obtain ⟨vl, vm, rfl, hvl, hvm⟩ := tF hrv; have hxs := HST.out x (List.mem_of_getElem? hx); have HXE := lh (HEE.out x (List.mem_of_getElem? hx)); obtain ⟨what, l, op, ⟨rel, ql⟩, ⟨kind, b, ⟨neg, dg, ex⟩, s, cl, cm⟩⟩ := x; simp only [Xpr.what, Xpr.l, Xpr.op, Xpr.q, Xpr.v, Qry.rel, Qry.l] at hcell hc5 hrq HXE; simp only [Xpr.stB, Vlu.stV, Bool.and_eq_true, iO, decide_eq_true_eq] at hxs; obtain ⟨⟨⟨⟨ho, hs⟩, hdg, -⟩, -⟩, -⟩ := hxs; obtain ⟨row, hrw⟩ : ∃ row : List Value, [.int .i64 what, .slice A5 l.length c5, .string ⟨op.toArray⟩, .bool rel, .slice A6 ql.length c6, .int .i64 kind, .bool b, .bool neg, .string ⟨dg.toArray⟩, .int .i64 ex, .string ⟨s.toArray⟩, vl, vm] = row := ⟨_, rfl⟩
     have hra : w.rangeAt g (off + k * 13) row := fun j u hu => by
      rw [<- hrw] at hu; rw [show off + k * 13 + j = off + 13 * k + j by rw [Nat.mul_comm]]; exact hcell j u hu
     have hRA := nD hra HF.out; have hkb : k <= 1000000 := by have h1 := HSUM.out hl0; have h2 := HLO.out.2; have h3 := jP (f.take k); have h4 := HLN.out; rw [List.length_take] at h3; omega
     obtain ⟨n1, hn1⟩ : ∃ n, op.length = n := ⟨_, rfl⟩; obtain ⟨n2, hn2⟩ : ∃ n, s.length = n := ⟨_, rfl⟩; obtain ⟨n3, hn3⟩ : ∃ n, dg.length = n := ⟨_, rfl⟩; rw [hn1] at ho; rw [hn2] at hs; rw [hn3] at hdg; have hz1 : (⟨op.toArray⟩ : ByteArray).size = n1 := by rw [<- hn1]; rfl
     have hz2 : (⟨s.toArray⟩ : ByteArray).size = n2 := by rw [<- hn2]; rfl
     have hz3 : (⟨dg.toArray⟩ : ByteArray).size = n3 := by rw [<- hn3]; rfl
     have hw1 : IntKind.i64.wrap (lf - 1) = lf - 1 := by have := HLF.out.2; rw [IntKind.wrap_i64]; omega
     have hw2 : IntKind.i64.wrap (lf - 1 - (n1 : Int)) = lf - 1 - (n1 : Int) := by have := HLF.out.2; rw [IntKind.wrap_i64]; omega
     have hw3 : IntKind.i64.wrap (lf - 1 - (n1 : Int) - (n2 : Int)) = lf - 1 - (n1 : Int) - (n2 : Int) := by have := HLF.out.2; rw [IntKind.wrap_i64]; omega
     have hw4 : IntKind.i64.wrap (lf - 1 - (n1 : Int) - (n2 : Int) - (n3 : Int)) = lf - 1 - (n1 : Int) - (n2 : Int) - (n3 : Int) := by have := HLF.out.2; rw [IntKind.wrap_i64]; omega
     have hwd := HDW.out; have HLW : Hid (qQ (lf - 1 - (n1 : Int) - (n2 : Int) - (n3 : Int))) := lh (by have := HLF.out; unfold qQ at this ⊢; omega); have HC5 := lh hc5; have HRQ := lh hrq; have HX := lh hx; have HRW := lh hrw; have HKB := lh hkb; have HN1 := lh hn1; have HN2 := lh hn2; have HN3 := lh hn3; have HL0 := lh hl0; have y1 : wo.cell? ⟨g, off + k * 13 + 1, none⟩ = some (.slice A5 l.length c5) := hRA 1 _ (by rw [<- hrw]; rfl); have HY1 := lh y1; clear hds hcell hc5 hrq hrv hvl hvm hx hrw hra hn1 hn2 hn3 ho hs hdg hkb hNg y1; go_upto_region 6 with fail
     refine iA (fun W => W.rangeAt g (off + k * 13) row /\ True) [0, 1, 2, 3, 4, 5, 6, 7, 8, 9, 10, 11, 12, 13, 14, 15, 16, 17, 18, 19, 20, 21, 22, 23, 24, 25, 26, 27, 28, 29, 30, 31, 32] (by kernel_rfl) ?_; refine tks [0, 1, 2, 3] ?_
     iterate 4 (refine tk rfl rfl ⟨hRA, trivial⟩ rfl (fun _ hW => by (obtain ⟨k0, k1⟩ := hW; go_simp) <;> with_reducible rfl) ?_; simp only [nrm])
     refine tke ?_; refine tv 4 (.agg #[.bool rel, .slice A6 ql.length c6]) rfl rfl ⟨hRA, trivial⟩ (.inl ⟨rfl, fun W hW => nH (cs := [.bool rel, .slice A6 ql.length c6]) (off := off + k * 13 + 3) rfl rfl (fun j u hu => by rw [Nat.add_assoc]; refine hW.1 (3 + j) u ?_; rw [<- HRW.out]; match j, hu with | 0, hu => exact hu | 1, hu => exact hu | j + 2, hu => simp at hu) Tryz.underlying31 rfl (by kernel_rfl)⟩) ?_; simp only [nrm]; refine tks [5, 6, 7, 8, 9, 10, 11, 12, 13, 14, 15, 16, 17, 18, 19, 20, 21, 22, 23, 24, 25, 26, 27, 28, 29, 30, 31, 32] ?_
     iterate 28 (refine tk rfl rfl ⟨hRA, trivial⟩ rfl (fun _ hW => by (obtain ⟨k0, k1⟩ := hW; rw [<- HRW.out] at k0; have z2 := k0 2 _ rfl; have z8 := k0 8 _ rfl; have z10 := k0 10 _ rfl; go_simp) <;> with_reducible rfl) ?_; simp only [nrm])
     refine tke ?_; refine sp 33 rfl rfl rfl fun K hK => ?_; have hfd : Fr [] wo wo.drew := (Fr.refl [] wo).drew; refine mA (l := [.tmp 24, .tmp 50, .tmp 52]) rfl [.agg #[.bool rel, .slice A6 ql.length c6], .int .i64 (lf - 1 - (n1 : Int) - (n2 : Int) - (n3 : Int)), .int .i64 (deep + 1)] rfl (fun W => by kernel_rfl) ((HXE.out.2 wo.drew N _ _ (deep + 1) HLW.out (by have := HD0.out; omega) (by have := HDP.out; omega) ((HRQ.out.fr HF.out).fr hfd)).mono ?_); rintro e w3 ⟨r, rfl, hr1, hr2, hf3⟩; have hf03 : Fr [] wo w3 := hfd.trans hf3; have hRA3 := nD hRA hf03; refine ⟨_, rfl, hK _ _ (fun _ => ⟨hRA3, trivial⟩) ?_⟩; simp only [nrm]; clear hK; have HR1 := lh hr1; have HR2 := lh hr2; have HF3 := lh hf03; refine sp 34 rfl rfl rfl fun K hK => ?_; refine eA (v := ?aq1_34) ?yq1_34 (hK _ _ (fun _ => ⟨hRA3, trivial⟩) ?_)
     case yq1_34 => go_simp <;> with_reducible rfl
     simp only [nrm]; refine wd ?_ _; have x1 := bA hf03 HY1.out; clear hr1 hr2 hf3 hf03 hfd hRA hRA3 hw1 hw2 hw3 hw4; have hwk := wi k (by have := HKB.out; omega)
     have h3 := tZ HX.out; rw [Xpr.fw_eq] at h3; simp only [Xpr.op, Xpr.v, Xpr.q, Xpr.l] at h3; have HT := lh h3; clear h3 hl0
     by_cases hr0 : 0 <= r
     ·have HC := lh (HXE.out.1 w3 N _ r (deep + 1) HR1.out (by have := HD0.out; omega) (by have := HDP.out; omega) ((HC5.out.fr HF.out).fr HF3.out)); have HR0 := lh hr0; have hfl : (l.map Xpr.cells).length = l.length := by simp
      go_wp2_with fail; refine HC.out.mono ?_; rintro e w5 ⟨r2, rfl, hs1, hs2, hf5⟩; have HS1 := lh hs1; have HS2 := lh hs2; have HF5 := lh hf5; clear hs1 hs2 hf5 hr0 HC x1; go_wp2_with fail
      go_roundg (ln - (k + 1))
      case measure => omega
      case rel =>
       refine ⟨k + 1, r2, by omega, rfl, by push_cast; rfl, HS1.out, fun h9 => ?_, (HF.out.trans HF3.out).trans HF5.out⟩; have a1 := HS2.out h9; have a2 := HR2.out HR0.out; have a3 := HSUM.out HL0.out; have a4 := HT.out; have a5 := HN1.out; have a6 := HN2.out; have a7 := HN3.out; omega
     ·have hr0' : decide (r ≥ 0) = false := by rw [decide_eq_false_iff_not]; exact hr0
      have HR0 := lh hr0; clear hr0; go_wp2_with fail
      go_roundg (ln - (k + 1))
      case measure => omega
      case rel => exact ⟨k + 1, r, by omega, rfl, by push_cast; rfl, HR1.out, fun h9 => by have := HR0.out; omega, HF.out.trans HF3.out⟩
    ·have hl0' : decide (lf ≥ 0) = false := by rw [decide_eq_false_iff_not]; exact hl0
     have HX := lh (HQ.out (.returned (.int .i64 lf)) wo ⟨lf, rfl, HLF.out, fun h9 => absurd h9 hl0, HF.out⟩); go_wp2_with fail; exact HX.out
   ·obtain rfl : k = ln := by omega
    have HX := lh (HQ.out (.returned (.int .i64 lf)) wo ⟨lf, rfl, HLF.out, fun h9 => by
     have h1 := HSUM.out h9; rw [List.take_of_length_le (by rw [HLN.out]; exact Nat.le_refl _)] at h1; exact h1, HF.out⟩)
    clear hkl; go_wp2_with fail; exact HX.out
theorem aGl : ∀ n : Nat, (∀ q : Qry, q.wt <= n -> q.stB = true -> FeQ q) /\ ∀ f : List Xpr, uB f <= n -> (∀ x ∈ f, x.stB = true) -> FeE f := by
 have hq : ∀ (n : Nat), (∀ f : List Xpr, uB f < n -> (∀ x ∈ f, x.stB = true) -> FeE f) -> ∀ q : Qry, q.wt <= n -> q.stB = true -> FeQ q := fun n ih q hq hs => by
  refine aFl hs fun x hx y hy => ih y.f ?_ ?_
  ·have := rC hx; have := q.wt_eq; have := tG hy; have := x.wt_eq; have := y.wt_eq; omega
  ·obtain ⟨rel, l⟩ := q; have h1 := List.all_eq_true.1 ((uH l).symm.trans hs) x hx; obtain ⟨dp, sl⟩ := x; have h2 := List.all_eq_true.1 ((vH sl).symm.trans h1) y hy; obtain ⟨_, _, _, _, _, f⟩ := y; simp only [Slr.stB, Bool.and_eq_true] at h2; exact List.all_eq_true.1 ((kF f).symm.trans h2.2)
 intro n
 induction n with
 | zero =>
  exact ⟨hq 0 fun f hf => absurd hf (by omega), fun f hf hs => nW hs fun x hx => by have := cC hx; have := x.wt_pos; omega⟩
 | succ n ih =>
  have he : ∀ f : List Xpr, uB f <= n + 1 -> (∀ x ∈ f, x.stB = true) -> FeE f := fun f hf hs => nW hs fun x hx => by
   have h1 := cC hx; have h2 := x.wt_eq; have h3 := hs x hx; obtain ⟨what, l, op, q, v⟩ := x; simp only [Xpr.stB, Bool.and_eq_true] at h3; simp only [Xpr.l, Xpr.q, Xpr.op] at h2; exact ⟨ih.2 l (by omega) (List.all_eq_true.1 ((kF l).symm.trans h3.2)), ih.1 q (by omega) h3.1.2⟩
  exact ⟨hq (n + 1) fun f hf => he f (by omega), he⟩
section
variable {w : World} {N : Nat -> Prop} {cs : List Value}
theorem aGm {q : Qry} {most : Int} (h : fA w N q.cells cs) (hs : q.stB = true) (h0 : 0 <= most) (h1 : most <= 1000000) : Calls Tryz.prog 14 #[.agg cs.toArray, .int .i64 most] w fun e w' => ∃ b, e = .returned (.bool b) /\ (b = true -> (q.fw : Int) <= most) /\ Fr [] w w' := by
 refine cA fun R HQ => ?_; obtain ⟨A, c, rfl, hc⟩ := aC h; have HH := lh h; have HS := lh hs; have HLO : Hid (qQ most) := lh (by unfold qQ; omega); have HF := lh ((aGl q.wt).1 q (Nat.le_refl _) hs); have H0 := lh h0; clear h hs hc h0 h1; obtain ⟨cs, hcs⟩ : ∃ cs : List Value, [Value.bool q.rel, .slice A q.l.length c] = cs := ⟨_, rfl⟩; rw [hcs] at HH ⊢; have HC1 : Hid ((Tryz.prog.info? 31).map (·.size) = some cs.length) := lh (by rw [<- hcs]; kernel_rfl); clear hcs
 go_enter Tryz.func14, Tryz.ntmps14
 have HC := lh (fun W (hW : Fr [] w W) => HF.out W N cs most 0 HLO.out (by decide) (by decide) (HH.out.fr hW))
 go_wp2_with (with_reducible refine kA rfl 31 (.tmp 0) rfl cs rfl ?_)
 intro w0 hb0 hf0 hz0; have HB0 := lh hb0; have HF0 := lh hf0; have HD := lh (HC.out w0 hf0); clear hb0 hf0 hz0 HC
 go_wp2_with (with_reducible refine tA rfl 31 (.tmp 2) rfl rfl HB0.out Tryz.underlying31 rfl HC1.out ?_)
 refine HD.out.mono ?_; rintro e w3 ⟨r, rfl, hr1, hr2, hf3⟩; have HR2 := lh hr2; have HF3 := lh (HF0.out.trans hf3); clear hr1 hr2 hf3; go_wp2_with fail; refine HQ.out _ _ ⟨_, rfl, fun hb => ?_, HF3.out⟩; have h1 : 0 <= r := by simpa using hb
 have h2 := HR2.out h1; omega
end
end
section
open Go.RowKit
theorem rQ {α : Type} (f : α -> List UInt8) (g : α -> Nat) (sep : List UInt8) : ∀ l : List α, (∀ x ∈ l, (f x).length + sep.length <= 1000 * g x) -> (Lib.join (l.map f) sep).length <= 1000 * (l.map g).sum
 | [], _ => by simp [Lib.join_nil]
 | [x], h => by
  have := h x (by simp); simp only [List.map_cons, List.map_nil, Lib.join_one, List.sum_cons, List.sum_nil]; omega
 | x :: y :: r, h => by
  have h1 := h x (by simp); have ih := rQ f g sep (y :: r) fun z hz => h z (by simp [List.mem_cons.1 hz])
  have e : Lib.join ((x :: y :: r).map f) sep = f x ++ (sep ++ Lib.join ((y :: r).map f) sep) := by
   simp only [List.map_cons]; rw [Lib.join_cons, Lib.join_cons]
   simp [Lib.joinTail]
  have e2 : ((x :: y :: r).map g).sum = g x + ((y :: r).map g).sum := by simp
  rw [e, e2]; simp only [List.length_append]; omega
theorem aAu {α : Type} (f : α -> List UInt8) (g : α -> Nat) (l : List α) (h : ∀ x ∈ l, (f x).length <= 1000 * g x) : (l.map f).flatten.length <= 1000 * (l.map g).sum := by
 rw [<- uJ]; exact rQ f g [] l fun x hx => by simpa using h x hx
theorem mP : ∀ l : List Xpr, zC l = (l.map Xpr.fw).sum
 | [] => rfl
 | x :: l => by rw [zC, mP l]; rfl
theorem nU : ∀ l : List Slr, cE l = (l.map fun x => x.fw + 1).sum
 | [] => rfl
 | x :: l => by rw [cE, nU l]; rfl
theorem oU : ∀ l : List Sgm, bE l = (l.map fun x => x.fw + 1).sum
 | [] => rfl
 | x :: l => by rw [bE, oU l]; rfl
theorem aDj (d : Dcm) : d.text.length <= 501 := by
 unfold Dcm.text
 split
 ·simp
 ·rename_i h1
  split
  ·simp
  ·rename_i h2
   have := dN d (by simpa using h1) h2
   split
   ·rw [List.length_cons]; omega
   ·omega
theorem aDk (v : Vlu) : v.text.length <= 6 * v.s.length + 501 := by
 unfold Vlu.text
 split
 ·have : jM.length = 4 := rfl; omega
 ·split
  ·split
   ·have : tK.length = 4 := rfl; omega
   ·have : mI.length = 5 := rfl; omega
  ·split
   ·have := aDj v.n; omega
   ·have := uT v.s; omega
theorem aGn {y : Slr} (hin : y.inR = true) (h : ∀ e ∈ y.f, e.text.length <= 1000 * e.fw) : y.text.length + 1 <= 1000 * (y.fw + 1) := by
 obtain ⟨what, name, at_, ⟨h0, h1, h2⟩, ⟨s0, s1, s2⟩, f⟩ := y; simp only [Slr.f] at h; simp only [Slr.inR, Bool.and_eq_true] at hin; obtain ⟨⟨⟨⟨i1, i2⟩, i3⟩, i4⟩, -⟩ := hin; have j1 := gP _ i1; have j2 := gP _ i2; have j3 := gP _ i3; have j4 := gP _ i4; rw [Slr.text, Slr.fw]
 split
 ·have := uT name; omega
 split
 ·simp only [LN]; omega
 split
 ·omega
 split
 ·have k0 : (if h0 = true then Lib.itoa s0 else ([] : List UInt8)).length <= 21 := by split <;> first | omega | simp
  have k1 : (if h1 = true then Lib.itoa s1 else ([] : List UInt8)).length <= 21 := by split <;> first | omega | simp
  have k2 : (if h2 = true then 58 :: Lib.itoa s2 else ([] : List UInt8)).length <= 22 := by split <;> simp only [LN] <;> omega
  simp only [List.length_append, List.length_cons]; omega
 ·rw [gG, List.length_cons, mP]; have := aAu (mH 0) Xpr.fw f fun e he => by rw [hP]; exact h e he
  omega
theorem aGo {x : Sgm} (hin : x.inR = true) (h : ∀ y ∈ x.l, ∀ e ∈ y.f, e.text.length <= 1000 * e.fw) : x.text.length <= 1000 * (x.fw + 1) := by
 obtain ⟨dp, sl⟩ := x; simp only [Sgm.l] at h; rw [Sgm.inR, jI] at hin; have hj := rQ Slr.text (fun y => y.fw + 1) [44] sl fun y hy => aGn (List.all_eq_true.1 hin y hy) (h y hy); rw [Sgm.text, Sgm.fw, wL, nU]; have hd : (if dp = true then ([46, 46] : List UInt8) else []).length <= 2 := by split <;> simp
 simp only [LN]; omega
theorem aGp {q : Qry} (hin : q.inR = true) (h : ∀ x ∈ q.l, ∀ y ∈ x.l, ∀ e ∈ y.f, e.text.length <= 1000 * e.fw) : q.text.length <= 1000 * q.fw + 1 := by
 obtain ⟨rel, l⟩ := q; simp only [Qry.l] at h; rw [Qry.inR, iI] at hin; have hj := aAu Sgm.text (fun y => y.fw + 1) l fun x hx => aGo (List.all_eq_true.1 hin x hx) (h x hx); rw [Qry.text, Qry.fw, xL, oU, List.length_cons]; omega
theorem aFm (what : Int) (l : List Xpr) (op : List UInt8) (q : Qry) (v : Vlu) : (Xpr.mk what l op q v).text =
  (if what = 1 then Lib.join (oB 1 l) [32, 124, 124, 32]
  else if what = 2 then Lib.join (oB 2 l) [32, 38, 38, 32]
  else if what = 3 then
   (if (match l with | [x] => x.bare | _ => false) = true then 33 :: (oB 0 l).flatten else [33, 40] ++ (oB 0 l).flatten ++ [41])
  else if what = 4 then Lib.join (oB 0 l) (32 :: op ++ [32])
  else if what = 6 then q.text
  else if what = 7 then op ++ 40 :: Lib.join (oB 0 l) [44] ++ [41]
  else v.text) := rfl
theorem aGq {e : Xpr} (hn : e.fw <= 400) (h : ∀ x ∈ e.l, x.text.length + 410 <= 1000 * x.fw) (hq : e.q.text.length <= 1000 * e.q.fw + 1) : e.text.length + 410 <= 1000 * e.fw := by
 have hw := e.fw_eq; obtain ⟨what, l, op, q, v⟩ := e; simp only [Xpr.l, Xpr.op, Xpr.q, Xpr.v] at *; rw [mP] at hw
 have hj : ∀ (m : Int) (sep : List UInt8), sep.length <= 408 -> (Lib.join (oB m l) sep).length <= 1000 * (l.map Xpr.fw).sum := fun m sep hs => by
  rw [gG]; exact rQ (mH m) Xpr.fw sep l fun x hx => by have := aEA m x; have := h x hx; omega
 have hf : (oB 0 l).flatten.length <= 1000 * (l.map Xpr.fw).sum := by
  have := hj 0 [] (by simp)
  rwa [uJ] at this
 rw [aFm]
 split
 ·have := hj 1 [32, 124, 124, 32] (by decide); omega
 split
 ·have := hj 2 [32, 38, 38, 32] (by decide); omega
 split
 ·generalize (match l with | [x] => x.bare | _ => false) = b
  cases b
  ·simp only [Bool.false_eq_true, if_false, List.length_append, List.length_cons, List.length_nil]; omega
  ·simp only [if_true, List.length_cons]; omega
 split
 ·have := hj 0 (32 :: op ++ [32]) (by simp only [LN]; omega); omega
 split
 ·omega
 split
 ·have := hj 0 [44] (by decide); simp only [LN]; omega
 ·have := aDk v; omega
theorem aDl : ∀ n : Nat, n <= 400 -> (∀ e : Xpr, e.fw <= n -> e.inR = true -> e.text.length + 410 <= 1000 * e.fw) /\ ∀ q : Qry, q.fw <= n -> q.inR = true -> q.text.length <= 1000 * q.fw + 1 := by
 have hQ : ∀ (n : Nat), (∀ e : Xpr, e.fw < n -> e.inR = true -> e.text.length + 410 <= 1000 * e.fw) -> ∀ q : Qry, q.fw <= n -> q.inR = true -> q.text.length <= 1000 * q.fw + 1 := fun n ih q hq hin => by
  refine aGp hin fun x hx y hy e he => ?_; have h1 := zL hx; have h2 := aM hy; have h3 := wH he; have h4 := q.fw_eq; have h5 := x.fw_eq; have h6 := y.fw_eq
  have hi : e.inR = true := by
   obtain ⟨_, _⟩ := q; rw [Qry.inR, iI] at hin; have g1 := List.all_eq_true.1 hin x hx; obtain ⟨_, _⟩ := x; rw [Sgm.inR, jI] at g1; have g2 := List.all_eq_true.1 g1 y hy; obtain ⟨_, _, _, _, _, _⟩ := y; simp only [Slr.inR, Bool.and_eq_true] at g2; exact List.all_eq_true.1 ((oF _).symm.trans g2.2) e he
  have := ih e (by omega) hi; omega
 intro n
 induction n with
 | zero => exact fun _ => ⟨fun e he => absurd e.fw_pos (by omega), hQ 0 fun e he => absurd he (Nat.not_lt_zero _)⟩
 | succ n ih =>
  intro hn; have ih := ih (by omega); refine ⟨fun e he hin => ?_, hQ (n + 1) fun e he => ih.1 e (by omega)⟩; have hw := e.fw_eq
  have hin' : e.q.inR = true /\ ∀ x ∈ e.l, x.inR = true := by
   obtain ⟨_, l, _, _, _⟩ := e; simp only [Xpr.inR, Bool.and_eq_true] at hin; exact ⟨hin.1.2, List.all_eq_true.1 ((oF l).symm.trans hin.2)⟩
  exact aGq (by omega) (fun x hx => ih.1 x (by have := wH hx; have := e.fw_pos; omega) (hin'.2 x hx)) (ih.2 e.q (by omega) hin'.1)
theorem Qry.text_len {q : Qry} (h : q.fw <= 400) (hin : q.inR = true) : q.text.length <= 400001 := by
 have := (aDl 400 (Nat.le_refl _)).2 q h hin; omega
end
end Go.Proofs.YtbggkiebfflcdaaGreatDoor
