/-
  Joined by join.py: Gu Gv Gw Ha Hb
-/
import Derived.Test.YtbggkiebfflcdaaGreatDoorJpb14
set_option maxRecDepth 100000
set_option maxHeartbeats 32000000
namespace Go.Proofs.YtbggkiebfflcdaaGreatDoor
section
open Go.RowKit Go.Shelf
def ETC (x : Xpr) : Prop := ∀ (w : World) (N : Nat -> Prop) (cs : List Value), fA w N x.cells cs -> RV 46 #[.agg cs.toArray] w (.bool x.typed)
def QTC (q : Qry) : Prop := ∀ (w : World) (N : Nat -> Prop) (cs : List Value), fA w N q.cells cs -> RV 21 #[.agg cs.toArray] w (.bool q.typed)
section
variable {w : World} {N : Nat -> Prop} {cs : List Value}
theorem aBd {x : Xpr} (h : fA w N x.cells cs) (hx : ETC x) : RV 73 #[.agg cs.toArray] w (.bool (!x.typed)) := by
 refine cA fun R HQ => ?_; have hcl : cs.length = 13 := h.1.trans (lA x); have hc1 : (Tryz.prog.info? 109).map (·.size) = some cs.length := by rw [hcl]; exact nB
 have HC1 := lh hc1; have HH := lh h; clear h hcl hc1
 go_enter Tryz.func73, Tryz.ntmps73
 go_wp2_with (with_reducible refine kA rfl 109 (.tmp 0) rfl cs rfl ?_)
 intro w0 hb0 hf0 hz0; have HC := lh (hx w0 N cs (HH.out.fr hf0)); have HF0 := lh hf0; have HB0 := lh hb0; clear hf0 hb0
 go_wp2_with (with_reducible refine tA rfl 109 (.tmp 1) rfl rfl HB0.out Tryz.underlying109 rfl HC1.out ?_)
 refine HC.out.mono ?_; rintro e w2 ⟨rfl, hf2⟩; have HF2 := lh (HF0.out.trans hf2); clear hf2; go_wp2_with fail; exact HQ.out _ _ ⟨rfl, HF2.out⟩
theorem kZ {x : Xpr} (h : fA w N x.cells cs) (hx : ETC x) (ho : x.op.length <= 1000000) : RV 45 #[.agg cs.toArray] w (.bool (!(x.typed && x.truth))) := by
 refine cA fun R HQ => ?_; have hcl : cs.length = 13 := h.1.trans (lA x); have hc1 : (Tryz.prog.info? 109).map (·.size) = some cs.length := by rw [hcl]; exact nB
 have HC1 := lh hc1; have HH := lh h; clear h hcl hc1
 go_enter Tryz.func45, Tryz.ntmps45
 go_wp2_with (with_reducible refine kA rfl 109 (.tmp 0) rfl cs rfl ?_)
 intro w0 hb0 hf0 hz0; have HC := lh (hx w0 N cs (HH.out.fr hf0)); have HF0 := lh hf0; have HB0 := lh hb0; have HH0 := lh (HH.out.fr hf0); clear hf0 hb0
 go_wp2_with (with_reducible refine tA rfl 109 (.tmp 1) rfl rfl HB0.out Tryz.underlying109 rfl HC1.out ?_)
 refine HC.out.mono ?_; rintro e w2 ⟨rfl, hf2⟩; have HF2 := lh (HF0.out.trans hf2); have HB2 := lh (HB0.out.fr hf2); have HT := lh (cO (HH0.out.fr hf2) ho); have hra : w2.rangeAt w.heap.size 0 cs := fun j u hj => by rw [Nat.zero_add]; exact HB2.out.at_ hj
 have HRA := lh hra; clear hf2 hra; generalize x.typed = b at *
 cases b with
 | false =>
  go_wp2_with fail; exact HQ.out _ _ ⟨by simp, HF2.out⟩
 | true =>
  go_wp2_with (refine jE (by kernel_rfl) 109 (.tmp 1) rfl w.heap.size 0 rfl cs _ HRA.out Tryz.underlying109 rfl HC1.out ?_)
  refine HT.out.mono ?_; rintro e w3 ⟨rfl, hf3⟩; have HF3 := lh (HF2.out.trans hf3); clear hf3; go_wp2_with fail; exact HQ.out _ _ ⟨by simp, HF3.out⟩
theorem pT {q : Qry} (h : fA w N q.cells cs) (hw : q.wt <= 1000000) (hq : ∀ x ∈ q.fil, ETC x) : RV 21 #[.agg cs.toArray] w (.bool q.typed) := by
 refine cA fun R HQ => ?_; have hfl := q.fil_len; have hcl : cs.length = 2 := h.1.trans (by obtain ⟨_, _⟩ := q; rfl); have hc1 : (Tryz.prog.info? 25).map (·.size) = some cs.length := by rw [hcl]; kernel_rfl
 have HC1 := lh hc1; have HH := lh h; clear h hcl hc1
 go_enter Tryz.func21, Tryz.ntmps21
 go_wp2_with (with_reducible refine kA rfl 25 (.tmp 0) rfl cs rfl ?_)
 intro w0 hb0 hf0 hz0; have HC := lh (nR (HH.out.fr hf0) hw); have HF0 := lh hf0; have HB0 := lh hb0; clear hf0 hb0
 go_wp2_with (with_reducible refine tA rfl 25 (.tmp 1) rfl rfl HB0.out Tryz.underlying25 rfl HC1.out ?_)
 refine HC.out.mono ?_; rintro e w2 ⟨v, rfl, hcv, hf2⟩; obtain ⟨A, c, rfl, _⟩ := hcv.slice; have hlm : (q.fil.map Xpr.cells).length = q.fil.length := by simp
 rw [hlm] at hcv ⊢
 have HP := lh (gF hcv (by omega) (f := 45) (first := #[]) (cap := #[]) (all := fun v => #[v]) (fun v => rfl) (fun v w => by kernel_rfl) (fun x => !(x.typed && x.truth))
  (fun x hx w1 cs hf h1 => kZ h1 (hq x hx) (by have := Qry.fil_lt hx; have := x.wt_eq; omega)))
 have HE : Hid (q.typed = !(q.fil.any fun x => !(x.typed && x.truth))) := lh (by rw [Qry.typed_all, List.not_any_eq_all_not]; simp); have HF2 := lh (HF0.out.trans hf2); rw [HE.out] at HQ; generalize (q.fil.any fun x => !(x.typed && x.truth)) = b at *; clear hf2 hlm; go_wp2_with fail; refine HP.out.mono ?_; rintro e w3 ⟨rfl, hf3⟩; have HF3 := lh (HF2.out.trans hf3); clear hf3; go_wp2_with fail; exact HQ.out _ _ ⟨rfl, HF3.out⟩
theorem aBe {x : Xpr} (h : fA w N x.cells cs) (hw : x.wt <= 1000000) (hq : QTC x.q) (hl : ∀ y ∈ x.l, ETC y) : RV 46 #[.agg cs.toArray] w (.bool x.typed) := by
 refine cA fun R HQ => ?_; have hwe := x.wt_eq; have hll := yC x.l; have hcl : cs.length = 13 := h.1.trans (lA x); have hc1 : (Tryz.prog.info? 109).map (·.size) = some cs.length := by rw [hcl]; exact nB
 have HC1 := lh hc1; have HH := lh h; obtain ⟨Aq, cq, hc3, hc4, hrq⟩ := aL h; obtain ⟨A, c, hcx, hcv⟩ := aN h; have HRQ := lh hrq; have HCV := lh hcv; have HLL := lh (show x.l.length <= 1000000 by omega); have HFI := lh (fun W (hW : Fr [] w W) => aEp (h.fr hW) (by omega) (by omega) (fun y hy => by have := cC hy; have := y.wt_eq; have := y.q.len_le; constructor <;> omega)); clear h hcl hc1 hrq hcv hwe hll
 go_enter Tryz.func46, Tryz.ntmps46
 go_wp2_with (with_reducible refine kA rfl 109 (.tmp 0) rfl cs rfl ?_)
 intro w0 hb0 hf0 hz0; have HC := lh (HFI.out w0 hf0); have HF0 := lh hf0; have HB0 := lh hb0; have c1 := hb0.at_ hcx; have c3 := hb0.at_ hc3; have c4 := hb0.at_ hc4; clear hf0 hb0 hcx hc3 hc4
 go_wp2_with (with_reducible refine tA rfl 109 (.tmp 1) rfl rfl HB0.out Tryz.underlying109 rfl HC1.out ?_)
 refine HC.out.mono ?_; rintro e w2 ⟨rfl, hf2⟩; have HE : Hid (x.typed = (x.fits && x.q.typed && x.l.all Xpr.typed)) := lh x.typed_eq; have HF2 := lh (HF0.out.trans hf2); have k1 := bA hf2 c1; have k3 := bA hf2 c3; have k4 := bA hf2 c4; rw [HE.out] at HQ; have HQT := lh (hq w2 N _ (HRQ.out.fr HF2.out)); clear hf2 c1 c3 c4 HC HFI HB0 HH; generalize x.fits = b1 at *; generalize x.q.typed = b2 at *; generalize x.q.rel = rel at *; generalize x.q.l.length = qn at *
 cases b1 with
 | false =>
  go_wp2_with fail; exact HQ.out _ _ ⟨by simp, HF2.out⟩
 | true =>
  go_wp2_with fail; refine HQT.out.mono ?_; rintro e w3 ⟨rfl, hf3⟩; have HF3 := lh (HF2.out.trans hf3); have j1 := bA hf3 k1; clear hf3 k1 k3 k4
  cases b2 with
  | false =>
   go_wp2_with fail; exact HQ.out _ _ ⟨by simp, HF3.out⟩
  | true =>
   have hll : (x.l.map Xpr.cells).length = x.l.length := by simp
   have HP := lh (gF (A := A) (n := x.l.length) (cp := c) (HCV.out.fr HF3.out) (by have := HLL.out; omega) (f := 73) (first := #[]) (cap := #[]) (all := fun v => #[v]) (fun v => rfl) (fun v w => by kernel_rfl) (fun x => !x.typed)
    (fun x hx w1 cs hf h1 => aBd h1 (hl x hx)))
   have HA : Hid ((x.l.any fun x => !x.typed) = !x.l.all Xpr.typed) := lh (by rw [List.not_all_eq_any_not]); rw [HA.out] at HP; generalize x.l.all Xpr.typed = b3 at *; generalize x.l.length = n at *; clear hll; go_wp2_with fail; refine HP.out.mono ?_; rintro e w4 ⟨rfl, hf4⟩; have HF4 := lh (HF3.out.trans hf4); clear hf4; go_wp2_with fail; exact HQ.out _ _ ⟨by simp, HF4.out⟩
end
theorem aBf : ∀ n : Nat, n <= 1000000 -> (∀ q : Qry, q.wt <= n -> QTC q) /\ (∀ x : Xpr, x.wt <= n -> ETC x) := by
 intro n
 induction n with
 | zero =>
  intro _; refine ⟨fun q hq => fun w N cs h => pT h (by omega) (fun x hx => absurd (Qry.fil_lt hx) (by omega)), fun x hx => by have := x.wt_pos; omega⟩
 | succ n ih =>
  intro hn; obtain ⟨i1, i2⟩ := ih (by omega); refine ⟨fun q hq => fun w N cs h => pT h (by omega) (fun x hx => i2 x (by have := Qry.fil_lt hx; omega)), fun x hx => fun w N cs h => ?_⟩; have := x.wt_eq; exact aBe h (by omega) (i1 _ (by omega)) (fun y hy => i2 y (by have := cC hy; omega))
theorem Qry.typed_any {q : Qry} (hw : q.wt <= 1000000) : QTC q := (aBf _ (Nat.le_refl _)).1 q hw
theorem bN {l : List Xpr} {k : Nat} {x : Xpr} (h : l[k]? = some x) : aB (l.take (k + 1)) = aB (l.take k) + x.parts := by
 obtain ⟨hk, hx⟩ := List.getElem?_eq_some_iff.1 h; rw [List.take_succ_eq_append_getElem hk, hx, eF, aB, aB]; omega
theorem iQ (l : List Xpr) (k : Nat) : aB (l.take k) <= aB l := by
 conv => rhs; rw [<- List.take_append_drop k l, eF]
 omega
theorem qK : ∀ a b : List Sgm, iD (a ++ b) = iD a + iD b
 | [], b => by simp [iD]
 | x :: a, b => by rw [List.cons_append, iD, iD, qK a b]; omega
theorem lZ {l : List Sgm} {k : Nat} {x : Sgm} (h : l[k]? = some x) : iD (l.take (k + 1)) = iD (l.take k) + x.l.length := by
 obtain ⟨hk, hx⟩ := List.getElem?_eq_some_iff.1 h; rw [List.take_succ_eq_append_getElem hk, hx, qK, iD, iD]; omega
theorem aCM (l : List Sgm) (k : Nat) : iD (l.take k) <= iD l := by
 conv => rhs; rw [<- List.take_append_drop k l, qK]
 omega
def EPC (x : Xpr) : Prop := ∀ (w : World) (N : Nat -> Prop) (cs : List Value), fA w N x.cells cs -> RV 48 #[.agg cs.toArray] w (.int .i64 (x.parts : Nat))
def QPC (q : Qry) : Prop := ∀ (w : World) (N : Nat -> Prop) (cs : List Value), fA w N q.cells cs -> RV 22 #[.agg cs.toArray] w (.int .i64 (q.parts : Nat))
def aGz (m : Int) (l : List Xpr) (ln : Nat) (w : World) (j : Nat) (v3 v13 : Value) (wr : World) : Prop :=
 ∃ k : Nat, k + j = ln /\ v13 = .int .i64 (k : Int) /\ v3 = .int .i64 (m + (aB (l.take k) : Nat)) /\ Fr [] w wr
def PsRel (m : Int) (l : List Sgm) (ln : Nat) (w : World) (j : Nat) (v3 v13 : Value) (wr : World) : Prop :=
 ∃ k : Nat, k + j = ln /\ v13 = .int .i64 (k : Int) /\ v3 = .int .i64 (m + (iD (l.take k) : Nat)) /\ Fr [] w wr
section
variable {w : World} {N : Nat -> Prop} {cs : List Value}
theorem aBg {x : Xpr} (h : fA w N x.cells cs) (hw : x.wt <= 1000000) (hq : QPC x.q) (hl : ∀ y ∈ x.l, EPC y) : RV 48 #[.agg cs.toArray] w (.int .i64 (x.parts : Nat)) := by
 refine cA fun R HQ => ?_; have hwe := x.wt_eq; have hll := yC x.l; have hpl := x.parts_le; obtain ⟨Aq, cq, hc3, hc4, hrq⟩ := aL h; obtain ⟨A, c, hcx, hcv⟩ := aN h; have HRQ := lh hrq; have hxe := x.parts_eq; rw [hxe] at hpl HQ; have HQC := lh hq; have HLC := lh hl; obtain ⟨xl, hxl⟩ : ∃ xl, x.l = xl := ⟨_, rfl⟩; rw [hxl] at hcx hcv hll hpl HQ HLC; obtain ⟨A', c', g, off, hv, hA, hrow⟩ := hcv.row; injection hv with e1 e2 e3; subst e1 e3; have hlm : (xl.map Xpr.cells).length = xl.length := by simp
 rw [hlm] at hA; have HROW := lh hrow; have HA := lh hA; obtain ⟨ln, hln⟩ : ∃ ln, xl.length = ln := ⟨_, rfl⟩; have HLN := lh hln; rw [hln] at hcx hll; have hbig : ln <= 1000000 := by rw [hxl] at hwe; omega
 clear hrow hA h hq hl hcv hln hlm e2 hwe hrq hxe
 go_enter Tryz.func48, Tryz.ntmps48
 go_wp2_with (with_reducible refine kA rfl 109 (.tmp 0) rfl cs rfl ?_)
 intro w0 hb0 hf0 hz0; have HF0 := lh hf0; have c1 := hb0.at_ hcx; have c3 := hb0.at_ hc3; have c4 := hb0.at_ hc4; clear hf0 hb0 hcx hc3 hc4; have HQT := lh (HQC.out w0 N _ (HRQ.out.fr HF0.out)); generalize x.q.parts = qp at *; generalize x.q.rel = rel at *; generalize x.q.l.length = qn at *; have hqp : 1 + qp + aB xl <= 1000000 := by omega
 clear hpl hw hll; go_wp2_with fail; refine HQT.out.mono ?_; rintro e w2 ⟨rfl, hf2⟩; have HF2 := lh (HF0.out.trans hf2); have k1 := bA hf2 c1; clear hf2 c1 c3 c4; go_wp2_with fail
 go_loopg [3, 13] ln (fun j va vb wr => aGz (1 + (qp : Int)) xl ln w j va vb wr)
 case atStart => exact ⟨0, by omega, rfl, by simp [aB], HF2.out⟩
 case round =>
  obtain ⟨k, hk, rfl, rfl, hf⟩ := hrel; have HF := lh hf; clear hf
  by_cases hkl : k < ln
  ·obtain ⟨y, hy⟩ : ∃ y, xl[k]? = some y := gx (by rw [HLN.out]; exact hkl); obtain ⟨rfl, hNg⟩ := HA.out (by have := HLN.out; omega); obtain ⟨_, cs, hcs, hcell⟩ := HROW.out k y.cells (by rw [List.getElem?_map, hy]; rfl); have hcl : cs.length = 13 := hcs.1.trans (lA y); have hc1 : (Tryz.prog.info? 109).map (·.size) = some cs.length := by rw [hcl]; exact nB
   have hc2 : zx.length = cs.length := by rw [hcl]; rfl
   have hra : wr.rangeAt g (off + k * 13) cs := fun j u hj => by
    have := hcell j u hj; rw [show off + 13 * k + j = off + k * 13 + j by rw [Nat.mul_comm]] at this; exact bA HF.out this
   have hpt := bN hy; have hple := iQ xl (k + 1); have HC1 := lh hc1; have HC2 := lh hc2; have HRA := lh hra; have HCS := lh hcs; have HONE := lh hcs.one; have HYC := lh (HLC.out y (List.mem_of_getElem? hy)); have HPT := lh hpt; rw [hpt] at hple; have hl0 : 0 < ln := by omega
   clear hcs hcell hcl hc1 hc2 hra hy hpt; generalize aB (List.take k xl) = pk at *
   go_wp2_with (first
    | (with_reducible refine wpList_load_mid rfl 109 (.tmp 15) rfl g (off + k * 13) rfl cs _ HRA.out Tryz.underlying109 rfl HC1.out ?_)
    | (with_reducible refine xD rfl rfl 109 (.tmp 16) rfl rfl rfl rfl (.agg zx.toArray) zx uG vG cs rfl rfl HC1.out HC2.out HONE.out ?_))
   intro w4 hb4 hf4 hz4; have HB4 := lh hb4; have HF4 := lh (HF.out.trans hf4); have HYW := lh (HYC.out w4 _ cs (HCS.out.fr HF4.out)); clear hb4 hf4 HYC; generalize y.parts = yp at *
   go_wp2_with (with_reducible refine tA rfl 109 (.tmp 5) rfl rfl HB4.out Tryz.underlying109 rfl HC1.out ?_)
   refine HYW.out.mono ?_; rintro e w5 ⟨rfl, hf5⟩; have HF5 := lh (HF4.out.trans hf5); clear hf5; go_wp2_with fail
   go_roundg (ln - (k + 1))
   case measure => omega
   case rel => exact ⟨k + 1, by omega, by go_num, by rw [HPT.out]; go_num, HF5.out⟩
  ·have hte : xl.take k = xl := List.take_of_length_le (by rw [HLN.out]; omega); rw [hte]; clear hte; go_wp2_with fail; exact HQ.out _ _ ⟨by go_num, HF.out⟩
theorem qT {q : Qry} (h : fA w N q.cells cs) (hw : q.wt <= 1000000) (hq : ∀ x ∈ q.fil, EPC x) : RV 22 #[.agg cs.toArray] w (.int .i64 (q.parts : Nat)) := by
 refine cA fun R HQ => ?_; obtain ⟨As, c, rfl, hc⟩ := aC h; have hfl := q.fil_len; have hpl := q.parts_le; have hsl := q.len_le
 have HM : Hid (∀ x ∈ q.l, x.l.length <= 1000000) := lh fun x hx => by
  have := rC hx; have := zF x.l; rw [q.wt_eq] at hw; have := x.wt_eq; omega
 have hxe := q.parts_eq; rw [hxe] at hpl HQ; have HFIL := lh (fun W (hW : Fr [] w W) => nR (h.fr hW) hw); have HC1 : Hid ((Tryz.prog.info? 25).map (·.size) = some ([.bool q.rel, .slice As q.l.length c] : List Value).length) := lh (by kernel_rfl); obtain ⟨xl, hxl⟩ : ∃ xl, q.fil = xl := ⟨_, rfl⟩; rw [hxl] at hpl HQ HFIL hq hfl; have HLC := lh hq; obtain ⟨l, hl⟩ : ∃ l, q.l = l := ⟨_, rfl⟩; rw [hl] at hpl HQ hc HM HFIL HC1 hsl ⊢; generalize q.rel = rel at *; obtain ⟨A', c', gs, offs, hv, hA, hrow⟩ := hc.row; injection hv with e1 e2 e3; subst e1 e3; have hlm : (l.map Sgm.cells).length = l.length := by simp
 rw [hlm] at hA; have HROWS := lh hrow; have HAS := lh hA; obtain ⟨lns, hlns⟩ : ∃ lns, l.length = lns := ⟨_, rfl⟩; have HLNS := lh hlns; rw [hlns] at hpl HQ HFIL HC1 hsl ⊢; have hbound : lns + iD l + aB xl <= 1000000 := by omega
 have hxll : xl.length <= 1000000 := by omega
 clear hrow hA h hq hlm e2 hxe hc hlns hl hxl hpl hsl hfl hw
 go_enter Tryz.func22, Tryz.ntmps22
 go_wp2_with (with_reducible refine kA rfl 25 (.tmp 0) rfl [.bool rel, .slice As lns c] rfl ?_)
 intro w0 hb0 hf0 hz0; have HF0 := lh hf0; have HB0 := lh hb0; have c1 := hb0.at_ (i := 1) rfl; have hbl := hb0.lt; clear hb0 hf0; go_wp2_with fail
 go_loopg [3, 14] lns (fun j va vb wr => PsRel (lns : Int) l lns w0 j va vb wr)
 case atStart => exact ⟨0, by omega, rfl, by simp [iD], Fr.refl _ _⟩
 case round =>
  obtain ⟨k, hk, rfl, rfl, hf⟩ := hrel; have HF := lh hf; clear hf
  by_cases hkl : k < lns
  ·obtain ⟨y, hy⟩ : ∃ y, l[k]? = some y := gx (by rw [HLNS.out]; exact hkl); obtain ⟨rfl, hNg⟩ := HAS.out (by have := HLNS.out; omega); obtain ⟨_, cs, hcs, hcell⟩ := HROWS.out k y.cells (by rw [List.getElem?_map, hy]; rfl); have hyl := HM.out y (List.mem_of_getElem? hy); obtain ⟨B, d, rfl, hcx⟩ := iF hcs; have k0 := hcell 0 _ rfl; have k1 := hcell 1 _ rfl; rw [show offs + 2 * k + 0 = offs + k * 2 by omega] at k0; rw [show offs + 2 * k + 1 = offs + k * 2 + 1 by omega] at k1; have cc0 := bA HF.out (bA HF0.out k0); have cc1 := bA HF.out (bA HF0.out k1); have hpt := lZ hy; have hple := aCM l (k + 1); have HPT := lh hpt; rw [hpt] at hple; clear hcs hcell hcx k0 k1 hy hpt; generalize y.deep = dp at *; generalize y.l.length = yl at *; generalize iD (List.take k l) = pk at *; go_wp2_with fail
   go_roundg (lns - (k + 1))
   case measure => omega
   case rel => exact ⟨k + 1, by omega, by go_num, by rw [HPT.out]; go_num, HF.out.trans ((Fr.refl [] wr).alloc _)⟩
  ·have hte : l.take k = l := List.take_of_length_le (by rw [HLNS.out]; omega); rw [hte]; clear hte; have hra : wr.rangeAt w.heap.size 0 [.bool rel, .slice As lns c] := fun j u hj => by rw [Nat.zero_add]; exact (HB0.out.fr HF.out).at_ hj
   have HRA := lh hra; have HCF := lh (HFIL.out wr (HF0.out.trans HF.out)); have HBR := lh (HB0.out.fr HF.out); clear hra; generalize iD l = sl at *
   go_wp2_with (with_reducible refine tA rfl 25 (.tmp 1) rfl rfl HBR.out Tryz.underlying25 rfl HC1.out ?_)
   refine HCF.out.mono ?_; rintro e w5 ⟨v, rfl, hcv, hf5⟩; obtain ⟨A, c5, rfl, _⟩ := hcv.slice; obtain ⟨A', c', g, off, hv, hA, hrow⟩ := hcv.row; injection hv with e1 e2 e3; subst e1 e3; have hlm : (xl.map Xpr.cells).length = xl.length := by simp
   rw [hlm] at hA ⊢; have HROW := lh hrow; have HA := lh hA; have HFW := lh ((HF0.out.trans HF.out).trans hf5); obtain ⟨ln, hln⟩ : ∃ ln, xl.length = ln := ⟨_, rfl⟩; have HLN := lh hln; rw [hln] at hxll ⊢; clear hrow hA hcv hln hlm e2 hf5 HCF; go_wp2_with fail
   go_loopg [3, 27] ln (fun j va vb wr => aGz ((lns : Int) + (sl : Int)) xl ln w5 j va vb wr)
   case atStart => exact ⟨0, by omega, rfl, by simp [aB], (lh (Fr.refl [] w5)).out⟩
   case round =>
    obtain ⟨k, hk, rfl, rfl, hf⟩ := hrel; have HF := lh hf; clear hf
    by_cases hkl : k < ln
    ·obtain ⟨y, hy⟩ : ∃ y, xl[k]? = some y := gx (by rw [HLN.out]; exact hkl); obtain ⟨rfl, hNg⟩ := HA.out (by have := HLN.out; omega); obtain ⟨_, cs, hcs, hcell⟩ := HROW.out k y.cells (by rw [List.getElem?_map, hy]; rfl); have hcl : cs.length = 13 := hcs.1.trans (lA y); have hc1 : (Tryz.prog.info? 109).map (·.size) = some cs.length := by rw [hcl]; exact nB
     have hc2 : zx.length = cs.length := by rw [hcl]; rfl
     have hra : wr.rangeAt g (off + k * 13) cs := fun j u hj => by
      have := hcell j u hj; rw [show off + 13 * k + j = off + k * 13 + j by rw [Nat.mul_comm]] at this; exact bA HF.out this
     have hpt := bN hy; have hple := iQ xl (k + 1); have HC1 := lh hc1; have HC2 := lh hc2; have HRA := lh hra; have HCS := lh hcs; have HONE := lh hcs.one; have HYC := lh (HLC.out y (List.mem_of_getElem? hy)); have HPT := lh hpt; rw [hpt] at hple; have hl0 : 0 < ln := by omega
     clear hcs hcell hcl hc1 hc2 hra hy hpt; generalize aB (List.take k xl) = pk at *
     go_wp2_with (first
      | (with_reducible refine wpList_load_mid rfl 109 (.tmp 29) rfl g (off + k * 13) rfl cs _ HRA.out Tryz.underlying109 rfl HC1.out ?_)
      | (with_reducible refine xD rfl rfl 109 (.tmp 30) rfl rfl rfl rfl (.agg zx.toArray) zx uG vG cs rfl rfl HC1.out HC2.out HONE.out ?_))
     intro w4 hb4 hf4 hz4; have HB4 := lh hb4; have HF4 := lh (HF.out.trans hf4); have HYW := lh (HYC.out w4 _ cs (HCS.out.fr HF4.out)); clear hb4 hf4 HYC; generalize y.parts = yp at *
     go_wp2_with (with_reducible refine tA rfl 109 (.tmp 7) rfl rfl HB4.out Tryz.underlying109 rfl HC1.out ?_)
     refine HYW.out.mono ?_; rintro e w5 ⟨rfl, hf5⟩; have HF5 := lh (HF4.out.trans hf5); clear hf5; go_wp2_with fail
     go_roundg (ln - (k + 1))
     case measure => omega
     case rel => exact ⟨k + 1, by omega, by go_num, by rw [HPT.out]; go_num, HF5.out⟩
    ·have hte : xl.take k = xl := List.take_of_length_le (by rw [HLN.out]; omega); rw [hte]; clear hte; go_wp2_with fail; exact HQ.out _ _ ⟨by go_num, (HFW.out.trans HF.out)⟩
end
theorem aBh : ∀ n : Nat, n <= 1000000 -> (∀ q : Qry, q.wt <= n -> QPC q) /\ (∀ x : Xpr, x.wt <= n -> EPC x) := by
 intro n
 induction n with
 | zero =>
  intro _; refine ⟨fun q hq => fun w N cs h => qT h (by omega) (fun x hx => absurd (Qry.fil_lt hx) (by omega)), fun x hx => by have := x.wt_pos; omega⟩
 | succ n ih =>
  intro hn; obtain ⟨i1, i2⟩ := ih (by omega); refine ⟨fun q hq => fun w N cs h => qT h (by omega) (fun x hx => i2 x (by have := Qry.fil_lt hx; omega)), fun x hx => fun w N cs h => ?_⟩; have := x.wt_eq; exact aBg h (by omega) (i1 _ (by omega)) (fun y hy => i2 y (by have := cC hy; omega))
theorem Qry.parts_any {q : Qry} (hw : q.wt <= 1000000) : QPC q := (aBh _ (Nat.le_refl _)).1 q hw
def rT (w : World) (txt : List UInt8) (e : Ending) (w' : World) : Prop :=
 match qD txt with
 | .error er => e = .returned (.tuple #[.agg #[.bool false, .slice none 0 0], .int .i64 er]) /\ Fr [] w w'
 | .ok q => ∃ cs, e = .returned (.tuple #[.agg cs.toArray, .int .i64 0]) /\ fA w' (fun g => w.heap.size <= g) q.cells cs /\ Fr [] w w'
theorem zI {w w' : World} {txt : List UInt8} {er : Int} (h : qD txt = .error er) (hf : Fr [] w w') : rT w txt (.returned (.tuple #[.agg #[.bool false, .slice none 0 0], .int .i64 er])) w' := by
 unfold rT; rw [h]; exact ⟨rfl, hf⟩
theorem aEs {w w' : World} {txt : List UInt8} {q : Qry} {cs : List Value} (h : qD txt = .ok q) (hr : fA w' (fun g => w.heap.size <= g) q.cells cs) (hf : Fr [] w w') : rT w txt (.returned (.tuple #[.agg cs.toArray, .int .i64 0])) w' := by
 unfold rT; rw [h]; exact ⟨cs, rfl, hr, hf⟩
theorem mZ {txt : List UInt8} {ts : List Tkn} (h : vD txt = .ok ts) : qD txt = match oM txt ts.length ⟨ts, 0⟩ with
  | none => .error 2
  | some (q, s) => if s.l = [] then (if 32 < s.most then .error 3 else if q.typed = false then .error 8 else if 512 < q.parts then .error 4 else .ok q) else .error 2 := by
 unfold qD xR oM; rw [h]
 simp only
 by_cases h1 : QS.next ⟨ts, 0⟩ [36] = true
 ·rw [if_pos h1, if_pos h1]
  cases wD txt (tE txt ts.length).fst 0 false (QS.go ⟨ts, 0⟩) with
  | none => rfl
  | some y =>
   obtain ⟨q, s⟩ := y
   simp only
   by_cases hs : s.l = []
   ·rw [if_pos hs, if_pos hs]
   ·rw [if_neg hs, if_neg hs]
 ·rw [if_neg h1, if_neg h1]
theorem aEt {txt : List UInt8} {ts : List Tkn} {q : Qry} {s : QS} (h : oM txt ts.length ⟨ts, 0⟩ = some (q, s)) : q.wt <= 8 * ts.length := by
 unfold oM at h
 split at h
 ·rename_i hn
  have h1 := mD hn; have h2 := lV (dQ _).1 0 _ _ _ _ h
  simp only at h1
  omega
 ·cases h
theorem aEu : (Tryz.prog.info? 25).map (·.zero) = some (some (.agg ([.bool false, .slice none 0 0] : List Value).toArray)) := by kernel_rfl
theorem vV {w : World} (hg : nI w) (h16 : 8 <= w.heap.size) (txt : ByteArray) (hz : txt.size <= 100000) : Calls Tryz.prog 10 #[.string txt] w (rT w (aA txt)) := by
 refine cA fun R HQ => ?_; have HG := lh hg; have HC1 : Hid ((Tryz.prog.info? 25).map (·.size) = some ([.bool false, .slice none 0 0] : List Value).length) := lh tH; clear hg
 go_enter Tryz.func10, Tryz.ntmps10
 go_wp2_with fail; have hz0 := Blk.new w 25 [.bool false, .slice none 0 0]; have hf0 : Fr [] w (w.alloc (.cells #[.bool false, .slice none 0 0] 25)) := (Fr.refl [] w).alloc _; generalize w.alloc (.cells #[.bool false, .slice none 0 0] 25) = w0 at *; have HZ0 := lh hz0; have HF0 := lh hf0; have HC := lh (aFx (w := w0) txt hz); have hs0 := hf0.size; have hs1 := hz0.lt; clear hz0 hf0; refine HC.out.mono ?_; rintro e w1 ⟨hf1, ht⟩; have HZ1 := lh (HZ0.out.fr hf1); have HF1 := lh (HF0.out.trans hf1); have hs2 := hf1.size; clear hf1 HC HZ0 HF0
 cases hT : vD (aA txt) with
 | error er =>
  rw [hT] at ht; obtain ⟨rfl, her⟩ := ht; have HE : Hid (qD (aA txt) = .error er) := lh (by unfold qD; rw [hT]); have d0 : (er != 0) = true := by rw [bne_iff_ne]; exact her
  clear hT her
  go_wp2_with (with_reducible refine yA rfl 25 (.tmp 2) (.tmp 16) rfl [.bool false, .slice none 0 0] rfl rfl HZ1.out HC1.out rfl (by simp [Value.oneCell']) ?_)
  intro w9 hb9 hf9 hz9; have HB9 := lh hb9; have HF9 := lh (HF1.out.trans hf9 (fun x hx => .inr (by simp at hx; omega))); clear hb9 hf9 hz9; go_wp2_with fail; exact bodyPost_ret (qA rfl rfl HB9.out Tryz.underlying25 rfl tH) rfl (HQ.out _ _ (zI HE.out HF9.out))
 | ok ts =>
  rw [hT] at ht; obtain ⟨v, rfl, how, hgo⟩ := ht; have HE0 := lh (mZ hT); obtain ⟨gl, hsl, hgl, hgl0⟩ := qW.of_own how 0; obtain ⟨A, c, off, hv, -⟩ := id hsl; subst hv; have HSL := lh hsl; have HGL : Hid (0 < ts.length -> gl < w1.heap.size) := lh fun h => wO how gl (hgl h); have hok := (wQ hT).2; have hnm := cX hT; have hln := aAA hT; have HOK := lh hok; have HNM := lh hnm; have HLN := lh hln; clear how hgo hsl hgl hgl0 hok hnm hln hT; go_upto_region 5 with fail
  have hfa : Fr [] w1 (w1.alloc (.cells #[.string txt, .slice A ts.length c, .int .i64 0, .int .i64 0] 62)) := (Fr.refl [] w1).alloc _; have hba := Blk.new w1 62 [.string txt, .slice A ts.length c, .int .i64 0, .int .i64 0]; generalize w1.alloc (.cells #[.string txt, .slice A ts.length c, .int .i64 0, .int .i64 0] 62) = w2 at *; have hr : vC w2 w1.heap.size gl txt 0 ⟨ts, 0⟩ := ⟨(HG.out.fr HF1.out).fr hfa, by omega, HGL.out, ⟨_, hba, HSL.out.fr hfa⟩, fun t ht => by have := HOK.out t ht; rwa [dA] at this, HLN.out, ⟨Int.le_refl 0, (by decide : (0 : Int) <= 100000)⟩, ⟨Int.le_refl 0, (by decide : (0 : Int) <= 100000)⟩, hz, fun t ht hk => Nat.le_trans (HNM.out t ht hk) (by decide)⟩; have HWQ := lh (aFI hr (Nat.le_refl _)); have HF2 := lh (HF1.out.trans hfa); have HZ2 := lh (HZ1.out.fr hfa); have hs3 := hba.lt; have hsl2 := hfa.size; clear hfa hba hr
  cases hX : oM (aA txt) ts.length ⟨ts, 0⟩ with
  | none =>
   have HE : Hid (qD (aA txt) = .error 2) := lh (by rw [HE0.out, hX]); rw [hX] at HWQ; clear hX; go_wp2_with fail; refine HWQ.out.mono ?_; rintro e w3 ⟨rfl, hf3⟩; have HZ3 := lh (HZ2.out.fr hf3 (by simp; omega)); have HF3 := lh (HF2.out.trans hf3 (fun x hx => .inr (by simp at hx; omega))); have hs4 := hf3.size; clear hf3
   go_wp2_with (first
    | (with_reducible refine xD rfl rfl 25 (.tmp 25) rfl rfl rfl rfl (.agg ([.bool false, .slice none 0 0] : List Value).toArray) [.bool false, .slice none 0 0] aEu rfl [.bool false, .slice none 0 0] rfl rfl HC1.out rfl (by simp [Value.oneCell']) ?_))
   intro w4 hb4 hf4 hz4; have HZ4 := lh (HZ3.out.fr hf4); have HF4 := lh (HF3.out.trans hf4); clear hf4 hb4
   go_wp2_with (with_reducible refine yA rfl 25 (.tmp 2) (.tmp 30) rfl [.bool false, .slice none 0 0] rfl rfl HZ4.out HC1.out rfl (by simp [Value.oneCell']) ?_)
   intro w9 hb9 hf9 hz9; have HB9 := lh hb9; have HF9 := lh (HF4.out.trans hf9 (fun x hx => .inr (by simp at hx; omega))); clear hb9 hf9 hz9; go_wp2_with fail; exact bodyPost_ret (qA rfl rfl HB9.out Tryz.underlying25 rfl tH) rfl (HQ.out _ _ (zI HE.out HF9.out))
  | some y =>
   obtain ⟨q, s⟩ := y; rw [hX] at HWQ HE0; have hwt := aEt hX; have hln := HLN.out; have hq6 : q.wt <= 1000000 := by omega
   clear hX hwt hln; go_wp2_with fail; refine HWQ.out.mono ?_; rintro e w3 ⟨cs, rfl, hcs, hr3, hf3⟩; have HZ3 := lh (HZ2.out.fr hf3 (by simp; omega)); have HF3 := lh (HF2.out.trans hf3 (fun x hx => .inr (by simp at hx; omega))); have hs4 := hf3.size; have hcl : cs.length = 2 := hcs.1.trans (by obtain ⟨_, _⟩ := q; rfl); have HC2 : Hid ((Tryz.prog.info? 25).map (·.size) = some cs.length) := lh (by rw [hcl]; exact tH); have HCL : Hid (([.bool false, .slice none 0 0] : List Value).length = cs.length) := lh (by rw [hcl]; rfl); have HCN := lh hcl; have HO := lh hcs.one; have HCS := lh (hcs.mono (M := fun g => w.heap.size < g) (fun g hg => by omega)); have HR3 := lh hr3; obtain ⟨sl, hsl⟩ : ∃ b, decide (s.l = []) = b := ⟨_, rfl⟩; rw [hsl]; have HSL2 := lh hsl; clear hf3 hcs hcl hr3 hsl
   go_wp2_with (first
    | (with_reducible refine xD rfl rfl 25 (.tmp 25) rfl rfl rfl rfl (.agg ([.bool false, .slice none 0 0] : List Value).toArray) [.bool false, .slice none 0 0] aEu rfl cs rfl rfl HC2.out HCL.out HO.out ?_))
   intro w4 hb4 hf4 hz4; have HZ4 := lh (HZ3.out.fr hf4); have HF4 := lh (HF3.out.trans hf4); have HB4 := lh hb4; have HR4 := lh (HR3.out.fr hf4); have HCS4 := lh (HCS.out.fr hf4); clear hf4 hb4
   cases sl with
   | false =>
    have HE : Hid (qD (aA txt) = .error 2) := lh (by rw [HE0.out]; show (if s.l = [] then _ else _) = _; rw [if_neg (of_decide_eq_false HSL2.out)])
    go_wp2_with (with_reducible refine yA rfl 25 (.tmp 2) (.tmp 30) rfl [.bool false, .slice none 0 0] rfl rfl HZ4.out HC1.out rfl (by simp [Value.oneCell']) ?_)
    intro w9 hb9 hf9 hz9; have HB9 := lh hb9; have HF9 := lh (HF4.out.trans hf9 (fun x hx => .inr (by simp at hx; omega))); clear hb9 hf9 hz9; go_wp2_with fail; exact bodyPost_ret (qA rfl rfl HB9.out Tryz.underlying25 rfl tH) rfl (HQ.out _ _ (zI HE.out HF9.out))
   | true =>
    have HE1 : Hid (qD (aA txt) = if 32 < s.most then .error 3 else if q.typed = false then .error 8 else if 512 < q.parts then .error 4 else .ok q) := lh (by rw [HE0.out]; show (if s.l = [] then _ else _) = _; rw [if_pos (of_decide_eq_true HSL2.out)]); obtain ⟨vr, hbr, -⟩ := HR4.out.at_; have m3 := hbr.at_ (i := 3) rfl; have hm := HR4.out.most; obtain ⟨mo, hmo⟩ : ∃ mo, s.most = mo := ⟨_, rfl⟩; rw [hmo] at m3 hm HE1; have HQT := lh (Qry.typed_any hq6 w4 _ cs HCS4.out); clear hbr hmo HR4 HR3 HWQ HE0 HZ3 HF3
    by_cases h32 : 32 < mo
    ·have HE : Hid (qD (aA txt) = .error 3) := lh (by rw [HE1.out, if_pos h32]); have d1 : decide (32 < mo) = true := decide_eq_true h32; clear h32
     go_wp2_with (with_reducible refine yA rfl 25 (.tmp 2) (.tmp 37) rfl [.bool false, .slice none 0 0] rfl rfl HZ4.out HC1.out rfl (by simp [Value.oneCell']) ?_)
     intro w9 hb9 hf9 hz9; have HB9 := lh hb9; have HF9 := lh (HF4.out.trans hf9 (fun x hx => .inr (by simp at hx; omega))); clear hb9 hf9 hz9; go_wp2_with fail; exact bodyPost_ret (qA rfl rfl HB9.out Tryz.underlying25 rfl tH) rfl (HQ.out _ _ (zI HE.out HF9.out))
    ·have HE2 : Hid (qD (aA txt) = if q.typed = false then .error 8 else if 512 < q.parts then .error 4 else .ok q) := lh (by rw [HE1.out, if_neg h32]); have d1 : decide (32 < mo) = false := decide_eq_false h32; clear h32
     go_wp2_with (with_reducible refine tA rfl 25 (.tmp 7) rfl rfl HB4.out Tryz.underlying25 rfl HC2.out ?_)
     refine HQT.out.mono ?_; rintro e w5 ⟨rfl, hf5⟩; have HZ5 := lh (HZ4.out.fr hf5); have HF5 := lh (HF4.out.trans hf5); have HB5 := lh (HB4.out.fr hf5); have HCS5 := lh (HCS4.out.fr hf5); have hqt : ∃ b, q.typed = b := ⟨_, rfl⟩; obtain ⟨b, hqt⟩ := hqt; rw [hqt] at HE2 ⊢; clear hf5 hqt HQT m3
     cases b with
     | false =>
      have HE : Hid (qD (aA txt) = .error 8) := lh (by rw [HE2.out, if_pos rfl])
      go_wp2_with (with_reducible refine yA rfl 25 (.tmp 2) (.tmp 42) rfl [.bool false, .slice none 0 0] rfl rfl HZ5.out HC1.out rfl (by simp [Value.oneCell']) ?_)
      intro w9 hb9 hf9 hz9; have HB9 := lh hb9; have HF9 := lh (HF5.out.trans hf9 (fun x hx => .inr (by simp at hx; omega))); clear hb9 hf9 hz9; go_wp2_with fail; exact bodyPost_ret (qA rfl rfl HB9.out Tryz.underlying25 rfl tH) rfl (HQ.out _ _ (zI HE.out HF9.out))
     | true =>
      have HE3 : Hid (qD (aA txt) = if 512 < q.parts then .error 4 else .ok q) := lh (by rw [HE2.out, if_neg (by simp)]); have HQP := lh (Qry.parts_any hq6 w5 _ cs HCS5.out); have hpl := q.parts_le; obtain ⟨qp, hqp⟩ : ∃ qp, q.parts = qp := ⟨_, rfl⟩; rw [hqp] at HE3 HQP hpl; clear hqp
      go_wp2_with (with_reducible refine tA rfl 25 (.tmp 7) rfl rfl HB5.out Tryz.underlying25 rfl HC2.out ?_)
      refine HQP.out.mono ?_; rintro e w6 ⟨rfl, hf6⟩; have HZ6 := lh (HZ5.out.fr hf6); have HF6 := lh (HF5.out.trans hf6); have HB6 := lh (HB5.out.fr hf6); have HCS6 := lh (HCS5.out.fr hf6); clear hf6 HQP
      by_cases h512 : 512 < qp
      ·have HE : Hid (qD (aA txt) = .error 4) := lh (by rw [HE3.out, if_pos h512]); have d2 : decide (512 < (qp : Int)) = true := dT (by omega)
       clear h512
       go_wp2_with (with_reducible refine yA rfl 25 (.tmp 2) (.tmp 47) rfl [.bool false, .slice none 0 0] rfl rfl HZ6.out HC1.out rfl (by simp [Value.oneCell']) ?_)
       intro w9 hb9 hf9 hz9; have HB9 := lh hb9; have HF9 := lh (HF6.out.trans hf9 (fun x hx => .inr (by simp at hx; omega))); clear hb9 hf9 hz9; go_wp2_with fail; exact bodyPost_ret (qA rfl rfl HB9.out Tryz.underlying25 rfl tH) rfl (HQ.out _ _ (zI HE.out HF9.out))
      ·have HE : Hid (qD (aA txt) = .ok q) := lh (by rw [HE3.out, if_neg h512]); have d2 : decide (512 < (qp : Int)) = false := dF (by omega)
       clear h512
       go_wp2_with (first
        | (with_reducible refine tA rfl 25 (.tmp 7) rfl rfl HB6.out Tryz.underlying25 rfl HC2.out ?_)
        | (with_reducible refine yA rfl 25 (.tmp 2) (.tmp 48) rfl cs rfl rfl HZ6.out HC2.out HCL.out HO.out ?_))
       intro w9 hb9 hf9 hz9; have HB9 := lh hb9; have HF9 := lh (HF6.out.trans hf9 (fun x hx => .inr (by simp at hx; omega))); have HCS9 := lh ((HCS6.out.fr hf9 (fun g hg => by simp; omega)).mono (M := fun g => w.heap.size <= g) (fun g hg => Nat.le_of_lt hg)); clear hb9 hf9 hz9; go_wp2_with fail; exact bodyPost_ret (qA rfl rfl HB9.out Tryz.underlying25 rfl (by rw [HCN.out]; exact tH)) rfl (HQ.out _ _ (aEs HE.out HCS9.out HF9.out))
def bldW : Ren := ⟨fun | 167 => 140 | n => Tryz.lays156_ren.f n, Tryz.lays156_ren.t, fun n => n⟩
theorem aFJ : Go.Proofs.Lays.n167 Tryz.prog bldW := {
 mixed := by kernel_rfl
 f167 := Tryz.func140.trans (congrArg some (by kernel_rfl))
 f240 := Tryz.func138.trans (congrArg some (by kernel_rfl))
 f276 := Tryz.func177.trans (congrArg some (by kernel_rfl))
 t0 := Tryz.lays156.t0, a0 := Tryz.lays156.a0, z0 := Tryz.lays156.z0, v0 := Tryz.lays156.v0
 t4 := Tryz.lays156.t4, a4 := Tryz.lays156.a4, z4 := Tryz.lays156.z4, v4 := Tryz.lays156.v4
 t5 := Tryz.Builder_Extra_156.t5, a5 := Tryz.Builder_Extra_156.a5, z5 := Tryz.Builder_Extra_156.z5, v5 := Tryz.Builder_Extra_156.v5
 t9 := Tryz.lays156.t9, a9 := Tryz.lays156.a9, z9 := Tryz.lays156.z9, v9 := Tryz.lays156.v9
 t20 := Tryz.lays156.t20, a20 := Tryz.lays156.a20, z20 := Tryz.lays156.z20, v20 := Tryz.lays156.v20
 t37 := Tryz.lays156.t37, a37 := Tryz.lays156.a37, z37 := Tryz.lays156.z37, v37 := Tryz.lays156.v37
 t70 := Tryz.lays156.t70, a70 := Tryz.lays156.a70, z70 := Tryz.lays156.z70, v70 := Tryz.lays156.v70
 t72 := Tryz.lays156.t72, a72 := Tryz.lays156.a72, z72 := Tryz.lays156.z72, v72 := Tryz.lays156.v72
 t75 := Tryz.lays156.t75, a75 := Tryz.lays156.a75, z75 := Tryz.lays156.z75, v75 := Tryz.lays156.v75
 t164 := Tryz.lays156.t164, a164 := Tryz.lays156.a164, z164 := Tryz.lays156.z164, v164 := Tryz.lays156.v164 }
theorem aEv : Builder.Extra Tryz.prog bldW := {
 sizeBuilder := by kernel_rfl
 liesBuilder := by kernel_rfl
 t5 := Tryz.Builder_Extra_156.t5, a5 := Tryz.Builder_Extra_156.a5, z5 := Tryz.Builder_Extra_156.z5, v5 := Tryz.Builder_Extra_156.v5
 infoByte := by kernel_rfl
 cellsByte := by kernel_rfl
 sizeByte := by kernel_rfl
 neB5 := by decide }
def BldAt (w : World) (b : Nat) (l : List UInt8) : Prop := Lib.IsBuilderF 151 5 b b (Lib.byteCells l) w
structure cN (w0 w : World) (b : Nat) (l : List UInt8) : Prop where
 lo : w0.heap.size <= b
 lt : b < w.heap.size
 bld : BldAt w b l
 fr : Fr [] w0 w
theorem Fr.low {w0 w w' : World} {b : Nat} (h : Fr [] w0 w) (hb : w0.heap.size <= b) (k : Below b w w') : Fr [] w0 w' :=
 ⟨k.os.trans h.os, k.tape.trans h.tape, k.output.trans h.output, Nat.le_trans h.size k.size, fun i hi hn => (k.block i (by omega)).trans (h.block i hi hn)⟩
theorem vU (c : UInt8) : Lib.byteCells [c] = [.int .u8 (c.toNat : Int)] := rfl
theorem jX {w0 w : World} {b : Nat} (hb : Blk w b 151 [.pointer none, .slice none 0 0]) (hf : Fr [] w0 w) (hlo : w0.heap.size <= b) : cN w0 w b [] :=
 ⟨hlo, hb.lt, .inl ⟨Nat.le_refl _, .slice none 0 0, hb, ⟨rfl, .inl ⟨rfl, rfl⟩⟩, by simp [Value.ownBlock]⟩, hf⟩
theorem fD {w0 w : World} {b : Nat} {l : List UInt8} (h : cN w0 w b l) (c : UInt8) (hl : l.length <= 1000000000) {x : Int} (hx : x = (c.toNat : Int)) : Calls Tryz.prog 140 #[.pointer (some ⟨b, 0, none⟩), .int .u8 x] w fun e w' => e = .returned .nilIface /\ cN w0 w' b (l ++ [c]) := by
 subst hx; refine (Any.Builder_WriteByte_k aFJ aEv b b (Lib.byteCells l) (c.toNat : Int) w h.bld (by rw [Lib.byteCells_length]; omega) (Nat.le_of_lt h.lt)).mono ?_; rintro e w' ⟨rfl, hb, hl, -⟩; rw [<- vU, <- Lib.byteCells_append] at hb; exact ⟨rfl, h.lo, Nat.lt_of_lt_of_le h.lt hl.size, .inr hb, h.fr.low h.lo hl⟩
theorem bL {w0 w : World} {b : Nat} {l : List UInt8} (h : cN w0 w b l) (s : ByteArray) (hl : l.length + s.size <= 1000000000) : Calls Tryz.prog 90 #[.pointer (some ⟨b, 0, none⟩), .string s] w fun e w' => e = .returned (.tuple #[.int .i64 s.size, .nilIface]) /\ cN w0 w' b (l ++ aA s) := by
 refine (Any.Builder_WriteString_k { Tryz.lays156 with } Tryz.Builder_Extra_156 b b (Lib.byteCells l) s w h.bld (by rw [Lib.byteCells_length]; omega) (Nat.le_of_lt h.lt)).mono ?_; rintro e w' ⟨rfl, hb, hl, -⟩; rw [Lib.strCells_eq, <- Lib.byteCells_append] at hb; exact ⟨rfl, h.lo, Nat.lt_of_lt_of_le h.lt hl.size, .inr hb, h.fr.low h.lo hl⟩
theorem sT {w0 w : World} {b : Nat} {l : List UInt8} (h : cN w0 w b l) : Calls Tryz.prog 91 #[.pointer (some ⟨b, 0, none⟩)] w fun e w' => e = .returned (.string ⟨l.toArray⟩) /\ Fr [] w0 w' := by
 refine (Tryz.Builder_String_any_k b b l w h.bld (Nat.le_of_lt h.lt)).mono ?_; rintro e w' ⟨rfl, -, hl, -⟩; exact ⟨rfl, h.fr.low h.lo hl⟩
def jQ (c : UInt8) : Option Nat := if c = 8 then some 0 else if c = 9 then some 1 else if c = 10 then some 2 else if c = 12 then some 3 else if c = 13 then some 4 else none
theorem aFK (c : UInt8) : Lib.indexByte ctlL c = gJ (jQ c) := eq_of_beq (wC (fun c => Lib.indexByte ctlL c == gJ (jQ c)) (by decide +kernel) c)
theorem aCN (c : UInt8) (h1 : c ≠ 34) (h2 : c ≠ 92) : match jQ c with | none => True | some d => ∃ x, ctlN[d]? = some x /\ cD c = [92, x] := by
 have := wC (fun c => decide (c = 34 ∨ c = 92) || (match jQ c with | none => true | some d => decide (d < 5) && decide (cD c = [92, ctlN.getD d 0]))) (by decide +kernel) c; rw [Bool.or_eq_true] at this; rcases this with h | h
 ·rcases of_decide_eq_true h with h | h
  ·exact absurd h h1
  ·exact absurd h h2
 ·split
  ·trivial
  ·rename_i d hd
   rw [hd] at h; simp only [Bool.and_eq_true, decide_eq_true_eq] at h; refine ⟨ctlN.getD d 0, ?_, h.2⟩; have : d < ctlN.length := h.1; rw [List.getElem?_eq_getElem this, List.getD_eq_getElem?_getD, List.getElem?_eq_getElem this]; rfl
theorem aFL (c : UInt8) (h1 : c ≠ 34) (h2 : c ≠ 92) (h3 : jQ c = none) : cD c = if c.toNat < 32 then [92, 117, 48, 48, sI (c.toNat / 16), sI (c.toNat % 16)] else [c] := by
 have := wC (fun c => decide (c = 34 ∨ c = 92) || (match jQ c with | none => decide (cD c = if c.toNat < 32 then [92, 117, 48, 48, sI (c.toNat / 16), sI (c.toNat % 16)] else [c]) | some d => true)) (by decide +kernel) c; rw [Bool.or_eq_true] at this; rcases this with h | h
 ·rcases of_decide_eq_true h with h | h
  ·exact absurd h h1
  ·exact absurd h h2
 ·rw [h3] at h; exact of_decide_eq_true h
theorem tT (c : UInt8) : (cD c).length <= 6 := by
 have := wC (fun c => decide ((cD c).length <= 6)) (by decide +kernel) c; exact of_decide_eq_true this
theorem kX : ∀ l : List UInt8, (l.flatMap cD).length <= 6 * l.length
 | [] => by simp
 | c :: l => by
  have := kX l; have := tT c; rw [List.flatMap_cons, List.length_append, List.length_cons]; omega
theorem dO {α β : Type} (f : α -> List β) {l : List α} {k : Nat} {x : α} (h : l[k]? = some x) : (l.take (k + 1)).flatMap f = (l.take k).flatMap f ++ f x := by
 obtain ⟨hk, hx⟩ := List.getElem?_eq_some_iff.1 h; rw [List.take_succ_eq_append_getElem hk, hx]
 simp
theorem aEw : ∀ n : Fin 16, (⟨#[48, 49, 50, 51, 52, 53, 54, 55, 56, 57, 97, 98, 99, 100, 101, 102]⟩ : ByteArray)[n.val]'(by exact n.isLt) = sI n.val := by decide
def aGA (w : World) (b : Nat) (f : UInt8 -> List UInt8) (h : UInt8) (l : List UInt8) (n : Nat) (j : Nat) (v : Value) (wr : World) : Prop :=
 ∃ k : Nat, k + j = n /\ v = .int .i64 (k : Int) /\ cN w wr b (h :: (l.take k).flatMap f)
theorem aFM {w : World} (s : ByteArray) (hz : s.size <= 100000000) : RV 141 #[.string s] w (.string ⟨(pK (aA s)).toArray⟩) := by
 refine cA fun R HQ => ?_
 go_enter Tryz.func141, Tryz.ntmps141
 go_wp2_with fail; have hb := Blk.new w 151 [.pointer none, .slice none 0 0]; have hf : Fr [] w (w.alloc (.cells #[.pointer none, .slice none 0 0] 151)) := (Fr.refl [] w).alloc _; generalize w.alloc (.cells #[.pointer none, .slice none 0 0] 151) = w0 at *; refine (fD (jX hb hf (Nat.le_refl _)) 34 (by simp) rfl).mono ?_; rintro e w1 ⟨rfl, hb1⟩; have HB1 := lh hb1; clear hb hf hb1; have hlen := dA s; obtain ⟨l, hl⟩ : ∃ l, aA s = l := ⟨_, rfl⟩; obtain ⟨n, hn⟩ : ∃ n, s.size = n := ⟨_, rfl⟩; have HL := lh hl; rw [hl, hn] at hlen; rw [hl] at HQ; rw [hn] at hz; have HN := lh hn; have HLN := lh hlen; go_wp2_with fail; clear hl hn hlen
 go_loopg [10] n (fun j v wr => aGA w w.heap.size cD 34 l n j v wr)
 case atStart => exact ⟨0, by omega, rfl, by simpa using HB1.out⟩
 case round =>
  obtain ⟨k, hk, rfl, hbk⟩ := hrel; have HB := lh hbk; clear hbk
  have hlk : (34 :: (l.take k).flatMap cD).length <= 600000001 := by
   have := kX (l.take k); rw [List.length_take, HLN.out] at this; rw [List.length_cons]; omega
  have HLK := lh hlk
  by_cases hkn : k < n
  ·obtain ⟨c, hc⟩ : ∃ c, l[k]? = some c := gx (by rw [HLN.out]; exact hkn); have hix := fun W => eC (s := s) (by rw [HL.out]; exact hc) .i64 W; have HT := lh (dO cD hc); clear hc hlk; go_wp2_with fail; refine (yG ⟨#[8, 9, 10, 12, 13]⟩ c wr).mono ?_; rintro e w2 ⟨rfl, rfl⟩; rw [show Lib.indexByte (⟨#[8, 9, 10, 12, 13]⟩ : ByteArray).data.toList c = gJ (jQ c) from aFK c]
   by_cases h1 : c = 34 ∨ c = 92
   ·have HEB : Hid (cD c = [92, c]) := lh (by unfold cD; rw [if_pos h1]); generalize gJ (jQ c) = ix at *
    by_cases h2 : c = 34
    case' pos =>
     have d1 : ((c.toNat : Int) == 34) = true := by subst h2; rfl
     clear h1 h2
    case' neg =>
     have h3 : c = 92 := h1.resolve_left h2; have d1 : ((c.toNat : Int) == 34) = false := by subst h3; rfl
     have d2 : ((c.toNat : Int) == 92) = true := by subst h3; rfl
     clear h1 h2 h3
    all_goals
     go_wp2_with fail; refine (fD HB.out 92 (by have := HLK.out; simp only [List.length_cons] at this ⊢; omega) rfl).mono ?_; rintro e w2 ⟨rfl, hbn⟩; have HB2 := lh hbn; clear hbn; go_wp2_with fail; refine (fD HB2.out c (by have := HLK.out; simp only [LN] at this ⊢; omega) rfl).mono ?_; rintro e w3 ⟨rfl, hbn⟩; have HB3 := lh hbn; clear hbn; go_wp2_with fail
     go_roundg (n - (k + 1))
     case measure => omega
     case rel => exact ⟨k + 1, by omega, by go_num, by rw [HT.out, HEB.out]; simpa using HB3.out⟩
   ·have hn1 : c ≠ 34 := fun h => h1 (.inl h); have hn2 : c ≠ 92 := fun h => h1 (.inr h); have d1 : ((c.toNat : Int) == 34) = false := by rw [beq_eq_false_iff_ne]; intro h; exact hn1 (UInt8.toNat_inj.1 (by show c.toNat = 34; omega))
    have d2 : ((c.toNat : Int) == 92) = false := by rw [beq_eq_false_iff_ne]; intro h; exact hn2 (UInt8.toNat_inj.1 (by show c.toNat = 92; omega))
    have hnm := aCN c hn1 hn2; have hlw := aFL c hn1 hn2; clear h1 hn1 hn2
    cases hci : jQ c with
    | some d =>
     rw [hci] at hnm; obtain ⟨x, hx, heb⟩ := hnm; have HEB := lh heb; have hxi := fun W => eC (s := ⟨#[98, 116, 110, 102, 114]⟩) (i := d) (c := x) hx .i64 W; have d3 : decide (0 <= gJ (some d)) = true := by rw [decide_eq_true_eq]; exact Int.natCast_nonneg d
     unfold gJ at d3 ⊢
     simp only at d3 ⊢
     clear hlw hci hx heb; go_wp2_with fail; refine (fD HB.out 92 (by have := HLK.out; simp only [List.length_cons] at this ⊢; omega) rfl).mono ?_; rintro e w2 ⟨rfl, hbn⟩; have HB2 := lh hbn; clear hbn; go_wp2_with fail; refine (fD HB2.out x (by have := HLK.out; simp only [LN] at this ⊢; omega) rfl).mono ?_; rintro e w3 ⟨rfl, hbn⟩; have HB3 := lh hbn; clear hbn; go_wp2_with fail
     go_roundg (n - (k + 1))
     case measure => omega
     case rel => exact ⟨k + 1, by omega, by go_num, by rw [HT.out, HEB.out]; simpa using HB3.out⟩
    | none =>
     have heb := hlw hci; have d3 : decide (0 <= gJ none) = false := rfl; unfold gJ at d3 ⊢
     simp only at d3 ⊢
     clear hnm hlw hci
     by_cases h32 : c.toNat < 32
     ·rw [if_pos h32] at heb; have HEB := lh heb; have d4 : decide ((c.toNat : Int) < 32) = true := dT (by omega)
      clear heb; go_wp2_with fail; refine (bL HB.out ⟨#[92, 117, 48, 48]⟩ (by have := HLK.out; simp only [List.length_cons] at this ⊢; exact Nat.le_trans (Nat.add_le_add_right this 4) (by decide))).mono ?_; rintro e w2 ⟨rfl, hbn⟩; rw [show aA ⟨#[92, 117, 48, 48]⟩ = [92, 117, 48, 48] from rfl] at hbn; have HB2 := lh hbn; clear hbn; go_wp2_with fail; refine (fD HB2.out (sI (c.toNat / 16)) (by have := HLK.out; simp only [LN] at this ⊢; omega) (congrArg (fun u : UInt8 => (u.toNat : Int)) (aEw ⟨c.toNat / 16, by omega⟩))).mono ?_; rintro e w3 ⟨rfl, hbn⟩; have HB3 := lh hbn; clear hbn; go_wp2_with fail; refine (fD HB3.out (sI (c.toNat % 16)) (by have := HLK.out; simp only [LN] at this ⊢; omega) (congrArg (fun u : UInt8 => (u.toNat : Int)) (aEw ⟨c.toNat % 16, by omega⟩))).mono ?_; rintro e w4 ⟨rfl, hbn⟩; have HB4 := lh hbn; clear hbn; go_wp2_with fail
      go_roundg (n - (k + 1))
      case measure => omega
      case rel => exact ⟨k + 1, by omega, by go_num, by rw [HT.out, HEB.out]; simpa using HB4.out⟩
     ·rw [if_neg h32] at heb; have HEB := lh heb; have d4 : decide ((c.toNat : Int) < 32) = false := dF (by omega)
      clear heb; go_wp2_with fail; refine (fD HB.out c (by have := HLK.out; simp only [List.length_cons] at this ⊢; omega) rfl).mono ?_; rintro e w2 ⟨rfl, hbn⟩; have HB2 := lh hbn; clear hbn; go_wp2_with fail
      go_roundg (n - (k + 1))
      case measure => omega
      case rel => exact ⟨k + 1, by omega, by go_num, by rw [HT.out, HEB.out]; simpa using HB2.out⟩
  ·have hte : l.take k = l := List.take_of_length_le (by rw [HLN.out]; omega); rw [hte] at HB HLK; clear hte hlk; go_wp2_with fail; refine (fD HB.out 34 (by have := HLK.out; simp only [List.length_cons] at this ⊢; omega) rfl).mono ?_; rintro e w2 ⟨rfl, hbn⟩; have HB2 := lh hbn; clear hbn; go_wp2_with fail; refine (sT HB2.out).mono ?_; rintro e w3 ⟨rfl, hf3⟩; have HF3 := lh hf3; clear hf3; go_wp2_with fail; exact HQ.out _ _ ⟨by unfold pK; simp, HF3.out⟩
theorem cN.keep {w0 w w' : World} {b : Nat} {l : List UInt8} (h : cN w0 w b l) (hf : Fr [] w w') : cN w0 w' b l := by
 have key : ∀ {p : Value}, Lib.BuilderAtF 151 5 b b p (Lib.byteCells l) w -> Lib.BuilderAtF 151 5 b b p (Lib.byteCells l) w' := fun {p} hb => by
  obtain ⟨hB, v, hv, hown, hne⟩ := hb; exact ⟨hB, v, (hf.block b h.lt (by simp)).trans hv, hown.kept (row := none) ⟨hf.os, hf.tape, hf.output, hf.size, fun k hk _ => hf.block k hk (by simp)⟩ (Classical.em _), hne⟩
 exact ⟨h.lo, Nat.lt_of_lt_of_le h.lt hf.size, h.bld.elim (fun x => .inl (key x)) (fun x => .inr (key x)), h.fr.trans hf⟩
theorem aEx (c : UInt8) : (aD c).length <= 6 := by
 have := wC (fun c => decide ((aD c).length <= 6)) (by decide +kernel) c; exact of_decide_eq_true this
theorem kQ : ∀ l : List UInt8, (l.flatMap aD).length <= 6 * l.length
 | [] => by simp
 | c :: l => by
  have := kQ l; have := aEx c; rw [List.flatMap_cons, List.length_append, List.length_cons]; omega
theorem uT (l : List UInt8) : (qE l).length <= 6 * l.length + 2 := by
 have := kQ l; unfold qE; simp only [List.cons_append, List.length_cons, List.length_append, List.length_nil]; omega
theorem aBT {w : World} (s : ByteArray) (hz : s.size <= 100000000) : RV 92 #[.string s] w (.string ⟨(qE (aA s)).toArray⟩) := by
 refine cA fun R HQ => ?_
 go_enter Tryz.func92, Tryz.ntmps92
 go_wp2_with fail; have hb := Blk.new w 151 [.pointer none, .slice none 0 0]; have hf : Fr [] w (w.alloc (.cells #[.pointer none, .slice none 0 0] 151)) := (Fr.refl [] w).alloc _; generalize w.alloc (.cells #[.pointer none, .slice none 0 0] 151) = w0 at *; refine (fD (jX hb hf (Nat.le_refl _)) 39 (by simp) rfl).mono ?_; rintro e w1 ⟨rfl, hb1⟩; have HB1 := lh hb1; clear hb hf hb1; have hlen := dA s; obtain ⟨l, hl⟩ : ∃ l, aA s = l := ⟨_, rfl⟩; obtain ⟨n, hn⟩ : ∃ n, s.size = n := ⟨_, rfl⟩; have HL := lh hl; rw [hl, hn] at hlen; rw [hl] at HQ; rw [hn] at hz; have HN := lh hn; have HLN := lh hlen; go_wp2_with fail; clear hl hn hlen
 go_loopg [10] n (fun j v wr => aGA w w.heap.size aD 39 l n j v wr)
 case atStart => exact ⟨0, by omega, rfl, by simpa using HB1.out⟩
 case round =>
  obtain ⟨k, hk, rfl, hbk⟩ := hrel; have HB := lh hbk; clear hbk
  have hlk : (39 :: (l.take k).flatMap aD).length <= 600000001 := by
   have := kQ (l.take k); rw [List.length_take, HLN.out] at this; rw [List.length_cons]; omega
  have HLK := lh hlk
  by_cases hkn : k < n
  ·obtain ⟨c, hc⟩ : ∃ c, l[k]? = some c := gx (by rw [HLN.out]; exact hkn); have hix := fun W => eC (s := s) (by rw [HL.out]; exact hc) .i64 W; have HT := lh (dO aD hc); obtain ⟨t1, ht1, htz, hsl⟩ := eQ s k (k + 1) (by omega) (by rw [HN.out]; omega); rw [HL.out, tC hc, show k + 1 - k = 1 by omega] at ht1; have ht2 : aA t1 = [c] := by simpa using ht1
   have hsl1 := fun W => hsl .i64 .i64 W; rw [show ((k + 1 : Nat) : Int) = (k : Int) + 1 by omega] at hsl1; clear hc hlk ht1 hsl
   by_cases h1 : c = 39
   ·have HEB : Hid (aD c = [92, 39]) := lh (by unfold aD; rw [if_pos h1]); have d1 : ((c.toNat : Int) == 39) = true := by subst h1; rfl
    clear h1 hsl1 ht2 htz; go_wp2_with fail; refine (bL HB.out ⟨#[92, 39]⟩ (by have := HLK.out; simp only [List.length_cons] at this ⊢; exact Nat.le_trans (Nat.add_le_add_right this 2) (by decide))).mono ?_; rintro e w2 ⟨rfl, hbn⟩; rw [show aA ⟨#[92, 39]⟩ = [92, 39] from rfl] at hbn; have HB2 := lh hbn; clear hbn; go_wp2_with fail
    go_roundg (n - (k + 1))
    case measure => omega
    case rel => exact ⟨k + 1, by omega, by go_num, by rw [HT.out, HEB.out]; simpa using HB2.out⟩
   ·have d1 : ((c.toNat : Int) == 39) = false := by rw [beq_eq_false_iff_ne]; intro h; exact h1 (UInt8.toNat_inj.1 (by show c.toNat = 39; omega))
    by_cases h2 : c = 34
    ·have HEB : Hid (aD c = [c]) := lh (by unfold aD; rw [if_neg h1, if_pos h2, h2]); have d2 : ((c.toNat : Int) == 34) = true := by subst h2; rfl
     clear h1 h2 hsl1 ht2 htz; go_wp2_with fail; refine (fD HB.out c (by have := HLK.out; simp only [List.length_cons] at this ⊢; omega) rfl).mono ?_; rintro e w2 ⟨rfl, hbn⟩; have HB2 := lh hbn; clear hbn; go_wp2_with fail
     go_roundg (n - (k + 1))
     case measure => omega
     case rel => exact ⟨k + 1, by omega, by go_num, by rw [HT.out, HEB.out]; simpa using HB2.out⟩
    ·have HEB : Hid (aD c = cD c) := lh (by unfold aD; rw [if_neg h1, if_neg h2]); have d2 : ((c.toNat : Int) == 34) = false := by rw [beq_eq_false_iff_ne]; intro h; exact h2 (UInt8.toNat_inj.1 (by show c.toNat = 34; omega))
     have hq : pK (aA t1) = 34 :: cD c ++ [34] := by rw [ht2]; unfold pK; simp
     obtain ⟨qs, hqs⟩ : ∃ qs : ByteArray, qs = ⟨(pK (aA t1)).toArray⟩ := ⟨_, rfl⟩; have hqb : aA qs = 34 :: cD c ++ [34] := by rw [hqs]; exact hq
     have hqz : qs.size = (cD c).length + 2 := by rw [<- dA, hqb]; simp
     have ht5 : aA (qs.extract 1 ((cD c).length + 1)) = cD c := by
      rw [sB, hqb]
      simp
     have hel := tT c; have HT5 := lh ht5; have hs5 : (qs.extract 1 ((cD c).length + 1)).size = (cD c).length := by rw [<- dA, ht5]
     have HQU := lh (fun W => aFM (w := W) t1 (by omega)); rw [<- hqs] at HQU; have HEL := lh (rfl : (cD c).length = (cD c).length); clear h1 h2 hqs hq hqb ht2 htz ht5; obtain ⟨el, hel2⟩ : ∃ el, (cD c).length = el := ⟨_, rfl⟩; rw [hel2] at HT5 hs5 hel hqz; clear HEL hel2; go_wp2_with fail; refine (HQU.out _).mono ?_; rintro e w2 ⟨rfl, hf2⟩; have HBk := lh (HB.out.keep hf2); clear hf2; go_wp2_with fail; refine (bL HBk.out (qs.extract 1 (el + 1)) (by have := HLK.out; omega)).mono ?_; rintro e w3 ⟨rfl, hbn⟩; rw [HT5.out] at hbn; have HB3 := lh hbn; clear hbn; go_wp2_with fail
     go_roundg (n - (k + 1))
     case measure => omega
     case rel => exact ⟨k + 1, by omega, by go_num, by rw [HT.out, HEB.out]; simpa using HB3.out⟩
  ·have hte : l.take k = l := List.take_of_length_le (by rw [HLN.out]; omega); rw [hte] at HB HLK; clear hte hlk; go_wp2_with fail; refine (fD HB.out 39 (by have := HLK.out; simp only [List.length_cons] at this ⊢; omega) rfl).mono ?_; rintro e w2 ⟨rfl, hbn⟩; have HB2 := lh hbn; clear hbn; go_wp2_with fail; refine (sT HB2.out).mono ?_; rintro e w3 ⟨rfl, hf3⟩; have HF3 := lh hf3; clear hf3; go_wp2_with fail; exact HQ.out _ _ ⟨by unfold qE; simp, HF3.out⟩
end
end Go.Proofs.YtbggkiebfflcdaaGreatDoor
