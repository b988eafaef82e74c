/-
  Joined by join.py: Hs Ht Hu Hx Tb Hj
-/
import Derived.Lib.ItoaLen
import Derived.Test.YtbggkiebfflcdaaGreatDoorJpb19
set_option maxRecDepth 100000
set_option maxHeartbeats 32000000
namespace Go.Proofs.YtbggkiebfflcdaaGreatDoor
section
open Go.RowKit Go.Shelf
def SHQ (q : Qry) (d : Int) : Prop := ∀ (w : World) (N : Nat -> Prop) (cs : List Value), fA w N q.cells cs -> RV 34 #[.agg cs.toArray, .int .i64 d] w (.bool true)
def SHX (x : Xpr) (d : Int) : Prop := ∀ (w : World) (N : Nat -> Prop) (cs : List Value), fA w N x.cells cs -> RV 99 #[.agg cs.toArray, .int .i64 d] w (.bool true)
def SHS (x : Slr) (d : Int) : Prop := ∀ (w : World) (N : Nat -> Prop) (cs : List Value), fA w N x.cells cs -> RV 64 #[.agg cs.toArray, .int .i64 d] w (.bool true)
section
variable {w : World} {N : Nat -> Prop} {cs : List Value}
theorem uX {x : Slr} {d : Int} (hx : x.easy = true) (hs : x.shaped d = true) (hd1 : -1 <= d) (hd2 : d <= 100) (hE : ∀ y ∈ x.f, SHX y (d + 1)) : SHS x d := by
 intro w N cs h; obtain ⟨A, c, rfl, hcf⟩ := fG h; obtain ⟨what, name, at_, ⟨a0, a1, a2⟩, ⟨s0, s1, s2⟩, f⟩ := x; simp only [Slr.easy, Bool.and_eq_true, Bool.or_eq_true, decide_eq_true_eq, List.isEmpty_iff] at hx; obtain ⟨⟨⟨⟨⟨⟨hw1, hw2, hnl⟩, hname⟩, hat⟩, hhs⟩, hf⟩, -⟩ := hx; simp only [Slr.shaped, Bool.and_eq_true, decide_eq_true_eq] at hs; obtain ⟨⟨⟨⟨-, k1⟩, k3⟩, k4⟩, k5⟩ := hs; simp only [Slr.what, Slr.name, Slr.at_, Slr.has, Slr.s, Slr.f] at hcf hE ⊢; have hcase : what = 1 ∨ what = 2 ∨ what = 3 ∨ what = 4 ∨ what = 5 := by omega
 rcases hcase with rfl | rfl | rfl | rfl | rfl
 ·obtain rfl : at_ = 0 := by simpa using hat
  obtain ⟨e1, e2⟩ : ((a0, a1, a2) : Bool × Bool × Bool) = (false, false, false) /\ ((s0, s1, s2) : Int × Int × Int) = (0, 0, 0) := by simpa using hhs
  cases e1; cases e2
  obtain rfl : f = [] := by simpa using hf
  exact aES (by simpa using k1) hnl
 ·obtain rfl : name = [] := by simpa using hname
  obtain rfl : at_ = 0 := by simpa using hat
  obtain ⟨e1, e2⟩ : ((a0, a1, a2) : Bool × Bool × Bool) = (false, false, false) /\ ((s0, s1, s2) : Int × Int × Int) = (0, 0, 0) := by simpa using hhs
  cases e1; cases e2
  obtain rfl : f = [] := by simpa using hf
  exact aER
 ·obtain rfl : name = [] := by simpa using hname
  obtain ⟨e1, e2⟩ : ((a0, a1, a2) : Bool × Bool × Bool) = (false, false, false) /\ ((s0, s1, s2) : Int × Int × Int) = (0, 0, 0) := by simpa using hhs
  cases e1; cases e2
  obtain rfl : f = [] := by simpa using hf
  exact aET (by simpa using k3)
 ·obtain rfl : name = [] := by simpa using hname
  obtain rfl : at_ = 0 := by simpa using hat
  obtain rfl : f = [] := by simpa using hf
  simp only [if_true, Bool.and_eq_true] at k4; obtain ⟨⟨⟨n0, z0⟩, n1, z1⟩, n2, z2⟩ := k4; exact aEU n0 n1 n2 z0 z1 z2
 ·obtain rfl : name = [] := by simpa using hname
  obtain rfl : at_ = 0 := by simpa using hat
  obtain ⟨e1, e2⟩ : ((a0, a1, a2) : Bool × Bool × Bool) = (false, false, false) /\ ((s0, s1, s2) : Int × Int × Int) = (0, 0, 0) := by simpa using hhs
  cases e1; cases e2
  match f, hf, hcf, hE with
  | [y], _, hcf, hE => exact aEV hcf hd1 hd2 fun w1 ds _ hr => hE y (by simp) w1 N ds hr
theorem aEW {x : Slr} {d : Int} {b : Nat} (h : fA w N x.cells cs) (hb : w.cell? ⟨b, 0, none⟩ = some (.int .i64 d)) (hS : SHS x d) :
  RV 63 #[.agg cs.toArray, .pointer (some ⟨b, 0, none⟩)] w (.bool false) := by
 refine cA fun R HQ => ?_; have hcl : cs.length = 10 := h.1.trans (dC x); have hc1 : (Tryz.prog.info? 50).map (·.size) = some cs.length := by rw [hcl]; exact lH
 have HC1 := lh hc1; have HH := lh h; have HSS := lh hS; clear h hcl hc1 hS
 go_enter Tryz.func63, Tryz.ntmps63
 go_wp2_with (with_reducible refine kA rfl 50 (.tmp 0) rfl cs rfl ?_)
 intro w0 hb0 hf0 hz0; have HC := lh (HSS.out w0 N cs (HH.out.fr hf0)); have HF0 := lh hf0; have HB0 := lh hb0; have cd := bA hf0 hb; clear hf0 hb0 hb
 go_wp2_with (with_reducible refine tA rfl 50 (.tmp 2) rfl rfl HB0.out Tryz.underlying50 rfl HC1.out ?_)
 refine HC.out.mono ?_; rintro e w2 ⟨rfl, hf2⟩; have HF2 := lh (HF0.out.trans hf2); clear hf2 cd; go_wp2_with fail; exact HQ.out _ _ ⟨rfl, HF2.out⟩
theorem aFU {x : Sgm} {d : Int} {b : Nat} (h : fA w N x.cells cs) (hb : w.cell? ⟨b, 0, none⟩ = some (.int .i64 d)) (hl : x.l ≠ []) (hn : x.l.length <= 1000000) (hS : ∀ y ∈ x.l, SHS y d) :
  RV 61 #[.agg cs.toArray, .pointer (some ⟨b, 0, none⟩)] w (.bool false) := by
 refine cA fun R HQ => ?_; obtain ⟨A, c, rfl, hc⟩ := iF h; have hfa : Fr [] w (w.alloc (.cells #[.bool x.deep, .slice A x.l.length c] 54)) := (Fr.refl [] w).alloc _; have hbd := bA hfa hb
 have HC := lh (tV (hc.fr hfa) hn (f := 63) (first := #[]) (cap := #[.pointer (some ⟨b, 0, none⟩)]) (all := fun v => #[v, .pointer (some ⟨b, 0, none⟩)]) (fun v => rfl) (fun v w => by kernel_rfl) (fun _ => false)
  (fun y hy w1 cs1 hf1 h1 => aEW h1 (bA hf1 hbd) (hS y hy)))
 have HFA := lh hfa; have HE : Hid ((x.l.any fun _ => false) = false) := lh (by simp); rw [HE.out] at HC
 have hl0 : (((x.l.length : Nat) : Int) == 0) = false := by
  have := List.length_pos_iff.2 hl; rw [beq_eq_false_iff_ne]; omega
 obtain ⟨ln, hln⟩ : ∃ ln, x.l.length = ln := ⟨_, rfl⟩; rw [hln] at HC HFA hl0 ⊢; clear h hc hfa hln hn hl hS hbd hb HE
 go_enter Tryz.func61, Tryz.ntmps61
 go_wp2_with fail; refine HC.out.mono ?_; rintro e w2 ⟨rfl, hf2⟩; have HF2 := lh (HFA.out.trans hf2); clear hf2; go_wp2_with fail; exact HQ.out _ _ ⟨rfl, HF2.out⟩
theorem nQ {q : Qry} {d : Int} (h : fA w N q.cells cs) (hn : q.l.length <= 1000000) (hS : ∀ x ∈ q.l, x.l ≠ [] /\ x.l.length <= 1000000 /\ ∀ y ∈ x.l, SHS y d) :
  RV 34 #[.agg cs.toArray, .int .i64 d] w (.bool true) := by
 refine cA fun R HQ => ?_; obtain ⟨A, c, rfl, hc⟩ := aC h; have hfa : Fr [] w ((w.alloc (.cells #[.bool q.rel, .slice A q.l.length c] 25)).alloc (.cells #[.int .i64 d] 3)) := ((Fr.refl [] w).alloc _).alloc _; have hbd := Blk.new (w.alloc (.cells #[.bool q.rel, .slice A q.l.length c] 25)) 3 [.int .i64 d]; rw [show (w.alloc (.cells #[.bool q.rel, .slice A q.l.length c] 25)).heap.size = w.heap.size + 1 by simp] at hbd
 have HC := lh (dR (hc.fr hfa) hn (f := 61) (first := #[]) (cap := #[.pointer (some ⟨w.heap.size + 1, 0, none⟩)]) (all := fun v => #[v, .pointer (some ⟨w.heap.size + 1, 0, none⟩)]) (fun v => rfl) (fun v w => by kernel_rfl) (fun _ => false)
  (fun x hx w1 cs1 hf1 h1 => aFU h1 ((hbd.fr hf1).at_ (i := 0) rfl) (hS x hx).1 (hS x hx).2.1 (hS x hx).2.2))
 have HFA := lh hfa; have HE : Hid ((q.l.any fun _ => false) = false) := lh (by simp); rw [HE.out] at HC; obtain ⟨ln, hln⟩ : ∃ ln, q.l.length = ln := ⟨_, rfl⟩; rw [hln] at HC HFA ⊢; clear h hc hfa hln hn hS hbd HE
 go_enter Tryz.func34, Tryz.ntmps34
 go_wp2_with fail; refine HC.out.mono ?_; rintro e w2 ⟨rfl, hf2⟩; have HF2 := lh (HFA.out.trans hf2); clear hf2; go_wp2_with fail; exact HQ.out _ _ ⟨rfl, HF2.out⟩
end
theorem aAi : ∀ n : Nat, n <= 1000000 -> (∀ (q : Qry) (d : Int), q.wt <= n -> q.easy = true -> q.shaped d = true -> -1 <= d -> d <= 100 -> SHQ q d) /\ (∀ (x : Xpr) (d : Int), x.wt <= n -> x.easy = true -> x.shaped d = true -> -1 <= d -> SHX x d) := by
 intro n
 induction n with
 | zero =>
  intro _; refine ⟨fun q d hq he hs h1 h2 => fun w N cs h => ?_, fun x d hx => by have := x.wt_pos; omega⟩; have h0 := q.wt_eq; have h3 := sG q.l; have hl : q.l = [] := List.length_eq_zero_iff.1 (by omega); exact nQ h (by omega) fun x hx => by rw [hl] at hx; simp at hx
 | succ n ih =>
  intro hn; obtain ⟨i1, i2⟩ := ih (by omega)
  have hq : ∀ (q : Qry) (d : Int), q.wt <= n + 1 -> q.easy = true -> q.shaped d = true -> -1 <= d -> d <= 100 -> SHQ q d := fun q d hq he hs h1 h2 => fun w N cs h => by
   have h0 := q.wt_eq; have h3 := sG q.l; refine nQ h (by omega) fun x hx => ?_; have hxw := rC hx; have hx0 := x.wt_eq; have hxl := zF x.l; obtain ⟨rel, l⟩ := q; simp only [Qry.l] at hx h0 hxw; simp only [Qry.easy, lQ] at he; simp only [Qry.shaped, yJ] at hs; have e1 := List.all_eq_true.1 he x hx; have e2 := List.all_eq_true.1 hs x hx; obtain ⟨dp, sl⟩ := x; simp only [Sgm.l] at hx0 hxl ⊢; simp only [Sgm.easy, mQ] at e1; simp only [Sgm.shaped, Bool.and_eq_true, Bool.not_eq_true', List.isEmpty_eq_false_iff, zJ] at e2; refine ⟨e2.1, by omega, fun y hy => ?_⟩; have hyw := tG hy; have hy0 := y.wt_eq; refine uX (List.all_eq_true.1 e1 y hy) (List.all_eq_true.1 e2.2 y hy) h1 h2 fun z hz => ?_; have hzw := cC hz; have g1 := List.all_eq_true.1 e1 y hy; have g2 := List.all_eq_true.1 e2.2 y hy; obtain ⟨what, name, at_, has, s, f⟩ := y; simp only [Slr.f] at hz hy0 hzw; simp only [Slr.easy, Bool.and_eq_true] at g1; simp only [Slr.shaped, Bool.and_eq_true] at g2
   by_cases h5 : what = 5
   ·subst h5; obtain ⟨⟨-, k5⟩, k6⟩ := g1
    match f, hz, k5, k6, g2, hzw with
    | [z'], hz, _, k6, g2, hzw =>
     obtain rfl : z = z' := by simpa using hz
     refine i2 z (d + 1) (by omega) (by simpa [gR] using k6) ?_ (by omega)
     simpa [wB] using g2.2
   ·have : f = [] := by simpa [h5] using g1.1.2
    subst this; simp at hz
  refine ⟨hq, fun x d hx he hs h1 => fun w N cs h => ?_⟩; obtain ⟨-, h6, hl, ho, hv, hqe⟩ := iU he; have hwx := x.wt_eq; obtain ⟨what, l, op, q, v⟩ := x; simp only [Xpr.what, Xpr.l, Xpr.op, Xpr.q, Xpr.v] at h6 hl ho hv hqe hwx; subst h6 hl ho; simp only [Xpr.shaped, Bool.and_eq_true, decide_eq_true_eq] at hs; have hd : d <= 32 := by simpa using hs.1.1.1
  exact tX h he hd fun w1 ds _ hr => i1 q d (by omega) hqe (by simpa using hs.1.2) h1 (by omega) w1 N ds hr
theorem Qry.shaped_easy {q : Qry} {d : Int} (hw : q.wt <= 1000000) (he : q.easy = true) (hs : q.shaped d = true) (h1 : -1 <= d) (h2 : d <= 100) : SHQ q d := (aAi _ (Nat.le_refl _)).1 q d hw he hs h1 h2
section
variable {w : World} {N : Nat -> Prop} {cs : List Value}
theorem aDe {q : Qry} (h : fA w N q.cells cs) (hw : q.wt <= 1000000) (he : q.easy = true) (hs : q.sane = true) : RV 17 #[.agg cs.toArray] w (.bool true) := by
 refine cA fun R HQ => ?_; obtain ⟨A, c, rfl, hc⟩ := aC h; simp only [Qry.sane, Bool.and_eq_true, Bool.not_eq_true', decide_eq_true_eq] at hs; obtain ⟨⟨⟨h1, h2⟩, h3⟩, h4⟩ := hs; have HH := lh h; have HS := lh (Qry.shaped_easy hw he h2 (by decide) (by decide)); have HT := lh (Qry.typed_any hw); have HP := lh (Qry.parts_any hw); have HT3 := lh h3; have h5 : decide ((q.parts : Int) <= 512) = true := dT (by omega)
 rw [h1] at HH ⊢; obtain ⟨ln, hln⟩ : ∃ ln, q.l.length = ln := ⟨_, rfl⟩; rw [hln] at HH ⊢; clear h hc h1 h2 h3 h4 hln hw he; obtain ⟨cs, hcs⟩ : ∃ cs : List Value, [Value.bool false, .slice A ln c] = cs := ⟨_, rfl⟩; rw [hcs]
 go_enter Tryz.func17, Tryz.ntmps17
 go_wp2_with (with_reducible refine kA rfl 25 (.tmp 0) rfl cs rfl ?_)
 intro w0 hb0 hf0 hz0; subst hcs; have c0 := hb0.at_ (i := 0) rfl; have c1 := hb0.at_ (i := 1) rfl; have HF0 := lh hf0; have HC := lh (HS.out w0 N _ (HH.out.fr hf0)); clear hb0 hf0 hz0; go_wp2_with fail; refine HC.out.mono ?_; rintro e w2 ⟨rfl, hf2⟩; have HF2 := lh (HF0.out.trans hf2); have k0 := bA hf2 c0; have k1 := bA hf2 c1; have HC2 := lh (HT.out w2 N _ (HH.out.fr HF2.out)); clear hf2 c0 c1 HC; go_wp2_with fail; refine HC2.out.mono ?_; rintro e w3 ⟨rfl, hf3⟩; rw [HT3.out]; have HF3 := lh (HF2.out.trans hf3); have j0 := bA hf3 k0; have j1 := bA hf3 k1; have HC3 := lh (HP.out w3 N _ (HH.out.fr HF3.out)); clear hf3 k0 k1 HC2; go_wp2_with fail; refine HC3.out.mono ?_; rintro e w4 ⟨rfl, hf4⟩; have HF4 := lh (HF3.out.trans hf4); clear hf4; go_wp2_with fail; exact HQ.out _ _ ⟨rfl, HF4.out⟩
end
section
variable {w : World} {N : Nat -> Prop} {cs : List Value}
theorem aAj (hg : nI w) (h8 : 8 <= w.heap.size) (txt : ByteArray) (hz : txt.size <= 100000) {q : Qry} (hq : qD (aA txt) = .ok q) :
  Calls Tryz.prog 10 #[.string txt] w fun e w' => ∃ A c, e = .returned (.tuple #[.agg #[.bool q.rel, .slice A q.l.length c], .int .i64 0]) /\ fA w' (fun g => w.heap.size <= g) q.cells [.bool q.rel, .slice A q.l.length c] /\ Fr [] w w' := by
 refine (vV hg h8 txt hz).mono ?_; intro e w' h; unfold rT at h; rw [hq] at h; obtain ⟨cs, rfl, hr, hf⟩ := h; obtain ⟨A, c, rfl, -⟩ := aC hr; exact ⟨A, c, rfl, hr, hf⟩
theorem aBt (hg : nI w) (h8 : 8 <= w.heap.size) (txt : ByteArray) (hz : txt.size <= 100000) :
  Calls Tryz.prog 10 #[.string txt] w fun e w' => ∃ r A n c, e = .returned (.tuple #[.agg #[.bool r, .slice A n c], .int .i64 (errQ (aA txt))]) /\ Fr [] w w' := by
 refine (vV hg h8 txt hz).mono ?_; intro e w' h; unfold rT at h; unfold errQ
 cases hq : qD (aA txt) with
 | error er =>
  rw [hq] at h; obtain ⟨rfl, hf⟩ := h; exact ⟨_, _, _, _, rfl, hf⟩
 | ok q =>
  rw [hq] at h; obtain ⟨cs, rfl, hr, hf⟩ := h; obtain ⟨A, c, rfl, -⟩ := aC hr; exact ⟨_, _, _, _, rfl, hf⟩
theorem aDf (hg : nI w) (h8 : 8 <= w.heap.size) : RV 9 #[] w (.bool true) := by
 refine cA fun R HQ => ?_; have HG := lh hg; clear hg
 go_enter Tryz.func9, Tryz.ntmps9
 go_wp2_with fail; refine (aAj HG.out h8 ⟨#[36, 46, 97, 91, 49, 93]⟩ (by decide) aAh).mono ?_; rintro e w1 ⟨A, c, rfl, hr, hf⟩; have hz1 := hf.size; have HR := lh hr; have HF1 := lh hf; rw [show gN.rel = false from rfl, show gN.l.length = 2 from rfl] at HR ⊢; clear hr hf; go_upto_region 2 with fail
 have hfa : Fr [] w1 (w1.alloc (.cells #[.bool false, .slice A 2 c] 25)) := (Fr.refl [] w1).alloc _; have hb := Blk.new w1 25 [.bool false, .slice A 2 c]; generalize w1.alloc (.cells #[.bool false, .slice A 2 c] 25) = w2 at *; have HF2 := lh (HF1.out.trans hfa); have HR2 := lh (HR.out.fr hfa); have HB2 := lh hb; have hz2 := hfa.size; clear hfa hb HF1 HR; go_wp2_with fail; refine (aBt (HG.out.fr HF2.out) (by omega) ⟨#[36, 91, 63, 108, 101, 110, 103, 116, 104, 40, 64, 46, 42, 41, 61, 61, 49, 93]⟩ (by decide)).mono ?_; rintro e w3 ⟨r9, A9, n9, c9, rfl, hf3⟩; rw [show errQ (aA ⟨#[36, 91, 63, 108, 101, 110, 103, 116, 104, 40, 64, 46, 42, 41, 61, 61, 49, 93]⟩) = 8 from aDd]; have HF3 := lh (HF2.out.trans hf3); have HR3 := lh (HR2.out.fr hf3); have HB3 := lh (HB2.out.fr hf3); clear hf3 HF2 HR2 HB2; go_upto_region 3 with fail
 have hfa : Fr [] w3 (w3.alloc (.cells #[.bool r9, .slice A9 n9 c9] 25)) := (Fr.refl [] w3).alloc _; generalize w3.alloc (.cells #[.bool r9, .slice A9 n9 c9] 25) = w4 at *; have HF4 := lh (HF3.out.trans hfa); have HR4 := lh (HR3.out.fr hfa); have hb4 := HB3.out.fr hfa; have c0 := hb4.at_ (i := 0) rfl; have c1 := hb4.at_ (i := 1) rfl; have HP := lh (Qry.print_any (HG.out.fr HF4.out) HR4.out (by decide +kernel) aG.2.2.2.2 (by rw [aG.1]; decide)); rw [aG.1] at HP; clear hfa hb4 HF3 HR3 HB3; go_wp2_with fail; refine HP.out.mono ?_; rintro e w5 ⟨rfl, hf5⟩; have HF5 := lh (HF4.out.trans hf5); have HR5 := lh (HR4.out.fr hf5); have k0 := bA hf5 c0; have k1 := bA hf5 c1; clear hf5 c0 c1 HP; simp only [aEO]; go_wp2_with fail; refine (aDe HR5.out aG.2.2.2.2 aG.2.2.2.1 aG.2.1).mono ?_; rintro e w6 ⟨rfl, hf6⟩; have HF6 := lh (HF5.out.trans hf6); have HR6 := lh (HR5.out.fr hf6); have j0 := bA hf6 k0; have j1 := bA hf6 k1; clear hf6 k0 k1; go_wp2_with fail; refine (gQ HR6.out (by decide)).mono ?_; rintro e w7 ⟨rfl, hf7⟩; have HF7 := lh (HF6.out.trans hf7); rw [aG.2.2.1]; clear hf7; go_wp2_with fail; exact HQ.out _ _ ⟨rfl, HF7.out⟩
end
theorem eqb3 (a b c : Bool) (w : World) : (Op.equalIn 10000 46 (.agg #[.bool a, .bool b, .bool c]) (.agg #[.bool a, .bool b, .bool c])).run Tryz.prog w = .ok true w := by
 cases a <;> cases b <;> cases c <;> kernel_rfl
theorem eqi1 (d : Nat) (a : Int) (w : World) : (Op.equalIn (d + 1) 3 (.int .i64 a) (.int .i64 a)).run Tryz.prog w = .ok true w := by
 simp [Op.equalIn, Sem.run_bind, run_underlying Tryz.underlying3]
theorem aEX : ∃ i, Tryz.prog.info? 3 = some i := by
 have h : (Tryz.prog.info? 3).isSome = true := by kernel_rfl
 exact Option.isSome_iff_exists.1 h
theorem eqi3 (a b c : Int) (w : World) : (Op.equalIn 10000 47 (.agg #[.int .i64 a, .int .i64 b, .int .i64 c]) (.agg #[.int .i64 a, .int .i64 b, .int .i64 c])).run Tryz.prog w = .ok true w := by
 obtain ⟨i, hi⟩ := aEX; have hc : Tryz.prog.cellsOf 3 = 1 := by kernel_rfl
 have p0 : ∀ W, (part 3 #[.int .i64 a, .int .i64 b, .int .i64 c] 0).run Tryz.prog W = .ok (.int .i64 a) W := fun W => by kernel_rfl
 have p1 : ∀ W, (part 3 #[.int .i64 a, .int .i64 b, .int .i64 c] 1).run Tryz.prog W = .ok (.int .i64 b) W := fun W => by kernel_rfl
 have p2 : ∀ W, (part 3 #[.int .i64 a, .int .i64 b, .int .i64 c] 2).run Tryz.prog W = .ok (.int .i64 c) W := fun W => by kernel_rfl
 have e' : ∀ (a : Int) (w : World), (Op.equalIn 9999 3 (.int .i64 a) (.int .i64 a)).run Tryz.prog w = .ok true w := fun a w => eqi1 9998 a w; refine (run_equalIn_array w 9999 _ _ Tryz.underlying47 hi).trans ?_; rw [hc]; generalize 9999 = D at *
 simp [Op.eqItems, List.range, List.range.loop, Sem.run_bind, p0, p1, p2, e', Result.andThen]
def SmX (f : List Xpr) : Prop := ∀ (w : World) (N M : Nat -> Prop) (v1 v2 : Value), CAt w N (.rows 13 (f.map Xpr.cells)) v1 -> CAt w M (.rows 13 (f.map Xpr.cells)) v2 -> RV 28 #[v1, v2] w (.bool true)
theorem aCd : SmX [] := by
 intro w N M v1 v2 h1 h2; refine cA fun R HQ => ?_; obtain ⟨A, c, rfl, -⟩ := h1.slice; obtain ⟨B, d, rfl, -⟩ := h2.slice; clear h1 h2; simp only [List.map_nil, List.length_nil]
 go_enter Tryz.func28, Tryz.ntmps28
 go_wp2_with fail
 go_loopg [5] 0 (fun j v5 wr => v5 = .int .i64 0 /\ w = wr)
 case atStart => exact ⟨rfl, rfl⟩
 case round =>
  obtain ⟨rfl, rfl⟩ := hrel; go_wp2_with fail; exact HQ.out _ _ ⟨rfl, Fr.refl [] w⟩
def aEY (w : World) (ln : Nat) (j : Nat) (v : Value) (wr : World) : Prop := ∃ k : Nat, k + j = ln /\ v = .int .i64 (k : Int) /\ Fr [] w wr
theorem aDg {w : World} {N M : Nat -> Prop} {q : Qry} {cs ds : List Value} (h1 : fA w N q.cells cs) (h2 : fA w M q.cells ds) (hw : q.wt <= 1000000) (hS : ∀ x ∈ q.l, ∀ y ∈ x.l, SmX y.f) :
  RV 12 #[.agg cs.toArray, .agg ds.toArray] w (.bool true) := by
 refine cA fun R HQ => ?_; obtain ⟨A, c, rfl, hc⟩ := aC h1; obtain ⟨B, d, rfl, hd⟩ := aC h2; have hwe := q.wt_eq; have hll := sG q.l; obtain ⟨A', c', g, off, hv, hA, hrow⟩ := hc.row; obtain ⟨B', d', g', off', hv', hB, hrow'⟩ := hd.row; injection hv with e1 e2 e3; subst e1 e3; clear e2; injection hv' with e1 e2 e3; subst e1 e3; have hml : (q.l.map Sgm.cells).length = q.l.length := by simp
 rw [hml] at hA hB; obtain ⟨ln, hln⟩ : ∃ ln, q.l.length = ln := ⟨_, rfl⟩; have HLN := lh hln; rw [hln] at hA hB ⊢; have HROW := lh hrow; have HROW' := lh hrow'; have HA := lh hA; have HB := lh hB; have HSS := lh hS; have hlb : ln <= 1000000 := by omega
 have HWT := lh hw; obtain ⟨rel, hrel⟩ : ∃ rel, q.rel = rel := ⟨_, rfl⟩; rw [hrel]; clear h1 h2 hc hd hrow hrow' hA hB hS e2 hwe hll hml hln hw hrel
 go_enter Tryz.func12, Tryz.ntmps12
 go_upto_region 1 with fail
 have hf0 : Fr [] w ((w.alloc (.cells #[.bool rel, .slice A ln c] 31)).alloc (.cells #[.bool rel, .slice B ln d] 31)) := ((Fr.refl [] w).alloc _).alloc _; have hb0 := (Blk.new w 31 [.bool rel, .slice A ln c]).alloc (.cells #[.bool rel, .slice B ln d] 31); have hb1 := Blk.new (w.alloc (.cells #[.bool rel, .slice A ln c] 31)) 31 [.bool rel, .slice B ln d]; rw [show (w.alloc (.cells #[.bool rel, .slice A ln c] 31)).heap.size = w.heap.size + 1 by simp] at hb1; generalize (w.alloc (.cells #[.bool rel, .slice A ln c] 31)).alloc (.cells #[.bool rel, .slice B ln d] 31) = w0 at *; have HB0 := lh hb0; have HB1 := lh hb1; have HF0 := lh hf0; have b0 := hb0.at_ (i := 0) rfl; have b1 := hb0.at_ (i := 1) rfl; have d0 := hb1.at_ (i := 0) rfl; have d1 := hb1.at_ (i := 1) rfl; clear hb0 hb1 hf0; go_wp2_with fail; clear b0 b1 d0 d1
 go_loopg [5] ln (fun j v5 wr => aEY w0 ln j v5 wr)
 case atStart => exact ⟨0, by omega, rfl, Fr.refl _ _⟩
 case round =>
  obtain ⟨wo, rfl⟩ := nm (wr); obtain ⟨k, hk, rfl, hF⟩ := hrel; have HFo := lh hF; have hb0 := HB0.out.fr hF; have hb1 := HB1.out.fr hF; have b0 := hb0.at_ (i := 0) rfl; have b1 := hb0.at_ (i := 1) rfl; have d0 := hb1.at_ (i := 0) rfl; have d1 := hb1.at_ (i := 1) rfl; clear hF hb0 hb1
  by_cases hkl : k < ln
  ·obtain ⟨x, hx⟩ : ∃ x, q.l[k]? = some x := gx (by rw [HLN.out]; exact hkl); obtain ⟨rfl, -⟩ := HA.out (by omega); obtain ⟨rfl, -⟩ := HB.out (by omega); obtain ⟨_, es, hes, hcell⟩ := HROW.out k x.cells (by rw [List.getElem?_map, hx]; rfl); obtain ⟨_, es', hes', hcell'⟩ := HROW'.out k x.cells (by rw [List.getElem?_map, hx]; rfl); obtain ⟨A5, c5, rfl, hc5⟩ := iF hes; obtain ⟨B5, d5, rfl, hd5⟩ := iF hes'; have hFo : Fr [] w wo := HF0.out.trans HFo.out
   have hl1 : ∀ {i : Nat} {u : Value}, w.cell? ⟨g, off + 2 * k + i, none⟩ = some u -> wo.cell? ⟨g, off + k * 2 + i, none⟩ = some u := fun {i u} hi => by
    rw [show off + k * 2 + i = off + 2 * k + i by rw [Nat.mul_comm], hFo.cell (World.block_lt_of_cell? w _ hi) (by simp)]; exact hi
   have hl2 : ∀ {i : Nat} {u : Value}, w.cell? ⟨g', off' + 2 * k + i, none⟩ = some u -> wo.cell? ⟨g', off' + k * 2 + i, none⟩ = some u := fun {i u} hi => by
    rw [show off' + k * 2 + i = off' + 2 * k + i by rw [Nat.mul_comm], hFo.cell (World.block_lt_of_cell? w _ hi) (by simp)]; exact hi
   have x0 := hl1 (hcell 0 _ rfl); have x1 := hl1 (hcell 1 _ rfl); have y0 := hl2 (hcell' 0 _ rfl); have y1 := hl2 (hcell' 1 _ rfl); rw [Nat.add_zero] at x0 y0; have HX := lh hx; have HC5 := lh hc5; have HD5 := lh hd5; obtain ⟨m, hm⟩ : ∃ m, x.l.length = m := ⟨_, rfl⟩; obtain ⟨dp, hdp⟩ : ∃ dp, x.deep = dp := ⟨_, rfl⟩; have HM := lh hm; rw [hm] at x1 y1 HC5 HD5; rw [hdp] at x0 y0; have HMB : Hid (m <= 1000000) := lh (by have h1 := rC (List.mem_of_getElem? hx); have h2 := zF x.l; have h3 := x.wt_eq; have h4 := q.wt_eq; have h5 := HWT.out; omega); have hki : (k : Int) < (ln : Int) := by omega
   clear hes hes' hcell hcell' hc5 hd5 hl1 hl2 hx hm hdp hFo; go_upto_region 6 with fail
   go_quiet (fail)
   have hfq : Fr [] wo (wo.drewN nq) := (Fr.refl [] wo).drewN nq
   replace b1 := bA hfq b1
   replace d1 := bA hfq d1
   replace x1 := bA hfq x1
   replace y1 := bA hfq y1
   have HF1 := lh (HFo.out.trans hfq); generalize wo.drewN nq = w1 at *; clear hfq b0 d0 x0 y0; go_wp2_with fail
   go_loopg [6] m (fun j v6 wi => aEY w1 m j v6 wi)
   case atStart => exact ⟨0, by omega, rfl, Fr.refl _ _⟩
   case round =>
    obtain ⟨wi, rfl⟩ := nm (wr); obtain ⟨i, hi, rfl, hFi⟩ := hrel; have HFi := lh hFi
    replace b1 := bA hFi b1
    replace d1 := bA hFi d1
    replace x1 := bA hFi x1
    replace y1 := bA hFi y1
    clear hFi
    by_cases him : i < m
    ·obtain ⟨y, hy⟩ : ∃ y, x.l[i]? = some y := gx (by rw [HM.out]; exact him); have hml5 : (x.l.map Slr.cells).length = m := by simp [HM.out]
     obtain ⟨A6, c6, g5, off5, hv5, hA5, hrow5⟩ := HC5.out.row; obtain ⟨B6, d6, g6, off6, hv6, hB5, hrow6⟩ := HD5.out.row; injection hv5 with e1 e2 e3; subst e1; clear e2 e3; injection hv6 with e1 e2 e3; subst e1; clear e3; obtain ⟨rfl, -⟩ := hA5 (by omega); obtain ⟨rfl, -⟩ := hB5 (by omega); obtain ⟨_, es, hes, hcell5⟩ := hrow5 i y.cells (by rw [List.getElem?_map, hy]; rfl); obtain ⟨_, fs, hfs, hcell6⟩ := hrow6 i y.cells (by rw [List.getElem?_map, hy]; rfl); obtain ⟨what, name, at_, ⟨a0, a1, a2⟩, ⟨s0, s1, s2⟩, f⟩ := y; obtain ⟨Af, cf, rfl, hcf⟩ := fG hes; obtain ⟨Bf, df, rfl, hdf⟩ := fG hfs; simp only [Slr.what, Slr.name, Slr.at_, Slr.has, Slr.s, Slr.f] at hcell5 hcf hcell6 hdf; have HSM := lh (HSS.out x (List.mem_of_getElem? HX.out) _ (List.mem_of_getElem? hy)); simp only [Slr.f] at HSM; have hFwi : Fr [] w wi := (HF0.out.trans HF1.out).trans HFi.out; have HFWI := lh hFwi
     have hl5 : ∀ {a : Nat} {u : Value}, w.cell? ⟨g5, off5 + 10 * i + a, none⟩ = some u -> wi.cell? ⟨g5, off5 + i * 10 + a, none⟩ = some u := fun {a u} h9 => by
      rw [show off5 + i * 10 + a = off5 + 10 * i + a by rw [Nat.mul_comm], hFwi.cell (World.block_lt_of_cell? w _ h9) (by simp)]; exact h9
     have hl6 : ∀ {a : Nat} {u : Value}, w.cell? ⟨g6, off6 + 10 * i + a, none⟩ = some u -> wi.cell? ⟨g6, off6 + i * 10 + a, none⟩ = some u := fun {a u} h9 => by
      rw [show off6 + i * 10 + a = off6 + 10 * i + a by rw [Nat.mul_comm], hFwi.cell (World.block_lt_of_cell? w _ h9) (by simp)]; exact h9
     have y0 := hl5 (hcell5 0 _ rfl); have y1' := hl5 (hcell5 1 _ rfl); have y2 := hl5 (hcell5 2 _ rfl); have y3 := hl5 (hcell5 3 _ rfl); have y4 := hl5 (hcell5 4 _ rfl); have y5 := hl5 (hcell5 5 _ rfl); have y6 := hl5 (hcell5 6 _ rfl); have y7 := hl5 (hcell5 7 _ rfl); have y8 := hl5 (hcell5 8 _ rfl); have y9 := hl5 (hcell5 9 _ rfl); have z0 := hl6 (hcell6 0 _ rfl); have z1 := hl6 (hcell6 1 _ rfl); have z2 := hl6 (hcell6 2 _ rfl); have z3 := hl6 (hcell6 3 _ rfl); have z4 := hl6 (hcell6 4 _ rfl); have z5 := hl6 (hcell6 5 _ rfl); have z6 := hl6 (hcell6 6 _ rfl); have z7 := hl6 (hcell6 7 _ rfl); have z8 := hl6 (hcell6 8 _ rfl); have z9 := hl6 (hcell6 9 _ rfl); rw [Nat.add_zero] at y0 z0; have HCF := lh hcf; have HDF := lh hdf; have hm0 : 0 < m := by omega
     have hmb := HMB.out; have him' : decide ((i : Int) < (m : Int)) = true := dT (by omega)
     have hltg5 := World.block_lt_of_cell? wi _ y0; have hltg6 := World.block_lt_of_cell? wi _ z0; have hltb := World.block_lt_of_cell? wi _ b1; have hltd := World.block_lt_of_cell? wi _ d1; have hltx := World.block_lt_of_cell? wi _ x1; have hlty := World.block_lt_of_cell? wi _ y1
     simp only at hltg5 hltg6 hltb hltd hltx hlty
     obtain ⟨fl, hfl⟩ : ∃ fl, f.length = fl := ⟨_, rfl⟩; rw [hfl] at y9 z9 HCF HDF; clear hes hfs hcell5 hcell6 hcf hdf hl5 hl6 hy hrow5 hrow6 hA5 hB5 hml5 hFwi e2 hfl; go_upto_region 13 with fail
     have hf2 : Fr [] wi ((wi.alloc (.cells #[.int .i64 what, .string ⟨name.toArray⟩, .int .i64 at_, .bool a0, .bool a1, .bool a2, .int .i64 s0, .int .i64 s1, .int .i64 s2, .slice Af fl cf] 80)).alloc (.cells #[.int .i64 what, .string ⟨name.toArray⟩, .int .i64 at_, .bool a0, .bool a1, .bool a2, .int .i64 s0, .int .i64 s1, .int .i64 s2, .slice Bf fl df] 80)) := ((Fr.refl [] wi).alloc _).alloc _; have hb2 := (Blk.new wi 80 [.int .i64 what, .string ⟨name.toArray⟩, .int .i64 at_, .bool a0, .bool a1, .bool a2, .int .i64 s0, .int .i64 s1, .int .i64 s2, .slice Af fl cf]).alloc (.cells #[.int .i64 what, .string ⟨name.toArray⟩, .int .i64 at_, .bool a0, .bool a1, .bool a2, .int .i64 s0, .int .i64 s1, .int .i64 s2, .slice Bf fl df] 80); have hb3 := Blk.new (wi.alloc (.cells #[.int .i64 what, .string ⟨name.toArray⟩, .int .i64 at_, .bool a0, .bool a1, .bool a2, .int .i64 s0, .int .i64 s1, .int .i64 s2, .slice Af fl cf] 80)) 80 [.int .i64 what, .string ⟨name.toArray⟩, .int .i64 at_, .bool a0, .bool a1, .bool a2, .int .i64 s0, .int .i64 s1, .int .i64 s2, .slice Bf fl df]; rw [show (wi.alloc (.cells #[.int .i64 what, .string ⟨name.toArray⟩, .int .i64 at_, .bool a0, .bool a1, .bool a2, .int .i64 s0, .int .i64 s1, .int .i64 s2, .slice Af fl cf] 80)).heap.size = wi.heap.size + 1 by simp] at hb3; generalize (wi.alloc (.cells #[.int .i64 what, .string ⟨name.toArray⟩, .int .i64 at_, .bool a0, .bool a1, .bool a2, .int .i64 s0, .int .i64 s1, .int .i64 s2, .slice Af fl cf] 80)).alloc (.cells #[.int .i64 what, .string ⟨name.toArray⟩, .int .i64 at_, .bool a0, .bool a1, .bool a2, .int .i64 s0, .int .i64 s1, .int .i64 s2, .slice Bf fl df] 80) = w2 at *; have u0 := hb2.at_ (i := 0) rfl; have v0 := hb3.at_ (i := 0) rfl; have u1 := hb2.at_ (i := 1) rfl; have v1 := hb3.at_ (i := 1) rfl; have u2 := hb2.at_ (i := 2) rfl; have v2 := hb3.at_ (i := 2) rfl; have u3 := hb2.at_ (i := 3) rfl; have v3 := hb3.at_ (i := 3) rfl; have u4 := hb2.at_ (i := 4) rfl; have v4 := hb3.at_ (i := 4) rfl; have u5 := hb2.at_ (i := 5) rfl; have v5 := hb3.at_ (i := 5) rfl; have u6 := hb2.at_ (i := 6) rfl; have v6 := hb3.at_ (i := 6) rfl; have u7 := hb2.at_ (i := 7) rfl; have v7 := hb3.at_ (i := 7) rfl; have u8 := hb2.at_ (i := 8) rfl; have v8 := hb3.at_ (i := 8) rfl; have u9 := hb2.at_ (i := 9) rfl; have v9 := hb3.at_ (i := 9) rfl; have q1 := eqb3 a0 a1 a2 w2; have q2 := eqi3 s0 s1 s2 w2; have HF2 := lh (HFi.out.trans hf2); have HCC := lh (HSM.out w2 N M _ _ ((HCF.out.fr HFWI.out).fr hf2) ((HDF.out.fr HFWI.out).fr hf2)); clear hf2 hb2 hb3 y0 y1' y2 y3 y4 y5 y6 y7 y8 y9 z0 z1 z2 z3 z4 z5 z6 z7 z8 z9 b1 d1 x1 y1; go_wp2_with fail; refine HCC.out.mono ?_; rintro e w3 ⟨rfl, hf3⟩; have HF3 := lh (HF2.out.trans hf3); clear hf3; go_wp2_with fail
     go_roundg (m - (i + 1))
     case measure => omega
     case rel => exact ⟨i + 1, by omega, by go_num, HF3.out⟩
    ·obtain rfl : i = m := by omega
     go_wp2_with fail
     go_roundg (ln - (k + 1))
     case measure => omega
     case rel => exact ⟨k + 1, by omega, by go_num, HF1.out.trans HFi.out⟩
  ·go_wp2_with fail; exact HQ.out _ _ ⟨rfl, HF0.out.trans HFo.out⟩
theorem eqDz (neg : Bool) (digits : List UInt8) (exp : Int) (w : World) : (Op.equalIn 10000 93 (.agg #[.bool neg, .string ⟨digits.toArray⟩, .int .i64 exp]) (.agg #[.bool false, .string ⟨#[]⟩, .int .i64 0])).run Tryz.prog w = .ok (decide ((⟨neg, digits, exp⟩ : Dcm) = .zero)) w := by
 cases neg with
 | true =>
  rw [show decide ((⟨true, digits, exp⟩ : Dcm) = .zero) = false by simp [Dcm.zero]]
  kernel_rfl
 | false =>
  cases digits with
  | cons c l =>
   rw [show decide ((⟨false, c :: l, exp⟩ : Dcm) = .zero) = false by simp [Dcm.zero]]
   kernel_rfl
  | nil =>
   by_cases h : exp = 0
   ·subst h
    kernel_rfl
   ·rw [show decide ((⟨false, [], exp⟩ : Dcm) = .zero) = false by simp [Dcm.zero, h]]
    cases exp with
    | ofNat n =>
     cases n with
     | zero => exact absurd rfl h
     | succ n => clear h; kernel_rfl
    | negSucc n => clear h; kernel_rfl
section
variable {w : World} {N : Nat -> Prop} {cs : List Value}
theorem aFV {v : Vlu} (h : fA w N v.cells cs) (hin : v.inR = true) (hsz : v.s.length <= 100000000) : RV 184 #[.agg cs.toArray] w (.bool v.lit) := by
 refine cA fun R HQ => ?_; obtain ⟨vl, vm, rfl, hl, hm⟩ := tF h; obtain ⟨kind, b, ⟨neg, digits, exp⟩, s, l, m⟩ := v; unfold Vlu.inR at hin; simp only [Bool.and_eq_true] at hin; obtain ⟨⟨hn, h1⟩, h2⟩ := hin; unfold Dcm.inR rF at hn; simp only [Bool.and_eq_true, decide_eq_true_eq] at hn; obtain ⟨⟨hx1, hx2⟩, hdl⟩ := hn
 cases l with
 | leaf _ => simp [Cl.rowsB] at h1
 | rows k1 l1 =>
  cases m with
  | leaf _ => simp [Cl.rowsB] at h2
  | rows k2 l2 =>
   simp only [Cl.rowsB, decide_eq_true_eq] at h1 h2; obtain ⟨A1, c1, rfl, -⟩ := hl.slice; obtain ⟨A2, c2, rfl, -⟩ := hm.slice; have HE : Hid (Vlu.lit ⟨kind, b, ⟨neg, digits, exp⟩, s, .rows k1 l1, .rows k2 l2⟩ = (decide (0 <= kind /\ kind <= 3) && (decide (kind = 1) || !b) && (decide (kind = 2) || decide ((⟨neg, digits, exp⟩ : Dcm) = .zero)) && (decide (kind = 3) || s.isEmpty) && decide (l1.length + l2.length = 0) && Dcm.sane ⟨neg, digits, exp⟩ && lE s)) := lh rfl; obtain ⟨n1, hn1⟩ : ∃ n1, l1.length = n1 := ⟨_, rfl⟩; obtain ⟨n2, hn2⟩ : ∃ n2, l2.length = n2 := ⟨_, rfl⟩; rw [hn1] at h1 HE ⊢; rw [hn2] at h2 HE ⊢
   have hnn : (wrap64 ((n1 : Int) + (n2 : Int)) == 0) = decide (n1 + n2 = 0) := by
    unfold wrap64; rw [Bool.eq_iff_iff, beq_iff_eq, decide_eq_true_eq]; omega
   have hq := eqDz neg digits exp; have hqz : ∀ W, (Op.equalIn 10000 93 (.agg #[.bool false, .string ⟨#[]⟩, .int .i64 0]) (.agg #[.bool false, .string ⟨#[]⟩, .int .i64 0])).run Tryz.prog W = .ok true W := fun W => by kernel_rfl
   obtain ⟨dz, hdz⟩ : ∃ dz, decide ((⟨neg, digits, exp⟩ : Dcm) = .zero) = dz := ⟨_, rfl⟩; obtain ⟨nz, hnz⟩ : ∃ nz, decide (n1 + n2 = 0) = nz := ⟨_, rfl⟩; rw [hdz] at HE hq; rw [hnz] at HE hnn; have hse : (s == ([] : List UInt8)) = s.isEmpty := by cases s <;> rfl
   obtain ⟨se, hse2⟩ : ∃ se, s.isEmpty = se := ⟨_, rfl⟩; rw [hse2] at hse HE; clear hse2; clear h hl hm hn1 hn2 hdz hnz h1 h2
   simp only at hsz ⊢
   by_cases k0 : kind = 0
   ·subst k0
    go_enter Tryz.func184, Tryz.ntmps184
    go_upto_region 12 with fail
    have hf2 : Fr [] w ((w.alloc (.cells #[.int .i64 0, .bool b, .bool neg, .string ⟨digits.toArray⟩, .int .i64 exp, .string ⟨s.toArray⟩, .slice A1 n1 c1, .slice A2 n2 c2] 107)).alloc (.cells #[.int .i64 0, .bool b, .bool neg, .string ⟨digits.toArray⟩, .int .i64 exp, .string ⟨s.toArray⟩, .slice A1 n1 c1, .slice A2 n2 c2] 107)) := ((Fr.refl [] w).alloc _).alloc _; have hb1 := (Blk.new w 107 [.int .i64 0, .bool b, .bool neg, .string ⟨digits.toArray⟩, .int .i64 exp, .string ⟨s.toArray⟩, .slice A1 n1 c1, .slice A2 n2 c2]).alloc (.cells #[.int .i64 0, .bool b, .bool neg, .string ⟨digits.toArray⟩, .int .i64 exp, .string ⟨s.toArray⟩, .slice A1 n1 c1, .slice A2 n2 c2] 107); have hb2 := Blk.new (w.alloc (.cells #[.int .i64 0, .bool b, .bool neg, .string ⟨digits.toArray⟩, .int .i64 exp, .string ⟨s.toArray⟩, .slice A1 n1 c1, .slice A2 n2 c2] 107)) 107 [.int .i64 0, .bool b, .bool neg, .string ⟨digits.toArray⟩, .int .i64 exp, .string ⟨s.toArray⟩, .slice A1 n1 c1, .slice A2 n2 c2]; rw [show (w.alloc (.cells #[.int .i64 0, .bool b, .bool neg, .string ⟨digits.toArray⟩, .int .i64 exp, .string ⟨s.toArray⟩, .slice A1 n1 c1, .slice A2 n2 c2] 107)).heap.size = w.heap.size + 1 by simp] at hb2; have HF := lh hf2; have HB1 := lh hb1; have e1 := hb2.at_ (i := 1) rfl; have e2 := hb2.at_ (i := 2) rfl; have e3 := hb2.at_ (i := 3) rfl; have e4 := hb2.at_ (i := 4) rfl; have e5 := hb2.at_ (i := 5) rfl; have e6 := hb2.at_ (i := 6) rfl; have e7 := hb2.at_ (i := 7) rfl; have d2 := hb1.at_ (i := 2) rfl; have d3 := hb1.at_ (i := 3) rfl; have d4 := hb1.at_ (i := 4) rfl; clear hf2 hb1 hb2; generalize ((w.alloc (.cells #[.int .i64 0, .bool b, .bool neg, .string ⟨digits.toArray⟩, .int .i64 exp, .string ⟨s.toArray⟩, .slice A1 n1 c1, .slice A2 n2 c2] 107)).alloc (.cells #[.int .i64 0, .bool b, .bool neg, .string ⟨digits.toArray⟩, .int .i64 exp, .string ⟨s.toArray⟩, .slice A1 n1 c1, .slice A2 n2 c2] 107)) = w2 at *
    cases b with
    | true =>
     go_wp2_with fail; exact HQ.out _ _ ⟨by rw [HE.out]; simp, HF.out⟩
    | false =>
     cases dz with
     | false =>
      go_wp2_with fail; exact HQ.out _ _ ⟨by rw [HE.out]; simp, HF.out⟩
     | true =>
      cases se with
      | false =>
       go_wp2_with fail; exact HQ.out _ _ ⟨by rw [HE.out]; simp, HF.out⟩
      | true =>
       cases nz with
       | false =>
        go_wp2_with fail; exact HQ.out _ _ ⟨by rw [HE.out]; simp, HF.out⟩
       | true =>
        go_wp2_with fail; refine (jJ (w := w2) ⟨neg, digits, exp⟩ hdl hx1 hx2).mono ?_; rintro e w3 ⟨rfl, hf3⟩; have HF3 := lh (HF.out.trans hf3); have k5 := (HB1.out.fr hf3).at_ (i := 5) rfl; obtain ⟨sn, hsn⟩ : ∃ sn, Dcm.sane ⟨neg, digits, exp⟩ = sn := ⟨_, rfl⟩; have HSN := lh hsn; rw [hsn]; obtain ⟨C, w4, hcv, hC, hba, hf4⟩ := rH w3 ⟨s.toArray⟩ (by show s.toArray.size <= _; rw [List.size_toArray]; omega); have HBA := lh hba; have HF4 := lh (HF3.out.trans hf4); clear hf3 hf4 hba e1 e2 e3 e4 e5 e6 e7 d2 d3 d4 hsn
        cases sn with
        | false =>
         go_wp2_with fail; exact HQ.out _ _ ⟨by rw [HE.out, HSN.out]; simp, HF3.out⟩
        | true =>
         go_wp2_with fail; refine (mE HBA.out hC).mono ?_; rintro e w5 ⟨x, rfl, hx, hf5⟩; have HX : Hid (decide (x < 0) = lE s) := lh hx; have HF5 := lh (HF4.out.trans hf5); clear hx hf5; go_wp2_with fail; exact HQ.out _ _ ⟨by rw [HE.out, HSN.out, <- HX.out]; simp, HF5.out⟩
   ·by_cases k1 : kind = 1
    ·subst k1
     go_enter Tryz.func184, Tryz.ntmps184
     go_upto_region 12 with fail
     have hf2 : Fr [] w ((w.alloc (.cells #[.int .i64 1, .bool b, .bool neg, .string ⟨digits.toArray⟩, .int .i64 exp, .string ⟨s.toArray⟩, .slice A1 n1 c1, .slice A2 n2 c2] 107)).alloc (.cells #[.int .i64 0, .bool false, .bool neg, .string ⟨digits.toArray⟩, .int .i64 exp, .string ⟨s.toArray⟩, .slice A1 n1 c1, .slice A2 n2 c2] 107)) := ((Fr.refl [] w).alloc _).alloc _; have hb1 := (Blk.new w 107 [.int .i64 1, .bool b, .bool neg, .string ⟨digits.toArray⟩, .int .i64 exp, .string ⟨s.toArray⟩, .slice A1 n1 c1, .slice A2 n2 c2]).alloc (.cells #[.int .i64 0, .bool false, .bool neg, .string ⟨digits.toArray⟩, .int .i64 exp, .string ⟨s.toArray⟩, .slice A1 n1 c1, .slice A2 n2 c2] 107); have hb2 := Blk.new (w.alloc (.cells #[.int .i64 1, .bool b, .bool neg, .string ⟨digits.toArray⟩, .int .i64 exp, .string ⟨s.toArray⟩, .slice A1 n1 c1, .slice A2 n2 c2] 107)) 107 [.int .i64 0, .bool false, .bool neg, .string ⟨digits.toArray⟩, .int .i64 exp, .string ⟨s.toArray⟩, .slice A1 n1 c1, .slice A2 n2 c2]; rw [show (w.alloc (.cells #[.int .i64 1, .bool b, .bool neg, .string ⟨digits.toArray⟩, .int .i64 exp, .string ⟨s.toArray⟩, .slice A1 n1 c1, .slice A2 n2 c2] 107)).heap.size = w.heap.size + 1 by simp] at hb2; have HF := lh hf2; have HB1 := lh hb1; have e1 := hb2.at_ (i := 1) rfl; have e2 := hb2.at_ (i := 2) rfl; have e3 := hb2.at_ (i := 3) rfl; have e4 := hb2.at_ (i := 4) rfl; have e5 := hb2.at_ (i := 5) rfl; have e6 := hb2.at_ (i := 6) rfl; have e7 := hb2.at_ (i := 7) rfl; have d2 := hb1.at_ (i := 2) rfl; have d3 := hb1.at_ (i := 3) rfl; have d4 := hb1.at_ (i := 4) rfl; clear hf2 hb1 hb2; generalize ((w.alloc (.cells #[.int .i64 1, .bool b, .bool neg, .string ⟨digits.toArray⟩, .int .i64 exp, .string ⟨s.toArray⟩, .slice A1 n1 c1, .slice A2 n2 c2] 107)).alloc (.cells #[.int .i64 0, .bool false, .bool neg, .string ⟨digits.toArray⟩, .int .i64 exp, .string ⟨s.toArray⟩, .slice A1 n1 c1, .slice A2 n2 c2] 107)) = w2 at *
     cases dz with
     | false =>
      go_wp2_with fail; exact HQ.out _ _ ⟨by rw [HE.out]; simp, HF.out⟩
     | true =>
      cases se with
      | false =>
       go_wp2_with fail; exact HQ.out _ _ ⟨by rw [HE.out]; simp, HF.out⟩
      | true =>
       cases nz with
       | false =>
        go_wp2_with fail; exact HQ.out _ _ ⟨by rw [HE.out]; simp, HF.out⟩
       | true =>
        go_wp2_with fail; refine (jJ (w := w2) ⟨neg, digits, exp⟩ hdl hx1 hx2).mono ?_; rintro e w3 ⟨rfl, hf3⟩; have HF3 := lh (HF.out.trans hf3); have k5 := (HB1.out.fr hf3).at_ (i := 5) rfl; obtain ⟨sn, hsn⟩ : ∃ sn, Dcm.sane ⟨neg, digits, exp⟩ = sn := ⟨_, rfl⟩; have HSN := lh hsn; rw [hsn]; obtain ⟨C, w4, hcv, hC, hba, hf4⟩ := rH w3 ⟨s.toArray⟩ (by show s.toArray.size <= _; rw [List.size_toArray]; omega); have HBA := lh hba; have HF4 := lh (HF3.out.trans hf4); clear hf3 hf4 hba e1 e2 e3 e4 e5 e6 e7 d2 d3 d4 hsn
        cases sn with
        | false =>
         go_wp2_with fail; exact HQ.out _ _ ⟨by rw [HE.out, HSN.out]; simp, HF3.out⟩
        | true =>
         go_wp2_with fail; refine (mE HBA.out hC).mono ?_; rintro e w5 ⟨x, rfl, hx, hf5⟩; have HX : Hid (decide (x < 0) = lE s) := lh hx; have HF5 := lh (HF4.out.trans hf5); clear hx hf5; go_wp2_with fail; exact HQ.out _ _ ⟨by rw [HE.out, HSN.out, <- HX.out]; simp, HF5.out⟩
    ·by_cases k2 : kind = 2
     ·subst k2
      go_enter Tryz.func184, Tryz.ntmps184
      go_upto_region 12 with fail
      have hf2 : Fr [] w ((w.alloc (.cells #[.int .i64 2, .bool b, .bool neg, .string ⟨digits.toArray⟩, .int .i64 exp, .string ⟨s.toArray⟩, .slice A1 n1 c1, .slice A2 n2 c2] 107)).alloc (.cells #[.int .i64 0, .bool b, .bool false, .string ⟨#[]⟩, .int .i64 0, .string ⟨s.toArray⟩, .slice A1 n1 c1, .slice A2 n2 c2] 107)) := ((Fr.refl [] w).alloc _).alloc _; have hb1 := (Blk.new w 107 [.int .i64 2, .bool b, .bool neg, .string ⟨digits.toArray⟩, .int .i64 exp, .string ⟨s.toArray⟩, .slice A1 n1 c1, .slice A2 n2 c2]).alloc (.cells #[.int .i64 0, .bool b, .bool false, .string ⟨#[]⟩, .int .i64 0, .string ⟨s.toArray⟩, .slice A1 n1 c1, .slice A2 n2 c2] 107); have hb2 := Blk.new (w.alloc (.cells #[.int .i64 2, .bool b, .bool neg, .string ⟨digits.toArray⟩, .int .i64 exp, .string ⟨s.toArray⟩, .slice A1 n1 c1, .slice A2 n2 c2] 107)) 107 [.int .i64 0, .bool b, .bool false, .string ⟨#[]⟩, .int .i64 0, .string ⟨s.toArray⟩, .slice A1 n1 c1, .slice A2 n2 c2]; rw [show (w.alloc (.cells #[.int .i64 2, .bool b, .bool neg, .string ⟨digits.toArray⟩, .int .i64 exp, .string ⟨s.toArray⟩, .slice A1 n1 c1, .slice A2 n2 c2] 107)).heap.size = w.heap.size + 1 by simp] at hb2; have HF := lh hf2; have HB1 := lh hb1; have e1 := hb2.at_ (i := 1) rfl; have e2 := hb2.at_ (i := 2) rfl; have e3 := hb2.at_ (i := 3) rfl; have e4 := hb2.at_ (i := 4) rfl; have e5 := hb2.at_ (i := 5) rfl; have e6 := hb2.at_ (i := 6) rfl; have e7 := hb2.at_ (i := 7) rfl; have d2 := hb1.at_ (i := 2) rfl; have d3 := hb1.at_ (i := 3) rfl; have d4 := hb1.at_ (i := 4) rfl; clear hf2 hb1 hb2; generalize ((w.alloc (.cells #[.int .i64 2, .bool b, .bool neg, .string ⟨digits.toArray⟩, .int .i64 exp, .string ⟨s.toArray⟩, .slice A1 n1 c1, .slice A2 n2 c2] 107)).alloc (.cells #[.int .i64 0, .bool b, .bool false, .string ⟨#[]⟩, .int .i64 0, .string ⟨s.toArray⟩, .slice A1 n1 c1, .slice A2 n2 c2] 107)) = w2 at *
      cases b with
      | true =>
       go_wp2_with fail; exact HQ.out _ _ ⟨by rw [HE.out]; simp, HF.out⟩
      | false =>
       cases se with
       | false =>
        go_wp2_with fail; exact HQ.out _ _ ⟨by rw [HE.out]; simp, HF.out⟩
       | true =>
        cases nz with
        | false =>
         go_wp2_with fail; exact HQ.out _ _ ⟨by rw [HE.out]; simp, HF.out⟩
        | true =>
         go_wp2_with fail; refine (jJ (w := w2) ⟨neg, digits, exp⟩ hdl hx1 hx2).mono ?_; rintro e w3 ⟨rfl, hf3⟩; have HF3 := lh (HF.out.trans hf3); have k5 := (HB1.out.fr hf3).at_ (i := 5) rfl; obtain ⟨sn, hsn⟩ : ∃ sn, Dcm.sane ⟨neg, digits, exp⟩ = sn := ⟨_, rfl⟩; have HSN := lh hsn; rw [hsn]; obtain ⟨C, w4, hcv, hC, hba, hf4⟩ := rH w3 ⟨s.toArray⟩ (by show s.toArray.size <= _; rw [List.size_toArray]; omega); have HBA := lh hba; have HF4 := lh (HF3.out.trans hf4); clear hf3 hf4 hba e1 e2 e3 e4 e5 e6 e7 d2 d3 d4 hsn
         cases sn with
         | false =>
          go_wp2_with fail; exact HQ.out _ _ ⟨by rw [HE.out, HSN.out]; simp, HF3.out⟩
         | true =>
          go_wp2_with fail; refine (mE HBA.out hC).mono ?_; rintro e w5 ⟨x, rfl, hx, hf5⟩; have HX : Hid (decide (x < 0) = lE s) := lh hx; have HF5 := lh (HF4.out.trans hf5); clear hx hf5; go_wp2_with fail; exact HQ.out _ _ ⟨by rw [HE.out, HSN.out, <- HX.out]; simp, HF5.out⟩
     ·by_cases k3 : kind = 3
      ·subst k3
       go_enter Tryz.func184, Tryz.ntmps184
       go_upto_region 12 with fail
       have hf2 : Fr [] w ((w.alloc (.cells #[.int .i64 3, .bool b, .bool neg, .string ⟨digits.toArray⟩, .int .i64 exp, .string ⟨s.toArray⟩, .slice A1 n1 c1, .slice A2 n2 c2] 107)).alloc (.cells #[.int .i64 0, .bool b, .bool neg, .string ⟨digits.toArray⟩, .int .i64 exp, .string ⟨#[]⟩, .slice A1 n1 c1, .slice A2 n2 c2] 107)) := ((Fr.refl [] w).alloc _).alloc _; have hb1 := (Blk.new w 107 [.int .i64 3, .bool b, .bool neg, .string ⟨digits.toArray⟩, .int .i64 exp, .string ⟨s.toArray⟩, .slice A1 n1 c1, .slice A2 n2 c2]).alloc (.cells #[.int .i64 0, .bool b, .bool neg, .string ⟨digits.toArray⟩, .int .i64 exp, .string ⟨#[]⟩, .slice A1 n1 c1, .slice A2 n2 c2] 107); have hb2 := Blk.new (w.alloc (.cells #[.int .i64 3, .bool b, .bool neg, .string ⟨digits.toArray⟩, .int .i64 exp, .string ⟨s.toArray⟩, .slice A1 n1 c1, .slice A2 n2 c2] 107)) 107 [.int .i64 0, .bool b, .bool neg, .string ⟨digits.toArray⟩, .int .i64 exp, .string ⟨#[]⟩, .slice A1 n1 c1, .slice A2 n2 c2]; rw [show (w.alloc (.cells #[.int .i64 3, .bool b, .bool neg, .string ⟨digits.toArray⟩, .int .i64 exp, .string ⟨s.toArray⟩, .slice A1 n1 c1, .slice A2 n2 c2] 107)).heap.size = w.heap.size + 1 by simp] at hb2; have HF := lh hf2; have HB1 := lh hb1; have e1 := hb2.at_ (i := 1) rfl; have e2 := hb2.at_ (i := 2) rfl; have e3 := hb2.at_ (i := 3) rfl; have e4 := hb2.at_ (i := 4) rfl; have e5 := hb2.at_ (i := 5) rfl; have e6 := hb2.at_ (i := 6) rfl; have e7 := hb2.at_ (i := 7) rfl; have d2 := hb1.at_ (i := 2) rfl; have d3 := hb1.at_ (i := 3) rfl; have d4 := hb1.at_ (i := 4) rfl; clear hf2 hb1 hb2; generalize ((w.alloc (.cells #[.int .i64 3, .bool b, .bool neg, .string ⟨digits.toArray⟩, .int .i64 exp, .string ⟨s.toArray⟩, .slice A1 n1 c1, .slice A2 n2 c2] 107)).alloc (.cells #[.int .i64 0, .bool b, .bool neg, .string ⟨digits.toArray⟩, .int .i64 exp, .string ⟨#[]⟩, .slice A1 n1 c1, .slice A2 n2 c2] 107)) = w2 at *
       cases b with
       | true =>
        go_wp2_with fail; exact HQ.out _ _ ⟨by rw [HE.out]; simp, HF.out⟩
       | false =>
        cases dz with
        | false =>
         go_wp2_with fail; exact HQ.out _ _ ⟨by rw [HE.out]; simp, HF.out⟩
        | true =>
         cases nz with
         | false =>
          go_wp2_with fail; exact HQ.out _ _ ⟨by rw [HE.out]; simp, HF.out⟩
         | true =>
          go_wp2_with fail; refine (jJ (w := w2) ⟨neg, digits, exp⟩ hdl hx1 hx2).mono ?_; rintro e w3 ⟨rfl, hf3⟩; have HF3 := lh (HF.out.trans hf3); have k5 := (HB1.out.fr hf3).at_ (i := 5) rfl; obtain ⟨sn, hsn⟩ : ∃ sn, Dcm.sane ⟨neg, digits, exp⟩ = sn := ⟨_, rfl⟩; have HSN := lh hsn; rw [hsn]; obtain ⟨C, w4, hcv, hC, hba, hf4⟩ := rH w3 ⟨s.toArray⟩ (by show s.toArray.size <= _; rw [List.size_toArray]; omega); have HBA := lh hba; have HF4 := lh (HF3.out.trans hf4); clear hf3 hf4 hba e1 e2 e3 e4 e5 e6 e7 d2 d3 d4 hsn
          cases sn with
          | false =>
           go_wp2_with fail; exact HQ.out _ _ ⟨by rw [HE.out, HSN.out]; simp, HF3.out⟩
          | true =>
           go_wp2_with fail; refine (mE HBA.out hC).mono ?_; rintro e w5 ⟨x, rfl, hx, hf5⟩; have HX : Hid (decide (x < 0) = lE s) := lh hx; have HF5 := lh (HF4.out.trans hf5); clear hx hf5; go_wp2_with fail; exact HQ.out _ _ ⟨by rw [HE.out, HSN.out, <- HX.out]; simp, HF5.out⟩
      ·have d0 : (kind == 0) = false := by simpa using k0
       have d1 : (kind == 1) = false := by simpa using k1
       have d2 : (kind == 2) = false := by simpa using k2
       have d3 : (kind == 3) = false := by simpa using k3
       have HK : Hid (decide (0 <= kind /\ kind <= 3) = false) := lh (by rw [decide_eq_false_iff_not]; omega); clear k0 k1 k2 k3
       go_enter Tryz.func184, Tryz.ntmps184
       go_wp2_with fail; exact HQ.out _ _ ⟨by rw [HE.out, HK.out]; simp, ((Fr.refl [] w).alloc _).alloc _⟩
end
end
end Go.Proofs.YtbggkiebfflcdaaGreatDoor
