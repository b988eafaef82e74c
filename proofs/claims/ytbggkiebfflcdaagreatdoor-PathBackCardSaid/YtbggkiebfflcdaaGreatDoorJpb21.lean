/-
  Joined by join.py: Hy Hz Ia
-/
import Derived.Test.YtbggkiebfflcdaaGreatDoorJpb20
set_option maxRecDepth 100000
set_option maxHeartbeats 32000000
namespace Go.Proofs.YtbggkiebfflcdaaGreatDoor
section
open Go.RowKit Go.Shelf
def ownB (wh : Int) (rl qp kz lt oe : Bool) (ln : Nat) (op : List UInt8) (an : Bool) : Bool :=
 if (wh ≠ 6 /\ (rl = true ∨ qp = true)) ∨ (wh ≠ 5 /\ (kz = false ∨ lt = false)) ∨ (wh ≠ 4 /\ wh ≠ 7 /\ oe = false) then false
 else if wh = 1 ∨ wh = 2 then decide (1 < ln) else if wh = 3 then decide (ln = 1) else if wh = 4 then decide (ln = 2) && cK.contains op else if wh = 5 then decide (ln = 0) && lt else if wh = 6 then decide (ln = 0) else if wh = 7 then tB op && !an else false
theorem aGW (x : Xpr) : x.own = ownB x.what x.q.rel (decide (0 < x.q.l.length)) (decide (x.v.kind = 0)) x.v.lit (x.op == []) x.l.length x.op (x.l.any fun y => decide (y.what < 5)) := by
 unfold Xpr.own ownB
 simp
section
variable {w : World} {N : Nat -> Prop} {cs : List Value}
theorem aFW {x : Xpr} (h : fA w N x.cells cs) (hin : x.v.inR = true) (hsz : x.v.s.length <= 100000000) (hl : x.l.length <= 1000000) (ho : x.op.length <= 1000000) (_hq : x.q.l.length <= 1000000) :
  RV 148 #[.agg cs.toArray] w (.bool x.own) := by
 refine cA fun R HQ => ?_; have HE := lh (aGW x); obtain ⟨A, c, Aq, cq, vcs, rfl, hcv, -, hvr⟩ := bH h; have HLIT := lh (fun W (hW : Fr [] w W) => aFV (hvr.fr hW) hin hsz); have HANY := lh (fun W (hW : Fr [] w W) => gF (hcv.fr hW) hl (f := 187) (first := #[]) (cap := #[]) (all := fun v => #[v]) (fun v => rfl) (fun v w => by kernel_rfl) (fun y => decide (y.what < 5)) (fun y _ w1 cs1 _ h1 => aEM h1)); obtain ⟨vl, vm, rfl, hvl, hvm⟩ := tF hvr
 obtain ⟨A1, n1, c1, rfl⟩ : ∃ A1 n1 c1, vl = .slice A1 n1 c1 := by
  unfold Vlu.inR at hin; simp only [Bool.and_eq_true] at hin; obtain ⟨⟨-, h1⟩, -⟩ := hin
  match hx : x.v.l with
  | .leaf _ => rw [hx] at h1; simp [Cl.rowsB] at h1
  | .rows k l =>
   rw [hx] at hvl; obtain ⟨A1, c1, e, -⟩ := hvl.slice; exact ⟨A1, _, c1, e⟩
 obtain ⟨A2, n2, c2, rfl⟩ : ∃ A2 n2 c2, vm = .slice A2 n2 c2 := by
  unfold Vlu.inR at hin; simp only [Bool.and_eq_true] at hin; obtain ⟨⟨-, -⟩, h2⟩ := hin
  match hx : x.v.m with
  | .leaf _ => rw [hx] at h2; simp [Cl.rowsB] at h2
  | .rows k l =>
   rw [hx] at hvm; obtain ⟨A2, c2, e, -⟩ := hvm.slice; exact ⟨A2, _, c2, e⟩
 have HOB : Hid ((⟨x.op.toArray⟩ : ByteArray).size <= maxLen) := lh (by show x.op.toArray.size <= _; rw [List.size_toArray]; unfold maxLen; omega); obtain ⟨wh, hwh⟩ : ∃ wh, x.what = wh := ⟨_, rfl⟩; obtain ⟨ln, hln⟩ : ∃ ln, x.l.length = ln := ⟨_, rfl⟩; obtain ⟨op, hop⟩ : ∃ op, x.op = op := ⟨_, rfl⟩; obtain ⟨rl, hrl⟩ : ∃ rl, x.q.rel = rl := ⟨_, rfl⟩; obtain ⟨qn, hqn⟩ : ∃ qn, x.q.l.length = qn := ⟨_, rfl⟩; obtain ⟨kd, hkd⟩ : ∃ kd, x.v.kind = kd := ⟨_, rfl⟩; obtain ⟨vb, hvb⟩ : ∃ vb, x.v.b = vb := ⟨_, rfl⟩; obtain ⟨vn, hvn⟩ : ∃ vn, x.v.n.neg = vn := ⟨_, rfl⟩; obtain ⟨vd, hvd⟩ : ∃ vd, x.v.n.digits = vd := ⟨_, rfl⟩; obtain ⟨ve, hve⟩ : ∃ ve, x.v.n.exp = ve := ⟨_, rfl⟩; obtain ⟨vs, hvs⟩ : ∃ vs, x.v.s = vs := ⟨_, rfl⟩; obtain ⟨lt, hlt⟩ : ∃ lt, x.v.lit = lt := ⟨_, rfl⟩; obtain ⟨an, han⟩ : ∃ an, (x.l.any fun y => decide (y.what < 5)) = an := ⟨_, rfl⟩; rw [hwh, hln, hop, hrl, hqn, hkd, hlt, han] at HE; rw [hln] at HANY hl; rw [han] at HANY; rw [hkd, hvb, hvn, hvd, hve, hvs, hlt] at HLIT; rw [hop] at HOB; rw [hwh, hln, hop, hrl, hqn, hkd, hvb, hvn, hvd, hve, hvs]; obtain ⟨qp, hqp⟩ : ∃ qp, decide (0 < qn) = qp := ⟨_, rfl⟩; obtain ⟨kz, hkz⟩ : ∃ kz, decide (kd = 0) = kz := ⟨_, rfl⟩; obtain ⟨oe, hoe⟩ : ∃ oe, (op == []) = oe := ⟨_, rfl⟩; have HQP := lh hqp; have HKZ := lh hkz; have HOE := lh hoe; unfold ownB at HE; rw [hqp, hkz, hoe] at HE; clear h hin hsz ho _hq hcv hvr hvl hvm hwh hln hop hrl hqn hkd hvb hvn hvd hve hvs hlt han hqp hkz hoe; obtain ⟨cs, hcs⟩ : ∃ cs : List Value, Value.int .i64 wh :: .slice A ln c :: .string ⟨op.toArray⟩ :: .bool rl :: .slice Aq qn cq :: [.int .i64 kd, .bool vb, .bool vn, .string ⟨vd.toArray⟩, .int .i64 ve, .string ⟨vs.toArray⟩, .slice A1 n1 c1, .slice A2 n2 c2] = cs := ⟨_, rfl⟩; rw [hcs]
 go_enter Tryz.func148, Tryz.ntmps148
 go_wp2_with (with_reducible refine kA rfl 109 (.tmp 0) rfl cs rfl ?_)
 intro w0 hb0 hf0 hz0; subst hcs; have ca := hb0.at_ (i := 0) rfl; have cb := hb0.at_ (i := 1) rfl; have cc := hb0.at_ (i := 2) rfl; have cd := hb0.at_ (i := 3) rfl; have ce := hb0.at_ (i := 4) rfl; have cf := hb0.at_ (i := 5) rfl; have cg := hb0.at_ (i := 6) rfl; have ch := hb0.at_ (i := 7) rfl; have ci := hb0.at_ (i := 8) rfl; have cj := hb0.at_ (i := 9) rfl; have ck := hb0.at_ (i := 10) rfl; have cl := hb0.at_ (i := 11) rfl; have cm := hb0.at_ (i := 12) rfl; have HF1 := lh hf0; clear hb0 hf0 hz0; obtain ⟨w1, rfl⟩ := nm (w0)
 by_cases h1 : wh = 1
 ·skip
  subst h1
  cases rl with
  | true =>
   go_wp2_with fail; exact HQ.out _ _ ⟨by rw [HE.out]; first | rfl | simp, HF1.out⟩
  | false =>
   cases qp with
   | true =>
    have hq0 : 0 < qn := of_decide_eq_true HQP.out; go_wp2_with fail; exact HQ.out _ _ ⟨by rw [HE.out]; first | rfl | simp, HF1.out⟩
   | false =>
    have hq0 : qn = 0 := by have := of_decide_eq_false HQP.out; omega
    subst hq0
    cases kz with
    | false =>
     have f2 : (kd != 0) = true := by rw [bne_iff_ne]; exact of_decide_eq_false HKZ.out
     go_wp2_with fail; exact HQ.out _ _ ⟨by rw [HE.out]; first | rfl | simp, HF1.out⟩
    | true =>
     have hk0 : kd = 0 := of_decide_eq_true HKZ.out; subst hk0; go_wp2_with fail; refine (HLIT.out w1 HF1.out).mono ?_; rintro e w2 ⟨rfl, hf2⟩; have HF2 := lh (HF1.out.trans hf2); have k0 := bA hf2 ca; have k1 := bA hf2 cb; have k2 := bA hf2 cc; have k3 := bA hf2 cd; have k4 := bA hf2 ce; have k5 := bA hf2 cf; have k6 := bA hf2 cg; have k7 := bA hf2 ch; have k8 := bA hf2 ci; have k9 := bA hf2 cj; have k10 := bA hf2 ck; have k11 := bA hf2 cl; have k12 := bA hf2 cm; clear hf2 ca cb cc cd ce cf cg ch ci cj ck cl cm
     cases lt with
     | false =>
      go_wp2_with fail; exact HQ.out _ _ ⟨by rw [HE.out]; first | rfl | simp, HF2.out⟩
     | true =>
      cases op with
      | cons o0 o1 =>
       have ho9 : oe = false := by rw [<- HOE.out]; rfl
       subst ho9; go_wp2_with fail; exact HQ.out _ _ ⟨by rw [HE.out]; first | rfl | simp, HF2.out⟩
      | nil =>
       have ho9 : oe = true := by rw [<- HOE.out]; rfl
       subst ho9; go_upto_region 3 with fail
       refine iA (fun W => W.cell? ⟨w.heap.size, 2, none⟩ = some (.string ⟨([] : List UInt8).toArray⟩) /\ True) [1, 2, 4, 5, 6] (by kernel_rfl) ?_; refine tks [1, 2] ?_
       iterate 2 (refine tk rfl rfl ⟨k2, trivial⟩ rfl (fun _ hW => by (obtain ⟨q0, _⟩ := hW; go_simp) <;> with_reducible rfl) ?_; simp only [nrm])
       refine tke ?_; refine sp 0 rfl rfl rfl fun K hK => ?_; refine mA (l := []) rfl [] rfl (fun W => by kernel_rfl) (tD.mono ?_); rintro e w3 ⟨mb, rfl, hcm, hf3⟩; have hf23 : Fr [] w2 w3 := ((Fr.refl [] w2).drew).trans hf3; have hk2 := bA hf23 k2; have hlk := hcm.look_ok ⟨([] : List UInt8).toArray⟩ HOB.out; refine ⟨_, rfl, hK _ _ (fun _ => ⟨hk2, trivial⟩) ?_⟩; simp only [nrm]; clear hK; refine sp 3 rfl rfl rfl fun K hK => ?_; refine eA (v := .tuple #[.bool (nA (aA ⟨([] : List UInt8).toArray⟩)), .bool (tB (aA ⟨([] : List UInt8).toArray⟩))]) (by simp [execOp, Act.eval, hlk, Result.andThen]) (hK _ _ (fun _ => ⟨hk2, trivial⟩) ?_); simp only [nrm]; clear hK; refine tks [4, 5, 6] ?_
       iterate 3 (refine tk rfl rfl ⟨hk2, trivial⟩ rfl (fun _ hW => by (obtain ⟨q0, _⟩ := hW; go_simp) <;> with_reducible rfl) ?_; simp only [nrm])
       refine tke ?_; refine sp 7 rfl rfl rfl fun K hK => ?_; refine eA (v := ?aq1_7) ?yq1_7 (hK _ _ (fun _ => ⟨hk2, trivial⟩) ?_)
       case yq1_7 => go_simp <;> with_reducible rfl
       simp only [nrm]; refine sp 8 rfl rfl rfl fun K hK => ?_; refine eA (v := ?aq1_8) ?yq1_8 (hK _ _ (fun _ => ⟨hk2, trivial⟩) ?_)
       case yq1_8 => go_simp <;> with_reducible rfl
       simp only [nrm]; refine wd ?_ _; have HF3 := lh (HF2.out.trans hf23); have j0 := bA hf23 k0; have j1 := bA hf23 k1; have j2 := bA hf23 k2; have j3 := bA hf23 k3; have j4 := bA hf23 k4; have j5 := bA hf23 k5; have j6 := bA hf23 k6; have j7 := bA hf23 k7; have j8 := bA hf23 k8; have j9 := bA hf23 k9; have j10 := bA hf23 k10; have j11 := bA hf23 k11; have j12 := bA hf23 k12; clear hf3 hf23 hcm hlk hk2 k0 k1 k2 k3 k4 k5 k6 k7 k8 k9 k10 k11 k12; obtain ⟨ic, hic⟩ : ∃ ic, tB (aA ⟨([] : List UInt8).toArray⟩) = ic := ⟨_, rfl⟩; obtain ⟨tc, htc⟩ : ∃ tc, nA (aA ⟨([] : List UInt8).toArray⟩) = tc := ⟨_, rfl⟩; rw [hic, htc]; have HIC : Hid (tB (([] : List UInt8)) = ic) := lh hic; clear hic htc
       by_cases hln : 1 < ln
       ·go_wp2_with fail; exact HQ.out _ _ ⟨by rw [HE.out]; simp [hln] <;> omega, HF3.out⟩
       ·go_wp2_with fail; exact HQ.out _ _ ⟨by rw [HE.out]; simp [hln] <;> omega, HF3.out⟩
 ·skip
  by_cases h2 : wh = 2
  ·skip
   subst h2
   cases rl with
   | true =>
    go_wp2_with fail; exact HQ.out _ _ ⟨by rw [HE.out]; first | rfl | simp, HF1.out⟩
   | false =>
    cases qp with
    | true =>
     have hq0 : 0 < qn := of_decide_eq_true HQP.out; go_wp2_with fail; exact HQ.out _ _ ⟨by rw [HE.out]; first | rfl | simp, HF1.out⟩
    | false =>
     have hq0 : qn = 0 := by have := of_decide_eq_false HQP.out; omega
     subst hq0
     cases kz with
     | false =>
      have f2 : (kd != 0) = true := by rw [bne_iff_ne]; exact of_decide_eq_false HKZ.out
      go_wp2_with fail; exact HQ.out _ _ ⟨by rw [HE.out]; first | rfl | simp, HF1.out⟩
     | true =>
      have hk0 : kd = 0 := of_decide_eq_true HKZ.out; subst hk0; go_wp2_with fail; refine (HLIT.out w1 HF1.out).mono ?_; rintro e w2 ⟨rfl, hf2⟩; have HF2 := lh (HF1.out.trans hf2); have k0 := bA hf2 ca; have k1 := bA hf2 cb; have k2 := bA hf2 cc; have k3 := bA hf2 cd; have k4 := bA hf2 ce; have k5 := bA hf2 cf; have k6 := bA hf2 cg; have k7 := bA hf2 ch; have k8 := bA hf2 ci; have k9 := bA hf2 cj; have k10 := bA hf2 ck; have k11 := bA hf2 cl; have k12 := bA hf2 cm; clear hf2 ca cb cc cd ce cf cg ch ci cj ck cl cm
      cases lt with
      | false =>
       go_wp2_with fail; exact HQ.out _ _ ⟨by rw [HE.out]; first | rfl | simp, HF2.out⟩
      | true =>
       cases op with
       | cons o0 o1 =>
        have ho9 : oe = false := by rw [<- HOE.out]; rfl
        subst ho9; go_wp2_with fail; exact HQ.out _ _ ⟨by rw [HE.out]; first | rfl | simp, HF2.out⟩
       | nil =>
        have ho9 : oe = true := by rw [<- HOE.out]; rfl
        subst ho9; go_upto_region 3 with fail
        refine iA (fun W => W.cell? ⟨w.heap.size, 2, none⟩ = some (.string ⟨([] : List UInt8).toArray⟩) /\ True) [1, 2, 4, 5, 6] (by kernel_rfl) ?_; refine tks [1, 2] ?_
        iterate 2 (refine tk rfl rfl ⟨k2, trivial⟩ rfl (fun _ hW => by (obtain ⟨q0, _⟩ := hW; go_simp) <;> with_reducible rfl) ?_; simp only [nrm])
        refine tke ?_; refine sp 0 rfl rfl rfl fun K hK => ?_; refine mA (l := []) rfl [] rfl (fun W => by kernel_rfl) (tD.mono ?_); rintro e w3 ⟨mb, rfl, hcm, hf3⟩; have hf23 : Fr [] w2 w3 := ((Fr.refl [] w2).drew).trans hf3; have hk2 := bA hf23 k2; have hlk := hcm.look_ok ⟨([] : List UInt8).toArray⟩ HOB.out; refine ⟨_, rfl, hK _ _ (fun _ => ⟨hk2, trivial⟩) ?_⟩; simp only [nrm]; clear hK; refine sp 3 rfl rfl rfl fun K hK => ?_; refine eA (v := .tuple #[.bool (nA (aA ⟨([] : List UInt8).toArray⟩)), .bool (tB (aA ⟨([] : List UInt8).toArray⟩))]) (by simp [execOp, Act.eval, hlk, Result.andThen]) (hK _ _ (fun _ => ⟨hk2, trivial⟩) ?_); simp only [nrm]; clear hK; refine tks [4, 5, 6] ?_
        iterate 3 (refine tk rfl rfl ⟨hk2, trivial⟩ rfl (fun _ hW => by (obtain ⟨q0, _⟩ := hW; go_simp) <;> with_reducible rfl) ?_; simp only [nrm])
        refine tke ?_; refine sp 7 rfl rfl rfl fun K hK => ?_; refine eA (v := ?aq2_7) ?yq2_7 (hK _ _ (fun _ => ⟨hk2, trivial⟩) ?_)
        case yq2_7 => go_simp <;> with_reducible rfl
        simp only [nrm]; refine sp 8 rfl rfl rfl fun K hK => ?_; refine eA (v := ?aq2_8) ?yq2_8 (hK _ _ (fun _ => ⟨hk2, trivial⟩) ?_)
        case yq2_8 => go_simp <;> with_reducible rfl
        simp only [nrm]; refine wd ?_ _; have HF3 := lh (HF2.out.trans hf23); have j0 := bA hf23 k0; have j1 := bA hf23 k1; have j2 := bA hf23 k2; have j3 := bA hf23 k3; have j4 := bA hf23 k4; have j5 := bA hf23 k5; have j6 := bA hf23 k6; have j7 := bA hf23 k7; have j8 := bA hf23 k8; have j9 := bA hf23 k9; have j10 := bA hf23 k10; have j11 := bA hf23 k11; have j12 := bA hf23 k12; clear hf3 hf23 hcm hlk hk2 k0 k1 k2 k3 k4 k5 k6 k7 k8 k9 k10 k11 k12; obtain ⟨ic, hic⟩ : ∃ ic, tB (aA ⟨([] : List UInt8).toArray⟩) = ic := ⟨_, rfl⟩; obtain ⟨tc, htc⟩ : ∃ tc, nA (aA ⟨([] : List UInt8).toArray⟩) = tc := ⟨_, rfl⟩; rw [hic, htc]; have HIC : Hid (tB (([] : List UInt8)) = ic) := lh hic; clear hic htc
        by_cases hln : 1 < ln
        ·go_wp2_with fail; exact HQ.out _ _ ⟨by rw [HE.out]; simp [hln] <;> omega, HF3.out⟩
        ·go_wp2_with fail; exact HQ.out _ _ ⟨by rw [HE.out]; simp [hln] <;> omega, HF3.out⟩
  ·skip
   by_cases h3 : wh = 3
   ·skip
    subst h3
    cases rl with
    | true =>
     go_wp2_with fail; exact HQ.out _ _ ⟨by rw [HE.out]; first | rfl | simp, HF1.out⟩
    | false =>
     cases qp with
     | true =>
      have hq0 : 0 < qn := of_decide_eq_true HQP.out; go_wp2_with fail; exact HQ.out _ _ ⟨by rw [HE.out]; first | rfl | simp, HF1.out⟩
     | false =>
      have hq0 : qn = 0 := by have := of_decide_eq_false HQP.out; omega
      subst hq0
      cases kz with
      | false =>
       have f2 : (kd != 0) = true := by rw [bne_iff_ne]; exact of_decide_eq_false HKZ.out
       go_wp2_with fail; exact HQ.out _ _ ⟨by rw [HE.out]; first | rfl | simp, HF1.out⟩
      | true =>
       have hk0 : kd = 0 := of_decide_eq_true HKZ.out; subst hk0; go_wp2_with fail; refine (HLIT.out w1 HF1.out).mono ?_; rintro e w2 ⟨rfl, hf2⟩; have HF2 := lh (HF1.out.trans hf2); have k0 := bA hf2 ca; have k1 := bA hf2 cb; have k2 := bA hf2 cc; have k3 := bA hf2 cd; have k4 := bA hf2 ce; have k5 := bA hf2 cf; have k6 := bA hf2 cg; have k7 := bA hf2 ch; have k8 := bA hf2 ci; have k9 := bA hf2 cj; have k10 := bA hf2 ck; have k11 := bA hf2 cl; have k12 := bA hf2 cm; clear hf2 ca cb cc cd ce cf cg ch ci cj ck cl cm
       cases lt with
       | false =>
        go_wp2_with fail; exact HQ.out _ _ ⟨by rw [HE.out]; first | rfl | simp, HF2.out⟩
       | true =>
        cases op with
        | cons o0 o1 =>
         have ho9 : oe = false := by rw [<- HOE.out]; rfl
         subst ho9; go_wp2_with fail; exact HQ.out _ _ ⟨by rw [HE.out]; first | rfl | simp, HF2.out⟩
        | nil =>
         have ho9 : oe = true := by rw [<- HOE.out]; rfl
         subst ho9; go_upto_region 3 with fail
         refine iA (fun W => W.cell? ⟨w.heap.size, 2, none⟩ = some (.string ⟨([] : List UInt8).toArray⟩) /\ True) [1, 2, 4, 5, 6] (by kernel_rfl) ?_; refine tks [1, 2] ?_
         iterate 2 (refine tk rfl rfl ⟨k2, trivial⟩ rfl (fun _ hW => by (obtain ⟨q0, _⟩ := hW; go_simp) <;> with_reducible rfl) ?_; simp only [nrm])
         refine tke ?_; refine sp 0 rfl rfl rfl fun K hK => ?_; refine mA (l := []) rfl [] rfl (fun W => by kernel_rfl) (tD.mono ?_); rintro e w3 ⟨mb, rfl, hcm, hf3⟩; have hf23 : Fr [] w2 w3 := ((Fr.refl [] w2).drew).trans hf3; have hk2 := bA hf23 k2; have hlk := hcm.look_ok ⟨([] : List UInt8).toArray⟩ HOB.out; refine ⟨_, rfl, hK _ _ (fun _ => ⟨hk2, trivial⟩) ?_⟩; simp only [nrm]; clear hK; refine sp 3 rfl rfl rfl fun K hK => ?_; refine eA (v := .tuple #[.bool (nA (aA ⟨([] : List UInt8).toArray⟩)), .bool (tB (aA ⟨([] : List UInt8).toArray⟩))]) (by simp [execOp, Act.eval, hlk, Result.andThen]) (hK _ _ (fun _ => ⟨hk2, trivial⟩) ?_); simp only [nrm]; clear hK; refine tks [4, 5, 6] ?_
         iterate 3 (refine tk rfl rfl ⟨hk2, trivial⟩ rfl (fun _ hW => by (obtain ⟨q0, _⟩ := hW; go_simp) <;> with_reducible rfl) ?_; simp only [nrm])
         refine tke ?_; refine sp 7 rfl rfl rfl fun K hK => ?_; refine eA (v := ?aq3_7) ?yq3_7 (hK _ _ (fun _ => ⟨hk2, trivial⟩) ?_)
         case yq3_7 => go_simp <;> with_reducible rfl
         simp only [nrm]; refine sp 8 rfl rfl rfl fun K hK => ?_; refine eA (v := ?aq3_8) ?yq3_8 (hK _ _ (fun _ => ⟨hk2, trivial⟩) ?_)
         case yq3_8 => go_simp <;> with_reducible rfl
         simp only [nrm]; refine wd ?_ _; have HF3 := lh (HF2.out.trans hf23); have j0 := bA hf23 k0; have j1 := bA hf23 k1; have j2 := bA hf23 k2; have j3 := bA hf23 k3; have j4 := bA hf23 k4; have j5 := bA hf23 k5; have j6 := bA hf23 k6; have j7 := bA hf23 k7; have j8 := bA hf23 k8; have j9 := bA hf23 k9; have j10 := bA hf23 k10; have j11 := bA hf23 k11; have j12 := bA hf23 k12; clear hf3 hf23 hcm hlk hk2 k0 k1 k2 k3 k4 k5 k6 k7 k8 k9 k10 k11 k12; obtain ⟨ic, hic⟩ : ∃ ic, tB (aA ⟨([] : List UInt8).toArray⟩) = ic := ⟨_, rfl⟩; obtain ⟨tc, htc⟩ : ∃ tc, nA (aA ⟨([] : List UInt8).toArray⟩) = tc := ⟨_, rfl⟩; rw [hic, htc]; have HIC : Hid (tB (([] : List UInt8)) = ic) := lh hic; clear hic htc
         by_cases hln : ln = 1
         ·go_wp2_with fail; exact HQ.out _ _ ⟨by rw [HE.out]; simp [hln] <;> omega, HF3.out⟩
         ·go_wp2_with fail; exact HQ.out _ _ ⟨by rw [HE.out]; simp [hln] <;> omega, HF3.out⟩
   ·skip
    by_cases h4 : wh = 4
    ·skip
     subst h4
     cases rl with
     | true =>
      go_wp2_with fail; exact HQ.out _ _ ⟨by rw [HE.out]; first | rfl | simp, HF1.out⟩
     | false =>
      cases qp with
      | true =>
       have hq0 : 0 < qn := of_decide_eq_true HQP.out; go_wp2_with fail; exact HQ.out _ _ ⟨by rw [HE.out]; first | rfl | simp, HF1.out⟩
      | false =>
       have hq0 : qn = 0 := by have := of_decide_eq_false HQP.out; omega
       subst hq0
       cases kz with
       | false =>
        have f2 : (kd != 0) = true := by rw [bne_iff_ne]; exact of_decide_eq_false HKZ.out
        go_wp2_with fail; exact HQ.out _ _ ⟨by rw [HE.out]; first | rfl | simp, HF1.out⟩
       | true =>
        have hk0 : kd = 0 := of_decide_eq_true HKZ.out; subst hk0; go_wp2_with fail; refine (HLIT.out w1 HF1.out).mono ?_; rintro e w2 ⟨rfl, hf2⟩; have HF2 := lh (HF1.out.trans hf2); have k0 := bA hf2 ca; have k1 := bA hf2 cb; have k2 := bA hf2 cc; have k3 := bA hf2 cd; have k4 := bA hf2 ce; have k5 := bA hf2 cf; have k6 := bA hf2 cg; have k7 := bA hf2 ch; have k8 := bA hf2 ci; have k9 := bA hf2 cj; have k10 := bA hf2 ck; have k11 := bA hf2 cl; have k12 := bA hf2 cm; clear hf2 ca cb cc cd ce cf cg ch ci cj ck cl cm
        cases lt with
        | false =>
         go_wp2_with fail; exact HQ.out _ _ ⟨by rw [HE.out]; first | rfl | simp, HF2.out⟩
        | true =>
         go_upto_region 3 with fail
         refine iA (fun W => W.cell? ⟨w.heap.size, 2, none⟩ = some (.string ⟨op.toArray⟩) /\ True) [1, 2, 4, 5, 6] (by kernel_rfl) ?_; refine tks [1, 2] ?_
         iterate 2 (refine tk rfl rfl ⟨k2, trivial⟩ rfl (fun _ hW => by (obtain ⟨q0, _⟩ := hW; go_simp) <;> with_reducible rfl) ?_; simp only [nrm])
         refine tke ?_; refine sp 0 rfl rfl rfl fun K hK => ?_; refine mA (l := []) rfl [] rfl (fun W => by kernel_rfl) (tD.mono ?_); rintro e w3 ⟨mb, rfl, hcm, hf3⟩; have hf23 : Fr [] w2 w3 := ((Fr.refl [] w2).drew).trans hf3; have hk2 := bA hf23 k2; have hlk := hcm.look_ok ⟨op.toArray⟩ HOB.out; refine ⟨_, rfl, hK _ _ (fun _ => ⟨hk2, trivial⟩) ?_⟩; simp only [nrm]; clear hK; refine sp 3 rfl rfl rfl fun K hK => ?_; refine eA (v := .tuple #[.bool (nA (aA ⟨op.toArray⟩)), .bool (tB (aA ⟨op.toArray⟩))]) (by simp [execOp, Act.eval, hlk, Result.andThen]) (hK _ _ (fun _ => ⟨hk2, trivial⟩) ?_); simp only [nrm]; clear hK; refine tks [4, 5, 6] ?_
         iterate 3 (refine tk rfl rfl ⟨hk2, trivial⟩ rfl (fun _ hW => by (obtain ⟨q0, _⟩ := hW; go_simp) <;> with_reducible rfl) ?_; simp only [nrm])
         refine tke ?_; refine sp 7 rfl rfl rfl fun K hK => ?_; refine eA (v := ?aq4_7) ?yq4_7 (hK _ _ (fun _ => ⟨hk2, trivial⟩) ?_)
         case yq4_7 => go_simp <;> with_reducible rfl
         simp only [nrm]; refine sp 8 rfl rfl rfl fun K hK => ?_; refine eA (v := ?aq4_8) ?yq4_8 (hK _ _ (fun _ => ⟨hk2, trivial⟩) ?_)
         case yq4_8 => go_simp <;> with_reducible rfl
         simp only [nrm]; refine wd ?_ _; have HF3 := lh (HF2.out.trans hf23); have j0 := bA hf23 k0; have j1 := bA hf23 k1; have j2 := bA hf23 k2; have j3 := bA hf23 k3; have j4 := bA hf23 k4; have j5 := bA hf23 k5; have j6 := bA hf23 k6; have j7 := bA hf23 k7; have j8 := bA hf23 k8; have j9 := bA hf23 k9; have j10 := bA hf23 k10; have j11 := bA hf23 k11; have j12 := bA hf23 k12; clear hf3 hf23 hcm hlk hk2 k0 k1 k2 k3 k4 k5 k6 k7 k8 k9 k10 k11 k12; obtain ⟨ic, hic⟩ : ∃ ic, tB (aA ⟨op.toArray⟩) = ic := ⟨_, rfl⟩; obtain ⟨tc, htc⟩ : ∃ tc, nA (aA ⟨op.toArray⟩) = tc := ⟨_, rfl⟩; rw [hic, htc]; have HIC : Hid (tB (op) = ic) := lh hic; clear hic htc
         by_cases hln : ln = 2
         ·subst hln; go_upto_region 11 with fail
          have HOPS := lh (aBS w3.drew); refine iA (fun W => W.cell? ⟨w.heap.size, 1, none⟩ = some (.slice A 2 c) /\ W.cell? ⟨w.heap.size, 2, none⟩ = some (.string ⟨op.toArray⟩)) [0, 1, 2, 3, 4, 6, 7, 9] (by kernel_rfl) ?_; refine tks [0, 1, 2, 3, 4, 6, 7] ?_
          iterate 7 (refine tk rfl rfl ⟨j1, j2⟩ rfl (fun _ hW => by (obtain ⟨q0, q1⟩ := hW; go_simp) <;> with_reducible rfl) ?_; simp only [nrm])
          refine tke ?_; refine xB (j := 5) (some 81) rfl rfl (by kernel_rfl) rfl fun K hK => ?_; refine mA (l := []) rfl [] rfl (fun W => by kernel_rfl) (HOPS.out.mono ?_); rintro e w4 ⟨rfl, hcell, hf4⟩; have hf34 : Fr [] w3 w4 := ((Fr.refl [] w3).drew).trans hf4; have i1 := bA hf34 j1; have i2 := bA hf34 j2; have hct := Tryz.slices_Contains_string w3.drew.heap.size 0 6 6 eZ ⟨op.toArray⟩ w4 (by decide) (by decide) hcell; rw [fZ] at hct; refine ⟨_, rfl, hK _ _ (fun _ => ⟨i1, i2⟩) ?_⟩; simp only [nrm]; clear hK HOPS; refine xB (j := 8) (some 84) rfl rfl (by kernel_rfl) rfl fun K hK => ?_; refine mA (l := [.tmp 81, .tmp 83]) rfl [.slice (some ⟨w3.drew.heap.size, 0, none⟩) 6 6, .string ⟨op.toArray⟩] rfl (fun W => by kernel_rfl) (hct.mono ?_); rintro e w5 ⟨rfl, rfl⟩; refine ⟨_, rfl, hK _ _ (fun _ => ⟨i1, i2⟩) ?_⟩; simp only [nrm]; clear hK; refine tks [9] ?_; refine tk rfl rfl ⟨i1, i2⟩ rfl (fun _ hW => by (obtain ⟨q0, q1⟩ := hW; go_simp) <;> with_reducible rfl) ?_; simp only [nrm]; refine tke ?_; refine sp 10 rfl rfl rfl fun K hK => ?_; refine eA (v := ?aq5_10) ?yq5_10 (hK _ _ (fun _ => ⟨i1, i2⟩) ?_)
          case yq5_10 => go_simp <;> with_reducible rfl
          simp only [nrm]; refine wd ?_ _; have HF4 := lh (HF3.out.trans hf34)
          have HCN : Hid (cK.contains op = decide (aA ⟨op.toArray⟩ ∈ cK)) := lh (by
           show cK.contains op = decide (op ∈ cK)
           rw [Bool.eq_iff_iff]; simp)
          clear hcell hf4 hf34 hct i1 i2; go_wp2_with fail; exact HQ.out _ _ ⟨by rw [HE.out, HCN.out]; simp, HF4.out⟩
         ·have g3 : ((ln : Int) == 2) = false := by rw [beq_eq_false_iff_ne]; omega
          go_upto_region 11 with fail
          go_quiet (fail)
          go_wp2_with fail; exact HQ.out _ _ ⟨by rw [HE.out]; simp [hln], HF3.out.drewN _⟩
    ·skip
     by_cases h5 : wh = 5
     ·skip
      subst h5
      cases rl with
      | true =>
       go_wp2_with fail; exact HQ.out _ _ ⟨by rw [HE.out]; first | rfl | simp, HF1.out⟩
      | false =>
       cases qp with
       | true =>
        have hq0 : 0 < qn := of_decide_eq_true HQP.out; go_wp2_with fail; exact HQ.out _ _ ⟨by rw [HE.out]; first | rfl | simp, HF1.out⟩
       | false =>
        have hq0 : qn = 0 := by have := of_decide_eq_false HQP.out; omega
        subst hq0; have HF2 := HF1; have k0 := ca; have k1 := cb; have k2 := cc; have k3 := cd; have k4 := ce; have k5 := cf; have k6 := cg; have k7 := ch; have k8 := ci; have k9 := cj; have k10 := ck; have k11 := cl; have k12 := cm; obtain ⟨w2, rfl⟩ := nm (w1); clear ca cb cc cd ce cf cg ch ci cj ck cl cm
        cases op with
        | cons o0 o1 =>
         have ho9 : oe = false := by rw [<- HOE.out]; rfl
         subst ho9; go_wp2_with fail; exact HQ.out _ _ ⟨by rw [HE.out]; first | rfl | simp, HF2.out⟩
        | nil =>
         have ho9 : oe = true := by rw [<- HOE.out]; rfl
         subst ho9; go_upto_region 3 with fail
         refine iA (fun W => W.cell? ⟨w.heap.size, 2, none⟩ = some (.string ⟨([] : List UInt8).toArray⟩) /\ True) [1, 2, 4, 5, 6] (by kernel_rfl) ?_; refine tks [1, 2] ?_
         iterate 2 (refine tk rfl rfl ⟨k2, trivial⟩ rfl (fun _ hW => by (obtain ⟨q0, _⟩ := hW; go_simp) <;> with_reducible rfl) ?_; simp only [nrm])
         refine tke ?_; refine sp 0 rfl rfl rfl fun K hK => ?_; refine mA (l := []) rfl [] rfl (fun W => by kernel_rfl) (tD.mono ?_); rintro e w3 ⟨mb, rfl, hcm, hf3⟩; have hf23 : Fr [] w2 w3 := ((Fr.refl [] w2).drew).trans hf3; have hk2 := bA hf23 k2; have hlk := hcm.look_ok ⟨([] : List UInt8).toArray⟩ HOB.out; refine ⟨_, rfl, hK _ _ (fun _ => ⟨hk2, trivial⟩) ?_⟩; simp only [nrm]; clear hK; refine sp 3 rfl rfl rfl fun K hK => ?_; refine eA (v := .tuple #[.bool (nA (aA ⟨([] : List UInt8).toArray⟩)), .bool (tB (aA ⟨([] : List UInt8).toArray⟩))]) (by simp [execOp, Act.eval, hlk, Result.andThen]) (hK _ _ (fun _ => ⟨hk2, trivial⟩) ?_); simp only [nrm]; clear hK; refine tks [4, 5, 6] ?_
         iterate 3 (refine tk rfl rfl ⟨hk2, trivial⟩ rfl (fun _ hW => by (obtain ⟨q0, _⟩ := hW; go_simp) <;> with_reducible rfl) ?_; simp only [nrm])
         refine tke ?_; refine sp 7 rfl rfl rfl fun K hK => ?_; refine eA (v := ?aq6_7) ?yq6_7 (hK _ _ (fun _ => ⟨hk2, trivial⟩) ?_)
         case yq6_7 => go_simp <;> with_reducible rfl
         simp only [nrm]; refine sp 8 rfl rfl rfl fun K hK => ?_; refine eA (v := ?aq6_8) ?yq6_8 (hK _ _ (fun _ => ⟨hk2, trivial⟩) ?_)
         case yq6_8 => go_simp <;> with_reducible rfl
         simp only [nrm]; refine wd ?_ _; have HF3 := lh (HF2.out.trans hf23); have j0 := bA hf23 k0; have j1 := bA hf23 k1; have j2 := bA hf23 k2; have j3 := bA hf23 k3; have j4 := bA hf23 k4; have j5 := bA hf23 k5; have j6 := bA hf23 k6; have j7 := bA hf23 k7; have j8 := bA hf23 k8; have j9 := bA hf23 k9; have j10 := bA hf23 k10; have j11 := bA hf23 k11; have j12 := bA hf23 k12; clear hf3 hf23 hcm hlk hk2 k0 k1 k2 k3 k4 k5 k6 k7 k8 k9 k10 k11 k12; obtain ⟨ic, hic⟩ : ∃ ic, tB (aA ⟨([] : List UInt8).toArray⟩) = ic := ⟨_, rfl⟩; obtain ⟨tc, htc⟩ : ∃ tc, nA (aA ⟨([] : List UInt8).toArray⟩) = tc := ⟨_, rfl⟩; rw [hic, htc]; have HIC : Hid (tB (([] : List UInt8)) = ic) := lh hic; clear hic htc
         by_cases hln : ln = 0
         ·subst hln; go_wp2_with fail; refine (HLIT.out w3 HF3.out).mono ?_; rintro e w4 ⟨rfl, hf4⟩; have HF4 := lh (HF3.out.trans hf4); clear hf4; go_wp2_with fail; exact HQ.out _ _ ⟨by rw [HE.out]; simp, HF4.out⟩
         ·have g0 : ((ln : Int) == 0) = false := by rw [beq_eq_false_iff_ne]; omega
          go_wp2_with fail; exact HQ.out _ _ ⟨by rw [HE.out]; simp [hln], HF3.out⟩
     ·skip
      by_cases h6 : wh = 6
      ·skip
       subst h6
       cases kz with
       | false =>
        have f2 : (kd != 0) = true := by rw [bne_iff_ne]; exact of_decide_eq_false HKZ.out
        go_wp2_with fail; exact HQ.out _ _ ⟨by rw [HE.out]; first | rfl | simp, HF1.out⟩
       | true =>
        have hk0 : kd = 0 := of_decide_eq_true HKZ.out; subst hk0; go_wp2_with fail; refine (HLIT.out w1 HF1.out).mono ?_; rintro e w2 ⟨rfl, hf2⟩; have HF2 := lh (HF1.out.trans hf2); have k0 := bA hf2 ca; have k1 := bA hf2 cb; have k2 := bA hf2 cc; have k3 := bA hf2 cd; have k4 := bA hf2 ce; have k5 := bA hf2 cf; have k6 := bA hf2 cg; have k7 := bA hf2 ch; have k8 := bA hf2 ci; have k9 := bA hf2 cj; have k10 := bA hf2 ck; have k11 := bA hf2 cl; have k12 := bA hf2 cm; clear hf2 ca cb cc cd ce cf cg ch ci cj ck cl cm
        cases lt with
        | false =>
         go_wp2_with fail; exact HQ.out _ _ ⟨by rw [HE.out]; first | rfl | simp, HF2.out⟩
        | true =>
         cases op with
         | cons o0 o1 =>
          have ho9 : oe = false := by rw [<- HOE.out]; rfl
          subst ho9; go_wp2_with fail; exact HQ.out _ _ ⟨by rw [HE.out]; first | rfl | simp, HF2.out⟩
         | nil =>
          have ho9 : oe = true := by rw [<- HOE.out]; rfl
          subst ho9; go_upto_region 3 with fail
          refine iA (fun W => W.cell? ⟨w.heap.size, 2, none⟩ = some (.string ⟨([] : List UInt8).toArray⟩) /\ True) [1, 2, 4, 5, 6] (by kernel_rfl) ?_; refine tks [1, 2] ?_
          iterate 2 (refine tk rfl rfl ⟨k2, trivial⟩ rfl (fun _ hW => by (obtain ⟨q0, _⟩ := hW; go_simp) <;> with_reducible rfl) ?_; simp only [nrm])
          refine tke ?_; refine sp 0 rfl rfl rfl fun K hK => ?_; refine mA (l := []) rfl [] rfl (fun W => by kernel_rfl) (tD.mono ?_); rintro e w3 ⟨mb, rfl, hcm, hf3⟩; have hf23 : Fr [] w2 w3 := ((Fr.refl [] w2).drew).trans hf3; have hk2 := bA hf23 k2; have hlk := hcm.look_ok ⟨([] : List UInt8).toArray⟩ HOB.out; refine ⟨_, rfl, hK _ _ (fun _ => ⟨hk2, trivial⟩) ?_⟩; simp only [nrm]; clear hK; refine sp 3 rfl rfl rfl fun K hK => ?_; refine eA (v := .tuple #[.bool (nA (aA ⟨([] : List UInt8).toArray⟩)), .bool (tB (aA ⟨([] : List UInt8).toArray⟩))]) (by simp [execOp, Act.eval, hlk, Result.andThen]) (hK _ _ (fun _ => ⟨hk2, trivial⟩) ?_); simp only [nrm]; clear hK; refine tks [4, 5, 6] ?_
          iterate 3 (refine tk rfl rfl ⟨hk2, trivial⟩ rfl (fun _ hW => by (obtain ⟨q0, _⟩ := hW; go_simp) <;> with_reducible rfl) ?_; simp only [nrm])
          refine tke ?_; refine sp 7 rfl rfl rfl fun K hK => ?_; refine eA (v := ?aq7_7) ?yq7_7 (hK _ _ (fun _ => ⟨hk2, trivial⟩) ?_)
          case yq7_7 => go_simp <;> with_reducible rfl
          simp only [nrm]; refine sp 8 rfl rfl rfl fun K hK => ?_; refine eA (v := ?aq7_8) ?yq7_8 (hK _ _ (fun _ => ⟨hk2, trivial⟩) ?_)
          case yq7_8 => go_simp <;> with_reducible rfl
          simp only [nrm]; refine wd ?_ _; have HF3 := lh (HF2.out.trans hf23); have j0 := bA hf23 k0; have j1 := bA hf23 k1; have j2 := bA hf23 k2; have j3 := bA hf23 k3; have j4 := bA hf23 k4; have j5 := bA hf23 k5; have j6 := bA hf23 k6; have j7 := bA hf23 k7; have j8 := bA hf23 k8; have j9 := bA hf23 k9; have j10 := bA hf23 k10; have j11 := bA hf23 k11; have j12 := bA hf23 k12; clear hf3 hf23 hcm hlk hk2 k0 k1 k2 k3 k4 k5 k6 k7 k8 k9 k10 k11 k12; obtain ⟨ic, hic⟩ : ∃ ic, tB (aA ⟨([] : List UInt8).toArray⟩) = ic := ⟨_, rfl⟩; obtain ⟨tc, htc⟩ : ∃ tc, nA (aA ⟨([] : List UInt8).toArray⟩) = tc := ⟨_, rfl⟩; rw [hic, htc]; have HIC : Hid (tB (([] : List UInt8)) = ic) := lh hic; clear hic htc
          by_cases hln : ln = 0
          ·go_wp2_with fail; exact HQ.out _ _ ⟨by rw [HE.out]; simp [hln] <;> omega, HF3.out⟩
          ·go_wp2_with fail; exact HQ.out _ _ ⟨by rw [HE.out]; simp [hln] <;> omega, HF3.out⟩
      ·skip
       by_cases h7 : wh = 7
       ·skip
        subst h7
        cases rl with
        | true =>
         go_wp2_with fail; exact HQ.out _ _ ⟨by rw [HE.out]; first | rfl | simp, HF1.out⟩
        | false =>
         cases qp with
         | true =>
          have hq0 : 0 < qn := of_decide_eq_true HQP.out; go_wp2_with fail; exact HQ.out _ _ ⟨by rw [HE.out]; first | rfl | simp, HF1.out⟩
         | false =>
          have hq0 : qn = 0 := by have := of_decide_eq_false HQP.out; omega
          subst hq0
          cases kz with
          | false =>
           have f2 : (kd != 0) = true := by rw [bne_iff_ne]; exact of_decide_eq_false HKZ.out
           go_wp2_with fail; exact HQ.out _ _ ⟨by rw [HE.out]; first | rfl | simp, HF1.out⟩
          | true =>
           have hk0 : kd = 0 := of_decide_eq_true HKZ.out; subst hk0; go_wp2_with fail; refine (HLIT.out w1 HF1.out).mono ?_; rintro e w2 ⟨rfl, hf2⟩; have HF2 := lh (HF1.out.trans hf2); have k0 := bA hf2 ca; have k1 := bA hf2 cb; have k2 := bA hf2 cc; have k3 := bA hf2 cd; have k4 := bA hf2 ce; have k5 := bA hf2 cf; have k6 := bA hf2 cg; have k7 := bA hf2 ch; have k8 := bA hf2 ci; have k9 := bA hf2 cj; have k10 := bA hf2 ck; have k11 := bA hf2 cl; have k12 := bA hf2 cm; clear hf2 ca cb cc cd ce cf cg ch ci cj ck cl cm
           cases lt with
           | false =>
            go_wp2_with fail; exact HQ.out _ _ ⟨by rw [HE.out]; first | rfl | simp, HF2.out⟩
           | true =>
            go_upto_region 3 with fail
            refine iA (fun W => W.cell? ⟨w.heap.size, 2, none⟩ = some (.string ⟨op.toArray⟩) /\ True) [1, 2, 4, 5, 6] (by kernel_rfl) ?_; refine tks [1, 2] ?_
            iterate 2 (refine tk rfl rfl ⟨k2, trivial⟩ rfl (fun _ hW => by (obtain ⟨q0, _⟩ := hW; go_simp) <;> with_reducible rfl) ?_; simp only [nrm])
            refine tke ?_; refine sp 0 rfl rfl rfl fun K hK => ?_; refine mA (l := []) rfl [] rfl (fun W => by kernel_rfl) (tD.mono ?_); rintro e w3 ⟨mb, rfl, hcm, hf3⟩; have hf23 : Fr [] w2 w3 := ((Fr.refl [] w2).drew).trans hf3; have hk2 := bA hf23 k2; have hlk := hcm.look_ok ⟨op.toArray⟩ HOB.out; refine ⟨_, rfl, hK _ _ (fun _ => ⟨hk2, trivial⟩) ?_⟩; simp only [nrm]; clear hK; refine sp 3 rfl rfl rfl fun K hK => ?_; refine eA (v := .tuple #[.bool (nA (aA ⟨op.toArray⟩)), .bool (tB (aA ⟨op.toArray⟩))]) (by simp [execOp, Act.eval, hlk, Result.andThen]) (hK _ _ (fun _ => ⟨hk2, trivial⟩) ?_); simp only [nrm]; clear hK; refine tks [4, 5, 6] ?_
            iterate 3 (refine tk rfl rfl ⟨hk2, trivial⟩ rfl (fun _ hW => by (obtain ⟨q0, _⟩ := hW; go_simp) <;> with_reducible rfl) ?_; simp only [nrm])
            refine tke ?_; refine sp 7 rfl rfl rfl fun K hK => ?_; refine eA (v := ?aq8_7) ?yq8_7 (hK _ _ (fun _ => ⟨hk2, trivial⟩) ?_)
            case yq8_7 => go_simp <;> with_reducible rfl
            simp only [nrm]; refine sp 8 rfl rfl rfl fun K hK => ?_; refine eA (v := ?aq8_8) ?yq8_8 (hK _ _ (fun _ => ⟨hk2, trivial⟩) ?_)
            case yq8_8 => go_simp <;> with_reducible rfl
            simp only [nrm]; refine wd ?_ _; have HF3 := lh (HF2.out.trans hf23); have j0 := bA hf23 k0; have j1 := bA hf23 k1; have j2 := bA hf23 k2; have j3 := bA hf23 k3; have j4 := bA hf23 k4; have j5 := bA hf23 k5; have j6 := bA hf23 k6; have j7 := bA hf23 k7; have j8 := bA hf23 k8; have j9 := bA hf23 k9; have j10 := bA hf23 k10; have j11 := bA hf23 k11; have j12 := bA hf23 k12; clear hf3 hf23 hcm hlk hk2 k0 k1 k2 k3 k4 k5 k6 k7 k8 k9 k10 k11 k12; obtain ⟨ic, hic⟩ : ∃ ic, tB (aA ⟨op.toArray⟩) = ic := ⟨_, rfl⟩; obtain ⟨tc, htc⟩ : ∃ tc, nA (aA ⟨op.toArray⟩) = tc := ⟨_, rfl⟩; rw [hic, htc]; have HIC : Hid (tB (op) = ic) := lh hic; clear hic htc
            cases ic with
            | false =>
             go_wp2_with fail; exact HQ.out _ _ ⟨by rw [HE.out, HIC.out]; simp, HF3.out⟩
            | true =>
             go_wp2_with fail; refine (HANY.out w3 HF3.out).mono ?_; rintro e w4 ⟨rfl, hf4⟩; have HF4 := lh (HF3.out.trans hf4); clear hf4; go_wp2_with fail; exact HQ.out _ _ ⟨by rw [HE.out, HIC.out]; simp, HF4.out⟩
       ·skip
        have d1 : (wh == 1) = false := by simpa using h1
        have m1 : (wh != 1) = true := by simpa using h1
        have d2 : (wh == 2) = false := by simpa using h2
        have m2 : (wh != 2) = true := by simpa using h2
        have d3 : (wh == 3) = false := by simpa using h3
        have m3 : (wh != 3) = true := by simpa using h3
        have d4 : (wh == 4) = false := by simpa using h4
        have m4 : (wh != 4) = true := by simpa using h4
        have d5 : (wh == 5) = false := by simpa using h5
        have m5 : (wh != 5) = true := by simpa using h5
        have d6 : (wh == 6) = false := by simpa using h6
        have m6 : (wh != 6) = true := by simpa using h6
        have d7 : (wh == 7) = false := by simpa using h7
        have m7 : (wh != 7) = true := by simpa using h7
        simp only [h1, h2, h3, h4, h5, h6, h7] at HE; clear h1 h2 h3 h4 h5 h6 h7
        cases rl with
        | true =>
         go_wp2_with fail; exact HQ.out _ _ ⟨by rw [HE.out]; first | rfl | simp, HF1.out⟩
        | false =>
         cases qp with
         | true =>
          have hq0 : 0 < qn := of_decide_eq_true HQP.out; go_wp2_with fail; exact HQ.out _ _ ⟨by rw [HE.out]; first | rfl | simp, HF1.out⟩
         | false =>
          have hq0 : qn = 0 := by have := of_decide_eq_false HQP.out; omega
          subst hq0
          cases kz with
          | false =>
           have f2 : (kd != 0) = true := by rw [bne_iff_ne]; exact of_decide_eq_false HKZ.out
           go_wp2_with fail; exact HQ.out _ _ ⟨by rw [HE.out]; first | rfl | simp, HF1.out⟩
          | true =>
           have hk0 : kd = 0 := of_decide_eq_true HKZ.out; subst hk0; go_wp2_with fail; refine (HLIT.out w1 HF1.out).mono ?_; rintro e w2 ⟨rfl, hf2⟩; have HF2 := lh (HF1.out.trans hf2); have k0 := bA hf2 ca; have k1 := bA hf2 cb; have k2 := bA hf2 cc; have k3 := bA hf2 cd; have k4 := bA hf2 ce; have k5 := bA hf2 cf; have k6 := bA hf2 cg; have k7 := bA hf2 ch; have k8 := bA hf2 ci; have k9 := bA hf2 cj; have k10 := bA hf2 ck; have k11 := bA hf2 cl; have k12 := bA hf2 cm; clear hf2 ca cb cc cd ce cf cg ch ci cj ck cl cm
           cases lt with
           | false =>
            go_wp2_with fail; exact HQ.out _ _ ⟨by rw [HE.out]; first | rfl | simp, HF2.out⟩
           | true =>
            cases op with
            | cons o0 o1 =>
             have ho9 : oe = false := by rw [<- HOE.out]; rfl
             subst ho9; go_wp2_with fail; exact HQ.out _ _ ⟨by rw [HE.out]; first | rfl | simp, HF2.out⟩
            | nil =>
             have ho9 : oe = true := by rw [<- HOE.out]; rfl
             subst ho9; go_upto_region 3 with fail
             refine iA (fun W => W.cell? ⟨w.heap.size, 2, none⟩ = some (.string ⟨([] : List UInt8).toArray⟩) /\ True) [1, 2, 4, 5, 6] (by kernel_rfl) ?_; refine tks [1, 2] ?_
             iterate 2 (refine tk rfl rfl ⟨k2, trivial⟩ rfl (fun _ hW => by (obtain ⟨q0, _⟩ := hW; go_simp) <;> with_reducible rfl) ?_; simp only [nrm])
             refine tke ?_; refine sp 0 rfl rfl rfl fun K hK => ?_; refine mA (l := []) rfl [] rfl (fun W => by kernel_rfl) (tD.mono ?_); rintro e w3 ⟨mb, rfl, hcm, hf3⟩; have hf23 : Fr [] w2 w3 := ((Fr.refl [] w2).drew).trans hf3; have hk2 := bA hf23 k2; have hlk := hcm.look_ok ⟨([] : List UInt8).toArray⟩ HOB.out; refine ⟨_, rfl, hK _ _ (fun _ => ⟨hk2, trivial⟩) ?_⟩; simp only [nrm]; clear hK; refine sp 3 rfl rfl rfl fun K hK => ?_; refine eA (v := .tuple #[.bool (nA (aA ⟨([] : List UInt8).toArray⟩)), .bool (tB (aA ⟨([] : List UInt8).toArray⟩))]) (by simp [execOp, Act.eval, hlk, Result.andThen]) (hK _ _ (fun _ => ⟨hk2, trivial⟩) ?_); simp only [nrm]; clear hK; refine tks [4, 5, 6] ?_
             iterate 3 (refine tk rfl rfl ⟨hk2, trivial⟩ rfl (fun _ hW => by (obtain ⟨q0, _⟩ := hW; go_simp) <;> with_reducible rfl) ?_; simp only [nrm])
             refine tke ?_; refine sp 7 rfl rfl rfl fun K hK => ?_; refine eA (v := ?aq9_7) ?yq9_7 (hK _ _ (fun _ => ⟨hk2, trivial⟩) ?_)
             case yq9_7 => go_simp <;> with_reducible rfl
             simp only [nrm]; refine sp 8 rfl rfl rfl fun K hK => ?_; refine eA (v := ?aq9_8) ?yq9_8 (hK _ _ (fun _ => ⟨hk2, trivial⟩) ?_)
             case yq9_8 => go_simp <;> with_reducible rfl
             simp only [nrm]; refine wd ?_ _; have HF3 := lh (HF2.out.trans hf23); have j0 := bA hf23 k0; have j1 := bA hf23 k1; have j2 := bA hf23 k2; have j3 := bA hf23 k3; have j4 := bA hf23 k4; have j5 := bA hf23 k5; have j6 := bA hf23 k6; have j7 := bA hf23 k7; have j8 := bA hf23 k8; have j9 := bA hf23 k9; have j10 := bA hf23 k10; have j11 := bA hf23 k11; have j12 := bA hf23 k12; clear hf3 hf23 hcm hlk hk2 k0 k1 k2 k3 k4 k5 k6 k7 k8 k9 k10 k11 k12; obtain ⟨ic, hic⟩ : ∃ ic, tB (aA ⟨([] : List UInt8).toArray⟩) = ic := ⟨_, rfl⟩; obtain ⟨tc, htc⟩ : ∃ tc, nA (aA ⟨([] : List UInt8).toArray⟩) = tc := ⟨_, rfl⟩; rw [hic, htc]; have HIC : Hid (tB (([] : List UInt8)) = ic) := lh hic; clear hic htc; go_wp2_with fail; exact HQ.out _ _ ⟨by rw [HE.out]; first | rfl | simp, HF3.out⟩
end
def SgQ (q : Qry) (d : Int) : Prop := ∀ (w : World) (N : Nat -> Prop) (cs : List Value), fA w N q.cells cs -> RV 34 #[.agg cs.toArray, .int .i64 d] w (.bool (q.shaped d))
def SgX (x : Xpr) (d : Int) : Prop := ∀ (w : World) (N : Nat -> Prop) (cs : List Value), fA w N x.cells cs -> RV 99 #[.agg cs.toArray, .int .i64 d] w (.bool (x.shaped d))
theorem pM (d : Int) (m : Xpr -> Int) : ∀ l : List Xpr, wB d m l = l.all fun y => y.shaped (d + m y)
 | [] => rfl
 | y :: l => by rw [List.all_cons, <- pM d m l]; rfl
theorem Xpr.shaped_eq (x : Xpr) (d : Int) : x.shaped d = (decide ((if x.what = 7 then d + 1 else d) <= 32) && x.own && x.q.shaped (if x.what = 7 then d + 1 else d) && x.l.all fun y => y.shaped ((if x.what = 7 then d + 1 else d) + x.deeper y)) := by
 obtain ⟨what, l, op, q, v⟩ := x; rw [<- pM]
 rfl
theorem iW (x y : Xpr) : 0 <= x.deeper y /\ x.deeper y <= 1 := by
 unfold Xpr.deeper
 split <;> omega
section
variable {w : World} {N M : Nat -> Prop} {cs ds : List Value}
theorem aGX {x y : Xpr} {d : Int} {b1 b2 : Nat} (h : fA w N y.cells cs) (hx : fA w M x.cells ds) (hb1 : Blk w b1 3 [.int .i64 d]) (hb2 : Blk w b2 109 ds) (hd1 : -10 <= d) (hd2 : d <= 1000) (hS : SgX y (d + x.deeper y)) :
  RV 149 #[.agg cs.toArray, .pointer (some ⟨b1, 0, none⟩), .pointer (some ⟨b2, 0, none⟩)] w (.bool (!(y.shaped (d + x.deeper y)))) := by
 refine cA fun R HQ => ?_; have hcl : cs.length = 13 := h.1.trans (lA y); have hdl : ds.length = 13 := hx.1.trans (lA x); have hc1 : (Tryz.prog.info? 109).map (·.size) = some cs.length := by rw [hcl]; exact nB
 have hc2 : (Tryz.prog.info? 109).map (·.size) = some ds.length := by rw [hdl]; exact nB
 have HC1 := lh hc1; have HC2 := lh hc2; have HH := lh h; have HX := lh hx; have HSS := lh hS; have hdp := iW x y; obtain ⟨dp, hdpe⟩ : ∃ dp, x.deeper y = dp := ⟨_, rfl⟩; rw [hdpe] at HSS hdp HQ; have HDP := lh hdpe; clear h hx hcl hdl hc1 hc2 hS hdpe
 go_enter Tryz.func149, Tryz.ntmps149
 go_wp2_with (with_reducible refine kA rfl 109 (.tmp 0) rfl cs rfl ?_)
 intro w0 hb0 hf0 hz0; have hbd := hb1.fr hf0; have hbx := hb2.fr hf0; have HF0 := lh hf0; have HWR : Hid (IntKind.i64.wrap (d + dp) = d + dp) := lh (by rw [IntKind.wrap_i64]; omega); clear hb1 hb2 hz0; go_upto_region 1 with fail
 refine iA (fun W => Blk W w.heap.size 109 cs /\ Blk W b1 3 [.int .i64 d] /\ Blk W b2 109 ds) [0, 1, 2, 3, 5, 7] (by kernel_rfl) ?_; refine tv 0 (.agg cs.toArray) rfl rfl ⟨hb0, hbd, hbx⟩ (.inl ⟨rfl, fun W hW => zK rfl rfl hW.1 Tryz.underlying109 rfl HC1.out⟩) ?_; simp only [nrm]; refine tks [1] ?_; refine tk rfl rfl ⟨hb0, hbd, hbx⟩ rfl (fun _ hW => by (obtain ⟨k0, k1, k2⟩ := hW; have z0 := k1.at_ (i := 0) rfl; go_simp) <;> with_reducible rfl) ?_; simp only [nrm]; refine tke ?_; refine tv 2 (.agg ds.toArray) rfl rfl ⟨hb0, hbd, hbx⟩ (.inl ⟨rfl, fun W hW => zK rfl rfl hW.2.2 Tryz.underlying109 rfl HC2.out⟩) ?_; simp only [nrm]; refine tv 3 (.agg cs.toArray) rfl rfl ⟨hb0, hbd, hbx⟩ (.inl ⟨rfl, fun W hW => zK rfl rfl hW.1 Tryz.underlying109 rfl HC1.out⟩) ?_; simp only [nrm]; refine sp 4 rfl rfl rfl fun K hK => ?_; have hfd : Fr [] w0 w0.drew := (Fr.refl [] w0).drew; refine mA (l := [.tmp 7, .tmp 8]) rfl [.agg ds.toArray, .agg cs.toArray] rfl (fun W => by kernel_rfl) ((aBr ((HX.out.fr hf0).fr hfd) ((HH.out.fr hf0).fr hfd)).mono ?_); rintro e w2 ⟨rfl, hf2⟩; rw [HDP.out]; have hf02 := hfd.trans hf2; have hb2' := hb0.fr hf02; have hbd2 := hbd.fr hf02; have hbx2 := hbx.fr hf02; have HF2 := lh (HF0.out.trans hf02); refine ⟨_, rfl, hK _ _ (fun _ => ⟨hb2', hbd2, hbx2⟩) ?_⟩; simp only [nrm]; clear hK; have hwr := HWR.out; refine tks [5] ?_; refine tk rfl rfl ⟨hb2', hbd2, hbx2⟩ rfl (fun _ hW => by (obtain ⟨k0, k1, k2⟩ := hW; go_simp) <;> with_reducible rfl) ?_; simp only [nrm]; refine tke ?_; refine sp 6 rfl rfl rfl fun K hK => ?_; refine mA (l := [.tmp 5, .tmp 10]) rfl [.agg cs.toArray, .int .i64 (d + dp)] rfl (fun W => by kernel_rfl) ((HSS.out w2 N cs (HH.out.fr HF2.out)).mono ?_); rintro e w3 ⟨rfl, hf3⟩; have HF3 := lh (HF2.out.trans hf3); refine ⟨_, rfl, hK _ _ (fun _ => ⟨hb2'.fr hf3, hbd2.fr hf3, hbx2.fr hf3⟩) ?_⟩; simp only [nrm]; clear hK; refine tks [7] ?_; refine tk rfl rfl ⟨hb2'.fr hf3, hbd2.fr hf3, hbx2.fr hf3⟩ rfl (fun _ hW => by (obtain ⟨k0, k1, k2⟩ := hW; go_simp) <;> with_reducible rfl) ?_; simp only [nrm]; refine tke ?_; refine sp 8 rfl rfl rfl fun K hK => ?_; refine eA (v := ?aq1_8) ?yq1_8 (hK _ _ (fun _ => ⟨hb2'.fr hf3, hbd2.fr hf3, hbx2.fr hf3⟩) ?_)
 case yq1_8 => go_simp <;> with_reducible rfl
 simp only [nrm]; refine wd ?_ _; go_wp2_with fail; exact HQ.out _ _ ⟨rfl, HF3.out⟩
end
section
variable {w : World} {N : Nat -> Prop} {cs : List Value}
theorem aAk {x : Xpr} {d : Int} (h : fA w N x.cells cs) (hin : x.v.inR = true) (hsz : x.v.s.length <= 100000000) (hll : x.l.length <= 1000000) (hop : x.op.length <= 1000000) (hql : x.q.l.length <= 1000000) (hd1 : -1 <= d) (hd2 : d <= 100)
  (hS : ∀ d1, -1 <= d1 -> d1 <= 32 -> SgQ x.q d1 /\ ∀ y ∈ x.l, SgX y (d1 + x.deeper y)) :
  RV 99 #[.agg cs.toArray, .int .i64 d] w (.bool (x.shaped d)) := by
 refine cA fun R HQ => ?_; obtain ⟨d1, hd1e⟩ : ∃ d1, (if x.what = 7 then d + 1 else d) = d1 := ⟨_, rfl⟩; have hE := x.shaped_eq d; rw [hd1e] at hE; have hcl : cs.length = 13 := h.1.trans (lA x); have hc1 : (Tryz.prog.info? 109).map (·.size) = some cs.length := by rw [hcl]; exact nB
 have hw0 := kE h; obtain ⟨Aq, cq, hc3, hc4, hrq⟩ := aL h; obtain ⟨A, c, hcx, hcv⟩ := aN h; have HOWN := lh (fun W (hW : Fr [] w W) => aFW (h.fr hW) hin hsz hll hop hql)
 have hany : ∀ l : List Xpr, (l.any fun y => !(y.shaped (d1 + x.deeper y))) = !(l.all fun y => y.shaped (d1 + x.deeper y)) := fun l => by
  induction l with
  | nil => rfl
  | cons y l ih => rw [List.any_cons, List.all_cons, ih, Bool.not_and]
 have hA := hany x.l; have HS : Hid (d1 <= 32 -> SgQ x.q d1 /\ ∀ y ∈ x.l, SgX y (d1 + x.deeper y)) := lh fun h9 => hS d1 (by rw [<- hd1e]; split <;> omega) h9; have HDB : Hid (-10 <= d1 /\ d1 <= 1000) := lh (by rw [<- hd1e]; split <;> omega); have HRQ := lh hrq; have HCV := lh hcv; have HC1 := lh hc1; have HH := lh h; have HLL := lh hll; obtain ⟨la, hla⟩ : ∃ la, (x.l.all fun y => y.shaped (d1 + x.deeper y)) = la := ⟨_, rfl⟩; obtain ⟨ow, how⟩ : ∃ ow, x.own = ow := ⟨_, rfl⟩; obtain ⟨qs, hqs⟩ : ∃ qs, x.q.shaped d1 = qs := ⟨_, rfl⟩; obtain ⟨dl, hdl⟩ : ∃ dl, decide (d1 <= 32) = dl := ⟨_, rfl⟩; rw [hla, how, hqs, hdl] at hE; rw [hla] at hA; rw [how] at HOWN; have hdg : decide (d1 > 32) = !dl := by rw [<- hdl, <- decide_not]; exact decide_eq_decide.2 (by omega)
 have HE := lh hE; have HA := lh hA; have HQS := lh hqs; have HDL := lh hdl; have HDG := lh hdg; obtain ⟨qr, hqr⟩ : ∃ qr, x.q.rel = qr := ⟨_, rfl⟩; obtain ⟨qn, hqn⟩ : ∃ qn, x.q.l.length = qn := ⟨_, rfl⟩; obtain ⟨xn, hxn⟩ : ∃ xn, x.l.length = xn := ⟨_, rfl⟩; rw [hqr] at hc3 HRQ; rw [hqn] at hc4 HRQ; rw [hxn] at hcx HCV; obtain ⟨wh, hwh⟩ : ∃ wh, x.what = wh := ⟨_, rfl⟩; rw [hwh] at hw0 hd1e; have HXN := lh hxn; have HCL := lh hcl; have hwr : IntKind.i64.wrap (d + 1) = d + 1 := by rw [IntKind.wrap_i64]; omega
 clear h hrq hcv hcl hc1 hqr hqn hxn hE hA hany hla how hqs hdl hdg hS hin hsz hll hop hql hwh
 go_enter Tryz.func99, Tryz.ntmps99
 go_wp2_with (with_reducible refine kA rfl 109 (.tmp 0) rfl cs rfl ?_)
 intro w0 hb0 hf0 hz0; go_upto_region 1 with fail
 have hf1 : Fr [] w0 (w0.alloc (.cells #[.int .i64 d] 3)) := (Fr.refl [] w0).alloc _; have hbd := Blk.new w0 3 [.int .i64 d]; rw [hz0] at hbd; generalize w0.alloc (.cells #[.int .i64 d] 3) = w1 at *; have hb1 := hb0.fr hf1; have c0 := hb1.at_ hw0; have cd := hbd.at_ (i := 0) rfl; have bf := hbd.free; have HB1 := lh hb1; have HBD := lh hbd; have HF1 := lh (hf0.trans hf1); clear hb0 hb1 hbd hf0 hf1 hz0 hw0
 by_cases h7 : wh = 7
 case' pos =>
  subst h7; rw [if_pos rfl] at hd1e; have HDE := lh hd1e; clear hd1e; go_upto_region 3 with fail
  have hs : Fr [w.heap.size + 1] w1 (w1.setCell ⟨w.heap.size + 1, 0, none⟩ (.int .i64 (d + 1))) := (Fr.refl [w.heap.size + 1] w1).setCell (.inl (by simp)) _; have hbs : Blk (w1.setCell ⟨w.heap.size + 1, 0, none⟩ (.int .i64 (d + 1))) (w.heap.size + 1) 3 [.int .i64 (d + 1)] := HBD.out.set_ 0 _; generalize w1.setCell ⟨w.heap.size + 1, 0, none⟩ (.int .i64 (d + 1)) = wd at *; have HFD := lh (HF1.out.trans hs fun q hq => .inr (by rw [List.mem_singleton.1 hq]; omega)); have hbe := HB1.out.fr hs; rw [HDE.out] at hbs; clear hs HDE
 case' neg =>
  rw [if_neg h7] at hd1e; have h7b : (wh == 7) = false := by rw [beq_eq_false_iff_ne]; exact h7
  have HDE := lh hd1e; clear hd1e h7; go_upto_region 3 with fail
  have hbs := HBD.out; have hbe := HB1.out; rw [HDE.out] at hbs; have HFD := HF1; clear h7b HDE
 all_goals
  clear c0 cd HF1 hwr bf; have c1 := hbe.at_ hcx; have c3 := hbe.at_ hc3; have c4 := hbe.at_ hc4; have cd := hbs.at_ (i := 0) rfl; have HRA : Hid (World.rangeAt _ w.heap.size 0 cs) := lh fun j u hj => by rw [Nat.zero_add]; exact hbe.at_ hj
  have HO := lh (HOWN.out _ HFD.out); have HBS := lh hbs; have HBE := lh hbe; have hdg := HDG.out; clear hbs hbe hcx hc3 hc4 HOWN HBD HB1 HDG
  cases dl with
  | false =>
   go_wp2_with fail; exact HQ.out _ _ ⟨by rw [HE.out]; rfl, HFD.out⟩
  | true =>
   have hle := of_decide_eq_true HDL.out; have HS2 := lh (HS.out hle); clear hle HS HDL
   go_wp2_with (refine jE (by kernel_rfl) 109 (.tmp 2) rfl w.heap.size 0 rfl cs _ HRA.out Tryz.underlying109 rfl HC1.out ?_)
   refine HO.out.mono ?_; rintro e w2 ⟨rfl, hf2⟩; have HF2 := lh (HFD.out.trans hf2); have k1 := bA hf2 c1; have k3 := bA hf2 c3; have k4 := bA hf2 c4; have kd := bA hf2 cd; have HBS2 := lh (HBS.out.fr hf2); have HBE2 := lh (HBE.out.fr hf2); have HC := lh (HS2.out.1 w2 _ _ (HRQ.out.fr HF2.out)); rw [HQS.out] at HC; clear hf2 c1 c3 c4 cd HRA HC1 HO HBS HBE
   cases ow with
   | false =>
    go_wp2_with fail; exact HQ.out _ _ ⟨by rw [HE.out]; rfl, HF2.out⟩
   | true =>
    go_wp2_with fail; refine HC.out.mono ?_; rintro e w3 ⟨rfl, hf3⟩; have HF3 := lh (HF2.out.trans hf3); have j1 := bA hf3 k1; have HBS3 := lh (HBS2.out.fr hf3); have HBE3 := lh (HBE2.out.fr hf3); clear hf3 k1 k3 k4 kd HC HBS2 HBE2
    cases qs with
    | false =>
     go_wp2_with fail; exact HQ.out _ _ ⟨by rw [HE.out]; rfl, HF3.out⟩
    | true =>
     have HP := lh (gF (l := x.l) (by rw [HXN.out]; exact HCV.out.fr HF3.out) HLL.out (f := 149) (first := #[]) (cap := #[.pointer (some ⟨w.heap.size + 1, 0, none⟩), .pointer (some ⟨w.heap.size, 0, none⟩)])
      (all := fun v => #[v, .pointer (some ⟨w.heap.size + 1, 0, none⟩), .pointer (some ⟨w.heap.size, 0, none⟩)]) (fun v => rfl) (fun v w => by kernel_rfl) (fun y => !(y.shaped (d1 + x.deeper y)))
      (fun y hy w1 cs1 hf1 h1 => aGX h1 ((HH.out.fr HF3.out).fr hf1) (HBS3.out.fr hf1) (HBE3.out.fr hf1) HDB.out.1 HDB.out.2 (HS2.out.2 y hy)))
     rw [HA.out, HXN.out] at HP; clear HS2 HBS3 HBE3; go_wp2_with fail; refine HP.out.mono ?_; rintro e w4 ⟨rfl, hf4⟩; have HF4 := lh (HF3.out.trans hf4); clear hf4 HP; go_wp2_with fail; exact HQ.out _ _ ⟨by rw [HE.out]; rfl, HF4.out⟩
end
end
end Go.Proofs.YtbggkiebfflcdaaGreatDoor
