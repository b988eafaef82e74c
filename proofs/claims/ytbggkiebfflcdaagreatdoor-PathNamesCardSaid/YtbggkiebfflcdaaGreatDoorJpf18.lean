/-
  Joined by join.py: Hl Hm Hq Hr Hs Ht Hu Bits Hv Ep Hw Eq
-/
import Derived.Lib.ItoaLen
import Derived.Test.YtbggkiebfflcdaaGreatDoorJpf17
set_option maxRecDepth 100000
set_option maxHeartbeats 32000000
namespace Go.Proofs.YtbggkiebfflcdaaGreatDoor
section
open Go.RowKit Go.Shelf
section
variable {w : World} {N : Nat -> Prop} {cs : List Value}
theorem xshaped_easy {x : Xpr} {d : Int} (h : RowAt w N x.cells cs) (hx : x.easy = true) (hd : d <= 32) (hQ : ∀ (w1 : World) (ds : List Value), Fr [] w w1 -> RowAt w1 N x.q.cells ds -> Calls Tryz.prog 34 #[.agg ds.toArray, .int .i64 d] w1 fun e w' => e = .returned (.bool true) /\ Fr [] w1 w') :
  Calls Tryz.prog 99 #[.agg cs.toArray, .int .i64 d] w fun e w' => e = .returned (.bool true) /\ Fr [] w w' := by
 refine calls_post fun R HQ => ?_; obtain ⟨-, h6, hl, ho, hv, -⟩ := easy_own hx; have hcl : cs.length = 13 := h.1.trans (xcells_len x); have hc1 : (Tryz.prog.info? 109).map (·.size) = some cs.length := by rw [hcl]; exact size_x
 have hw0 := xpr_what h; rw [h6] at hw0; obtain ⟨Aq, cq, hc3, hc4, hrq⟩ := xpr_query h; obtain ⟨A, c, hcx, hcv⟩ := xpr_list h; rw [hl] at hcx hcv; simp only [List.length_nil] at hcx hcv; have HOWN := lh (fun W (hW : Fr [] w W) => own_easy (h.fr hW (by simp)) hx); have HRQ := lh hrq; have HCV := lh hcv; have HC1 := lh hc1; have HQQ := lh hQ; have d1 : decide (d > 32) = false := by rw [decide_eq_false_iff_not]; omega
 obtain ⟨qr, hqr⟩ : ∃ qr, x.q.rel = qr := ⟨_, rfl⟩; obtain ⟨qn, hqn⟩ : ∃ qn, x.q.l.length = qn := ⟨_, rfl⟩; rw [hqr] at hc3 HRQ; rw [hqn] at hc4 HRQ; clear h hx hl ho hv h6 hrq hcv hcl hc1 hQ hqr hqn
 go_enter Tryz.func99, Tryz.ntmps99
 go_wp2_with (with_reducible refine wpList_box rfl 109 (.tmp 0) rfl cs rfl ?_)
 intro w0 hb0 hf0 hz0; go_upto_region 1 with fail
 have hf1 : Fr [] w0 (w0.alloc (.cells #[.int .i64 d] 3)) := (Fr.refl [] w0).alloc _; have hbd := Blk.new w0 3 [.int .i64 d]; rw [hz0] at hbd; generalize w0.alloc (.cells #[.int .i64 d] 3) = w1 at *; have hb1 := hb0.fr hf1 (by simp); have c0 := hb1.at_ hw0; have c1 := hb1.at_ hcx; have c3 := hb1.at_ hc3; have c4 := hb1.at_ hc4; have cd := hbd.at_ (i := 0) rfl; have hra : w1.rangeAt w.heap.size 0 cs := fun j u hj => by rw [Nat.zero_add]; exact hb1.at_ hj
 have HF1 := lh (hf0.trans hf1 (by simp)); have HRA := lh hra; have HO := lh (HOWN.out w1 HF1.out); clear hb0 hb1 hbd hf0 hf1 hra hw0 hcx hc3 hc4 HOWN; go_upto_region 3 with fail
 go_wp2_with (refine wpList_mid_g (by kernel_rfl) 109 (.tmp 2) rfl w.heap.size 0 rfl cs _ HRA.out Tryz.underlying109 rfl HC1.out ?_)
 refine HO.out.mono ?_; rintro e w2 ⟨rfl, hf2⟩; have HF2 := lh (HF1.out.trans hf2 (by simp)); have k1 := fr_keep hf2 c1; have k3 := fr_keep hf2 c3; have k4 := fr_keep hf2 c4; have kd := fr_keep hf2 cd; have HC := lh (HQQ.out w2 _ HF2.out (HRQ.out.fr HF2.out (by simp))); clear hf2 c0 c1 c3 c4 cd HRA HC1 HO; go_wp2_with fail; refine HC.out.mono ?_; rintro e w3 ⟨rfl, hf3⟩; have HF3 := lh (HF2.out.trans hf3 (by simp)); have j1 := fr_keep hf3 k1
 have HP := lh (contX_any (l := []) (HCV.out.fr HF3.out (by simp)) (by decide) (f := 149) (first := #[]) (cap := #[.pointer (some ⟨w.heap.size + 1, 0, none⟩), .pointer (some ⟨w.heap.size, 0, none⟩)])
  (all := fun v => #[v, .pointer (some ⟨w.heap.size + 1, 0, none⟩), .pointer (some ⟨w.heap.size, 0, none⟩)]) (fun v => rfl) (fun v w => by kernel_rfl) (fun _ => false) (fun x hx => absurd hx (by simp)))
 clear hf3 k1 k3 k4 kd HC; go_wp2_with fail; refine HP.out.mono ?_; rintro e w4 ⟨rfl, hf4⟩; have HF4 := lh (HF3.out.trans hf4 (by simp)); clear hf4; go_wp2_with fail; exact HQ.out _ _ ⟨rfl, HF4.out⟩
end
theorem eqb3z (w : World) : (Op.equalIn 10000 46 (.agg #[.bool false, .bool false, .bool false]) (.agg #[.bool false, .bool false, .bool false])).run Tryz.prog w = .ok true w := by kernel_rfl
theorem eqi3z (w : World) : (Op.equalIn 10000 47 (.agg #[.int .i64 0, .int .i64 0, .int .i64 0]) (.agg #[.int .i64 0, .int .i64 0, .int .i64 0])).run Tryz.prog w = .ok true w := by kernel_rfl
section
variable {w : World} {N : Nat -> Prop} {cs : List Value}
theorem sshaped2 {d : Int} {A : Option Addr} {c : Nat} : Calls Tryz.prog 64 #[.agg ([.int .i64 2, .string ⟨#[]⟩, .int .i64 0, .bool false, .bool false, .bool false, .int .i64 0, .int .i64 0, .int .i64 0, .slice A 0 c] : List Value).toArray, .int .i64 d] w fun e w' => e = .returned (.bool true) /\ Fr [] w w' := by
 refine calls_post fun R HQ => ?_; obtain ⟨cs, hcs⟩ : ∃ cs : List Value, [.int .i64 2, .string ⟨#[]⟩, .int .i64 0, .bool false, .bool false, .bool false, .int .i64 0, .int .i64 0, .int .i64 0, .slice A 0 c] = cs := ⟨_, rfl⟩; rw [hcs]
 go_enter Tryz.func64, Tryz.ntmps64
 go_wp2_with (with_reducible refine wpList_box rfl 50 (.tmp 0) rfl cs rfl ?_)
 intro w0 hb0 hf0 hz0; subst hcs; have c0 := hb0.at_ (i := 0) rfl; have c1 := hb0.at_ (i := 1) rfl; have c2 := hb0.at_ (i := 2) rfl; have c3 := hb0.at_ (i := 3) rfl; have c4 := hb0.at_ (i := 4) rfl; have c5 := hb0.at_ (i := 5) rfl; have c6 := hb0.at_ (i := 6) rfl; have c7 := hb0.at_ (i := 7) rfl; have c8 := hb0.at_ (i := 8) rfl; have c9 := hb0.at_ (i := 9) rfl; have HF0 := lh hf0; clear hb0 hf0; go_upto_region 4 with fail
 have hfa : Fr [] w0 (w0.alloc (.cells ([.int .i64 0, .string ⟨#[]⟩, .int .i64 0, .bool false, .bool false, .bool false, .int .i64 0, .int .i64 0, .int .i64 0, .slice none 0 0] : List Value).toArray 50)) := (Fr.refl [] w0).alloc _; have hb1 := Blk.new w0 50 [.int .i64 0, .string ⟨#[]⟩, .int .i64 0, .bool false, .bool false, .bool false, .int .i64 0, .int .i64 0, .int .i64 0, .slice none 0 0]; simp only [List.toArray] at hfa hb1; generalize w0.alloc (.cells _ 50) = w1 at *; rw [hz0] at hb1; have k0 := fr_keep hfa c0; have k1 := fr_keep hfa c1; have k2 := fr_keep hfa c2; have k3 := fr_keep hfa c3; have k4 := fr_keep hfa c4; have k5 := fr_keep hfa c5; have k6 := fr_keep hfa c6; have k7 := fr_keep hfa c7; have k8 := fr_keep hfa c8; have k9 := fr_keep hfa c9; have HF1 := lh (HF0.out.trans hfa (by simp)); have HB1 := lh hb1; clear c0 c1 c2 c3 c4 c5 c6 c7 c8 c9 hfa hb1; have e1 := HB1.out.at_ (i := 1) rfl; have e2 := HB1.out.at_ (i := 2) rfl; have e3 := HB1.out.at_ (i := 3) rfl; have e4 := HB1.out.at_ (i := 4) rfl; have e5 := HB1.out.at_ (i := 5) rfl; have e6 := HB1.out.at_ (i := 6) rfl; have e7 := HB1.out.at_ (i := 7) rfl; have e8 := HB1.out.at_ (i := 8) rfl; have q1 := eqb3z w1; have q2 := eqi3z w1; go_wp2_with fail; exact HQ.out _ _ ⟨rfl, HF1.out⟩
theorem sshaped1 {d : Int} {A : Option Addr} {c : Nat} {name : List UInt8} (hk : checkU name = true) (hsz : name.length <= 1000000) : Calls Tryz.prog 64 #[.agg ([.int .i64 1, .string ⟨name.toArray⟩, .int .i64 0, .bool false, .bool false, .bool false, .int .i64 0, .int .i64 0, .int .i64 0, .slice A 0 c] : List Value).toArray, .int .i64 d] w fun e w' => e = .returned (.bool true) /\ Fr [] w w' := by
 refine calls_post fun R HQ => ?_; have HK := lh hk; clear hk; obtain ⟨cs, hcs⟩ : ∃ cs : List Value, [.int .i64 1, .string ⟨name.toArray⟩, .int .i64 0, .bool false, .bool false, .bool false, .int .i64 0, .int .i64 0, .int .i64 0, .slice A 0 c] = cs := ⟨_, rfl⟩; rw [hcs]
 go_enter Tryz.func64, Tryz.ntmps64
 go_wp2_with (with_reducible refine wpList_box rfl 50 (.tmp 0) rfl cs rfl ?_)
 intro w0 hb0 hf0 hz0; subst hcs; have c0 := hb0.at_ (i := 0) rfl; have c1 := hb0.at_ (i := 1) rfl; have c2 := hb0.at_ (i := 2) rfl; have c3 := hb0.at_ (i := 3) rfl; have c4 := hb0.at_ (i := 4) rfl; have c5 := hb0.at_ (i := 5) rfl; have c6 := hb0.at_ (i := 6) rfl; have c7 := hb0.at_ (i := 7) rfl; have c8 := hb0.at_ (i := 8) rfl; have c9 := hb0.at_ (i := 9) rfl; have HF0 := lh hf0; clear hb0 hf0; go_upto_region 8 with fail
 have hfa : Fr [] w0 (w0.alloc (.cells ([.int .i64 0, .string ⟨#[]⟩, .int .i64 0, .bool false, .bool false, .bool false, .int .i64 0, .int .i64 0, .int .i64 0, .slice none 0 0] : List Value).toArray 50)) := (Fr.refl [] w0).alloc _; have hb1 := Blk.new w0 50 [.int .i64 0, .string ⟨#[]⟩, .int .i64 0, .bool false, .bool false, .bool false, .int .i64 0, .int .i64 0, .int .i64 0, .slice none 0 0]; simp only [List.toArray] at hfa hb1; generalize w0.alloc (.cells _ 50) = w1 at *; rw [hz0] at hb1; have k0 := fr_keep hfa c0; have k1 := fr_keep hfa c1; have k2 := fr_keep hfa c2; have k3 := fr_keep hfa c3; have k4 := fr_keep hfa c4; have k5 := fr_keep hfa c5; have k6 := fr_keep hfa c6; have k7 := fr_keep hfa c7; have k8 := fr_keep hfa c8; have k9 := fr_keep hfa c9; have HF1 := lh (HF0.out.trans hfa (by simp)); have HB1 := lh hb1; clear c0 c1 c2 c3 c4 c5 c6 c7 c8 c9 hfa hb1; obtain ⟨C, w2, hcv, hC, hba, hf2⟩ := conv_s w1 ⟨name.toArray⟩ (by simp [ByteArray.size]; omega); have HBA := lh hba; have HF2 := lh (HF1.out.trans hf2 (by simp)); have HB2 := lh (HB1.out.fr hf2 (by simp)); clear hba hf2 k0 k2 k3 k4 k5 k6 k7 k8 k9; go_wp2_with fail; refine (checkU_any HBA.out hC).mono ?_; rintro e w3 ⟨x, rfl, hx, hf3⟩; have hx' : decide (x < 0) = true := by rw [hx]; exact HK.out
 have HF3 := lh (HF2.out.trans hf3 (by simp)); have HB3 := lh (HB2.out.fr hf3 (by simp)); clear hx hf3 k1; have e1 := HB3.out.at_ (i := 1) rfl; have e2 := HB3.out.at_ (i := 2) rfl; have e3 := HB3.out.at_ (i := 3) rfl; have e4 := HB3.out.at_ (i := 4) rfl; have e5 := HB3.out.at_ (i := 5) rfl; have e6 := HB3.out.at_ (i := 6) rfl; have e7 := HB3.out.at_ (i := 7) rfl; have e8 := HB3.out.at_ (i := 8) rfl; have q1 := eqb3z w3; have q2 := eqi3z w3; go_wp2_with fail; exact HQ.out _ _ ⟨rfl, HF3.out⟩
theorem sshaped3 {d at_ : Int} {A : Option Addr} {c : Nat} (hk : numOk at_ = true) : Calls Tryz.prog 64 #[.agg ([.int .i64 3, .string ⟨#[]⟩, .int .i64 at_, .bool false, .bool false, .bool false, .int .i64 0, .int .i64 0, .int .i64 0, .slice A 0 c] : List Value).toArray, .int .i64 d] w fun e w' => e = .returned (.bool true) /\ Fr [] w w' := by
 refine calls_post fun R HQ => ?_; have hk1 : decide (at_ <= 9007199254740991) = true := by simp [numOk] at hk; simpa using hk.2
 have hk2 : decide (at_ ≥ -9007199254740991) = true := by simp [numOk] at hk; simpa using hk.1
 clear hk; obtain ⟨cs, hcs⟩ : ∃ cs : List Value, [.int .i64 3, .string ⟨#[]⟩, .int .i64 at_, .bool false, .bool false, .bool false, .int .i64 0, .int .i64 0, .int .i64 0, .slice A 0 c] = cs := ⟨_, rfl⟩; rw [hcs]
 go_enter Tryz.func64, Tryz.ntmps64
 go_wp2_with (with_reducible refine wpList_box rfl 50 (.tmp 0) rfl cs rfl ?_)
 intro w0 hb0 hf0 hz0; subst hcs; have c0 := hb0.at_ (i := 0) rfl; have c1 := hb0.at_ (i := 1) rfl; have c2 := hb0.at_ (i := 2) rfl; have c3 := hb0.at_ (i := 3) rfl; have c4 := hb0.at_ (i := 4) rfl; have c5 := hb0.at_ (i := 5) rfl; have c6 := hb0.at_ (i := 6) rfl; have c7 := hb0.at_ (i := 7) rfl; have c8 := hb0.at_ (i := 8) rfl; have c9 := hb0.at_ (i := 9) rfl; have HF0 := lh hf0; clear hb0 hf0; go_upto_region 12 with fail
 have hfa : Fr [] w0 (w0.alloc (.cells ([.int .i64 0, .string ⟨#[]⟩, .int .i64 0, .bool false, .bool false, .bool false, .int .i64 0, .int .i64 0, .int .i64 0, .slice none 0 0] : List Value).toArray 50)) := (Fr.refl [] w0).alloc _; have hb1 := Blk.new w0 50 [.int .i64 0, .string ⟨#[]⟩, .int .i64 0, .bool false, .bool false, .bool false, .int .i64 0, .int .i64 0, .int .i64 0, .slice none 0 0]; simp only [List.toArray] at hfa hb1; generalize w0.alloc (.cells _ 50) = w1 at *; rw [hz0] at hb1; have k0 := fr_keep hfa c0; have k1 := fr_keep hfa c1; have k2 := fr_keep hfa c2; have k3 := fr_keep hfa c3; have k4 := fr_keep hfa c4; have k5 := fr_keep hfa c5; have k6 := fr_keep hfa c6; have k7 := fr_keep hfa c7; have k8 := fr_keep hfa c8; have k9 := fr_keep hfa c9; have HF1 := lh (HF0.out.trans hfa (by simp)); have HB1 := lh hb1; clear c0 c1 c2 c3 c4 c5 c6 c7 c8 c9 hfa hb1; have e1 := HB1.out.at_ (i := 1) rfl; have e2 := HB1.out.at_ (i := 2) rfl; have e3 := HB1.out.at_ (i := 3) rfl; have e4 := HB1.out.at_ (i := 4) rfl; have e5 := HB1.out.at_ (i := 5) rfl; have e6 := HB1.out.at_ (i := 6) rfl; have e7 := HB1.out.at_ (i := 7) rfl; have e8 := HB1.out.at_ (i := 8) rfl; have q1 := eqb3z w1; have q2 := eqi3z w1; go_wp2_with fail; exact HQ.out _ _ ⟨rfl, HF1.out⟩
end
section
variable {w : World} {N : Nat -> Prop} {cs : List Value}
theorem sshaped4 {d : Int} {A : Option Addr} {c : Nat} {h0 h1 h2 : Bool} {s0 s1 s2 : Int} (n0 : numOk s0 = true) (n1 : numOk s1 = true) (n2 : numOk s2 = true) (z0 : (h0 || decide (s0 = 0)) = true) (z1 : (h1 || decide (s1 = 0)) = true) (z2 : (h2 || decide (s2 = 0)) = true) :
  Calls Tryz.prog 64 #[.agg ([.int .i64 4, .string ⟨#[]⟩, .int .i64 0, .bool h0, .bool h1, .bool h2, .int .i64 s0, .int .i64 s1, .int .i64 s2, .slice A 0 c] : List Value).toArray, .int .i64 d] w fun e w' => e = .returned (.bool true) /\ Fr [] w w' := by
 refine calls_post fun R HQ => ?_; have HN0 := lh n0; have HN1 := lh n1; have HN2 := lh n2; have HZ0 := lh z0; have HZ1 := lh z1; have HZ2 := lh z2; clear n0 n1 n2 z0 z1 z2; obtain ⟨cs, hcs⟩ : ∃ cs : List Value, [.int .i64 4, .string ⟨#[]⟩, .int .i64 0, .bool h0, .bool h1, .bool h2, .int .i64 s0, .int .i64 s1, .int .i64 s2, .slice A 0 c] = cs := ⟨_, rfl⟩; rw [hcs]
 go_enter Tryz.func64, Tryz.ntmps64
 go_wp2_with (with_reducible refine wpList_box rfl 50 (.tmp 0) rfl cs rfl ?_)
 intro w0 hb0 hf0 hz0; subst hcs; have c0 := hb0.at_ (i := 0) rfl; have c1 := hb0.at_ (i := 1) rfl; have c2 := hb0.at_ (i := 2) rfl; have c3 := hb0.at_ (i := 3) rfl; have c4 := hb0.at_ (i := 4) rfl; have c5 := hb0.at_ (i := 5) rfl; have c6 := hb0.at_ (i := 6) rfl; have c7 := hb0.at_ (i := 7) rfl; have c8 := hb0.at_ (i := 8) rfl; have c9 := hb0.at_ (i := 9) rfl; have HF0 := lh hf0; clear hb0 hf0; go_upto_region 15 with fail
 have hfa : Fr [] w0 (w0.alloc (.cells ([.int .i64 0, .string ⟨#[]⟩, .int .i64 0, .bool false, .bool false, .bool false, .int .i64 0, .int .i64 0, .int .i64 0, .slice none 0 0] : List Value).toArray 50)) := (Fr.refl [] w0).alloc _; have hb1 := Blk.new w0 50 [.int .i64 0, .string ⟨#[]⟩, .int .i64 0, .bool false, .bool false, .bool false, .int .i64 0, .int .i64 0, .int .i64 0, .slice none 0 0]; simp only [List.toArray] at hfa hb1; generalize w0.alloc (.cells _ 50) = w1 at *; rw [hz0] at hb1; have k0 := fr_keep hfa c0; have k1 := fr_keep hfa c1; have k2 := fr_keep hfa c2; have k3 := fr_keep hfa c3; have k4 := fr_keep hfa c4; have k5 := fr_keep hfa c5; have k6 := fr_keep hfa c6; have k7 := fr_keep hfa c7; have k8 := fr_keep hfa c8; have k9 := fr_keep hfa c9; have HF1 := lh (HF0.out.trans hfa (by simp)); have HB1 := lh hb1; clear c0 c1 c2 c3 c4 c5 c6 c7 c8 c9 hfa hb1; clear k0 k1 k2 k9; go_wp2_with fail; clear k6 k7 k8
 go_loopg [6, 53] 3 (fun j v6 v53 wr => ∃ k : Nat, k + j = 3 /\ v6 = .bool true /\ v53 = .int .i64 (k : Int) /\ w1 = wr)
 case atStart => exact ⟨0, rfl, rfl, rfl, rfl⟩
 case round =>
  obtain ⟨k, hk, rfl, rfl, rfl⟩ := hrel
  match k, hk with
  | 0, hk =>
   have hn := HN0.out; have hz := HZ0.out; have hs1 : decide (s0 <= 9007199254740991) = true := by simp [numOk] at hn; simpa using hn.2
   have hs2 : decide (s0 ≥ -9007199254740991) = true := by simp [numOk] at hn; simpa using hn.1
   have hix : (Instr.index 47 (.agg #[.int .i64 s0, .int .i64 s1, .int .i64 s2]) (.int .i64 0)).run Tryz.prog w1 = .ok (.int .i64 s0) w1 := by kernel_rfl
   cases h0 with
   | true =>
    clear hz; go_wp2_with fail
    go_roundg (3 - (0 + 1))
    case measure => omega
    case rel => exact ⟨0 + 1, by omega, rfl, by go_num, rfl⟩
   | false =>
    have hz' : (s0 == 0) = true := by simpa using hz
    clear hz; go_wp2_with fail
    go_roundg (3 - (0 + 1))
    case measure => omega
    case rel => exact ⟨0 + 1, by omega, rfl, by go_num, rfl⟩
  | 1, hk =>
   have hn := HN1.out; have hz := HZ1.out; have hs1 : decide (s1 <= 9007199254740991) = true := by simp [numOk] at hn; simpa using hn.2
   have hs2 : decide (s1 ≥ -9007199254740991) = true := by simp [numOk] at hn; simpa using hn.1
   have hix : (Instr.index 47 (.agg #[.int .i64 s0, .int .i64 s1, .int .i64 s2]) (.int .i64 1)).run Tryz.prog w1 = .ok (.int .i64 s1) w1 := by kernel_rfl
   cases h1 with
   | true =>
    clear hz; go_wp2_with fail
    go_roundg (3 - (1 + 1))
    case measure => omega
    case rel => exact ⟨1 + 1, by omega, rfl, by go_num, rfl⟩
   | false =>
    have hz' : (s1 == 0) = true := by simpa using hz
    clear hz; go_wp2_with fail
    go_roundg (3 - (1 + 1))
    case measure => omega
    case rel => exact ⟨1 + 1, by omega, rfl, by go_num, rfl⟩
  | 2, hk =>
   have hn := HN2.out; have hz := HZ2.out; have hs1 : decide (s2 <= 9007199254740991) = true := by simp [numOk] at hn; simpa using hn.2
   have hs2 : decide (s2 ≥ -9007199254740991) = true := by simp [numOk] at hn; simpa using hn.1
   have hix : (Instr.index 47 (.agg #[.int .i64 s0, .int .i64 s1, .int .i64 s2]) (.int .i64 2)).run Tryz.prog w1 = .ok (.int .i64 s2) w1 := by kernel_rfl
   cases h2 with
   | true =>
    clear hz; go_wp2_with fail
    go_roundg (3 - (2 + 1))
    case measure => omega
    case rel => exact ⟨2 + 1, by omega, rfl, by go_num, rfl⟩
   | false =>
    have hz' : (s2 == 0) = true := by simpa using hz
    clear hz; go_wp2_with fail
    go_roundg (3 - (2 + 1))
    case measure => omega
    case rel => exact ⟨2 + 1, by omega, rfl, by go_num, rfl⟩
  | 3, hk =>
   have e1 := HB1.out.at_ (i := 1) rfl; have e2 := HB1.out.at_ (i := 2) rfl; have e3 := HB1.out.at_ (i := 3) rfl; have e4 := HB1.out.at_ (i := 4) rfl; have e5 := HB1.out.at_ (i := 5) rfl; have e6 := HB1.out.at_ (i := 6) rfl; have e7 := HB1.out.at_ (i := 7) rfl; have e8 := HB1.out.at_ (i := 8) rfl; have q1 := eqb3z w1; have q2 := eqi3z w1; go_wp2_with fail; exact HQ.out _ _ ⟨rfl, HF1.out⟩
  | k + 4, hk => omega
end
section
variable {w : World} {N : Nat -> Prop} {cs : List Value}
theorem sshaped5 {d : Int} {A : Option Addr} {c : Nat} {y : Xpr} (hcf : CAt w N (.rows 13 [y.cells]) (.slice A 1 c)) (hd1 : -1 <= d) (hd2 : d <= 100)
  (hE : ∀ (w1 : World) (ds : List Value), Fr [] w w1 -> RowAt w1 N y.cells ds -> Calls Tryz.prog 99 #[.agg ds.toArray, .int .i64 (d + 1)] w1 fun e w' => e = .returned (.bool true) /\ Fr [] w1 w') :
  Calls Tryz.prog 64 #[.agg ([.int .i64 5, .string ⟨#[]⟩, .int .i64 0, .bool false, .bool false, .bool false, .int .i64 0, .int .i64 0, .int .i64 0, .slice A 1 c] : List Value).toArray, .int .i64 d] w fun e w' => e = .returned (.bool true) /\ Fr [] w w' := by
 refine calls_post fun R HQ => ?_; obtain ⟨A', c', g, off, hv, hA, hrow⟩ := hcf.row; injection hv with e1 e2 e3; subst e1 e3; obtain ⟨rfl, hNg⟩ := hA (by simp); obtain ⟨_, ds, hds, hcell⟩ := hrow 0 y.cells rfl; have hcl : ds.length = 13 := hds.1.trans (xcells_len y); have hc1 : (Tryz.prog.info? 109).map (·.size) = some ds.length := by rw [hcl]; exact size_x
 have HCELL := lh hcell; have HDS := lh hds; have HC1 := lh hc1; have HEE := lh hE; have HWR : Hid (IntKind.i64.wrap (d + 1) = d + 1) := lh (by rw [IntKind.wrap_i64]; omega); clear hrow hA hcf hds hcell hcl hc1 hE e2; obtain ⟨cs, hcs⟩ : ∃ cs : List Value, [.int .i64 5, .string ⟨#[]⟩, .int .i64 0, .bool false, .bool false, .bool false, .int .i64 0, .int .i64 0, .int .i64 0, .slice (some ⟨g, off, none⟩) 1 c] = cs := ⟨_, rfl⟩; rw [hcs]
 go_enter Tryz.func64, Tryz.ntmps64
 go_wp2_with (with_reducible refine wpList_box rfl 50 (.tmp 0) rfl cs rfl ?_)
 intro w0 hb0 hf0 hz0; subst hcs; have c0 := hb0.at_ (i := 0) rfl; have c1 := hb0.at_ (i := 1) rfl; have c2 := hb0.at_ (i := 2) rfl; have c3 := hb0.at_ (i := 3) rfl; have c4 := hb0.at_ (i := 4) rfl; have c5 := hb0.at_ (i := 5) rfl; have c6 := hb0.at_ (i := 6) rfl; have c7 := hb0.at_ (i := 7) rfl; have c8 := hb0.at_ (i := 8) rfl; have c9 := hb0.at_ (i := 9) rfl; have HF0 := lh hf0; clear hb0 hf0; go_upto_region 21 with fail
 have hfa : Fr [] w0 (w0.alloc (.cells ([.int .i64 0, .string ⟨#[]⟩, .int .i64 0, .bool false, .bool false, .bool false, .int .i64 0, .int .i64 0, .int .i64 0, .slice none 0 0] : List Value).toArray 50)) := (Fr.refl [] w0).alloc _; have hb1 := Blk.new w0 50 [.int .i64 0, .string ⟨#[]⟩, .int .i64 0, .bool false, .bool false, .bool false, .int .i64 0, .int .i64 0, .int .i64 0, .slice none 0 0]; simp only [List.toArray] at hfa hb1; generalize w0.alloc (.cells _ 50) = w1 at *; rw [hz0] at hb1; have k0 := fr_keep hfa c0; have k1 := fr_keep hfa c1; have k2 := fr_keep hfa c2; have k3 := fr_keep hfa c3; have k4 := fr_keep hfa c4; have k5 := fr_keep hfa c5; have k6 := fr_keep hfa c6; have k7 := fr_keep hfa c7; have k8 := fr_keep hfa c8; have k9 := fr_keep hfa c9; have HF1 := lh (HF0.out.trans hfa (by simp)); have HB1 := lh hb1; clear c0 c1 c2 c3 c4 c5 c6 c7 c8 c9 hfa hb1
 have hra : w1.rangeAt g off ds := fun j u hj => by
  have := HCELL.out j u hj; rw [show off + 13 * 0 + j = off + j by omega] at this; rw [HF1.out.cell (World.block_lt_of_cell? w _ this) (by simp)]; exact this
 have HRA := lh hra; have HC := lh (HEE.out w1 ds HF1.out (HDS.out.fr HF1.out (by simp))); have hwr := HWR.out; clear hra k0 k1 k2 k3 k4 k5 k6 k7 k8
 go_wp2_with (refine wpList_mid_g (by kernel_rfl) 109 (.tmp 86) rfl g off rfl ds _ HRA.out Tryz.underlying109 rfl HC1.out ?_)
 refine HC.out.mono ?_; rintro e w2 ⟨rfl, hf2⟩; have HF2 := lh (HF1.out.trans hf2 (by simp)); have HB2 := lh (HB1.out.fr hf2 (by simp)); clear hf2 hwr; have e1 := HB2.out.at_ (i := 1) rfl; have e2 := HB2.out.at_ (i := 2) rfl; have e3 := HB2.out.at_ (i := 3) rfl; have e4 := HB2.out.at_ (i := 4) rfl; have e5 := HB2.out.at_ (i := 5) rfl; have e6 := HB2.out.at_ (i := 6) rfl; have e7 := HB2.out.at_ (i := 7) rfl; have e8 := HB2.out.at_ (i := 8) rfl; have q1 := eqb3z w2; have q2 := eqi3z w2; go_wp2_with fail; exact HQ.out _ _ ⟨rfl, HF2.out⟩
end
def SHQ (q : Qry) (d : Int) : Prop := ∀ (w : World) (N : Nat -> Prop) (cs : List Value), RowAt w N q.cells cs -> Calls Tryz.prog 34 #[.agg cs.toArray, .int .i64 d] w fun e w' => e = .returned (.bool true) /\ Fr [] w w'
def SHX (x : Xpr) (d : Int) : Prop := ∀ (w : World) (N : Nat -> Prop) (cs : List Value), RowAt w N x.cells cs -> Calls Tryz.prog 99 #[.agg cs.toArray, .int .i64 d] w fun e w' => e = .returned (.bool true) /\ Fr [] w w'
def SHS (x : Slr) (d : Int) : Prop := ∀ (w : World) (N : Nat -> Prop) (cs : List Value), RowAt w N x.cells cs -> Calls Tryz.prog 64 #[.agg cs.toArray, .int .i64 d] w fun e w' => e = .returned (.bool true) /\ Fr [] w w'
section
variable {w : World} {N : Nat -> Prop} {cs : List Value}
theorem sshaped_easy {x : Slr} {d : Int} (hx : x.easy = true) (hs : x.shaped d = true) (hd1 : -1 <= d) (hd2 : d <= 100) (hE : ∀ y ∈ x.f, SHX y (d + 1)) : SHS x d := by
 intro w N cs h; obtain ⟨A, c, rfl, hcf⟩ := slr_shape h; obtain ⟨what, name, at_, ⟨a0, a1, a2⟩, ⟨s0, s1, s2⟩, f⟩ := x; simp only [Slr.easy, Bool.and_eq_true, Bool.or_eq_true, decide_eq_true_eq, List.isEmpty_iff] at hx; obtain ⟨⟨⟨⟨⟨⟨hw1, hw2, hnl⟩, hname⟩, hat⟩, hhs⟩, hf⟩, -⟩ := hx; simp only [Slr.shaped, Bool.and_eq_true, decide_eq_true_eq] at hs; obtain ⟨⟨⟨⟨-, k1⟩, k3⟩, k4⟩, k5⟩ := hs; simp only [Slr.what, Slr.name, Slr.at_, Slr.has, Slr.s, Slr.f] at hcf hE ⊢; have hcase : what = 1 ∨ what = 2 ∨ what = 3 ∨ what = 4 ∨ what = 5 := by omega
 rcases hcase with rfl | rfl | rfl | rfl | rfl
 ·obtain rfl : at_ = 0 := by simpa using hat
  obtain ⟨e1, e2⟩ : ((a0, a1, a2) : Bool × Bool × Bool) = (false, false, false) /\ ((s0, s1, s2) : Int × Int × Int) = (0, 0, 0) := by simpa using hhs
  cases e1; cases e2
  obtain rfl : f = [] := by simpa using hf
  exact sshaped1 (by simpa using k1) hnl
 ·obtain rfl : name = [] := by simpa using hname
  obtain rfl : at_ = 0 := by simpa using hat
  obtain ⟨e1, e2⟩ : ((a0, a1, a2) : Bool × Bool × Bool) = (false, false, false) /\ ((s0, s1, s2) : Int × Int × Int) = (0, 0, 0) := by simpa using hhs
  cases e1; cases e2
  obtain rfl : f = [] := by simpa using hf
  exact sshaped2
 ·obtain rfl : name = [] := by simpa using hname
  obtain ⟨e1, e2⟩ : ((a0, a1, a2) : Bool × Bool × Bool) = (false, false, false) /\ ((s0, s1, s2) : Int × Int × Int) = (0, 0, 0) := by simpa using hhs
  cases e1; cases e2
  obtain rfl : f = [] := by simpa using hf
  exact sshaped3 (by simpa using k3)
 ·obtain rfl : name = [] := by simpa using hname
  obtain rfl : at_ = 0 := by simpa using hat
  obtain rfl : f = [] := by simpa using hf
  simp only [if_true, Bool.and_eq_true] at k4; obtain ⟨⟨⟨n0, z0⟩, n1, z1⟩, n2, z2⟩ := k4; exact sshaped4 n0 n1 n2 z0 z1 z2
 ·obtain rfl : name = [] := by simpa using hname
  obtain rfl : at_ = 0 := by simpa using hat
  obtain ⟨e1, e2⟩ : ((a0, a1, a2) : Bool × Bool × Bool) = (false, false, false) /\ ((s0, s1, s2) : Int × Int × Int) = (0, 0, 0) := by simpa using hhs
  cases e1; cases e2
  match f, hf, hcf, hE with
  | [y], _, hcf, hE => exact sshaped5 hcf hd1 hd2 fun w1 ds _ hr => hE y (by simp) w1 N ds hr
theorem q11_easy {x : Slr} {d : Int} {b : Nat} (h : RowAt w N x.cells cs) (hb : w.cell? ⟨b, 0, none⟩ = some (.int .i64 d)) (hS : SHS x d) :
  Calls Tryz.prog 63 #[.agg cs.toArray, .pointer (some ⟨b, 0, none⟩)] w fun e w' => e = .returned (.bool false) /\ Fr [] w w' := by
 refine calls_post fun R HQ => ?_; have hcl : cs.length = 10 := h.1.trans (scells_len x); have hc1 : (Tryz.prog.info? 50).map (·.size) = some cs.length := by rw [hcl]; exact size_sel
 have HC1 := lh hc1; have HH := lh h; have HSS := lh hS; clear h hcl hc1 hS
 go_enter Tryz.func63, Tryz.ntmps63
 go_wp2_with (with_reducible refine wpList_box rfl 50 (.tmp 0) rfl cs rfl ?_)
 intro w0 hb0 hf0 hz0; have HC := lh (HSS.out w0 N cs (HH.out.fr hf0 (by simp))); have HF0 := lh hf0; have HB0 := lh hb0; have cd := fr_keep hf0 hb; clear hf0 hb0 hb
 go_wp2_with (with_reducible refine wpList_get rfl 50 (.tmp 2) rfl rfl HB0.out Tryz.underlying50 rfl HC1.out ?_)
 refine HC.out.mono ?_; rintro e w2 ⟨rfl, hf2⟩; have HF2 := lh (HF0.out.trans hf2 (by simp)); clear hf2 cd; go_wp2_with fail; exact HQ.out _ _ ⟨rfl, HF2.out⟩
theorem q1_easy {x : Sgm} {d : Int} {b : Nat} (h : RowAt w N x.cells cs) (hb : w.cell? ⟨b, 0, none⟩ = some (.int .i64 d)) (hl : x.l ≠ []) (hn : x.l.length <= 1000000) (hS : ∀ y ∈ x.l, SHS y d) :
  Calls Tryz.prog 61 #[.agg cs.toArray, .pointer (some ⟨b, 0, none⟩)] w fun e w' => e = .returned (.bool false) /\ Fr [] w w' := by
 refine calls_post fun R HQ => ?_; obtain ⟨A, c, rfl, hc⟩ := seg_shape h; have hfa : Fr [] w (w.alloc (.cells #[.bool x.deep, .slice A x.l.length c] 54)) := (Fr.refl [] w).alloc _; have hbd := fr_keep hfa hb
 have HC := lh (contS_any (hc.fr hfa (by simp)) hn (f := 63) (first := #[]) (cap := #[.pointer (some ⟨b, 0, none⟩)]) (all := fun v => #[v, .pointer (some ⟨b, 0, none⟩)]) (fun v => rfl) (fun v w => by kernel_rfl) (fun _ => false)
  (fun y hy w1 cs1 hf1 h1 => q11_easy h1 (fr_keep hf1 hbd) (hS y hy)))
 have HFA := lh hfa; have HE : Hid ((x.l.any fun _ => false) = false) := lh (by simp); rw [HE.out] at HC
 have hl0 : (((x.l.length : Nat) : Int) == 0) = false := by
  have := List.length_pos_iff.2 hl; rw [beq_eq_false_iff_ne]; omega
 obtain ⟨ln, hln⟩ : ∃ ln, x.l.length = ln := ⟨_, rfl⟩; rw [hln] at HC HFA hl0 ⊢; clear h hc hfa hln hn hl hS hbd hb HE
 go_enter Tryz.func61, Tryz.ntmps61
 go_wp2_with fail; refine HC.out.mono ?_; rintro e w2 ⟨rfl, hf2⟩; have HF2 := lh (HFA.out.trans hf2 (by simp)); clear hf2; go_wp2_with fail; exact HQ.out _ _ ⟨rfl, HF2.out⟩
theorem qshaped_easy {q : Qry} {d : Int} (h : RowAt w N q.cells cs) (hn : q.l.length <= 1000000) (hS : ∀ x ∈ q.l, x.l ≠ [] /\ x.l.length <= 1000000 /\ ∀ y ∈ x.l, SHS y d) :
  Calls Tryz.prog 34 #[.agg cs.toArray, .int .i64 d] w fun e w' => e = .returned (.bool true) /\ Fr [] w w' := by
 refine calls_post fun R HQ => ?_; obtain ⟨A, c, rfl, hc⟩ := qry_shape h; have hfa : Fr [] w ((w.alloc (.cells #[.bool q.rel, .slice A q.l.length c] 25)).alloc (.cells #[.int .i64 d] 3)) := ((Fr.refl [] w).alloc _).alloc _; have hbd := Blk.new (w.alloc (.cells #[.bool q.rel, .slice A q.l.length c] 25)) 3 [.int .i64 d]; rw [show (w.alloc (.cells #[.bool q.rel, .slice A q.l.length c] 25)).heap.size = w.heap.size + 1 by simp] at hbd
 have HC := lh (contG_any (hc.fr hfa (by simp)) hn (f := 61) (first := #[]) (cap := #[.pointer (some ⟨w.heap.size + 1, 0, none⟩)]) (all := fun v => #[v, .pointer (some ⟨w.heap.size + 1, 0, none⟩)]) (fun v => rfl) (fun v w => by kernel_rfl) (fun _ => false)
  (fun x hx w1 cs1 hf1 h1 => q1_easy h1 ((hbd.fr hf1 (by simp)).at_ (i := 0) rfl) (hS x hx).1 (hS x hx).2.1 (hS x hx).2.2))
 have HFA := lh hfa; have HE : Hid ((q.l.any fun _ => false) = false) := lh (by simp); rw [HE.out] at HC; obtain ⟨ln, hln⟩ : ∃ ln, q.l.length = ln := ⟨_, rfl⟩; rw [hln] at HC HFA ⊢; clear h hc hfa hln hn hS hbd HE
 go_enter Tryz.func34, Tryz.ntmps34
 go_wp2_with fail; refine HC.out.mono ?_; rintro e w2 ⟨rfl, hf2⟩; have HF2 := lh (HFA.out.trans hf2 (by simp)); clear hf2; go_wp2_with fail; exact HQ.out _ _ ⟨rfl, HF2.out⟩
end
theorem shaped_both : ∀ n : Nat, n <= 1000000 -> (∀ (q : Qry) (d : Int), q.wt <= n -> q.easy = true -> q.shaped d = true -> -1 <= d -> d <= 100 -> SHQ q d) /\ (∀ (x : Xpr) (d : Int), x.wt <= n -> x.easy = true -> x.shaped d = true -> -1 <= d -> SHX x d) := by
 intro n
 induction n with
 | zero =>
  intro _; refine ⟨fun q d hq he hs h1 h2 => fun w N cs h => ?_, fun x d hx => by have := x.wt_pos; omega⟩; have h0 := q.wt_eq; have h3 := wtSegs_len q.l; have hl : q.l = [] := List.length_eq_zero_iff.1 (by omega); exact qshaped_easy h (by omega) fun x hx => by rw [hl] at hx; simp at hx
 | succ n ih =>
  intro hn; obtain ⟨i1, i2⟩ := ih (by omega)
  have hq : ∀ (q : Qry) (d : Int), q.wt <= n + 1 -> q.easy = true -> q.shaped d = true -> -1 <= d -> d <= 100 -> SHQ q d := fun q d hq he hs h1 h2 => fun w N cs h => by
   have h0 := q.wt_eq; have h3 := wtSegs_len q.l; refine qshaped_easy h (by omega) fun x hx => ?_; have hxw := wtSegs_mem hx; have hx0 := x.wt_eq; have hxl := wtSels_len x.l; obtain ⟨rel, l⟩ := q; simp only [Qry.l] at hx h0 hxw; simp only [Qry.easy, easySegs_all] at he; simp only [Qry.shaped, shapedSegs_all] at hs; have e1 := List.all_eq_true.1 he x hx; have e2 := List.all_eq_true.1 hs x hx; obtain ⟨dp, sl⟩ := x; simp only [Sgm.l] at hx0 hxl ⊢; simp only [Sgm.easy, easySels_all] at e1; simp only [Sgm.shaped, Bool.and_eq_true, Bool.not_eq_true', List.isEmpty_eq_false_iff, shapedSels_all] at e2; refine ⟨e2.1, by omega, fun y hy => ?_⟩; have hyw := wtSels_mem hy; have hy0 := y.wt_eq; refine sshaped_easy (List.all_eq_true.1 e1 y hy) (List.all_eq_true.1 e2.2 y hy) h1 h2 fun z hz => ?_; have hzw := wtList_mem hz; have g1 := List.all_eq_true.1 e1 y hy; have g2 := List.all_eq_true.1 e2.2 y hy; obtain ⟨what, name, at_, has, s, f⟩ := y; simp only [Slr.f] at hz hy0 hzw; simp only [Slr.easy, Bool.and_eq_true] at g1; simp only [Slr.shaped, Bool.and_eq_true] at g2
   by_cases h5 : what = 5
   ·subst h5; obtain ⟨⟨-, k5⟩, k6⟩ := g1
    match f, hz, k5, k6, g2, hzw with
    | [z'], hz, _, k6, g2, hzw =>
     obtain rfl : z = z' := by simpa using hz
     refine i2 z (d + 1) (by omega) (by simpa [easyExprs] using k6) ?_ (by omega)
     simpa [shapedExprs] using g2.2
   ·have : f = [] := by simpa [h5] using g1.1.2
    subst this; simp at hz
  refine ⟨hq, fun x d hx he hs h1 => fun w N cs h => ?_⟩; obtain ⟨-, h6, hl, ho, hv, hqe⟩ := easy_own he; have hwx := x.wt_eq; obtain ⟨what, l, op, q, v⟩ := x; simp only [Xpr.what, Xpr.l, Xpr.op, Xpr.q, Xpr.v] at h6 hl ho hv hqe hwx; subst h6 hl ho; simp only [Xpr.shaped, Bool.and_eq_true, decide_eq_true_eq] at hs; have hd : d <= 32 := by simpa using hs.1.1.1
  exact xshaped_easy h he hd fun w1 ds _ hr => i1 q d (by omega) hqe (by simpa using hs.1.2) h1 (by omega) w1 N ds hr
theorem Qry.shaped_easy {q : Qry} {d : Int} (hw : q.wt <= 1000000) (he : q.easy = true) (hs : q.shaped d = true) (h1 : -1 <= d) (h2 : d <= 100) : SHQ q d := (shaped_both _ (Nat.le_refl _)).1 q d hw he hs h1 h2
section
variable {w : World} {N : Nat -> Prop} {cs : List Value}
theorem sane_easy {q : Qry} (h : RowAt w N q.cells cs) (hw : q.wt <= 1000000) (he : q.easy = true) (hs : q.sane = true) : Calls Tryz.prog 17 #[.agg cs.toArray] w fun e w' => e = .returned (.bool true) /\ Fr [] w w' := by
 refine calls_post fun R HQ => ?_; obtain ⟨A, c, rfl, hc⟩ := qry_shape h; simp only [Qry.sane, Bool.and_eq_true, Bool.not_eq_true', decide_eq_true_eq] at hs; obtain ⟨⟨⟨h1, h2⟩, h3⟩, h4⟩ := hs; have HH := lh h; have HS := lh (Qry.shaped_easy hw he h2 (by decide) (by decide)); have HT := lh (Qry.typed_any hw); have HP := lh (Qry.parts_any hw); have HT3 := lh h3; have h5 : decide ((q.parts : Int) <= 512) = true := by rw [decide_eq_true_eq]; omega
 rw [h1] at HH ⊢; obtain ⟨ln, hln⟩ : ∃ ln, q.l.length = ln := ⟨_, rfl⟩; rw [hln] at HH ⊢; clear h hc h1 h2 h3 h4 hln hw he; obtain ⟨cs, hcs⟩ : ∃ cs : List Value, [Value.bool false, .slice A ln c] = cs := ⟨_, rfl⟩; rw [hcs]
 go_enter Tryz.func17, Tryz.ntmps17
 go_wp2_with (with_reducible refine wpList_box rfl 25 (.tmp 0) rfl cs rfl ?_)
 intro w0 hb0 hf0 hz0; subst hcs; have c0 := hb0.at_ (i := 0) rfl; have c1 := hb0.at_ (i := 1) rfl; have HF0 := lh hf0; have HC := lh (HS.out w0 N _ (HH.out.fr hf0 (by simp))); clear hb0 hf0 hz0; go_wp2_with fail; refine HC.out.mono ?_; rintro e w2 ⟨rfl, hf2⟩; have HF2 := lh (HF0.out.trans hf2 (by simp)); have k0 := fr_keep hf2 c0; have k1 := fr_keep hf2 c1; have HC2 := lh (HT.out w2 N _ (HH.out.fr HF2.out (by simp))); clear hf2 c0 c1 HC; go_wp2_with fail; refine HC2.out.mono ?_; rintro e w3 ⟨rfl, hf3⟩; rw [HT3.out]; have HF3 := lh (HF2.out.trans hf3 (by simp)); have j0 := fr_keep hf3 k0; have j1 := fr_keep hf3 k1; have HC3 := lh (HP.out w3 N _ (HH.out.fr HF3.out (by simp))); clear hf3 k0 k1 HC2; go_wp2_with fail; refine HC3.out.mono ?_; rintro e w4 ⟨rfl, hf4⟩; have HF4 := lh (HF3.out.trans hf4 (by simp)); clear hf4; go_wp2_with fail; exact HQ.out _ _ ⟨rfl, HF4.out⟩
end
section
variable {w : World} {N : Nat -> Prop} {cs : List Value}
theorem parse_is (hg : Glob w) (h8 : 8 <= w.heap.size) (txt : ByteArray) (hz : txt.size <= 100000) {q : Qry} (hq : parseQ (strBytes txt) = .ok q) :
  Calls Tryz.prog 10 #[.string txt] w fun e w' => ∃ A c, e = .returned (.tuple #[.agg #[.bool q.rel, .slice A q.l.length c], .int .i64 0]) /\ RowAt w' (fun g => w.heap.size <= g) q.cells [.bool q.rel, .slice A q.l.length c] /\ Fr [] w w' := by
 refine (parse_any hg h8 txt hz).mono ?_; intro e w' h; unfold QParR at h; rw [hq] at h; obtain ⟨cs, rfl, hr, hf⟩ := h; obtain ⟨A, c, rfl, -⟩ := qry_shape hr; exact ⟨A, c, rfl, hr, hf⟩
theorem parse_code (hg : Glob w) (h8 : 8 <= w.heap.size) (txt : ByteArray) (hz : txt.size <= 100000) :
  Calls Tryz.prog 10 #[.string txt] w fun e w' => ∃ r A n c, e = .returned (.tuple #[.agg #[.bool r, .slice A n c], .int .i64 (errQ (strBytes txt))]) /\ Fr [] w w' := by
 refine (parse_any hg h8 txt hz).mono ?_; intro e w' h; unfold QParR at h; unfold errQ
 cases hq : parseQ (strBytes txt) with
 | error er =>
  rw [hq] at h; obtain ⟨rfl, hf⟩ := h; exact ⟨_, _, _, _, rfl, hf⟩
 | ok q =>
  rw [hq] at h; obtain ⟨cs, rfl, hr, hf⟩ := h; obtain ⟨A, c, rfl, -⟩ := qry_shape hr; exact ⟨_, _, _, _, rfl, hf⟩
theorem awake_any (hg : Glob w) (h8 : 8 <= w.heap.size) : Calls Tryz.prog 9 #[] w fun e w' => e = .returned (.bool true) /\ Fr [] w w' := by
 refine calls_post fun R HQ => ?_; have HG := lh hg; clear hg
 go_enter Tryz.func9, Tryz.ntmps9
 go_wp2_with fail; refine (parse_is HG.out h8 ⟨#[36, 46, 97, 91, 49, 93]⟩ (by decide) awake_parse).mono ?_; rintro e w1 ⟨A, c, rfl, hr, hf⟩; have hz1 := hf.size; have HR := lh hr; have HF1 := lh hf; rw [show awakeQ.rel = false from rfl, show awakeQ.l.length = 2 from rfl] at HR ⊢; clear hr hf; go_upto_region 2 with fail
 have hfa : Fr [] w1 (w1.alloc (.cells #[.bool false, .slice A 2 c] 25)) := (Fr.refl [] w1).alloc _; have hb := Blk.new w1 25 [.bool false, .slice A 2 c]; generalize w1.alloc (.cells #[.bool false, .slice A 2 c] 25) = w2 at *; have HF2 := lh (HF1.out.trans hfa (by simp)); have HR2 := lh (HR.out.fr hfa (by simp)); have HB2 := lh hb; have hz2 := hfa.size; clear hfa hb HF1 HR; go_wp2_with fail; refine (parse_code (HG.out.fr HF2.out (by simp)) (by omega) ⟨#[36, 91, 63, 108, 101, 110, 103, 116, 104, 40, 64, 46, 42, 41, 61, 61, 49, 93]⟩ (by decide)).mono ?_; rintro e w3 ⟨r9, A9, n9, c9, rfl, hf3⟩; rw [show errQ (strBytes ⟨#[36, 91, 63, 108, 101, 110, 103, 116, 104, 40, 64, 46, 42, 41, 61, 61, 49, 93]⟩) = 8 from awake_err]; have HF3 := lh (HF2.out.trans hf3 (by simp)); have HR3 := lh (HR2.out.fr hf3 (by simp)); have HB3 := lh (HB2.out.fr hf3 (by simp)); clear hf3 HF2 HR2 HB2; go_upto_region 3 with fail
 have hfa : Fr [] w3 (w3.alloc (.cells #[.bool r9, .slice A9 n9 c9] 25)) := (Fr.refl [] w3).alloc _; generalize w3.alloc (.cells #[.bool r9, .slice A9 n9 c9] 25) = w4 at *; have HF4 := lh (HF3.out.trans hfa (by simp)); have HR4 := lh (HR3.out.fr hfa (by simp)); have hb4 := HB3.out.fr hfa (by simp); have c0 := hb4.at_ (i := 0) rfl; have c1 := hb4.at_ (i := 1) rfl; have HP := lh (Qry.print_any (HG.out.fr HF4.out (by simp)) HR4.out (by decide +kernel) awake_facts.2.2.2.2 (by rw [awake_facts.1]; decide)); rw [awake_facts.1] at HP; clear hfa hb4 HF3 HR3 HB3; go_wp2_with fail; refine HP.out.mono ?_; rintro e w5 ⟨rfl, hf5⟩; have HF5 := lh (HF4.out.trans hf5 (by simp)); have HR5 := lh (HR4.out.fr hf5 (by simp)); have k0 := fr_keep hf5 c0; have k1 := fr_keep hf5 c1; clear hf5 c0 c1 HP; simp only [awakeP]; go_wp2_with fail; refine (sane_easy HR5.out awake_facts.2.2.2.2 awake_facts.2.2.2.1 awake_facts.2.1).mono ?_; rintro e w6 ⟨rfl, hf6⟩; have HF6 := lh (HF5.out.trans hf6 (by simp)); have HR6 := lh (HR5.out.fr hf6 (by simp)); have j0 := fr_keep hf6 k0; have j1 := fr_keep hf6 k1; clear hf6 k0 k1; go_wp2_with fail; refine (singular_any HR6.out (by decide)).mono ?_; rintro e w7 ⟨rfl, hf7⟩; have HF7 := lh (HF6.out.trans hf7 (by simp)); rw [awake_facts.2.2.1]; clear hf7; go_wp2_with fail; exact HQ.out _ _ ⟨rfl, HF7.out⟩
end
end
section
open Go.RowKit
theorem and_mask (n : Int) (c : Nat) (hc : c < 9223372036854775808) : ∃ m : Nat, m <= c /\ bits .and .i64 n (c : Int) = (m : Int) := by
 refine ⟨(BitVec.ofInt 64 n &&& BitVec.ofInt 64 (c : Int)).toNat, ?_, ?_⟩
 ·rw [BitVec.toNat_and, BitVec.ofInt_natCast, BitVec.toNat_ofNat, Nat.mod_eq_of_lt (by omega)]; exact Nat.and_le_right
 ·have hb : (BitVec.ofInt 64 n &&& BitVec.ofInt 64 (c : Int)).toNat <= c := by
   rw [BitVec.toNat_and, BitVec.ofInt_natCast, BitVec.toNat_ofNat, Nat.mod_eq_of_lt (by omega)]; exact Nat.and_le_right
  show IntKind.i64.wrap ((BitVec.ofInt 64 n &&& BitVec.ofInt 64 (c : Int)).toNat : Int) = _
  rw [IntKind.wrap_i64]; omega
end
section
open Go.RowKit Go.Shelf
def opsRow : List Value := [.string ⟨#[61, 61]⟩, .string ⟨#[33, 61]⟩, .string ⟨#[60]⟩, .string ⟨#[60, 61]⟩, .string ⟨#[62]⟩, .string ⟨#[62, 61]⟩]
def allRow : List Value := [.string ⟨#[64, 46, 97]⟩, .string ⟨#[64, 91, 49, 93]⟩, .string ⟨#[99, 111, 117, 110, 116, 40, 64, 46, 42, 41]⟩, .string ⟨#[108, 101, 110, 103, 116, 104, 40, 64, 46, 97, 41]⟩, .string ⟨#[118, 97, 108, 117, 101, 40, 64, 46, 46, 97, 41]⟩, .string ⟨#[49]⟩, .string ⟨#[39, 120, 39]⟩, .string ⟨#[110, 117, 108, 108]⟩, .string ⟨#[64, 46, 42]⟩, .string ⟨#[64, 46, 46, 97]⟩, .string ⟨#[64, 91, 49, 58, 50, 93]⟩, .string ⟨#[64, 91, 39, 97, 39, 44, 39, 98, 39, 93]⟩, .string ⟨#[109, 97, 116, 99, 104, 40, 64, 46, 97, 44, 39, 120, 39, 41]⟩, .string ⟨#[115, 101, 97, 114, 99, 104, 40, 64, 46, 97, 44, 39, 120, 39, 41]⟩]
theorem opsRow_at {j : Nat} (h : j < 6) : opsRow[j]? = some (.string ⟨(typedOps.getD j []).toArray⟩) := by
 match j, h with
 | 0, _ => rfl
 | 1, _ => rfl
 | 2, _ => rfl
 | 3, _ => rfl
 | 4, _ => rfl
 | 5, _ => rfl
theorem allRow_at {j : Nat} (h : j < 14) : allRow[j]? = some (.string ⟨(typedAll.getD j []).toArray⟩) := by
 match j, h with
 | 0, _ => rfl
 | 1, _ => rfl
 | 2, _ => rfl
 | 3, _ => rfl
 | 4, _ => rfl
 | 5, _ => rfl
 | 6, _ => rfl
 | 7, _ => rfl
 | 8, _ => rfl
 | 9, _ => rfl
 | 10, _ => rfl
 | 11, _ => rfl
 | 12, _ => rfl
 | 13, _ => rfl
theorem typed_len {k j : Nat} (hk : k < 14) (hj : j < 6) : (typedAll.getD k []).length <= 20 /\ (typedOps.getD j []).length <= 2 := by
 constructor
 ·have : ((List.range 14).all fun k => decide ((typedAll.getD k []).length <= 20)) = true := by decide +kernel
  simpa using List.all_eq_true.1 this k (List.mem_range.2 hk)
 ·have : ((List.range 6).all fun k => decide ((typedOps.getD k []).length <= 2)) = true := by decide +kernel
  simpa using List.all_eq_true.1 this j (List.mem_range.2 hj)
theorem and_tmod (n : Int) (c : Nat) (hc : 0 < c) : ∃ k : Nat, k < c /\ (bits .and .i64 n 65535).tmod (c : Int) = (k : Int) := by
 obtain ⟨m, _, e⟩ := and_mask n 65535 (by decide); have e' : bits .and .i64 n 65535 = (m : Int) := e; exact ⟨m % c, Nat.mod_lt _ hc, by rw [e']; rfl⟩
theorem typed_walk {w : World} (hg : Glob w) (h8 : 8 <= w.heap.size) (n op : Int) : Calls Tryz.prog 6 #[.int .i64 n, .int .i64 op] w fun e w' => e = .returned (.bool true) /\ Fr [] w w' := by
 refine calls_post fun R HQ => ?_; obtain ⟨k, hk, e1⟩ := and_tmod n 14 (by decide); obtain ⟨j, hj, e2⟩ := and_tmod op 6 (by decide)
 replace e1 : (bits .and .i64 n 65535).tmod 14 = (k : Int) := e1
 replace e2 : (bits .and .i64 op 65535).tmod 6 = (j : Int) := e2
 have HTV := lh (typed_one hk hj); obtain ⟨hl1, hl2⟩ := typed_len hk hj; have hr1 := allRow_at hk; have hr2 := opsRow_at hj; unfold typedV at HTV; obtain ⟨sk, hsk⟩ : ∃ sk, typedAll.getD k [] = sk := ⟨_, rfl⟩; obtain ⟨so, hso⟩ : ∃ so, typedOps.getD j [] = so := ⟨_, rfl⟩; rw [hsk] at HTV hl1 hr1; rw [hso] at HTV hl2 hr2; clear hsk hso; have HG := lh hg; have HA := lh (awake_any hg h8); have HL1 := lh hl1; have HL2 := lh hl2; have HR1 := lh hr1; have HR2 := lh hr2; clear hg hl1 hl2 hr1 hr2
 go_enter Tryz.func6, Tryz.ntmps6
 go_wp2_with fail; refine HA.out.mono ?_; rintro e w1 ⟨rfl, hf1⟩; have HF1 := lh hf1; have hz1 := hf1.size; clear hf1 HA; have hc := (Blk.new w1 9 opsRow).at_ HR2.out; simp only [opsRow] at hc; go_upto_region 3 with fail
 have hfa : Fr [] w1 (w1.alloc (.cells #[.string ⟨#[61, 61]⟩, .string ⟨#[33, 61]⟩, .string ⟨#[60]⟩, .string ⟨#[60, 61]⟩, .string ⟨#[62]⟩, .string ⟨#[62, 61]⟩] 9)) := (Fr.refl [] w1).alloc _; generalize w1.alloc (.cells #[.string ⟨#[61, 61]⟩, .string ⟨#[33, 61]⟩, .string ⟨#[60]⟩, .string ⟨#[60, 61]⟩, .string ⟨#[62]⟩, .string ⟨#[62, 61]⟩] 9) = w2 at *; have HF2 := lh (HF1.out.trans hfa (by simp)); have hz2 := hfa.size; clear hfa HF1 hc; go_upto_region 4 with fail
 have hfa : Fr [] w2 (w2.alloc (.cells #[.string ⟨#[64, 46, 97]⟩, .string ⟨#[64, 91, 49, 93]⟩, .string ⟨#[99, 111, 117, 110, 116, 40, 64, 46, 42, 41]⟩, .string ⟨#[108, 101, 110, 103, 116, 104, 40, 64, 46, 97, 41]⟩, .string ⟨#[118, 97, 108, 117, 101, 40, 64, 46, 46, 97, 41]⟩, .string ⟨#[49]⟩, .string ⟨#[39, 120, 39]⟩, .string ⟨#[110, 117, 108, 108]⟩, .string ⟨#[64, 46, 42]⟩, .string ⟨#[64, 46, 46, 97]⟩, .string ⟨#[64, 91, 49, 58, 50, 93]⟩, .string ⟨#[64, 91, 39, 97, 39, 44, 39, 98, 39, 93]⟩, .string ⟨#[109, 97, 116, 99, 104, 40, 64, 46, 97, 44, 39, 120, 39, 41]⟩, .string ⟨#[115, 101, 97, 114, 99, 104, 40, 64, 46, 97, 44, 39, 120, 39, 41]⟩] 9)) := (Fr.refl [] w2).alloc _; have hba := Blk.new w2 9 allRow; simp only [allRow] at hba; generalize w2.alloc (.cells #[.string ⟨#[64, 46, 97]⟩, .string ⟨#[64, 91, 49, 93]⟩, .string ⟨#[99, 111, 117, 110, 116, 40, 64, 46, 42, 41]⟩, .string ⟨#[108, 101, 110, 103, 116, 104, 40, 64, 46, 97, 41]⟩, .string ⟨#[118, 97, 108, 117, 101, 40, 64, 46, 46, 97, 41]⟩, .string ⟨#[49]⟩, .string ⟨#[39, 120, 39]⟩, .string ⟨#[110, 117, 108, 108]⟩, .string ⟨#[64, 46, 42]⟩, .string ⟨#[64, 46, 46, 97]⟩, .string ⟨#[64, 91, 49, 58, 50, 93]⟩, .string ⟨#[64, 91, 39, 97, 39, 44, 39, 98, 39, 93]⟩, .string ⟨#[109, 97, 116, 99, 104, 40, 64, 46, 97, 44, 39, 120, 39, 41]⟩, .string ⟨#[115, 101, 97, 114, 99, 104, 40, 64, 46, 97, 44, 39, 120, 39, 41]⟩] 9) = w3 at *; have hc := hba.at_ HR1.out; have HF3 := lh (HF2.out.trans hfa (by simp)); have hz3 := hfa.size; clear hfa HF2 hba HR1 HR2; go_upto_region 5 with fail
 have hl1 := HL1.out; have hl2 := HL2.out; obtain ⟨t1, ht1⟩ : ∃ t1, [36, 91, 63] ++ sk = t1 := ⟨_, rfl⟩; obtain ⟨t2, ht2⟩ : ∃ t2, t1 ++ [32] = t2 := ⟨_, rfl⟩; obtain ⟨t3, ht3⟩ : ∃ t3, t2 ++ so = t3 := ⟨_, rfl⟩; obtain ⟨t4, ht4⟩ : ∃ t4, t3 ++ [32, 49, 93] = t4 := ⟨_, rfl⟩; have n1 : t1.length <= 30 := by rw [<- ht1]; simp; omega
 have n2 : t2.length <= 31 := by rw [<- ht2]; simp; omega
 have n3 : t3.length <= 33 := by rw [<- ht3]; simp; omega
 have n4 : t4.length <= 36 := by rw [<- ht4]; simp; omega
 have ad1 : ∀ W, (Op.stringOp .add ⟨#[36, 91, 63]⟩ ⟨sk.toArray⟩).run Tryz.prog W = .ok (.string ⟨t1.toArray⟩) W := fun W => by rw [<- ht1]; exact str_add [36, 91, 63] sk (by simp; omega) W
 have ad2 : ∀ W, (Op.stringOp .add ⟨t1.toArray⟩ ⟨#[32]⟩).run Tryz.prog W = .ok (.string ⟨t2.toArray⟩) W := fun W => by rw [<- ht2]; exact str_add t1 [32] (by simp; omega) W
 have ad3 : ∀ W, (Op.stringOp .add ⟨t2.toArray⟩ ⟨so.toArray⟩).run Tryz.prog W = .ok (.string ⟨t3.toArray⟩) W := fun W => by rw [<- ht3]; exact str_add t2 so (by omega) W
 have ad4 : ∀ W, (Op.stringOp .add ⟨t3.toArray⟩ ⟨#[32, 49, 93]⟩).run Tryz.prog W = .ok (.string ⟨t4.toArray⟩) W := fun W => by rw [<- ht4]; exact str_add t3 [32, 49, 93] (by simp; omega) W
 have HT4 : Hid (t4 = cmpT sk so) := lh (by rw [<- ht4, <- ht3, <- ht2, <- ht1]; rfl); clear ht1 ht2 ht3 ht4; go_wp2_with fail; refine (parse_code (HG.out.fr HF3.out (by simp)) (by omega) ⟨t4.toArray⟩ (show t4.toArray.size <= 100000 by rw [List.size_toArray]; omega)).mono ?_; rintro e w4 ⟨r9, A9, n9, c9, rfl, hf⟩; rw [show strBytes ⟨t4.toArray⟩ = t4 from rfl]; obtain ⟨ea, hee⟩ : ∃ ee, errQ t4 = ee := ⟨_, rfl⟩; rw [hee]; rw [HT4.out] at hee; have HEA := lh hee; have HFM := lh (HF3.out.trans hf (by simp)); have hzm := hf.size
 replace hc := fr_keep hf hc
 clear hf hee; go_upto_region 6 with fail
 have hfa : Fr [] w4 (w4.alloc (.cells #[.bool r9, .slice A9 n9 c9] 25)) := (Fr.refl [] w4).alloc _; generalize w4.alloc (.cells #[.bool r9, .slice A9 n9 c9] 25) = w5 at *
 replace hc := fr_keep hfa hc
 have HF5 := lh (HFM.out.trans hfa (by simp)); have hz5 : w.heap.size <= w5.heap.size := by have := hfa.size; omega
 clear hfa HFM hzm; obtain ⟨t5, ht5⟩ : ∃ t5, [36, 91, 63] ++ sk = t5 := ⟨_, rfl⟩; obtain ⟨t6, ht6⟩ : ∃ t6, t5 ++ [93] = t6 := ⟨_, rfl⟩; have n5 : t5.length <= 30 := by rw [<- ht5]; simp; omega
 have n6 : t6.length <= 31 := by rw [<- ht6]; simp; omega
 have ad5 : ∀ W, (Op.stringOp .add ⟨#[36, 91, 63]⟩ ⟨sk.toArray⟩).run Tryz.prog W = .ok (.string ⟨t5.toArray⟩) W := fun W => by rw [<- ht5]; exact str_add [36, 91, 63] sk (by simp; omega) W
 have ad6 : ∀ W, (Op.stringOp .add ⟨t5.toArray⟩ ⟨#[93]⟩).run Tryz.prog W = .ok (.string ⟨t6.toArray⟩) W := fun W => by rw [<- ht6]; exact str_add t5 [93] (by simp; omega) W
 have HT6 : Hid (t6 = askT sk) := lh (by rw [<- ht6, <- ht5]; rfl); clear ht5 ht6 ad1 ad2 ad3 ad4; go_wp2_with fail; refine (parse_code (HG.out.fr HF5.out (by simp)) (by omega) ⟨t6.toArray⟩ (show t6.toArray.size <= 100000 by rw [List.size_toArray]; omega)).mono ?_; rintro e w6 ⟨r9, A9, n9, c9, rfl, hf⟩; rw [show strBytes ⟨t6.toArray⟩ = t6 from rfl]; obtain ⟨eb, hee⟩ : ∃ ee, errQ t6 = ee := ⟨_, rfl⟩; rw [hee]; rw [HT6.out] at hee; have HEB := lh hee; have HFM := lh (HF5.out.trans hf (by simp)); have hzm := hf.size
 replace hc := fr_keep hf hc
 clear hf hee; go_upto_region 7 with fail
 have hfa : Fr [] w6 (w6.alloc (.cells #[.bool r9, .slice A9 n9 c9] 25)) := (Fr.refl [] w6).alloc _; generalize w6.alloc (.cells #[.bool r9, .slice A9 n9 c9] 25) = w7 at *
 replace hc := fr_keep hfa hc
 have HF7 := lh (HFM.out.trans hfa (by simp)); have hz7 : w.heap.size <= w7.heap.size := by have := hfa.size; omega
 clear hfa HFM hzm; obtain ⟨t7, ht7⟩ : ∃ t7, [36, 91, 63, 33] ++ sk = t7 := ⟨_, rfl⟩; obtain ⟨t8, ht8⟩ : ∃ t8, t7 ++ [32, 124, 124, 32, 64, 93] = t8 := ⟨_, rfl⟩; have n7 : t7.length <= 30 := by rw [<- ht7]; simp; omega
 have n8 : t8.length <= 36 := by rw [<- ht8]; simp; omega
 have ad7 : ∀ W, (Op.stringOp .add ⟨#[36, 91, 63, 33]⟩ ⟨sk.toArray⟩).run Tryz.prog W = .ok (.string ⟨t7.toArray⟩) W := fun W => by rw [<- ht7]; exact str_add [36, 91, 63, 33] sk (by simp; omega) W
 have ad8 : ∀ W, (Op.stringOp .add ⟨t7.toArray⟩ ⟨#[32, 124, 124, 32, 64, 93]⟩).run Tryz.prog W = .ok (.string ⟨t8.toArray⟩) W := fun W => by rw [<- ht8]; exact str_add t7 [32, 124, 124, 32, 64, 93] (by simp; omega) W
 have HT8 : Hid (t8 = notT sk) := lh (by rw [<- ht8, <- ht7]; rfl); clear ht7 ht8 ad5 ad6; go_wp2_with fail; refine (parse_code (HG.out.fr HF7.out (by simp)) (by omega) ⟨t8.toArray⟩ (show t8.toArray.size <= 100000 by rw [List.size_toArray]; omega)).mono ?_; rintro e w8 ⟨r9, A9, n9, c9, rfl, hf⟩; rw [show strBytes ⟨t8.toArray⟩ = t8 from rfl]; obtain ⟨ec, hee⟩ : ∃ ee, errQ t8 = ee := ⟨_, rfl⟩; rw [hee]; rw [HT8.out] at hee; have HEC := lh hee; have HFM := lh (HF7.out.trans hf (by simp)); have hzm := hf.size
 replace hc := fr_keep hf hc
 clear hf hee; go_upto_region 8 with fail
 have hfa : Fr [] w8 (w8.alloc (.cells #[.bool r9, .slice A9 n9 c9] 25)) := (Fr.refl [] w8).alloc _; generalize w8.alloc (.cells #[.bool r9, .slice A9 n9 c9] 25) = w9 at *
 replace hc := fr_keep hfa hc
 have HF9 := lh (HFM.out.trans hfa (by simp)); have hz9 : w.heap.size <= w9.heap.size := by have := hfa.size; omega
 clear hfa HFM hzm; clear ad7 ad8 hc; have htv := HTV.out; rw [HEA.out, HEB.out, HEC.out] at htv; unfold typedW at htv; clear HEA HEB HEC HTV
 by_cases k2 : k < 2
 ·rw [if_pos k2] at htv
  cases htv
  have d8 : decide ((k : Int) < 8) = true := by rw [decide_eq_true_eq]; omega
  have d2 : decide ((k : Int) < 2) = true := by rw [decide_eq_true_eq]; omega
  have g2 : decide ((k : Int) ≥ 2) = false := by rw [decide_eq_false_iff_not]; omega
  clear k2 hk; go_wp2_with fail; exact HQ.out _ _ ⟨rfl, HF9.out⟩
 ·rw [if_neg k2] at htv; have d2 : decide ((k : Int) < 2) = false := by rw [decide_eq_false_iff_not]; omega
  have g2 : decide ((k : Int) ≥ 2) = true := by rw [decide_eq_true_eq]; omega
  by_cases k5 : k < 5
  ·rw [if_pos k5] at htv
   cases htv
   have d8 : decide ((k : Int) < 8) = true := by rw [decide_eq_true_eq]; omega
   have g8 : decide ((k : Int) ≥ 8) = false := by rw [decide_eq_false_iff_not]; omega
   have d5 : decide ((k : Int) < 5) = true := by rw [decide_eq_true_eq]; omega
   clear k2 k5 hk; go_wp2_with fail; exact HQ.out _ _ ⟨rfl, HF9.out⟩
  ·rw [if_neg k5] at htv; have d5 : decide ((k : Int) < 5) = false := by rw [decide_eq_false_iff_not]; omega
   by_cases k8 : k < 8
   ·rw [if_pos k8] at htv
    cases htv
    have d8 : decide ((k : Int) < 8) = true := by rw [decide_eq_true_eq]; omega
    have g8 : decide ((k : Int) ≥ 8) = false := by rw [decide_eq_false_iff_not]; omega
    clear k2 k5 k8 hk; go_wp2_with fail; exact HQ.out _ _ ⟨rfl, HF9.out⟩
   ·rw [if_neg k8] at htv
    cases htv
    have d8 : decide ((k : Int) < 8) = false := by rw [decide_eq_false_iff_not]; omega
    have g8 : decide ((k : Int) ≥ 8) = true := by rw [decide_eq_true_eq]; omega
    clear k2 k5 k8 hk; go_wp2_with fail; exact HQ.out _ _ ⟨rfl, HF9.out⟩
end
section
open Go.RowKit
theorem deep_true0 : ((List.range 16).all fun n => deepB true (n + 0)) = true := by decide +kernel
theorem deep_true1 : ((List.range 16).all fun n => deepB true (n + 16)) = true := by decide +kernel
theorem deep_true2 : ((List.range 16).all fun n => deepB true (n + 32)) = true := by decide +kernel
theorem deep_true3 : ((List.range 16).all fun n => deepB true (n + 48)) = true := by decide +kernel
theorem deep_false0 : ((List.range 16).all fun n => deepB false (n + 0)) = true := by decide +kernel
theorem deep_false1 : ((List.range 16).all fun n => deepB false (n + 16)) = true := by decide +kernel
theorem deep_false2 : ((List.range 16).all fun n => deepB false (n + 32)) = true := by decide +kernel
theorem deep_false3 : ((List.range 16).all fun n => deepB false (n + 48)) = true := by decide +kernel
theorem deep_one (f : Bool) {n : Nat} (h : n < 64) : deepB f n = true := by
 have hm : ∀ {b : Bool} {k : Nat}, ((List.range 16).all fun n => deepB b (n + k)) = true -> k <= n -> n < k + 16 -> deepB b n = true := fun {b k} ha h1 h2 => by
  have := List.all_eq_true.1 ha (n - k) (List.mem_range.2 (by omega))
  rwa [Nat.sub_add_cancel h1] at this
 by_cases h1 : n < 16
 ·cases f
  ·exact hm deep_false0 (by omega) (by omega)
  ·exact hm deep_true0 (by omega) (by omega)
 ·by_cases h2 : n < 32
  ·cases f
   ·exact hm deep_false1 (by omega) (by omega)
   ·exact hm deep_true1 (by omega) (by omega)
  ·by_cases h3 : n < 48
   ·cases f
    ·exact hm deep_false2 (by omega) (by omega)
    ·exact hm deep_true2 (by omega) (by omega)
   ·cases f
    ·exact hm deep_false3 (by omega) (by omega)
    ·exact hm deep_true3 (by omega) (by omega)
end
section
open Go.RowKit Go.Shelf
theorem deepT_len (f : Bool) : ∀ n : Nat, (deepT f n).length <= 4 * n + 1
 | 0 => by cases f <;> simp [deepT, filtT, parenT]
 | n + 1 => by
  have := deepT_len f n
  cases f <;> simp [deepT, filtT, parenT] at this ⊢ <;> omega
theorem deep_walk {w : World} (hg : Glob w) (h8 : 8 <= w.heap.size) (n : Int) (f : Bool) : Calls Tryz.prog 8 #[.int .i64 n, .bool f] w fun e w' => e = .returned (.bool true) /\ Fr [] w w' := by
 refine calls_post fun R HQ => ?_; obtain ⟨k, hk, e1⟩ := and_mask n 63 (by decide)
 replace e1 : bits .and .i64 n 63 = (k : Int) := e1
 have hk64 : k < 64 := by omega
 have HD := lh (deep_one f hk64); have HG := lh hg; have HA := lh (awake_any hg h8); clear hg hk
 go_enter Tryz.func8, Tryz.ntmps8
 go_wp2_with fail; refine HA.out.mono ?_; rintro e w1 ⟨rfl, hf1⟩; have HF1 := lh hf1; have hz1 := hf1.size; clear hf1 HA; go_wp2_with fail
 go_loopg [7, 8] k (fun j v7 v8 wr => ∃ i : Nat, i + j = k /\ v7 = .string ⟨(deepT f i).toArray⟩ /\ v8 = .int .i64 (i : Int) /\ w1 = wr)
 case atStart => exact ⟨0, by omega, by cases f <;> rfl, rfl, rfl⟩
 case round =>
  obtain ⟨i, hi, rfl, rfl, rfl⟩ := hrel; have hln := deepT_len f i
  by_cases hik : i < k
  ·cases f with
   | true =>
    obtain ⟨si, hsi⟩ : ∃ si, deepT true i = si := ⟨_, rfl⟩; obtain ⟨t1, ht1⟩ : ∃ t1, [64, 91, 63] ++ si = t1 := ⟨_, rfl⟩; obtain ⟨t2, ht2⟩ : ∃ t2, t1 ++ [93] = t2 := ⟨_, rfl⟩; rw [hsi] at hln ⊢; have n1 : t1.length <= 300 := by rw [<- ht1]; simp; omega
    have ad1 : ∀ W, (Op.stringOp .add ⟨#[64, 91, 63]⟩ ⟨si.toArray⟩).run Tryz.prog W = .ok (.string ⟨t1.toArray⟩) W := fun W => by rw [<- ht1]; exact str_add [64, 91, 63] si (by simp; omega) W
    have ad2 : ∀ W, (Op.stringOp .add ⟨t1.toArray⟩ ⟨#[93]⟩).run Tryz.prog W = .ok (.string ⟨t2.toArray⟩) W := fun W => by rw [<- ht2]; exact str_add t1 [93] (by simp; omega) W
    have HT : Hid (t2 = deepT true (i + 1)) := lh (by rw [<- ht2, <- ht1, <- hsi]; rfl); clear hsi ht1 ht2; go_wp2_with fail
    go_roundg (k - (i + 1))
    case measure => omega
    case rel => exact ⟨i + 1, by omega, by rw [HT.out], by go_num, rfl⟩
   | false =>
    obtain ⟨si, hsi⟩ : ∃ si, deepT false i = si := ⟨_, rfl⟩; obtain ⟨t1, ht1⟩ : ∃ t1, [40] ++ si = t1 := ⟨_, rfl⟩; obtain ⟨t2, ht2⟩ : ∃ t2, t1 ++ [41] = t2 := ⟨_, rfl⟩; rw [hsi] at hln ⊢; have n1 : t1.length <= 300 := by rw [<- ht1]; simp; omega
    have ad1 : ∀ W, (Op.stringOp .add ⟨#[40]⟩ ⟨si.toArray⟩).run Tryz.prog W = .ok (.string ⟨t1.toArray⟩) W := fun W => by rw [<- ht1]; exact str_add [40] si (by simp; omega) W
    have ad2 : ∀ W, (Op.stringOp .add ⟨t1.toArray⟩ ⟨#[41]⟩).run Tryz.prog W = .ok (.string ⟨t2.toArray⟩) W := fun W => by rw [<- ht2]; exact str_add t1 [41] (by simp; omega) W
    have HT : Hid (t2 = deepT false (i + 1)) := lh (by rw [<- ht2, <- ht1, <- hsi]; rfl); clear hsi ht1 ht2; go_wp2_with fail
    go_roundg (k - (i + 1))
    case measure => omega
    case rel => exact ⟨i + 1, by omega, by rw [HT.out], by go_num, rfl⟩
  ·obtain rfl : i = k := by omega
   obtain ⟨si, hsi⟩ : ∃ si, deepT f i = si := ⟨_, rfl⟩; obtain ⟨t1, ht1⟩ : ∃ t1, [36, 91, 63] ++ si = t1 := ⟨_, rfl⟩; obtain ⟨t2, ht2⟩ : ∃ t2, t1 ++ [93] = t2 := ⟨_, rfl⟩; rw [hsi] at hln ⊢; have n1 : t1.length <= 300 := by rw [<- ht1]; simp; omega
   have n2 : t2.length <= 301 := by rw [<- ht2]; simp; omega
   have ad1 : ∀ W, (Op.stringOp .add ⟨#[36, 91, 63]⟩ ⟨si.toArray⟩).run Tryz.prog W = .ok (.string ⟨t1.toArray⟩) W := fun W => by rw [<- ht1]; exact str_add [36, 91, 63] si (by simp; omega) W
   have ad2 : ∀ W, (Op.stringOp .add ⟨t1.toArray⟩ ⟨#[93]⟩).run Tryz.prog W = .ok (.string ⟨t2.toArray⟩) W := fun W => by rw [<- ht2]; exact str_add t1 [93] (by simp; omega) W
   have HT : Hid (t2 = deepQ f i) := lh (by rw [<- ht2, <- ht1, <- hsi]; rfl); clear hsi ht1 ht2 hi hik; go_wp2_with fail; have hd := HD.out; unfold deepB at hd; rw [<- HT.out] at hd; have hsz : t2.toArray.size <= 100000 := by rw [List.size_toArray]; omega
   cases hp : parseQ t2 with
   | ok q =>
    rw [hp] at hd; simp only [Bool.and_eq_true, decide_eq_true_eq] at hd; obtain ⟨⟨⟨hk32, hsn⟩, hez⟩, hwt⟩ := hd; refine (parse_is (HG.out.fr HF1.out (by simp)) (by omega) ⟨t2.toArray⟩ hsz hp).mono ?_; rintro e w2 ⟨A, c, rfl, hr, hf2⟩; have HR := lh hr; have HF2 := lh (HF1.out.trans hf2 (by simp)); obtain ⟨qr, hqr⟩ : ∃ qr, q.rel = qr := ⟨_, rfl⟩; obtain ⟨qn, hqn⟩ : ∃ qn, q.l.length = qn := ⟨_, rfl⟩; rw [hqr, hqn] at HR ⊢; have d32 : decide ((i : Int) < 32) = true := by rw [decide_eq_true_eq]; omega
    have g32 : decide ((i : Int) ≥ 32) = false := by rw [decide_eq_false_iff_not]; omega
    clear hr hf2 hqr hqn hk32; go_upto_region 11 with fail
    have hfa : Fr [] w2 (w2.alloc (.cells #[.bool qr, .slice A qn c] 25)) := (Fr.refl [] w2).alloc _; have hb := Blk.new w2 25 [.bool qr, .slice A qn c]; generalize w2.alloc (.cells #[.bool qr, .slice A qn c] 25) = w3 at *; have HF3 := lh (HF2.out.trans hfa (by simp)); have c0 := hb.at_ (i := 0) rfl; have c1 := hb.at_ (i := 1) rfl; have HC := lh (sane_easy (HR.out.fr hfa (by simp)) hwt hez hsn); clear hfa hb HR hwt hez hsn; go_wp2_with fail; refine HC.out.mono ?_; rintro e w4 ⟨rfl, hf4⟩; have HF4 := lh (HF3.out.trans hf4 (by simp)); clear hf4; go_wp2_with fail; exact HQ.out _ _ ⟨rfl, HF4.out⟩
   | error er =>
    rw [hp] at hd; simp only [Bool.and_eq_true, decide_eq_true_eq] at hd; obtain ⟨hk32, rfl⟩ := hd; refine (parse_code (HG.out.fr HF1.out (by simp)) (by omega) ⟨t2.toArray⟩ hsz).mono ?_; rintro e w2 ⟨r9, A9, n9, c9, rfl, hf2⟩; rw [show errQ (strBytes ⟨t2.toArray⟩) = 3 by show errQ t2 = 3; unfold errQ; rw [hp]]; have HF2 := lh (HF1.out.trans hf2 (by simp)); have d32 : decide ((i : Int) < 32) = false := by rw [decide_eq_false_iff_not]; omega
    have g32 : decide ((i : Int) ≥ 32) = true := by rw [decide_eq_true_eq]; omega
    clear hf2 hk32; go_wp2_with fail; exact HQ.out _ _ ⟨rfl, HF2.out.alloc _⟩
end
section
open Go.RowKit
def sliceQ (h : Bool × Bool × Bool) (s : Int × Int × Int) : Qry := .mk false [.mk false [.ofSlice h s]]
def offN (h : Bool) (n : Int) : Int := if h = true then n else 0
section
variable {h0 h1 h2 : Bool} {n0 n1 n2 : Int}
theorem sliceQ_text : (sliceQ (h0, h1, h2) (offN h0 n0, offN h1 n1, offN h2 n2)).text = 36 :: 91 :: (optN h0 n0 ++ 58 :: (optN h1 n1 ++ endS h2 n2)) := by
 cases h0 <;> cases h1 <;> cases h2 <;> simp [sliceQ, Qry.text, segTexts, Sgm.text, selTexts, Slr.ofSlice, Slr.text, Lib.join, optN, endS, offN]
theorem optN_len {h : Bool} {n : Int} (l : -32768 <= n) (u : n <= 32767) : (optN h n).length <= 21 := by
 cases h with
 | false => simp [optN]
 | true => simpa [optN] using Lib.itoa_length_le n (by omega) (by omega)
theorem endS_len {h : Bool} {n : Int} (l : -32768 <= n) (u : n <= 32767) : (endS h n).length <= 23 := by
 cases h with
 | false => simp [endS]
 | true =>
  have := Lib.itoa_length_le n (by omega) (by omega)
  simp [endS]; omega
theorem numOk_off {h : Bool} {n : Int} (l : -32768 <= n) (u : n <= 32767) : numOk (offN h n) = true /\ (h || decide (offN h n = 0)) = true /\ i64Ok (offN h n) = true := by
 cases h <;> simp [numOk, offN, i64Ok] <;> omega
theorem sliceQ_sane (l0 : -32768 <= n0) (u0 : n0 <= 32767) (l1 : -32768 <= n1) (u1 : n1 <= 32767) (l2 : -32768 <= n2) (u2 : n2 <= 32767) : (sliceQ (h0, h1, h2) (offN h0 n0, offN h1 n1, offN h2 n2)).sane = true := by
 obtain ⟨a0, b0, -⟩ := numOk_off (h := h0) l0 u0; obtain ⟨a1, b1, -⟩ := numOk_off (h := h1) l1 u1; obtain ⟨a2, b2, -⟩ := numOk_off (h := h2) l2 u2; generalize offN h0 n0 = v0 at *; generalize offN h1 n1 = v1 at *; generalize offN h2 n2 = v2 at *; simp only [Qry.sane, sliceQ, Slr.ofSlice, Qry.rel, Qry.shaped, shapedSegs, Sgm.shaped, shapedSels, Slr.shaped, Qry.typed, typedSegs, Sgm.typed, typedSels, Slr.typed, typedTruths, Qry.parts, partsSegs, Sgm.parts, partsSels, Slr.parts, partsList]
 simp [a0, a1, a2, b0, b1, b2]
theorem sliceQ_easy {h : Bool × Bool × Bool} {s : Int × Int × Int} : (sliceQ h s).easy = true := rfl
theorem sliceQ_wt {h : Bool × Bool × Bool} {s : Int × Int × Int} : (sliceQ h s).wt <= 1000000 := Nat.le_of_ble_eq_true rfl
theorem sliceQ_single {h : Bool × Bool × Bool} {s : Int × Int × Int} : (sliceQ h s).singular = false := rfl
theorem sliceQ_inR (l0 : -32768 <= n0) (u0 : n0 <= 32767) (l1 : -32768 <= n1) (u1 : n1 <= 32767) (l2 : -32768 <= n2) (u2 : n2 <= 32767) : (sliceQ (h0, h1, h2) (offN h0 n0, offN h1 n1, offN h2 n2)).inR = true := by
 obtain ⟨-, -, a0⟩ := numOk_off (h := h0) l0 u0; obtain ⟨-, -, a1⟩ := numOk_off (h := h1) l1 u1; obtain ⟨-, -, a2⟩ := numOk_off (h := h2) l2 u2; simp only [sliceQ, Slr.ofSlice, Qry.inR, inRSegs, Sgm.inR, inRSels, Slr.inR, inRExprs]; rw [a0, a1, a2]; rfl
theorem sliceQ_parse (l0 : -32768 <= n0) (u0 : n0 <= 32767) (l1 : -32768 <= n1) (u1 : n1 <= 32767) (l2 : -32768 <= n2) (u2 : n2 <= 32767) :
  parseQ (sliceQ (h0, h1, h2) (offN h0 n0, offN h1 n1, offN h2 n2)).text = .ok (sliceQ (h0, h1, h2) (offN h0 n0, offN h1 n1, offN h2 n2)) := by
 have i0 := optN_len (h := h0) l0 u0; have i1 := optN_len (h := h1) l1 u1; have i2 := endS_len (h := h2) l2 u2; rw [sliceQ_text]; exact parse_slice (h0, h1, h2) (n0, n1, n2) (by simp only; omega) (by simp only; omega) (by simp only; omega) (by simp only; omega) (by simp only; omega) (by simp only; omega) (by simp only [List.length_append, List.length_cons]; omega)
theorem sliceQ_len (l0 : -32768 <= n0) (u0 : n0 <= 32767) (l1 : -32768 <= n1) (u1 : n1 <= 32767) (l2 : -32768 <= n2) (u2 : n2 <= 32767) : (sliceQ (h0, h1, h2) (offN h0 n0, offN h1 n1, offN h2 n2)).text.length <= 100 := by
 have i0 := optN_len (h := h0) l0 u0; have i1 := optN_len (h := h1) l1 u1; have i2 := endS_len (h := h2) l2 u2; rw [sliceQ_text]; simp only [List.length_append, List.length_cons]; omega
end
end
end Go.Proofs.YtbggkiebfflcdaaGreatDoor
