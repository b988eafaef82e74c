/-
  Joined by join.py: Ib Ic Ie
-/
import Derived.Test.YtbggkiebfflcdaaGreatDoorJpb21
set_option maxRecDepth 100000
set_option maxHeartbeats 32000000
namespace Go.Proofs.YtbggkiebfflcdaaGreatDoor
section
open Go.RowKit Go.Shelf
theorem aCe (a b c : Bool) (w : World) : (Op.equalIn 10000 46 (.agg #[.bool a, .bool b, .bool c]) (.agg #[.bool false, .bool false, .bool false])).run Tryz.prog w = .ok (decide (((a, b, c) : Bool × Bool × Bool) = (false, false, false))) w := by
 cases a <;> cases b <;> cases c <;> kernel_rfl
theorem aCf (a b c : Int) (w : World) : (Op.equalIn 10000 47 (.agg #[.int .i64 a, .int .i64 b, .int .i64 c]) (.agg #[.int .i64 0, .int .i64 0, .int .i64 0])).run Tryz.prog w = .ok (decide (((a, b, c) : Int × Int × Int) = (0, 0, 0))) w := by
 by_cases ha : a = 0
 ·subst ha
  by_cases hb : b = 0
  ·subst hb
   by_cases hc : c = 0
   ·subst hc
    kernel_rfl
   ·rw [show decide (((0, 0, c) : Int × Int × Int) = (0, 0, 0)) = false by simp [hc]]
    cases c with
    | ofNat n => cases n with | zero => exact absurd rfl hc | succ n => clear hc; kernel_rfl
    | negSucc n => clear hc; kernel_rfl
  ·rw [show decide (((0, b, c) : Int × Int × Int) = (0, 0, 0)) = false by simp [hb]]
   cases b with
   | ofNat n => cases n with | zero => exact absurd rfl hb | succ n => clear hb; kernel_rfl
   | negSucc n => clear hb; kernel_rfl
 ·rw [show decide (((a, b, c) : Int × Int × Int) = (0, 0, 0)) = false by simp [ha]]
  cases a with
  | ofNat n => cases n with | zero => exact absurd rfl ha | succ n => clear ha; kernel_rfl
  | negSucc n => clear ha; kernel_rfl
def vX (z a b c : Bool) (k : Nat) : Bool := if k = 0 then z else if k = 1 then z && a else if k = 2 then z && a && b else z && a && b && c
section
variable {w : World} {N : Nat -> Prop} {cs : List Value}
theorem sshg1 {d : Int} {A : Option Addr} {c : Nat} {name : List UInt8} {at_ : Int} {h0 h1 h2 : Bool} {s0 s1 s2 : Int} {f : List Xpr} (hsz : name.length <= 1000000) :
  RV 64 #[.agg ([.int .i64 1, .string ⟨name.toArray⟩, .int .i64 at_, .bool h0, .bool h1, .bool h2, .int .i64 s0, .int .i64 s1, .int .i64 s2, .slice A f.length c] : List Value).toArray, .int .i64 d] w (.bool ((Slr.mk 1 name at_ (h0, h1, h2) (s0, s1, s2) f).shaped d)) := by
 refine cA fun R HQ => ?_; obtain ⟨fz, hfz⟩ : ∃ fz, f.isEmpty = fz := ⟨_, rfl⟩; obtain ⟨ab, h_ab⟩ : ∃ ab, decide (at_ = 0) = ab := ⟨_, rfl⟩; obtain ⟨hb, h_hb⟩ : ∃ hb, decide (((h0, h1, h2) : Bool × Bool × Bool) = (false, false, false)) = hb := ⟨_, rfl⟩; obtain ⟨sb, h_sb⟩ : ∃ sb, decide (((s0, s1, s2) : Int × Int × Int) = (0, 0, 0)) = sb := ⟨_, rfl⟩; obtain ⟨ck, hck⟩ : ∃ ck, lE name = ck := ⟨_, rfl⟩
 have hE : (Slr.mk 1 name at_ (h0, h1, h2) (s0, s1, s2) f).shaped d = (fz && ck && ab && hb && sb) := by
  simp only [Slr.shaped]; rw [show (if (1 : Int) = 5 then decide (f.length = 1) && wB (d + 1) (fun _ => 0) f else f.isEmpty) = f.isEmpty from rfl, hfz, hck, h_ab, h_hb, h_sb]
  cases fz <;> cases ck <;> cases ab <;> cases hb <;> cases sb <;> rfl
 rw [hE] at HQ; have HCK := lh hck; have hlz : (((f.length : Nat) : Int) == 0) = fz := by rw [<- hfz]; cases f <;> simp; omega
 have HAB : Hid ((at_ == 0) = ab) := lh (by rw [<- h_ab, Bool.eq_iff_iff]; simp); have HHB := lh h_hb; have HSB := lh h_sb; obtain ⟨ln, hln⟩ : ∃ ln, f.length = ln := ⟨_, rfl⟩; rw [hln] at hlz ⊢; clear hln hfz h_ab h_hb h_sb hE hck; obtain ⟨cs, hcs⟩ : ∃ cs : List Value, [.int .i64 1, .string ⟨name.toArray⟩, .int .i64 at_, .bool h0, .bool h1, .bool h2, .int .i64 s0, .int .i64 s1, .int .i64 s2, .slice A ln c] = cs := ⟨_, rfl⟩; rw [hcs]
 go_enter Tryz.func64, Tryz.ntmps64
 go_wp2_with (with_reducible refine kA rfl 50 (.tmp 0) rfl cs rfl ?_)
 intro w0 hb0 hf0 hz0; subst hcs; have c0 := hb0.at_ (i := 0) rfl; have c1 := hb0.at_ (i := 1) rfl; have c2 := hb0.at_ (i := 2) rfl; have c3 := hb0.at_ (i := 3) rfl; have c4 := hb0.at_ (i := 4) rfl; have c5 := hb0.at_ (i := 5) rfl; have c6 := hb0.at_ (i := 6) rfl; have c7 := hb0.at_ (i := 7) rfl; have c8 := hb0.at_ (i := 8) rfl; have c9 := hb0.at_ (i := 9) rfl; have HF0 := lh hf0; clear hb0 hf0; go_upto_region 8 with fail
 have hfa : Fr [] w0 (w0.alloc (.cells ([.int .i64 0, .string ⟨#[]⟩, .int .i64 at_, .bool h0, .bool h1, .bool h2, .int .i64 s0, .int .i64 s1, .int .i64 s2, .slice none 0 0] : List Value).toArray 50)) := (Fr.refl [] w0).alloc _; have hb1 := Blk.new w0 50 [.int .i64 0, .string ⟨#[]⟩, .int .i64 at_, .bool h0, .bool h1, .bool h2, .int .i64 s0, .int .i64 s1, .int .i64 s2, .slice none 0 0]; simp only [List.toArray] at hfa hb1; generalize w0.alloc (.cells _ 50) = w1 at *; rw [hz0] at hb1; have k0 := bA hfa c0; have k1 := bA hfa c1; have k2 := bA hfa c2; have k3 := bA hfa c3; have k4 := bA hfa c4; have k5 := bA hfa c5; have k6 := bA hfa c6; have k7 := bA hfa c7; have k8 := bA hfa c8; have k9 := bA hfa c9; have HF1 := lh (HF0.out.trans hfa); have HB1 := lh hb1; clear c0 c1 c2 c3 c4 c5 c6 c7 c8 c9 hfa hb1; clear k0 k2 k3 k4 k5 k6 k7 k8 k9
 cases fz with
 | false =>
  have e1 := HB1.out.at_ (i := 1) rfl; have e2 := HB1.out.at_ (i := 2) rfl; have e3 := HB1.out.at_ (i := 3) rfl; have e4 := HB1.out.at_ (i := 4) rfl; have e5 := HB1.out.at_ (i := 5) rfl; have e6 := HB1.out.at_ (i := 6) rfl; have e7 := HB1.out.at_ (i := 7) rfl; have e8 := HB1.out.at_ (i := 8) rfl; go_wp2_with fail; exact HQ.out _ _ ⟨rfl, HF1.out⟩
 | true =>
  obtain ⟨C, w2, hcv, hC, hba, hf2⟩ := rH w1 ⟨name.toArray⟩ (by simp [ByteArray.size]; omega); have HBA := lh hba; have HF2 := lh (HF1.out.trans hf2); have HB2 := lh (HB1.out.fr hf2); clear hba hf2; go_wp2_with fail; refine (mE HBA.out hC).mono ?_; rintro e w3 ⟨x, rfl, hx, hf3⟩; have hx' : decide (x < 0) = ck := by rw [hx]; exact HCK.out
  have HF3 := lh (HF2.out.trans hf3); have HB3 := lh (HB2.out.fr hf3); clear hx hf3 k1; have e1 := HB3.out.at_ (i := 1) rfl; have e2 := HB3.out.at_ (i := 2) rfl; have e3 := HB3.out.at_ (i := 3) rfl; have e4 := HB3.out.at_ (i := 4) rfl; have e5 := HB3.out.at_ (i := 5) rfl; have e6 := HB3.out.at_ (i := 6) rfl; have e7 := HB3.out.at_ (i := 7) rfl; have e8 := HB3.out.at_ (i := 8) rfl; have hab : (at_ == 0) = ab := HAB.out; have hhb : (Op.equalIn 10000 46 (.agg #[.bool h0, .bool h1, .bool h2]) (.agg #[.bool false, .bool false, .bool false])).run Tryz.prog w3 = .ok hb w3 := by rw [<- HHB.out]; exact aCe h0 h1 h2 _
  have hsb : (Op.equalIn 10000 47 (.agg #[.int .i64 s0, .int .i64 s1, .int .i64 s2]) (.agg #[.int .i64 0, .int .i64 0, .int .i64 0])).run Tryz.prog w3 = .ok sb w3 := by rw [<- HSB.out]; exact aCf s0 s1 s2 _
  cases ck with
  | false =>
   go_wp2_with fail; exact HQ.out _ _ ⟨rfl, HF3.out⟩
  | true =>
   cases ab with
   | false =>
    go_wp2_with fail; exact HQ.out _ _ ⟨rfl, HF3.out⟩
   | true =>
    cases hb with
    | false =>
     go_wp2_with fail; exact HQ.out _ _ ⟨rfl, HF3.out⟩
    | true =>
     cases sb with
     | false =>
      go_wp2_with fail; exact HQ.out _ _ ⟨rfl, HF3.out⟩
     | true =>
      go_wp2_with fail; exact HQ.out _ _ ⟨rfl, HF3.out⟩
theorem sshg2 {d : Int} {A : Option Addr} {c : Nat} {name : List UInt8} {at_ : Int} {h0 h1 h2 : Bool} {s0 s1 s2 : Int} {f : List Xpr} :
  RV 64 #[.agg ([.int .i64 2, .string ⟨name.toArray⟩, .int .i64 at_, .bool h0, .bool h1, .bool h2, .int .i64 s0, .int .i64 s1, .int .i64 s2, .slice A f.length c] : List Value).toArray, .int .i64 d] w (.bool ((Slr.mk 2 name at_ (h0, h1, h2) (s0, s1, s2) f).shaped d)) := by
 refine cA fun R HQ => ?_; obtain ⟨fz, hfz⟩ : ∃ fz, f.isEmpty = fz := ⟨_, rfl⟩; obtain ⟨nb, h_nb⟩ : ∃ nb, name.isEmpty = nb := ⟨_, rfl⟩; obtain ⟨ab, h_ab⟩ : ∃ ab, decide (at_ = 0) = ab := ⟨_, rfl⟩; obtain ⟨hb, h_hb⟩ : ∃ hb, decide (((h0, h1, h2) : Bool × Bool × Bool) = (false, false, false)) = hb := ⟨_, rfl⟩; obtain ⟨sb, h_sb⟩ : ∃ sb, decide (((s0, s1, s2) : Int × Int × Int) = (0, 0, 0)) = sb := ⟨_, rfl⟩
 have hE : (Slr.mk 2 name at_ (h0, h1, h2) (s0, s1, s2) f).shaped d = (fz && nb && ab && hb && sb) := by
  simp only [Slr.shaped]; rw [show (if (2 : Int) = 5 then decide (f.length = 1) && wB (d + 1) (fun _ => 0) f else f.isEmpty) = f.isEmpty from rfl, hfz, h_nb, h_ab, h_hb, h_sb]
  cases fz <;> cases nb <;> cases ab <;> cases hb <;> cases sb <;> rfl
 rw [hE] at HQ; have hlz : (((f.length : Nat) : Int) == 0) = fz := by rw [<- hfz]; cases f <;> simp; omega
 have HNB : Hid ((name == ([] : List UInt8)) = nb) := lh (by rw [<- h_nb]; cases name <;> rfl); have HAB : Hid ((at_ == 0) = ab) := lh (by rw [<- h_ab, Bool.eq_iff_iff]; simp); have HHB := lh h_hb; have HSB := lh h_sb; obtain ⟨ln, hln⟩ : ∃ ln, f.length = ln := ⟨_, rfl⟩; rw [hln] at hlz ⊢; clear hln hfz h_nb h_ab h_hb h_sb hE; obtain ⟨cs, hcs⟩ : ∃ cs : List Value, [.int .i64 2, .string ⟨name.toArray⟩, .int .i64 at_, .bool h0, .bool h1, .bool h2, .int .i64 s0, .int .i64 s1, .int .i64 s2, .slice A ln c] = cs := ⟨_, rfl⟩; rw [hcs]
 go_enter Tryz.func64, Tryz.ntmps64
 go_wp2_with (with_reducible refine kA rfl 50 (.tmp 0) rfl cs rfl ?_)
 intro w0 hb0 hf0 hz0; subst hcs; have c0 := hb0.at_ (i := 0) rfl; have c1 := hb0.at_ (i := 1) rfl; have c2 := hb0.at_ (i := 2) rfl; have c3 := hb0.at_ (i := 3) rfl; have c4 := hb0.at_ (i := 4) rfl; have c5 := hb0.at_ (i := 5) rfl; have c6 := hb0.at_ (i := 6) rfl; have c7 := hb0.at_ (i := 7) rfl; have c8 := hb0.at_ (i := 8) rfl; have c9 := hb0.at_ (i := 9) rfl; have HF0 := lh hf0; clear hb0 hf0; go_upto_region 4 with fail
 have hfa : Fr [] w0 (w0.alloc (.cells ([.int .i64 0, .string ⟨name.toArray⟩, .int .i64 at_, .bool h0, .bool h1, .bool h2, .int .i64 s0, .int .i64 s1, .int .i64 s2, .slice none 0 0] : List Value).toArray 50)) := (Fr.refl [] w0).alloc _; have hb1 := Blk.new w0 50 [.int .i64 0, .string ⟨name.toArray⟩, .int .i64 at_, .bool h0, .bool h1, .bool h2, .int .i64 s0, .int .i64 s1, .int .i64 s2, .slice none 0 0]; simp only [List.toArray] at hfa hb1; generalize w0.alloc (.cells _ 50) = w1 at *; rw [hz0] at hb1; have k0 := bA hfa c0; have k1 := bA hfa c1; have k2 := bA hfa c2; have k3 := bA hfa c3; have k4 := bA hfa c4; have k5 := bA hfa c5; have k6 := bA hfa c6; have k7 := bA hfa c7; have k8 := bA hfa c8; have k9 := bA hfa c9; have HF1 := lh (HF0.out.trans hfa); have HB1 := lh hb1; clear c0 c1 c2 c3 c4 c5 c6 c7 c8 c9 hfa hb1; have e1 := HB1.out.at_ (i := 1) rfl; have e2 := HB1.out.at_ (i := 2) rfl; have e3 := HB1.out.at_ (i := 3) rfl; have e4 := HB1.out.at_ (i := 4) rfl; have e5 := HB1.out.at_ (i := 5) rfl; have e6 := HB1.out.at_ (i := 6) rfl; have e7 := HB1.out.at_ (i := 7) rfl; have e8 := HB1.out.at_ (i := 8) rfl; have hnb : (name == ([] : List UInt8)) = nb := HNB.out; have hab : (at_ == 0) = ab := HAB.out; have hhb : (Op.equalIn 10000 46 (.agg #[.bool h0, .bool h1, .bool h2]) (.agg #[.bool false, .bool false, .bool false])).run Tryz.prog w1 = .ok hb w1 := by rw [<- HHB.out]; exact aCe h0 h1 h2 _
 have hsb : (Op.equalIn 10000 47 (.agg #[.int .i64 s0, .int .i64 s1, .int .i64 s2]) (.agg #[.int .i64 0, .int .i64 0, .int .i64 0])).run Tryz.prog w1 = .ok sb w1 := by rw [<- HSB.out]; exact aCf s0 s1 s2 _
 cases fz with
 | false =>
  go_wp2_with fail; exact HQ.out _ _ ⟨rfl, HF1.out⟩
 | true =>
  cases nb with
  | false =>
   go_wp2_with fail; exact HQ.out _ _ ⟨rfl, HF1.out⟩
  | true =>
   cases ab with
   | false =>
    go_wp2_with fail; exact HQ.out _ _ ⟨rfl, HF1.out⟩
   | true =>
    cases hb with
    | false =>
     go_wp2_with fail; exact HQ.out _ _ ⟨rfl, HF1.out⟩
    | true =>
     cases sb with
     | false =>
      go_wp2_with fail; exact HQ.out _ _ ⟨rfl, HF1.out⟩
     | true =>
      go_wp2_with fail; exact HQ.out _ _ ⟨rfl, HF1.out⟩
theorem sshg3 {d : Int} {A : Option Addr} {c : Nat} {name : List UInt8} {at_ : Int} {h0 h1 h2 : Bool} {s0 s1 s2 : Int} {f : List Xpr} :
  RV 64 #[.agg ([.int .i64 3, .string ⟨name.toArray⟩, .int .i64 at_, .bool h0, .bool h1, .bool h2, .int .i64 s0, .int .i64 s1, .int .i64 s2, .slice A f.length c] : List Value).toArray, .int .i64 d] w (.bool ((Slr.mk 3 name at_ (h0, h1, h2) (s0, s1, s2) f).shaped d)) := by
 refine cA fun R HQ => ?_; obtain ⟨fz, hfz⟩ : ∃ fz, f.isEmpty = fz := ⟨_, rfl⟩; obtain ⟨nb, h_nb⟩ : ∃ nb, name.isEmpty = nb := ⟨_, rfl⟩; obtain ⟨hb, h_hb⟩ : ∃ hb, decide (((h0, h1, h2) : Bool × Bool × Bool) = (false, false, false)) = hb := ⟨_, rfl⟩; obtain ⟨sb, h_sb⟩ : ∃ sb, decide (((s0, s1, s2) : Int × Int × Int) = (0, 0, 0)) = sb := ⟨_, rfl⟩; obtain ⟨b1, hb1⟩ : ∃ b1, decide (at_ <= 9007199254740991) = b1 := ⟨_, rfl⟩; obtain ⟨b2, hb2⟩ : ∃ b2, decide (at_ ≥ -9007199254740991) = b2 := ⟨_, rfl⟩; have hnk : lG at_ = (b1 && b2) := by rw [<- hb1, <- hb2, Bool.and_comm, <- Bool.decide_and]; rfl
 have hE : (Slr.mk 3 name at_ (h0, h1, h2) (s0, s1, s2) f).shaped d = (fz && b1 && b2 && nb && hb && sb) := by
  simp only [Slr.shaped]; rw [show (if (3 : Int) = 5 then decide (f.length = 1) && wB (d + 1) (fun _ => 0) f else f.isEmpty) = f.isEmpty from rfl, hfz, h_nb, hnk, h_hb, h_sb]
  cases fz <;> cases b1 <;> cases b2 <;> cases nb <;> cases hb <;> cases sb <;> rfl
 rw [hE] at HQ; have HC1 := lh hb1; have HC2 := lh hb2; have hlz : (((f.length : Nat) : Int) == 0) = fz := by rw [<- hfz]; cases f <;> simp; omega
 have HNB : Hid ((name == ([] : List UInt8)) = nb) := lh (by rw [<- h_nb]; cases name <;> rfl); have HHB := lh h_hb; have HSB := lh h_sb; obtain ⟨ln, hln⟩ : ∃ ln, f.length = ln := ⟨_, rfl⟩; rw [hln] at hlz ⊢; clear hln hfz h_nb h_hb h_sb hE hnk hb1 hb2; obtain ⟨cs, hcs⟩ : ∃ cs : List Value, [.int .i64 3, .string ⟨name.toArray⟩, .int .i64 at_, .bool h0, .bool h1, .bool h2, .int .i64 s0, .int .i64 s1, .int .i64 s2, .slice A ln c] = cs := ⟨_, rfl⟩; rw [hcs]
 go_enter Tryz.func64, Tryz.ntmps64
 go_wp2_with (with_reducible refine kA rfl 50 (.tmp 0) rfl cs rfl ?_)
 intro w0 hb0 hf0 hz0; subst hcs; have c0 := hb0.at_ (i := 0) rfl; have c1 := hb0.at_ (i := 1) rfl; have c2 := hb0.at_ (i := 2) rfl; have c3 := hb0.at_ (i := 3) rfl; have c4 := hb0.at_ (i := 4) rfl; have c5 := hb0.at_ (i := 5) rfl; have c6 := hb0.at_ (i := 6) rfl; have c7 := hb0.at_ (i := 7) rfl; have c8 := hb0.at_ (i := 8) rfl; have c9 := hb0.at_ (i := 9) rfl; have HF0 := lh hf0; clear hb0 hf0; go_upto_region 12 with fail
 have hfa : Fr [] w0 (w0.alloc (.cells ([.int .i64 0, .string ⟨name.toArray⟩, .int .i64 0, .bool h0, .bool h1, .bool h2, .int .i64 s0, .int .i64 s1, .int .i64 s2, .slice none 0 0] : List Value).toArray 50)) := (Fr.refl [] w0).alloc _; have hb1 := Blk.new w0 50 [.int .i64 0, .string ⟨name.toArray⟩, .int .i64 0, .bool h0, .bool h1, .bool h2, .int .i64 s0, .int .i64 s1, .int .i64 s2, .slice none 0 0]; simp only [List.toArray] at hfa hb1; generalize w0.alloc (.cells _ 50) = w1 at *; rw [hz0] at hb1; have k0 := bA hfa c0; have k1 := bA hfa c1; have k2 := bA hfa c2; have k3 := bA hfa c3; have k4 := bA hfa c4; have k5 := bA hfa c5; have k6 := bA hfa c6; have k7 := bA hfa c7; have k8 := bA hfa c8; have k9 := bA hfa c9; have HF1 := lh (HF0.out.trans hfa); have HB1 := lh hb1; clear c0 c1 c2 c3 c4 c5 c6 c7 c8 c9 hfa hb1; have hc1 := HC1.out; have hc2 := HC2.out; clear k0 k1 k3 k4 k5 k6 k7 k8 k9; have e1 := HB1.out.at_ (i := 1) rfl; have e2 := HB1.out.at_ (i := 2) rfl; have e3 := HB1.out.at_ (i := 3) rfl; have e4 := HB1.out.at_ (i := 4) rfl; have e5 := HB1.out.at_ (i := 5) rfl; have e6 := HB1.out.at_ (i := 6) rfl; have e7 := HB1.out.at_ (i := 7) rfl; have e8 := HB1.out.at_ (i := 8) rfl; have hnb : (name == ([] : List UInt8)) = nb := HNB.out; have hhb : (Op.equalIn 10000 46 (.agg #[.bool h0, .bool h1, .bool h2]) (.agg #[.bool false, .bool false, .bool false])).run Tryz.prog w1 = .ok hb w1 := by rw [<- HHB.out]; exact aCe h0 h1 h2 _
 have hsb : (Op.equalIn 10000 47 (.agg #[.int .i64 s0, .int .i64 s1, .int .i64 s2]) (.agg #[.int .i64 0, .int .i64 0, .int .i64 0])).run Tryz.prog w1 = .ok sb w1 := by rw [<- HSB.out]; exact aCf s0 s1 s2 _
 cases fz with
 | false =>
  go_wp2_with fail; exact HQ.out _ _ ⟨rfl, HF1.out⟩
 | true =>
  cases b1 with
  | false =>
   go_wp2_with fail; exact HQ.out _ _ ⟨rfl, HF1.out⟩
  | true =>
   cases b2 with
   | false =>
    go_wp2_with fail; exact HQ.out _ _ ⟨rfl, HF1.out⟩
   | true =>
    cases nb with
    | false =>
     go_wp2_with fail; exact HQ.out _ _ ⟨rfl, HF1.out⟩
    | true =>
     cases hb with
     | false =>
      go_wp2_with fail; exact HQ.out _ _ ⟨rfl, HF1.out⟩
     | true =>
      cases sb with
      | false =>
       go_wp2_with fail; exact HQ.out _ _ ⟨rfl, HF1.out⟩
      | true =>
       go_wp2_with fail; exact HQ.out _ _ ⟨rfl, HF1.out⟩
theorem sshg4 {d : Int} {A : Option Addr} {c : Nat} {name : List UInt8} {at_ : Int} {h0 h1 h2 : Bool} {s0 s1 s2 : Int} {f : List Xpr} :
  RV 64 #[.agg ([.int .i64 4, .string ⟨name.toArray⟩, .int .i64 at_, .bool h0, .bool h1, .bool h2, .int .i64 s0, .int .i64 s1, .int .i64 s2, .slice A f.length c] : List Value).toArray, .int .i64 d] w (.bool ((Slr.mk 4 name at_ (h0, h1, h2) (s0, s1, s2) f).shaped d)) := by
 refine cA fun R HQ => ?_; obtain ⟨fz, hfz⟩ : ∃ fz, f.isEmpty = fz := ⟨_, rfl⟩; obtain ⟨nb, h_nb⟩ : ∃ nb, name.isEmpty = nb := ⟨_, rfl⟩; obtain ⟨ab, h_ab⟩ : ∃ ab, decide (at_ = 0) = ab := ⟨_, rfl⟩; obtain ⟨x0, hx0⟩ : ∃ x, decide (s0 <= 9007199254740991) = x := ⟨_, rfl⟩; obtain ⟨y0, hy0⟩ : ∃ x, decide (s0 ≥ -9007199254740991) = x := ⟨_, rfl⟩; obtain ⟨z0, hz0⟩ : ∃ x, decide (s0 = 0) = x := ⟨_, rfl⟩; have hk0 : lG s0 = (x0 && y0) := by rw [<- hx0, <- hy0, Bool.and_comm, <- Bool.decide_and]; rfl
 obtain ⟨x1, hx1⟩ : ∃ x, decide (s1 <= 9007199254740991) = x := ⟨_, rfl⟩; obtain ⟨y1, hy1⟩ : ∃ x, decide (s1 ≥ -9007199254740991) = x := ⟨_, rfl⟩; obtain ⟨z1, hz1⟩ : ∃ x, decide (s1 = 0) = x := ⟨_, rfl⟩; have hk1 : lG s1 = (x1 && y1) := by rw [<- hx1, <- hy1, Bool.and_comm, <- Bool.decide_and]; rfl
 obtain ⟨x2, hx2⟩ : ∃ x, decide (s2 <= 9007199254740991) = x := ⟨_, rfl⟩; obtain ⟨y2, hy2⟩ : ∃ x, decide (s2 ≥ -9007199254740991) = x := ⟨_, rfl⟩; obtain ⟨z2, hz2⟩ : ∃ x, decide (s2 = 0) = x := ⟨_, rfl⟩; have hk2 : lG s2 = (x2 && y2) := by rw [<- hx2, <- hy2, Bool.and_comm, <- Bool.decide_and]; rfl
 obtain ⟨g0, hg0⟩ : ∃ g, ((x0 && y0) && (h0 || z0)) = g := ⟨_, rfl⟩; obtain ⟨g1, hg1⟩ : ∃ g, ((x1 && y1) && (h1 || z1)) = g := ⟨_, rfl⟩; obtain ⟨g2, hg2⟩ : ∃ g, ((x2 && y2) && (h2 || z2)) = g := ⟨_, rfl⟩
 have hE : (Slr.mk 4 name at_ (h0, h1, h2) (s0, s1, s2) f).shaped d = (vX fz g0 g1 g2 3 && nb && ab) := by
  simp only [Slr.shaped]; rw [show (if (4 : Int) = 5 then decide (f.length = 1) && wB (d + 1) (fun _ => 0) f else f.isEmpty) = f.isEmpty from rfl, hfz, h_nb, h_ab, hk0, hk1, hk2, hz0, hz1, hz2, hg0, hg1, hg2]
  cases fz <;> cases nb <;> cases ab <;> cases g0 <;> cases g1 <;> cases g2 <;> rfl
 rw [hE] at HQ; have HX0 := lh hx0; have HY0 := lh hy0; have HZ0 : Hid ((s0 == 0) = z0) := lh (by rw [<- hz0, Bool.eq_iff_iff]; simp); have HG0 := lh hg0; have HX1 := lh hx1; have HY1 := lh hy1; have HZ1 : Hid ((s1 == 0) = z1) := lh (by rw [<- hz1, Bool.eq_iff_iff]; simp); have HG1 := lh hg1; have HX2 := lh hx2; have HY2 := lh hy2; have HZ2 : Hid ((s2 == 0) = z2) := lh (by rw [<- hz2, Bool.eq_iff_iff]; simp); have HG2 := lh hg2; have hlz : (((f.length : Nat) : Int) == 0) = fz := by rw [<- hfz]; cases f <;> simp; omega
 have HNB : Hid ((name == ([] : List UInt8)) = nb) := lh (by rw [<- h_nb]; cases name <;> rfl); have HAB : Hid ((at_ == 0) = ab) := lh (by rw [<- h_ab, Bool.eq_iff_iff]; simp); obtain ⟨ln, hln⟩ : ∃ ln, f.length = ln := ⟨_, rfl⟩; rw [hln] at hlz ⊢; clear hln hfz h_nb h_ab hE hx0 hy0 hz0 hk0 hg0 hx1 hy1 hz1 hk1 hg1 hx2 hy2 hz2 hk2 hg2; obtain ⟨cs, hcs⟩ : ∃ cs : List Value, [.int .i64 4, .string ⟨name.toArray⟩, .int .i64 at_, .bool h0, .bool h1, .bool h2, .int .i64 s0, .int .i64 s1, .int .i64 s2, .slice A ln c] = cs := ⟨_, rfl⟩; rw [hcs]
 go_enter Tryz.func64, Tryz.ntmps64
 go_wp2_with (with_reducible refine kA rfl 50 (.tmp 0) rfl cs rfl ?_)
 intro w0 hb0 hf0 hz0; subst hcs; have c0 := hb0.at_ (i := 0) rfl; have c1 := hb0.at_ (i := 1) rfl; have c2 := hb0.at_ (i := 2) rfl; have c3 := hb0.at_ (i := 3) rfl; have c4 := hb0.at_ (i := 4) rfl; have c5 := hb0.at_ (i := 5) rfl; have c6 := hb0.at_ (i := 6) rfl; have c7 := hb0.at_ (i := 7) rfl; have c8 := hb0.at_ (i := 8) rfl; have c9 := hb0.at_ (i := 9) rfl; have HF0 := lh hf0; clear hb0 hf0; go_upto_region 15 with fail
 have hfa : Fr [] w0 (w0.alloc (.cells ([.int .i64 0, .string ⟨name.toArray⟩, .int .i64 at_, .bool false, .bool false, .bool false, .int .i64 0, .int .i64 0, .int .i64 0, .slice none 0 0] : List Value).toArray 50)) := (Fr.refl [] w0).alloc _; have hb1 := Blk.new w0 50 [.int .i64 0, .string ⟨name.toArray⟩, .int .i64 at_, .bool false, .bool false, .bool false, .int .i64 0, .int .i64 0, .int .i64 0, .slice none 0 0]; simp only [List.toArray] at hfa hb1; generalize w0.alloc (.cells _ 50) = w1 at *; rw [hz0] at hb1; have k0 := bA hfa c0; have k1 := bA hfa c1; have k2 := bA hfa c2; have k3 := bA hfa c3; have k4 := bA hfa c4; have k5 := bA hfa c5; have k6 := bA hfa c6; have k7 := bA hfa c7; have k8 := bA hfa c8; have k9 := bA hfa c9; have HF1 := lh (HF0.out.trans hfa); have HB1 := lh hb1; clear c0 c1 c2 c3 c4 c5 c6 c7 c8 c9 hfa hb1; clear k0 k1 k2 k9; go_wp2_with fail; clear k6 k7 k8
 go_loopg [6, 53] 3 (fun j v6 v53 wr => ∃ k : Nat, k + j = 3 /\ v6 = .bool (vX fz g0 g1 g2 k) /\ v53 = .int .i64 (k : Int) /\ w1 = wr)
 case atStart => exact ⟨0, rfl, rfl, rfl, rfl⟩
 case round =>
  obtain ⟨k, hk, rfl, rfl, rfl⟩ := hrel
  match k, hk with
  | 0, hk =>
   have hix : (Instr.index 47 (.agg #[.int .i64 s0, .int .i64 s1, .int .i64 s2]) (.int .i64 0)).run Tryz.prog w1 = .ok (.int .i64 s0) w1 := by kernel_rfl
   have hx := HX0.out; have hy := HY0.out; have hz := HZ0.out; obtain ⟨ac, hac⟩ : ∃ ac, vX fz g0 g1 g2 0 = ac := ⟨_, rfl⟩; have HN : Hid (vX fz g0 g1 g2 (0 + 1) = (ac && ((x0 && y0) && (h0 || z0)))) := lh (by rw [HG0.out, <- hac]; cases fz <;> cases g0 <;> cases g1 <;> cases g2 <;> rfl); rw [hac]; clear hac
   cases ac with
   | false =>
    go_wp2_with fail
    go_roundg (3 - (0 + 1))
    case measure => omega
    case rel => exact ⟨0 + 1, by omega, by rw [HN.out]; rfl, by go_num, rfl⟩
   | true =>
    cases x0 with
    | false =>
     go_wp2_with fail
     go_roundg (3 - (0 + 1))
     case measure => omega
     case rel => exact ⟨0 + 1, by omega, by rw [HN.out]; rfl, by go_num, rfl⟩
    | true =>
     cases y0 with
     | false =>
      go_wp2_with fail
      go_roundg (3 - (0 + 1))
      case measure => omega
      case rel => exact ⟨0 + 1, by omega, by rw [HN.out]; rfl, by go_num, rfl⟩
     | true =>
      cases h0 with
      | true =>
       go_wp2_with fail
       go_roundg (3 - (0 + 1))
       case measure => omega
       case rel => exact ⟨0 + 1, by omega, by rw [HN.out]; rfl, by go_num, rfl⟩
      | false =>
       go_wp2_with fail
       go_roundg (3 - (0 + 1))
       case measure => omega
       case rel => exact ⟨0 + 1, by omega, by rw [HN.out]; rfl, by go_num, rfl⟩
  | 1, hk =>
   have hix : (Instr.index 47 (.agg #[.int .i64 s0, .int .i64 s1, .int .i64 s2]) (.int .i64 1)).run Tryz.prog w1 = .ok (.int .i64 s1) w1 := by kernel_rfl
   have hx := HX1.out; have hy := HY1.out; have hz := HZ1.out; obtain ⟨ac, hac⟩ : ∃ ac, vX fz g0 g1 g2 1 = ac := ⟨_, rfl⟩; have HN : Hid (vX fz g0 g1 g2 (1 + 1) = (ac && ((x1 && y1) && (h1 || z1)))) := lh (by rw [HG1.out, <- hac]; cases fz <;> cases g0 <;> cases g1 <;> cases g2 <;> rfl); rw [hac]; clear hac
   cases ac with
   | false =>
    go_wp2_with fail
    go_roundg (3 - (1 + 1))
    case measure => omega
    case rel => exact ⟨1 + 1, by omega, by rw [HN.out]; rfl, by go_num, rfl⟩
   | true =>
    cases x1 with
    | false =>
     go_wp2_with fail
     go_roundg (3 - (1 + 1))
     case measure => omega
     case rel => exact ⟨1 + 1, by omega, by rw [HN.out]; rfl, by go_num, rfl⟩
    | true =>
     cases y1 with
     | false =>
      go_wp2_with fail
      go_roundg (3 - (1 + 1))
      case measure => omega
      case rel => exact ⟨1 + 1, by omega, by rw [HN.out]; rfl, by go_num, rfl⟩
     | true =>
      cases h1 with
      | true =>
       go_wp2_with fail
       go_roundg (3 - (1 + 1))
       case measure => omega
       case rel => exact ⟨1 + 1, by omega, by rw [HN.out]; rfl, by go_num, rfl⟩
      | false =>
       go_wp2_with fail
       go_roundg (3 - (1 + 1))
       case measure => omega
       case rel => exact ⟨1 + 1, by omega, by rw [HN.out]; rfl, by go_num, rfl⟩
  | 2, hk =>
   have hix : (Instr.index 47 (.agg #[.int .i64 s0, .int .i64 s1, .int .i64 s2]) (.int .i64 2)).run Tryz.prog w1 = .ok (.int .i64 s2) w1 := by kernel_rfl
   have hx := HX2.out; have hy := HY2.out; have hz := HZ2.out; obtain ⟨ac, hac⟩ : ∃ ac, vX fz g0 g1 g2 2 = ac := ⟨_, rfl⟩; have HN : Hid (vX fz g0 g1 g2 (2 + 1) = (ac && ((x2 && y2) && (h2 || z2)))) := lh (by rw [HG2.out, <- hac]; cases fz <;> cases g0 <;> cases g1 <;> cases g2 <;> rfl); rw [hac]; clear hac
   cases ac with
   | false =>
    go_wp2_with fail
    go_roundg (3 - (2 + 1))
    case measure => omega
    case rel => exact ⟨2 + 1, by omega, by rw [HN.out]; rfl, by go_num, rfl⟩
   | true =>
    cases x2 with
    | false =>
     go_wp2_with fail
     go_roundg (3 - (2 + 1))
     case measure => omega
     case rel => exact ⟨2 + 1, by omega, by rw [HN.out]; rfl, by go_num, rfl⟩
    | true =>
     cases y2 with
     | false =>
      go_wp2_with fail
      go_roundg (3 - (2 + 1))
      case measure => omega
      case rel => exact ⟨2 + 1, by omega, by rw [HN.out]; rfl, by go_num, rfl⟩
     | true =>
      cases h2 with
      | true =>
       go_wp2_with fail
       go_roundg (3 - (2 + 1))
       case measure => omega
       case rel => exact ⟨2 + 1, by omega, by rw [HN.out]; rfl, by go_num, rfl⟩
      | false =>
       go_wp2_with fail
       go_roundg (3 - (2 + 1))
       case measure => omega
       case rel => exact ⟨2 + 1, by omega, by rw [HN.out]; rfl, by go_num, rfl⟩
  | 3, hk =>
   obtain ⟨ac, hac⟩ : ∃ ac, vX fz g0 g1 g2 3 = ac := ⟨_, rfl⟩; rw [hac] at HQ ⊢; clear hac; have e1 := HB1.out.at_ (i := 1) rfl; have e2 := HB1.out.at_ (i := 2) rfl; have e3 := HB1.out.at_ (i := 3) rfl; have e4 := HB1.out.at_ (i := 4) rfl; have e5 := HB1.out.at_ (i := 5) rfl; have e6 := HB1.out.at_ (i := 6) rfl; have e7 := HB1.out.at_ (i := 7) rfl; have e8 := HB1.out.at_ (i := 8) rfl; have hnb : (name == ([] : List UInt8)) = nb := HNB.out; have hab : (at_ == 0) = ab := HAB.out; have q1 := fW w1; have q2 := gW w1
   cases ac with
   | false =>
    go_wp2_with fail; exact HQ.out _ _ ⟨rfl, HF1.out⟩
   | true =>
    cases nb with
    | false =>
     go_wp2_with fail; exact HQ.out _ _ ⟨rfl, HF1.out⟩
    | true =>
     cases ab with
     | false =>
      go_wp2_with fail; exact HQ.out _ _ ⟨rfl, HF1.out⟩
     | true =>
      go_wp2_with fail; exact HQ.out _ _ ⟨rfl, HF1.out⟩
  | k + 4, hk => omega
theorem sshg5 {d : Int} {A : Option Addr} {c : Nat} {name : List UInt8} {at_ : Int} {h0 h1 h2 : Bool} {s0 s1 s2 : Int} {f : List Xpr} (hcf : CAt w N (.rows 13 (f.map Xpr.cells)) (.slice A f.length c)) (hd1 : -1 <= d) (hd2 : d <= 100) (hX : ∀ y ∈ f, SgX y (d + 1)) :
  RV 64 #[.agg ([.int .i64 5, .string ⟨name.toArray⟩, .int .i64 at_, .bool h0, .bool h1, .bool h2, .int .i64 s0, .int .i64 s1, .int .i64 s2, .slice A f.length c] : List Value).toArray, .int .i64 d] w (.bool ((Slr.mk 5 name at_ (h0, h1, h2) (s0, s1, s2) f).shaped d)) := by
 refine cA fun R HQ => ?_; obtain ⟨fz, hfz⟩ : ∃ fz, f.isEmpty = fz := ⟨_, rfl⟩; obtain ⟨nb, h_nb⟩ : ∃ nb, name.isEmpty = nb := ⟨_, rfl⟩; obtain ⟨ab, h_ab⟩ : ∃ ab, decide (at_ = 0) = ab := ⟨_, rfl⟩; obtain ⟨hb, h_hb⟩ : ∃ hb, decide (((h0, h1, h2) : Bool × Bool × Bool) = (false, false, false)) = hb := ⟨_, rfl⟩; obtain ⟨sb, h_sb⟩ : ∃ sb, decide (((s0, s1, s2) : Int × Int × Int) = (0, 0, 0)) = sb := ⟨_, rfl⟩; obtain ⟨ok, hok⟩ : ∃ ok, (decide (f.length = 1) && wB (d + 1) (fun _ => 0) f) = ok := ⟨_, rfl⟩
 have hE : (Slr.mk 5 name at_ (h0, h1, h2) (s0, s1, s2) f).shaped d = (ok && nb && ab && hb && sb) := by
  simp only [Slr.shaped]; rw [if_pos trivial, hok, h_nb, h_ab, h_hb, h_sb]
  cases ok <;> cases nb <;> cases ab <;> cases hb <;> cases sb <;> rfl
 rw [hE] at HQ; have HOK := lh hok; have HWR : Hid (IntKind.i64.wrap (d + 1) = d + 1) := lh (by rw [IntKind.wrap_i64]; omega); have HCF := lh hcf; have HXX := lh hX; have HLN : Hid (∀ ln, f.length = ln -> ln = f.length) := lh fun _ h => h.symm; clear hcf hX hd1 hd2; clear hok hE; have HNB : Hid ((name == ([] : List UInt8)) = nb) := lh (by rw [<- h_nb]; cases name <;> rfl); have HAB : Hid ((at_ == 0) = ab) := lh (by rw [<- h_ab, Bool.eq_iff_iff]; simp); have HHB := lh h_hb; have HSB := lh h_sb; clear hfz h_nb h_ab h_hb h_sb HLN
 match f, HCF, HXX, HOK with
 | [], HCF, HXX, HOK =>
  obtain rfl : false = ok := HOK.out; simp only [List.length_nil]; obtain ⟨cs, hcs⟩ : ∃ cs : List Value, [.int .i64 5, .string ⟨name.toArray⟩, .int .i64 at_, .bool h0, .bool h1, .bool h2, .int .i64 s0, .int .i64 s1, .int .i64 s2, .slice A 0 c] = cs := ⟨_, rfl⟩; rw [hcs]
  go_enter Tryz.func64, Tryz.ntmps64
  go_wp2_with (with_reducible refine kA rfl 50 (.tmp 0) rfl cs rfl ?_)
  intro w0 hb0 hf0 hz0; subst hcs; have c0 := hb0.at_ (i := 0) rfl; have c1 := hb0.at_ (i := 1) rfl; have c2 := hb0.at_ (i := 2) rfl; have c3 := hb0.at_ (i := 3) rfl; have c4 := hb0.at_ (i := 4) rfl; have c5 := hb0.at_ (i := 5) rfl; have c6 := hb0.at_ (i := 6) rfl; have c7 := hb0.at_ (i := 7) rfl; have c8 := hb0.at_ (i := 8) rfl; have c9 := hb0.at_ (i := 9) rfl; have HF0 := lh hf0; clear hb0 hf0; go_upto_region 21 with fail
  have hfa : Fr [] w0 (w0.alloc (.cells ([.int .i64 0, .string ⟨name.toArray⟩, .int .i64 at_, .bool h0, .bool h1, .bool h2, .int .i64 s0, .int .i64 s1, .int .i64 s2, .slice none 0 0] : List Value).toArray 50)) := (Fr.refl [] w0).alloc _; have hb1 := Blk.new w0 50 [.int .i64 0, .string ⟨name.toArray⟩, .int .i64 at_, .bool h0, .bool h1, .bool h2, .int .i64 s0, .int .i64 s1, .int .i64 s2, .slice none 0 0]; simp only [List.toArray] at hfa hb1; generalize w0.alloc (.cells _ 50) = w1 at *; rw [hz0] at hb1; have k0 := bA hfa c0; have k1 := bA hfa c1; have k2 := bA hfa c2; have k3 := bA hfa c3; have k4 := bA hfa c4; have k5 := bA hfa c5; have k6 := bA hfa c6; have k7 := bA hfa c7; have k8 := bA hfa c8; have k9 := bA hfa c9; have HF1 := lh (HF0.out.trans hfa); have HB1 := lh hb1; clear c0 c1 c2 c3 c4 c5 c6 c7 c8 c9 hfa hb1; have e1 := HB1.out.at_ (i := 1) rfl; have e2 := HB1.out.at_ (i := 2) rfl; have e3 := HB1.out.at_ (i := 3) rfl; have e4 := HB1.out.at_ (i := 4) rfl; have e5 := HB1.out.at_ (i := 5) rfl; have e6 := HB1.out.at_ (i := 6) rfl; have e7 := HB1.out.at_ (i := 7) rfl; have e8 := HB1.out.at_ (i := 8) rfl; go_wp2_with fail; exact HQ.out _ _ ⟨rfl, HF1.out⟩
 | y :: z :: l, HCF, HXX, HOK =>
  obtain rfl : false = ok := by rw [<- HOK.out]; simp
  have hl1 : (((l.length + 1 + 1 : Nat) : Int) == 1) = false := by rw [beq_eq_false_iff_ne]; omega
  have hl0 : (((l.length + 1 + 1 : Nat) : Int) == 0) = false := by rw [beq_eq_false_iff_ne]; omega
  simp only [List.length_cons]; obtain ⟨ln, hln⟩ : ∃ ln, l.length + 1 + 1 = ln := ⟨_, rfl⟩; rw [hln] at hl1 hl0 ⊢; clear hln; obtain ⟨cs, hcs⟩ : ∃ cs : List Value, [.int .i64 5, .string ⟨name.toArray⟩, .int .i64 at_, .bool h0, .bool h1, .bool h2, .int .i64 s0, .int .i64 s1, .int .i64 s2, .slice A ln c] = cs := ⟨_, rfl⟩; rw [hcs]
  go_enter Tryz.func64, Tryz.ntmps64
  go_wp2_with (with_reducible refine kA rfl 50 (.tmp 0) rfl cs rfl ?_)
  intro w0 hb0 hf0 hz0; subst hcs; have c0 := hb0.at_ (i := 0) rfl; have c1 := hb0.at_ (i := 1) rfl; have c2 := hb0.at_ (i := 2) rfl; have c3 := hb0.at_ (i := 3) rfl; have c4 := hb0.at_ (i := 4) rfl; have c5 := hb0.at_ (i := 5) rfl; have c6 := hb0.at_ (i := 6) rfl; have c7 := hb0.at_ (i := 7) rfl; have c8 := hb0.at_ (i := 8) rfl; have c9 := hb0.at_ (i := 9) rfl; have HF0 := lh hf0; clear hb0 hf0; go_upto_region 21 with fail
  have hfa : Fr [] w0 (w0.alloc (.cells ([.int .i64 0, .string ⟨name.toArray⟩, .int .i64 at_, .bool h0, .bool h1, .bool h2, .int .i64 s0, .int .i64 s1, .int .i64 s2, .slice none 0 0] : List Value).toArray 50)) := (Fr.refl [] w0).alloc _; have hb1 := Blk.new w0 50 [.int .i64 0, .string ⟨name.toArray⟩, .int .i64 at_, .bool h0, .bool h1, .bool h2, .int .i64 s0, .int .i64 s1, .int .i64 s2, .slice none 0 0]; simp only [List.toArray] at hfa hb1; generalize w0.alloc (.cells _ 50) = w1 at *; rw [hz0] at hb1; have k0 := bA hfa c0; have k1 := bA hfa c1; have k2 := bA hfa c2; have k3 := bA hfa c3; have k4 := bA hfa c4; have k5 := bA hfa c5; have k6 := bA hfa c6; have k7 := bA hfa c7; have k8 := bA hfa c8; have k9 := bA hfa c9; have HF1 := lh (HF0.out.trans hfa); have HB1 := lh hb1; clear c0 c1 c2 c3 c4 c5 c6 c7 c8 c9 hfa hb1; have e1 := HB1.out.at_ (i := 1) rfl; have e2 := HB1.out.at_ (i := 2) rfl; have e3 := HB1.out.at_ (i := 3) rfl; have e4 := HB1.out.at_ (i := 4) rfl; have e5 := HB1.out.at_ (i := 5) rfl; have e6 := HB1.out.at_ (i := 6) rfl; have e7 := HB1.out.at_ (i := 7) rfl; have e8 := HB1.out.at_ (i := 8) rfl; go_wp2_with fail; exact HQ.out _ _ ⟨rfl, HF1.out⟩
 | [y], HCF, HXX, HOK =>
  have hxo : y.shaped (d + 1) = ok := by rw [<- HOK.out]; simp [wB]
  obtain ⟨A', c', g, off, hv, hA, hrow⟩ := HCF.out.row; injection hv with e1 e2 e3; subst e1 e3; obtain ⟨rfl, hNg⟩ := hA (by simp); obtain ⟨_, ds, hds, hcell⟩ := hrow 0 y.cells rfl; have hcl : ds.length = 13 := hds.1.trans (lA y); have hc1 : (Tryz.prog.info? 109).map (·.size) = some ds.length := by rw [hcl]; exact nB
  have HCELL := lh hcell; have HDS := lh hds; have HC1 := lh hc1; have HEE := lh (HXX.out y (List.mem_singleton_self y)); have HXO := lh hxo; clear hrow hA hds hcell hcl hc1 hxo e2 HOK HXX; simp only [List.length_cons, List.length_nil, Nat.zero_add]; obtain ⟨cs, hcs⟩ : ∃ cs : List Value, [.int .i64 5, .string ⟨name.toArray⟩, .int .i64 at_, .bool h0, .bool h1, .bool h2, .int .i64 s0, .int .i64 s1, .int .i64 s2, .slice (some ⟨g, off, none⟩) 1 c] = cs := ⟨_, rfl⟩; rw [hcs]
  go_enter Tryz.func64, Tryz.ntmps64
  go_wp2_with (with_reducible refine kA rfl 50 (.tmp 0) rfl cs rfl ?_)
  intro w0 hb0 hf0 hz0; subst hcs; have c0 := hb0.at_ (i := 0) rfl; have c1 := hb0.at_ (i := 1) rfl; have c2 := hb0.at_ (i := 2) rfl; have c3 := hb0.at_ (i := 3) rfl; have c4 := hb0.at_ (i := 4) rfl; have c5 := hb0.at_ (i := 5) rfl; have c6 := hb0.at_ (i := 6) rfl; have c7 := hb0.at_ (i := 7) rfl; have c8 := hb0.at_ (i := 8) rfl; have c9 := hb0.at_ (i := 9) rfl; have HF0 := lh hf0; clear hb0 hf0; go_upto_region 21 with fail
  have hfa : Fr [] w0 (w0.alloc (.cells ([.int .i64 0, .string ⟨name.toArray⟩, .int .i64 at_, .bool h0, .bool h1, .bool h2, .int .i64 s0, .int .i64 s1, .int .i64 s2, .slice none 0 0] : List Value).toArray 50)) := (Fr.refl [] w0).alloc _; have hb1 := Blk.new w0 50 [.int .i64 0, .string ⟨name.toArray⟩, .int .i64 at_, .bool h0, .bool h1, .bool h2, .int .i64 s0, .int .i64 s1, .int .i64 s2, .slice none 0 0]; simp only [List.toArray] at hfa hb1; generalize w0.alloc (.cells _ 50) = w1 at *; rw [hz0] at hb1; have k0 := bA hfa c0; have k1 := bA hfa c1; have k2 := bA hfa c2; have k3 := bA hfa c3; have k4 := bA hfa c4; have k5 := bA hfa c5; have k6 := bA hfa c6; have k7 := bA hfa c7; have k8 := bA hfa c8; have k9 := bA hfa c9; have HF1 := lh (HF0.out.trans hfa); have HB1 := lh hb1; clear c0 c1 c2 c3 c4 c5 c6 c7 c8 c9 hfa hb1
  have hra : w1.rangeAt g off ds := fun j u hj => by
   have := HCELL.out j u hj; rw [show off + 13 * 0 + j = off + j by omega] at this; rw [HF1.out.cell (World.block_lt_of_cell? w _ this) (by simp)]; exact this
  have HRA := lh hra; have HC := lh (HEE.out w1 N ds (HDS.out.fr HF1.out)); rw [HXO.out] at HC; have hwr := HWR.out; clear hra k0 k1 k2 k3 k4 k5 k6 k7 k8
  go_wp2_with (refine jE (by kernel_rfl) 109 (.tmp 86) rfl g off rfl ds _ HRA.out Tryz.underlying109 rfl HC1.out ?_)
  refine HC.out.mono ?_; rintro e w2 ⟨rfl, hf2⟩; have HF2 := lh (HF1.out.trans hf2); have HB2 := lh (HB1.out.fr hf2); clear hf2 hwr HC; have e1 := HB2.out.at_ (i := 1) rfl; have e2 := HB2.out.at_ (i := 2) rfl; have e3 := HB2.out.at_ (i := 3) rfl; have e4 := HB2.out.at_ (i := 4) rfl; have e5 := HB2.out.at_ (i := 5) rfl; have e6 := HB2.out.at_ (i := 6) rfl; have e7 := HB2.out.at_ (i := 7) rfl; have e8 := HB2.out.at_ (i := 8) rfl; have hnb : (name == ([] : List UInt8)) = nb := HNB.out; have hab : (at_ == 0) = ab := HAB.out; have hhb : (Op.equalIn 10000 46 (.agg #[.bool h0, .bool h1, .bool h2]) (.agg #[.bool false, .bool false, .bool false])).run Tryz.prog w2 = .ok hb w2 := by rw [<- HHB.out]; exact aCe h0 h1 h2 _
  have hsb : (Op.equalIn 10000 47 (.agg #[.int .i64 s0, .int .i64 s1, .int .i64 s2]) (.agg #[.int .i64 0, .int .i64 0, .int .i64 0])).run Tryz.prog w2 = .ok sb w2 := by rw [<- HSB.out]; exact aCf s0 s1 s2 _
  cases ok with
  | false =>
   go_wp2_with fail; exact HQ.out _ _ ⟨rfl, HF2.out⟩
  | true =>
   cases nb with
   | false =>
    go_wp2_with fail; exact HQ.out _ _ ⟨rfl, HF2.out⟩
   | true =>
    cases ab with
    | false =>
     go_wp2_with fail; exact HQ.out _ _ ⟨rfl, HF2.out⟩
    | true =>
     cases hb with
     | false =>
      go_wp2_with fail; exact HQ.out _ _ ⟨rfl, HF2.out⟩
     | true =>
      cases sb with
      | false =>
       go_wp2_with fail; exact HQ.out _ _ ⟨rfl, HF2.out⟩
      | true =>
       go_wp2_with fail; exact HQ.out _ _ ⟨rfl, HF2.out⟩
theorem sshg0 {d what : Int} {A : Option Addr} {c : Nat} {name : List UInt8} {at_ : Int} {h0 h1 h2 : Bool} {s0 s1 s2 : Int} {f : List Xpr} (hw : ¬ (1 <= what /\ what <= 5)) :
  RV 64 #[.agg ([.int .i64 what, .string ⟨name.toArray⟩, .int .i64 at_, .bool h0, .bool h1, .bool h2, .int .i64 s0, .int .i64 s1, .int .i64 s2, .slice A f.length c] : List Value).toArray, .int .i64 d] w (.bool ((Slr.mk what name at_ (h0, h1, h2) (s0, s1, s2) f).shaped d)) := by
 refine cA fun R HQ => ?_
 have hE : (Slr.mk what name at_ (h0, h1, h2) (s0, s1, s2) f).shaped d = false := by
  simp only [Slr.shaped]; rw [show decide (1 <= what /\ what <= 5) = false by simpa using hw]
  rfl
 rw [hE] at HQ; obtain ⟨ln, hln⟩ : ∃ ln, f.length = ln := ⟨_, rfl⟩; rw [hln]; have n1 : (what == 1) = false := bF (by omega)
 have n2 : (what == 2) = false := bF (by omega)
 have n3 : (what == 3) = false := bF (by omega)
 have n4 : (what == 4) = false := bF (by omega)
 have n5 : (what == 5) = false := bF (by omega)
 clear hln hE hw; obtain ⟨cs, hcs⟩ : ∃ cs : List Value, [.int .i64 what, .string ⟨name.toArray⟩, .int .i64 at_, .bool h0, .bool h1, .bool h2, .int .i64 s0, .int .i64 s1, .int .i64 s2, .slice A ln c] = cs := ⟨_, rfl⟩; rw [hcs]
 go_enter Tryz.func64, Tryz.ntmps64
 go_wp2_with (with_reducible refine kA rfl 50 (.tmp 0) rfl cs rfl ?_)
 intro w0 hb0 hf0 hz0; subst hcs; have c0 := hb0.at_ (i := 0) rfl; have c1 := hb0.at_ (i := 1) rfl; have c2 := hb0.at_ (i := 2) rfl; have c3 := hb0.at_ (i := 3) rfl; have c4 := hb0.at_ (i := 4) rfl; have c5 := hb0.at_ (i := 5) rfl; have c6 := hb0.at_ (i := 6) rfl; have c7 := hb0.at_ (i := 7) rfl; have c8 := hb0.at_ (i := 8) rfl; have c9 := hb0.at_ (i := 9) rfl; have HF0 := lh hf0; clear hb0 hf0; go_upto_region 4 with fail
 have hfa : Fr [] w0 (w0.alloc (.cells ([.int .i64 0, .string ⟨name.toArray⟩, .int .i64 at_, .bool h0, .bool h1, .bool h2, .int .i64 s0, .int .i64 s1, .int .i64 s2, .slice none 0 0] : List Value).toArray 50)) := (Fr.refl [] w0).alloc _; have hb1 := Blk.new w0 50 [.int .i64 0, .string ⟨name.toArray⟩, .int .i64 at_, .bool h0, .bool h1, .bool h2, .int .i64 s0, .int .i64 s1, .int .i64 s2, .slice none 0 0]; simp only [List.toArray] at hfa hb1; generalize w0.alloc (.cells _ 50) = w1 at *; rw [hz0] at hb1; have k0 := bA hfa c0; have k1 := bA hfa c1; have k2 := bA hfa c2; have k3 := bA hfa c3; have k4 := bA hfa c4; have k5 := bA hfa c5; have k6 := bA hfa c6; have k7 := bA hfa c7; have k8 := bA hfa c8; have k9 := bA hfa c9; have HF1 := lh (HF0.out.trans hfa); have HB1 := lh hb1; clear c0 c1 c2 c3 c4 c5 c6 c7 c8 c9 hfa hb1; go_wp2_with fail; exact HQ.out _ _ ⟨rfl, HF1.out⟩
theorem aAl {x : Slr} {d : Int} (h : fA w N x.cells cs) (hsz : x.name.length <= 1000000) (hd1 : -1 <= d) (hd2 : d <= 100) (hX : ∀ y ∈ x.f, SgX y (d + 1)) :
  RV 64 #[.agg cs.toArray, .int .i64 d] w (.bool (x.shaped d)) := by
 obtain ⟨A, c, rfl, hcf⟩ := fG h; obtain ⟨what, name, at_, ⟨a0, a1, a2⟩, ⟨s0, s1, s2⟩, f⟩ := x; simp only [Slr.what, Slr.name, Slr.at_, Slr.has, Slr.s, Slr.f] at hcf hsz hX ⊢
 by_cases h1 : what = 1
 ·subst h1; exact sshg1 hsz
 by_cases h2 : what = 2
 ·subst h2; exact sshg2
 by_cases h3 : what = 3
 ·subst h3; exact sshg3
 by_cases h4 : what = 4
 ·subst h4; exact sshg4
 by_cases h5 : what = 5
 ·subst h5; exact sshg5 hcf hd1 hd2 hX
 exact sshg0 (by omega)
end
def SgS (x : Slr) (d : Int) : Prop := ∀ (w : World) (N : Nat -> Prop) (cs : List Value), fA w N x.cells cs -> RV 64 #[.agg cs.toArray, .int .i64 d] w (.bool (x.shaped d))
theorem Sgm.shaped_any (x : Sgm) (d : Int) : (!(x.shaped d)) = (x.l.isEmpty || x.l.any fun y => !(y.shaped d)) := by
 obtain ⟨dp, l⟩ := x; simp only [Sgm.shaped, zJ, Sgm.l]; rw [Bool.not_and, Bool.not_not, List.not_all_eq_any_not]
theorem Qry.shaped_all (q : Qry) (d : Int) : q.shaped d = !(q.l.any fun y => !(y.shaped d)) := by
 obtain ⟨rel, l⟩ := q; simp only [Qry.shaped, yJ, Qry.l]; rw [List.not_any_eq_all_not]
 simp
section
variable {w : World} {N : Nat -> Prop} {cs : List Value}
theorem aFX {x : Slr} {d : Int} {b : Nat} (h : fA w N x.cells cs) (hb : w.cell? ⟨b, 0, none⟩ = some (.int .i64 d)) (hS : SgS x d) :
  RV 63 #[.agg cs.toArray, .pointer (some ⟨b, 0, none⟩)] w (.bool (!(x.shaped d))) := by
 refine cA fun R HQ => ?_; have hcl : cs.length = 10 := h.1.trans (dC x); have hc1 : (Tryz.prog.info? 50).map (·.size) = some cs.length := by rw [hcl]; exact lH
 have HC1 := lh hc1; have HH := lh h; have HSS := lh hS; clear h hcl hc1 hS
 go_enter Tryz.func63, Tryz.ntmps63
 go_wp2_with (with_reducible refine kA rfl 50 (.tmp 0) rfl cs rfl ?_)
 intro w0 hb0 hf0 hz0; have HC := lh (HSS.out w0 N cs (HH.out.fr hf0)); have HF0 := lh hf0; have HB0 := lh hb0; have cd := bA hf0 hb; clear hf0 hb0 hb
 go_wp2_with (with_reducible refine tA rfl 50 (.tmp 2) rfl rfl HB0.out Tryz.underlying50 rfl HC1.out ?_)
 refine HC.out.mono ?_; rintro e w2 ⟨rfl, hf2⟩; have HF2 := lh (HF0.out.trans hf2); clear hf2 cd; go_wp2_with fail; exact HQ.out _ _ ⟨rfl, HF2.out⟩
theorem aGY {x : Sgm} {d : Int} {b : Nat} (h : fA w N x.cells cs) (hb : w.cell? ⟨b, 0, none⟩ = some (.int .i64 d)) (hn : x.l.length <= 1000000) (hS : ∀ y ∈ x.l, SgS y d) :
  RV 61 #[.agg cs.toArray, .pointer (some ⟨b, 0, none⟩)] w (.bool (!(x.shaped d))) := by
 refine cA fun R HQ => ?_; rw [x.shaped_any d] at HQ; obtain ⟨A, c, rfl, hc⟩ := iF h; have hfa : Fr [] w (w.alloc (.cells #[.bool x.deep, .slice A x.l.length c] 54)) := (Fr.refl [] w).alloc _; have hbd := bA hfa hb
 have HC := lh (tV (hc.fr hfa) hn (f := 63) (first := #[]) (cap := #[.pointer (some ⟨b, 0, none⟩)]) (all := fun v => #[v, .pointer (some ⟨b, 0, none⟩)]) (fun v => rfl) (fun v w => by kernel_rfl) (fun y => !(y.shaped d))
  (fun y hy w1 cs1 hf1 h1 => aFX h1 (bA hf1 hbd) (hS y hy)))
 have HFA := lh hfa; have hl0 : (((x.l.length : Nat) : Int) == 0) = x.l.isEmpty := by cases x.l <;> simp; omega
 obtain ⟨ln, hln⟩ : ∃ ln, x.l.length = ln := ⟨_, rfl⟩; obtain ⟨le, hle⟩ : ∃ le, x.l.isEmpty = le := ⟨_, rfl⟩; rw [hln] at HC HFA hl0 ⊢; rw [hle] at hl0 HQ; clear h hc hfa hln hn hS hbd hb hle
 go_enter Tryz.func61, Tryz.ntmps61
 cases le with
 | true =>
  go_wp2_with fail; exact HQ.out _ _ ⟨rfl, HFA.out⟩
 | false =>
  go_wp2_with fail; refine HC.out.mono ?_; rintro e w2 ⟨rfl, hf2⟩; have HF2 := lh (HFA.out.trans hf2); clear hf2; go_wp2_with fail; exact HQ.out _ _ ⟨rfl, HF2.out⟩
theorem pR {q : Qry} {d : Int} (h : fA w N q.cells cs) (hn : q.l.length <= 1000000) (hS : ∀ x ∈ q.l, x.l.length <= 1000000 /\ ∀ y ∈ x.l, SgS y d) :
  RV 34 #[.agg cs.toArray, .int .i64 d] w (.bool (q.shaped d)) := by
 refine cA fun R HQ => ?_; rw [q.shaped_all d] at HQ; obtain ⟨A, c, rfl, hc⟩ := aC h; have hfa : Fr [] w ((w.alloc (.cells #[.bool q.rel, .slice A q.l.length c] 25)).alloc (.cells #[.int .i64 d] 3)) := ((Fr.refl [] w).alloc _).alloc _; have hbd := Blk.new (w.alloc (.cells #[.bool q.rel, .slice A q.l.length c] 25)) 3 [.int .i64 d]; rw [show (w.alloc (.cells #[.bool q.rel, .slice A q.l.length c] 25)).heap.size = w.heap.size + 1 by simp] at hbd
 have HC := lh (dR (hc.fr hfa) hn (f := 61) (first := #[]) (cap := #[.pointer (some ⟨w.heap.size + 1, 0, none⟩)]) (all := fun v => #[v, .pointer (some ⟨w.heap.size + 1, 0, none⟩)]) (fun v => rfl) (fun v w => by kernel_rfl) (fun y => !(y.shaped d))
  (fun x hx w1 cs1 hf1 h1 => aGY h1 ((hbd.fr hf1).at_ (i := 0) rfl) (hS x hx).1 (hS x hx).2))
 have HFA := lh hfa; obtain ⟨ln, hln⟩ : ∃ ln, q.l.length = ln := ⟨_, rfl⟩; rw [hln] at HC HFA ⊢; clear h hc hfa hln hn hS hbd
 go_enter Tryz.func34, Tryz.ntmps34
 go_wp2_with fail; refine HC.out.mono ?_; rintro e w2 ⟨rfl, hf2⟩; have HF2 := lh (HFA.out.trans hf2); clear hf2; go_wp2_with fail; exact HQ.out _ _ ⟨rfl, HF2.out⟩
end
theorem aAm : ∀ n : Nat, n <= 1000000 -> (∀ (q : Qry) (d : Int), q.fw <= n -> q.inR = true -> -1 <= d -> d <= 50 -> SgQ q d) /\ (∀ (x : Xpr) (d : Int), x.fw <= n -> x.inR = true -> -1 <= d -> d <= 100 -> SgX x d) := by
 intro n
 induction n with
 | zero =>
  intro _; refine ⟨fun q d hq _ h1 h2 => fun w N cs h => ?_, fun x d hx => by have := x.fw_pos; omega⟩; have h0 := q.fw_eq; have h3 := vJ q.l; have hl : q.l = [] := List.length_eq_zero_iff.1 (by omega); exact pR h (by omega) fun x hx => by rw [hl] at hx; simp at hx
 | succ n ih =>
  intro hn; obtain ⟨i1, i2⟩ := ih (by omega)
  have hq : ∀ (q : Qry) (d : Int), q.fw <= n + 1 -> q.inR = true -> -1 <= d -> d <= 50 -> SgQ q d := fun q d hq hi h1 h2 => fun w N cs h => by
   have h0 := q.fw_eq; have h3 := vJ q.l; refine pR h (by omega) fun x hx => ?_; have hxw := zL hx; have hx0 := x.fw_eq; have hxl := iP x.l; refine ⟨by omega, fun y hy => fun w1 N1 cs1 hr => ?_⟩; have hyw := aM hy; have hy0 := y.fw_eq; refine aAl hr (by omega) h1 (by omega) fun z hz => ?_; have hzw := wH hz; exact i2 z (d + 1) (by omega) (sX hi (by unfold Qry.fil kB; exact List.mem_flatMap.2 ⟨x, hx, List.mem_flatMap.2 ⟨y, hy, hz⟩⟩)) (by omega) (by omega)
  refine ⟨hq, fun x d hx hi h1 h2 => fun w N cs h => ?_⟩; have hwx := x.fw_eq; rw [qX] at hi; simp only [Bool.and_eq_true] at hi; have hlx := jP x.l; have hlq := vJ x.q.l; have hq0 := x.q.fw_eq; refine aAk h hi.1.1 (by omega) (by omega) (by omega) (by omega) h1 h2 fun d1 e1 e2 => ⟨i1 x.q d1 (by omega) hi.1.2 e1 (by omega), fun y hy => ?_⟩; have hyw := wH hy; have := iW x y; exact i2 y _ (by omega) (List.all_eq_true.1 hi.2 y hy) (by omega) (by omega)
theorem Qry.shaped_whole {q : Qry} {d : Int} (hw : q.fw <= 1000000) (hi : q.inR = true) (h1 : -1 <= d) (h2 : d <= 50) : SgQ q d := (aAm _ hw).1 q d (Nat.le_refl _) hi h1 h2
section
variable {w : World} {N : Nat -> Prop} {cs : List Value}
theorem Qry.sane_any {q : Qry} (h : fA w N q.cells cs) (hw : q.fw <= 1000000) (hi : q.inR = true) : RV 17 #[.agg cs.toArray] w (.bool q.sane) := by
 refine cA fun R HQ => ?_; obtain ⟨A, c, rfl, hc⟩ := aC h; have HH := lh h; have HS := lh (Qry.shaped_whole (d := 0) hw hi (by decide) (by decide)); have HT := lh (Qry.typed_any (q := q) (Nat.le_trans q.wt_le hw)); have HP := lh (Qry.parts_any (q := q) (Nat.le_trans q.wt_le hw)); have hE : q.sane = (!q.rel && q.shaped 0 && q.typed && decide (q.parts <= 512)) := rfl; obtain ⟨rl, hrl⟩ : ∃ rl, q.rel = rl := ⟨_, rfl⟩; obtain ⟨sh, hsh⟩ : ∃ sh, q.shaped 0 = sh := ⟨_, rfl⟩; obtain ⟨ty, hty⟩ : ∃ ty, q.typed = ty := ⟨_, rfl⟩; obtain ⟨pt, hpt⟩ : ∃ pt, decide (q.parts <= 512) = pt := ⟨_, rfl⟩; rw [hrl, hsh, hty, hpt] at hE; rw [hE] at HQ; have h5 : decide ((q.parts : Int) <= 512) = pt := by rw [<- hpt]; exact decide_eq_decide.2 (by omega)
 have HSH := lh hsh; have HTY := lh hty; rw [hrl] at HH ⊢; obtain ⟨ln, hln⟩ : ∃ ln, q.l.length = ln := ⟨_, rfl⟩; rw [hln] at HH ⊢; clear h hc hrl hsh hty hpt hE hln hw hi; obtain ⟨cs, hcs⟩ : ∃ cs : List Value, [Value.bool rl, .slice A ln c] = cs := ⟨_, rfl⟩; rw [hcs]
 go_enter Tryz.func17, Tryz.ntmps17
 go_wp2_with (with_reducible refine kA rfl 25 (.tmp 0) rfl cs rfl ?_)
 intro w0 hb0 hf0 hz0; subst hcs; have c0 := hb0.at_ (i := 0) rfl; have c1 := hb0.at_ (i := 1) rfl; have HF0 := lh hf0; have HC := lh (HS.out w0 N _ (HH.out.fr hf0)); rw [HSH.out] at HC; clear hb0 hf0 hz0
 cases rl with
 | true =>
  go_wp2_with fail; exact HQ.out _ _ ⟨rfl, HF0.out⟩
 | false =>
  go_wp2_with fail; refine HC.out.mono ?_; rintro e w2 ⟨rfl, hf2⟩; have HF2 := lh (HF0.out.trans hf2); have k0 := bA hf2 c0; have k1 := bA hf2 c1; have HC2 := lh (HT.out w2 N _ (HH.out.fr HF2.out)); rw [HTY.out] at HC2; clear hf2 c0 c1 HC
  cases sh with
  | false =>
   go_wp2_with fail; exact HQ.out _ _ ⟨rfl, HF2.out⟩
  | true =>
   go_wp2_with fail; refine HC2.out.mono ?_; rintro e w3 ⟨rfl, hf3⟩; have HF3 := lh (HF2.out.trans hf3); have j0 := bA hf3 k0; have j1 := bA hf3 k1; have HC3 := lh (HP.out w3 N _ (HH.out.fr HF3.out)); clear hf3 k0 k1 HC2
   cases ty with
   | false =>
    go_wp2_with fail; exact HQ.out _ _ ⟨rfl, HF3.out⟩
   | true =>
    go_wp2_with fail; refine HC3.out.mono ?_; rintro e w4 ⟨rfl, hf4⟩; have HF4 := lh (HF3.out.trans hf4); clear hf4; go_wp2_with fail; exact HQ.out _ _ ⟨rfl, HF4.out⟩
end
end
section
open Go.RowKit
def bG (w : World) (p lo : Nat) (t : TypeId) (k : Nat) (v : Value) (l : List (List Cl)) : Prop :=
 ∃ css : List (List Value), css.length = l.length /\ w.ownsRow 0 t k v l.length css.flatten /\ (∀ x, v.ownBlock = some x -> lo <= x) /\
  ∀ (i : Nat) (q : List Cl) (cs : List Value), l[i]? = some q -> css[i]? = some cs -> q.length = k /\ fA w (fun g => (lo <= g ∨ g < p) /\ v.ownBlock ≠ some g /\ g < w.heap.size) q cs
theorem bG.nil (w : World) (p lo : Nat) (t : TypeId) (k : Nat) : bG w p lo t k (.slice none 0 0) [] := ⟨[], rfl, qG _ _ _ _, by simp [Value.ownBlock], fun i q cs h => by simp at h⟩
theorem bG.fr {S : List Nat} {w w' : World} {p lo : Nat} {t : TypeId} {k : Nat} {v : Value} {l : List (List Cl)} (h : bG w p lo t k v l) (hf : Fr S w w') (hS : ∀ x ∈ S, (p <= x /\ x < lo) ∨ w.heap.size <= x := by simp) : bG w' p lo t k v l := by
 obtain ⟨css, h1, h2, h3, h4⟩ := h; refine ⟨css, h1, vB h2 hf (fun g hg hm => ?_), h3, fun i q cs hq hc => ⟨(h4 i q cs hq hc).1, ((h4 i q cs hq hc).2.fr hf (fun g hg hm => ?_)).mono (fun g hg => ⟨hg.1, hg.2.1, by have := hf.size; omega⟩)⟩⟩
 ·have := h3 g hg; have := wO h2 g hg; rcases hS g hm with h | h <;> omega
 ·have := hg.1; have := hg.2.2; rcases hS g hm with h | h <;> omega
theorem bG.lt {w : World} {p lo : Nat} {t : TypeId} {k : Nat} {v : Value} {l : List (List Cl)} (h : bG w p lo t k v l) : ∀ g, v.ownBlock = some g -> g < w.heap.size := by
 obtain ⟨css, h1, h2, h3, h4⟩ := h; exact wO h2
theorem bG.slice {w : World} {p lo : Nat} {t : TypeId} {k : Nat} {v : Value} {l : List (List Cl)} (h : bG w p lo t k v l) : ∃ A c, v = .slice A l.length c := by
 obtain ⟨css, h1, h2, h3, h4⟩ := h; obtain ⟨A, c, hv, _⟩ := zB h2; exact ⟨A, c, hv⟩
theorem bG.cat {w : World} {p lo : Nat} {t : TypeId} {k : Nat} {v : Value} {l : List (List Cl)} (h : bG w p lo t k v l) (hk0 : 0 < k) : CAt w (fun g => lo <= g ∨ g < p) (.rows k l) v := by
 obtain ⟨css, h1, h2, h3, h4⟩ := h; obtain ⟨A, c, rfl, hc, _⟩ := zB h2; have hck : ∀ i, i < l.length -> css[i]? = some (css.getD i []) := fun i hi => by rw [List.getD_eq_getElem?_getD, List.getElem?_eq_getElem (by omega)]; rfl
 have hlen : ∀ row ∈ l, row.length = k := fun row hr => by
  obtain ⟨i, hi, rfl⟩ := List.mem_iff_getElem.1 hr; exact (h4 i _ _ (List.getElem?_eq_getElem hi) (hck i hi)).1
 have h6 : ∀ cs ∈ css, cs.length = k := fun cs hcs => by
  obtain ⟨i, hi, rfl⟩ := List.mem_iff_getElem.1 hcs; have := h4 i _ _ (List.getElem?_eq_getElem (by omega)) (List.getElem?_eq_getElem hi); exact this.2.1.trans this.1
 by_cases h0 : 0 < l.length
 ·obtain ⟨g, rfl, hg⟩ := rK h2 h0; refine .rows k l _ c g 0 (fun i => css.getD i []) hk0 hc (fun _ => ⟨rfl, .inl (h3 g rfl)⟩) hlen (fun i hi => ?_) (fun i q j x u hq hx hu => ?_)
  ·have hci := hck i hi; have hl : (css.getD i []).length = k := h6 _ (List.mem_of_getElem? hci); refine ⟨hl, fun j u hj => ?_⟩; have hj6 : j < k := by have := (List.getElem?_eq_some_iff.1 hj).1; omega
   refine hg _ u ?_; rw [Nat.zero_add, bS css h6 i _ hci j hj6]; exact hj
  ·have hi : i < l.length := (List.getElem?_eq_some_iff.1 hq).1; exact ((h4 i q _ hq (hck i hi)).2.2 j x u hx hu).mono (fun g hg => hg.1)
 ·have hl0 : l = [] := List.eq_nil_of_length_eq_zero (by omega); subst hl0; exact CAt.nil w _ hk0 A c
theorem bG.push {w w3 w7 : World} {p lo : Nat} {t : TypeId} {k : Nat} {v : Value} {l : List (List Cl)} {row : List Cl} {cs : List Value} {g7 cap H : Nat} (h : bG w p lo t k v l) (hf3 : Fr [] w w3) (hH : w3.heap.size = H) (hlo : lo <= H) (hpk : row.length = k) (hp : fA w3 (fun g => (lo <= g ∨ g < p) /\ v.ownBlock ≠ some g) row cs)
  (hf7 : Fr v.ownBlock.toList w3 w7) (xs : List Value) (ho7 : w7.ownsRow 0 t k (.slice (some ⟨g7, 0, none⟩) (l.length + 1) cap) (l.length + 1) (xs ++ cs)) (hxs : w.ownsRow 0 t k v l.length xs) (hat : v.ownBlock = some g7 ∨ g7 = H) : bG w7 p lo t k (.slice (some ⟨g7, 0, none⟩) (l.length + 1) cap) (l ++ [row]) := by
 obtain ⟨css, h1, h2, h3, h4⟩ := h
 have hx : xs = css.flatten := by
  rcases h2.2 with ⟨hv, hz⟩ | ⟨g, c, cur, hv, _, hh, hn, hc, hs, ht⟩
  ·rcases hxs.2 with ⟨_, hz'⟩ | ⟨g', c', cur', hv', _, _, _, _, _, ht'⟩
   ·have e1 := hxs.1; have e2 := h2.1; rw [hz] at e1 e2; exact (List.eq_nil_of_length_eq_zero (by simpa using e1)).trans (List.eq_nil_of_length_eq_zero (by simpa using e2)).symm
   ·rw [hv] at hv'; cases hv'
  ·rcases hxs.2 with ⟨hv', _⟩ | ⟨g', c', cur', hv', _, hh', _, _, _, ht'⟩
   ·rw [hv] at hv'; cases hv'
   ·rw [hv] at hv'; injection hv' with e1 e2 e3; simp only [Option.some.injEq, Addr.mk.injEq] at e1; obtain ⟨rfl, _⟩ := e1; rw [hh] at hh'; injection hh' with hh'; injection hh' with e4; rw [<- ht, <- ht', e4]
 have hpb := hp.bound; have hz7 := hf7.size; have hz3 := hf3.size
 have hg7 : lo <= g7 := by
  rcases hat with h | h
  ·exact h3 _ h
  ·omega
 refine ⟨css ++ [cs], by simp [h1], ?_, fun x hx => ?_, fun i q cs' hq hc => ?_⟩
 ·rw [show (l ++ [row]).length = l.length + 1 by simp, List.flatten_append, <- hx]
  simpa using ho7
 ·simp [Value.ownBlock] at hx; omega
 ·have hne : ∀ g, v.ownBlock ≠ some g -> g < w3.heap.size -> (Value.slice (some ⟨g7, 0, none⟩) (l.length + 1) cap).ownBlock ≠ some g := fun g hg hlt e => by
   have e' : g7 = g := by simpa [Value.ownBlock] using e
   rcases hat with h | h
   ·exact hg (e' ▸ h)
   ·omega
  by_cases hi : i < l.length
  ·rw [List.getElem?_append_left hi] at hq; rw [List.getElem?_append_left (by omega)] at hc; refine ⟨(h4 i q cs' hq hc).1, (((h4 i q cs' hq hc).2.fr hf3).fr hf7 (fun g hg => by simpa using hg.2.1)).mono (fun g hg => ⟨hg.1, hne g hg.2.1 (by omega), by omega⟩)⟩
  ·have hil : i = l.length := by
    have := (List.getElem?_eq_some_iff.1 hq).1
    simp at this; omega
   subst hil
   simp at hq
   rw [<- h1] at hc
   simp at hc
   subst hq hc; exact ⟨hpk, (hpb.fr hf7 (fun g hg => by simpa using hg.1.2)).mono (fun g hg => ⟨hg.1.1, hne g hg.1.2 hg.2, by omega⟩)⟩
theorem bG.app {w w3 w7 : World} {p lo : Nat} {t : TypeId} {k H : Nat} {v : Value} {A : Option Addr} {c n : Nat} {l : List (List Cl)} {row : List Cl} {cs : List Value} {g7 cap : Nat} (h : bG w p lo t k v l) (hv : v = .slice A n c) (hf3 : Fr [] w w3) (hH : w3.heap.size = H + 1) (hlo : lo <= H) (hpk : row.length = k) (hp : fA w (fun g => (lo <= g ∨ g < p) /\ (Value.slice A n c).ownBlock ≠ some g) row cs)
  (hf7 : Fr v.ownBlock.toList w3 w7) {xs : List Value} (ho7 : w7.ownsRow 0 t k (.slice (some ⟨g7, 0, none⟩) (l.length + 1) cap) (l.length + 1) (xs ++ cs)) (hxs : w.ownsRow 0 t k v l.length xs) (hat : v.ownBlock = some g7 ∨ g7 = H + 1) : bG w7 p lo t k (.slice (some ⟨g7, 0, none⟩) (l.length + 1) cap) (l ++ [row]) := by
 subst hv; exact h.push hf3 hH (by omega) hpk (hp.fr hf3) hf7 xs ho7 hxs hat
theorem nD {w w' : World} {g o : Nat} {cs : List Value} (h : w.rangeAt g o cs) (hf : Fr [] w w') : w'.rangeAt g o cs := fun j u hu => bA hf (h j u hu)
theorem eO {S : List Nat} {w w' : World} {g o : Nat} {cs : List Value} (h : w.rangeAt g o cs) (hf : Fr S w w') (hg : g ∉ S) : w'.rangeAt g o cs := fun j u hu => by
 rw [hf.cell (World.block_lt_of_cell? w _ (h j u hu)) hg]; exact h j u hu
section
variable {P : Program} {o : Oper} {a : Act} {W : World}
theorem nH {g off : Nat} {t : TypeId} {cs : List Value} {d : TypeDesc} {x : Operand} (ho : o.op = .load t x) (hx : a.eval x = .pointer (some ⟨g, off, none⟩)) (hr : W.rangeAt g off cs) (hu : P.underlying t = some d) (hd : d.isRow = true) (hi : (P.info? t).map (·.size) = some cs.length) : (execOp a.eval o).run P W = .ok (.value (.agg cs.toArray)) W := by
 unfold execOp; simp only [ho, hx, Instr.loadAt, Instr.sureAddr, Sem.run_bind, Sem.run_pure, Result.andThen_ok, run_loadVar_mid W g off t cs d hr hu hd hi]
end
end
end Go.Proofs.YtbggkiebfflcdaaGreatDoor
