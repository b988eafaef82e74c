/-
  BtreePlays, for every input: whatever is done with trees, each answer is what lists in order answer, or ErrFull, behind which all is as it was; each tree stays sound, and low; what is rolled back is as it was at the last commit. No condition.
-/
import Derived.Test.YtpjbdpepofnleaaGreatJpl1
import Derived.Test.YtpjbdpepofnleaaGreatJpl29
import Derived.Test.YtpjbdpepofnleaaGreatRows
namespace Go.Proofs.YtpjbdpepofnleaaGreat.btreePlays
open Go.ChangeShapes Go.WideShapes Go.ChangeAt Go.RowKit

theorem own : ownKnob Tryz.prog.godebug = none := by kernel_rfl
theorem laidOut : laidOutB Tryz.prog = true := by kernel_rfl

set_option maxRecDepth 100000 in
theorem lifted (os : Os) (started : os.Started) (H : Type) (enc : TypeId × Value → H) :
    ReturnsInHanded {} Tryz.checked os 7 .any (Rows.btreePlaysSpec.pre6 enc Tryz.prog Tryz.f7 Rows.btreePlaysRow.domain false) (Rows.btreePlaysSpec.post enc Tryz.prog Tryz.f7 false true false false) := by
  refine returnsInHanded_of_change (C := Tryz.checked) own started (by kernel_rfl) Tryz.func7
    (ChangeSpec.witness6 (enc := enc) (C := Tryz.checked) false ⟨#[], #[.int .i64 0, .slice none 0 0], []⟩ 8 (by kernel_rfl) (by kernel_rfl) (by kernel_rfl) (by kernel_rfl)) ?_
  intro W base args ds gs before hval0 hW hcnd _
  have hval : ∀ (j : Nat) t v, Tryz.f7.params[j]? = some t → args[j]? = some v → Value.okWide Tryz.prog W .any base t v := hval0
  have hW' := hW
  obtain ⟨p, q, hA0, hV, rfl, hfz, hnd⟩ := hW
  have hA : DataW.TrodAll enc Tryz.prog W 0 (fun _ => true) true Tryz.f7.params.toList args.toList ds p := hA0
  rw [Tryz.params7] at hA hval
  obtain ⟨v0, vs0, d0, ds0, p0, q0, hargs, rfl, rfl, h0, r0⟩ := trodAll_cons hA
  obtain ⟨v1, vs1, d1, ds1, p1, q1, rfl, rfl, rfl, h1, r1⟩ := trodAll_cons r0
  obtain ⟨rfl, rfl, rfl⟩ := trodAll_nil r1
  obtain rfl : args = #[v0, v1] := by cases args; simp_all
  obtain ⟨rfl, rfl⟩ := trodVars_none hV
  obtain ⟨a0, rfl, rfl, rfl, w0⟩ := open_int Tryz.underlying3 (hval 0 3 v0 rfl rfl) h0
  obtain ⟨sa1, sl1, sc1, rfl⟩ := okWide_slice Tryz.underlying51 (hval 1 51 v1 rfl rfl)
  obtain ⟨fu1, hf1⟩ := h1
  obtain ⟨b1, hb1⟩ := arg_pl Tryz.underlying51 Tryz.underlying58 (by kernel_rfl) (by kernel_rfl) rfl rfl rfl rfl rfl rfl rfl Tryz.underlying3 Tryz.underlying23 Tryz.underlying5 (by kernel_rfl) Tryz.underlying4 hf1
  refine (plays_walk _ a0 _ b1 hb1).mono fun e W' ⟨he, hf⟩ => ?_
  subst he
  exact ⟨_, rfl, law_post laidOut (by kernel_rfl) rfl Tryz.underlying4 rfl hW' rfl rfl rfl hf⟩

theorem proved : Rows.BtreePlaysSaid :=
  OpenClaim.holds_of_wide 7 Tryz.f7 rfl rfl rfl rfl rfl rfl rfl ⟨rfl, rfl, rfl, rfl, rfl⟩ rfl rfl rfl rfl rfl (by kernel_rfl) Tryz.func7 (by kernel_rfl)
    (of_decide_eq_true (by kernel_rfl)) (by unfold Func.isWrapper; first | (rw [if_pos (by decide +kernel)]; kernel_rfl) | (rw [if_neg (by decide +kernel)]; exact ⟨rfl, rfl⟩))
    (fun os started H enc _ => lifted os started H enc)
#print axioms proved
end Go.Proofs.YtpjbdpepofnleaaGreat.btreePlays
