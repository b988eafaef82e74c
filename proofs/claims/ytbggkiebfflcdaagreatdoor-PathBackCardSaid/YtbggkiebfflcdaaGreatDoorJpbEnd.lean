/-
  PathBack, for every input: a query that may be is, printed, parsed to itself. The listed variables hold what the program's text lays (the card's tie).
-/
import Derived.Test.YtbggkiebfflcdaaGreatDoorJpb1
import Derived.Test.YtbggkiebfflcdaaGreatDoorJpb8
import Derived.Test.YtbggkiebfflcdaaGreatDoorJpb17
import Derived.Test.YtbggkiebfflcdaaGreatDoorJpb27
import Derived.Test.YtbggkiebfflcdaaGreatDoorCards
import Derived.Test.YtbggkiebfflcdaaGreatDoorTie
import Derived.SevenTiedAt
namespace Go.Proofs.YtbggkiebfflcdaaGreatDoor.pathBack
open Go.ChangeShapes Go.WideShapes Go.ChangeAt Go.RowKit

theorem own : ownKnob Tryz.prog.godebug = none := by kernel_rfl
theorem laidOut : laidOutB Tryz.prog = true := by kernel_rfl

set_option maxRecDepth 100000 in
theorem lifted (os : Os) (started : os.Started) (H : Type) (enc : TypeId × Value → H) :
    ReturnsInHanded {} Tryz.checked os 4 .any (fun w args => (Rows.pathBackSpec.pre enc Tryz.prog Tryz.f4 Rows.pathBackRow.domain false w args ∧ laidMetH Tryz.prog mJ w) ∧ sizedMet enc Tryz.prog Tryz.f4 (OpenSpec.ofChange Rows.pathBackSpec) false w args)
      (Rows.pathBackSpec.post enc Tryz.prog Tryz.f4 false true false false) := by
  refine fI (C := Tryz.checked) (X := fun w _ => laidMetH Tryz.prog mJ w) (fun _ _ _ hh h => h.of_heap hh) own started (by kernel_rfl) Tryz.func4
    (ChangeSpec.witness_shaped (enc := enc) (C := Tryz.checked) (os := os) (X := fun w _ => laidMetH Tryz.prog mJ w) false (World.laidAll Tryz.prog os mJ) #[.agg #[.bool false, .slice none 0 0]] 8 (World.laidAll_os _ _ _)
      (World.shaped_of_ZipB (by kernel_rfl) (by kernel_rfl)) (by kernel_rfl) (by kernel_rfl) (by kernel_rfl)
      (by rw [iV]; exact laidMet_laidAll _ (by kernel_rfl) (by kernel_rfl))) ?_
  intro W base args ds gs before hval0 hW hsh hL hz
  obtain ⟨hG, h8⟩ := aFz hL hsh
  have hW' := hW
  obtain ⟨_, ds2, gs2, before2, hW2, hall⟩ := hz
  obtain ⟨p2, q2, hA2, _, _, _, _⟩ := hW2
  have hA3 : DataW.TrodAll enc Tryz.prog W 0 (fun _ => true) true Tryz.f4.params.toList args.toList ds2 p2 := hA2
  obtain ⟨p, q, hA0, hV, rfl, hfz, hnd⟩ := hW
  have hA : DataW.TrodAll enc Tryz.prog W 0 (fun _ => true) true Tryz.f4.params.toList args.toList ds p := hA0
  rw [Tryz.params4] at hA hA3 hall
  obtain ⟨v0, vs0, d0, ds0, p0, q0, hargs, rfl, rfl, h0, r0⟩ := trodAll_cons hA
  obtain ⟨rfl, rfl, rfl⟩ := trodAll_nil r0
  obtain rfl : args = #[v0] := by cases args; simp_all
  obtain ⟨rfl, rfl⟩ := trodVars_none hV
  obtain ⟨u0, us0, e0, es0, p3, q3, hargs3, rfl, rfl, h3, r3⟩ := trodAll_cons hA3
  obtain rfl : v0 = u0 := by simpa using (List.cons.inj hargs3).1
  have hw0 : (e0.weights Tryz.prog 31).all (· ≤ reachBytes) = true := by
    have h9 : (e0.weights Tryz.prog 31 ++ DataW.weightsEach Tryz.prog ((OpenSpec.ofChange Rows.pathBackSpec).bare.plain.varTypes Tryz.prog) (es0 ++ gs2)).all (· ≤ reachBytes) = true := hall
    rw [List.all_append, Bool.and_eq_true] at h9
    exact h9.1
  obtain ⟨fu, hf⟩ := h3
  obtain ⟨qq, hrq, hin, hst⟩ := aED hf hw0
  obtain ⟨cs, rfl⟩ : ∃ cs : List Value, v0 = .agg cs.toArray := by
    have hl := hrq.1
    obtain ⟨rel, l⟩ := qq
    have h2 : (Qry.mk rel l).cells.length = 2 := rfl
    rw [h2] at hl
    cases v0 with
    | agg cs => exact ⟨cs.toList, by simp⟩
    | _ => exact absurd hl (show ¬ (1 : Nat) = 2 by decide)
  refine (aDm hG h8 hrq hin hst).mono fun e W' ⟨he, hf⟩ => ?_
  subst he
  exact ⟨_, rfl, aDn laidOut (by kernel_rfl) rfl Tryz.underlying4 rfl hW' rfl rfl rfl hf⟩

theorem proved : Rows.PathBackSaid :=
  OpenClaim.holds_of_wide 4 Tryz.f4 rfl rfl rfl rfl rfl rfl rfl ⟨rfl, rfl, rfl, rfl, rfl⟩ rfl rfl rfl rfl rfl (by kernel_rfl) Tryz.func4 (by kernel_rfl)
    (of_decide_eq_true (by kernel_rfl)) (by unfold Func.isWrapper; first | (rw [if_pos (by decide +kernel)]; kernel_rfl) | (rw [if_neg (by decide +kernel)]; exact ⟨rfl, rfl⟩))
    (fun os started H enc _ => lifted os started H enc)
theorem card : Rows.PathBackCardSaid :=
  Claim7.holds_tied_plain_at .later [] [.data, .data, .data, .data, .sentinel, .sentinel, .pinned] true (true, "dbca03d8c3873c311c9ad0fae462bdf5651bd93c35aa180c57778e66997f2252") true proved (fun _ h => by cases h) (by kernel_rfl) (fun _ h => by cases h) pathBack_row_tie rfl ⟨rfl, rfl⟩ (by kernel_rfl) rfl
    (fun f fn hf hfn => by
      obtain rfl : f = 4 := Option.some.inj ((show Tryz.prog.funcNamed "orangery/orangerylaw16.PathBack" = some 4 by kernel_rfl).symm.trans hf) |>.symm
      obtain rfl : fn = Tryz.f4 := (Option.some.inj (Tryz.func4.symm.trans hfn)).symm
      exact ⟨by kernel_rfl, fun j t ht => by
        rw [Tryz.params4] at ht
        have hm : t ∈ [31] := by simpa using Array.mem_of_getElem? ht
        have hall : ([31].all fun u => !Tryz.prog.wantsStandIn u) = true := by kernel_rfl
        exact (show Tryz.prog.wantsStandIn t = false by simpa using List.all_eq_true.1 hall t hm)⟩)
    (by kernel_rfl)
#print axioms proved
#print axioms card
end Go.Proofs.YtbggkiebfflcdaaGreatDoor.pathBack
