/-
  PathParses, for every input: which query any text is, or why none, is what the document says. The listed variables hold what the program's text lays (the card's tie).
-/
import Derived.Test.YtbggkiebfflcdaaGreatDoorJpp1
import Derived.Test.YtbggkiebfflcdaaGreatDoorJpp8
import Derived.Test.YtbggkiebfflcdaaGreatDoorJpp30
import Derived.Test.YtbggkiebfflcdaaGreatDoorCards
import Derived.Test.YtbggkiebfflcdaaGreatDoorTie
import Derived.SevenTiedAt
namespace Go.Proofs.YtbggkiebfflcdaaGreatDoor.pathParses
open Go.ChangeShapes Go.WideShapes Go.ChangeAt Go.RowKit

theorem own:ownKnob Tryz.prog.godebug=none:=by kernel_rfl
theorem laidOut:laidOutB Tryz.prog=true:=by kernel_rfl

set_option maxRecDepth 100000 in
theorem lifted (os:Os) (started:os.Started) (H:Type) (enc:TypeId × Value → H):
    ReturnsInHanded {} Tryz.checked os 3 .any (fun w args=>(Rows.pathParsesSpec.pre enc Tryz.prog Tryz.f3 Rows.pathParsesRow.domain false w args ∧ laidMetH Tryz.prog sJ w) ∧ sizedMet enc Tryz.prog Tryz.f3 (OpenSpec.ofChange Rows.pathParsesSpec) false w args)
      (Rows.pathParsesSpec.post enc Tryz.prog Tryz.f3 false true false false):=by
  refine bI (C:=Tryz.checked) (X:=fun w _=>laidMetH Tryz.prog sJ w) (fun _ _ _ hh h=>h.of_heap hh) own started (by kernel_rfl) Tryz.func3
    (ChangeSpec.witness_shaped (enc:=enc) (C:=Tryz.checked) (os:=os) (X:=fun w _=>laidMetH Tryz.prog sJ w) false (World.laidAll Tryz.prog os sJ) #[.string ⟨#[]⟩] 8 (World.laidAll_os _ _ _)
      (World.shaped_of_ZipB (by kernel_rfl) (by kernel_rfl)) (by kernel_rfl) (by kernel_rfl) (by kernel_rfl)
      (by rw[mV];exact laidMet_laidAll _ (by kernel_rfl) (by kernel_rfl))) ?_
  intro W base args ds gs before hval0 hW hsh hL
  obtain⟨hG,h8⟩:=aFo hL hsh
  have hval:∀ (j:Nat) t v,Tryz.f3.params[j]? = some t → args[j]? = some v → Value.okWide Tryz.prog W .any base t v:=hval0
  have hW':=hW
  obtain⟨p,q,hA0,hV,rfl,hfz,hnd⟩:=hW
  have hA:DataW.TrodAll enc Tryz.prog W 0 (fun _=>true) true Tryz.f3.params.toList args.toList ds p:=hA0
  rw[Tryz.params3] at hA hval
  obtain⟨v0,vs0,d0,ds0,p0,q0,hargs,rfl,rfl,h0,r0⟩:=trodAll_cons hA
  obtain⟨rfl,rfl,rfl⟩:=trodAll_nil r0
  obtain rfl:args=#[v0]:=by cases args;simp_all
  obtain⟨rfl,rfl⟩:=trodVars_none hV
  obtain⟨a0,rfl,rfl,rfl,w0⟩:=Go.ChangeMaps.open_string Tryz.underlying9 (hval 0 9 v0 rfl rfl) h0
  unfold maxLen at w0
  refine(aAk hG h8 a0 (by omega)).mono fun e W' ⟨he,hf⟩=>?_
  subst he
  exact⟨_,rfl,aCW laidOut (by kernel_rfl) rfl Tryz.underlying4 rfl hW' rfl rfl rfl hf⟩

theorem proved:Rows.PathParsesSaid:=
  OpenClaim.holds_of_wide 3 Tryz.f3 rfl rfl rfl rfl rfl rfl rfl ⟨rfl,rfl,rfl,rfl,rfl⟩ rfl rfl rfl rfl rfl (by kernel_rfl) Tryz.func3 (by kernel_rfl)
    (of_decide_eq_true (by kernel_rfl)) (by unfold Func.isWrapper;first | (rw[if_pos (by decide +kernel)];kernel_rfl) | (rw[if_neg (by decide +kernel)];exact⟨rfl,rfl⟩))
    (fun os started H enc _=>lifted os started H enc)
theorem card:Rows.PathParsesCardSaid:=
  Claim7.holds_tied_plain_at .later [] [.data,.data,.data,.data,.sentinel,.sentinel,.pinned] true (true,"dbca03d8c3873c311c9ad0fae462bdf5651bd93c35aa180c57778e66997f2252") true proved (fun _ h=>by cases h) (by kernel_rfl) (fun _ h=>by cases h) pathParses_row_tie rfl ⟨rfl,rfl⟩ (by kernel_rfl) rfl
    (fun f fn hf hfn=>by
      obtain rfl:f=3:=Option.some.inj ((show Tryz.prog.funcNamed "orangery/orangerylaw16.PathParses" = some 3 by kernel_rfl).symm.trans hf) |>.symm
      obtain rfl:fn=Tryz.f3:=(Option.some.inj (Tryz.func3.symm.trans hfn)).symm
      exact⟨by kernel_rfl,fun j t ht=>by
        rw[Tryz.params3] at ht
        have hm:t ∈ [9]:=by simpa using Array.mem_of_getElem? ht
        have hall:([9].all fun u=>!Tryz.prog.wantsStandIn u)=true:=by kernel_rfl
        exact(show Tryz.prog.wantsStandIn t=false by simpa using List.all_eq_true.1 hall t hm)⟩)
    (by kernel_rfl)
#print axioms proved
#print axioms card
end Go.Proofs.YtbggkiebfflcdaaGreatDoor.pathParses
