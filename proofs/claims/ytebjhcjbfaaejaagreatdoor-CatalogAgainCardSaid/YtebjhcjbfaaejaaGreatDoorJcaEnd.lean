/-
  CatalogAgain, for every input: opened again it is the same: rounds, and behind each the disk's pages opened anew, tell what rounds do that are not. The listed variables hold what the program's text lays (the card's tie).
-/
import Derived.Test.YtebjhcjbfaaejaaGreatDoorJca1
import Derived.Test.YtebjhcjbfaaejaaGreatDoorJca29
import Derived.Test.YtebjhcjbfaaejaaGreatDoorCards
import Derived.Test.YtebjhcjbfaaejaaGreatDoorTie
import Derived.SevenTiedAt
namespace Go.Proofs.YtebjhcjbfaaejaaGreatDoor.catalogAgain
open Go.ChangeShapes Go.WideShapes Go.ChangeAt Go.RowKit

theorem own:ownKnob Tryz.prog.godebug=none:=by kernel_rfl
theorem laidOut:laidOutB Tryz.prog=true:=by kernel_rfl

set_option maxRecDepth 100000 in
theorem lifted(os:Os)(b:os.Started)(H:Type)(enc:TypeId×Value → H):
    ReturnsInHanded {} Tryz.checked os 4 .any (fun w args=>(Rows.catalogAgainSpec.pre enc Tryz.prog Tryz.f4 Rows.catalogAgainRow.domain false w args ∧ laidMetH Tryz.prog aV w) ∧ sizedMet enc Tryz.prog Tryz.f4 (OpenSpec.ofChange Rows.catalogAgainSpec) false w args)
      (Rows.catalogAgainSpec.post enc Tryz.prog Tryz.f4 false true false false):=by
  refine rL (C:=Tryz.checked) (X:=fun w _=>laidMetH Tryz.prog aV w) (fun _ _ _ J h=>h.of_heap J) own b (by kernel_rfl) Tryz.func4
    (ChangeSpec.witness_shaped (enc:=enc) (C:=Tryz.checked) (os:=os) (X:=fun w _=>laidMetH Tryz.prog aV w) false (World.laidAll Tryz.prog os aV) #[.slice none 0 0] 8 (World.laidAll_os _ _ _)
      (World.shaped_of_ZipB (by kernel_rfl) (by kernel_rfl)) (by kernel_rfl) (by kernel_rfl) (by kernel_rfl)
      (by rw[aMp];exact laidMet_laidAll _ (by kernel_rfl) (by kernel_rfl))) ?_
  intro W base args G gs f d o I Q
  have c:∀(j:Nat) t v,Tryz.f4.params[j]? = some t → args[j]? = some v → Value.okWide Tryz.prog W .any base t v:=d
  have g:=o
  obtain⟨p,q,i,r,rfl,s,u⟩:=o
  have n:DataW.TrodAll enc Tryz.prog W 0 (fun _=>true) true Tryz.f4.params.toList args.toList G p:=i
  rw[Tryz.params4]at n c
  obtain⟨v0,x,N,y,O,P,k,rfl,rfl,h0,z⟩:=trodAll_cons n
  obtain⟨rfl,rfl,rfl⟩:=trodAll_nil z
  obtain rfl:args=#[v0]:=by cases args;simp_all
  obtain⟨rfl,rfl⟩:=trodVars_none r
  obtain⟨A,B,D,rfl⟩:=okWide_slice Tryz.underlying22 (c 0 22 v0 rfl rfl)
  obtain⟨E,l⟩:=h0
  obtain⟨F,m⟩:=aRa Tryz.underlying22 Tryz.underlying42 (by kernel_rfl) (by kernel_rfl) rfl rfl Tryz.underlying40 Tryz.underlying66 (by kernel_rfl) (by kernel_rfl) rfl rfl rfl rfl Tryz.underlying3 Tryz.underlying9 Tryz.underlying4 l
  refine(aHi W _ F m).mono fun e S ⟨L,M⟩=>?_
  subst L
  exact⟨_,rfl,aNW laidOut (by kernel_rfl) rfl Tryz.underlying4 rfl g rfl rfl rfl M⟩

theorem proved:Rows.CatalogAgainSaid:=
  OpenClaim.holds_of_wide 4 Tryz.f4 rfl rfl rfl rfl rfl rfl rfl ⟨rfl,rfl,rfl,rfl,rfl⟩ rfl rfl rfl rfl rfl (by kernel_rfl) Tryz.func4 (by kernel_rfl)
    (of_decide_eq_true (by kernel_rfl)) (by unfold Func.isWrapper;first|(rw[if_pos (by decide +kernel)];kernel_rfl)|(rw[if_neg (by decide +kernel)];exact⟨rfl,rfl⟩))
    (fun os b H enc _=>lifted os b H enc)
theorem card:Rows.CatalogAgainCardSaid:=
  Claim7.holds_tied_plain_at .later [] [.data,.pinned] true (true,"cc9bf3849ddc5e5d8828eb410803f7d98900a4d3086a6f7e2ba7dc41b37c8a2d") false proved (fun _ h=>by cases h) (by kernel_rfl) (fun _ h=>by cases h) catalogAgain_row_tie rfl ⟨rfl,rfl⟩ (by kernel_rfl) rfl
    (fun f g i c=>by
      obtain rfl:f=4:=Option.some.inj ((show Tryz.prog.funcNamed "orangery/orangerylaw23.CatalogAgain" = some 4 by kernel_rfl).symm.trans i) |>.symm
      obtain rfl:g=Tryz.f4:=(Option.some.inj (Tryz.func4.symm.trans c)).symm
      exact⟨by kernel_rfl,fun j t ht=>by
        rw[Tryz.params4]at ht
        have d:t∈[22]:=by simpa using Array.mem_of_getElem? ht
        have b:([22].all fun u=>!Tryz.prog.wantsStandIn u)=true:=by kernel_rfl
        exact(show Tryz.prog.wantsStandIn t=false by simpa using List.all_eq_true.1 b t d)⟩)
    (by kernel_rfl)
#print axioms proved
#print axioms card
end Go.Proofs.YtebjhcjbfaaejaaGreatDoor.catalogAgain
