/-
  The disk's Limit, on a disk in memory.
-/
import Derived.Test.YtebjhcjbfaaejaaGreatDoorJct1
set_option maxRecDepth 100000
set_option maxHeartbeats 32000000
namespace Go.Proofs.YtebjhcjbfaaejaaGreatDoor
open Go.RowKit
def DM.limited (D:DM) (k:Int):DM:={ D with limit:=max k (-1) }
theorem DM.ok_limited {D:DM} (h:D.ok) (k:Int) (hk:k<=9223372036854775807):(D.limited k).ok:=
 ⟨h.some_,h.most,h.sec,h.pend,by simp[DM.limited];omega,by simp[DM.limited];omega,h.few⟩
theorem aSy {w:World} {d bb:Nat} {lv:Value} {D:DM} (h:oB w d bb lv D) (k:Int) (hk:k<=9223372036854775807):
  Calls Tryz.prog 10 #[.pointer (some ⟨d,0,none⟩),.int .i64 k] w fun e w'=>e=.returned (.tuple #[])/\oB w' d bb lv (D.limited k)/\Fr [d] w w':=by
 have c2:=h.c2;have f2:=h.free 2;have H:=lh h;clear h
 go_enter Tryz.func10,Tryz.ntmps10
 go_wp2
 ·go_end0
  have hf:Fr [d] w (w.setCell ⟨d,2,none⟩ (.int .i64 (-1))):=(Fr.refl _ _).setCell (by simp) _;have hm:max k (-1) = -1:=by omega
  exact⟨rfl,H.o.turn rfl rfl (DM.ok_limited H.o.2.2.2 k hk) (by simpa[DM.limited,hm] using H.o.1.set_ 2 (.int .i64 (-1))) hf,hf⟩
 ·go_end0
  have hf:Fr [d] w (w.setCell ⟨d,2,none⟩ (.int .i64 k)):=(Fr.refl _ _).setCell (by simp) _;have hm:max k (-1)=k:=by omega
  exact⟨rfl,H.o.turn rfl rfl (DM.ok_limited H.o.2.2.2 k hk) (by simpa[DM.limited,hm] using H.o.1.set_ 2 (.int .i64 k)) hf,hf⟩
theorem aSz {w:World} {d:Nat} {D:DM} {fp:List Nat} (h:wF w d D fp) (k:Int) (hk:k<=9223372036854775807):
  Calls Tryz.prog 10 #[.pointer (some ⟨d,0,none⟩),.int .i64 k] w fun e w'=>e=.returned (.tuple #[])/\eK w w' d (D.limited k) fp:=by
 obtain⟨bb,lv,rfl,h⟩:=h;refine(aSy h k hk).mono ?_;rintro e w' ⟨rfl,hd',hf'⟩;exact⟨rfl,_,⟨bb,lv,rfl,hd'⟩,hf'.mono (by simp[dfp]),fun _ hx=>.inl hx⟩
end Go.Proofs.YtebjhcjbfaaejaaGreatDoor
