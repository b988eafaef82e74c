/-
  Joined by join.py: Gp Gq Gr
-/
import Derived.Test.YtbggkiebfflcdaaGreatDoorJpp12
set_option maxRecDepth 100000
set_option maxHeartbeats 32000000
namespace Go.Proofs.YtbggkiebfflcdaaGreatDoor
section
open Go.RowKit Go.Shelf
section
variable {P : Program} {ops : Array Oper} {rest : List Oper} {o : Oper} {a : Act} {w : World} {Q : Exit -> Act -> World -> Prop}
theorem dB (hg:o.guard=none) (t:TypeId) (x:Operand) (ho:o.op=.box t x) (cs:List Value) (hx:a.eval x=.agg cs.toArray)
  (h:∀ w1,Blk w1 w.heap.size t cs -> Fr [] w w1 -> w1.heap.size=w.heap.size+1 -> wpList P ops Q rest (a.put o.dst (.pointer (some ⟨w.heap.size,0,none⟩))) w1):wpList P ops Q (o :: rest) a w:=by
 refine wpList_plain hg fun K hK=>?_;refine tG (v:=.pointer (some ⟨w.heap.size,0,none⟩)) (w':=w.alloc (.cells cs.toArray t)) ?_ (hK _ _ (h _ (Blk.new w t cs) ((Fr.refl [] w).alloc _) (by simp)))
 simp[execOp,ho,hx,Instr.box,newVar,newRow,Value.cells,Result.andThen]
end
def aAI {α:Type} (p:α -> Bool) (l:List α) (ln:Nat) (w:World) (j:Nat) (v8:Value) (wr:World):Prop:=
 ∃ k:Nat,k+j=ln/\k<=ln/\v8=.int .i64 (k:Int)/\(l.take k).any p=false/\Fr [] w wr
theorem aDV:(Tryz.prog.info? 54).map (·.size)=some 2:=by kernel_rfl
theorem aAJ {w:World} {N:Nat -> Prop} {l:List Xpr} {A:Option Addr} {n cp:Nat} (h:CAt w N (.rows 13 (l.map Xpr.cells)) (.slice A n cp)) (hbig:n<=1000000) {f:FuncId} {first cap:Array Value} {all:Value -> Array Value} (hall:∀ v,first.push v ++ cap=all v)
  (he:∀ v w,(callFunc f (all v)).run Tryz.prog w=.ok (.enter f (all v)) w) (p:Xpr -> Bool)
  (hp:∀ (x:Xpr),x ∈ l -> ∀ (w1:World) (cs:List Value),Fr [] w w1 -> gA w1 N x.cells cs -> Calls Tryz.prog f (all (.agg cs.toArray)) w1 fun e w'=>e=.returned (.bool (p x))/\Fr [] w1 w'):
  Calls Tryz.prog 71 #[.slice A n cp,.func (.func f) first cap] w fun e w'=>∃ x:Int,e=.returned (.int .i64 x)/\decide (0<=x)=l.any p/\Fr [] w w':=by
 refine bA fun R HQ=>?_;obtain⟨A',c',g,off,hv,hA,hrow⟩:=h.row;injection hv with e1 e2 e3;subst e1 e2 e3;have hll:(l.map Xpr.cells).length=l.length:=by simp
 rw[hll] at hA h hbig ⊢;have HROW:=lh hrow;have HA:=lh hA;have HP:=lh hp;have HALL:=lh hall;have HEN:=lh he;obtain⟨ln,hln⟩:∃ ln,l.length=ln:=⟨_,rfl⟩;have HLN:=lh hln;rw[hln] at hbig ⊢;clear hrow hA hp hall h hll hln he
 go_enter Tryz.func71,Tryz.ntmps71
 go_wp2_with fail
 go_loopg [8] ln (fun j v8 wr=>aAI p l ln w j v8 wr)
 case atStart=>exact⟨0,by omega,by omega,rfl,by simp,Fr.refl _ _⟩
 case round=>
  obtain⟨k,hk,hkn,rfl,hno,hf⟩:=hrel;have HNO:=lh hno;have HF:=lh hf;clear hno hf
  by_cases hkl:k < ln
  ·obtain⟨x,hx⟩:∃ x,l[k]? = some x:=gx (by rw[HLN.o];exact hkl);obtain⟨rfl,hNg⟩:=HA.o (by have:=HLN.o;omega);obtain⟨_,cs,hcs,hcell⟩:=HROW.o k x.cells (by rw[List.getElem?_map,hx];rfl);have hcl:cs.length=13:=hcs.1.trans (kA x);have hc1:(Tryz.prog.info? 109).map (·.size)=some cs.length:=by rw[hcl];exact cD
   have hra:wr.rangeAt g (off+k * 13) cs:=fun j u hj=>by
    have:=hcell j u hj;rw[show off+13 * k+j=off+k * 13+j by rw[Nat.mul_comm]] at this;rw[HF.o.cell (World.block_lt_of_cell? w _ this) (by simp)];exact this
   have hcsr:=hcs.fr HF.o;have HC1:=lh hc1;have HRA:=lh hra;have HCS:=lh hcsr;have HX:=lh hx;have HC:=lh (HP.o x (List.mem_of_getElem? hx) wr cs HF.o hcsr);have hl0:0 < ln:=by omega
   clear hcs hcell hcl hc1 hra hcsr hx;have hen:=HEN.o (.agg cs.toArray);have hal:=HALL.o (.agg cs.toArray)
   go_wp2_with (with_reducible refine wpList_load_mid rfl 109 (.tmp 14) rfl g (off+k * 13) rfl cs _ HRA.o Tryz.underlying109 rfl HC1.o ?_)
   refine HC.o.mono ?_;rintro e w2 ⟨rfl,hf2⟩;have HF2:=lh (HF.o.trans hf2)
   have htk:l.take (k+1)=l.take k ++ [x]:=by
    obtain⟨hk',hx'⟩:=List.getElem?_eq_some_iff.1 HX.o;rw[List.take_succ_eq_append_getElem hk',hx']
   clear hf2 HC hen hal
   cases hpx:p x with
   | true=>
    have HE:Hid (l.any p=true):=lh (List.any_eq_true.2 ⟨x,List.mem_of_getElem? HX.o,hpx⟩);clear hpx htk;go_wp2_with fail;exact HQ.o _ _ ⟨_,rfl,by rw[HE.o,decide_eq_true_eq];omega,HF2.o⟩
   | false=>
    have HNO2:Hid ((l.take (k+1)).any p=false):=lh (by rw[htk,List.any_append,HNO.o];simp[hpx]);clear hpx htk;go_wp2_with fail
    go_roundg (ln - (k+1))
    case measure=>omega
    case rel=>exact⟨k+1,by omega,by omega,by go_num,HNO2.o,HF2.o⟩
  ·have HE:Hid (l.any p=false):=lh (by
    have h9:=HNO.o;rw[List.take_of_length_le (by rw[HLN.o];omega)] at h9;exact h9)
   go_wp2_with fail;exact HQ.o _ _ ⟨_,rfl,by rw[HE.o];rfl,HF.o⟩
theorem nH {w:World} {N:Nat -> Prop} {l:List Xpr} {A:Option Addr} {n cp:Nat} (h:CAt w N (.rows 13 (l.map Xpr.cells)) (.slice A n cp)) (hbig:n<=1000000) {f:FuncId} {first cap:Array Value} {all:Value -> Array Value} (hall:∀ v,first.push v ++ cap=all v)
  (he:∀ v w,(callFunc f (all v)).run Tryz.prog w=.ok (.enter f (all v)) w) (p:Xpr -> Bool)
  (hp:∀ (x:Xpr),x ∈ l -> ∀ (w1:World) (cs:List Value),Fr [] w w1 -> gA w1 N x.cells cs -> Calls Tryz.prog f (all (.agg cs.toArray)) w1 fun e w'=>e=.returned (.bool (p x))/\Fr [] w1 w'):
  RV 43 #[.slice A n cp,.func (.func f) first cap] w (.bool (l.any p)):=by
 refine bA fun R HQ=>?_;have HI:=lh (aAJ h hbig hall he p hp);clear h hall he hp
 go_enter Tryz.func43,Tryz.ntmps43
 go_wp2_with fail;refine HI.o.mono ?_;rintro e w1 ⟨x,rfl,hx,hf⟩;have HF:=lh hf;rw[<- hx] at HQ;clear hf hx;go_wp2_with fail;exact HQ.o _ _ ⟨rfl,HF.o⟩
theorem aAK {w:World} {N:Nat -> Prop} {l:List Slr} {A:Option Addr} {n cp:Nat} (h:CAt w N (.rows 10 (l.map Slr.cells)) (.slice A n cp)) (hbig:n<=1000000) {f:FuncId} {first cap:Array Value} {all:Value -> Array Value} (hall:∀ v,first.push v ++ cap=all v)
  (he:∀ v w,(callFunc f (all v)).run Tryz.prog w=.ok (.enter f (all v)) w) (p:Slr -> Bool)
  (hp:∀ (x:Slr),x ∈ l -> ∀ (w1:World) (cs:List Value),Fr [] w w1 -> gA w1 N x.cells cs -> Calls Tryz.prog f (all (.agg cs.toArray)) w1 fun e w'=>e=.returned (.bool (p x))/\Fr [] w1 w'):
  Calls Tryz.prog 97 #[.slice A n cp,.func (.func f) first cap] w fun e w'=>∃ x:Int,e=.returned (.int .i64 x)/\decide (0<=x)=l.any p/\Fr [] w w':=by
 refine bA fun R HQ=>?_;obtain⟨A',c',g,off,hv,hA,hrow⟩:=h.row;injection hv with e1 e2 e3;subst e1 e2 e3;have hll:(l.map Slr.cells).length=l.length:=by simp
 rw[hll] at hA h hbig ⊢;have HROW:=lh hrow;have HA:=lh hA;have HP:=lh hp;have HALL:=lh hall;have HEN:=lh he;obtain⟨ln,hln⟩:∃ ln,l.length=ln:=⟨_,rfl⟩;have HLN:=lh hln;rw[hln] at hbig ⊢;clear hrow hA hp hall h hll hln he
 go_enter Tryz.func97,Tryz.ntmps97
 go_wp2_with fail
 go_loopg [8] ln (fun j v8 wr=>aAI p l ln w j v8 wr)
 case atStart=>exact⟨0,by omega,by omega,rfl,by simp,Fr.refl _ _⟩
 case round=>
  obtain⟨k,hk,hkn,rfl,hno,hf⟩:=hrel;have HNO:=lh hno;have HF:=lh hf;clear hno hf
  by_cases hkl:k < ln
  ·obtain⟨x,hx⟩:∃ x,l[k]? = some x:=gx (by rw[HLN.o];exact hkl);obtain⟨rfl,hNg⟩:=HA.o (by have:=HLN.o;omega);obtain⟨_,cs,hcs,hcell⟩:=HROW.o k x.cells (by rw[List.getElem?_map,hx];rfl);have hcl:cs.length=10:=hcs.1.trans (aD x);have hc1:(Tryz.prog.info? 50).map (·.size)=some cs.length:=by rw[hcl];exact vJ
   have hra:wr.rangeAt g (off+k * 10) cs:=fun j u hj=>by
    have:=hcell j u hj;rw[show off+10 * k+j=off+k * 10+j by rw[Nat.mul_comm]] at this;rw[HF.o.cell (World.block_lt_of_cell? w _ this) (by simp)];exact this
   have hcsr:=hcs.fr HF.o;have HC1:=lh hc1;have HRA:=lh hra;have HCS:=lh hcsr;have HX:=lh hx;have HC:=lh (HP.o x (List.mem_of_getElem? hx) wr cs HF.o hcsr);have hl0:0 < ln:=by omega
   clear hcs hcell hcl hc1 hra hcsr hx;have hen:=HEN.o (.agg cs.toArray);have hal:=HALL.o (.agg cs.toArray)
   go_wp2_with (with_reducible refine wpList_load_mid rfl 50 (.tmp 14) rfl g (off+k * 10) rfl cs _ HRA.o Tryz.underlying50 rfl HC1.o ?_)
   refine HC.o.mono ?_;rintro e w2 ⟨rfl,hf2⟩;have HF2:=lh (HF.o.trans hf2)
   have htk:l.take (k+1)=l.take k ++ [x]:=by
    obtain⟨hk',hx'⟩:=List.getElem?_eq_some_iff.1 HX.o;rw[List.take_succ_eq_append_getElem hk',hx']
   clear hf2 HC hen hal
   cases hpx:p x with
   | true=>
    have HE:Hid (l.any p=true):=lh (List.any_eq_true.2 ⟨x,List.mem_of_getElem? HX.o,hpx⟩);clear hpx htk;go_wp2_with fail;exact HQ.o _ _ ⟨_,rfl,by rw[HE.o,decide_eq_true_eq];omega,HF2.o⟩
   | false=>
    have HNO2:Hid ((l.take (k+1)).any p=false):=lh (by rw[htk,List.any_append,HNO.o];simp[hpx]);clear hpx htk;go_wp2_with fail
    go_roundg (ln - (k+1))
    case measure=>omega
    case rel=>exact⟨k+1,by omega,by omega,by go_num,HNO2.o,HF2.o⟩
  ·have HE:Hid (l.any p=false):=lh (by
    have h9:=HNO.o;rw[List.take_of_length_le (by rw[HLN.o];omega)] at h9;exact h9)
   go_wp2_with fail;exact HQ.o _ _ ⟨_,rfl,by rw[HE.o];rfl,HF.o⟩
theorem aCt {w:World} {N:Nat -> Prop} {l:List Slr} {A:Option Addr} {n cp:Nat} (h:CAt w N (.rows 10 (l.map Slr.cells)) (.slice A n cp)) (hbig:n<=1000000) {f:FuncId} {first cap:Array Value} {all:Value -> Array Value} (hall:∀ v,first.push v ++ cap=all v)
  (he:∀ v w,(callFunc f (all v)).run Tryz.prog w=.ok (.enter f (all v)) w) (p:Slr -> Bool)
  (hp:∀ (x:Slr),x ∈ l -> ∀ (w1:World) (cs:List Value),Fr [] w w1 -> gA w1 N x.cells cs -> Calls Tryz.prog f (all (.agg cs.toArray)) w1 fun e w'=>e=.returned (.bool (p x))/\Fr [] w1 w'):
  RV 62 #[.slice A n cp,.func (.func f) first cap] w (.bool (l.any p)):=by
 refine bA fun R HQ=>?_;have HI:=lh (aAK h hbig hall he p hp);clear h hall he hp
 go_enter Tryz.func62,Tryz.ntmps62
 go_wp2_with fail;refine HI.o.mono ?_;rintro e w1 ⟨x,rfl,hx,hf⟩;have HF:=lh hf;rw[<- hx] at HQ;clear hf hx;go_wp2_with fail;exact HQ.o _ _ ⟨rfl,HF.o⟩
theorem aAL {w:World} {N:Nat -> Prop} {l:List Sgm} {A:Option Addr} {n cp:Nat} (h:CAt w N (.rows 2 (l.map Sgm.cells)) (.slice A n cp)) (hbig:n<=1000000) {f:FuncId} {first cap:Array Value} {all:Value -> Array Value} (hall:∀ v,first.push v ++ cap=all v)
  (he:∀ v w,(callFunc f (all v)).run Tryz.prog w=.ok (.enter f (all v)) w) (p:Sgm -> Bool)
  (hp:∀ (x:Sgm),x ∈ l -> ∀ (w1:World) (cs:List Value),Fr [] w w1 -> gA w1 N x.cells cs -> Calls Tryz.prog f (all (.agg cs.toArray)) w1 fun e w'=>e=.returned (.bool (p x))/\Fr [] w1 w'):
  Calls Tryz.prog 65 #[.slice A n cp,.func (.func f) first cap] w fun e w'=>∃ x:Int,e=.returned (.int .i64 x)/\decide (0<=x)=l.any p/\Fr [] w w':=by
 refine bA fun R HQ=>?_;obtain⟨A',c',g,off,hv,hA,hrow⟩:=h.row;injection hv with e1 e2 e3;subst e1 e2 e3;have hll:(l.map Sgm.cells).length=l.length:=by simp
 rw[hll] at hA h hbig ⊢;have HROW:=lh hrow;have HA:=lh hA;have HP:=lh hp;have HALL:=lh hall;have HEN:=lh he;obtain⟨ln,hln⟩:∃ ln,l.length=ln:=⟨_,rfl⟩;have HLN:=lh hln;rw[hln] at hbig ⊢;clear hrow hA hp hall h hll hln he
 go_enter Tryz.func65,Tryz.ntmps65
 go_wp2_with fail
 go_loopg [8] ln (fun j v8 wr=>aAI p l ln w j v8 wr)
 case atStart=>exact⟨0,by omega,by omega,rfl,by simp,Fr.refl _ _⟩
 case round=>
  obtain⟨k,hk,hkn,rfl,hno,hf⟩:=hrel;have HNO:=lh hno;have HF:=lh hf;clear hno hf
  by_cases hkl:k < ln
  ·obtain⟨x,hx⟩:∃ x,l[k]? = some x:=gx (by rw[HLN.o];exact hkl);obtain⟨rfl,hNg⟩:=HA.o (by have:=HLN.o;omega);obtain⟨_,cs,hcs,hcell⟩:=HROW.o k x.cells (by rw[List.getElem?_map,hx];rfl);have hcl:cs.length=2:=hcs.1.trans (vL x);have hc1:(Tryz.prog.info? 54).map (·.size)=some cs.length:=by rw[hcl];exact aDV
   have hra:wr.rangeAt g (off+k * 2) cs:=fun j u hj=>by
    have:=hcell j u hj;rw[show off+2 * k+j=off+k * 2+j by rw[Nat.mul_comm]] at this;rw[HF.o.cell (World.block_lt_of_cell? w _ this) (by simp)];exact this
   have hcsr:=hcs.fr HF.o;have HC1:=lh hc1;have HRA:=lh hra;have HCS:=lh hcsr;have HX:=lh hx;have HC:=lh (HP.o x (List.mem_of_getElem? hx) wr cs HF.o hcsr);have hl0:0 < ln:=by omega
   clear hcs hcell hcl hc1 hra hcsr hx;have hen:=HEN.o (.agg cs.toArray);have hal:=HALL.o (.agg cs.toArray)
   go_wp2_with (with_reducible refine wpList_load_mid rfl 54 (.tmp 14) rfl g (off+k * 2) rfl cs _ HRA.o Tryz.underlying54 rfl HC1.o ?_)
   refine HC.o.mono ?_;rintro e w2 ⟨rfl,hf2⟩;have HF2:=lh (HF.o.trans hf2)
   have htk:l.take (k+1)=l.take k ++ [x]:=by
    obtain⟨hk',hx'⟩:=List.getElem?_eq_some_iff.1 HX.o;rw[List.take_succ_eq_append_getElem hk',hx']
   clear hf2 HC hen hal
   cases hpx:p x with
   | true=>
    have HE:Hid (l.any p=true):=lh (List.any_eq_true.2 ⟨x,List.mem_of_getElem? HX.o,hpx⟩);clear hpx htk;go_wp2_with fail;exact HQ.o _ _ ⟨_,rfl,by rw[HE.o,decide_eq_true_eq];omega,HF2.o⟩
   | false=>
    have HNO2:Hid ((l.take (k+1)).any p=false):=lh (by rw[htk,List.any_append,HNO.o];simp[hpx]);clear hpx htk;go_wp2_with fail
    go_roundg (ln - (k+1))
    case measure=>omega
    case rel=>exact⟨k+1,by omega,by omega,by go_num,HNO2.o,HF2.o⟩
  ·have HE:Hid (l.any p=false):=lh (by
    have h9:=HNO.o;rw[List.take_of_length_le (by rw[HLN.o];omega)] at h9;exact h9)
   go_wp2_with fail;exact HQ.o _ _ ⟨_,rfl,by rw[HE.o];rfl,HF.o⟩
theorem yV {w:World} {N:Nat -> Prop} {l:List Sgm} {A:Option Addr} {n cp:Nat} (h:CAt w N (.rows 2 (l.map Sgm.cells)) (.slice A n cp)) (hbig:n<=1000000) {f:FuncId} {first cap:Array Value} {all:Value -> Array Value} (hall:∀ v,first.push v ++ cap=all v)
  (he:∀ v w,(callFunc f (all v)).run Tryz.prog w=.ok (.enter f (all v)) w) (p:Sgm -> Bool)
  (hp:∀ (x:Sgm),x ∈ l -> ∀ (w1:World) (cs:List Value),Fr [] w w1 -> gA w1 N x.cells cs -> Calls Tryz.prog f (all (.agg cs.toArray)) w1 fun e w'=>e=.returned (.bool (p x))/\Fr [] w1 w'):
  RV 35 #[.slice A n cp,.func (.func f) first cap] w (.bool (l.any p)):=by
 refine bA fun R HQ=>?_;have HI:=lh (aAL h hbig hall he p hp);clear h hall he hp
 go_enter Tryz.func35,Tryz.ntmps35
 go_wp2_with fail;refine HI.o.mono ?_;rintro e w1 ⟨x,rfl,hx,hf⟩;have HF:=lh hf;rw[<- hx] at HQ;clear hf hx;go_wp2_with fail;exact HQ.o _ _ ⟨rfl,HF.o⟩
section
variable {P : Program} {ops : Array Oper} {rest : List Oper} {o : Oper} {a : Act} {w : World} {Q : Exit -> Act -> World -> Prop}
theorem sT (hg:Region.wanted o (yielded ops a.tmps)=true) (h:∀ K:Act -> World -> Prop,(∀ a w,wpList P ops Q rest a w -> K a w) -> o.wp P a w K Q):wpList P ops Q (o :: rest) a w:=
 wpList_step fun K hK=>by rw[if_pos hg];exact h K hK
theorem eJ (hg:Region.wanted o (yielded ops a.tmps)=true) (ty:TypeId) (x:Operand) (ho:o.op=.load ty x) (b off:Nat) (hx:a.eval x=.pointer (some ⟨b,off,none⟩)) (cs:List Value) (d:TypeDesc) (hc:w.rangeAt b off cs)
  (hu:P.underlying ty=some d) (hd:d.isRow=true) (hi:(P.info? ty).map (·.size)=some cs.length) (h:wpList P ops Q rest (a.put o.dst (.agg cs.toArray)) w):wpList P ops Q (o :: rest) a w:=
 sT hg fun _ hK=>wp_load_mid ty x ho b off hx cs d hc hu hd hi (hK _ _ h)
end
section
variable {w : World} {N : Nat -> Prop} {cs : List Value}
theorem aZ {x:Slr} (h:gA w N x.cells cs):cs[0]? = some (.int .i64 x.what):=by
 obtain⟨what,name,at_,has,s,f⟩:=x;obtain⟨cs',rfl,_⟩:=h.lf
 rfl
theorem eF {x:Xpr} (h:gA w N x.cells cs):cs[0]? = some (.int .i64 x.what):=by
 obtain⟨what,l,op,q,v⟩:=x;obtain⟨cs',rfl,_⟩:=h.lf
 rfl
theorem aAM {x:Slr} (h:gA w N x.cells cs):RV 37 #[.agg cs.toArray] w (.bool x.single):=by
 refine bA fun R HQ=>?_;have hw:=aZ h;have HS:Hid (x.single=(x.what == 1 || x.what == 3)):=lh rfl;obtain⟨wh,hwh⟩:∃ wh,x.what=wh:=⟨_,rfl⟩;rw[hwh] at hw HS;have HW:=lh hw;clear h hw hwh
 go_enter Tryz.func37,Tryz.ntmps37
 go_wp2_with (with_reducible refine dB rfl 50 (.tmp 0) rfl cs rfl ?_)
 intro w0 hb0 hf0 hz0;have c0:=hb0.at_ HW.o;have HF:=lh hf0;clear hb0 hf0 hz0
 by_cases h1:wh=1
 ·have d1:(wh == 1)=true:=by simpa using h1
  rw[HS.o,d1] at HQ;clear h1;go_wp2_with fail;exact HQ.o _ _ ⟨rfl,HF.o⟩
 ·have d1:(wh == 1)=false:=by simpa using h1
  rw[HS.o,d1,Bool.false_or] at HQ;clear h1;go_wp2_with fail;exact HQ.o _ _ ⟨rfl,HF.o⟩
theorem sF {x:Sgm} (h:gA w N x.cells cs):∃ A c,cs=[.bool x.deep,.slice A x.l.length c]/\CAt w N (.rows 10 (x.l.map Slr.cells)) (.slice A x.l.length c):=by
 obtain⟨dp,l⟩:=x;obtain⟨cs',rfl,h1⟩:=h.lf;obtain⟨v,cs'',rfl,h2,h3⟩:=h1.inv;rw[yE] at h2;obtain⟨A,c,rfl,_⟩:=h2.slice;rw[h3.nil_inv];exact⟨A,c,by simp[Sgm.deep,Sgm.l],by simpa[Sgm.l] using h2⟩
theorem gD {x:Qry} (h:gA w N x.cells cs):∃ A c,cs=[.bool x.rel,.slice A x.l.length c]/\CAt w N (.rows 2 (x.l.map Sgm.cells)) (.slice A x.l.length c):=by
 obtain⟨rel,l⟩:=x;obtain⟨cs',rfl,h1⟩:=h.lf;obtain⟨v,cs'',rfl,h2,h3⟩:=h1.inv;rw[dE] at h2;obtain⟨A,c,rfl,_⟩:=h2.slice;rw[h3.nil_inv];exact⟨A,c,by simp[Qry.rel,Qry.l],by simpa[Qry.l] using h2⟩
theorem wU {x:Sgm} (h:gA w N x.cells cs):RV 36 #[.agg cs.toArray] w (.bool (!x.single)):=by
 refine bA fun R HQ=>?_;obtain⟨A,c,rfl,hc⟩:=sF h;obtain⟨dp,l⟩:=x;simp only[Sgm.deep,Sgm.l] at hc ⊢;have HC:=lh hc;clear h hc
 cases dp with
 | true=>
  have HE:Hid ((!Sgm.single (.mk true l))=true):=lh (by simp[Sgm.single,Sgm.deep]);rw[HE.o] at HQ
  go_enter Tryz.func36,Tryz.ntmps36
  go_wp2_with fail;exact HQ.o _ _ ⟨rfl,(Fr.refl [] w).alloc _⟩
 | false=>
  obtain⟨A',c',g,off,hv,hA,hrow⟩:=HC.o.row;injection hv with e1 e2 e3;subst e1 e3;have hll:(l.map Slr.cells).length=l.length:=by simp
  rw[hll] at hA;obtain⟨ln,hln⟩:∃ ln,l.length=ln:=⟨_,rfl⟩;have HLN:=lh hln;rw[hln] at hA ⊢
  by_cases h1:ln=1
  ·subst h1
   obtain⟨x,rfl⟩:∃ x,l=[x]:=by
    match l,hln with
    | [x],_=>exact⟨x,rfl⟩
   have HE:Hid ((!Sgm.single (.mk false [x])) = !x.single):=lh (by simp[Sgm.single,Sgm.deep,Sgm.l]);rw[HE.o] at HQ;obtain⟨rfl,hNg⟩:=hA (by omega);obtain⟨_,cs,hcs,hcell⟩:=hrow 0 x.cells rfl;have hcl:cs.length=10:=hcs.1.trans (aD x);have hc1:(Tryz.prog.info? 50).map (·.size)=some cs.length:=by rw[hcl];exact vJ
   have HCELL:=lh hcell;have HCS:=lh hcs;have HC1:=lh hc1;have HCL:=lh hcl;clear hrow hcell hcs hc1 hcl hll hln
   go_enter Tryz.func36,Tryz.ntmps36
   go_upto_region 1 with fail
   have hfa:Fr [] w (w.alloc (.cells #[.bool false,.slice (some ⟨g,off,none⟩) 1 c] 54)):=(Fr.refl [] w).alloc _;have hba:=Blk.new w 54 [.bool false,.slice (some ⟨g,off,none⟩) 1 c];generalize w.alloc (.cells #[.bool false,.slice (some ⟨g,off,none⟩) 1 c] 54)=w1 at *
   have hra:w1.rangeAt g off cs:=fun j u hj=>by
    have:=HCELL.o j u hj;rw[show off+10 * 0+j=off+j by omega] at this;rw[hfa.cell (World.block_lt_of_cell? w _ this) (by simp)];exact this
   have HRA:=lh hra;have HFA:=lh hfa;have HSI:=lh (aAM (HCS.o.fr hfa));have b0:=hba.at_ (i:=0) rfl;have b1:=hba.at_ (i:=1) rfl;clear hra hfa hba
   go_wp2_with (refine eJ (by kernel_rfl) 50 (.tmp 14) rfl g off rfl cs _ HRA.o Tryz.underlying50 rfl HC1.o ?_)
   refine HSI.o.mono ?_;rintro e w2 ⟨rfl,hf2⟩;have HF2:=lh (HFA.o.trans hf2);clear hf2;go_wp2_with fail;exact HQ.o _ _ ⟨rfl,HF2.o⟩
  ·have HE:Hid ((!Sgm.single (.mk false l))=true):=lh (by
    unfold Sgm.single;simp only[Sgm.deep,Sgm.l]
    match l,hln with
    | [x],h9=>exact absurd (by simpa using h9.symm) h1
    | [],_=>rfl
    | a :: b :: l,_=>rfl)
   rw[HE.o] at HQ;have d1:((ln:Int) != 1)=true:=by rw[bne_iff_ne];omega
   clear hA hrow hll hln
   go_enter Tryz.func36,Tryz.ntmps36
   go_wp2_with fail;exact HQ.o _ _ ⟨rfl,(Fr.refl [] w).alloc _⟩
theorem eQ {q:Qry} (h:gA w N q.cells cs) (hbig:q.l.length<=1000000):RV 18 #[.agg cs.toArray] w (.bool q.singular):=by
 refine bA fun R HQ=>?_;obtain⟨A,c,rfl,hc⟩:=gD h;have HE:Hid (q.singular = !(q.l.any fun x=>!x.single)):=lh (by unfold Qry.singular;rw[List.not_any_eq_all_not];simp);rw[HE.o] at HQ;have hfa:Fr [] w (w.alloc (.cells #[.bool q.rel,.slice A q.l.length c] 25)):=(Fr.refl [] w).alloc _;have HC:=lh (yV (hc.fr hfa) hbig (f:=36) (first:=#[]) (cap:=#[]) (all:=fun v=>#[v]) (fun v=>rfl) (fun v w=>by kernel_rfl) (fun x=>!x.single) (fun x _ w1 cs1 _ h1=>wU h1));have HFA:=lh hfa;clear h hc hfa;obtain⟨ln,hln⟩:∃ ln,q.l.length=ln:=⟨_,rfl⟩;rw[hln] at HC HFA ⊢;clear hln hbig
 go_enter Tryz.func18,Tryz.ntmps18
 go_wp2_with fail;refine HC.o.mono ?_;rintro e w2 ⟨rfl,hf2⟩;have HF2:=lh (HFA.o.trans hf2);clear hf2;go_wp2_with fail;exact HQ.o _ _ ⟨rfl,HF2.o⟩
end
section
variable {w : World} {N : Nat -> Prop} {cs : List Value}
theorem sM {x:Xpr} (h:gA w N x.cells cs):cs[2]? = some (.string ⟨x.op.toArray⟩):=by
 obtain⟨what,l,op,q,v⟩:=x;obtain⟨cs',rfl,h1⟩:=h.lf;obtain⟨v,cs'',rfl,_,h3⟩:=h1.inv;obtain⟨cs3,rfl,_⟩:=h3.lf
 rfl
theorem tM {x:Xpr} (h:gA w N x.cells cs):∃ A c,cs[1]? = some (.slice A x.l.length c)/\CAt w N (.rows 13 (x.l.map Xpr.cells)) (.slice A x.l.length c):=by
 obtain⟨what,l,op,q,v⟩:=x;obtain⟨cs',rfl,h1⟩:=h.lf;obtain⟨v,cs'',rfl,h2,_⟩:=h1.inv;rw[oC] at h2;obtain⟨A,c,rfl,_⟩:=h2.slice;exact⟨A,c,by simp[Xpr.l],by simpa[Xpr.l] using h2⟩
theorem mJ {x:Xpr} (h:gA w N x.cells cs):∃ A c,cs[3]? = some (.bool x.q.rel)/\cs[4]? = some (.slice A x.q.l.length c)/\gA w N x.q.cells [.bool x.q.rel,.slice A x.q.l.length c]:=by
 obtain⟨what,l,op,⟨rel,ql⟩,v⟩:=x;obtain⟨cs',rfl,h1⟩:=h.lf;obtain⟨v1,cs'',rfl,_,h3⟩:=h1.inv;obtain⟨cs3,rfl,h4⟩:=h3.lf;obtain⟨cs4,rfl,h5⟩:=gA.lf (a:=.bool rel) (row:=.rows 2 (jJ ql) :: v.cells) h4;obtain⟨v2,cs5,rfl,h6,_⟩:=h5.inv;have h7:=h6;rw[dE] at h7;obtain⟨A,c,rfl,_⟩:=h7.slice;refine⟨A,c,rfl,by simp[Xpr.q,Qry.l],?_⟩;have h8:gA w N (Qry.cells (.mk rel ql)) [.bool rel,.slice A (ql.map Sgm.cells).length c]:=.tl rfl (.cons h6 (.nil _ _))
 simpa[Xpr.q,Qry.l,Qry.rel] using h8
theorem zV {x:Xpr} (h:gA w N x.cells cs) (hq:x.q.l.length<=1000000) (ho:x.op.length<=1000000):RV 116 #[.agg cs.toArray] w (.bool x.value):=by
 refine bA fun R HQ=>?_;obtain⟨wh,hwh⟩:∃ wh,x.what=wh:=⟨_,rfl⟩;obtain⟨op,hop⟩:∃ op:ByteArray,op=⟨x.op.toArray⟩:=⟨_,rfl⟩;have hopb:aA op=x.op:=by rw[hop];simp[aA]
 have hw0:=eF h;have hw2:=sM h;rw[hwh] at hw0;rw[<- hop] at hw2;have hos:op.size<=maxLen:=by rw[lA hopb];unfold maxLen;omega
 have HW0:=lh hw0;have HW2:=lh hw2;have HOPB:=lh hopb;have HOS:=lh hos;have HH:=lh h;have HWH:=lh hwh;clear h hw0 hw2 hopb hos hop hwh;have HE:Hid (x.value=(wh == 5 || (wh == 6 && x.q.singular) || (wh == 7 && tI (aA op) && !cB (aA op)))):=lh (by unfold Xpr.value;rw[HWH.o,HOPB.o])
 go_enter Tryz.func116,Tryz.ntmps116
 go_wp2_with (with_reducible refine dB rfl 109 (.tmp 0) rfl cs rfl ?_)
 intro w0 hb0 hf0 hz0;have c0:=hb0.at_ HW0.o;have c2:=hb0.at_ HW2.o;obtain⟨A,cq,hc3,hc4,hrq⟩:=mJ HH.o;have c3:=hb0.at_ hc3;have c4:=hb0.at_ hc4;have HF0:=lh hf0;have HRQ:=lh (hrq.fr hf0);have hlt:=hb0.lt;clear hb0 hf0 hz0 hc3 hc4 hrq;go_upto_region 1 with fail
 refine mA (fun W=>W.cell? ⟨w.heap.size,2,none⟩=some (.string op)/\True) [1,2,4,5,6] (by kernel_rfl) ?_;refine tks [1,2] ?_
 iterate 2 (refine tk rfl rfl ⟨c2,trivial⟩ rfl (fun _ hW=>by(obtain⟨q0,_⟩:=hW;go_simp) <;> with_reducible rfl) ?_;simp only[nrm])
 refine tke ?_;refine sp 0 rfl rfl rfl fun K hK=>?_;refine zA (l:=[]) rfl [] rfl (fun W=>by kernel_rfl) (rN.mono ?_);rintro e w2 ⟨mb,rfl,hcm,hf2⟩;have hf02:Fr [] w0 w2:=((Fr.refl [] w0).drew).trans hf2;have hk2:=dA hf02 c2;have hlk:=hcm.look_ok op HOS.o;refine⟨_,rfl,hK _ _ (fun _=>⟨hk2,trivial⟩) ?_⟩;simp only[nrm];clear hK;refine sp 3 rfl rfl rfl fun K hK=>?_;refine tA (v:=.tuple #[.bool (cB (aA op)),.bool (tI (aA op))]) (by simp[execOp,Act.eval,hlk,Result.andThen]) (hK _ _ (fun _=>⟨hk2,trivial⟩) ?_);simp only[nrm];clear hK;refine tks [4,5,6] ?_
 iterate 3 (refine tk rfl rfl ⟨hk2,trivial⟩ rfl (fun _ hW=>by(obtain⟨q0,_⟩:=hW;go_simp) <;> with_reducible rfl) ?_;simp only[nrm])
 refine tke ?_;refine sp 7 rfl rfl rfl fun K hK=>?_;refine tA (v:=?aq1_7) ?yq1_7 (hK _ _ (fun _=>⟨hk2,trivial⟩) ?_)
 case yq1_7=>go_simp <;> with_reducible rfl
 simp only[nrm];refine sp 8 rfl rfl rfl fun K hK=>?_;refine tA (v:=?aq1_8) ?yq1_8 (hK _ _ (fun _=>⟨hk2,trivial⟩) ?_)
 case yq1_8=>go_simp <;> with_reducible rfl
 simp only[nrm];refine wd ?_ _;have k0:=dA hf02 c0;have k3:=dA hf02 c3;have k4:=dA hf02 c4;have HF2:=lh (HF0.o.trans hf02);have HSG:=lh (eQ (HRQ.o.fr hf02) hq);clear hf2 hf02 hcm hlk hk2 c0 c2 c3 c4 HF0 HRQ;generalize tI (aA op)=ic at *;generalize cB (aA op)=tc at *;rw[HE.o] at HQ;obtain⟨sg,hsg⟩:∃ sg,x.q.singular=sg:=⟨_,rfl⟩;obtain⟨ql,hql⟩:∃ ql,x.q.l.length=ql:=⟨_,rfl⟩;rw[hsg] at HQ HSG;rw[hql] at HSG k4;clear hsg hql hq HE
 by_cases h5:wh=5
 ·have d5:(wh == 5)=true:=by simpa using h5
  rw[d5] at HQ;clear h5;go_wp2_with fail;exact HQ.o _ _ ⟨by simp,HF2.o⟩
 ·have d5:(wh == 5)=false:=by simpa using h5
  by_cases h6:wh=6
  ·have d6:(wh == 6)=true:=by simpa using h6
   have d7:(wh == 7)=false:=bF (by omega)
   rw[d5,d6,d7] at HQ;clear h5 h6;go_wp2_with fail;refine HSG.o.mono ?_;rintro e w3 ⟨rfl,hf3⟩;have HF3:=lh (HF2.o.trans hf3);have j0:=dA hf3 k0;clear hf3 k0
   cases sg <;> (go_wp2_with fail;exact HQ.o _ _ ⟨rfl,HF3.o⟩)
  ·have d6:(wh == 6)=false:=by simpa using h6
   by_cases h7:wh=7
   ·have d7:(wh == 7)=true:=by simpa using h7
    rw[d5,d6,d7] at HQ;clear h5 h6 h7
    cases ic <;> cases tc <;> (go_wp2_with fail;exact HQ.o _ _ ⟨rfl,HF2.o⟩)
   ·have d7:(wh == 7)=false:=by simpa using h7
    rw[d5,d6,d7] at HQ;clear h5 h6 h7;go_wp2_with fail;exact HQ.o _ _ ⟨rfl,HF2.o⟩
theorem tN {x:Xpr} (h:gA w N x.cells cs) (ho:x.op.length<=1000000):RV 47 #[.agg cs.toArray] w (.bool x.truth):=by
 refine bA fun R HQ=>?_;obtain⟨wh,hwh⟩:∃ wh,x.what=wh:=⟨_,rfl⟩;obtain⟨op,hop⟩:∃ op:ByteArray,op=⟨x.op.toArray⟩:=⟨_,rfl⟩;have hopb:aA op=x.op:=by rw[hop];simp[aA]
 have hw0:=eF h;have hw2:=sM h;rw[hwh] at hw0;rw[<- hop] at hw2;have hos:op.size<=maxLen:=by rw[lA hopb];unfold maxLen;omega
 have HW0:=lh hw0;have HW2:=lh hw2;have HOPB:=lh hopb;have HOS:=lh hos;have HH:=lh h;have HWH:=lh hwh;clear h hw0 hw2 hopb hos hop hwh;have HE:Hid (x.truth=(decide (1<=wh/\wh<=4) || wh == 6 || (wh == 7 && cB (aA op)))):=lh (by unfold Xpr.truth;rw[HWH.o,HOPB.o])
 go_enter Tryz.func47,Tryz.ntmps47
 go_wp2_with (with_reducible refine dB rfl 109 (.tmp 0) rfl cs rfl ?_)
 intro w0 hb0 hf0 hz0;have c0:=hb0.at_ HW0.o;have c2:=hb0.at_ HW2.o;have HF0:=lh hf0;clear hb0 hf0 hz0;rw[HE.o] at HQ
 by_cases h7:wh=7
 ·have hw7:decide (1<=wh/\wh<=4)=false:=dF (by omega)
  have hv6:(wh == 6)=false:=bF (by omega)
  have hv7:(wh == 7)=true:=by simpa using h7
  rw[hw7,hv6,hv7] at HQ;subst h7;clear hw7 hv6 hv7;go_upto_region 1 with fail
  refine mA (fun W=>W.cell? ⟨w.heap.size,0,none⟩=some (.int .i64 7)/\W.cell? ⟨w.heap.size,2,none⟩=some (.string op)) [0,1,2,3,4,5,6,7,8,9,10,11,12,13,14,15,16,17,19,20,22,23] (by kernel_rfl) ?_;refine tks [0,1,2,3,4,5,6,7,8,9,10,11,12,13,14,15,16,17,19,20] ?_
  iterate 20 (refine tk rfl rfl ⟨c0,c2⟩ rfl (fun _ hW=>by(obtain⟨q0,q1⟩:=hW;go_simp) <;> with_reducible rfl) ?_;simp only[nrm])
  refine tke ?_;refine sD (j:=18) (some 21) rfl rfl (by kernel_rfl) rfl fun K hK=>?_;refine zA (l:=[]) rfl [] rfl (fun W=>by kernel_rfl) (rN.mono ?_);rintro e w2 ⟨mb,rfl,hcm,hf2⟩;have hf02:Fr [] w0 w2:=((Fr.refl [] w0).drew).trans hf2;have hk0:=dA hf02 c0;have hk2:=dA hf02 c2;have hlk:=hcm.look op HOS.o;refine⟨_,rfl,hK _ _ (fun _=>⟨hk0,hk2⟩) ?_⟩;simp only[nrm];clear hK;refine sD (j:=21) (some 24) rfl rfl (by kernel_rfl) rfl fun K hK=>?_;refine tA (v:=.bool (cB (aA op))) (by simp[execOp,Act.eval,hlk,Result.andThen]) (hK _ _ (fun _=>⟨hk0,hk2⟩) ?_);simp only[nrm];clear hK;refine tks [22,23] ?_
  iterate 2 (refine tk rfl rfl ⟨hk0,hk2⟩ rfl (fun _ hW=>by(obtain⟨q0,q1⟩:=hW;go_simp) <;> with_reducible rfl) ?_;simp only[nrm])
  refine tke ?_;refine sp 24 rfl rfl rfl fun K hK=>?_;refine tA (v:=?aq2_24) ?yq2_24 (hK _ _ (fun _=>⟨hk0,hk2⟩) ?_)
  case yq2_24=>go_simp <;> with_reducible rfl
  simp only[nrm];refine wd ?_ _;have HF2:=lh (HF0.o.trans hf02);clear hf2 hf02 hcm hlk hk0 hk2 c0 c2;go_wp2_with fail;exact HQ.o _ _ ⟨by simp,HF2.o⟩
 ·have d7:(wh == 7)=false:=by simpa using h7
  rw[d7] at HQ
  by_cases h1:1<=wh
  ·have d1:decide (1<=wh)=true:=by simpa using h1
   by_cases h4:wh<=4
   ·have d4:decide (wh<=4)=true:=by simpa using h4
    rw[decide_eq_true (show 1<=wh/\wh<=4 from⟨h1,h4⟩)] at HQ;clear h7;go_upto_region 1 with fail
    go_quiet (fail)
    have HF2:=lh (HF0.o.drewN nq);generalize w0.drewN nq=w2 at *;clear c0 c2;go_wp2_with fail;exact HQ.o _ _ ⟨by simp,HF2.o⟩
   ·have d4:decide (wh<=4)=false:=by simpa using h4
    rw[decide_eq_false (show ¬ (1<=wh/\wh<=4) from fun h=>h4 h.2)] at HQ
    by_cases h6:wh=6
    ·have d6:(wh == 6)=true:=by simpa using h6
     rw[d6] at HQ;clear h6 h7;go_upto_region 1 with fail
     go_quiet (fail)
     have HF2:=lh (HF0.o.drewN nq);generalize w0.drewN nq=w2 at *;clear c0 c2;go_wp2_with fail;exact HQ.o _ _ ⟨by simp,HF2.o⟩
    ·have d6:(wh == 6)=false:=by simpa using h6
     rw[d6] at HQ;clear h6 h7;go_upto_region 1 with fail
     go_quiet (fail)
     have HF2:=lh (HF0.o.drewN nq);generalize w0.drewN nq=w2 at *;clear c0 c2;go_wp2_with fail;exact HQ.o _ _ ⟨by simp,HF2.o⟩
  ·have d1:decide (1<=wh)=false:=by simpa using h1
   rw[decide_eq_false (show ¬ (1<=wh/\wh<=4) from fun h=>h1 h.1)] at HQ
   by_cases h6:wh=6
   ·have d6:(wh == 6)=true:=by simpa using h6
    rw[d6] at HQ;clear h6 h7;go_upto_region 1 with fail
    go_quiet (fail)
    have HF2:=lh (HF0.o.drewN nq);generalize w0.drewN nq=w2 at *;clear c0 c2;go_wp2_with fail;exact HQ.o _ _ ⟨by simp,HF2.o⟩
   ·have d6:(wh == 6)=false:=by simpa using h6
    rw[d6] at HQ;clear h6 h7;go_upto_region 1 with fail
    go_quiet (fail)
    have HF2:=lh (HF0.o.drewN nq);generalize w0.drewN nq=w2 at *;clear c0 c2;go_wp2_with fail;exact HQ.o _ _ ⟨by simp,HF2.o⟩
end
end
end Go.Proofs.YtbggkiebfflcdaaGreatDoor
