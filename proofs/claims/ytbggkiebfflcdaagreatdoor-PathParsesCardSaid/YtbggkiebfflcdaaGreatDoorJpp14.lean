/-
  Joined by join.py: Gs Gt
-/
import Derived.Laws.EntriesVeiled
import Derived.Test.YtbggkiebfflcdaaGreatDoorJpp13
set_option maxRecDepth 100000
set_option maxHeartbeats 32000000
namespace Go.Proofs.YtbggkiebfflcdaaGreatDoor
section
open Go.RowKit Go.Shelf
section
variable {w : World} {N : Nat -> Prop} {cs ds : List Value}
theorem aCu {x y:Xpr} (h:gA w N x.cells cs) (h2:gA w N y.cells ds) (ho:x.op.length<=1000000) (hq:y.q.l.length<=1000000) (ho2:y.op.length<=1000000):RV 117 #[.agg cs.toArray,.agg ds.toArray] w (.bool (x.asked y)):=by
 refine bA fun R HQ=>?_;obtain⟨wh,hwh⟩:∃ wh,x.what=wh:=⟨_,rfl⟩;obtain⟨op,hop⟩:∃ op:ByteArray,op=⟨x.op.toArray⟩:=⟨_,rfl⟩;have hopb:aA op=x.op:=by rw[hop];simp[aA]
 have hw0:=eF h;have hw2:=sM h;rw[hwh] at hw0;rw[<- hop] at hw2;have hos:op.size<=maxLen:=by rw[lA hopb];unfold maxLen;omega
 have HW0:=lh hw0;have HW2:=lh hw2;have HOPB:=lh hopb;have HOS:=lh hos;have HH:=lh h;have HWH:=lh hwh;clear h hw0 hw2 hopb hos hop hwh;have q1:(op.toList == [99,111,117,110,116])=decide (aA op=nG):=nC op nG;have q2:(op.toList == [118,97,108,117,101])=decide (aA op=oG):=nC op oG;have HE:Hid (x.asked y=if aA op=nG ∨ aA op=oG then y.what == 6 else y.value):=lh (by unfold Xpr.asked;rw[HOPB.o]);have HY0:=lh (eF h2);have HY2:=lh h2;have HDL:Hid (ds.length=13):=lh (h2.1.trans (kA y));clear h2;rw[HE.o] at HQ
 go_enter Tryz.func117,Tryz.ntmps117
 go_wp2_with (with_reducible refine dB rfl 109 (.tmp 0) rfl cs rfl ?_)
 intro w0 hb0 hf0 hz0;have HF0:=lh hf0;have HC0:=lh hb0;clear hb0 hz0 hf0
 go_wp2_with (with_reducible refine dB rfl 109 (.tmp 1) rfl ds rfl ?_)
 intro w1 hb1 hf1 hz1;have c2:=(HC0.o.fr hf1).at_ HW2.o;have y0:=hb1.at_ HY0.o;have HF1:=lh (HF0.o.trans hf1);have HB1:=lh hb1;have hl0:=(HC0.o.fr hf1).lt;have hl1:=hb1.lt;clear hb1 hf1 hz1
 by_cases h1:aA op=nG
 ·rw[decide_eq_true h1] at q1;rw[if_pos (.inl h1)] at HQ;clear h1;go_wp2_with fail;exact HQ.o _ _ ⟨rfl,HF1.o⟩
 ·rw[decide_eq_false h1] at q1
  by_cases h3:aA op=oG
  ·rw[decide_eq_true h3] at q2;rw[if_pos (.inr h3)] at HQ;clear h1 h3;go_wp2_with fail;exact HQ.o _ _ ⟨rfl,HF1.o⟩
  ·rw[decide_eq_false h3] at q2;rw[if_neg (fun h=>h.elim h1 h3)] at HQ;have HV:=lh (zV (HY2.o.fr HF1.o) hq ho2);have hc1:(Tryz.prog.info? 109).map (·.size)=some ds.length:=by rw[HDL.o];exact cD
   have HC1:=lh hc1;clear h1 h3 hc1
   go_wp2_with (with_reducible refine uA rfl 109 (.tmp 3) rfl rfl HB1.o Tryz.underlying109 rfl HC1.o ?_)
   refine HV.o.mono ?_;rintro e w2 ⟨rfl,hf2⟩;have HF2:=lh (HF1.o.trans hf2);clear hf2;go_wp2_with fail;exact HQ.o _ _ ⟨rfl,HF2.o⟩
theorem aAN {x:Xpr} (h:gA w N x.cells cs) (ho:x.op.length<=1000000):RV 119 #[.agg cs.toArray] w (.int .i64 (if cB x.op=true then 2 else 1)):=by
 refine bA fun R HQ=>?_;obtain⟨wh,hwh⟩:∃ wh,x.what=wh:=⟨_,rfl⟩;obtain⟨op,hop⟩:∃ op:ByteArray,op=⟨x.op.toArray⟩:=⟨_,rfl⟩;have hopb:aA op=x.op:=by rw[hop];simp[aA]
 have hw0:=eF h;have hw2:=sM h;rw[hwh] at hw0;rw[<- hop] at hw2;have hos:op.size<=maxLen:=by rw[lA hopb];unfold maxLen;omega
 have HW0:=lh hw0;have HW2:=lh hw2;have HOPB:=lh hopb;have HOS:=lh hos;have HH:=lh h;have HWH:=lh hwh;clear h hw0 hw2 hopb hos hop hwh;rw[<- HOPB.o] at HQ
 go_enter Tryz.func119,Tryz.ntmps119
 go_wp2_with (with_reducible refine dB rfl 109 (.tmp 0) rfl cs rfl ?_)
 intro w0 hb0 hf0 hz0;have c2:=hb0.at_ HW2.o;have HF0:=lh hf0;clear hb0 hf0 hz0;go_upto_region 1 with fail
 refine mA (fun W=>W.cell? ⟨w.heap.size,2,none⟩=some (.string op)/\True) [1,2] (by kernel_rfl) ?_;refine tks [1,2] ?_
 iterate 2 (refine tk rfl rfl ⟨c2,trivial⟩ rfl (fun _ hW=>by(obtain⟨q0,_⟩:=hW;go_simp) <;> with_reducible rfl) ?_;simp only[nrm])
 refine tke ?_;refine sp 0 rfl rfl rfl fun K hK=>?_;refine zA (l:=[]) rfl [] rfl (fun W=>by kernel_rfl) (rN.mono ?_);rintro e w2 ⟨mb,rfl,hcm,hf2⟩;have hf02:Fr [] w0 w2:=((Fr.refl [] w0).drew).trans hf2;have hk2:=dA hf02 c2;have hlk:=hcm.look op HOS.o;refine⟨_,rfl,hK _ _ (fun _=>⟨hk2,trivial⟩) ?_⟩;simp only[nrm];clear hK;refine sp 3 rfl rfl rfl fun K hK=>?_;refine tA (v:=.bool (cB (aA op))) (by simp[execOp,Act.eval,hlk,Result.andThen]) (hK _ _ (fun _=>⟨hk2,trivial⟩) ?_);simp only[nrm];clear hK;refine wd ?_ _;have HF2:=lh (HF0.o.trans hf02);clear hf2 hf02 hcm hlk hk2 c2;generalize cB (aA op)=tc at *
 cases tc <;> (go_wp2_with fail;exact HQ.o _ _ ⟨rfl,HF2.o⟩)
theorem aCv {v:List Value}:RV 115 #[.agg v.toArray] w (.bool true):=by
 refine bA fun R HQ=>?_
 go_enter Tryz.func115,Tryz.ntmps115
 go_wp2_with (with_reducible refine dB rfl 109 (.tmp 0) rfl v rfl ?_)
 intro w0 hb0 hf0 hz0;have HF:=lh hf0;clear hb0 hf0 hz0;go_wp2_with fail;exact HQ.o _ _ ⟨rfl,HF.o⟩
theorem nJ {p:Nat} {tb:TypeId} {f:FuncId} {first cap:Array Value} {all:Value -> Array Value} {b:Bool} (hl:cs.length=13) (hp:Blk w p tb [.func (.func f) first cap]) (hall:∀ v,first.push v ++ cap=all v) (he:∀ v w,(callFunc f (all v)).run Tryz.prog w=.ok (.enter f (all v)) w)
  (hc:∀ w1,Fr [] w w1 -> Calls Tryz.prog f (all (.agg cs.toArray)) w1 fun e w'=>e=.returned (.bool b)/\Fr [] w1 w'):RV 118 #[.agg cs.toArray,.pointer (some ⟨p,0,none⟩)] w (.bool (!b)):=by
 refine bA fun R HQ=>?_;have HP:=lh hp;have HC:=lh hc;have hal:=hall (.agg cs.toArray);have hen:=he (.agg cs.toArray);have hc1:(Tryz.prog.info? 109).map (·.size)=some cs.length:=by rw[hl];exact cD
 have HC1:=lh hc1;have HAL:=lh hal;have HEN:=lh hen;have hpl:=hp.lt;clear hp hc hall he hc1 hal hen
 go_enter Tryz.func118,Tryz.ntmps118
 go_wp2_with (with_reducible refine dB rfl 109 (.tmp 0) rfl cs rfl ?_)
 intro w0 hb0 hf0 hz0;have p0:=(HP.o.fr hf0).at_ (i:=0) rfl;have HF:=lh hf0;have HB:=lh hb0;have HCC:=lh (HC.o w0 hf0);have hal:=HAL.o;have hen:=HEN.o;clear hb0 hf0 hz0
 go_wp2_with (with_reducible refine uA rfl 109 (.tmp 2) rfl rfl HB.o Tryz.underlying109 rfl HC1.o ?_)
 refine HCC.o.mono ?_;rintro e w2 ⟨rfl,hf2⟩;have HF2:=lh (HF.o.trans hf2);clear hf2 hal hen;go_wp2_with fail;exact HQ.o _ _ ⟨rfl,HF2.o⟩
theorem aDW {x:Xpr} (h:gA w N x.cells cs) (ho:x.op.length<=1000000) (hbig:x.l.length<=1000000) (hsub:∀ y ∈ x.l,y.q.l.length<=1000000/\y.op.length<=1000000):RV 72 #[.agg cs.toArray] w (.bool x.fits):=by
 refine bA fun R HQ=>?_;obtain⟨A,c,hl1,hls⟩:=tM h;have HL1:=lh hl1;have HLS0:=lh hls;have HSUB:=lh hsub;have HOP:=lh ho;have HCL:Hid (cs.length=13):=lh (h.1.trans (kA x));clear hl1 hls hsub;obtain⟨wh,hwh⟩:∃ wh,x.what=wh:=⟨_,rfl⟩;obtain⟨op,hop⟩:∃ op:ByteArray,op=⟨x.op.toArray⟩:=⟨_,rfl⟩;have hopb:aA op=x.op:=by rw[hop];simp[aA]
 have hw0:=eF h;have hw2:=sM h;rw[hwh] at hw0;rw[<- hop] at hw2;have hos:op.size<=maxLen:=by rw[lA hopb];unfold maxLen;omega
 have HW0:=lh hw0;have HW2:=lh hw2;have HOPB:=lh hopb;have HOS:=lh hos;have HH:=lh h;have HWH:=lh hwh;clear h hw0 hw2 hopb hos hop hwh;have HE:Hid (x.fits=(x.l.all x.right && (wh != 7 || x.l.length == (if cB x.op=true then 2 else 1)))):=lh (by unfold Xpr.fits;rw[HWH.o]);have HRT:Hid (∀ y,x.right y=if 1<=wh/\wh<=3 then y.truth else if wh=4 then y.value else if wh=7 then x.asked y else true):=lh (fun y=>by unfold Xpr.right;rw[HWH.o]);obtain⟨ln,hln⟩:∃ ln,x.l.length=ln:=⟨_,rfl⟩;rw[hln] at HE HL1 HLS0 hbig;have HLN:=lh hln;clear hln
 go_enter Tryz.func72,Tryz.ntmps72
 go_wp2_with (with_reducible refine dB rfl 109 (.tmp 0) rfl cs rfl ?_)
 intro w0 hb0 hf0 hz0;have HB0:=lh hb0;have HF0:=lh hf0;have c0:=hb0.at_ HW0.o;have hlb:=hb0.lt;clear hb0 hz0 hf0
 by_cases hA:1<=wh/\wh<=3
 ·have HRA:Hid (∀ y,x.right y=y.truth):=lh (fun y=>by rw[HRT.o,if_pos hA]);have hw:wh=1 ∨ wh=2 ∨ wh=3:=by omega
  clear hA;rcases hw with h1 | h1 | h1
  ·have d1:(wh == 1)=true:=by simpa using h1
   have d7:(wh != 7)=true:=by rw[bne_iff_ne];omega
   rw[d7,Bool.true_or,Bool.and_true] at HE;clear h1;go_upto_region 11 with fail
   have hfa:Fr [] w0 (w0.alloc (.cells #[(Value.func (Fn.func 47) #[] #[])] 111)):=(Fr.refl [] w0).alloc _;have hba:=Blk.new w0 111 [(Value.func (Fn.func 47) #[] #[])];generalize w0.alloc (.cells #[(Value.func (Fn.func 47) #[] #[])] 111)=w2 at *;obtain⟨p3,hp3⟩:∃ p3,w0.heap.size=p3:=⟨_,rfl⟩;rw[hp3] at hba ⊢;have HB3:=lh hba;have HF2:=lh (HF0.o.trans hfa);have HB1:=lh (HB0.o.fr hfa);have HLS:=lh (HLS0.o.fr (HF0.o.trans hfa));have HHH:=lh (HH.o.fr (HF0.o.trans hfa));clear hfa hba hp3
   have hcx:=lh (nH (HLS.o.fr ((Fr.refl [] w2).drew)) hbig (f:=118) (first:=#[]) (cap:=#[.pointer (some ⟨p3,0,none⟩)]) (all:=fun v=>#[v,.pointer (some ⟨p3,0,none⟩)]) (fun v=>rfl) (fun v w=>by kernel_rfl) (fun y=>!x.right y)
    (fun y hy wa es hfa hra=>nJ (hra.1.trans (kA y)) (HB3.o.fr (((Fr.refl [] w2).drew).trans hfa)) (f:=47) (first:=#[]) (cap:=#[]) (all:=(fun v=>#[v])) (fun v=>rfl) (fun v w=>by kernel_rfl) (b:=x.right y) (fun wb hfb=>(HRA.o y ▸ tN (hra.fr hfb) (HSUB.o y hy).2))))
   have HAE:Hid ((x.l.any fun y=>!x.right y) = !x.l.all x.right):=lh (by rw[List.not_all_eq_any_not]);rw[HAE.o] at hcx;have k0:=HB1.o.at_ HW0.o;have k1:=HB1.o.at_ HL1.o;generalize x.l.all x.right=al at *
   cases al with
   | false=>
    refine mA (fun W=>W.cell? ⟨w.heap.size,0,none⟩=some (.int .i64 wh)/\W.cell? ⟨w.heap.size,1,none⟩=some (.slice A ln c)) [0,1,2,4,5,6,7,8,9,10,11,12,13,14,15,16,17] (by kernel_rfl) ?_;refine tks [0,1,2] ?_
    iterate 3 (refine tk rfl rfl ⟨k0,k1⟩ rfl (fun _ hW=>by(obtain⟨q0,q1⟩:=hW;go_simp) <;> with_reducible rfl) ?_;simp only[nrm])
    refine tke ?_;refine sp 3 rfl rfl rfl fun K hK=>?_;refine zA (l:=[.tmp 17,.tmp 18]) rfl [.slice A ln c,.func (.func 118) #[] #[.pointer (some ⟨p3,0,none⟩)]] rfl (fun W=>by kernel_rfl) (hcx.o.mono ?_);rintro e w5 ⟨rfl,hf5⟩;have hf25:Fr [] w2 w5:=((Fr.refl [] w2).drew).trans hf5;have hk0:=dA hf25 k0;have hk1:=dA hf25 k1;refine⟨_,rfl,hK _ _ (fun _=>⟨hk0,hk1⟩) ?_⟩;simp only[nrm];clear hK;refine tks [4,5] ?_
    iterate 2 (refine tk rfl rfl ⟨hk0,hk1⟩ rfl (fun _ hW=>by(obtain⟨q0,q1⟩:=hW;go_simp) <;> with_reducible rfl) ?_;simp only[nrm])
    refine tke ?_;refine tks [6,7,8,9,10,11,12,13,14,15,16] ?_
    iterate 11 (refine tu rfl rfl ⟨hk0,hk1⟩ rfl ?_;simp only[nrm])
    refine tke ?_;refine tks [17] ?_;refine tk rfl rfl ⟨hk0,hk1⟩ rfl (fun _ hW=>by(obtain⟨q0,q1⟩:=hW;go_simp) <;> with_reducible rfl) ?_;simp only[nrm];refine tke ?_;refine sp 18 rfl rfl rfl fun K hK=>?_;refine tA (v:=?aq2_18) ?yq2_18 (hK _ _ (fun _=>⟨hk0,hk1⟩) ?_)
    case yq2_18=>go_simp <;> with_reducible rfl
    simp only[nrm];refine wd ?_ _;have HFE:=lh (HF2.o.trans hf25);clear hf5 hf25 hk0 hk1 k0 k1 hcx;go_wp2_with fail;exact HQ.o _ _ ⟨by rw[HE.o];simp,HFE.o⟩
   | true=>
    refine mA (fun W=>W.cell? ⟨w.heap.size,0,none⟩=some (.int .i64 wh)/\W.cell? ⟨w.heap.size,1,none⟩=some (.slice A ln c)) [0,1,2,4,5,6,7,8,9,10,11,12,13,14,15,16,17] (by kernel_rfl) ?_;refine tks [0,1,2] ?_
    iterate 3 (refine tk rfl rfl ⟨k0,k1⟩ rfl (fun _ hW=>by(obtain⟨q0,q1⟩:=hW;go_simp) <;> with_reducible rfl) ?_;simp only[nrm])
    refine tke ?_;refine sp 3 rfl rfl rfl fun K hK=>?_;refine zA (l:=[.tmp 17,.tmp 18]) rfl [.slice A ln c,.func (.func 118) #[] #[.pointer (some ⟨p3,0,none⟩)]] rfl (fun W=>by kernel_rfl) (hcx.o.mono ?_);rintro e w5 ⟨rfl,hf5⟩;have hf25:Fr [] w2 w5:=((Fr.refl [] w2).drew).trans hf5;have hk0:=dA hf25 k0;have hk1:=dA hf25 k1;refine⟨_,rfl,hK _ _ (fun _=>⟨hk0,hk1⟩) ?_⟩;simp only[nrm];clear hK;refine tks [4,5,6,7,8,9] ?_
    iterate 6 (refine tk rfl rfl ⟨hk0,hk1⟩ rfl (fun _ hW=>by(obtain⟨q0,q1⟩:=hW;go_simp) <;> with_reducible rfl) ?_;simp only[nrm])
    refine tke ?_;refine tks [10,11,12,13,14,15] ?_
    iterate 6 (refine tu rfl rfl ⟨hk0,hk1⟩ rfl ?_;simp only[nrm])
    refine tke ?_;refine tks [16,17] ?_
    iterate 2 (refine tk rfl rfl ⟨hk0,hk1⟩ rfl (fun _ hW=>by(obtain⟨q0,q1⟩:=hW;go_simp) <;> with_reducible rfl) ?_;simp only[nrm])
    refine tke ?_;refine sp 18 rfl rfl rfl fun K hK=>?_;refine tA (v:=?aq3_18) ?yq3_18 (hK _ _ (fun _=>⟨hk0,hk1⟩) ?_)
    case yq3_18=>go_simp <;> with_reducible rfl
    simp only[nrm];refine wd ?_ _;have HFE:=lh (HF2.o.trans hf25);clear hf5 hf25 hk0 hk1 k0 k1 hcx;go_wp2_with fail;exact HQ.o _ _ ⟨by rw[HE.o];simp,HFE.o⟩
  ·have d1:(wh == 1)=false:=bF (by omega)
   have d2:(wh == 2)=true:=by simpa using h1
   have d7:(wh != 7)=true:=by rw[bne_iff_ne];omega
   rw[d7,Bool.true_or,Bool.and_true] at HE;clear h1;go_upto_region 11 with fail
   have hfa:Fr [] w0 (w0.alloc (.cells #[(Value.func (Fn.func 47) #[] #[])] 111)):=(Fr.refl [] w0).alloc _;have hba:=Blk.new w0 111 [(Value.func (Fn.func 47) #[] #[])];generalize w0.alloc (.cells #[(Value.func (Fn.func 47) #[] #[])] 111)=w2 at *;obtain⟨p3,hp3⟩:∃ p3,w0.heap.size=p3:=⟨_,rfl⟩;rw[hp3] at hba ⊢;have HB3:=lh hba;have HF2:=lh (HF0.o.trans hfa);have HB1:=lh (HB0.o.fr hfa);have HLS:=lh (HLS0.o.fr (HF0.o.trans hfa));have HHH:=lh (HH.o.fr (HF0.o.trans hfa));clear hfa hba hp3
   have hcx:=lh (nH (HLS.o.fr ((Fr.refl [] w2).drew)) hbig (f:=118) (first:=#[]) (cap:=#[.pointer (some ⟨p3,0,none⟩)]) (all:=fun v=>#[v,.pointer (some ⟨p3,0,none⟩)]) (fun v=>rfl) (fun v w=>by kernel_rfl) (fun y=>!x.right y)
    (fun y hy wa es hfa hra=>nJ (hra.1.trans (kA y)) (HB3.o.fr (((Fr.refl [] w2).drew).trans hfa)) (f:=47) (first:=#[]) (cap:=#[]) (all:=(fun v=>#[v])) (fun v=>rfl) (fun v w=>by kernel_rfl) (b:=x.right y) (fun wb hfb=>(HRA.o y ▸ tN (hra.fr hfb) (HSUB.o y hy).2))))
   have HAE:Hid ((x.l.any fun y=>!x.right y) = !x.l.all x.right):=lh (by rw[List.not_all_eq_any_not]);rw[HAE.o] at hcx;have k0:=HB1.o.at_ HW0.o;have k1:=HB1.o.at_ HL1.o;generalize x.l.all x.right=al at *
   cases al with
   | false=>
    refine mA (fun W=>W.cell? ⟨w.heap.size,0,none⟩=some (.int .i64 wh)/\W.cell? ⟨w.heap.size,1,none⟩=some (.slice A ln c)) [0,1,2,4,5,6,7,8,9,10,11,12,13,14,15,16,17] (by kernel_rfl) ?_;refine tks [0,1,2] ?_
    iterate 3 (refine tk rfl rfl ⟨k0,k1⟩ rfl (fun _ hW=>by(obtain⟨q0,q1⟩:=hW;go_simp) <;> with_reducible rfl) ?_;simp only[nrm])
    refine tke ?_;refine sp 3 rfl rfl rfl fun K hK=>?_;refine zA (l:=[.tmp 17,.tmp 18]) rfl [.slice A ln c,.func (.func 118) #[] #[.pointer (some ⟨p3,0,none⟩)]] rfl (fun W=>by kernel_rfl) (hcx.o.mono ?_);rintro e w5 ⟨rfl,hf5⟩;have hf25:Fr [] w2 w5:=((Fr.refl [] w2).drew).trans hf5;have hk0:=dA hf25 k0;have hk1:=dA hf25 k1;refine⟨_,rfl,hK _ _ (fun _=>⟨hk0,hk1⟩) ?_⟩;simp only[nrm];clear hK;refine tks [4,5] ?_
    iterate 2 (refine tk rfl rfl ⟨hk0,hk1⟩ rfl (fun _ hW=>by(obtain⟨q0,q1⟩:=hW;go_simp) <;> with_reducible rfl) ?_;simp only[nrm])
    refine tke ?_;refine tks [6,7,8,9,10,11,12,13,14,15,16] ?_
    iterate 11 (refine tu rfl rfl ⟨hk0,hk1⟩ rfl ?_;simp only[nrm])
    refine tke ?_;refine tks [17] ?_;refine tk rfl rfl ⟨hk0,hk1⟩ rfl (fun _ hW=>by(obtain⟨q0,q1⟩:=hW;go_simp) <;> with_reducible rfl) ?_;simp only[nrm];refine tke ?_;refine sp 18 rfl rfl rfl fun K hK=>?_;refine tA (v:=?aq4_18) ?yq4_18 (hK _ _ (fun _=>⟨hk0,hk1⟩) ?_)
    case yq4_18=>go_simp <;> with_reducible rfl
    simp only[nrm];refine wd ?_ _;have HFE:=lh (HF2.o.trans hf25);clear hf5 hf25 hk0 hk1 k0 k1 hcx;go_wp2_with fail;exact HQ.o _ _ ⟨by rw[HE.o];simp,HFE.o⟩
   | true=>
    refine mA (fun W=>W.cell? ⟨w.heap.size,0,none⟩=some (.int .i64 wh)/\W.cell? ⟨w.heap.size,1,none⟩=some (.slice A ln c)) [0,1,2,4,5,6,7,8,9,10,11,12,13,14,15,16,17] (by kernel_rfl) ?_;refine tks [0,1,2] ?_
    iterate 3 (refine tk rfl rfl ⟨k0,k1⟩ rfl (fun _ hW=>by(obtain⟨q0,q1⟩:=hW;go_simp) <;> with_reducible rfl) ?_;simp only[nrm])
    refine tke ?_;refine sp 3 rfl rfl rfl fun K hK=>?_;refine zA (l:=[.tmp 17,.tmp 18]) rfl [.slice A ln c,.func (.func 118) #[] #[.pointer (some ⟨p3,0,none⟩)]] rfl (fun W=>by kernel_rfl) (hcx.o.mono ?_);rintro e w5 ⟨rfl,hf5⟩;have hf25:Fr [] w2 w5:=((Fr.refl [] w2).drew).trans hf5;have hk0:=dA hf25 k0;have hk1:=dA hf25 k1;refine⟨_,rfl,hK _ _ (fun _=>⟨hk0,hk1⟩) ?_⟩;simp only[nrm];clear hK;refine tks [4,5,6,7,8,9] ?_
    iterate 6 (refine tk rfl rfl ⟨hk0,hk1⟩ rfl (fun _ hW=>by(obtain⟨q0,q1⟩:=hW;go_simp) <;> with_reducible rfl) ?_;simp only[nrm])
    refine tke ?_;refine tks [10,11,12,13,14,15] ?_
    iterate 6 (refine tu rfl rfl ⟨hk0,hk1⟩ rfl ?_;simp only[nrm])
    refine tke ?_;refine tks [16,17] ?_
    iterate 2 (refine tk rfl rfl ⟨hk0,hk1⟩ rfl (fun _ hW=>by(obtain⟨q0,q1⟩:=hW;go_simp) <;> with_reducible rfl) ?_;simp only[nrm])
    refine tke ?_;refine sp 18 rfl rfl rfl fun K hK=>?_;refine tA (v:=?aq5_18) ?yq5_18 (hK _ _ (fun _=>⟨hk0,hk1⟩) ?_)
    case yq5_18=>go_simp <;> with_reducible rfl
    simp only[nrm];refine wd ?_ _;have HFE:=lh (HF2.o.trans hf25);clear hf5 hf25 hk0 hk1 k0 k1 hcx;go_wp2_with fail;exact HQ.o _ _ ⟨by rw[HE.o];simp,HFE.o⟩
  ·have d1:(wh == 1)=false:=bF (by omega)
   have d2:(wh == 2)=false:=bF (by omega)
   have d3:(wh == 3)=true:=by simpa using h1
   have d7:(wh != 7)=true:=by rw[bne_iff_ne];omega
   rw[d7,Bool.true_or,Bool.and_true] at HE;clear h1;go_upto_region 11 with fail
   have hfa:Fr [] w0 (w0.alloc (.cells #[(Value.func (Fn.func 47) #[] #[])] 111)):=(Fr.refl [] w0).alloc _;have hba:=Blk.new w0 111 [(Value.func (Fn.func 47) #[] #[])];generalize w0.alloc (.cells #[(Value.func (Fn.func 47) #[] #[])] 111)=w2 at *;obtain⟨p3,hp3⟩:∃ p3,w0.heap.size=p3:=⟨_,rfl⟩;rw[hp3] at hba ⊢;have HB3:=lh hba;have HF2:=lh (HF0.o.trans hfa);have HB1:=lh (HB0.o.fr hfa);have HLS:=lh (HLS0.o.fr (HF0.o.trans hfa));have HHH:=lh (HH.o.fr (HF0.o.trans hfa));clear hfa hba hp3
   have hcx:=lh (nH (HLS.o.fr ((Fr.refl [] w2).drew)) hbig (f:=118) (first:=#[]) (cap:=#[.pointer (some ⟨p3,0,none⟩)]) (all:=fun v=>#[v,.pointer (some ⟨p3,0,none⟩)]) (fun v=>rfl) (fun v w=>by kernel_rfl) (fun y=>!x.right y)
    (fun y hy wa es hfa hra=>nJ (hra.1.trans (kA y)) (HB3.o.fr (((Fr.refl [] w2).drew).trans hfa)) (f:=47) (first:=#[]) (cap:=#[]) (all:=(fun v=>#[v])) (fun v=>rfl) (fun v w=>by kernel_rfl) (b:=x.right y) (fun wb hfb=>(HRA.o y ▸ tN (hra.fr hfb) (HSUB.o y hy).2))))
   have HAE:Hid ((x.l.any fun y=>!x.right y) = !x.l.all x.right):=lh (by rw[List.not_all_eq_any_not]);rw[HAE.o] at hcx;have k0:=HB1.o.at_ HW0.o;have k1:=HB1.o.at_ HL1.o;generalize x.l.all x.right=al at *
   cases al with
   | false=>
    refine mA (fun W=>W.cell? ⟨w.heap.size,0,none⟩=some (.int .i64 wh)/\W.cell? ⟨w.heap.size,1,none⟩=some (.slice A ln c)) [0,1,2,4,5,6,7,8,9,10,11,12,13,14,15,16,17] (by kernel_rfl) ?_;refine tks [0,1,2] ?_
    iterate 3 (refine tk rfl rfl ⟨k0,k1⟩ rfl (fun _ hW=>by(obtain⟨q0,q1⟩:=hW;go_simp) <;> with_reducible rfl) ?_;simp only[nrm])
    refine tke ?_;refine sp 3 rfl rfl rfl fun K hK=>?_;refine zA (l:=[.tmp 17,.tmp 18]) rfl [.slice A ln c,.func (.func 118) #[] #[.pointer (some ⟨p3,0,none⟩)]] rfl (fun W=>by kernel_rfl) (hcx.o.mono ?_);rintro e w5 ⟨rfl,hf5⟩;have hf25:Fr [] w2 w5:=((Fr.refl [] w2).drew).trans hf5;have hk0:=dA hf25 k0;have hk1:=dA hf25 k1;refine⟨_,rfl,hK _ _ (fun _=>⟨hk0,hk1⟩) ?_⟩;simp only[nrm];clear hK;refine tks [4,5] ?_
    iterate 2 (refine tk rfl rfl ⟨hk0,hk1⟩ rfl (fun _ hW=>by(obtain⟨q0,q1⟩:=hW;go_simp) <;> with_reducible rfl) ?_;simp only[nrm])
    refine tke ?_;refine tks [6,7,8,9,10,11,12,13,14,15,16] ?_
    iterate 11 (refine tu rfl rfl ⟨hk0,hk1⟩ rfl ?_;simp only[nrm])
    refine tke ?_;refine tks [17] ?_;refine tk rfl rfl ⟨hk0,hk1⟩ rfl (fun _ hW=>by(obtain⟨q0,q1⟩:=hW;go_simp) <;> with_reducible rfl) ?_;simp only[nrm];refine tke ?_;refine sp 18 rfl rfl rfl fun K hK=>?_;refine tA (v:=?aq6_18) ?yq6_18 (hK _ _ (fun _=>⟨hk0,hk1⟩) ?_)
    case yq6_18=>go_simp <;> with_reducible rfl
    simp only[nrm];refine wd ?_ _;have HFE:=lh (HF2.o.trans hf25);clear hf5 hf25 hk0 hk1 k0 k1 hcx;go_wp2_with fail;exact HQ.o _ _ ⟨by rw[HE.o];simp,HFE.o⟩
   | true=>
    refine mA (fun W=>W.cell? ⟨w.heap.size,0,none⟩=some (.int .i64 wh)/\W.cell? ⟨w.heap.size,1,none⟩=some (.slice A ln c)) [0,1,2,4,5,6,7,8,9,10,11,12,13,14,15,16,17] (by kernel_rfl) ?_;refine tks [0,1,2] ?_
    iterate 3 (refine tk rfl rfl ⟨k0,k1⟩ rfl (fun _ hW=>by(obtain⟨q0,q1⟩:=hW;go_simp) <;> with_reducible rfl) ?_;simp only[nrm])
    refine tke ?_;refine sp 3 rfl rfl rfl fun K hK=>?_;refine zA (l:=[.tmp 17,.tmp 18]) rfl [.slice A ln c,.func (.func 118) #[] #[.pointer (some ⟨p3,0,none⟩)]] rfl (fun W=>by kernel_rfl) (hcx.o.mono ?_);rintro e w5 ⟨rfl,hf5⟩;have hf25:Fr [] w2 w5:=((Fr.refl [] w2).drew).trans hf5;have hk0:=dA hf25 k0;have hk1:=dA hf25 k1;refine⟨_,rfl,hK _ _ (fun _=>⟨hk0,hk1⟩) ?_⟩;simp only[nrm];clear hK;refine tks [4,5,6,7,8,9] ?_
    iterate 6 (refine tk rfl rfl ⟨hk0,hk1⟩ rfl (fun _ hW=>by(obtain⟨q0,q1⟩:=hW;go_simp) <;> with_reducible rfl) ?_;simp only[nrm])
    refine tke ?_;refine tks [10,11,12,13,14,15] ?_
    iterate 6 (refine tu rfl rfl ⟨hk0,hk1⟩ rfl ?_;simp only[nrm])
    refine tke ?_;refine tks [16,17] ?_
    iterate 2 (refine tk rfl rfl ⟨hk0,hk1⟩ rfl (fun _ hW=>by(obtain⟨q0,q1⟩:=hW;go_simp) <;> with_reducible rfl) ?_;simp only[nrm])
    refine tke ?_;refine sp 18 rfl rfl rfl fun K hK=>?_;refine tA (v:=?aq7_18) ?yq7_18 (hK _ _ (fun _=>⟨hk0,hk1⟩) ?_)
    case yq7_18=>go_simp <;> with_reducible rfl
    simp only[nrm];refine wd ?_ _;have HFE:=lh (HF2.o.trans hf25);clear hf5 hf25 hk0 hk1 k0 k1 hcx;go_wp2_with fail;exact HQ.o _ _ ⟨by rw[HE.o];simp,HFE.o⟩
 ·by_cases h4:wh=4
  ·have d4:(wh == 4)=true:=by simpa using h4
   have d1:(wh == 1)=false:=bF (by omega)
   have d2:(wh == 2)=false:=bF (by omega)
   have d3:(wh == 3)=false:=bF (by omega)
   have d7:(wh != 7)=true:=by rw[bne_iff_ne];omega
   have HRA:Hid (∀ y,x.right y=y.value):=lh (fun y=>by rw[HRT.o,if_neg hA,if_pos h4]);rw[d7,Bool.true_or,Bool.and_true] at HE;clear hA h4;go_upto_region 11 with fail
   have hfa:Fr [] w0 (w0.alloc (.cells #[(Value.func (Fn.func 116) #[] #[])] 111)):=(Fr.refl [] w0).alloc _;have hba:=Blk.new w0 111 [(Value.func (Fn.func 116) #[] #[])];generalize w0.alloc (.cells #[(Value.func (Fn.func 116) #[] #[])] 111)=w2 at *;obtain⟨p3,hp3⟩:∃ p3,w0.heap.size=p3:=⟨_,rfl⟩;rw[hp3] at hba ⊢;have HB3:=lh hba;have HF2:=lh (HF0.o.trans hfa);have HB1:=lh (HB0.o.fr hfa);have HLS:=lh (HLS0.o.fr (HF0.o.trans hfa));have HHH:=lh (HH.o.fr (HF0.o.trans hfa));clear hfa hba hp3
   have hcx:=lh (nH (HLS.o.fr ((Fr.refl [] w2).drew)) hbig (f:=118) (first:=#[]) (cap:=#[.pointer (some ⟨p3,0,none⟩)]) (all:=fun v=>#[v,.pointer (some ⟨p3,0,none⟩)]) (fun v=>rfl) (fun v w=>by kernel_rfl) (fun y=>!x.right y)
    (fun y hy wa es hfa hra=>nJ (hra.1.trans (kA y)) (HB3.o.fr (((Fr.refl [] w2).drew).trans hfa)) (f:=116) (first:=#[]) (cap:=#[]) (all:=(fun v=>#[v])) (fun v=>rfl) (fun v w=>by kernel_rfl) (b:=x.right y) (fun wb hfb=>(HRA.o y ▸ zV (hra.fr hfb) (HSUB.o y hy).1 (HSUB.o y hy).2))))
   have HAE:Hid ((x.l.any fun y=>!x.right y) = !x.l.all x.right):=lh (by rw[List.not_all_eq_any_not]);rw[HAE.o] at hcx;have k0:=HB1.o.at_ HW0.o;have k1:=HB1.o.at_ HL1.o;generalize x.l.all x.right=al at *
   cases al with
   | false=>
    refine mA (fun W=>W.cell? ⟨w.heap.size,0,none⟩=some (.int .i64 wh)/\W.cell? ⟨w.heap.size,1,none⟩=some (.slice A ln c)) [0,1,2,4,5,6,7,8,9,10,11,12,13,14,15,16,17] (by kernel_rfl) ?_;refine tks [0,1,2] ?_
    iterate 3 (refine tk rfl rfl ⟨k0,k1⟩ rfl (fun _ hW=>by(obtain⟨q0,q1⟩:=hW;go_simp) <;> with_reducible rfl) ?_;simp only[nrm])
    refine tke ?_;refine sp 3 rfl rfl rfl fun K hK=>?_;refine zA (l:=[.tmp 17,.tmp 18]) rfl [.slice A ln c,.func (.func 118) #[] #[.pointer (some ⟨p3,0,none⟩)]] rfl (fun W=>by kernel_rfl) (hcx.o.mono ?_);rintro e w5 ⟨rfl,hf5⟩;have hf25:Fr [] w2 w5:=((Fr.refl [] w2).drew).trans hf5;have hk0:=dA hf25 k0;have hk1:=dA hf25 k1;refine⟨_,rfl,hK _ _ (fun _=>⟨hk0,hk1⟩) ?_⟩;simp only[nrm];clear hK;refine tks [4,5] ?_
    iterate 2 (refine tk rfl rfl ⟨hk0,hk1⟩ rfl (fun _ hW=>by(obtain⟨q0,q1⟩:=hW;go_simp) <;> with_reducible rfl) ?_;simp only[nrm])
    refine tke ?_;refine tks [6,7,8,9,10,11,12,13,14,15,16] ?_
    iterate 11 (refine tu rfl rfl ⟨hk0,hk1⟩ rfl ?_;simp only[nrm])
    refine tke ?_;refine tks [17] ?_;refine tk rfl rfl ⟨hk0,hk1⟩ rfl (fun _ hW=>by(obtain⟨q0,q1⟩:=hW;go_simp) <;> with_reducible rfl) ?_;simp only[nrm];refine tke ?_;refine sp 18 rfl rfl rfl fun K hK=>?_;refine tA (v:=?aq8_18) ?yq8_18 (hK _ _ (fun _=>⟨hk0,hk1⟩) ?_)
    case yq8_18=>go_simp <;> with_reducible rfl
    simp only[nrm];refine wd ?_ _;have HFE:=lh (HF2.o.trans hf25);clear hf5 hf25 hk0 hk1 k0 k1 hcx;go_wp2_with fail;exact HQ.o _ _ ⟨by rw[HE.o];simp,HFE.o⟩
   | true=>
    refine mA (fun W=>W.cell? ⟨w.heap.size,0,none⟩=some (.int .i64 wh)/\W.cell? ⟨w.heap.size,1,none⟩=some (.slice A ln c)) [0,1,2,4,5,6,7,8,9,10,11,12,13,14,15,16,17] (by kernel_rfl) ?_;refine tks [0,1,2] ?_
    iterate 3 (refine tk rfl rfl ⟨k0,k1⟩ rfl (fun _ hW=>by(obtain⟨q0,q1⟩:=hW;go_simp) <;> with_reducible rfl) ?_;simp only[nrm])
    refine tke ?_;refine sp 3 rfl rfl rfl fun K hK=>?_;refine zA (l:=[.tmp 17,.tmp 18]) rfl [.slice A ln c,.func (.func 118) #[] #[.pointer (some ⟨p3,0,none⟩)]] rfl (fun W=>by kernel_rfl) (hcx.o.mono ?_);rintro e w5 ⟨rfl,hf5⟩;have hf25:Fr [] w2 w5:=((Fr.refl [] w2).drew).trans hf5;have hk0:=dA hf25 k0;have hk1:=dA hf25 k1;refine⟨_,rfl,hK _ _ (fun _=>⟨hk0,hk1⟩) ?_⟩;simp only[nrm];clear hK;refine tks [4,5,6,7,8,9] ?_
    iterate 6 (refine tk rfl rfl ⟨hk0,hk1⟩ rfl (fun _ hW=>by(obtain⟨q0,q1⟩:=hW;go_simp) <;> with_reducible rfl) ?_;simp only[nrm])
    refine tke ?_;refine tks [10,11,12,13,14,15] ?_
    iterate 6 (refine tu rfl rfl ⟨hk0,hk1⟩ rfl ?_;simp only[nrm])
    refine tke ?_;refine tks [16,17] ?_
    iterate 2 (refine tk rfl rfl ⟨hk0,hk1⟩ rfl (fun _ hW=>by(obtain⟨q0,q1⟩:=hW;go_simp) <;> with_reducible rfl) ?_;simp only[nrm])
    refine tke ?_;refine sp 18 rfl rfl rfl fun K hK=>?_;refine tA (v:=?aq9_18) ?yq9_18 (hK _ _ (fun _=>⟨hk0,hk1⟩) ?_)
    case yq9_18=>go_simp <;> with_reducible rfl
    simp only[nrm];refine wd ?_ _;have HFE:=lh (HF2.o.trans hf25);clear hf5 hf25 hk0 hk1 k0 k1 hcx;go_wp2_with fail;exact HQ.o _ _ ⟨by rw[HE.o];simp,HFE.o⟩
  ·have d4:(wh == 4)=false:=by simpa using h4
   have d1:(wh == 1)=false:=bF (by omega)
   have d2:(wh == 2)=false:=bF (by omega)
   have d3:(wh == 3)=false:=bF (by omega)
   by_cases h7:wh=7
   ·have d7e:(wh == 7)=true:=by simpa using h7
    have d7:(wh != 7)=false:=by rw[h7];rfl
    have HRA:Hid (∀ y,x.right y=x.asked y):=lh (fun y=>by rw[HRT.o,if_neg hA,if_neg h4,if_pos h7]);rw[d7,Bool.false_or] at HE;have hc1:(Tryz.prog.info? 109).map (·.size)=some cs.length:=by rw[HCL.o];exact cD
    have HC1:=lh hc1;clear hA h4 h7 hc1;have HB0a:=lh (HB0.o.alloc (.cells #[.func (.func 115) #[] #[]] 111));go_upto_region 10 with fail
    go_upto_region 11 with (with_reducible refine uA rfl 109 (.tmp 1) rfl rfl HB0a.o Tryz.underlying109 rfl HC1.o ?_)
    have hfa:Fr [] w0 (w0.alloc (.cells #[(Value.func (Fn.func 117) #[.agg cs.toArray] #[])] 111)):=(Fr.refl [] w0).alloc _;have hba:=Blk.new w0 111 [(Value.func (Fn.func 117) #[.agg cs.toArray] #[])];generalize w0.alloc (.cells #[(Value.func (Fn.func 117) #[.agg cs.toArray] #[])] 111)=w2 at *;obtain⟨p3,hp3⟩:∃ p3,w0.heap.size=p3:=⟨_,rfl⟩;rw[hp3] at hba ⊢;have HB3:=lh hba;have HF2:=lh (HF0.o.trans hfa);have HB1:=lh (HB0.o.fr hfa);have HLS:=lh (HLS0.o.fr (HF0.o.trans hfa));have HHH:=lh (HH.o.fr (HF0.o.trans hfa));clear hfa hba hp3
    have hcx:=lh (nH (HLS.o.fr ((Fr.refl [] w2).drew)) hbig (f:=118) (first:=#[]) (cap:=#[.pointer (some ⟨p3,0,none⟩)]) (all:=fun v=>#[v,.pointer (some ⟨p3,0,none⟩)]) (fun v=>rfl) (fun v w=>by kernel_rfl) (fun y=>!x.right y)
     (fun y hy wa es hfa hra=>nJ (hra.1.trans (kA y)) (HB3.o.fr (((Fr.refl [] w2).drew).trans hfa)) (f:=117) (first:=#[.agg cs.toArray]) (cap:=#[]) (all:=(fun v=>#[.agg cs.toArray,v])) (fun v=>rfl) (fun v w=>by kernel_rfl) (b:=x.right y) (fun wb hfb=>(HRA.o y ▸ aCu (HHH.o.fr ((((Fr.refl [] w2).drew).trans hfa).trans hfb)) (hra.fr hfb) HOP.o (HSUB.o y hy).1 (HSUB.o y hy).2))))
    have HAE:Hid ((x.l.any fun y=>!x.right y) = !x.l.all x.right):=lh (by rw[List.not_all_eq_any_not]);rw[HAE.o] at hcx;have k0:=HB1.o.at_ HW0.o;have k1:=HB1.o.at_ HL1.o;generalize x.l.all x.right=al at *
    cases al with
    | false=>
     refine mA (fun W=>W.cell? ⟨w.heap.size,0,none⟩=some (.int .i64 wh)/\W.cell? ⟨w.heap.size,1,none⟩=some (.slice A ln c)) [0,1,2,4,5,6,7,8,9,10,11,12,13,14,15,16,17] (by kernel_rfl) ?_;refine tks [0,1,2] ?_
     iterate 3 (refine tk rfl rfl ⟨k0,k1⟩ rfl (fun _ hW=>by(obtain⟨q0,q1⟩:=hW;go_simp) <;> with_reducible rfl) ?_;simp only[nrm])
     refine tke ?_;refine sp 3 rfl rfl rfl fun K hK=>?_;refine zA (l:=[.tmp 17,.tmp 18]) rfl [.slice A ln c,.func (.func 118) #[] #[.pointer (some ⟨p3,0,none⟩)]] rfl (fun W=>by kernel_rfl) (hcx.o.mono ?_);rintro e w5 ⟨rfl,hf5⟩;have hf25:Fr [] w2 w5:=((Fr.refl [] w2).drew).trans hf5;have hk0:=dA hf25 k0;have hk1:=dA hf25 k1;refine⟨_,rfl,hK _ _ (fun _=>⟨hk0,hk1⟩) ?_⟩;simp only[nrm];clear hK;refine tks [4,5] ?_
     iterate 2 (refine tk rfl rfl ⟨hk0,hk1⟩ rfl (fun _ hW=>by(obtain⟨q0,q1⟩:=hW;go_simp) <;> with_reducible rfl) ?_;simp only[nrm])
     refine tke ?_;refine tks [6,7,8,9,10,11,12,13,14,15,16] ?_
     iterate 11 (refine tu rfl rfl ⟨hk0,hk1⟩ rfl ?_;simp only[nrm])
     refine tke ?_;refine tks [17] ?_;refine tk rfl rfl ⟨hk0,hk1⟩ rfl (fun _ hW=>by(obtain⟨q0,q1⟩:=hW;go_simp) <;> with_reducible rfl) ?_;simp only[nrm];refine tke ?_;refine sp 18 rfl rfl rfl fun K hK=>?_;refine tA (v:=?aq10_18) ?yq10_18 (hK _ _ (fun _=>⟨hk0,hk1⟩) ?_)
     case yq10_18=>go_simp <;> with_reducible rfl
     simp only[nrm];refine wd ?_ _;have HFE:=lh (HF2.o.trans hf25);clear hf5 hf25 hk0 hk1 k0 k1 hcx;go_wp2_with fail;exact HQ.o _ _ ⟨by rw[HE.o];simp,HFE.o⟩
    | true=>
     have HMO:=lh (fun W (hW:Fr [] w2 W)=>aAN (HHH.o.fr hW) HOP.o);have hty:(if cB x.op=true then (2:Int) else 1)=((if cB x.op=true then (2:Nat) else 1:Nat):Int):=by split <;> rfl
     rw[hty] at HMO;generalize (if cB x.op=true then (2:Nat) else 1)=mn at *;clear hty
     have hbe:((ln:Int) == (mn:Int))=(ln == mn):=by
      rw[Bool.eq_iff_iff,beq_iff_eq,beq_iff_eq];omega
     have HBE:=lh hbe;clear hbe;have hB1:=HB1.o;refine mA (fun W=>W.cell? ⟨w.heap.size,0,none⟩=some (.int .i64 wh)/\W.cell? ⟨w.heap.size,1,none⟩=some (.slice A ln c)/\Blk W w.heap.size 109 cs) [0,1,2,4,5,6,7,8,9,10,11,12,13,15,16,17] (by kernel_rfl) ?_;refine tks [0,1,2] ?_
     iterate 3 (refine tk rfl rfl ⟨k0,k1,hB1⟩ rfl (fun _ hW=>by(obtain⟨q0,q1,q2⟩:=hW;go_simp) <;> with_reducible rfl) ?_;simp only[nrm])
     refine tke ?_;refine sp 3 rfl rfl rfl fun K hK=>?_;refine zA (l:=[.tmp 17,.tmp 18]) rfl [.slice A ln c,.func (.func 118) #[] #[.pointer (some ⟨p3,0,none⟩)]] rfl (fun W=>by kernel_rfl) (hcx.o.mono ?_);rintro e w5 ⟨rfl,hf5⟩;have hf25:Fr [] w2 w5:=((Fr.refl [] w2).drew).trans hf5;have hk0:=dA hf25 k0;have hk1:=dA hf25 k1;have hkB:=hB1.fr hf25;refine⟨_,rfl,hK _ _ (fun _=>⟨hk0,hk1,hkB⟩) ?_⟩;simp only[nrm];clear hK;refine tks [4,5,6,7,8,9,10,11,12] ?_
     iterate 9 (refine tk rfl rfl ⟨hk0,hk1,hkB⟩ rfl (fun _ hW=>by(obtain⟨q0,q1,q2⟩:=hW;go_simp) <;> with_reducible rfl) ?_;simp only[nrm])
     refine tke ?_;refine tv 13 (.agg cs.toArray) rfl rfl ⟨hk0,hk1,hkB⟩ (.inl ⟨rfl,fun W hW=>qT rfl rfl hW.2.2 Tryz.underlying109 rfl HC1.o⟩) ?_;simp only[nrm];refine sD (j:=14) (some 30) rfl rfl (by kernel_rfl) rfl fun K hK=>?_;refine zA (l:=[.tmp 29]) rfl [.agg cs.toArray] rfl (fun W=>by kernel_rfl) ((HMO.o w5 hf25).mono ?_);rintro e w6 ⟨rfl,hf6⟩;have hf26:Fr [] w2 w6:=hf25.trans hf6;have hm0:=dA hf26 k0;have hm1:=dA hf26 k1;have hmB:=hB1.fr hf26;refine⟨_,rfl,hK _ _ (fun _=>⟨hm0,hm1,hmB⟩) ?_⟩;simp only[nrm];clear hK;refine tks [15,16,17] ?_
     iterate 3 (refine tk rfl rfl ⟨hm0,hm1,hmB⟩ rfl (fun _ hW=>by(obtain⟨q0,q1,q2⟩:=hW;go_simp) <;> with_reducible rfl) ?_;simp only[nrm])
     refine tke ?_;refine sp 18 rfl rfl rfl fun K hK=>?_;refine tA (v:=?aq11_18) ?yq11_18 (hK _ _ (fun _=>⟨hm0,hm1,hmB⟩) ?_)
     case yq11_18=>go_simp <;> with_reducible rfl
     simp only[nrm];refine wd ?_ _;have HFE:=lh (HF2.o.trans hf26);clear hf5 hf25 hf6 hf26 hk0 hk1 hkB hm0 hm1 hmB k0 k1 hcx hB1;go_wp2_with fail;exact HQ.o _ _ ⟨by rw[HE.o,<- HBE.o];simp,HFE.o⟩
   ·have d7e:(wh == 7)=false:=by simpa using h7
    have d7:(wh != 7)=true:=by rw[bne_iff_ne];exact h7
    have HRA:Hid (∀ y,x.right y=true):=lh (fun y=>by rw[HRT.o,if_neg hA,if_neg h4,if_neg h7]);rw[d7,Bool.true_or,Bool.and_true] at HE;clear hA h4 h7;go_upto_region 11 with fail
    have hfa:Fr [] w0 (w0.alloc (.cells #[(Value.func (Fn.func 115) #[] #[])] 111)):=(Fr.refl [] w0).alloc _;have hba:=Blk.new w0 111 [(Value.func (Fn.func 115) #[] #[])];generalize w0.alloc (.cells #[(Value.func (Fn.func 115) #[] #[])] 111)=w2 at *;obtain⟨p3,hp3⟩:∃ p3,w0.heap.size=p3:=⟨_,rfl⟩;rw[hp3] at hba ⊢;have HB3:=lh hba;have HF2:=lh (HF0.o.trans hfa);have HB1:=lh (HB0.o.fr hfa);have HLS:=lh (HLS0.o.fr (HF0.o.trans hfa));have HHH:=lh (HH.o.fr (HF0.o.trans hfa));clear hfa hba hp3
    have hcx:=lh (nH (HLS.o.fr ((Fr.refl [] w2).drew)) hbig (f:=118) (first:=#[]) (cap:=#[.pointer (some ⟨p3,0,none⟩)]) (all:=fun v=>#[v,.pointer (some ⟨p3,0,none⟩)]) (fun v=>rfl) (fun v w=>by kernel_rfl) (fun y=>!x.right y)
     (fun y hy wa es hfa hra=>nJ (hra.1.trans (kA y)) (HB3.o.fr (((Fr.refl [] w2).drew).trans hfa)) (f:=115) (first:=#[]) (cap:=#[]) (all:=(fun v=>#[v])) (fun v=>rfl) (fun v w=>by kernel_rfl) (b:=x.right y) (fun wb hfb=>(HRA.o y ▸ aCv))))
    have HAE:Hid ((x.l.any fun y=>!x.right y) = !x.l.all x.right):=lh (by rw[List.not_all_eq_any_not]);rw[HAE.o] at hcx;have k0:=HB1.o.at_ HW0.o;have k1:=HB1.o.at_ HL1.o;generalize x.l.all x.right=al at *
    cases al with
    | false=>
     refine mA (fun W=>W.cell? ⟨w.heap.size,0,none⟩=some (.int .i64 wh)/\W.cell? ⟨w.heap.size,1,none⟩=some (.slice A ln c)) [0,1,2,4,5,6,7,8,9,10,11,12,13,14,15,16,17] (by kernel_rfl) ?_;refine tks [0,1,2] ?_
     iterate 3 (refine tk rfl rfl ⟨k0,k1⟩ rfl (fun _ hW=>by(obtain⟨q0,q1⟩:=hW;go_simp) <;> with_reducible rfl) ?_;simp only[nrm])
     refine tke ?_;refine sp 3 rfl rfl rfl fun K hK=>?_;refine zA (l:=[.tmp 17,.tmp 18]) rfl [.slice A ln c,.func (.func 118) #[] #[.pointer (some ⟨p3,0,none⟩)]] rfl (fun W=>by kernel_rfl) (hcx.o.mono ?_);rintro e w5 ⟨rfl,hf5⟩;have hf25:Fr [] w2 w5:=((Fr.refl [] w2).drew).trans hf5;have hk0:=dA hf25 k0;have hk1:=dA hf25 k1;refine⟨_,rfl,hK _ _ (fun _=>⟨hk0,hk1⟩) ?_⟩;simp only[nrm];clear hK;refine tks [4,5] ?_
     iterate 2 (refine tk rfl rfl ⟨hk0,hk1⟩ rfl (fun _ hW=>by(obtain⟨q0,q1⟩:=hW;go_simp) <;> with_reducible rfl) ?_;simp only[nrm])
     refine tke ?_;refine tks [6,7,8,9,10,11,12,13,14,15,16] ?_
     iterate 11 (refine tu rfl rfl ⟨hk0,hk1⟩ rfl ?_;simp only[nrm])
     refine tke ?_;refine tks [17] ?_;refine tk rfl rfl ⟨hk0,hk1⟩ rfl (fun _ hW=>by(obtain⟨q0,q1⟩:=hW;go_simp) <;> with_reducible rfl) ?_;simp only[nrm];refine tke ?_;refine sp 18 rfl rfl rfl fun K hK=>?_;refine tA (v:=?aq12_18) ?yq12_18 (hK _ _ (fun _=>⟨hk0,hk1⟩) ?_)
     case yq12_18=>go_simp <;> with_reducible rfl
     simp only[nrm];refine wd ?_ _;have HFE:=lh (HF2.o.trans hf25);clear hf5 hf25 hk0 hk1 k0 k1 hcx;go_wp2_with fail;exact HQ.o _ _ ⟨by rw[HE.o];simp,HFE.o⟩
    | true=>
     refine mA (fun W=>W.cell? ⟨w.heap.size,0,none⟩=some (.int .i64 wh)/\W.cell? ⟨w.heap.size,1,none⟩=some (.slice A ln c)) [0,1,2,4,5,6,7,8,9,10,11,12,13,14,15,16,17] (by kernel_rfl) ?_;refine tks [0,1,2] ?_
     iterate 3 (refine tk rfl rfl ⟨k0,k1⟩ rfl (fun _ hW=>by(obtain⟨q0,q1⟩:=hW;go_simp) <;> with_reducible rfl) ?_;simp only[nrm])
     refine tke ?_;refine sp 3 rfl rfl rfl fun K hK=>?_;refine zA (l:=[.tmp 17,.tmp 18]) rfl [.slice A ln c,.func (.func 118) #[] #[.pointer (some ⟨p3,0,none⟩)]] rfl (fun W=>by kernel_rfl) (hcx.o.mono ?_);rintro e w5 ⟨rfl,hf5⟩;have hf25:Fr [] w2 w5:=((Fr.refl [] w2).drew).trans hf5;have hk0:=dA hf25 k0;have hk1:=dA hf25 k1;refine⟨_,rfl,hK _ _ (fun _=>⟨hk0,hk1⟩) ?_⟩;simp only[nrm];clear hK;refine tks [4,5,6,7,8,9] ?_
     iterate 6 (refine tk rfl rfl ⟨hk0,hk1⟩ rfl (fun _ hW=>by(obtain⟨q0,q1⟩:=hW;go_simp) <;> with_reducible rfl) ?_;simp only[nrm])
     refine tke ?_;refine tks [10,11,12,13,14,15] ?_
     iterate 6 (refine tu rfl rfl ⟨hk0,hk1⟩ rfl ?_;simp only[nrm])
     refine tke ?_;refine tks [16,17] ?_
     iterate 2 (refine tk rfl rfl ⟨hk0,hk1⟩ rfl (fun _ hW=>by(obtain⟨q0,q1⟩:=hW;go_simp) <;> with_reducible rfl) ?_;simp only[nrm])
     refine tke ?_;refine sp 18 rfl rfl rfl fun K hK=>?_;refine tA (v:=?aq13_18) ?yq13_18 (hK _ _ (fun _=>⟨hk0,hk1⟩) ?_)
     case yq13_18=>go_simp <;> with_reducible rfl
     simp only[nrm];refine wd ?_ _;have HFE:=lh (HF2.o.trans hf25);clear hf5 hf25 hk0 hk1 k0 k1 hcx;go_wp2_with fail;exact HQ.o _ _ ⟨by rw[HE.o];simp,HFE.o⟩
end
def zO (w:World) (lo:Nat) (N:Nat -> Prop) (t:TypeId) (k:Nat) (v:Value) (l:List (List Cl)):Prop:=
 ∃ css:List (List Value),css.length=l.length/\w.ownsRow 0 t k v l.length css.flatten/\(∀ x,v.ownBlock=some x -> lo<=x) /\
  ∀ (i:Nat) (q:List Cl) (cs:List Value),l[i]? = some q -> css[i]? = some cs -> q.length=k/\gA w N q cs
theorem zO.nil (w:World) (lo:Nat) (N:Nat -> Prop) (t:TypeId) (k:Nat):zO w lo N t k (.slice none 0 0) []:=⟨[],rfl,sG _ _ _ _,by simp[Value.ownBlock],fun i q cs h=>by simp at h⟩
theorem zO.fr {w w':World} {lo:Nat} {N:Nat -> Prop} {t:TypeId} {k:Nat} {v:Value} {l:List (List Cl)} (h:zO w lo N t k v l) (hf:Fr [] w w'):zO w' lo N t k v l:=by
 obtain⟨css,h1,h2,h3,h4⟩:=h;exact⟨css,h1,sB h2 hf (by simp),h3,fun i q cs hq hc=>⟨(h4 i q cs hq hc).1,(h4 i q cs hq hc).2.fr hf⟩⟩
theorem zO.slice {w:World} {lo:Nat} {N:Nat -> Prop} {t:TypeId} {k:Nat} {v:Value} {l:List (List Cl)} (h:zO w lo N t k v l):∃ A c,v=.slice A l.length c:=by
 obtain⟨css,h1,h2,h3,h4⟩:=h;obtain⟨A,c,hv,_⟩:=jC h2;exact⟨A,c,hv⟩
theorem zO.cat {w:World} {lo:Nat} {N:Nat -> Prop} {t:TypeId} {k:Nat} {v:Value} {l:List (List Cl)} (h:zO w lo N t k v l) (hk0:0 < k):CAt w (fun g=>N g ∨ lo<=g) (.rows k l) v:=by
 obtain⟨css,h1,h2,h3,h4⟩:=h;obtain⟨A,c,rfl,hc,_⟩:=jC h2;have hck:∀ i,i < l.length -> css[i]? = some (css.getD i []):=fun i hi=>by rw[List.getD_eq_getElem?_getD,List.getElem?_eq_getElem (by omega)];rfl
 have hlen:∀ row ∈ l,row.length=k:=fun row hr=>by
  obtain⟨i,hi,rfl⟩:=List.mem_iff_getElem.1 hr;exact(h4 i _ _ (List.getElem?_eq_getElem hi) (hck i hi)).1
 have h6:∀ cs ∈ css,cs.length=k:=fun cs hcs=>by
  obtain⟨i,hi,rfl⟩:=List.mem_iff_getElem.1 hcs;have:=h4 i _ _ (List.getElem?_eq_getElem (by omega)) (List.getElem?_eq_getElem hi);exact this.2.1.trans this.1
 by_cases h0:0 < l.length
 ·obtain⟨g,rfl,hg⟩:=rK h2 h0;refine .rows k l _ c g 0 (fun i=>css.getD i []) hk0 hc (fun _=>⟨rfl,.inr (h3 g rfl)⟩) hlen (fun i hi=>?_) (fun i q j x u hq hx hu=>?_)
  ·have hci:=hck i hi;have hl:(css.getD i []).length=k:=h6 _ (List.mem_of_getElem? hci);refine⟨hl,fun j u hj=>?_⟩;have hj6:j < k:=by have:=(List.getElem?_eq_some_iff.1 hj).1;omega
   refine hg _ u ?_;rw[Nat.zero_add,jS css h6 i _ hci j hj6];exact hj
  ·have hi:i < l.length:=(List.getElem?_eq_some_iff.1 hq).1;exact((h4 i q _ hq (hck i hi)).2.2 j x u hx hu).mono (fun g hg=>.inl hg)
 ·have hl0:l=[]:=List.eq_nil_of_length_eq_zero (by omega);subst hl0;exact CAt.nil w _ hk0 A c
theorem bZ {α:Type} {k:Nat}:∀ (css:List (List α)),(∀ cs ∈ css,cs.length=k) -> ∀ (j:Nat) (u:α),css.flatten[j]? = some u -> ∃ (i:Nat) (cs:List α) (j':Nat),css[i]? = some cs/\j=k * i+j'/\cs[j']? = some u
 | [],_,j,u,h=>by simp at h
 | c :: css,hk,j,u,h=>by
  have hc:=hk c (by simp);rw[List.flatten_cons] at h
  by_cases hj:j < c.length
  ·rw[List.getElem?_append_left hj] at h;exact⟨0,c,j,rfl,by omega,h⟩
  ·rw[List.getElem?_append_right (by omega)] at h;obtain⟨i,cs,j',h1,h2,h3⟩:=bZ css (fun x hx=>hk x (by simp[hx])) _ u h;exact⟨i+1,cs,j',by simpa using h1,by rw[Nat.mul_succ];omega,h3⟩
theorem CAt.news {w:World} {N:Nat -> Prop} {k n c:Nat} {l:List (List Cl)} {A:Option Addr} (h:CAt w N (.rows k l) (.slice A n c)):∃ css:List (List Value),css.length=l.length/\(∀ cs ∈ css,cs.length=k) /\
  (∀ (i:Nat) (q:List Cl) (cs:List Value),l[i]? = some q -> css[i]? = some cs -> q.length=k/\gA w N q cs)/\(0 < l.length -> ∃ g off,A=some ⟨g,off,none⟩/\∀ (j:Nat) (u:Value),css.flatten[j]? = some u -> w.cell? ⟨g,off+j,none⟩=some u):=by
 generalize hv:Value.slice A n c=v at h
 cases h with
 | rows _ _ A0 c0 g off css hk hc hA hlen hcell hsub=>
  injection hv with hv1 hv2 hv3;subst hv1 hv2 hv3
  have hget:∀ (i:Nat) (cs:List Value),((List.range l.length).map css)[i]? = some cs -> i < l.length/\css i=cs:=fun i cs hi=>by
   have hi':=(List.getElem?_eq_some_iff.1 hi).1
   simp at hi'
   rw[List.getElem?_map,List.getElem?_range hi'] at hi;exact⟨hi',by simpa using hi⟩
  have hall:∀ cs ∈ (List.range l.length).map css,cs.length=k:=fun cs hcs=>by
   obtain⟨i,hi⟩:=List.mem_iff_getElem?.1 hcs;obtain⟨hi',rfl⟩:=hget i cs hi;exact(hcell i hi').1
  refine⟨(List.range l.length).map css,by simp,hall,fun i q cs hq hcs=>?_,fun h0=>⟨g,off,(hA h0).1,fun j u hj=>?_⟩⟩
  ·obtain⟨hi',rfl⟩:=hget i cs hcs;have hqk:=hlen q (List.mem_of_getElem? hq);exact⟨hqk,by rw[(hcell i hi').1,hqk],fun j x u hx hu=>hsub i q j x u hq hx hu⟩
  ·obtain⟨i,cs,j',h1,rfl,h3⟩:=bZ _ hall j u hj;obtain⟨hi',rfl⟩:=hget i cs h1;rw[show off+(k * i+j')=off+k * i+j' by omega];exact(hcell i hi').2 j' u h3
section
variable {P : Program} {ops : Array Oper} {rest : List Oper} {o : Oper} {a : Act} {w : World} {Q : Exit -> Act -> World -> Prop}
theorem cS {t e ty:TypeId} {k:Nat} (ht:P.underlying t=some (.slice e)) (hi:(P.info? e).map (·.size)=some k) (A:Option Addr) (B:Option Addr) (n c d:Nat) (hn:n<=c):
  (Builtin.append_ #[t,t] ty #[.slice A n c,.slice B 0 d]).run P w=.ok (.slice A n c) w:=by
 obtain⟨i,hi1,hi2⟩:=Option.map_eq_some_iff.1 hi;have h4:∀ w,(underlying t).run P w=.ok (.slice e) w:=fun w=>by simp[underlying,go_sem,ht]
 have h5:∀ w,(sizeOf e).run P w=.ok k w:=fun w=>by simp[sizeOf,typeInfo,go_sem,hi1,hi2]
 unfold Builtin.append_
 cases A <;> cases B <;> simp[go_sem,h4,h5,hn,loadCellsFrom]
theorem dS (hg:o.guard=none) {t:TypeId} (s x:Operand) (ho:o.op=.call { callee:=.builtin .append,args:=#[s,x],argTypes:=#[t,t] })
  (e:TypeId) {i:TypeInfo} {z:Value} {size bytes:Nat} (ht:P.underlying t=some (.slice e)) (hi:P.info? e=some i) (hz:i.zero=some z) (hsize:i.size=size) (hby:i.bytes=bytes) (hzs:z.cells.size=size) (h0:0 < size)
  {w0:World} {N:Nat -> Prop} {v:Value} {l l2:List (List Cl)} {A:Option Addr} {m d:Nat} (hs:a.eval s=v) (hown:zO w w0.heap.size N e size v l) (hf0:Fr [] w0 w) (hN:∀ g,N g -> g < w0.heap.size) (hx:a.eval x=.slice A m d) (hc:CAt w N (.rows size l2) (.slice A m d)) (hm:l2.length=m)
  (h63:l.length+m<=maxLen) (hbytes:(l.length+m) * bytes<=140737488355328)
  (h:∀ v' w',zO w' w0.heap.size N e size v' (l ++ l2) -> Fr [] w0 w' -> w.heap.size<=w'.heap.size -> wpList P ops Q rest (a.put o.dst v') w'):wpList P ops Q (o :: rest) a w:=by
 by_cases hm0:0 < m
 ·obtain⟨css,h1,h2,h3,h4⟩:=hown;obtain⟨cs2,n1,n2,n3,n4⟩:=hc.news;obtain⟨g,off,rfl,n5⟩:=n4 (by omega)
  have hone:∀ u ∈ cs2.flatten,u.oneCell'=true:=fun u hu=>by
   obtain⟨cs,hcs,hu⟩:=List.mem_flatten.1 hu;obtain⟨j,hj⟩:=List.mem_iff_getElem?.1 hcs;have hjl:=(List.getElem?_eq_some_iff.1 hj).1;exact(n3 j _ cs (List.getElem?_eq_getElem (by omega)) hj).2.one u hu
  have hfl:cs2.flatten.length=m * size:=by
   rw[<- hm,<- n1];clear n1 n3 n4 n5 hone
   induction cs2 with
   | nil=>simp
   | cons c cs ih=>rw[List.flatten_cons,List.length_append,ih (fun x hx=>n2 x (by simp[hx])),n2 c (by simp),List.length_cons,Nat.succ_mul];omega
  refine eE hg s x ho e size bytes ht hi hz hsize hby hzs h0 v l.length css.flatten hs h2 ⟨g,off,none⟩ m d cs2.flatten hx hfl (fun j u hj=>by rw[Addr.add_mid];exact n5 j u hj) hone hm0 h63 hbytes _ rfl fun g7 cap w' ho7 hf7 hat=>?_;have hz0:=hf0.size;have hz7:=hf7.size
  have hNo:∀ g,N g -> g ∉ v.ownBlock.toList:=fun g hg hm=>by
   have:=h3 g (by simpa using hm);have:=hN g hg;omega
  refine h _ w' ⟨css ++ cs2,by simp[h1,n1],by rw[List.length_append,hm,List.flatten_append];exact ho7,fun x hx=>?_,fun i q cs hq hcs=>?_⟩ (hf0.trans hf7 (fun x hx=>.inr (h3 x (by simpa using hx)))) hz7
  ·have e:g7=x:=by simpa[Value.ownBlock] using hx
   rcases hat with h | h
   ·exact h3 x (e ▸ h)
   ·omega
  ·by_cases hi:i < l.length
   ·rw[List.getElem?_append_left hi] at hq;rw[List.getElem?_append_left (by omega)] at hcs;exact⟨(h4 i q cs hq hcs).1,(h4 i q cs hq hcs).2.fr hf7 hNo⟩
   ·rw[List.getElem?_append_right (by omega)] at hq hcs;rw[h1] at hcs;exact⟨(n3 _ q cs hq hcs).1,(n3 _ q cs hq hcs).2.fr hf7 hNo⟩
 ·have hm1:m=0:=by omega
  subst hm1;have hl2:l2=[]:=List.eq_nil_of_length_eq_zero hm;subst hl2;obtain⟨B,c,rfl⟩:=hown.slice
  have hnc:l.length<=c:=by
   obtain⟨css,h1,h2,h3,h4⟩:=hown;obtain⟨A',c',hv,hc',_⟩:=jC h2;injection hv with e1 e2 e3;omega
  have hr:=cS (P:=P) (w:=w) (ty:=o.type) (k:=size) ht (by rw[hi];simp[hsize]) B A l.length c d hnc;refine wpList_plain hg fun K hK=>?_;unfold Oper.wp execOp;simp only[ho,resolve,invoke,builtin,Sem.run_bind,Sem.run_pure,Result.andThen_ok,List.map_toArray,List.map_cons,List.map_nil,hs,hx,hr];exact hK _ _ (h _ w (by simpa using hown) hf0 (Nat.le_refl _))
end
theorem fQ {l:List Sgm} {k:Nat} {x:Sgm} (h:l[k]? = some x):gB (l.take (k+1))=gB (l.take k) ++ oB x.l:=by
 obtain⟨hk,hx⟩:=List.getElem?_eq_some_iff.1 h;rw[List.take_succ_eq_append_getElem hk,hx]
 simp[gB]
theorem gQ {l:List Slr} {k:Nat} {x:Slr} (h:l[k]? = some x):oB (l.take (k+1))=oB (l.take k) ++ x.f:=by
 obtain⟨hk,hx⟩:=List.getElem?_eq_some_iff.1 h;rw[List.take_succ_eq_append_getElem hk,hx]
 simp[oB]
theorem aAO {l:List Sgm} (k:Nat):(gB (l.take k)).length<=(gB l).length:=by
 have h:gB l=gB (l.take k) ++ gB (l.drop k):=by
  show(l.flatMap _)=(l.take k).flatMap _ ++ (l.drop k).flatMap _
  rw[<- List.flatMap_append,List.take_append_drop]
 rw[h];simp
theorem aAP {l:List Slr} (k:Nat):(oB (l.take k)).length<=(oB l).length:=by
 have h:oB l=oB (l.take k) ++ oB (l.drop k):=by
  show(l.flatMap _)=(l.take k).flatMap _ ++ (l.drop k).flatMap _
  rw[<- List.flatMap_append,List.take_append_drop]
 rw[h];simp
theorem aDX {w:World} {N:Nat -> Prop} {x:Slr} {cs:List Value} (h:gA w N x.cells cs):∃ A c,cs[9]? = some (.slice A x.f.length c)/\CAt w N (.rows 13 (x.f.map Xpr.cells)) (.slice A x.f.length c):=by
 obtain⟨what,name,at_,has,s,f⟩:=x;have h9:=h.1;obtain⟨u,hu⟩:∃ u,cs[9]? = some u:=gx (by rw[h9];show 9 < 10;omega);have hc:CAt w N (.rows 13 (xF f)) u:=h.2 9 _ u rfl hu;rw[oC] at hc;obtain⟨A,c,rfl,_⟩:=hc.slice;exact⟨A,c,by rw[hu];simp[Slr.f],by simpa[Slr.f] using hc⟩
theorem aDY:(Tryz.prog.info? 50).map (·.zero)=some (some (.agg zs.toArray)):=by kernel_rfl
theorem aDZ:(Value.agg zs.toArray).cells=zs.toArray:=rfl
def FoRel (l:List Sgm) (ln:Nat) (w:World) (N:Nat -> Prop) (j:Nat) (v3 v11:Value) (wr:World):Prop:=
 ∃ k:Nat,k+j=ln/\v11=.int .i64 (k:Int)/\zO wr w.heap.size N 109 13 v3 ((gB (l.take k)).map Xpr.cells)/\Fr [] w wr
def FiRel (pre:List Xpr) (l:List Slr) (ln:Nat) (w:World) (N:Nat -> Prop) (j:Nat) (v3 v18:Value) (wr:World):Prop:=
 ∃ k:Nat,k+j=ln/\v18=.int .i64 (k:Int)/\zO wr w.heap.size N 109 13 v3 ((pre ++ oB (l.take k)).map Xpr.cells)/\Fr [] w wr
theorem vR {w:World} {N:Nat -> Prop} {q:Qry} {cs:List Value} (h:gA w N q.cells cs) (hw:q.wt<=1000000):Calls Tryz.prog 44 #[.agg cs.toArray] w fun e w'=>∃ v,e=.returned v/\CAt w' (fun g=>N g ∨ w.heap.size<=g) (.rows 13 (q.fil.map Xpr.cells)) v/\Fr [] w w':=by
 refine bA fun R HQ=>?_;obtain⟨A,c,rfl,hc⟩:=gD h;have hlw:=q.len_le;have hfw:=q.fil_len
 have HM:Hid (∀ x ∈ q.l,x.l.length<=1000000):=lh fun x hx=>by
  have:=lE hx;have:=gH x.l;rw[q.wt_eq] at hw;have:=x.wt_eq;omega
 have HB:=lh hc.bound;obtain⟨l,hl⟩:∃ l,q.l=l:=⟨_,rfl⟩;have HF9:Hid (q.fil=gB l):=lh (by unfold Qry.fil;rw[hl]);rw[HF9.o] at hfw HQ;rw[hl] at hlw HM HB ⊢;generalize q.rel=rel;obtain⟨A',c',g,off,hv,hA,hrow⟩:=HB.o.row;injection hv with e1 e2 e3;subst e1 e3;have hll:(l.map Sgm.cells).length=l.length:=by simp
 rw[hll] at hA;have HROW:=lh hrow;have HA:=lh hA;obtain⟨ln,hln⟩:∃ ln,l.length=ln:=⟨_,rfl⟩;have HLN:=lh hln;rw[hln] at hlw ⊢;have hbig:ln<=1000000:=by omega
 have hfb:(gB l).length<=1000000:=by omega
 have HFB:=lh hfb;clear hrow hA h hc hw hlw hfw hln hll hl hfb e2 HB HF9
 go_enter Tryz.func44,Tryz.ntmps44
 go_wp2_with (with_reducible refine dB rfl 25 (.tmp 0) rfl [.bool rel,.slice A ln c] rfl ?_)
 intro w0 hb0 hf0 hz0;have HF0:=lh hf0;have b1:=hb0.at_ (i:=1) rfl;clear hb0 hf0;go_wp2_with fail
 go_loopg [3,11] ln (fun j v3 v11 wr=>FoRel l ln w (fun g=>N g/\g < w.heap.size) j v3 v11 wr)
 case atStart=>exact⟨0,by omega,rfl,by simpa[gB] using zO.nil _ _ _ _ _,HF0.o⟩
 case round=>
  obtain⟨k,hk,rfl,hO,hf⟩:=hrel;have HO:=lh hO;have HF:=lh hf;clear hO hf
  by_cases hkl:k < ln
  ·obtain⟨x,hx⟩:∃ x,l[k]? = some x:=gx (by rw[HLN.o];exact hkl);obtain⟨rfl,hNg⟩:=HA.o (by have:=HLN.o;omega);obtain⟨_,cs,hcs,hcell⟩:=HROW.o k x.cells (by rw[List.getElem?_map,hx];rfl);have hxl:=HM.o x (List.mem_of_getElem? hx);have hft:=fQ hx;have hfl:=aAO (l:=l) (k+1);obtain⟨B,d,rfl,hcx⟩:=sF hcs;have k0:=hcell 0 _ rfl;have k1:=hcell 1 _ rfl;rw[show off+2 * k+0=off+k * 2 by omega] at k0;rw[show off+2 * k+1=off+k * 2+1 by omega] at k1;have hgl:=World.block_lt_of_cell? w _ k0;have c0:=dA HF.o k0;have c1:=dA HF.o k1;generalize x.deep=dp at *;have HCX:=lh hcx;have HFT:=lh hft;have HFL:=lh hfl;clear hcs hcell hcx hft hfl k0 k1 hgl hx;generalize x.l=xl at *;go_wp2_with fail;have hf3:Fr [] wr (wr.alloc (.cells #[.bool dp,.slice B xl.length d] 54)):=(Fr.refl [] wr).alloc _;generalize wr.alloc (.cells #[.bool dp,.slice B xl.length d] 54)=w3 at *;have HF3:=lh (HF.o.trans hf3);have HO3:=lh (HO.o.fr hf3);obtain⟨B',d',g2,off2,hv2,hB,hrow2⟩:=HCX.o.row;injection hv2 with e1 e2 e3;subst e1 e3;have hll2:(xl.map Slr.cells).length=xl.length:=by simp
   rw[hll2] at hB;have HROW2:=lh hrow2;have HB2:=lh hB;obtain⟨ln2,hln2⟩:∃ ln2,xl.length=ln2:=⟨_,rfl⟩;have HLN2:=lh hln2;rw[hln2] at hxl ⊢;clear hrow2 hB hln2 hll2 e2 HCX hf3 c0 c1
   go_loopg [3,18] ln2 (fun j v3 v18 wr=>FiRel (gB (l.take k)) xl ln2 w (fun g=>N g/\g < w.heap.size) j v3 v18 wr)
   case atStart=>exact⟨0,by omega,rfl,by simpa[oB] using HO3.o,HF3.o⟩
   case round=>
    obtain⟨k2,hk2,rfl,hO,hf⟩:=hrel;have HOi:=lh hO;have HFi:=lh hf;clear hO hf
    by_cases hkl2:k2 < ln2
    ·obtain⟨x2,hx2⟩:∃ x2,xl[k2]? = some x2:=gx (by rw[HLN2.o];exact hkl2);obtain⟨rfl,hNg2⟩:=HB2.o (by have:=HLN2.o;omega);obtain⟨_,cs2,hcs2,hcell2⟩:=HROW2.o k2 x2.cells (by rw[List.getElem?_map,hx2];rfl);have hft2:=gQ hx2;have hfl2:=aAP (l:=xl) (k2+1);have hcl2:cs2.length=10:=hcs2.1.trans (aD x2);have hc1:(Tryz.prog.info? 50).map (·.size)=some cs2.length:=by rw[hcl2];exact vJ
     have hc2:zs.length=cs2.length:=by rw[hcl2];rfl
     have hra:wr.rangeAt g2 (off2+k2 * 10) cs2:=fun j u hj=>by
      have:=hcell2 j u hj;rw[show off2+10 * k2+j=off2+k2 * 10+j by rw[Nat.mul_comm]] at this;exact dA HFi.o this
     have HC1:=lh hc1;have HC2:=lh hc2;have HRA:=lh hra;have HONE:=lh hcs2.one;have HCS:=lh hcs2;obtain⟨iu,hi,hz',hsz',hby⟩:=info_parts tW;have hl2p:0 < ln2:=by omega
     have HFT2:=lh hft2;have HFL2:=lh hfl2;clear hcell2 hcs2 hc1 hc2 hra hx2 hft2 hfl2
     go_wp2_with (first
      | (with_reducible refine wpList_load_mid rfl 50 (.tmp 20) rfl g2 (off2+k2 * 10) rfl cs2 _ HRA.o Tryz.underlying50 rfl HC1.o ?_)
      | (with_reducible refine zC rfl rfl 50 (.tmp 21) rfl rfl rfl rfl (.agg zs.toArray) zs aDY aDZ cs2 rfl rfl HC1.o HC2.o HONE.o ?_))
     intro w4 hb4 hf4 hz4;have HCS4:=(HCS.o.fr HFi.o).fr hf4;obtain⟨Ax,cx,hx9,hcx⟩:=aDX HCS4;have c9:=hb4.at_ hx9;have HCX9:=lh hcx;have HO4:=lh (HOi.o.fr hf4);have HF4w:=lh (HFi.o.trans hf4);clear hb4 hf4 hx9 hcx HCS4
     have hlm:((gB (l.take k) ++ oB (xl.take k2)).map Xpr.cells).length+x2.f.length<=1000000:=by
      have h1:=HFL.o;have h2:=HFL2.o;have h3:=HFB.o;rw[HFT.o] at h1;rw[HFT2.o] at h2;simp only[List.length_append,List.length_map] at h1 h2 ⊢;omega
     have HLM1:Hid (((gB (l.take k) ++ oB (xl.take k2)).map Xpr.cells).length+x2.f.length<=maxLen):=lh (by unfold maxLen;omega);have HLM2:Hid ((((gB (l.take k) ++ oB (xl.take k2)).map Xpr.cells).length+x2.f.length) * 192<=140737488355328):=lh (by omega);have HML:Hid ((x2.f.map Xpr.cells).length=x2.f.length):=lh (by simp);have HNN:Hid (∀ g,(N g/\g < w.heap.size) -> g < w.heap.size):=lh fun g hg=>hg.2;have hk0:0 < 13:=by omega
     clear hlm
     go_wp2_with (with_reducible refine dS rfl (.tmp 22) (.tmp 24) rfl 109 Tryz.underlying48 hi hz' hsz' hby rD hk0 rfl HO4.o HF4w.o HNN.o rfl HCX9.o HML.o HLM1.o HLM2.o ?_)
     intro v' w5 hO5 hf5 hz5
     have happ:(gB (l.take k) ++ oB (xl.take k2)).map Xpr.cells ++ x2.f.map Xpr.cells=(gB (l.take k) ++ oB (xl.take (k2+1))).map Xpr.cells:=by
      rw[HFT2.o,<- List.map_append,List.append_assoc]
     have HO5:Hid (zO w5 w.heap.size (fun g=>N g/\g < w.heap.size) 109 13 v' ((gB (l.take k) ++ oB (xl.take (k2+1))).map Xpr.cells)):=lh (by rw[<- happ,List.map_append,List.append_assoc];exact hO5);have HF5:=lh hf5;clear hO5 hf5 hz5 happ c9;go_wp2_with fail
     go_roundg (ln2 - (k2+1))
     case measure=>omega
     case rel=>exact⟨k2+1,by omega,by go_num,HO5.o,HF5.o⟩
    ·have hte:xl.take k2=xl:=List.take_of_length_le (by rw[HLN2.o];omega);have HOE:=HOi.o;rw[hte,<- HFT.o] at HOE;have HOE':=lh HOE;have HFE:=HFi;clear HOE hte;go_wp2_with fail
     go_roundg (ln - (k+1))
     case measure=>omega
     case rel=>exact⟨k+1,by omega,by go_num,HOE'.o,HFE.o⟩
  ·go_wp2_with fail;refine HQ.o _ _ ⟨_,rfl,?_,HF.o⟩;have h9:=HO.o;rw[List.take_of_length_le (by rw[HLN.o];omega)] at h9;exact(h9.cat (by decide)).mono (fun g hg=>hg.imp (fun h=>h.1) id)
end
end Go.Proofs.YtbggkiebfflcdaaGreatDoor
