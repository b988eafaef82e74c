/-
  Joined by join.py: Ae Af Ag Aj
-/
import Derived.Test.YtbggkiebfflcdaaGreatDoorJpp28
set_option maxRecDepth 100000
set_option maxHeartbeats 32000000
namespace Go.Proofs.YtbggkiebfflcdaaGreatDoor
section
open Go.RowKit Go.Shelf
section
variable {P : Program} {ops : Array Oper} {rest : List Oper} {o : Oper} {a : Act} {w : World} {Q : Exit -> Act -> World -> Prop}
theorem bM (k:Tmp) (_:o.dst=some k) (hg:Region.wanted o (yielded ops a.tmps)=true) (ty:TypeId) (x:Operand) (ho:o.op=.load ty x) (b off:Nat) (hx:a.eval x=.pointer (some ⟨b,off,none⟩)) (cs:List Value) (d:TypeDesc) (hc:w.rangeAt b off cs)
  (hu:P.underlying ty=some d) (hd:d.isRow=true) (hi:(P.info? ty).map (·.size)=some cs.length) (h:wpList P ops Q rest (a.put o.dst (.agg cs.toArray)) w):wpList P ops Q (o :: rest) a w:=
 eJ hg ty x ho b off hx cs d hc hu hd hi h
end
theorem dN (x:Xpr):x.typed=(((x.l.all fun y=>x.right y && y.typed) && x.q.typed) && (x.what != 7 || x.l.length == (if cB x.op then 2 else 1))):=by
 rw[Xpr.typed_eq];unfold Xpr.fits
 rw[show(x.l.all fun y=>x.right y && y.typed)=(x.l.all x.right && x.l.all Xpr.typed) from by
  induction x.l with
  | nil=>rfl
  | cons a l ih=>rw[List.all_cons,List.all_cons,List.all_cons,ih];cases x.right a <;> cases a.typed <;> simp]
 cases x.l.all x.right <;> cases x.l.all Xpr.typed <;> cases x.q.typed <;> simp
theorem fL {x y:Xpr} (h:y ∈ x.l) (hy:(x.right y && y.typed)=false):x.typed=false:=by
 rw[dN,show(x.l.all fun y=>x.right y && y.typed)=false from List.all_eq_false.2 ⟨y,h,by rw[hy];simp⟩]
 simp
theorem aGu {x y:Xpr} (h1:1<=x.what) (h3:x.what<=3):x.right y=y.truth:=by unfold Xpr.right;rw[if_pos ⟨h1,h3⟩]
theorem aGv {x y:Xpr} (h:x.what=4):x.right y=y.value:=by unfold Xpr.right;rw[if_neg (by omega),if_pos h]
theorem aGw {x y:Xpr} (h:x.what=7):x.right y=x.asked y:=by unfold Xpr.right;rw[if_neg (by omega),if_neg (by omega),if_pos h]
theorem aGx {x y:Xpr} (h1:¬ (1<=x.what/\x.what<=3)) (h2:x.what ≠ 4) (h3:x.what ≠ 7):x.right y=true:=by unfold Xpr.right;rw[if_neg h1,if_neg h2,if_neg h3]
theorem aEV {w:World} {N:Nat -> Prop} {cs:List Value} {x:Xpr} (h:gA w N x.cells cs) (hw:x.wt<=1000000) (hk1:1<=x.what) (hq:TQ16 x.q) (hl:∀ y ∈ x.l,TX16 y):RV 53 #[.agg cs.toArray] w (.bool x.typed):=by
 refine bA fun R HQ=>?_;have hwe:=x.wt_eq;have ho:x.op.length<=1000000:=by omega
 obtain⟨wh,hwh⟩:∃ wh,x.what=wh:=⟨_,rfl⟩;obtain⟨op,hop⟩:∃ op:ByteArray,op=⟨x.op.toArray⟩:=⟨_,rfl⟩;have hopb:aA op=x.op:=by rw[hop];simp[aA]
 have hw0:=eF h;have hw2:=sM h;rw[hwh] at hw0;rw[<- hop] at hw2;have hos:op.size<=maxLen:=by rw[lA hopb];unfold maxLen;omega
 have HW0:=lh hw0;have HW2:=lh hw2;have HOPB:=lh hopb;have HOS:=lh hos;have HH:=lh h;have HWH:=lh hwh;clear h hw0 hw2 hopb hos hop hwh;have HWT:=lh hw;have HLL:=lh hl;have HQT:=lh hq;rw[HWH.o] at hk1
 go_enter Tryz.func53,Tryz.ntmps53
 go_wp2_with (with_reducible refine dB rfl 117 (.tmp 0) rfl cs rfl ?_)
 intro w0 hb0 hf0 hz0;obtain⟨A,c,hc1_,hcat⟩:=tM HH.o;obtain⟨A2,cq,hc3,hc4,hrq⟩:=mJ HH.o;obtain⟨A',c',g,off,hv,hA,hrow⟩:=hcat.row;injection hv with e1 e2 e3;subst e1 e3;rw[List.length_map] at hA;obtain⟨ln,hln⟩:∃ ln,x.l.length=ln:=⟨_,rfl⟩;obtain⟨ql,hql⟩:∃ ql,x.q.l.length=ql:=⟨_,rfl⟩;obtain⟨rl,hrl⟩:∃ rl,x.q.rel=rl:=⟨_,rfl⟩;rw[hln] at hc1_ hA;rw[hql] at hc4 hrq;rw[hrl] at hc3 hrq;have hlb:ln<=1000000:=by have:=bE x.l;omega
 have HLN:=lh hln;have HROW:=lh hrow;have HA:=lh hA;have HF0:=lh hf0;have HB0:=lh hb0;have HCL:=lh hc1_;have HTQ:=lh (hq _ _ _ (hrq.fr hf0));have a0:=hb0.at_ HW0.o;have c3:=hb0.at_ hc3;have c4:=hb0.at_ hc4;have hlt:=hb0.lt;clear hb0 hf0 hz0 hc3 hc4 hrq hln hql hrl hrow hA hc1_ hcat e2 hl hq hw hwe ho;go_wp2_with fail;refine HTQ.o.mono ?_;rintro e w1 ⟨rfl,hf1⟩;obtain⟨tq,htq⟩:∃ tq,x.q.typed=tq:=⟨_,rfl⟩;rw[htq];have HTT:=lh htq;have HF1:=lh hf1;clear htq hf1 HTQ c3 c4 a0
 cases tq with
 | false=>
  have HNO:Hid (x.typed=false):=lh (by rw[dN,HTT.o];simp);rw[HNO.o] at HQ;go_wp2_with fail;exact HQ.o _ _ ⟨rfl,HF0.o.trans HF1.o⟩
 | true=>
  go_wp2_with fail
  go_loopg [3] ln (fun j v wr=>pX w0 ln (fun k=>(x.l.take k).all fun y=>x.right y && y.typed) j v wr)
  case atStart=>exact⟨0,by omega,rfl,HF1.o,rfl⟩
  case round=>
   obtain⟨wA,rfl⟩:=nm (wr);obtain⟨k,hk,rfl,hF,hall⟩:=hrel;have HFW:=lh hF;have HALL:Hid ((x.l.take k).all (fun y=>x.right y && y.typed)=true):=lh hall;have hbA:=HB0.o.fr hF;have a0:=hbA.at_ HW0.o;have a1:=hbA.at_ HCL.o;have a2:=hbA.at_ HW2.o;clear hF hall hbA
   by_cases hkl:k < ln
   ·have hki:(k:Int) < (ln:Int):=by omega
    obtain⟨y,hy⟩:∃ y,x.l[k]? = some y:=gx (by rw[HLN.o];exact hkl);obtain⟨rfl,-⟩:=HA.o (by omega);obtain⟨_,fs,hfs,hcell⟩:=HROW.o k y.cells (by rw[List.getElem?_map,hy];rfl);have hfl:fs.length=13:=hfs.1.trans (kA y);have hFo:=HF0.o.trans HFW.o;have hra:wA.rangeAt g (off+k * 13) fs:=fun j u hj=>by rw[show off+k * 13+j=off+13 * k+j by omega];exact dA hFo (hcell j u hj)
    have hmem:y ∈ x.l:=List.mem_of_getElem? hy;have hc1:(Tryz.prog.info? 117).map (·.size)=some fs.length:=by rw[hfl];exact tB
    have hc2:zx.length=fs.length:=by rw[hfl];rfl
    have HRA:=lh hra;have HC1:=lh hc1;have HC2:=lh hc2;have HO:=lh hfs.one;have HRW:=lh (hfs.fr hFo);have HMEM:=lh hmem;have HWY:=lh (eF hfs)
    have HYB:Hid (y.q.l.length<=1000000/\y.op.length<=1000000):=lh (by
     have h1:=mE hmem;have h2:=y.wt_eq;have h3:=x.wt_eq;have h4:=HWT.o;have h5:=y.q.fil_wt;omega)
    have htake:x.l.take (k+1)=x.l.take k ++ [y]:=by
     obtain⟨h1,h2⟩:=List.getElem?_eq_some_iff.1 hy;rw[List.take_succ_eq_append_getElem h1,h2]
    have HTK:=lh htake;clear hfs hcell hfl hra hc1 hc2 hFo hy hmem htake
    go_wp2_with (first
     | (with_reducible refine wpList_load_mid rfl 117 (.tmp 19) rfl g (off+k * 13) rfl fs _ HRA.o Tryz.underlying117 rfl HC1.o ?_)
     | (with_reducible refine zC rfl rfl 117 (.tmp 20) rfl rfl rfl rfl (.agg zx.toArray) zx wH sE fs rfl rfl HC1.o HC2.o HO.o ?_))
    intro w3 hy3 hf3 hz3;have HY3:=lh hy3;have HF3:=lh (HFW.o.trans hf3);have HRW3:=lh (HRW.o.fr hf3);have HT:=lh (HLL.o y HMEM.o w3 N fs HRW3.o);have a0':=dA hf3 a0;have a2':=dA hf3 a2;clear hy3 hf3 hz3 a0 a1 a2 HRW
    go_wp2_with (with_reducible refine uA rfl 117 (.tmp 4) rfl rfl HY3.o Tryz.underlying117 rfl HC1.o ?_)
    refine HT.o.mono ?_;rintro e w4 ⟨rfl,hf4⟩;obtain⟨ty,hty⟩:∃ ty,y.typed=ty:=⟨_,rfl⟩;rw[hty];have HTY:=lh hty;have a0:=dA hf4 a0';have a2:=dA hf4 a2';have HFV:=lh (HF3.o.trans hf4);have HYV:=lh (HY3.o.fr hf4);have HRWV:=lh (HRW3.o.fr hf4);clear hty hf4 HT a0' a2' HF3 HY3 HRW3 HFW
    cases ty with
    | false=>
     have HNO:Hid (x.typed=false):=lh (fL HMEM.o (by rw[HTY.o,Bool.and_false]));rw[HNO.o] at HQ;go_wp2_with fail;exact HQ.o _ _ ⟨rfl,HF0.o.trans HFV.o⟩
    | true=>
     by_cases h3:wh<=3
     ·have d3:decide (wh<=3)=true:=by simpa using h3
      have d4:(wh == 4)=false:=bF (by omega)
      have d7:(wh == 7)=false:=bF (by omega)
      have HRT:Hid (x.right y=y.truth):=lh (aGu (by rw[HWH.o];exact hk1) (by rw[HWH.o];exact h3));clear h3 a2;have hr5:∀ {gg:Nat} {W:World},Blk W gg 117 fs -> W.rangeAt gg 0 fs:=fun hb j u hj=>by rw[Nat.zero_add];exact hb.at_ hj
      have HR5:=lh (hr5 HYV.o);have HTR:=lh (aBT HRWV.o HYB.o.2);clear hr5
      go_wp2_with (refine bM 29 rfl (by go_simp) 117 (.tmp 4) rfl _ 0 rfl fs _ HR5.o Tryz.underlying117 rfl HC1.o ?_)
      refine HTR.o.mono ?_;rintro e w5 ⟨rfl,hf5⟩;have j0:=dA hf5 a0;have HF5:=lh (HFV.o.trans hf5);have HY5:=lh (HYV.o.fr hf5);clear hf5 HTR a0;obtain⟨tr,htr⟩:∃ tr,y.truth=tr:=⟨_,rfl⟩;rw[htr];have HTT2:=lh htr;clear htr
      cases tr with
      | false=>
       have HNO:Hid (x.typed=false):=lh (fL HMEM.o (by rw[HRT.o,HTT2.o,Bool.false_and]));rw[HNO.o] at HQ;go_wp2_with fail;exact HQ.o _ _ ⟨rfl,HF0.o.trans HF5.o⟩
      | true=>
       go_wp2_with fail;have hwi:=wi k (by omega)
       go_wp2_with fail
       go_roundg (ln - (k+1))
       case measure=>omega
       case rel=>exact⟨k+1,by omega,by rw[show((k+1:Nat):Int)=(k:Int)+1 by omega],HF5.o,by
        show(x.l.take (k+1)).all (fun y=>x.right y && y.typed)=true
        rw[HTK.o,List.all_append,HALL.o]
        simp[HRT.o,HTT2.o,HTY.o]⟩
     ·have d3:decide (wh<=3)=false:=by simpa using h3
      by_cases h4:wh=4
      ·have d4:(wh == 4)=true:=by simpa using h4
       have d7:(wh == 7)=false:=bF (by omega)
       have HRT:Hid (x.right y=y.value):=lh (aGv (by rw[HWH.o];exact h4));clear h3 h4 a2;have hr5:∀ {gg:Nat} {W:World},Blk W gg 117 fs -> W.rangeAt gg 0 fs:=fun hb j u hj=>by rw[Nat.zero_add];exact hb.at_ hj
       have HR5:=lh (hr5 HYV.o);have HTR:=lh (aBU HRWV.o HYB.o.1 HYB.o.2);clear hr5
       go_wp2_with (refine bM 39 rfl (by go_simp) 117 (.tmp 4) rfl _ 0 rfl fs _ HR5.o Tryz.underlying117 rfl HC1.o ?_)
       refine HTR.o.mono ?_;rintro e w5 ⟨rfl,hf5⟩;have j0:=dA hf5 a0;have HF5:=lh (HFV.o.trans hf5);have HY5:=lh (HYV.o.fr hf5);clear hf5 HTR a0;obtain⟨tr,htr⟩:∃ tr,y.value=tr:=⟨_,rfl⟩;rw[htr];have HTT2:=lh htr;clear htr
       cases tr with
       | false=>
        have HNO:Hid (x.typed=false):=lh (fL HMEM.o (by rw[HRT.o,HTT2.o,Bool.false_and]));rw[HNO.o] at HQ;go_wp2_with fail;exact HQ.o _ _ ⟨rfl,HF0.o.trans HF5.o⟩
       | true=>
        go_wp2_with fail;have hwi:=wi k (by omega)
        go_wp2_with fail
        go_roundg (ln - (k+1))
        case measure=>omega
        case rel=>exact⟨k+1,by omega,by rw[show((k+1:Nat):Int)=(k:Int)+1 by omega],HF5.o,by
         show(x.l.take (k+1)).all (fun y=>x.right y && y.typed)=true
         rw[HTK.o,List.all_append,HALL.o]
         simp[HRT.o,HTT2.o,HTY.o]⟩
      ·have d4:(wh == 4)=false:=by simpa using h4
       by_cases h7:wh=7
       ·have d7:(wh == 7)=true:=by simpa using h7
        obtain⟨cn,hcn⟩:∃ m,(op.toList == [99,111,117,110,116])=m:=⟨_,rfl⟩;obtain⟨vl,hvl⟩:∃ m,(op.toList == [118,97,108,117,101])=m:=⟨_,rfl⟩;have hcn':(op.toList != [99,111,117,110,116]) = !cn:=by rw[<- hcn];rfl
        have hvl':(op.toList != [118,97,108,117,101]) = !vl:=by rw[<- hvl];rfl
        have HRT:Hid (x.right y=if (cn || vl)=true then y.what == 6 else y.value):=lh (by
         rw[aGw (by rw[HWH.o];exact h7)];unfold Xpr.asked
         have e1:(cn || vl)=decide (x.op=nG ∨ x.op=oG):=by
          rw[<- hcn,<- hvl,gJ,gJ,HOPB.o,Bool.decide_or,Bool.beq_eq_decide_eq,Bool.beq_eq_decide_eq];rfl
         rw[e1];simp only[decide_eq_true_eq])
        clear h3 h4 h7;have hsix:(cn || vl)=true -> ∃ wy,y.what=wy/\fs[0]? = some (.int .i64 wy):=fun _=>⟨_,rfl,HWY.o⟩;obtain⟨wy,hwy⟩:∃ wy,y.what=wy:=⟨_,rfl⟩;have HWY2:=HWY;rw[hwy] at HWY2 HRT;have b0:=HYV.o.at_ HWY2.o;clear hsix hwy
        cases cn with
        | true=>
         by_cases h6:wy=6
         ·have d6:(wy != 6)=false:=by simp[h6]
          have HRV:Hid (x.right y=true):=lh (by rw[HRT.o,h6];rfl);clear h6 hvl hvl';go_wp2_with fail;have hwi:=wi k (by omega)
          go_wp2_with fail
          go_roundg (ln - (k+1))
          case measure=>omega
          case rel=>exact⟨k+1,by omega,by rw[show((k+1:Nat):Int)=(k:Int)+1 by omega],HFV.o,by
           show(x.l.take (k+1)).all (fun y=>x.right y && y.typed)=true
           rw[HTK.o,List.all_append,HALL.o]
           simp[HRV.o,HTY.o]⟩
         ·have d6:(wy != 6)=true:=by simp[h6]
          have HRV:Hid (x.right y=false):=lh (by rw[HRT.o];simp[h6]);clear h6 hvl hvl';have HNO:Hid (x.typed=false):=lh (fL HMEM.o (by rw[HRV.o,Bool.false_and]));rw[HNO.o] at HQ;go_wp2_with fail;exact HQ.o _ _ ⟨rfl,HF0.o.trans HFV.o⟩
        | false=>
         cases vl with
         | true=>
          by_cases h6:wy=6
          ·have d6:(wy != 6)=false:=by simp[h6]
           have HRV:Hid (x.right y=true):=lh (by rw[HRT.o,h6];rfl);clear h6;go_wp2_with fail;have hwi:=wi k (by omega)
           go_wp2_with fail
           go_roundg (ln - (k+1))
           case measure=>omega
           case rel=>exact⟨k+1,by omega,by rw[show((k+1:Nat):Int)=(k:Int)+1 by omega],HFV.o,by
            show(x.l.take (k+1)).all (fun y=>x.right y && y.typed)=true
            rw[HTK.o,List.all_append,HALL.o]
            simp[HRV.o,HTY.o]⟩
          ·have d6:(wy != 6)=true:=by simp[h6]
           have HRV:Hid (x.right y=false):=lh (by rw[HRT.o];simp[h6]);clear h6;have HNO:Hid (x.typed=false):=lh (fL HMEM.o (by rw[HRV.o,Bool.false_and]));rw[HNO.o] at HQ;go_wp2_with fail;exact HQ.o _ _ ⟨rfl,HF0.o.trans HFV.o⟩
         | false=>
          have HRV:Hid (x.right y=y.value):=lh HRT.o;have hr5:∀ {gg:Nat} {W:World},Blk W gg 117 fs -> W.rangeAt gg 0 fs:=fun hb j u hj=>by rw[Nat.zero_add];exact hb.at_ hj
          have HR5:=lh (hr5 HYV.o);have HTR:=lh (aBU HRWV.o HYB.o.1 HYB.o.2);clear hr5
          go_wp2_with (refine bM 77 rfl (by go_simp) 117 (.tmp 4) rfl _ 0 rfl fs _ HR5.o Tryz.underlying117 rfl HC1.o ?_)
          refine HTR.o.mono ?_;rintro e w5 ⟨rfl,hf5⟩;have j0:=dA hf5 a0;have HF5:=lh (HFV.o.trans hf5);have HY5:=lh (HYV.o.fr hf5);clear hf5 HTR a0;obtain⟨tr,htr⟩:∃ tr,y.value=tr:=⟨_,rfl⟩;rw[htr];have HTT2:=lh htr;clear htr
          cases tr with
          | false=>
           have HNO:Hid (x.typed=false):=lh (fL HMEM.o (by rw[HRV.o,HTT2.o,Bool.false_and]));rw[HNO.o] at HQ;go_wp2_with fail;exact HQ.o _ _ ⟨rfl,HF0.o.trans HF5.o⟩
          | true=>
           go_wp2_with fail;have hwi:=wi k (by omega)
           go_wp2_with fail
           go_roundg (ln - (k+1))
           case measure=>omega
           case rel=>exact⟨k+1,by omega,by rw[show((k+1:Nat):Int)=(k:Int)+1 by omega],HF5.o,by
            show(x.l.take (k+1)).all (fun y=>x.right y && y.typed)=true
            rw[HTK.o,List.all_append,HALL.o]
            simp[HRV.o,HTT2.o,HTY.o]⟩
       ·have d7:(wh == 7)=false:=by simpa using h7
        have HRV:Hid (x.right y=true):=lh (aGx (by rw[HWH.o];omega) (by rw[HWH.o];exact h4) (by rw[HWH.o];exact h7));clear h3 h4 h7;go_wp2_with fail;have hwi:=wi k (by omega)
        go_wp2_with fail
        go_roundg (ln - (k+1))
        case measure=>omega
        case rel=>exact⟨k+1,by omega,by rw[show((k+1:Nat):Int)=(k:Int)+1 by omega],HFV.o,by
         show(x.l.take (k+1)).all (fun y=>x.right y && y.typed)=true
         rw[HTK.o,List.all_append,HALL.o]
         simp[HRV.o,HTY.o]⟩
   ·have hki:¬ (k:Int) < (ln:Int):=by omega
    have HYES:Hid (x.typed=(wh != 7 || ln == (if cB x.op then 2 else 1))):=lh (by
     have h1:(x.l.take k).all (fun y=>x.right y && y.typed)=true:=HALL.o;rw[List.take_of_length_le (by rw[HLN.o];omega)] at h1;rw[dN,h1,HTT.o,HWH.o,HLN.o]
     rfl)
    rw[HYES.o] at HQ;have hFo:=HF0.o.trans HFW.o;have HFO:=lh hFo;clear hFo
    by_cases h7:wh=7
    ·have d7:(wh == 7)=true:=by simpa using h7
     have d7':(wh != 7)=false:=by simp[h7]
     obtain⟨mt,hmt⟩:∃ m,(op.toList == [109,97,116,99,104])=m:=⟨_,rfl⟩;obtain⟨sr,hsr⟩:∃ m,(op.toList == [115,101,97,114,99,104])=m:=⟨_,rfl⟩
     have htc:cB x.op=(mt || sr):=by
      unfold cB;rw[<- hmt,<- hsr,gJ,gJ,HOPB.o];rfl
     rw[htc,d7'] at HQ;have HL2:Hid (∀ n:Nat,(false || ln == n)=((ln:Int) == (n:Int))):=lh (fun n=>by rw[Bool.false_or,Bool.eq_iff_iff,beq_iff_eq,beq_iff_eq];omega);clear h7 htc
     cases mt with
     | true=>
      rw[show(if (true || sr)=true then 2 else 1)=2 from rfl,HL2.o 2] at HQ;clear hsr;go_wp2_with fail;exact HQ.o _ _ ⟨rfl,HFO.o⟩
     | false=>
      cases sr with
      | true=>
       rw[show(if (false || true)=true then 2 else 1)=2 from rfl,HL2.o 2] at HQ;go_wp2_with fail;exact HQ.o _ _ ⟨rfl,HFO.o⟩
      | false=>
       rw[show(if (false || false)=true then 2 else 1)=1 from rfl,HL2.o 1] at HQ;go_wp2_with fail;exact HQ.o _ _ ⟨rfl,HFO.o⟩
    ·have d7:(wh == 7)=false:=by simpa using h7
     have d7':(wh != 7)=true:=by simp[h7]
     rw[d7',Bool.true_or] at HQ;clear h7;go_wp2_with fail;exact HQ.o _ _ ⟨rfl,HFO.o⟩
theorem aAi:∀ n:Nat,n<=1000000 -> (∀ q:Qry,q.okT=true -> q.wt<=n -> TQ16 q)/\(∀ x:Xpr,x.okT=true -> x.wt<=n -> TX16 x):=by
 have hQ:∀ n:Nat,n<=1000000 -> (∀ x:Xpr,x.okT=true -> x.wt < n -> TX16 x) -> ∀ q:Qry,q.okT=true -> q.wt<=n -> TQ16 q:=fun n hn ih q ho hq w N cs h=>
  aEU h (by omega) fun e he=>by
   have h1:=Qry.fil_lt he;have h2:=e.wt_eq;refine⟨ih e ?_ (by omega),by omega⟩;unfold Qry.fil gB oB at he;obtain⟨x,hx,he⟩:=List.mem_flatMap.1 he;obtain⟨y,hy,he⟩:=List.mem_flatMap.1 he;exact aGS ho hx hy he
 intro n
 induction n with
 | zero=>exact fun _=>⟨hQ 0 (by decide) fun x _ hx=>absurd hx (Nat.not_lt_zero _),fun x _ hx=>by have:=x.wt_pos;omega⟩
 | succ n ih=>
  intro hn;have ih:=ih (by omega);refine⟨hQ (n+1) hn fun x ho hx=>ih.2 x ho (by omega),fun x ho hx w N cs h=>?_⟩;obtain⟨h1,h2,h3,h4⟩:=Xpr.okT_parts ho;have h5:=x.wt_eq;exact aEV h (by omega) h1 (ih.1 _ h3 (by omega)) fun y hy=>ih.2 y (h4 y hy) (by have:=mE hy;omega)
theorem Qry.typed16 {q:Qry} (ho:q.okT=true) (hw:q.wt<=1000000):TQ16 q:=(aAi _ (Nat.le_refl _)).1 q ho hw
theorem fI:∀ a b:List Sgm,kC (a ++ b)=kC a+kC b
 | [],b=>by simp[kC]
 | x :: a,b=>by rw[List.cons_append,kC,kC,fI a b];omega
theorem gI:∀ a b:List Slr,dC (a ++ b)=dC a+dC b
 | [],b=>by simp[dC]
 | x :: a,b=>by rw[List.cons_append,dC,dC,gI a b];omega
theorem eN {l:List Sgm} {k:Nat} {x:Sgm} (h:l[k]? = some x):kC (l.take (k+1))=kC (l.take k)+1+dC x.l:=by
 obtain⟨hk,hx⟩:=List.getElem?_eq_some_iff.1 h;rw[List.take_succ_eq_append_getElem hk,hx,fI,kC,kC];obtain⟨dp,sl⟩:=x;simp only[Sgm.parts,Sgm.l];omega
theorem fN {l:List Slr} {k:Nat} {x:Slr} (h:l[k]? = some x):dC (l.take (k+1))=dC (l.take k)+1+pA x.f:=by
 obtain⟨hk,hx⟩:=List.getElem?_eq_some_iff.1 h;rw[List.take_succ_eq_append_getElem hk,hx,gI,dC,dC];obtain⟨a,b,c,d,e,f⟩:=x;simp only[Slr.parts,Slr.f];omega
theorem rQ (l:List Sgm) (k:Nat):kC (l.take k)<=kC l:=by
 conv=>rhs;rw[<- List.take_append_drop k l,fI]
 omega
theorem sQ (l:List Slr) (k:Nat):dC (l.take k)<=dC l:=by
 conv=>rhs;rw[<- List.take_append_drop k l,gI]
 omega
theorem Qry.parts_segs (q:Qry):q.parts=kC q.l:=by obtain⟨_,l⟩:=q;rfl
def PX16 (x:Xpr):Prop:=∀ (w:World) (N:Nat -> Prop) (cs:List Value),gA w N x.cells cs -> RV 55 #[.agg cs.toArray] w (.int .i64 (x.parts:Nat))
def PQ16 (q:Qry):Prop:=∀ (w:World) (N:Nat -> Prop) (cs:List Value),gA w N q.cells cs -> RV 27 #[.agg cs.toArray] w (.int .i64 (q.parts:Nat))
def qX (w:World) (ln:Nat) (P:Nat -> Nat) (j:Nat) (v3 v:Value) (wr:World):Prop:=∃ k:Nat,k+j=ln/\v=.int .i64 (k:Int)/\Fr [] w wr/\v3=.int .i64 (P k:Nat)
theorem aEW {w:World} {N:Nat -> Prop} {cs:List Value} {q:Qry} (h:gA w N q.cells cs) (hw:q.wt<=1000000) (hE:∀ e ∈ q.fil,PX16 e):RV 27 #[.agg cs.toArray] w (.int .i64 (q.parts:Nat)):=by
 refine bA fun R HQ=>?_;have hpw:q.parts<=1000000:=Nat.le_trans q.parts_le hw;obtain⟨A,c,rfl,hc⟩:=gD h;obtain⟨A',c',g,off,hv,hA,hrow⟩:=hc.row;injection hv with e1 e2 e3;subst e1 e3;rw[List.length_map] at hA;have hll:=q.fil_wt;obtain⟨ln,hln⟩:∃ ln,q.l.length=ln:=⟨_,rfl⟩;have hlb:ln<=1000000:=by omega
 have HLN:=lh hln;have HWT:=lh hw;rw[hln] at hA ⊢;have HROW:=lh hrow;have HA:=lh hA;have HEE:=lh hE;rw[q.parts_segs] at HQ hpw;have HPW:=lh hpw;obtain⟨rel,hrel⟩:∃ rel,q.rel=rel:=⟨_,rfl⟩;rw[hrel];clear h hc hrow hA e2 hln hrel hE hll hw hpw;have hb0:=Blk.new w 31 [.bool rel,.slice A ln c];have hf0:Fr [] w (w.alloc (.cells #[.bool rel,.slice A ln c] 31)):=(Fr.refl [] w).alloc _
 go_enter Tryz.func27,Tryz.ntmps27
 go_upto_region 1 with fail
 generalize w.alloc (.cells #[.bool rel,.slice A ln c] 31)=w0 at *;have HB0:=lh hb0;have HF0:=lh hf0;clear hb0 hf0;go_wp2_with fail
 go_loopg [3,4] ln (fun j v3 v wr=>qX w0 ln (fun k=>kC (q.l.take k)) j v3 v wr)
 case atStart=>exact⟨0,by omega,rfl,Fr.refl _ _,rfl⟩
 case round=>
  obtain⟨wA,rfl⟩:=nm (wr);obtain⟨k,hk,rfl,hF,rfl⟩:=hrel;have HFW:=lh hF;clear hF;obtain⟨p1,hp1⟩:∃ p,kC (q.l.take k)=p:=⟨_,rfl⟩;have hp1b:p1<=1000000:=by have:=rQ q.l k;have:=HPW.o;omega
  dsimp only
  rw[hp1];have HP1:=lh hp1;clear hp1;have b1:=(HB0.o.fr HFW.o).at_ (i:=1) rfl
  by_cases hkl:k < ln
  ·have hki:(k:Int) < (ln:Int):=by omega
   obtain⟨x,hx⟩:∃ x,q.l[k]? = some x:=gx (by rw[HLN.o];exact hkl);obtain⟨rfl,-⟩:=HA.o (by omega);obtain⟨_,es,hes,hcell⟩:=HROW.o k x.cells (by rw[List.getElem?_map,hx];rfl);obtain⟨A5,c5,rfl,hc5⟩:=sF hes;obtain⟨A6,c6,g6,o6,hv6,hA6,hrow6⟩:=hc5.row;injection hv6 with e1 e2 e3;subst e1 e3;rw[List.length_map] at hA6;obtain⟨m,hm⟩:∃ m,x.l.length=m:=⟨_,rfl⟩;have hxc:w.cell? ⟨g,off+2 * k+1,none⟩=some (.slice A5 m c5):=by rw[<- hm];exact hcell 1 _ rfl
   have HXC:=lh hxc;have HM:=lh hm;have HX:=lh hx;rw[hm] at hA6;have HA6:=lh hA6;have HROW6:=lh hrow6;clear hx hes hcell hc5 e2 hm hA6 hrow6 hxc;have hs1:=wi p1 (by omega)
   have HB1:Hid (p1+1+dC x.l<=1000000):=lh (by
    have h1:=eN HX.o;have h2:=rQ q.l (k+1);have h3:=HPW.o;have h4:=HP1.o;omega)
   go_wp2_with fail;clear b1
   go_loopg [3,5] m (fun j v3 v wr=>qX w0 m (fun i=>p1+1+dC (x.l.take i)) j v3 v wr)
   case atStart=>exact⟨0,by omega,rfl,HFW.o,by rw[show(p1:Int)+1=((p1+1+dC (x.l.take 0):Nat):Int) by simp[dC]]⟩
   case round=>
    obtain⟨wB,rfl⟩:=nm (wr);obtain⟨i,hi,rfl,hF,rfl⟩:=hrel;clear HFW;have HFW:=lh hF;clear hF;obtain⟨p2,hp2⟩:∃ p,p1+1+dC (x.l.take i)=p:=⟨_,rfl⟩;have hp2b:p2<=1000000:=by have:=sQ x.l i;have:=HB1.o;omega
    dsimp only
    rw[hp2];have HP2:=lh hp2;clear hp2;have b1:=(HB0.o.fr HFW.o).at_ (i:=1) rfl
    have x1:wB.cell? ⟨g,off+k * 2+1,none⟩=some (.slice A5 m c5):=by
     rw[show off+k * 2+1=off+2 * k+1 by omega];exact dA (HF0.o.trans HFW.o) HXC.o
    by_cases him:i < m
    ·have hii:(i:Int) < (m:Int):=by omega
     obtain⟨y,hy⟩:∃ y,x.l[i]? = some y:=gx (by rw[HM.o];exact him);obtain⟨rfl,-⟩:=HA6.o (by omega);obtain⟨_,ds,hds,hcell6⟩:=HROW6.o i y.cells (by rw[List.getElem?_map,hy];rfl);obtain⟨A7,c7,hd9,hc7⟩:=aDX hds;obtain⟨A8,c8,g7,o7,hv7,hA7,hrow7⟩:=hc7.row;injection hv7 with e1 e2 e3;subst e1 e3;rw[List.length_map] at hA7;obtain⟨fn,hfn⟩:∃ fn,y.f.length=fn:=⟨_,rfl⟩;have hyc:w.cell? ⟨g6,o6+10 * i+9,none⟩=some (.slice A7 fn c7):=by rw[<- hfn];exact hcell6 9 _ hd9
     have HYC:=lh hyc;have HFN:=lh hfn;have HYY:=lh hy;rw[hfn] at hA7;have HA7:=lh hA7;have HROW7:=lh hrow7;clear hy hds hcell6 hd9 hc7 e2 hfn hA7 hrow7 hyc;have hs2:=wi p2 (by omega)
     have HB2:Hid (p2+1+pA y.f<=1000000):=lh (by
      have h1:=fN HYY.o;have h2:=sQ x.l (i+1);have h3:=HB1.o;have h4:=HP2.o;omega)
     go_wp2_with fail;clear b1 x1
     go_loopg [3,6] fn (fun j v3 v wr=>qX w0 fn (fun t=>p2+1+pA (y.f.take t)) j v3 v wr)
     case atStart=>exact⟨0,by omega,rfl,HFW.o,by rw[show(p2:Int)+1=((p2+1+pA (y.f.take 0):Nat):Int) by simp[pA]]⟩
     case round=>
      obtain⟨wC,rfl⟩:=nm (wr);obtain⟨t,ht,rfl,hF,rfl⟩:=hrel;clear HFW;have HFW:=lh hF;clear hF;obtain⟨p3,hp3⟩:∃ p,p2+1+pA (y.f.take t)=p:=⟨_,rfl⟩;have hp3b:p3<=1000000:=by have:=xG y.f t;have:=HB2.o;omega
      dsimp only
      rw[hp3];have HP3:=lh hp3;clear hp3;have b1:=(HB0.o.fr HFW.o).at_ (i:=1) rfl
      have x1:wC.cell? ⟨g,off+k * 2+1,none⟩=some (.slice (some ⟨g6,o6,none⟩) m c5):=by
       rw[show off+k * 2+1=off+2 * k+1 by omega];exact dA (HF0.o.trans HFW.o) HXC.o
      have y9:wC.cell? ⟨g6,o6+i * 10+9,none⟩=some (.slice A7 fn c7):=by
       rw[show o6+i * 10+9=o6+10 * i+9 by omega];exact dA (HF0.o.trans HFW.o) HYC.o
      by_cases htf:t < fn
      ·have hti:(t:Int) < (fn:Int):=by omega
       obtain⟨e0,he0⟩:∃ e0,y.f[t]? = some e0:=gx (by rw[HFN.o];exact htf);obtain⟨rfl,-⟩:=HA7.o (by omega);obtain⟨_,fs,hfs,hcell7⟩:=HROW7.o t e0.cells (by rw[List.getElem?_map,he0];rfl);have hfl:fs.length=13:=hfs.1.trans (kA e0);have hFo:=HF0.o.trans HFW.o;have hra:wC.rangeAt g7 (o7+t * 13) fs:=fun j u hj=>by rw[show o7+t * 13+j=o7+13 * t+j by omega];exact dA hFo (hcell7 j u hj)
       have hx1:=HEE.o e0 (aBV (List.mem_of_getElem? HX.o) (List.mem_of_getElem? HYY.o) (List.mem_of_getElem? he0));have hc1:(Tryz.prog.info? 117).map (·.size)=some fs.length:=by rw[hfl];exact tB
       have HRA:=lh hra;have HC1:=lh hc1;have HT:=lh (hx1 wC N fs (hfs.fr hFo));have htk:p2+1+pA (y.f.take (t+1))=p3+e0.parts:=by rw[vH he0,<- HP3.o];omega
       have hpb:p3+e0.parts<=1000000:=by have:=xG y.f (t+1);have:=HB2.o;omega
       have HTK:=lh htk;obtain⟨ep,hep⟩:∃ ep,e0.parts=ep:=⟨_,rfl⟩;rw[hep] at HT HTK hpb;clear hfs hcell7 hfl hra hc1 hFo hx1 htk he0 hep
       go_wp2_with (with_reducible refine wpList_load_mid rfl 117 (.tmp 56) rfl g7 (o7+t * 13) rfl fs _ HRA.o Tryz.underlying117 rfl HC1.o ?_)
       refine HT.o.mono ?_;rintro e w4 ⟨rfl,hf4⟩;have HF4:=lh (HFW.o.trans hf4);clear hf4 HT b1 x1 y9;have hs3:IntKind.i64.wrap ((p3:Int)+(ep:Int))=(p3:Int)+(ep:Int):=by rw[IntKind.wrap_i64];omega
       have hfb:fn<=1000000:=by
        have h1:=HWT.o;have h2:=q.fil_wt;have h3:=lE (List.mem_of_getElem? HX.o);have h4:=tJ (List.mem_of_getElem? HYY.o);have h5:=q.wt_eq;have h6:=x.wt_eq;have h7:=y.wt_eq;have h8:=bE y.f;have h9:=HFN.o;omega
       have hwi:=wi t (by omega)
       go_wp2_with fail
       go_roundg (fn - (t+1))
       case measure=>omega
       case rel=>exact⟨t+1,by omega,by rw[show((t+1:Nat):Int)=(t:Int)+1 by omega],HF4.o,by
        show Value.int .i64 ((p3:Int)+(ep:Int))=.int .i64 ((p2+1+pA (y.f.take (t+1)):Nat):Int)
        rw[HTK.o]
        push_cast
        rfl⟩
      ·have hti:¬ (t:Int) < (fn:Int):=by omega
       have hmb:m<=1000000:=by
        have h1:=HWT.o;have h3:=lE (List.mem_of_getElem? HX.o);have h5:=q.wt_eq;have h6:=x.wt_eq;have h8:=gH x.l;have h9:=HM.o;omega
       have hwi:=wi i (by omega)
       go_wp2_with fail
       go_roundg (m - (i+1))
       case measure=>omega
       case rel=>exact⟨i+1,by omega,by rw[show((i+1:Nat):Int)=(i:Int)+1 by omega],HFW.o,by
        show Value.int .i64 (p3:Int)=.int .i64 ((p1+1+dC (x.l.take (i+1)):Nat):Int)
        have h1:=HP3.o;rw[show y.f.take t=y.f from List.take_of_length_le (by rw[HFN.o];omega)] at h1;have h2:=fN HYY.o;have h3:=HP2.o;rw[show p3=p1+1+dC (x.l.take (i+1)) by omega]⟩
    ·have hii:¬ (i:Int) < (m:Int):=by omega
     have hwi:=wi k (by omega)
     go_wp2_with fail
     go_roundg (ln - (k+1))
     case measure=>omega
     case rel=>exact⟨k+1,by omega,by rw[show((k+1:Nat):Int)=(k:Int)+1 by omega],HFW.o,by
      show Value.int .i64 (p2:Int)=.int .i64 ((kC (q.l.take (k+1)):Nat):Int)
      have h1:=HP2.o;rw[show x.l.take i=x.l from List.take_of_length_le (by rw[HM.o];omega)] at h1;have h2:=eN HX.o;have h3:=HP1.o;rw[show p2=kC (q.l.take (k+1)) by omega]⟩
  ·have hki:¬ (k:Int) < (ln:Int):=by omega
   have HYES:Hid (kC q.l=p1):=lh (by
    rw[<- HP1.o,show q.l.take k=q.l from List.take_of_length_le (by rw[HLN.o];omega)])
   rw[HYES.o] at HQ;go_wp2_with fail;exact HQ.o _ _ ⟨rfl,HF0.o.trans HFW.o⟩
theorem aEX {w:World} {N:Nat -> Prop} {cs:List Value} {x:Xpr} (h:gA w N x.cells cs) (hw:x.wt<=1000000) (hq:PQ16 x.q) (hl:∀ y ∈ x.l,PX16 y):RV 55 #[.agg cs.toArray] w (.int .i64 (x.parts:Nat)):=by
 refine bA fun R HQ=>?_;have hpw:x.parts<=1000000:=Nat.le_trans x.parts_le hw;have hpe:x.parts=1+x.q.parts+pA x.l:=by obtain⟨_,_,_,_,_⟩:=x;rfl
 obtain⟨A,c,hc1_,hcat⟩:=tM h;obtain⟨A2,cq,hc3,hc4,hrq⟩:=mJ h;have hwe:=x.wt_eq
 go_enter Tryz.func55,Tryz.ntmps55
 go_wp2_with (with_reducible refine dB rfl 117 (.tmp 0) rfl cs rfl ?_)
 intro w0 hb0 hf0 hz0;obtain⟨A',c',g,off,hv,hA,hrow⟩:=hcat.row;injection hv with e1 e2 e3;subst e1 e3;rw[List.length_map] at hA;obtain⟨ln,hln⟩:∃ ln,x.l.length=ln:=⟨_,rfl⟩;obtain⟨ql,hql⟩:∃ ql,x.q.l.length=ql:=⟨_,rfl⟩;obtain⟨rl,hrl⟩:∃ rl,x.q.rel=rl:=⟨_,rfl⟩;rw[hln] at hc1_ hA;rw[hql] at hc4 hrq;rw[hrl] at hc3 hrq;have hlb:ln<=1000000:=by have:=bE x.l;omega
 have HLN:=lh hln;have HROW:=lh hrow;have HA:=lh hA;have HF0:=lh hf0;have HB0:=lh hb0;have HLL:=lh hl;have HCL:=lh hc1_;have HTQ:=lh (hq _ _ _ (hrq.fr hf0));have c3:=hb0.at_ hc3;have c4:=hb0.at_ hc4;have hlt:=hb0.lt;rw[hpe] at HQ hpw;have HPW:=lh hpw;obtain⟨pq,hpq⟩:∃ pq,x.q.parts=pq:=⟨_,rfl⟩;rw[hpq] at HQ HPW HTQ;have hpb:pq<=1000000:=by have:=HPW.o;omega
 clear hb0 hf0 hz0 hc3 hc4 hrq hln hql hrl hrow hA hc1_ hcat e2 hl hq hw hwe hpe hpw hpq h;go_wp2_with fail;refine HTQ.o.mono ?_;rintro e w1 ⟨rfl,hf1⟩;have HF1:=lh hf1;have hs0:IntKind.i64.wrap (1+(pq:Int))=1+(pq:Int):=by rw[IntKind.wrap_i64];omega
 clear hf1 HTQ c3 c4;go_wp2_with fail
 go_loopg [3,4] ln (fun j v3 v wr=>qX w0 ln (fun k=>1+pq+pA (x.l.take k)) j v3 v wr)
 case atStart=>exact⟨0,by omega,rfl,HF1.o,by rw[show 1+(pq:Int)=((1+pq+pA (x.l.take 0):Nat):Int) by simp[pA]]⟩
 case round=>
  obtain⟨wA,rfl⟩:=nm (wr);obtain⟨k,hk,rfl,hF,rfl⟩:=hrel;have HFW:=lh hF;have a1:=(HB0.o.fr hF).at_ HCL.o;clear hF;obtain⟨p1,hp1⟩:∃ p,1+pq+pA (x.l.take k)=p:=⟨_,rfl⟩;have hp1b:p1<=1000000:=by have:=xG x.l k;have:=HPW.o;omega
  dsimp only
  rw[hp1];have HP1:=lh hp1;clear hp1
  by_cases hkl:k < ln
  ·have hki:(k:Int) < (ln:Int):=by omega
   obtain⟨y,hy⟩:∃ y,x.l[k]? = some y:=gx (by rw[HLN.o];exact hkl);obtain⟨rfl,-⟩:=HA.o (by omega);obtain⟨_,fs,hfs,hcell⟩:=HROW.o k y.cells (by rw[List.getElem?_map,hy];rfl);have hfl:fs.length=13:=hfs.1.trans (kA y);have hFo:=HF0.o.trans HFW.o;have hra:wA.rangeAt g (off+k * 13) fs:=fun j u hj=>by rw[show off+k * 13+j=off+13 * k+j by omega];exact dA hFo (hcell j u hj)
   have hc1:(Tryz.prog.info? 117).map (·.size)=some fs.length:=by rw[hfl];exact tB
   have HRA:=lh hra;have HC1:=lh hc1;have HT:=lh (HLL.o y (List.mem_of_getElem? hy) wA N fs (hfs.fr hFo));have htk:1+pq+pA (x.l.take (k+1))=p1+y.parts:=by rw[vH hy,<- HP1.o];omega
   have hpb2:p1+y.parts<=1000000:=by have:=xG x.l (k+1);have:=HPW.o;omega
   have HTK:=lh htk;obtain⟨ep,hep⟩:∃ ep,y.parts=ep:=⟨_,rfl⟩;rw[hep] at HT HTK hpb2;clear hfs hcell hfl hra hc1 hFo htk hy hep
   go_wp2_with (with_reducible refine wpList_load_mid rfl 117 (.tmp 20) rfl g (off+k * 13) rfl fs _ HRA.o Tryz.underlying117 rfl HC1.o ?_)
   refine HT.o.mono ?_;rintro e w4 ⟨rfl,hf4⟩;have HF4:=lh (HFW.o.trans hf4);clear hf4 HT a1;have hs3:IntKind.i64.wrap ((p1:Int)+(ep:Int))=(p1:Int)+(ep:Int):=by rw[IntKind.wrap_i64];omega
   have hwi:=wi k (by omega)
   go_wp2_with fail
   go_roundg (ln - (k+1))
   case measure=>omega
   case rel=>exact⟨k+1,by omega,by rw[show((k+1:Nat):Int)=(k:Int)+1 by omega],HF4.o,by
    show Value.int .i64 ((p1:Int)+(ep:Int))=.int .i64 ((1+pq+pA (x.l.take (k+1)):Nat):Int)
    rw[HTK.o]
    push_cast
    rfl⟩
  ·have hki:¬ (k:Int) < (ln:Int):=by omega
   have HYES:Hid (1+pq+pA x.l=p1):=lh (by
    rw[<- HP1.o,show x.l.take k=x.l from List.take_of_length_le (by rw[HLN.o];omega)])
   rw[HYES.o] at HQ;go_wp2_with fail;exact HQ.o _ _ ⟨rfl,HF0.o.trans HFW.o⟩
theorem aAj:∀ n:Nat,n<=1000000 -> (∀ q:Qry,q.wt<=n -> PQ16 q)/\(∀ x:Xpr,x.wt<=n -> PX16 x):=by
 have hQ:∀ n:Nat,n<=1000000 -> (∀ x:Xpr,x.wt < n -> PX16 x) -> ∀ q:Qry,q.wt<=n -> PQ16 q:=fun n hn ih q hq w N cs h=>
  aEW h (by omega) fun e he=>ih e (by have h1:=Qry.fil_lt he;omega)
 intro n
 induction n with
 | zero=>exact fun _=>⟨hQ 0 (by decide) fun x hx=>absurd hx (Nat.not_lt_zero _),fun x hx=>by have:=x.wt_pos;omega⟩
 | succ n ih=>
  intro hn;have ih:=ih (by omega);refine⟨hQ (n+1) hn fun x hx=>ih.2 x (by omega),fun x hx w N cs h=>?_⟩;have h5:=x.wt_eq;exact aEX h (by omega) (ih.1 _ (by omega)) fun y hy=>ih.2 y (by have:=mE hy;omega)
theorem Qry.parts16 {q:Qry} (hw:q.wt<=1000000):PQ16 q:=(aAj _ (Nat.le_refl _)).1 q hw
theorem aEY (txt:ByteArray):∀ m,oQ 128 txt (eG (aA txt) m).1 m/\oQ 202 txt (eG (aA txt) m).2 m
 | 0=>⟨fun w r gl TS s h hb hk hn hd=>absurd hn (by omega),fun w r gl TS s h hb hk hn hd=>absurd hn (by omega)⟩
 | m+1=>by
  obtain⟨hE,hS⟩:=aEY txt m;obtain⟨oE,oS⟩:=iG (txt:=aA txt) m;have hSi:oQ 202 txt (qA (aA txt) (eG (aA txt) m).1 (eG (aA txt) m).2) (m+1):=fun w r gl TS s h hb hk hn hd=>aEO hE oE hS oS h hb hk (by omega) hd;exact⟨fun w r gl TS s h hb hk hn hd=>aHB hE oE hSi oS h hb hk (by omega) hd,hSi⟩
theorem aGy {w:World} (txt:ByteArray) (hz:txt.size<=100000):Calls Tryz.prog 11 #[.string txt] w (uM w (aA txt)):=by
 refine bA fun R HQ=>?_;have HC1:Hid ((Tryz.prog.info? 31).map (·.size)=some ([.bool false,.slice none 0 0]:List Value).length):=lh bG
 go_enter Tryz.func11,Tryz.ntmps11
 go_wp2_with fail;have hz0:=Blk.new w 31 [.bool false,.slice none 0 0];have hf0:Fr [] w (w.alloc (.cells #[.bool false,.slice none 0 0] 31)):=(Fr.refl [] w).alloc _;generalize w.alloc (.cells #[.bool false,.slice none 0 0] 31)=w0 at *;have HC:=lh (all15 (w:=w0) txt hz);have hs0:=hz0.lt;refine HC.o.mono ?_;rintro e w1 ⟨hf1,ht⟩;have HZ:=lh (hz0.fr hf1);have HF:=lh (hf0.trans hf1);have hs1:=hf1.size;clear hf1 HC hz0 hf0
 cases hT:rC (aA txt) with
 | error er=>
  rw[hT] at ht;obtain⟨rfl,her⟩:=ht;have HE:Hid (fC (aA txt)=.error er):=lh (by unfold fC;rw[hT]);have d0:(er != 0)=true:=by rw[bne_iff_ne];exact her
  clear hT her
  go_wp2_with (with_reducible refine iA rfl 31 (.tmp 2) (.tmp 15) rfl [.bool false,.slice none 0 0] rfl rfl HZ.o HC1.o rfl (by simp[Value.oneCell']) ?_)
  intro w9 hb9 hf9 hz9;have HB9:=lh hb9;have HF9:=lh (HF.o.trans hf9 (fun x hx=>.inr (by simp at hx;omega)));clear hb9 hf9 hz9;go_wp2_with fail;exact bodyPost_ret (fA rfl rfl HB9.o Tryz.underlying31 rfl bG) rfl (HQ.o _ _ (zE HE.o HF9.o))
 | ok TS=>
  rw[hT] at ht;obtain⟨v,rfl,how,hgo⟩:=ht;have HE0:=lh (vM hT);obtain⟨gl,hsl,hgl,hgl0⟩:=kP.of_own how 0;obtain⟨A,c,off,hv,-⟩:=id hsl;subst hv;have HSL:=lh hsl;have HGL:Hid (0 < TS.length -> gl < w1.heap.size):=lh fun h=>iL how gl (hgl h);have HOK:=lh (mN hT).2;have HLN:=lh (pO hT);have HNU:=lh (aAf hT);have HFI:=lh (xR hT);clear how hgo hsl hgl hgl0 hT;go_upto_region 5 with fail
  have hfa:Fr [] w1 (w1.alloc (.cells #[.string txt,.slice A TS.length c,.int .i64 0,.int .i64 0,.int .i64 0,.bool false] 71)):=(Fr.refl [] w1).alloc _;have hba:=Blk.new w1 71 [.string txt,.slice A TS.length c,.int .i64 0,.int .i64 0,.int .i64 0,.bool false];generalize w1.alloc (.cells #[.string txt,.slice A TS.length c,.int .i64 0,.int .i64 0,.int .i64 0,.bool false] 71)=w2 at *;have hd0:DAt w2 w1.heap.size gl txt TS ⟨0,0,0,false⟩:=⟨HGL.o,⟨_,hba,HSL.o.fr hfa⟩,fun t ht=>by have:=HOK.o t ht;rwa [cA] at this,HLN.o,Nat.zero_le _,⟨Int.le_refl 0,(by decide:(0:Int)<=100000)⟩,⟨Int.le_refl 0,(by decide:(0:Int)<=100000)⟩,hz,HNU.o⟩;have HD:=lh hd0;have hrb:=hba.lt
  replace HF:=lh (HF.o.trans hfa);replace HZ:=lh (HZ.o.fr hfa)
  have hs2:=hfa.size;have hq0:(⟨0,0,0,false⟩:DS).q TS=⟨TS,0⟩:=by unfold DS.q;rw[List.drop_zero]
  have HQ0:=lh hq0;generalize hr:w1.heap.size=r at *;clear hfa hba hd0 hq0;have HN:=lh (fP HD.o ⟨#[36]⟩);rw[show aA ⟨#[36]⟩=[36] from rfl] at HN;go_wp2_with fail;refine HN.o.mono ?_;rintro e w3 ⟨rfl,hd3,hf3⟩
  replace HF:=lh (HF.o.trans hf3 (fun x hx=>.inr (by simp at hx;omega)));replace HZ:=lh (HZ.o.fr hf3 (by simp;omega))
  have hs3:=hf3.size;have HFT:=lh hf3;clear HN HD hf3;have HR16:=lh (aEY txt TS.length);have hbq:=Blk.new w3 31 [.bool false,.slice none 0 0];have hfq:Fr [] w3 (w3.alloc (.cells #[.bool false,.slice none 0 0] 31)):=(Fr.refl [] w3).alloc _;have hsq:(w3.alloc (.cells #[.bool false,.slice none 0 0] 31)).heap.size=w3.heap.size+1:=by simp
  cases hn:(⟨0,0,0,false⟩:DS).nx TS [36] with
  | false=>
   rw[hn,if_neg (by simp)] at hd3
   have HE:Hid (fC (aA txt)=.error 2):=lh (by
    rw[HE0.o];unfold xI;rw[if_neg (by rw[<- HQ0.o];rw[show QS.next _ [36]=false from hn];simp)])
   have HD:=lh hd3;clear hd3 hn;go_upto_region 7 with fail
   generalize w3.alloc (.cells #[.bool false,.slice none 0 0] 31)=w4 at *
   replace HF:=lh (HF.o.trans hfq);replace HZ:=lh (HZ.o.fr hfq);replace HD:=lh (HD.o.fr hfq)
   have m5:w4.cell? ⟨r,5,none⟩=some (.bool true):=by
    obtain⟨va,hba,hsa⟩:=HD.o.at_;exact hba.at_ (i:=5) rfl
   clear hbq hfq;go_upto_region 9 with fail
   go_quiet (fail)
   have hfd:Fr [] w4 (w4.drewN nq):=(Fr.refl [] w4).drewN _;generalize w4.drewN nq=w5 at *
   replace HF:=lh (HF.o.trans hfd);replace HZ:=lh (HZ.o.fr hfd);replace HD:=lh (HD.o.fr hfd)
   clear hfd m5
   go_wp2_with (with_reducible refine iA rfl 31 (.tmp 2) (.tmp 48) rfl [.bool false,.slice none 0 0] rfl rfl HZ.o HC1.o rfl (by simp[Value.oneCell']) ?_)
   intro w9 hb9 hf9 hz9;have HB9:=lh hb9;have HF9:=lh (HF.o.trans hf9 (fun x hx=>.inr (by simp at hx;omega)));clear hb9 hf9 hz9;go_wp2_with fail;exact bodyPost_ret (fA rfl rfl HB9.o Tryz.underlying31 rfl bG) rfl (HQ.o _ _ (zE HE.o HF9.o))
  | true=>
   rw[hn,if_pos rfl] at hd3
   have hX0:xI (aA txt) TS.length ⟨TS,0⟩=pD (aA txt) (eG (aA txt) TS.length).1 0 false ((⟨0,0,0,false⟩:DS).go.q TS):=by
    unfold xI;rw[if_pos (by rw[<- HQ0.o];exact hn),DS.q_go,HQ0.o]
   have hk1:1<=TS.length:=aG hn;rw[hX0] at HE0
   have HWT:Hid (∀ q s,pD (aA txt) (eG (aA txt) TS.length).1 0 false ((⟨0,0,0,false⟩:DS).go.q TS)=some (q,s) -> q.wt<=1000000):=lh (fun q s h=>by
    rw[<- hX0] at h;have h1:=vT h;have h2:=HLN.o;omega)
   have HOT:Hid (∀ q s,pD (aA txt) (eG (aA txt) TS.length).1 0 false ((⟨0,0,0,false⟩:DS).go.q TS)=some (q,s) -> q.okT=true):=lh (fun q s h=>dP (iG _).1 (eL _).1 0 false _ _ _ (QS.fine.fine_on (s:=⟨TS,0⟩) ⟨HFI.o⟩ (by rw[DS.q_go,HQ0.o];exact nD _)) h);have HD:=lh hd3;clear hd3 hX0 hn;go_upto_region 7 with fail
   generalize w3.alloc (.cells #[.bool false,.slice none 0 0] 31)=w4 at *
   replace HF:=lh (HF.o.trans hfq);replace HZ:=lh (HZ.o.fr hfq);replace HD:=lh (HD.o.fr hfq)
   have HY:=lh hbq;clear hbq hfq
   have m5:w4.cell? ⟨r,5,none⟩=some (.bool false):=by
    obtain⟨va,hba,hsa⟩:=HD.o.at_;exact hba.at_ (i:=5) rfl
   have HC:=lh (kX HR16.o.1 (iG _).1 HD.o rfl hk1 (by rw[bC];show TS.length - 1<=TS.length;omega) (by rw[bC];show(0:Int)+((TS.length - 1:Nat):Int)<=80000;have:=HLN.o;omega) false);rw[show(⟨0,0,0,false⟩:DS).go.d=0 from rfl] at HC;generalize pD (aA txt) (eG (aA txt) TS.length).1 0 false ((⟨0,0,0,false⟩:DS).go.q TS)=X at *;go_wp2_with fail;refine HC.o.mono ?_;rintro e w5 ⟨v5,s5,rfl,hd5,-,hf5,hm5⟩;obtain⟨y0,cs,rfl,hcs0⟩:=kG hm5;have hcl:cs.length=2:=hcs0.1.trans (by obtain⟨_,_⟩:=y0;rfl);have HC2:Hid ((Tryz.prog.info? 31).map (·.size)=some cs.length):=lh (by rw[hcl];exact bG);have HC3:Hid (([.bool false,.slice none 0 0]:List Value).length=cs.length):=lh (by rw[hcl];rfl);have HCN:=lh hcl;have HO:=lh hcs0.one;have HM:=lh hm5
   replace HF:=lh (HF.o.trans hf5 (fun x hx=>.inr (by simp at hx;omega)));replace HZ:=lh (HZ.o.fr hf5 (by simp;omega))
   replace HY:=lh (HY.o.fr hf5 (by simp;omega))
   replace HD:=lh hd5
   have hs5:=hf5.size;clear hd5 hf5 hm5 hcs0 hcl HC m5
   go_wp2_with (with_reducible refine iA rfl 31 (.tmp 7) (.tmp 30) rfl cs rfl rfl HY.o HC2.o HC3.o HO.o ?_)
   intro w6 hb6 hf6 hz6;have HB:=lh hb6;have hrl:r < w3.heap.size:=by omega
   replace HF:=lh (HF.o.trans hf6 (fun x hx=>.inr (by simp at hx;omega)));replace HZ:=lh (HZ.o.fr hf6 (by simp;omega));replace HD:=lh (HD.o.fr hf6 (by simp;omega))
   have HMV:Hid (∀ y:Qry,cF Qry.cells w4 w5 y (.agg cs.toArray) -> gA w6 (fun g=>w3.heap.size+1<=g) y.cells cs):=lh (fun y hy=>((bK hy).fr hf6 (fun g hg=>by simp;omega)).mono (fun g hg=>by omega));have hs6:=hf6.size;clear hb6 hf6 hz6 HY;obtain⟨va,hba,hsa⟩:=HD.o.at_;obtain⟨A9,c9,o9,rfl,-,-⟩:=hsa;have m5:=hba.at_ (i:=5) rfl;have m4:=hba.at_ (i:=4) rfl;have m2:=hba.at_ (i:=2) rfl;have m1:=hba.at_ (i:=1) rfl;clear hba
   cases hbd:s5.bad with
   | true=>
    rw[hbd] at m5;have HE:Hid (fC (aA txt)=.error 2):=lh (by rw[HE0.o,jX HM.o hbd]);clear hbd;go_upto_region 9 with fail
    go_quiet (fail)
    have hfd:Fr [] w6 (w6.drewN nq):=(Fr.refl [] w6).drewN _;generalize w6.drewN nq=w7 at *
    replace HF:=lh (HF.o.trans hfd);replace HZ:=lh (HZ.o.fr hfd);replace HD:=lh (HD.o.fr hfd)
    clear hfd m1 m2 m4 m5
    go_wp2_with (with_reducible refine iA rfl 31 (.tmp 2) (.tmp 48) rfl [.bool false,.slice none 0 0] rfl rfl HZ.o HC1.o rfl (by simp[Value.oneCell']) ?_)
    intro w9 hb9 hf9 hz9;have HB9:=lh hb9;have HF9:=lh (HF.o.trans hf9 (fun x hx=>.inr (by simp at hx;omega)));clear hb9 hf9 hz9;go_wp2_with fail;exact bodyPost_ret (fA rfl rfl HB9.o Tryz.underlying31 rfl bG) rfl (HQ.o _ _ (zE HE.o HF9.o))
   | false=>
    rw[hbd] at m5;obtain⟨y,hX,hk5,hvy⟩:=mU HM.o hbd;have HE1:Hid (fC (aA txt)=if (s5.q TS).l=[] then (if 32 < s5.m then .error 3 else if y.typed=false then .error 8 else if 512 < y.parts then .error 4 else .ok y) else .error 2):=lh (by rw[HE0.o,hX];rfl);have hrow:=HMV.o y hvy;have hwt:=HWT.o y _ hX;have hot:=HOT.o y _ hX;have HCS:=lh hrow;have HOQ:=lh hot;clear hX hvy hrow hot hbd HM HMV HWT HOT HE0
    by_cases hkl:s5.k < TS.length
    ·have d1:decide (s5.k < TS.length)=true:=dT (by omega)
     have HE:Hid (fC (aA txt)=.error 2):=lh (by
      rw[HE1.o,if_neg (fun h=>by have h1:=congrArg List.length h;rw[bC] at h1;simp at h1;omega)])
     clear hkl;go_upto_region 9 with fail
     go_quiet (fail)
     have hfd:Fr [] w6 (w6.drewN nq):=(Fr.refl [] w6).drewN _;generalize w6.drewN nq=w7 at *
     replace HF:=lh (HF.o.trans hfd);replace HZ:=lh (HZ.o.fr hfd);replace HD:=lh (HD.o.fr hfd)
     clear hfd m1 m2 m4 m5
     go_wp2_with (with_reducible refine iA rfl 31 (.tmp 2) (.tmp 48) rfl [.bool false,.slice none 0 0] rfl rfl HZ.o HC1.o rfl (by simp[Value.oneCell']) ?_)
     intro w9 hb9 hf9 hz9;have HB9:=lh hb9;have HF9:=lh (HF.o.trans hf9 (fun x hx=>.inr (by simp at hx;omega)));clear hb9 hf9 hz9;go_wp2_with fail;exact bodyPost_ret (fA rfl rfl HB9.o Tryz.underlying31 rfl bG) rfl (HQ.o _ _ (zE HE.o HF9.o))
    ·have d1:decide (s5.k < TS.length)=false:=dF (by omega)
     have HE2:Hid (fC (aA txt)=if 32 < s5.m then .error 3 else if y.typed=false then .error 8 else if 512 < y.parts then .error 4 else .ok y):=lh (by
      rw[HE1.o,if_pos (List.length_eq_zero_iff.1 (by rw[bC];omega))])
     clear hkl HE1;go_upto_region 9 with fail
     go_quiet (fail)
     have hfd:Fr [] w6 (w6.drewN nq):=(Fr.refl [] w6).drewN _
     replace m4:=dA hfd m4
     generalize w6.drewN nq=w7 at *
     replace HF:=lh (HF.o.trans hfd);replace HZ:=lh (HZ.o.fr hfd);replace HD:=lh (HD.o.fr hfd)
     replace HB:=lh (HB.o.fr hfd);replace HCS:=lh (HCS.o.fr hfd)
     have hm5b:=HD.o.most;obtain⟨mo,hmo⟩:∃ mo,s5.m=mo:=⟨_,rfl⟩;rw[hmo] at m4 HE2 hm5b;clear hfd m1 m2 m5 hmo
     by_cases h32:32 < mo
     ·have d2:decide (mo > 32)=true:=by simpa using h32
      have d2':decide (32 < mo)=true:=by simpa using h32
      have HE:Hid (fC (aA txt)=.error 3):=lh (by rw[HE2.o,if_pos h32]);clear h32
      go_wp2_with (with_reducible refine iA rfl 31 (.tmp 2) (.tmp 55) rfl [.bool false,.slice none 0 0] rfl rfl HZ.o HC1.o rfl (by simp[Value.oneCell']) ?_)
      intro w9 hb9 hf9 hz9;have HB9:=lh hb9;have HF9:=lh (HF.o.trans hf9 (fun x hx=>.inr (by simp at hx;omega)));clear hb9 hf9 hz9;go_wp2_with fail;exact bodyPost_ret (fA rfl rfl HB9.o Tryz.underlying31 rfl bG) rfl (HQ.o _ _ (zE HE.o HF9.o))
     ·have d2:decide (mo > 32)=false:=by simpa using h32
      have d2':decide (32 < mo)=false:=by simpa using h32
      have HE3:Hid (fC (aA txt)=if y.typed=false then .error 8 else if 512 < y.parts then .error 4 else .ok y):=lh (by rw[HE2.o,if_neg h32]);have HT:=lh (Qry.typed16 HOQ.o hwt w7 _ cs HCS.o);clear h32 HE2
      go_wp2_with (with_reducible refine uA rfl 31 (.tmp 7) rfl rfl HB.o Tryz.underlying31 rfl HC2.o ?_)
      refine HT.o.mono ?_;rintro e w8 ⟨rfl,hf8⟩
      replace HF:=lh (HF.o.trans hf8);replace HZ:=lh (HZ.o.fr hf8);replace HD:=lh (HD.o.fr hf8)
      replace HB:=lh (HB.o.fr hf8);replace HCS:=lh (HCS.o.fr hf8)
      obtain⟨ty,hty⟩:∃ ty,y.typed=ty:=⟨_,rfl⟩;rw[hty] at HE3 ⊢;clear hf8 hty HT m4
      cases ty with
      | false=>
       have HE:Hid (fC (aA txt)=.error 8):=lh (by rw[HE3.o,if_pos rfl])
       go_wp2_with (with_reducible refine iA rfl 31 (.tmp 2) (.tmp 60) rfl [.bool false,.slice none 0 0] rfl rfl HZ.o HC1.o rfl (by simp[Value.oneCell']) ?_)
       intro w9 hb9 hf9 hz9;have HB9:=lh hb9;have HF9:=lh (HF.o.trans hf9 (fun x hx=>.inr (by simp at hx;omega)));clear hb9 hf9 hz9;go_wp2_with fail;exact bodyPost_ret (fA rfl rfl HB9.o Tryz.underlying31 rfl bG) rfl (HQ.o _ _ (zE HE.o HF9.o))
      | true=>
       have HE4:Hid (fC (aA txt)=if 512 < y.parts then .error 4 else .ok y):=lh (by rw[HE3.o,if_neg (by simp)]);have HP:=lh (Qry.parts16 hwt w8 _ cs HCS.o);have hpl:=y.parts_le;obtain⟨yp,hyp⟩:∃ yp,y.parts=yp:=⟨_,rfl⟩;rw[hyp] at HE4 HP hpl;clear hyp
       go_wp2_with (with_reducible refine uA rfl 31 (.tmp 7) rfl rfl HB.o Tryz.underlying31 rfl HC2.o ?_)
       refine HP.o.mono ?_;rintro e w10 ⟨rfl,hf10⟩
       replace HF:=lh (HF.o.trans hf10);replace HZ:=lh (HZ.o.fr hf10);replace HD:=lh (HD.o.fr hf10)
       replace HB:=lh (HB.o.fr hf10);replace HCS:=lh (HCS.o.fr hf10)
       clear hf10 HP
       by_cases h512:512 < yp
       ·have HE:Hid (fC (aA txt)=.error 4):=lh (by rw[HE4.o,if_pos h512]);have d3:decide ((yp:Int) > 512)=true:=dT (by omega)
        have d3':decide (512 < (yp:Int))=true:=dT (by omega)
        clear h512
        go_wp2_with (with_reducible refine iA rfl 31 (.tmp 2) (.tmp 65) rfl [.bool false,.slice none 0 0] rfl rfl HZ.o HC1.o rfl (by simp[Value.oneCell']) ?_)
        intro w9 hb9 hf9 hz9;have HB9:=lh hb9;have HF9:=lh (HF.o.trans hf9 (fun x hx=>.inr (by simp at hx;omega)));clear hb9 hf9 hz9;go_wp2_with fail;exact bodyPost_ret (fA rfl rfl HB9.o Tryz.underlying31 rfl bG) rfl (HQ.o _ _ (zE HE.o HF9.o))
       ·have HE:Hid (fC (aA txt)=.ok y):=lh (by rw[HE4.o,if_neg h512]);have d3:decide ((yp:Int) > 512)=false:=dF (by omega)
        have d3':decide (512 < (yp:Int))=false:=dF (by omega)
        clear h512
        go_wp2_with (first
         | (with_reducible refine uA rfl 31 (.tmp 7) rfl rfl HB.o Tryz.underlying31 rfl HC2.o ?_)
         | (with_reducible refine iA rfl 31 (.tmp 2) (.tmp 66) rfl cs rfl rfl HZ.o HC2.o HC3.o HO.o ?_))
        intro w9 hb9 hf9 hz9;have HB9:=lh hb9;have HF9:=lh (HF.o.trans hf9 (fun x hx=>.inr (by simp at hx;omega)));have HCS9:=lh ((HCS.o.fr hf9 (fun g hg=>by simp;omega)).mono (M:=fun g=>w.heap.size<=g) (fun g hg=>by omega));clear hb9 hf9 hz9;go_wp2_with fail;exact bodyPost_ret (fA rfl rfl HB9.o Tryz.underlying31 rfl (by rw[HCN.o];exact bG)) rfl (HQ.o _ _ (eZ HE.o HCS9.o HF9.o))
def Slr.pl (x:Slr):Prop:=(∃ nm:List UInt8,x=.ofName nm/\nm.length<=1000/\sI nm=true) ∨ ∃ n,x=.ofAt n/\tY n=true
def aBq (x:Slr):List UInt8:=if x.what=1 then wO x.name else Lib.itoa x.at_
def cV (x:Sgm):List UInt8:=(if x.deep=true then [46,46] else []) ++ (91 :: Lib.join (x.l.map aBq) [44] ++ [93])
def aEZ (q:Qry):List UInt8:=(if q.rel=true then 64 else 36) :: Lib.join (q.l.map cV) []
section
variable {w : World} {N : Nat -> Prop} {cs : List Value}
theorem aHC {x:Slr} (hg:bO w) (h:gA w N x.cells cs) (hp:x.pl):RV 60 #[.agg cs.toArray] w (.string ⟨(aBq x).toArray⟩):=by
 refine bA fun R HQ=>?_;obtain⟨A,c,hcs,-⟩:=bL h;have b0:cs[0]? = some (.int .i64 x.what):=by rw[hcs];rfl
 have b1:cs[1]? = some (.string ⟨x.name.toArray⟩):=by rw[hcs];rfl
 have b2:cs[2]? = some (.int .i64 x.at_):=by rw[hcs];rfl
 rcases hp with ⟨nm,rfl,hn,-⟩ | ⟨n,rfl,hn⟩
 ·have HQT:=lh (fun W=>aFC (w:=W) ⟨nm.toArray⟩ (by show nm.toArray.size<=_;simp;omega));simp only[Slr.ofName,Slr.what,Slr.name,aBq] at b0 b1 HQ;clear h hcs hn hg b2
  go_enter Tryz.func60,Tryz.ntmps60
  go_wp2_with (with_reducible refine dB rfl 50 (.tmp 0) rfl cs rfl ?_)
  intro w0 hb0 hf0 hz0;have HF0:=lh hf0;have c0:=hb0.at_ b0;have c1:=hb0.at_ b1;clear hb0 hf0 b0 b1;go_wp2_with fail;refine(HQT.o _).mono ?_;rintro e w1 ⟨rfl,hf1⟩;have HF1:=lh (HF0.o.trans hf1);clear hf1;go_wp2_with fail;exact HQ.o _ _ ⟨rfl,HF1.o⟩
 ·have HIT:=lh (fun W (hW:Fr [] w W)=>aFG (hg.fr hW) n (by unfold tY at hn;unfold aEi;rw[decide_eq_true_eq] at hn ⊢;omega));simp only[Slr.ofAt,Slr.what,Slr.at_,aBq] at b0 b2 HQ;clear h hcs hn hg b1
  go_enter Tryz.func60,Tryz.ntmps60
  go_wp2_with (with_reducible refine dB rfl 50 (.tmp 0) rfl cs rfl ?_)
  intro w0 hb0 hf0 hz0;have HF0:=lh hf0;have c0:=hb0.at_ b0;have c2:=hb0.at_ b2;clear hb0 hf0 b0 b2;go_wp2_with fail;refine(HIT.o _ HF0.o).mono ?_;rintro e w1 ⟨rfl,hf1⟩;have HF1:=lh (HF0.o.trans hf1);clear hf1;go_wp2_with fail;exact HQ.o _ _ ⟨rfl,HF1.o⟩
theorem aHD {x:Sgm} (hg:bO w) (h:gA w N x.cells cs) (hp:∀ y ∈ x.l,y.pl) (hll:x.l.length<=1000000) (hlen:(cV x).length<=100000000):RV 33 #[.agg cs.toArray] w (.string ⟨(cV x).toArray⟩):=by
 refine bA fun R HQ=>?_;obtain⟨A,c,rfl,hc⟩:=sF h
 have hjl:(Lib.join (x.l.map aBq) [44]).length<=100000000:=by
  unfold cV at hlen;simp only[List.length_append,List.length_cons] at hlen;omega
 unfold cV at HQ;have hmm:(x.l.map Slr.cells).length=x.l.length:=by simp
 have HJ:=lh (fun W (hW:Fr [] w W)=>aCz (hc.fr hW) hll [44] (f:=60) (first:=#[]) (cap:=#[]) (all:=fun v=>#[v]) (fun v=>rfl) (fun v w=>by kernel_rfl) aBq hjl
  (fun y hy w1 ds hf1 h1=>aHC ((hg.fr hW).fr hf1) h1 (hp y hy)))
 obtain⟨jt,hjt⟩:∃ jt,Lib.join (x.l.map aBq) [44]=jt:=⟨_,rfl⟩;rw[hjt] at HJ HQ hjl;generalize x.l.length=n at *;generalize x.deep=dp at *;clear h hc hp hlen hmm hjt hll hg
 go_enter Tryz.func33,Tryz.ntmps33
 go_wp2_with (with_reducible refine dB rfl 54 (.tmp 0) rfl [.bool dp,.slice A n c] rfl ?_)
 intro w0 hb0 hf0 hz0;have c0:=hb0.at_ (i:=0) rfl;have c1:=hb0.at_ (i:=1) rfl;have HF0:=lh hf0;clear hb0 hf0;go_wp2_with fail;refine(HJ.o _ HF0.o).mono ?_;rintro e w1 ⟨rfl,hf1⟩;have k0:=dA hf1 c0;have HF1:=lh (HF0.o.trans hf1);clear hf1 c0 c1
 cases dp with
 | true=>
  go_wp2_with fail;exact HQ.o _ _ ⟨by simp[wM],HF1.o⟩
 | false=>
  go_wp2_with fail;exact HQ.o _ _ ⟨by simp[wM],HF1.o⟩
theorem aFa {q:Qry} (hg:bO w) (h:gA w N q.cells cs) (hp:∀ x ∈ q.l,(∀ y ∈ x.l,y.pl)/\x.l.length<=1000000/\(cV x).length<=100000000) (hll:q.l.length<=1000000) (hlen:(aEZ q).length<=100000000):RV 16 #[.agg cs.toArray] w (.string ⟨(aEZ q).toArray⟩):=by
 refine bA fun R HQ=>?_;obtain⟨A,c,rfl,hc⟩:=gD h
 have hjl:(Lib.join (q.l.map cV) []).length<=100000000:=by
  unfold aEZ at hlen;simp only[List.length_cons] at hlen;omega
 unfold aEZ at HQ;have hmm:(q.l.map Sgm.cells).length=q.l.length:=by simp
 have HJ:=lh (fun W (hW:Fr [] w W)=>aCA (hc.fr hW) hll [] (f:=33) (first:=#[]) (cap:=#[]) (all:=fun v=>#[v]) (fun v=>rfl) (fun v w=>by kernel_rfl) cV hjl
  (fun y hy w1 ds hf1 h1=>aHD ((hg.fr hW).fr hf1) h1 (hp y hy).1 (hp y hy).2.1 (hp y hy).2.2))
 obtain⟨jt,hjt⟩:∃ jt,Lib.join (q.l.map cV) []=jt:=⟨_,rfl⟩;rw[hjt] at HJ HQ hjl;generalize q.l.length=n at *;generalize q.rel=rel at *;clear h hc hp hlen hmm hjt hll hg
 go_enter Tryz.func16,Tryz.ntmps16
 go_wp2_with (with_reducible refine dB rfl 25 (.tmp 0) rfl [.bool rel,.slice A n c] rfl ?_)
 intro w0 hb0 hf0 hz0;have c0:=hb0.at_ (i:=0) rfl;have c1:=hb0.at_ (i:=1) rfl;have HF0:=lh hf0;clear hb0 hf0
 cases rel with
 | true=>
  go_wp2_with fail;refine(HJ.o _ HF0.o).mono ?_;rintro e w1 ⟨rfl,hf1⟩;have HF1:=lh (HF0.o.trans hf1);clear hf1 c0 c1;go_wp2_with fail;exact HQ.o _ _ ⟨by simp[wM],HF1.o⟩
 | false=>
  go_wp2_with fail;refine(HJ.o _ HF0.o).mono ?_;rintro e w1 ⟨rfl,hf1⟩;have HF1:=lh (HF0.o.trans hf1);clear hf1 c0 c1;go_wp2_with fail;exact HQ.o _ _ ⟨by simp[wM],HF1.o⟩
theorem aHE {x:Slr} {d:Int} (hp:x.pl):SHS x d:=by
 intro w N cs h;obtain⟨A,c,rfl,-⟩:=bL h;rcases hp with ⟨nm,rfl,hn,hk⟩ | ⟨n,rfl,hk⟩
 ·exact aEk hk (Nat.le_trans hn (by decide))
 ·exact aEl hk
theorem nR:∀ x ∈ uI.l,(∀ y ∈ x.l,y.pl)/\x.l.length<=1000000/\(cV x).length<=100000000:=by
 intro x hx;simp only[uI,Qry.l,List.mem_cons,List.not_mem_nil,or_false] at hx;rcases hx with rfl | rfl
 ·refine⟨fun y hy=>?_,by decide,by decide +kernel⟩;simp only[Sgm.l,List.mem_singleton] at hy;exact .inl ⟨[97],hy,by decide,by decide +kernel⟩
 ·refine⟨fun y hy=>?_,by decide,by decide +kernel⟩;simp only[Sgm.l,List.mem_singleton] at hy;exact .inr ⟨1,hy,by decide⟩
theorem gN:aEZ uI=aEj/\uI.singular=true/\uI.wt<=1000000/\uI.typed=true/\uI.parts<=512:=by decide +kernel
theorem aCV:SHQ uI 0:=fun w N cs h=>zW h (by decide) fun x hx=>⟨by
 simp only[uI,Qry.l,List.mem_cons,List.not_mem_nil,or_false] at hx;rcases hx with rfl | rfl <;> simp[Sgm.l],(nR x hx).2.1,fun y hy=>aHE ((nR x hx).1 y hy)⟩
theorem aFb (hg:bO w) (h8:8<=w.heap.size):RV 9 #[] w (.bool true):=by
 refine bA fun R HQ=>?_;have HG:=lh hg;clear hg
 go_enter Tryz.func9,Tryz.ntmps9
 go_wp2_with fail;refine(aEn HG.o h8 ⟨#[36,46,97,91,49,93]⟩ (by decide) lZ).mono ?_;rintro e w1 ⟨A,c,rfl,hr,hf⟩;have hz1:=hf.size;have HR:=lh hr;have HF1:=lh hf;rw[show uI.rel=false from rfl,show uI.l.length=2 from rfl] at HR ⊢;clear hr hf;go_upto_region 2 with fail
 have hfa:Fr [] w1 (w1.alloc (.cells #[.bool false,.slice A 2 c] 25)):=(Fr.refl [] w1).alloc _;have hb:=Blk.new w1 25 [.bool false,.slice A 2 c];generalize w1.alloc (.cells #[.bool false,.slice A 2 c] 25)=w2 at *;have HF2:=lh (HF1.o.trans hfa);have HR2:=lh (HR.o.fr hfa);have HB2:=lh hb;have hz2:=hfa.size;clear hfa hb HF1 HR;go_wp2_with fail;refine(aAV (HG.o.fr HF2.o) (by omega) ⟨#[36,91,63,108,101,110,103,116,104,40,64,46,42,41,61,61,49,93]⟩ (by decide)).mono ?_;rintro e w3 ⟨r9,A9,n9,c9,rfl,hf3⟩;rw[show xX (aA ⟨#[36,91,63,108,101,110,103,116,104,40,64,46,42,41,61,61,49,93]⟩)=8 from aCB];have HF3:=lh (HF2.o.trans hf3);have HR3:=lh (HR2.o.fr hf3);have HB3:=lh (HB2.o.fr hf3);clear hf3 HF2 HR2 HB2;go_upto_region 3 with fail
 have hfa:Fr [] w3 (w3.alloc (.cells #[.bool r9,.slice A9 n9 c9] 25)):=(Fr.refl [] w3).alloc _;generalize w3.alloc (.cells #[.bool r9,.slice A9 n9 c9] 25)=w4 at *;have HF4:=lh (HF3.o.trans hfa);have HR4:=lh (HR3.o.fr hfa);have hb4:=HB3.o.fr hfa;have c0:=hb4.at_ (i:=0) rfl;have c1:=hb4.at_ (i:=1) rfl;have HP:=lh (aFa (HG.o.fr HF4.o) HR4.o nR (by decide) (by decide +kernel));rw[gN.1] at HP;clear hfa hb4 HF3 HR3 HB3;go_wp2_with fail;refine HP.o.mono ?_;rintro e w5 ⟨rfl,hf5⟩;have HF5:=lh (HF4.o.trans hf5);have HR5:=lh (HR4.o.fr hf5);have k0:=dA hf5 c0;have k1:=dA hf5 c1;clear hf5 c0 c1 HP;simp only[aEj];go_wp2_with fail;refine(aFI HR5.o gN.2.2.1 aCV rfl gN.2.2.2.1 gN.2.2.2.2).mono ?_;rintro e w6 ⟨rfl,hf6⟩;have HF6:=lh (HF5.o.trans hf6);have HR6:=lh (HR5.o.fr hf6);have j0:=dA hf6 k0;have j1:=dA hf6 k1;clear hf6 k0 k1;go_wp2_with fail;refine(eQ HR6.o (by decide)).mono ?_;rintro e w7 ⟨rfl,hf7⟩;have HF7:=lh (HF6.o.trans hf7);rw[gN.2.1];clear hf7;go_wp2_with fail;exact HQ.o _ _ ⟨rfl,HF7.o⟩
end
end
end Go.Proofs.YtbggkiebfflcdaaGreatDoor
