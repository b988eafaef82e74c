/-
  Joined by join.py: Gu Gv Gw Ha Hb Hc Ij
-/
import Derived.Lib.ItoaLen
import Derived.Test.YtbggkiebfflcdaaGreatDoorJpp14
set_option maxRecDepth 100000
set_option maxHeartbeats 32000000
namespace Go.Proofs.YtbggkiebfflcdaaGreatDoor
section
open Go.RowKit Go.Shelf
def ETC (x:Xpr):Prop:=∀ (w:World) (N:Nat -> Prop) (cs:List Value),gA w N x.cells cs -> RV 46 #[.agg cs.toArray] w (.bool x.typed)
def QTC (q:Qry):Prop:=∀ (w:World) (N:Nat -> Prop) (cs:List Value),gA w N q.cells cs -> RV 21 #[.agg cs.toArray] w (.bool q.typed)
section
variable {w : World} {N : Nat -> Prop} {cs : List Value}
theorem aAQ {x:Xpr} (h:gA w N x.cells cs) (hx:ETC x):RV 73 #[.agg cs.toArray] w (.bool (!x.typed)):=by
 refine bA fun R HQ=>?_;have hcl:cs.length=13:=h.1.trans (kA x);have hc1:(Tryz.prog.info? 109).map (·.size)=some cs.length:=by rw[hcl];exact cD
 have HC1:=lh hc1;have HH:=lh h;clear h hcl hc1
 go_enter Tryz.func73,Tryz.ntmps73
 go_wp2_with (with_reducible refine dB rfl 109 (.tmp 0) rfl cs rfl ?_)
 intro w0 hb0 hf0 hz0;have HC:=lh (hx w0 N cs (HH.o.fr hf0));have HF0:=lh hf0;have HB0:=lh hb0;clear hf0 hb0
 go_wp2_with (with_reducible refine uA rfl 109 (.tmp 1) rfl rfl HB0.o Tryz.underlying109 rfl HC1.o ?_)
 refine HC.o.mono ?_;rintro e w2 ⟨rfl,hf2⟩;have HF2:=lh (HF0.o.trans hf2);clear hf2;go_wp2_with fail;exact HQ.o _ _ ⟨rfl,HF2.o⟩
theorem cZ {x:Xpr} (h:gA w N x.cells cs) (hx:ETC x) (ho:x.op.length<=1000000):RV 45 #[.agg cs.toArray] w (.bool (!(x.typed && x.truth))):=by
 refine bA fun R HQ=>?_;have hcl:cs.length=13:=h.1.trans (kA x);have hc1:(Tryz.prog.info? 109).map (·.size)=some cs.length:=by rw[hcl];exact cD
 have HC1:=lh hc1;have HH:=lh h;clear h hcl hc1
 go_enter Tryz.func45,Tryz.ntmps45
 go_wp2_with (with_reducible refine dB rfl 109 (.tmp 0) rfl cs rfl ?_)
 intro w0 hb0 hf0 hz0;have HC:=lh (hx w0 N cs (HH.o.fr hf0));have HF0:=lh hf0;have HB0:=lh hb0;have HH0:=lh (HH.o.fr hf0);clear hf0 hb0
 go_wp2_with (with_reducible refine uA rfl 109 (.tmp 1) rfl rfl HB0.o Tryz.underlying109 rfl HC1.o ?_)
 refine HC.o.mono ?_;rintro e w2 ⟨rfl,hf2⟩;have HF2:=lh (HF0.o.trans hf2);have HB2:=lh (HB0.o.fr hf2);have HT:=lh (tN (HH0.o.fr hf2) ho);have hra:w2.rangeAt w.heap.size 0 cs:=fun j u hj=>by rw[Nat.zero_add];exact HB2.o.at_ hj
 have HRA:=lh hra;clear hf2 hra;generalize x.typed=b at *
 cases b with
 | false=>
  go_wp2_with fail;exact HQ.o _ _ ⟨by simp,HF2.o⟩
 | true=>
  go_wp2_with (refine eJ (by kernel_rfl) 109 (.tmp 1) rfl w.heap.size 0 rfl cs _ HRA.o Tryz.underlying109 rfl HC1.o ?_)
  refine HT.o.mono ?_;rintro e w3 ⟨rfl,hf3⟩;have HF3:=lh (HF2.o.trans hf3);clear hf3;go_wp2_with fail;exact HQ.o _ _ ⟨by simp,HF3.o⟩
theorem tT {q:Qry} (h:gA w N q.cells cs) (hw:q.wt<=1000000) (hq:∀ x ∈ q.fil,ETC x):RV 21 #[.agg cs.toArray] w (.bool q.typed):=by
 refine bA fun R HQ=>?_;have hfl:=q.fil_len;have hcl:cs.length=2:=h.1.trans (by obtain⟨_,_⟩:=q;rfl);have hc1:(Tryz.prog.info? 25).map (·.size)=some cs.length:=by rw[hcl];kernel_rfl
 have HC1:=lh hc1;have HH:=lh h;clear h hcl hc1
 go_enter Tryz.func21,Tryz.ntmps21
 go_wp2_with (with_reducible refine dB rfl 25 (.tmp 0) rfl cs rfl ?_)
 intro w0 hb0 hf0 hz0;have HC:=lh (vR (HH.o.fr hf0) hw);have HF0:=lh hf0;have HB0:=lh hb0;clear hf0 hb0
 go_wp2_with (with_reducible refine uA rfl 25 (.tmp 1) rfl rfl HB0.o Tryz.underlying25 rfl HC1.o ?_)
 refine HC.o.mono ?_;rintro e w2 ⟨v,rfl,hcv,hf2⟩;obtain⟨A,c,rfl,_⟩:=hcv.slice;have hlm:(q.fil.map Xpr.cells).length=q.fil.length:=by simp
 rw[hlm] at hcv ⊢
 have HP:=lh (nH hcv (by omega) (f:=45) (first:=#[]) (cap:=#[]) (all:=fun v=>#[v]) (fun v=>rfl) (fun v w=>by kernel_rfl) (fun x=>!(x.typed && x.truth))
  (fun x hx w1 cs hf h1=>cZ h1 (hq x hx) (by have:=Qry.fil_lt hx;have:=x.wt_eq;omega)))
 have HE:Hid (q.typed = !(q.fil.any fun x=>!(x.typed && x.truth))):=lh (by rw[Qry.typed_all,List.not_any_eq_all_not];simp);have HF2:=lh (HF0.o.trans hf2);rw[HE.o] at HQ;generalize (q.fil.any fun x=>!(x.typed && x.truth))=b at *;clear hf2 hlm;go_wp2_with fail;refine HP.o.mono ?_;rintro e w3 ⟨rfl,hf3⟩;have HF3:=lh (HF2.o.trans hf3);clear hf3;go_wp2_with fail;exact HQ.o _ _ ⟨rfl,HF3.o⟩
theorem aAR {x:Xpr} (h:gA w N x.cells cs) (hw:x.wt<=1000000) (hq:QTC x.q) (hl:∀ y ∈ x.l,ETC y):RV 46 #[.agg cs.toArray] w (.bool x.typed):=by
 refine bA fun R HQ=>?_;have hwe:=x.wt_eq;have hll:=bE x.l;have hcl:cs.length=13:=h.1.trans (kA x);have hc1:(Tryz.prog.info? 109).map (·.size)=some cs.length:=by rw[hcl];exact cD
 have HC1:=lh hc1;have HH:=lh h;obtain⟨Aq,cq,hc3,hc4,hrq⟩:=mJ h;obtain⟨A,c,hcx,hcv⟩:=tM h;have HRQ:=lh hrq;have HCV:=lh hcv;have HLL:=lh (show x.l.length<=1000000 by omega);have HFI:=lh (fun W (hW:Fr [] w W)=>aDW (h.fr hW) (by omega) (by omega) (fun y hy=>by have:=mE hy;have:=y.wt_eq;have:=y.q.len_le;constructor <;> omega));clear h hcl hc1 hrq hcv hwe hll
 go_enter Tryz.func46,Tryz.ntmps46
 go_wp2_with (with_reducible refine dB rfl 109 (.tmp 0) rfl cs rfl ?_)
 intro w0 hb0 hf0 hz0;have HC:=lh (HFI.o w0 hf0);have HF0:=lh hf0;have HB0:=lh hb0;have c1:=hb0.at_ hcx;have c3:=hb0.at_ hc3;have c4:=hb0.at_ hc4;clear hf0 hb0 hcx hc3 hc4
 go_wp2_with (with_reducible refine uA rfl 109 (.tmp 1) rfl rfl HB0.o Tryz.underlying109 rfl HC1.o ?_)
 refine HC.o.mono ?_;rintro e w2 ⟨rfl,hf2⟩;have HE:Hid (x.typed=(x.fits && x.q.typed && x.l.all Xpr.typed)):=lh x.typed_eq;have HF2:=lh (HF0.o.trans hf2);have k1:=dA hf2 c1;have k3:=dA hf2 c3;have k4:=dA hf2 c4;rw[HE.o] at HQ;have HQT:=lh (hq w2 N _ (HRQ.o.fr HF2.o));clear hf2 c1 c3 c4 HC HFI HB0 HH;generalize x.fits=b1 at *;generalize x.q.typed=b2 at *;generalize x.q.rel=rel at *;generalize x.q.l.length=qn at *
 cases b1 with
 | false=>
  go_wp2_with fail;exact HQ.o _ _ ⟨by simp,HF2.o⟩
 | true=>
  go_wp2_with fail;refine HQT.o.mono ?_;rintro e w3 ⟨rfl,hf3⟩;have HF3:=lh (HF2.o.trans hf3);have j1:=dA hf3 k1;clear hf3 k1 k3 k4
  cases b2 with
  | false=>
   go_wp2_with fail;exact HQ.o _ _ ⟨by simp,HF3.o⟩
  | true=>
   have hll:(x.l.map Xpr.cells).length=x.l.length:=by simp
   have HP:=lh (nH (A:=A) (n:=x.l.length) (cp:=c) (HCV.o.fr HF3.o) (by have:=HLL.o;omega) (f:=73) (first:=#[]) (cap:=#[]) (all:=fun v=>#[v]) (fun v=>rfl) (fun v w=>by kernel_rfl) (fun x=>!x.typed)
    (fun x hx w1 cs hf h1=>aAQ h1 (hl x hx)))
   have HA:Hid ((x.l.any fun x=>!x.typed) = !x.l.all Xpr.typed):=lh (by rw[List.not_all_eq_any_not]);rw[HA.o] at HP;generalize x.l.all Xpr.typed=b3 at *;generalize x.l.length=n at *;clear hll;go_wp2_with fail;refine HP.o.mono ?_;rintro e w4 ⟨rfl,hf4⟩;have HF4:=lh (HF3.o.trans hf4);clear hf4;go_wp2_with fail;exact HQ.o _ _ ⟨by simp,HF4.o⟩
end
theorem aAS:∀ n:Nat,n<=1000000 -> (∀ q:Qry,q.wt<=n -> QTC q)/\(∀ x:Xpr,x.wt<=n -> ETC x):=by
 intro n
 induction n with
 | zero=>
  intro _;refine⟨fun q hq=>fun w N cs h=>tT h (by omega) (fun x hx=>absurd (Qry.fil_lt hx) (by omega)),fun x hx=>by have:=x.wt_pos;omega⟩
 | succ n ih=>
  intro hn;obtain⟨i1,i2⟩:=ih (by omega);refine⟨fun q hq=>fun w N cs h=>tT h (by omega) (fun x hx=>i2 x (by have:=Qry.fil_lt hx;omega)),fun x hx=>fun w N cs h=>?_⟩;have:=x.wt_eq;exact aAR h (by omega) (i1 _ (by omega)) (fun y hy=>i2 y (by have:=mE hy;omega))
theorem Qry.typed_any {q:Qry} (hw:q.wt<=1000000):QTC q:=(aAS _ (Nat.le_refl _)).1 q hw
theorem vH {l:List Xpr} {k:Nat} {x:Xpr} (h:l[k]? = some x):pA (l.take (k+1))=pA (l.take k)+x.parts:=by
 obtain⟨hk,hx⟩:=List.getElem?_eq_some_iff.1 h;rw[List.take_succ_eq_append_getElem hk,hx,rF,pA,pA];omega
theorem xG (l:List Xpr) (k:Nat):pA (l.take k)<=pA l:=by
 conv=>rhs;rw[<- List.take_append_drop k l,rF]
 omega
theorem pK:∀ a b:List Sgm,nE (a ++ b)=nE a+nE b
 | [],b=>by simp[nE]
 | x :: a,b=>by rw[List.cons_append,nE,nE,pK a b];omega
theorem dZ {l:List Sgm} {k:Nat} {x:Sgm} (h:l[k]? = some x):nE (l.take (k+1))=nE (l.take k)+x.l.length:=by
 obtain⟨hk,hx⟩:=List.getElem?_eq_some_iff.1 h;rw[List.take_succ_eq_append_getElem hk,hx,pK,nE,nE];omega
theorem aCw (l:List Sgm) (k:Nat):nE (l.take k)<=nE l:=by
 conv=>rhs;rw[<- List.take_append_drop k l,pK]
 omega
def EPC (x:Xpr):Prop:=∀ (w:World) (N:Nat -> Prop) (cs:List Value),gA w N x.cells cs -> RV 48 #[.agg cs.toArray] w (.int .i64 (x.parts:Nat))
def QPC (q:Qry):Prop:=∀ (w:World) (N:Nat -> Prop) (cs:List Value),gA w N q.cells cs -> RV 22 #[.agg cs.toArray] w (.int .i64 (q.parts:Nat))
def aGM (m:Int) (l:List Xpr) (ln:Nat) (w:World) (j:Nat) (v3 v13:Value) (wr:World):Prop:=
 ∃ k:Nat,k+j=ln/\v13=.int .i64 (k:Int)/\v3=.int .i64 (m+(pA (l.take k):Nat))/\Fr [] w wr
def PsRel (m:Int) (l:List Sgm) (ln:Nat) (w:World) (j:Nat) (v3 v13:Value) (wr:World):Prop:=
 ∃ k:Nat,k+j=ln/\v13=.int .i64 (k:Int)/\v3=.int .i64 (m+(nE (l.take k):Nat))/\Fr [] w wr
section
variable {w : World} {N : Nat -> Prop} {cs : List Value}
theorem aAT {x:Xpr} (h:gA w N x.cells cs) (hw:x.wt<=1000000) (hq:QPC x.q) (hl:∀ y ∈ x.l,EPC y):RV 48 #[.agg cs.toArray] w (.int .i64 (x.parts:Nat)):=by
 refine bA fun R HQ=>?_;have hwe:=x.wt_eq;have hll:=bE x.l;have hpl:=x.parts_le;obtain⟨Aq,cq,hc3,hc4,hrq⟩:=mJ h;obtain⟨A,c,hcx,hcv⟩:=tM h;have HRQ:=lh hrq;have hxe:=x.parts_eq;rw[hxe] at hpl HQ;have HQC:=lh hq;have HLC:=lh hl;obtain⟨xl,hxl⟩:∃ xl,x.l=xl:=⟨_,rfl⟩;rw[hxl] at hcx hcv hll hpl HQ HLC;obtain⟨A',c',g,off,hv,hA,hrow⟩:=hcv.row;injection hv with e1 e2 e3;subst e1 e3;have hlm:(xl.map Xpr.cells).length=xl.length:=by simp
 rw[hlm] at hA;have HROW:=lh hrow;have HA:=lh hA;obtain⟨ln,hln⟩:∃ ln,xl.length=ln:=⟨_,rfl⟩;have HLN:=lh hln;rw[hln] at hcx hll;have hbig:ln<=1000000:=by rw[hxl] at hwe;omega
 clear hrow hA h hq hl hcv hln hlm e2 hwe hrq hxe
 go_enter Tryz.func48,Tryz.ntmps48
 go_wp2_with (with_reducible refine dB rfl 109 (.tmp 0) rfl cs rfl ?_)
 intro w0 hb0 hf0 hz0;have HF0:=lh hf0;have c1:=hb0.at_ hcx;have c3:=hb0.at_ hc3;have c4:=hb0.at_ hc4;clear hf0 hb0 hcx hc3 hc4;have HQT:=lh (HQC.o w0 N _ (HRQ.o.fr HF0.o));generalize x.q.parts=qp at *;generalize x.q.rel=rel at *;generalize x.q.l.length=qn at *;have hqp:1+qp+pA xl<=1000000:=by omega
 clear hpl hw hll;go_wp2_with fail;refine HQT.o.mono ?_;rintro e w2 ⟨rfl,hf2⟩;have HF2:=lh (HF0.o.trans hf2);have k1:=dA hf2 c1;clear hf2 c1 c3 c4;go_wp2_with fail
 go_loopg [3,13] ln (fun j va vb wr=>aGM (1+(qp:Int)) xl ln w j va vb wr)
 case atStart=>exact⟨0,by omega,rfl,by simp[pA],HF2.o⟩
 case round=>
  obtain⟨k,hk,rfl,rfl,hf⟩:=hrel;have HF:=lh hf;clear hf
  by_cases hkl:k < ln
  ·obtain⟨y,hy⟩:∃ y,xl[k]? = some y:=gx (by rw[HLN.o];exact hkl);obtain⟨rfl,hNg⟩:=HA.o (by have:=HLN.o;omega);obtain⟨_,cs,hcs,hcell⟩:=HROW.o k y.cells (by rw[List.getElem?_map,hy];rfl);have hcl:cs.length=13:=hcs.1.trans (kA y);have hc1:(Tryz.prog.info? 109).map (·.size)=some cs.length:=by rw[hcl];exact cD
   have hc2:zx.length=cs.length:=by rw[hcl];rfl
   have hra:wr.rangeAt g (off+k * 13) cs:=fun j u hj=>by
    have:=hcell j u hj;rw[show off+13 * k+j=off+k * 13+j by rw[Nat.mul_comm]] at this;exact dA HF.o this
   have hpt:=vH hy;have hple:=xG xl (k+1);have HC1:=lh hc1;have HC2:=lh hc2;have HRA:=lh hra;have HCS:=lh hcs;have HONE:=lh hcs.one;have HYC:=lh (HLC.o y (List.mem_of_getElem? hy));have HPT:=lh hpt;rw[hpt] at hple;have hl0:0 < ln:=by omega
   clear hcs hcell hcl hc1 hc2 hra hy hpt;generalize pA (List.take k xl)=pk at *
   go_wp2_with (first
    | (with_reducible refine wpList_load_mid rfl 109 (.tmp 15) rfl g (off+k * 13) rfl cs _ HRA.o Tryz.underlying109 rfl HC1.o ?_)
    | (with_reducible refine zC rfl rfl 109 (.tmp 16) rfl rfl rfl rfl (.agg zx.toArray) zx iH sE cs rfl rfl HC1.o HC2.o HONE.o ?_))
   intro w4 hb4 hf4 hz4;have HB4:=lh hb4;have HF4:=lh (HF.o.trans hf4);have HYW:=lh (HYC.o w4 _ cs (HCS.o.fr HF4.o));clear hb4 hf4 HYC;generalize y.parts=yp at *
   go_wp2_with (with_reducible refine uA rfl 109 (.tmp 5) rfl rfl HB4.o Tryz.underlying109 rfl HC1.o ?_)
   refine HYW.o.mono ?_;rintro e w5 ⟨rfl,hf5⟩;have HF5:=lh (HF4.o.trans hf5);clear hf5;go_wp2_with fail
   go_roundg (ln - (k+1))
   case measure=>omega
   case rel=>exact⟨k+1,by omega,by go_num,by rw[HPT.o];go_num,HF5.o⟩
  ·have hte:xl.take k=xl:=List.take_of_length_le (by rw[HLN.o];omega);rw[hte];clear hte;go_wp2_with fail;exact HQ.o _ _ ⟨by go_num,HF.o⟩
theorem uT {q:Qry} (h:gA w N q.cells cs) (hw:q.wt<=1000000) (hq:∀ x ∈ q.fil,EPC x):RV 22 #[.agg cs.toArray] w (.int .i64 (q.parts:Nat)):=by
 refine bA fun R HQ=>?_;obtain⟨As,c,rfl,hc⟩:=gD h;have hfl:=q.fil_len;have hpl:=q.parts_le;have hsl:=q.len_le
 have HM:Hid (∀ x ∈ q.l,x.l.length<=1000000):=lh fun x hx=>by
  have:=lE hx;have:=gH x.l;rw[q.wt_eq] at hw;have:=x.wt_eq;omega
 have hxe:=q.parts_eq;rw[hxe] at hpl HQ;have HFIL:=lh (fun W (hW:Fr [] w W)=>vR (h.fr hW) hw);have HC1:Hid ((Tryz.prog.info? 25).map (·.size)=some ([.bool q.rel,.slice As q.l.length c]:List Value).length):=lh (by kernel_rfl);obtain⟨xl,hxl⟩:∃ xl,q.fil=xl:=⟨_,rfl⟩;rw[hxl] at hpl HQ HFIL hq hfl;have HLC:=lh hq;obtain⟨l,hl⟩:∃ l,q.l=l:=⟨_,rfl⟩;rw[hl] at hpl HQ hc HM HFIL HC1 hsl ⊢;generalize q.rel=rel at *;obtain⟨A',c',gs,offs,hv,hA,hrow⟩:=hc.row;injection hv with e1 e2 e3;subst e1 e3;have hlm:(l.map Sgm.cells).length=l.length:=by simp
 rw[hlm] at hA;have HROWS:=lh hrow;have HAS:=lh hA;obtain⟨lns,hlns⟩:∃ lns,l.length=lns:=⟨_,rfl⟩;have HLNS:=lh hlns;rw[hlns] at hpl HQ HFIL HC1 hsl ⊢;have hbound:lns+nE l+pA xl<=1000000:=by omega
 have hxll:xl.length<=1000000:=by omega
 clear hrow hA h hq hlm e2 hxe hc hlns hl hxl hpl hsl hfl hw
 go_enter Tryz.func22,Tryz.ntmps22
 go_wp2_with (with_reducible refine dB rfl 25 (.tmp 0) rfl [.bool rel,.slice As lns c] rfl ?_)
 intro w0 hb0 hf0 hz0;have HF0:=lh hf0;have HB0:=lh hb0;have c1:=hb0.at_ (i:=1) rfl;have hbl:=hb0.lt;clear hb0 hf0;go_wp2_with fail
 go_loopg [3,14] lns (fun j va vb wr=>PsRel (lns:Int) l lns w0 j va vb wr)
 case atStart=>exact⟨0,by omega,rfl,by simp[nE],Fr.refl _ _⟩
 case round=>
  obtain⟨k,hk,rfl,rfl,hf⟩:=hrel;have HF:=lh hf;clear hf
  by_cases hkl:k < lns
  ·obtain⟨y,hy⟩:∃ y,l[k]? = some y:=gx (by rw[HLNS.o];exact hkl);obtain⟨rfl,hNg⟩:=HAS.o (by have:=HLNS.o;omega);obtain⟨_,cs,hcs,hcell⟩:=HROWS.o k y.cells (by rw[List.getElem?_map,hy];rfl);have hyl:=HM.o y (List.mem_of_getElem? hy);obtain⟨B,d,rfl,hcx⟩:=sF hcs;have k0:=hcell 0 _ rfl;have k1:=hcell 1 _ rfl;rw[show offs+2 * k+0=offs+k * 2 by omega] at k0;rw[show offs+2 * k+1=offs+k * 2+1 by omega] at k1;have cc0:=dA HF.o (dA HF0.o k0);have cc1:=dA HF.o (dA HF0.o k1);have hpt:=dZ hy;have hple:=aCw l (k+1);have HPT:=lh hpt;rw[hpt] at hple;clear hcs hcell hcx k0 k1 hy hpt;generalize y.deep=dp at *;generalize y.l.length=yl at *;generalize nE (List.take k l)=pk at *;go_wp2_with fail
   go_roundg (lns - (k+1))
   case measure=>omega
   case rel=>exact⟨k+1,by omega,by go_num,by rw[HPT.o];go_num,HF.o.trans ((Fr.refl [] wr).alloc _)⟩
  ·have hte:l.take k=l:=List.take_of_length_le (by rw[HLNS.o];omega);rw[hte];clear hte;have hra:wr.rangeAt w.heap.size 0 [.bool rel,.slice As lns c]:=fun j u hj=>by rw[Nat.zero_add];exact(HB0.o.fr HF.o).at_ hj
   have HRA:=lh hra;have HCF:=lh (HFIL.o wr (HF0.o.trans HF.o));have HBR:=lh (HB0.o.fr HF.o);clear hra;generalize nE l=sl at *
   go_wp2_with (with_reducible refine uA rfl 25 (.tmp 1) rfl rfl HBR.o Tryz.underlying25 rfl HC1.o ?_)
   refine HCF.o.mono ?_;rintro e w5 ⟨v,rfl,hcv,hf5⟩;obtain⟨A,c5,rfl,_⟩:=hcv.slice;obtain⟨A',c',g,off,hv,hA,hrow⟩:=hcv.row;injection hv with e1 e2 e3;subst e1 e3;have hlm:(xl.map Xpr.cells).length=xl.length:=by simp
   rw[hlm] at hA ⊢;have HROW:=lh hrow;have HA:=lh hA;have HFW:=lh ((HF0.o.trans HF.o).trans hf5);obtain⟨ln,hln⟩:∃ ln,xl.length=ln:=⟨_,rfl⟩;have HLN:=lh hln;rw[hln] at hxll ⊢;clear hrow hA hcv hln hlm e2 hf5 HCF;go_wp2_with fail
   go_loopg [3,27] ln (fun j va vb wr=>aGM ((lns:Int)+(sl:Int)) xl ln w5 j va vb wr)
   case atStart=>exact⟨0,by omega,rfl,by simp[pA],(lh (Fr.refl [] w5)).out⟩
   case round=>
    obtain⟨k,hk,rfl,rfl,hf⟩:=hrel;have HF:=lh hf;clear hf
    by_cases hkl:k < ln
    ·obtain⟨y,hy⟩:∃ y,xl[k]? = some y:=gx (by rw[HLN.o];exact hkl);obtain⟨rfl,hNg⟩:=HA.o (by have:=HLN.o;omega);obtain⟨_,cs,hcs,hcell⟩:=HROW.o k y.cells (by rw[List.getElem?_map,hy];rfl);have hcl:cs.length=13:=hcs.1.trans (kA y);have hc1:(Tryz.prog.info? 109).map (·.size)=some cs.length:=by rw[hcl];exact cD
     have hc2:zx.length=cs.length:=by rw[hcl];rfl
     have hra:wr.rangeAt g (off+k * 13) cs:=fun j u hj=>by
      have:=hcell j u hj;rw[show off+13 * k+j=off+k * 13+j by rw[Nat.mul_comm]] at this;exact dA HF.o this
     have hpt:=vH hy;have hple:=xG xl (k+1);have HC1:=lh hc1;have HC2:=lh hc2;have HRA:=lh hra;have HCS:=lh hcs;have HONE:=lh hcs.one;have HYC:=lh (HLC.o y (List.mem_of_getElem? hy));have HPT:=lh hpt;rw[hpt] at hple;have hl0:0 < ln:=by omega
     clear hcs hcell hcl hc1 hc2 hra hy hpt;generalize pA (List.take k xl)=pk at *
     go_wp2_with (first
      | (with_reducible refine wpList_load_mid rfl 109 (.tmp 29) rfl g (off+k * 13) rfl cs _ HRA.o Tryz.underlying109 rfl HC1.o ?_)
      | (with_reducible refine zC rfl rfl 109 (.tmp 30) rfl rfl rfl rfl (.agg zx.toArray) zx iH sE cs rfl rfl HC1.o HC2.o HONE.o ?_))
     intro w4 hb4 hf4 hz4;have HB4:=lh hb4;have HF4:=lh (HF.o.trans hf4);have HYW:=lh (HYC.o w4 _ cs (HCS.o.fr HF4.o));clear hb4 hf4 HYC;generalize y.parts=yp at *
     go_wp2_with (with_reducible refine uA rfl 109 (.tmp 7) rfl rfl HB4.o Tryz.underlying109 rfl HC1.o ?_)
     refine HYW.o.mono ?_;rintro e w5 ⟨rfl,hf5⟩;have HF5:=lh (HF4.o.trans hf5);clear hf5;go_wp2_with fail
     go_roundg (ln - (k+1))
     case measure=>omega
     case rel=>exact⟨k+1,by omega,by go_num,by rw[HPT.o];go_num,HF5.o⟩
    ·have hte:xl.take k=xl:=List.take_of_length_le (by rw[HLN.o];omega);rw[hte];clear hte;go_wp2_with fail;exact HQ.o _ _ ⟨by go_num,(HFW.o.trans HF.o)⟩
end
theorem aAU:∀ n:Nat,n<=1000000 -> (∀ q:Qry,q.wt<=n -> QPC q)/\(∀ x:Xpr,x.wt<=n -> EPC x):=by
 intro n
 induction n with
 | zero=>
  intro _;refine⟨fun q hq=>fun w N cs h=>uT h (by omega) (fun x hx=>absurd (Qry.fil_lt hx) (by omega)),fun x hx=>by have:=x.wt_pos;omega⟩
 | succ n ih=>
  intro hn;obtain⟨i1,i2⟩:=ih (by omega);refine⟨fun q hq=>fun w N cs h=>uT h (by omega) (fun x hx=>i2 x (by have:=Qry.fil_lt hx;omega)),fun x hx=>fun w N cs h=>?_⟩;have:=x.wt_eq;exact aAT h (by omega) (i1 _ (by omega)) (fun y hy=>i2 y (by have:=mE hy;omega))
theorem Qry.parts_any {q:Qry} (hw:q.wt<=1000000):QPC q:=(aAU _ (Nat.le_refl _)).1 q hw
def uM (w:World) (txt:List UInt8) (e:Ending) (w':World):Prop:=
 match fC txt with
 | .error er=>e=.returned (.tuple #[.agg #[.bool false,.slice none 0 0],.int .i64 er])/\Fr [] w w'
 | .ok q=>∃ cs,e=.returned (.tuple #[.agg cs.toArray,.int .i64 0])/\gA w' (fun g=>w.heap.size<=g) q.cells cs/\Fr [] w w'
theorem zE {w w':World} {txt:List UInt8} {er:Int} (h:fC txt=.error er) (hf:Fr [] w w'):uM w txt (.returned (.tuple #[.agg #[.bool false,.slice none 0 0],.int .i64 er])) w':=by
 unfold uM;rw[h];exact⟨rfl,hf⟩
theorem eZ {w w':World} {txt:List UInt8} {q:Qry} {cs:List Value} (h:fC txt=.ok q) (hr:gA w' (fun g=>w.heap.size<=g) q.cells cs) (hf:Fr [] w w'):uM w txt (.returned (.tuple #[.agg cs.toArray,.int .i64 0])) w':=by
 unfold uM;rw[h];exact⟨cs,rfl,hr,hf⟩
theorem vM {txt:List UInt8} {ts:List Tkn} (h:rC txt=.ok ts):fC txt=match xI txt ts.length ⟨ts,0⟩ with
  | none=>.error 2
  | some (q,s)=>if s.l=[] then (if 32 < s.most then .error 3 else if q.typed=false then .error 8 else if 512 < q.parts then .error 4 else .ok q) else .error 2:=by
 unfold fC fS xI;rw[h]
 simp only
 by_cases h1:QS.next ⟨ts,0⟩ [36]=true
 ·rw[if_pos h1,if_pos h1]
  cases pD txt (eG txt ts.length).fst 0 false (QS.go ⟨ts,0⟩) with
  | none=>rfl
  | some y=>
   obtain⟨q,s⟩:=y
   simp only
   by_cases hs:s.l=[]
   ·rw[if_pos hs,if_pos hs]
   ·rw[if_neg hs,if_neg hs]
 ·rw[if_neg h1,if_neg h1]
theorem vT {txt:List UInt8} {ts:List Tkn} {q:Qry} {s:QS} (h:xI txt ts.length ⟨ts,0⟩=some (q,s)):q.wt<=8 * ts.length:=by
 unfold xI at h
 split at h
 ·rename_i hn
  have h1:=qE hn;have h2:=pV (cQ _).1 0 _ _ _ _ h
  simp only at h1
  omega
 ·cases h
theorem aCx {txt:List UInt8} {q:Qry} (h:fC txt=.ok q):q.wt<=65536:=by
 cases ht:rC txt with
 | error e=>rw[show fC txt=.error e by unfold fC;rw[ht]] at h;cases h
 | ok ts=>
  have hl:=pO ht;rw[vM ht] at h
  cases hX:xI txt ts.length ⟨ts,0⟩ with
  | none=>rw[hX] at h;cases h
  | some y=>
   obtain⟨q1,s⟩:=y;have:=vT hX;rw[hX] at h
   simp only at h
   split at h
   ·split at h
    ·cases h
    ·split at h
     ·cases h
     ·split at h
      ·cases h
      ·injection h with h;subst h;omega
   ·cases h
theorem aEa:(Tryz.prog.info? 25).map (·.zero)=some (some (.agg ([.bool false,.slice none 0 0]:List Value).toArray)):=by kernel_rfl
theorem eR {w:World} (hg:bO w) (h16:8<=w.heap.size) (txt:ByteArray) (hz:txt.size<=100000):Calls Tryz.prog 10 #[.string txt] w (uM w (aA txt)):=by
 refine bA fun R HQ=>?_;have HG:=lh hg;have HC1:Hid ((Tryz.prog.info? 25).map (·.size)=some ([.bool false,.slice none 0 0]:List Value).length):=lh cI;clear hg
 go_enter Tryz.func10,Tryz.ntmps10
 go_wp2_with fail;have hz0:=Blk.new w 25 [.bool false,.slice none 0 0];have hf0:Fr [] w (w.alloc (.cells #[.bool false,.slice none 0 0] 25)):=(Fr.refl [] w).alloc _;generalize w.alloc (.cells #[.bool false,.slice none 0 0] 25)=w0 at *;have HZ0:=lh hz0;have HF0:=lh hf0;have HC:=lh (aFm (w:=w0) txt hz);have hs0:=hf0.size;have hs1:=hz0.lt;clear hz0 hf0;refine HC.o.mono ?_;rintro e w1 ⟨hf1,ht⟩;have HZ1:=lh (HZ0.o.fr hf1);have HF1:=lh (HF0.o.trans hf1);have hs2:=hf1.size;clear hf1 HC HZ0 HF0
 cases hT:rC (aA txt) with
 | error er=>
  rw[hT] at ht;obtain⟨rfl,her⟩:=ht;have HE:Hid (fC (aA txt)=.error er):=lh (by unfold fC;rw[hT]);have d0:(er != 0)=true:=by rw[bne_iff_ne];exact her
  clear hT her
  go_wp2_with (with_reducible refine iA rfl 25 (.tmp 2) (.tmp 16) rfl [.bool false,.slice none 0 0] rfl rfl HZ1.o HC1.o rfl (by simp[Value.oneCell']) ?_)
  intro w9 hb9 hf9 hz9;have HB9:=lh hb9;have HF9:=lh (HF1.o.trans hf9 (fun x hx=>.inr (by simp at hx;omega)));clear hb9 hf9 hz9;go_wp2_with fail;exact bodyPost_ret (fA rfl rfl HB9.o Tryz.underlying25 rfl cI) rfl (HQ.o _ _ (zE HE.o HF9.o))
 | ok ts=>
  rw[hT] at ht;obtain⟨v,rfl,how,hgo⟩:=ht;have HE0:=lh (vM hT);obtain⟨gl,hsl,hgl,hgl0⟩:=kP.of_own how 0;obtain⟨A,c,off,hv,-⟩:=id hsl;subst hv;have HSL:=lh hsl;have HGL:Hid (0 < ts.length -> gl < w1.heap.size):=lh fun h=>iL how gl (hgl h);have hok:=(mN hT).2;have hnm:=rW hT;have hln:=pO hT;have HOK:=lh hok;have HNM:=lh hnm;have HLN:=lh hln;clear how hgo hsl hgl hgl0 hok hnm hln hT;go_upto_region 5 with fail
  have hfa:Fr [] w1 (w1.alloc (.cells #[.string txt,.slice A ts.length c,.int .i64 0,.int .i64 0] 62)):=(Fr.refl [] w1).alloc _;have hba:=Blk.new w1 62 [.string txt,.slice A ts.length c,.int .i64 0,.int .i64 0];generalize w1.alloc (.cells #[.string txt,.slice A ts.length c,.int .i64 0,.int .i64 0] 62)=w2 at *;have hr:wD w2 w1.heap.size gl txt 0 ⟨ts,0⟩:=⟨(HG.o.fr HF1.o).fr hfa,by omega,HGL.o,⟨_,hba,HSL.o.fr hfa⟩,fun t ht=>by have:=HOK.o t ht;rwa [cA] at this,HLN.o,⟨Int.le_refl 0,(by decide:(0:Int)<=100000)⟩,⟨Int.le_refl 0,(by decide:(0:Int)<=100000)⟩,hz,fun t ht hk=>Nat.le_trans (HNM.o t ht hk) (by decide)⟩;have HWQ:=lh (aFx hr (Nat.le_refl _));have HF2:=lh (HF1.o.trans hfa);have HZ2:=lh (HZ1.o.fr hfa);have hs3:=hba.lt;have hsl2:=hfa.size;clear hfa hba hr
  cases hX:xI (aA txt) ts.length ⟨ts,0⟩ with
  | none=>
   have HE:Hid (fC (aA txt)=.error 2):=lh (by rw[HE0.o,hX]);rw[hX] at HWQ;clear hX;go_wp2_with fail;refine HWQ.o.mono ?_;rintro e w3 ⟨rfl,hf3⟩;have HZ3:=lh (HZ2.o.fr hf3 (by simp;omega));have HF3:=lh (HF2.o.trans hf3 (fun x hx=>.inr (by simp at hx;omega)));have hs4:=hf3.size;clear hf3
   go_wp2_with (first
    | (with_reducible refine zC rfl rfl 25 (.tmp 25) rfl rfl rfl rfl (.agg ([.bool false,.slice none 0 0]:List Value).toArray) [.bool false,.slice none 0 0] aEa rfl [.bool false,.slice none 0 0] rfl rfl HC1.o rfl (by simp[Value.oneCell']) ?_))
   intro w4 hb4 hf4 hz4;have HZ4:=lh (HZ3.o.fr hf4);have HF4:=lh (HF3.o.trans hf4);clear hf4 hb4
   go_wp2_with (with_reducible refine iA rfl 25 (.tmp 2) (.tmp 30) rfl [.bool false,.slice none 0 0] rfl rfl HZ4.o HC1.o rfl (by simp[Value.oneCell']) ?_)
   intro w9 hb9 hf9 hz9;have HB9:=lh hb9;have HF9:=lh (HF4.o.trans hf9 (fun x hx=>.inr (by simp at hx;omega)));clear hb9 hf9 hz9;go_wp2_with fail;exact bodyPost_ret (fA rfl rfl HB9.o Tryz.underlying25 rfl cI) rfl (HQ.o _ _ (zE HE.o HF9.o))
  | some y=>
   obtain⟨q,s⟩:=y;rw[hX] at HWQ HE0;have hwt:=vT hX;have hln:=HLN.o;have hq6:q.wt<=1000000:=by omega
   clear hX hwt hln;go_wp2_with fail;refine HWQ.o.mono ?_;rintro e w3 ⟨cs,rfl,hcs,hr3,hf3⟩;have HZ3:=lh (HZ2.o.fr hf3 (by simp;omega));have HF3:=lh (HF2.o.trans hf3 (fun x hx=>.inr (by simp at hx;omega)));have hs4:=hf3.size;have hcl:cs.length=2:=hcs.1.trans (by obtain⟨_,_⟩:=q;rfl);have HC2:Hid ((Tryz.prog.info? 25).map (·.size)=some cs.length):=lh (by rw[hcl];exact cI);have HCL:Hid (([.bool false,.slice none 0 0]:List Value).length=cs.length):=lh (by rw[hcl];rfl);have HCN:=lh hcl;have HO:=lh hcs.one;have HCS:=lh (hcs.mono (M:=fun g=>w.heap.size < g) (fun g hg=>by omega));have HR3:=lh hr3;obtain⟨sl,hsl⟩:∃ b,decide (s.l=[])=b:=⟨_,rfl⟩;rw[hsl];have HSL2:=lh hsl;clear hf3 hcs hcl hr3 hsl
   go_wp2_with (first
    | (with_reducible refine zC rfl rfl 25 (.tmp 25) rfl rfl rfl rfl (.agg ([.bool false,.slice none 0 0]:List Value).toArray) [.bool false,.slice none 0 0] aEa rfl cs rfl rfl HC2.o HCL.o HO.o ?_))
   intro w4 hb4 hf4 hz4;have HZ4:=lh (HZ3.o.fr hf4);have HF4:=lh (HF3.o.trans hf4);have HB4:=lh hb4;have HR4:=lh (HR3.o.fr hf4);have HCS4:=lh (HCS.o.fr hf4);clear hf4 hb4
   cases sl with
   | false=>
    have HE:Hid (fC (aA txt)=.error 2):=lh (by rw[HE0.o];show(if s.l=[] then _ else _)=_;rw[if_neg (of_decide_eq_false HSL2.o)])
    go_wp2_with (with_reducible refine iA rfl 25 (.tmp 2) (.tmp 30) rfl [.bool false,.slice none 0 0] rfl rfl HZ4.o HC1.o rfl (by simp[Value.oneCell']) ?_)
    intro w9 hb9 hf9 hz9;have HB9:=lh hb9;have HF9:=lh (HF4.o.trans hf9 (fun x hx=>.inr (by simp at hx;omega)));clear hb9 hf9 hz9;go_wp2_with fail;exact bodyPost_ret (fA rfl rfl HB9.o Tryz.underlying25 rfl cI) rfl (HQ.o _ _ (zE HE.o HF9.o))
   | true=>
    have HE1:Hid (fC (aA txt)=if 32 < s.most then .error 3 else if q.typed=false then .error 8 else if 512 < q.parts then .error 4 else .ok q):=lh (by rw[HE0.o];show(if s.l=[] then _ else _)=_;rw[if_pos (of_decide_eq_true HSL2.o)]);obtain⟨vr,hbr,-⟩:=HR4.o.at_;have m3:=hbr.at_ (i:=3) rfl;have hm:=HR4.o.most;obtain⟨mo,hmo⟩:∃ mo,s.most=mo:=⟨_,rfl⟩;rw[hmo] at m3 hm HE1;have HQT:=lh (Qry.typed_any hq6 w4 _ cs HCS4.o);clear hbr hmo HR4 HR3 HWQ HE0 HZ3 HF3
    by_cases h32:32 < mo
    ·have HE:Hid (fC (aA txt)=.error 3):=lh (by rw[HE1.o,if_pos h32]);have d1:decide (32 < mo)=true:=decide_eq_true h32;clear h32
     go_wp2_with (with_reducible refine iA rfl 25 (.tmp 2) (.tmp 37) rfl [.bool false,.slice none 0 0] rfl rfl HZ4.o HC1.o rfl (by simp[Value.oneCell']) ?_)
     intro w9 hb9 hf9 hz9;have HB9:=lh hb9;have HF9:=lh (HF4.o.trans hf9 (fun x hx=>.inr (by simp at hx;omega)));clear hb9 hf9 hz9;go_wp2_with fail;exact bodyPost_ret (fA rfl rfl HB9.o Tryz.underlying25 rfl cI) rfl (HQ.o _ _ (zE HE.o HF9.o))
    ·have HE2:Hid (fC (aA txt)=if q.typed=false then .error 8 else if 512 < q.parts then .error 4 else .ok q):=lh (by rw[HE1.o,if_neg h32]);have d1:decide (32 < mo)=false:=decide_eq_false h32;clear h32
     go_wp2_with (with_reducible refine uA rfl 25 (.tmp 7) rfl rfl HB4.o Tryz.underlying25 rfl HC2.o ?_)
     refine HQT.o.mono ?_;rintro e w5 ⟨rfl,hf5⟩;have HZ5:=lh (HZ4.o.fr hf5);have HF5:=lh (HF4.o.trans hf5);have HB5:=lh (HB4.o.fr hf5);have HCS5:=lh (HCS4.o.fr hf5);have hqt:∃ b,q.typed=b:=⟨_,rfl⟩;obtain⟨b,hqt⟩:=hqt;rw[hqt] at HE2 ⊢;clear hf5 hqt HQT m3
     cases b with
     | false=>
      have HE:Hid (fC (aA txt)=.error 8):=lh (by rw[HE2.o,if_pos rfl])
      go_wp2_with (with_reducible refine iA rfl 25 (.tmp 2) (.tmp 42) rfl [.bool false,.slice none 0 0] rfl rfl HZ5.o HC1.o rfl (by simp[Value.oneCell']) ?_)
      intro w9 hb9 hf9 hz9;have HB9:=lh hb9;have HF9:=lh (HF5.o.trans hf9 (fun x hx=>.inr (by simp at hx;omega)));clear hb9 hf9 hz9;go_wp2_with fail;exact bodyPost_ret (fA rfl rfl HB9.o Tryz.underlying25 rfl cI) rfl (HQ.o _ _ (zE HE.o HF9.o))
     | true=>
      have HE3:Hid (fC (aA txt)=if 512 < q.parts then .error 4 else .ok q):=lh (by rw[HE2.o,if_neg (by simp)]);have HQP:=lh (Qry.parts_any hq6 w5 _ cs HCS5.o);have hpl:=q.parts_le;obtain⟨qp,hqp⟩:∃ qp,q.parts=qp:=⟨_,rfl⟩;rw[hqp] at HE3 HQP hpl;clear hqp
      go_wp2_with (with_reducible refine uA rfl 25 (.tmp 7) rfl rfl HB5.o Tryz.underlying25 rfl HC2.o ?_)
      refine HQP.o.mono ?_;rintro e w6 ⟨rfl,hf6⟩;have HZ6:=lh (HZ5.o.fr hf6);have HF6:=lh (HF5.o.trans hf6);have HB6:=lh (HB5.o.fr hf6);have HCS6:=lh (HCS5.o.fr hf6);clear hf6 HQP
      by_cases h512:512 < qp
      ·have HE:Hid (fC (aA txt)=.error 4):=lh (by rw[HE3.o,if_pos h512]);have d2:decide (512 < (qp:Int))=true:=dT (by omega)
       clear h512
       go_wp2_with (with_reducible refine iA rfl 25 (.tmp 2) (.tmp 47) rfl [.bool false,.slice none 0 0] rfl rfl HZ6.o HC1.o rfl (by simp[Value.oneCell']) ?_)
       intro w9 hb9 hf9 hz9;have HB9:=lh hb9;have HF9:=lh (HF6.o.trans hf9 (fun x hx=>.inr (by simp at hx;omega)));clear hb9 hf9 hz9;go_wp2_with fail;exact bodyPost_ret (fA rfl rfl HB9.o Tryz.underlying25 rfl cI) rfl (HQ.o _ _ (zE HE.o HF9.o))
      ·have HE:Hid (fC (aA txt)=.ok q):=lh (by rw[HE3.o,if_neg h512]);have d2:decide (512 < (qp:Int))=false:=dF (by omega)
       clear h512
       go_wp2_with (first
        | (with_reducible refine uA rfl 25 (.tmp 7) rfl rfl HB6.o Tryz.underlying25 rfl HC2.o ?_)
        | (with_reducible refine iA rfl 25 (.tmp 2) (.tmp 48) rfl cs rfl rfl HZ6.o HC2.o HCL.o HO.o ?_))
       intro w9 hb9 hf9 hz9;have HB9:=lh hb9;have HF9:=lh (HF6.o.trans hf9 (fun x hx=>.inr (by simp at hx;omega)));have HCS9:=lh ((HCS6.o.fr hf9 (fun g hg=>by simp;omega)).mono (M:=fun g=>w.heap.size<=g) (fun g hg=>Nat.le_of_lt hg));clear hb9 hf9 hz9;go_wp2_with fail;exact bodyPost_ret (fA rfl rfl HB9.o Tryz.underlying25 rfl (by rw[HCN.o];exact cI)) rfl (HQ.o _ _ (eZ HE.o HCS9.o HF9.o))
def bldW:Ren:=⟨fun | 167=>140 | n=>Tryz.lays156_ren.f n,Tryz.lays156_ren.t,fun n=>n⟩
theorem aFy:Go.Proofs.Lays.n167 Tryz.prog bldW:={
 mixed:=by kernel_rfl
 f167:=Tryz.func140.trans (congrArg some (by kernel_rfl))
 f240:=Tryz.func138.trans (congrArg some (by kernel_rfl))
 f276:=Tryz.func177.trans (congrArg some (by kernel_rfl))
 t0:=Tryz.lays156.t0,a0:=Tryz.lays156.a0,z0:=Tryz.lays156.z0,v0:=Tryz.lays156.v0
 t4:=Tryz.lays156.t4,a4:=Tryz.lays156.a4,z4:=Tryz.lays156.z4,v4:=Tryz.lays156.v4
 t5:=Tryz.Builder_Extra_156.t5,a5:=Tryz.Builder_Extra_156.a5,z5:=Tryz.Builder_Extra_156.z5,v5:=Tryz.Builder_Extra_156.v5
 t9:=Tryz.lays156.t9,a9:=Tryz.lays156.a9,z9:=Tryz.lays156.z9,v9:=Tryz.lays156.v9
 t20:=Tryz.lays156.t20,a20:=Tryz.lays156.a20,z20:=Tryz.lays156.z20,v20:=Tryz.lays156.v20
 t37:=Tryz.lays156.t37,a37:=Tryz.lays156.a37,z37:=Tryz.lays156.z37,v37:=Tryz.lays156.v37
 t70:=Tryz.lays156.t70,a70:=Tryz.lays156.a70,z70:=Tryz.lays156.z70,v70:=Tryz.lays156.v70
 t72:=Tryz.lays156.t72,a72:=Tryz.lays156.a72,z72:=Tryz.lays156.z72,v72:=Tryz.lays156.v72
 t75:=Tryz.lays156.t75,a75:=Tryz.lays156.a75,z75:=Tryz.lays156.z75,v75:=Tryz.lays156.v75
 t164:=Tryz.lays156.t164,a164:=Tryz.lays156.a164,z164:=Tryz.lays156.z164,v164:=Tryz.lays156.v164 }
theorem aEb:Builder.Extra Tryz.prog bldW:={
 sizeBuilder:=by kernel_rfl
 liesBuilder:=by kernel_rfl
 t5:=Tryz.Builder_Extra_156.t5,a5:=Tryz.Builder_Extra_156.a5,z5:=Tryz.Builder_Extra_156.z5,v5:=Tryz.Builder_Extra_156.v5
 infoByte:=by kernel_rfl
 cellsByte:=by kernel_rfl
 sizeByte:=by kernel_rfl
 neB5:=by decide }
def BldAt (w:World) (b:Nat) (l:List UInt8):Prop:=Lib.IsBuilderF 151 5 b b (Lib.byteCells l) w
structure nO (w0 w:World) (b:Nat) (l:List UInt8):Prop where
 lo:w0.heap.size<=b
 lt:b < w.heap.size
 bld:BldAt w b l
 fr:Fr [] w0 w
theorem Fr.low {w0 w w':World} {b:Nat} (h:Fr [] w0 w) (hb:w0.heap.size<=b) (k:Below b w w'):Fr [] w0 w':=
 ⟨k.os.trans h.os,k.tape.trans h.tape,k.output.trans h.output,Nat.le_trans h.size k.size,fun i hi hn=>(k.block i (by omega)).trans (h.block i hi hn)⟩
theorem xU (c:UInt8):Lib.byteCells [c]=[.int .u8 (c.toNat:Int)]:=rfl
theorem aBF {w0 w:World} {b:Nat} (hb:Blk w b 151 [.pointer none,.slice none 0 0]) (hf:Fr [] w0 w) (hlo:w0.heap.size<=b):nO w0 w b []:=
 ⟨hlo,hb.lt,.inl ⟨Nat.le_refl _,.slice none 0 0,hb,⟨rfl,.inl ⟨rfl,rfl⟩⟩,by simp[Value.ownBlock]⟩,hf⟩
theorem jF {w0 w:World} {b:Nat} {l:List UInt8} (h:nO w0 w b l) (c:UInt8) (hl:l.length<=1000000000) {x:Int} (hx:x=(c.toNat:Int)):Calls Tryz.prog 140 #[.pointer (some ⟨b,0,none⟩),.int .u8 x] w fun e w'=>e=.returned .nilIface/\nO w0 w' b (l ++ [c]):=by
 subst hx;refine(Any.Builder_WriteByte_k aFy aEb b b (Lib.byteCells l) (c.toNat:Int) w h.bld (by rw[Lib.byteCells_length];omega) (Nat.le_of_lt h.lt)).mono ?_;rintro e w' ⟨rfl,hb,hl,-⟩;rw[<- xU,<- Lib.byteCells_append] at hb;exact⟨rfl,h.lo,Nat.lt_of_lt_of_le h.lt hl.size,.inr hb,h.fr.low h.lo hl⟩
theorem wT {w0 w:World} {b:Nat} {l:List UInt8} (h:nO w0 w b l) (s:ByteArray) (hl:l.length+s.size<=1000000000):Calls Tryz.prog 90 #[.pointer (some ⟨b,0,none⟩),.string s] w fun e w'=>e=.returned (.tuple #[.int .i64 s.size,.nilIface])/\nO w0 w' b (l ++ aA s):=by
 refine(Any.Builder_WriteString_k { Tryz.lays156 with } Tryz.Builder_Extra_156 b b (Lib.byteCells l) s w h.bld (by rw[Lib.byteCells_length];omega) (Nat.le_of_lt h.lt)).mono ?_;rintro e w' ⟨rfl,hb,hl,-⟩;rw[Lib.strCells_eq,<- Lib.byteCells_append] at hb;exact⟨rfl,h.lo,Nat.lt_of_lt_of_le h.lt hl.size,.inr hb,h.fr.low h.lo hl⟩
theorem fZ {w0 w:World} {b:Nat} {l:List UInt8} (h:nO w0 w b l):Calls Tryz.prog 91 #[.pointer (some ⟨b,0,none⟩)] w fun e w'=>e=.returned (.string ⟨l.toArray⟩)/\Fr [] w0 w':=by
 refine(Tryz.Builder_String_any_k b b l w h.bld (Nat.le_of_lt h.lt)).mono ?_;rintro e w' ⟨rfl,-,hl,-⟩;exact⟨rfl,h.fr.low h.lo hl⟩
def iQ (c:UInt8):Option Nat:=if c=8 then some 0 else if c=9 then some 1 else if c=10 then some 2 else if c=12 then some 3 else if c=13 then some 4 else none
theorem aFz (c:UInt8):Lib.indexByte ctlL c=qJ (iQ c):=eq_of_beq (qD (fun c=>Lib.indexByte ctlL c == qJ (iQ c)) (by decide +kernel) c)
theorem aCy (c:UInt8) (h1:c ≠ 34) (h2:c ≠ 92):match iQ c with | none=>True | some d=>∃ x,ctlN[d]? = some x/\rE c=[92,x]:=by
 have:=qD (fun c=>decide (c=34 ∨ c=92) || (match iQ c with | none=>true | some d=>decide (d < 5) && decide (rE c=[92,ctlN.getD d 0]))) (by decide +kernel) c;rw[Bool.or_eq_true] at this;rcases this with h | h
 ·rcases of_decide_eq_true h with h | h
  ·exact absurd h h1
  ·exact absurd h h2
 ·split
  ·trivial
  ·rename_i d hd
   rw[hd] at h;simp only[Bool.and_eq_true,decide_eq_true_eq] at h;refine⟨ctlN.getD d 0,?_,h.2⟩;have:d < ctlN.length:=h.1;rw[List.getElem?_eq_getElem this,List.getD_eq_getElem?_getD,List.getElem?_eq_getElem this];rfl
theorem aFA (c:UInt8) (h1:c ≠ 34) (h2:c ≠ 92) (h3:iQ c=none):rE c=if c.toNat < 32 then [92,117,48,48,fM (c.toNat / 16),fM (c.toNat % 16)] else [c]:=by
 have:=qD (fun c=>decide (c=34 ∨ c=92) || (match iQ c with | none=>decide (rE c=if c.toNat < 32 then [92,117,48,48,fM (c.toNat / 16),fM (c.toNat % 16)] else [c]) | some d=>true)) (by decide +kernel) c;rw[Bool.or_eq_true] at this;rcases this with h | h
 ·rcases of_decide_eq_true h with h | h
  ·exact absurd h h1
  ·exact absurd h h2
 ·rw[h3] at h;exact of_decide_eq_true h
theorem xT (c:UInt8):(rE c).length<=6:=by
 have:=qD (fun c=>decide ((rE c).length<=6)) (by decide +kernel) c;exact of_decide_eq_true this
theorem wW:∀ l:List UInt8,(l.flatMap rE).length<=6 * l.length
 | []=>by simp
 | c :: l=>by
  have:=wW l;have:=xT c;rw[List.flatMap_cons,List.length_append,List.length_cons];omega
theorem uN {α β:Type} (f:α -> List β) {l:List α} {k:Nat} {x:α} (h:l[k]? = some x):(l.take (k+1)).flatMap f=(l.take k).flatMap f ++ f x:=by
 obtain⟨hk,hx⟩:=List.getElem?_eq_some_iff.1 h;rw[List.take_succ_eq_append_getElem hk,hx]
 simp
theorem aEc:∀ n:Fin 16,(⟨#[48,49,50,51,52,53,54,55,56,57,97,98,99,100,101,102]⟩:ByteArray)[n.val]'(by exact n.isLt)=fM n.val:=by decide
def aGN (w:World) (b:Nat) (f:UInt8 -> List UInt8) (h:UInt8) (l:List UInt8) (n:Nat) (j:Nat) (v:Value) (wr:World):Prop:=
 ∃ k:Nat,k+j=n/\v=.int .i64 (k:Int)/\nO w wr b (h :: (l.take k).flatMap f)
theorem aFB {w:World} (s:ByteArray) (hz:s.size<=100000000):RV 141 #[.string s] w (.string ⟨(oK (aA s)).toArray⟩):=by
 refine bA fun R HQ=>?_
 go_enter Tryz.func141,Tryz.ntmps141
 go_wp2_with fail;have hb:=Blk.new w 151 [.pointer none,.slice none 0 0];have hf:Fr [] w (w.alloc (.cells #[.pointer none,.slice none 0 0] 151)):=(Fr.refl [] w).alloc _;generalize w.alloc (.cells #[.pointer none,.slice none 0 0] 151)=w0 at *;refine(jF (aBF hb hf (Nat.le_refl _)) 34 (by simp) rfl).mono ?_;rintro e w1 ⟨rfl,hb1⟩;have HB1:=lh hb1;clear hb hf hb1;have hlen:=cA s;obtain⟨l,hl⟩:∃ l,aA s=l:=⟨_,rfl⟩;obtain⟨n,hn⟩:∃ n,s.size=n:=⟨_,rfl⟩;have HL:=lh hl;rw[hl,hn] at hlen;rw[hl] at HQ;rw[hn] at hz;have HN:=lh hn;have HLN:=lh hlen;go_wp2_with fail;clear hl hn hlen
 go_loopg [10] n (fun j v wr=>aGN w w.heap.size rE 34 l n j v wr)
 case atStart=>exact⟨0,by omega,rfl,by simpa using HB1.o⟩
 case round=>
  obtain⟨k,hk,rfl,hbk⟩:=hrel;have HB:=lh hbk;clear hbk
  have hlk:(34 :: (l.take k).flatMap rE).length<=600000001:=by
   have:=wW (l.take k);rw[List.length_take,HLN.o] at this;rw[List.length_cons];omega
  have HLK:=lh hlk
  by_cases hkn:k < n
  ·obtain⟨c,hc⟩:∃ c,l[k]? = some c:=gx (by rw[HLN.o];exact hkn);have hix:=fun W=>rA (s:=s) (by rw[HL.o];exact hc) .i64 W;have HT:=lh (uN rE hc);clear hc hlk;go_wp2_with fail;refine(jH ⟨#[8,9,10,12,13]⟩ c wr).mono ?_;rintro e w2 ⟨rfl,rfl⟩;rw[show Lib.indexByte (⟨#[8,9,10,12,13]⟩:ByteArray).data.toList c=qJ (iQ c) from aFz c]
   by_cases h1:c=34 ∨ c=92
   ·have HEB:Hid (rE c=[92,c]):=lh (by unfold rE;rw[if_pos h1]);generalize qJ (iQ c)=ix at *
    by_cases h2:c=34
    case' pos=>
     have d1:((c.toNat:Int) == 34)=true:=by subst h2;rfl
     clear h1 h2
    case' neg=>
     have h3:c=92:=h1.resolve_left h2;have d1:((c.toNat:Int) == 34)=false:=by subst h3;rfl
     have d2:((c.toNat:Int) == 92)=true:=by subst h3;rfl
     clear h1 h2 h3
    all_goals
     go_wp2_with fail;refine(jF HB.o 92 (by have:=HLK.o;simp only[List.length_cons] at this ⊢;omega) rfl).mono ?_;rintro e w2 ⟨rfl,hbn⟩;have HB2:=lh hbn;clear hbn;go_wp2_with fail;refine(jF HB2.o c (by have:=HLK.o;simp only[LN] at this ⊢;omega) rfl).mono ?_;rintro e w3 ⟨rfl,hbn⟩;have HB3:=lh hbn;clear hbn;go_wp2_with fail
     go_roundg (n - (k+1))
     case measure=>omega
     case rel=>exact⟨k+1,by omega,by go_num,by rw[HT.o,HEB.o];simpa using HB3.o⟩
   ·have hn1:c ≠ 34:=fun h=>h1 (.inl h);have hn2:c ≠ 92:=fun h=>h1 (.inr h);have d1:((c.toNat:Int) == 34)=false:=by rw[beq_eq_false_iff_ne];intro h;exact hn1 (UInt8.toNat_inj.1 (by show c.toNat=34;omega))
    have d2:((c.toNat:Int) == 92)=false:=by rw[beq_eq_false_iff_ne];intro h;exact hn2 (UInt8.toNat_inj.1 (by show c.toNat=92;omega))
    have hnm:=aCy c hn1 hn2;have hlw:=aFA c hn1 hn2;clear h1 hn1 hn2
    cases hci:iQ c with
    | some d=>
     rw[hci] at hnm;obtain⟨x,hx,heb⟩:=hnm;have HEB:=lh heb;have hxi:=fun W=>rA (s:=⟨#[98,116,110,102,114]⟩) (i:=d) (c:=x) hx .i64 W;have d3:decide (0<=qJ (some d))=true:=by rw[decide_eq_true_eq];exact Int.natCast_nonneg d
     unfold qJ at d3 ⊢
     simp only at d3 ⊢
     clear hlw hci hx heb;go_wp2_with fail;refine(jF HB.o 92 (by have:=HLK.o;simp only[List.length_cons] at this ⊢;omega) rfl).mono ?_;rintro e w2 ⟨rfl,hbn⟩;have HB2:=lh hbn;clear hbn;go_wp2_with fail;refine(jF HB2.o x (by have:=HLK.o;simp only[LN] at this ⊢;omega) rfl).mono ?_;rintro e w3 ⟨rfl,hbn⟩;have HB3:=lh hbn;clear hbn;go_wp2_with fail
     go_roundg (n - (k+1))
     case measure=>omega
     case rel=>exact⟨k+1,by omega,by go_num,by rw[HT.o,HEB.o];simpa using HB3.o⟩
    | none=>
     have heb:=hlw hci;have d3:decide (0<=qJ none)=false:=rfl;unfold qJ at d3 ⊢
     simp only at d3 ⊢
     clear hnm hlw hci
     by_cases h32:c.toNat < 32
     ·rw[if_pos h32] at heb;have HEB:=lh heb;have d4:decide ((c.toNat:Int) < 32)=true:=dT (by omega)
      clear heb;go_wp2_with fail;refine(wT HB.o ⟨#[92,117,48,48]⟩ (by have:=HLK.o;simp only[List.length_cons] at this ⊢;exact Nat.le_trans (Nat.add_le_add_right this 4) (by decide))).mono ?_;rintro e w2 ⟨rfl,hbn⟩;rw[show aA ⟨#[92,117,48,48]⟩=[92,117,48,48] from rfl] at hbn;have HB2:=lh hbn;clear hbn;go_wp2_with fail;refine(jF HB2.o (fM (c.toNat / 16)) (by have:=HLK.o;simp only[LN] at this ⊢;omega) (congrArg (fun u:UInt8=>(u.toNat:Int)) (aEc ⟨c.toNat / 16,by omega⟩))).mono ?_;rintro e w3 ⟨rfl,hbn⟩;have HB3:=lh hbn;clear hbn;go_wp2_with fail;refine(jF HB3.o (fM (c.toNat % 16)) (by have:=HLK.o;simp only[LN] at this ⊢;omega) (congrArg (fun u:UInt8=>(u.toNat:Int)) (aEc ⟨c.toNat % 16,by omega⟩))).mono ?_;rintro e w4 ⟨rfl,hbn⟩;have HB4:=lh hbn;clear hbn;go_wp2_with fail
      go_roundg (n - (k+1))
      case measure=>omega
      case rel=>exact⟨k+1,by omega,by go_num,by rw[HT.o,HEB.o];simpa using HB4.o⟩
     ·rw[if_neg h32] at heb;have HEB:=lh heb;have d4:decide ((c.toNat:Int) < 32)=false:=dF (by omega)
      clear heb;go_wp2_with fail;refine(jF HB.o c (by have:=HLK.o;simp only[List.length_cons] at this ⊢;omega) rfl).mono ?_;rintro e w2 ⟨rfl,hbn⟩;have HB2:=lh hbn;clear hbn;go_wp2_with fail
      go_roundg (n - (k+1))
      case measure=>omega
      case rel=>exact⟨k+1,by omega,by go_num,by rw[HT.o,HEB.o];simpa using HB2.o⟩
  ·have hte:l.take k=l:=List.take_of_length_le (by rw[HLN.o];omega);rw[hte] at HB HLK;clear hte hlk;go_wp2_with fail;refine(jF HB.o 34 (by have:=HLK.o;simp only[List.length_cons] at this ⊢;omega) rfl).mono ?_;rintro e w2 ⟨rfl,hbn⟩;have HB2:=lh hbn;clear hbn;go_wp2_with fail;refine(fZ HB2.o).mono ?_;rintro e w3 ⟨rfl,hf3⟩;have HF3:=lh hf3;clear hf3;go_wp2_with fail;exact HQ.o _ _ ⟨by unfold oK;simp,HF3.o⟩
theorem nO.keep {w0 w w':World} {b:Nat} {l:List UInt8} (h:nO w0 w b l) (hf:Fr [] w w'):nO w0 w' b l:=by
 have key:∀ {p:Value},Lib.BuilderAtF 151 5 b b p (Lib.byteCells l) w -> Lib.BuilderAtF 151 5 b b p (Lib.byteCells l) w':=fun {p} hb=>by
  obtain⟨hB,v,hv,hown,hne⟩:=hb;exact⟨hB,v,(hf.block b h.lt (by simp)).trans hv,hown.kept (row:=none) ⟨hf.os,hf.tape,hf.output,hf.size,fun k hk _=>hf.block k hk (by simp)⟩ (Classical.em _),hne⟩
 exact⟨h.lo,Nat.lt_of_lt_of_le h.lt hf.size,h.bld.elim (fun x=>.inl (key x)) (fun x=>.inr (key x)),h.fr.trans hf⟩
theorem aEd (c:UInt8):(cJ c).length<=6:=by
 have:=qD (fun c=>decide ((cJ c).length<=6)) (by decide +kernel) c;exact of_decide_eq_true this
theorem yT:∀ l:List UInt8,(l.flatMap cJ).length<=6 * l.length
 | []=>by simp
 | c :: l=>by
  have:=yT l;have:=aEd c;rw[List.flatMap_cons,List.length_append,List.length_cons];omega
theorem aFC {w:World} (s:ByteArray) (hz:s.size<=100000000):RV 92 #[.string s] w (.string ⟨(wO (aA s)).toArray⟩):=by
 refine bA fun R HQ=>?_
 go_enter Tryz.func92,Tryz.ntmps92
 go_wp2_with fail;have hb:=Blk.new w 151 [.pointer none,.slice none 0 0];have hf:Fr [] w (w.alloc (.cells #[.pointer none,.slice none 0 0] 151)):=(Fr.refl [] w).alloc _;generalize w.alloc (.cells #[.pointer none,.slice none 0 0] 151)=w0 at *;refine(jF (aBF hb hf (Nat.le_refl _)) 39 (by simp) rfl).mono ?_;rintro e w1 ⟨rfl,hb1⟩;have HB1:=lh hb1;clear hb hf hb1;have hlen:=cA s;obtain⟨l,hl⟩:∃ l,aA s=l:=⟨_,rfl⟩;obtain⟨n,hn⟩:∃ n,s.size=n:=⟨_,rfl⟩;have HL:=lh hl;rw[hl,hn] at hlen;rw[hl] at HQ;rw[hn] at hz;have HN:=lh hn;have HLN:=lh hlen;go_wp2_with fail;clear hl hn hlen
 go_loopg [10] n (fun j v wr=>aGN w w.heap.size cJ 39 l n j v wr)
 case atStart=>exact⟨0,by omega,rfl,by simpa using HB1.o⟩
 case round=>
  obtain⟨k,hk,rfl,hbk⟩:=hrel;have HB:=lh hbk;clear hbk
  have hlk:(39 :: (l.take k).flatMap cJ).length<=600000001:=by
   have:=yT (l.take k);rw[List.length_take,HLN.o] at this;rw[List.length_cons];omega
  have HLK:=lh hlk
  by_cases hkn:k < n
  ·obtain⟨c,hc⟩:∃ c,l[k]? = some c:=gx (by rw[HLN.o];exact hkn);have hix:=fun W=>rA (s:=s) (by rw[HL.o];exact hc) .i64 W;have HT:=lh (uN cJ hc);obtain⟨t1,ht1,htz,hsl⟩:=uH s k (k+1) (by omega) (by rw[HN.o];omega);rw[HL.o,xA hc,show k+1 - k=1 by omega] at ht1;have ht2:aA t1=[c]:=by simpa using ht1
   have hsl1:=fun W=>hsl .i64 .i64 W;rw[show((k+1:Nat):Int)=(k:Int)+1 by omega] at hsl1;clear hc hlk ht1 hsl
   by_cases h1:c=39
   ·have HEB:Hid (cJ c=[92,39]):=lh (by unfold cJ;rw[if_pos h1]);have d1:((c.toNat:Int) == 39)=true:=by subst h1;rfl
    clear h1 hsl1 ht2 htz;go_wp2_with fail;refine(wT HB.o ⟨#[92,39]⟩ (by have:=HLK.o;simp only[List.length_cons] at this ⊢;exact Nat.le_trans (Nat.add_le_add_right this 2) (by decide))).mono ?_;rintro e w2 ⟨rfl,hbn⟩;rw[show aA ⟨#[92,39]⟩=[92,39] from rfl] at hbn;have HB2:=lh hbn;clear hbn;go_wp2_with fail
    go_roundg (n - (k+1))
    case measure=>omega
    case rel=>exact⟨k+1,by omega,by go_num,by rw[HT.o,HEB.o];simpa using HB2.o⟩
   ·have d1:((c.toNat:Int) == 39)=false:=by rw[beq_eq_false_iff_ne];intro h;exact h1 (UInt8.toNat_inj.1 (by show c.toNat=39;omega))
    by_cases h2:c=34
    ·have HEB:Hid (cJ c=[c]):=lh (by unfold cJ;rw[if_neg h1,if_pos h2,h2]);have d2:((c.toNat:Int) == 34)=true:=by subst h2;rfl
     clear h1 h2 hsl1 ht2 htz;go_wp2_with fail;refine(jF HB.o c (by have:=HLK.o;simp only[List.length_cons] at this ⊢;omega) rfl).mono ?_;rintro e w2 ⟨rfl,hbn⟩;have HB2:=lh hbn;clear hbn;go_wp2_with fail
     go_roundg (n - (k+1))
     case measure=>omega
     case rel=>exact⟨k+1,by omega,by go_num,by rw[HT.o,HEB.o];simpa using HB2.o⟩
    ·have HEB:Hid (cJ c=rE c):=lh (by unfold cJ;rw[if_neg h1,if_neg h2]);have d2:((c.toNat:Int) == 34)=false:=by rw[beq_eq_false_iff_ne];intro h;exact h2 (UInt8.toNat_inj.1 (by show c.toNat=34;omega))
     have hq:oK (aA t1)=34 :: rE c ++ [34]:=by rw[ht2];unfold oK;simp
     obtain⟨qs,hqs⟩:∃ qs:ByteArray,qs=⟨(oK (aA t1)).toArray⟩:=⟨_,rfl⟩;have hqb:aA qs=34 :: rE c ++ [34]:=by rw[hqs];exact hq
     have hqz:qs.size=(rE c).length+2:=by rw[<- cA,hqb];simp
     have ht5:aA (qs.extract 1 ((rE c).length+1))=rE c:=by
      rw[lC,hqb]
      simp
     have hel:=xT c;have HT5:=lh ht5;have hs5:(qs.extract 1 ((rE c).length+1)).size=(rE c).length:=by rw[<- cA,ht5]
     have HQU:=lh (fun W=>aFB (w:=W) t1 (by omega));rw[<- hqs] at HQU;have HEL:=lh (rfl:(rE c).length=(rE c).length);clear h1 h2 hqs hq hqb ht2 htz ht5;obtain⟨el,hel2⟩:∃ el,(rE c).length=el:=⟨_,rfl⟩;rw[hel2] at HT5 hs5 hel hqz;clear HEL hel2;go_wp2_with fail;refine(HQU.o _).mono ?_;rintro e w2 ⟨rfl,hf2⟩;have HBk:=lh (HB.o.keep hf2);clear hf2;go_wp2_with fail;refine(wT HBk.o (qs.extract 1 (el+1)) (by have:=HLK.o;omega)).mono ?_;rintro e w3 ⟨rfl,hbn⟩;rw[HT5.o] at hbn;have HB3:=lh hbn;clear hbn;go_wp2_with fail
     go_roundg (n - (k+1))
     case measure=>omega
     case rel=>exact⟨k+1,by omega,by go_num,by rw[HT.o,HEB.o];simpa using HB3.o⟩
  ·have hte:l.take k=l:=List.take_of_length_le (by rw[HLN.o];omega);rw[hte] at HB HLK;clear hte hlk;go_wp2_with fail;refine(jF HB.o 39 (by have:=HLK.o;simp only[List.length_cons] at this ⊢;omega) rfl).mono ?_;rintro e w2 ⟨rfl,hbn⟩;have HB2:=lh hbn;clear hbn;go_wp2_with fail;refine(fZ HB2.o).mono ?_;rintro e w3 ⟨rfl,hf3⟩;have HF3:=lh hf3;clear hf3;go_wp2_with fail;exact HQ.o _ _ ⟨by unfold wO;simp,HF3.o⟩
theorem wM (a b:List UInt8):(⟨a.toArray⟩:ByteArray) ++ (⟨b.toArray⟩:ByteArray)=⟨(a ++ b).toArray⟩:=by
 apply ByteArray.ext
 rw[ByteArray.data_append]
 simp
theorem uB (a b:List UInt8) (h:a.length+b.length<=1000000000000) (w:World):(Op.stringOp .add ⟨a.toArray⟩ ⟨b.toArray⟩).run Tryz.prog w=.ok (.string ⟨(a ++ b).toArray⟩) w:=by
 have hs:(⟨a.toArray⟩:ByteArray).size=a.length:=by simp[ByteArray.size]
 have hs2:(⟨b.toArray⟩:ByteArray).size=b.length:=by simp[ByteArray.size]
 simp only[Op.stringOp,hs,hs2,wM];rw[if_neg (by rw[show IntKind.i64.max=9223372036854775807 from rfl];omega)]
 rfl
theorem xM {t:ByteArray} {l:List UInt8} (h:aA t=l):t=⟨l.toArray⟩:=by
 subst h;exact(Lib.mk_data t).symm
theorem gZ (d:Dcm) (hsn:d.sane=true) (hne:d.digits ≠ []):d.written.length<=500:=by
 have hsn':=hsn;unfold Dcm.sane at hsn';rw[if_neg hne] at hsn';simp only[Bool.and_eq_true,decide_eq_true_eq] at hsn';obtain⟨⟨⟨⟨hl40,-⟩,hh⟩,-⟩,-⟩:=hsn';have hi:=Lib.itoa_length_le (d.high - 1) (by omega) (by omega);unfold Dcm.written nF
 simp only
 split
 ·simp;omega
 ·split
  ·simp;omega
  ·split
   ·simp;omega
   ·have:(if 0 < d.high then ([101,43]:List UInt8) else [101]).length<=2:=by split <;> decide
    have h2:(if 1 < (d.digits.length:Int) then 46 :: d.digits.drop 1 else []).length<=41:=by split <;> simp <;> omega
    simp only[List.length_append,List.length_take];omega
theorem aBG:∀ n:Fin 16,(⟨#[48,49,50,51,52,53,54,55,56,57,97,98,99,100,101,102]⟩:ByteArray).extract n.val (n.val+1)=⟨#[fM n.val]⟩:=by decide +kernel
theorem aFD (O:List UInt8) (a b:Nat) (ha:a < 16) (hb:b < 16):(⟨(O ++ [92,117,48,48]).toArray⟩:ByteArray) ++ (⟨#[48,49,50,51,52,53,54,55,56,57,97,98,99,100,101,102]⟩:ByteArray).extract a (a+1) ++ (⟨#[48,49,50,51,52,53,54,55,56,57,97,98,99,100,101,102]⟩:ByteArray).extract b (b+1)=⟨(O ++ [92,117,48,48,fM a,fM b]).toArray⟩:=by
 rw[aBG ⟨a,ha⟩,aBG ⟨b,hb⟩,show(⟨#[fM a]⟩:ByteArray)=⟨[fM a].toArray⟩ from rfl,show(⟨#[fM b]⟩:ByteArray)=⟨[fM b].toArray⟩ from rfl,wM,wM]
 simp
def aGO (f:UInt8 -> List UInt8) (h:UInt8) (l:List UInt8) (n:Nat) (w:World) (j:Nat) (u v:Value) (wr:World):Prop:=
 ∃ k:Nat,k+j=n/\u=.string ⟨(h :: (l.take k).flatMap f).toArray⟩/\v=.int .i64 (k:Int)/\Fr [] w wr
theorem iZ {w:World} (s:ByteArray) (hz:s.size<=100000000):RV 137 #[.string s] w (.string ⟨(oK (aA s)).toArray⟩):=by
 refine bA fun R HQ=>?_;have hlen:=cA s;obtain⟨l,hl⟩:∃ l,aA s=l:=⟨_,rfl⟩;obtain⟨n,hn⟩:∃ n,s.size=n:=⟨_,rfl⟩;have HL:=lh hl;rw[hl,hn] at hlen;rw[hl] at HQ;rw[hn] at hz;have HN:=lh hn;have HLN:=lh hlen
 go_enter Tryz.func137,Tryz.ntmps137
 go_wp2_with fail;clear hl hn hlen
 go_loopg [3,5] n (fun j u v wr=>aGO rE 34 l n w j u v wr)
 case atStart=>exact⟨0,by omega,rfl,rfl,Fr.refl [] w⟩
 case round=>
  obtain⟨k,hk,rfl,rfl,hF⟩:=hrel;have HF:=lh hF;clear hF
  have hlk:(34 :: (l.take k).flatMap rE).length<=600000001:=by
   have:=wW (l.take k);rw[List.length_take,HLN.o] at this;rw[List.length_cons];omega
  obtain⟨O,hO⟩:∃ O,(34 :: (l.take k).flatMap rE)=O:=⟨_,rfl⟩;have HO:=lh hO;rw[hO] at hlk ⊢
  by_cases hkn:k < n
  ·have hkn':k < s.size:=by rw[HN.o];exact hkn
   obtain⟨c,hc⟩:∃ c,l[k]? = some c:=gx (by rw[HLN.o];exact hkn);have hix:=fun W=>rA (s:=s) (by rw[HL.o];exact hc) .i64 W;have HNX:Hid (34 :: (l.take (k+1)).flatMap rE=O ++ rE c):=lh (by rw[uN rE hc,<- HO.o];rfl);obtain⟨t1,ht1,htz,hsl⟩:=uH s k (k+1) (by omega) (by rw[HN.o];omega);rw[HL.o,xA hc,show k+1 - k=1 by omega] at ht1;have ht2:aA t1=[c]:=by simpa using ht1
   have hsl1:=fun W=>hsl .i64 .i64 W;rw[show((k+1:Nat):Int)=(k:Int)+1 by omega,xM ht2] at hsl1;clear hc ht1 hsl ht2 htz
   by_cases h34:c=34
   ·have HEB:Hid (rE c=[92,c]):=lh (by subst h34;rfl);have d1:((c.toNat:Int) == 34)=true:=by subst h34;rfl
    clear h34;have ha:=fun W=>uB O [92] (by simp only[LN];omega) W;have hb:=fun W=>uB (O ++ [92]) [c] (by simp only[LN];omega) W;simp only[List.append_assoc] at hb;go_wp2_with fail
    go_roundg (n - (k+1))
    case measure=>omega
    case rel=>exact⟨k+1,by omega,by rw[HNX.o,HEB.o],by go_num,HF.o⟩
   ·have d1:((c.toNat:Int) == 34)=false:=by rw[beq_eq_false_iff_ne];intro h;exact h34 (UInt8.toNat_inj.1 (by show c.toNat=34;omega))
    by_cases h92:c=92
    ·have HEB:Hid (rE c=[92,c]):=lh (by subst h92;rfl);have d2:((c.toNat:Int) == 92)=true:=by subst h92;rfl
     clear h34 h92;have ha:=fun W=>uB O [92] (by simp only[LN];omega) W;have hb:=fun W=>uB (O ++ [92]) [c] (by simp only[LN];omega) W;simp only[List.append_assoc] at hb;go_wp2_with fail
     go_roundg (n - (k+1))
     case measure=>omega
     case rel=>exact⟨k+1,by omega,by rw[HNX.o,HEB.o],by go_num,HF.o⟩
    ·have d2:((c.toNat:Int) == 92)=false:=by rw[beq_eq_false_iff_ne];intro h;exact h92 (UInt8.toNat_inj.1 (by show c.toNat=92;omega))
     by_cases h8:c=8
     ·have HEB:Hid (rE c=[92,98]):=lh (by subst h8;rfl);have d3:((c.toNat:Int) == 8)=true:=by subst h8;rfl
      clear h34 h92 h8 hsl1;have ha:=fun W=>uB O [92,98] (by simp only[LN];omega) W;go_wp2_with fail
      go_roundg (n - (k+1))
      case measure=>omega
      case rel=>exact⟨k+1,by omega,by rw[HNX.o,HEB.o],by go_num,HF.o⟩
     ·have d3:((c.toNat:Int) == 8)=false:=by rw[beq_eq_false_iff_ne];intro h;exact h8 (UInt8.toNat_inj.1 (by show c.toNat=8;omega))
      by_cases h9:c=9
      ·have HEB:Hid (rE c=[92,116]):=lh (by subst h9;rfl);have d4:((c.toNat:Int) == 9)=true:=by subst h9;rfl
       clear h34 h92 h8 h9 hsl1;have ha:=fun W=>uB O [92,116] (by simp only[LN];omega) W;go_wp2_with fail
       go_roundg (n - (k+1))
       case measure=>omega
       case rel=>exact⟨k+1,by omega,by rw[HNX.o,HEB.o],by go_num,HF.o⟩
      ·have d4:((c.toNat:Int) == 9)=false:=by rw[beq_eq_false_iff_ne];intro h;exact h9 (UInt8.toNat_inj.1 (by show c.toNat=9;omega))
       by_cases h10:c=10
       ·have HEB:Hid (rE c=[92,110]):=lh (by subst h10;rfl);have d5:((c.toNat:Int) == 10)=true:=by subst h10;rfl
        clear h34 h92 h8 h9 h10 hsl1;have ha:=fun W=>uB O [92,110] (by simp only[LN];omega) W;go_wp2_with fail
        go_roundg (n - (k+1))
        case measure=>omega
        case rel=>exact⟨k+1,by omega,by rw[HNX.o,HEB.o],by go_num,HF.o⟩
       ·have d5:((c.toNat:Int) == 10)=false:=by rw[beq_eq_false_iff_ne];intro h;exact h10 (UInt8.toNat_inj.1 (by show c.toNat=10;omega))
        by_cases h12:c=12
        ·have HEB:Hid (rE c=[92,102]):=lh (by subst h12;rfl);have d6:((c.toNat:Int) == 12)=true:=by subst h12;rfl
         clear h34 h92 h8 h9 h10 h12 hsl1;have ha:=fun W=>uB O [92,102] (by simp only[LN];omega) W;go_wp2_with fail
         go_roundg (n - (k+1))
         case measure=>omega
         case rel=>exact⟨k+1,by omega,by rw[HNX.o,HEB.o],by go_num,HF.o⟩
        ·have d6:((c.toNat:Int) == 12)=false:=by rw[beq_eq_false_iff_ne];intro h;exact h12 (UInt8.toNat_inj.1 (by show c.toNat=12;omega))
         by_cases h13:c=13
         ·have HEB:Hid (rE c=[92,114]):=lh (by subst h13;rfl);have d7:((c.toNat:Int) == 13)=true:=by subst h13;rfl
          clear h34 h92 h8 h9 h10 h12 h13 hsl1;have ha:=fun W=>uB O [92,114] (by simp only[LN];omega) W;go_wp2_with fail
          go_roundg (n - (k+1))
          case measure=>omega
          case rel=>exact⟨k+1,by omega,by rw[HNX.o,HEB.o],by go_num,HF.o⟩
         ·have d7:((c.toNat:Int) == 13)=false:=by rw[beq_eq_false_iff_ne];intro h;exact h13 (UInt8.toNat_inj.1 (by show c.toNat=13;omega))
          by_cases h32:c.toNat < 32
          ·have HEB:Hid (rE c=[92,117,48,48] ++ ([fM (c.toNat / 16)] ++ [fM (c.toNat % 16)])):=lh (by rw[rE,if_neg (by simp[h34,h92]),if_neg h8,if_neg h9,if_neg h10,if_neg h12,if_neg h13,if_pos h32];rfl);have d8:decide ((c.toNat:Int) < 32)=true:=dT (by omega)
           clear h34 h92 h8 h9 h10 h12 h13 hsl1;have ha:=fun W=>uB O [92,117,48,48] (by simp only[LN];omega) W;go_upto_region 21 with fail
           go_quiet (fail)
           have hfq:Fr [] wr (wr.drewN nq):=(Fr.refl [] wr).drewN nq;have HF2:=lh (HF.o.trans hfq);have HSE:=lh (aFD O (c.toNat / 16) (c.toNat % 16) (by have:=of_decide_eq_true d8;omega) (by omega));generalize wr.drewN nq=w1 at *;clear hfq;rw[HSE.o];go_wp2_with fail
           go_roundg (n - (k+1))
           case measure=>omega
           case rel=>exact⟨k+1,by omega,by rw[HNX.o,HEB.o];simp,by go_num,HF2.o⟩
          ·have HEB:Hid (rE c=[c]):=lh (by rw[rE,if_neg (by simp[h34,h92]),if_neg h8,if_neg h9,if_neg h10,if_neg h12,if_neg h13,if_neg h32]);have d8:decide ((c.toNat:Int) < 32)=false:=dF (by omega)
           clear h34 h92 h8 h9 h10 h12 h13;have ha:=fun W=>uB O [c] (by simp only[LN];omega) W;go_wp2_with fail
           go_roundg (n - (k+1))
           case measure=>omega
           case rel=>exact⟨k+1,by omega,by rw[HNX.o,HEB.o],by go_num,HF.o⟩
  ·have hkn':¬ k < s.size:=by rw[HN.o];exact hkn
   have hte:l.take k=l:=List.take_of_length_le (by rw[HLN.o];omega);have hol:O=34 :: l.flatMap rE:=by rw[<- HO.o,hte]
   have HOL:=lh hol;have ha:=fun W=>uB O [34] (by simp only[LN];omega) W;clear hte hol;go_wp2_with fail;exact HQ.o _ _ ⟨by rw[HOL.o];unfold oK;simp,HF.o⟩
end
end Go.Proofs.YtbggkiebfflcdaaGreatDoor
