/-
  Joined: Jd Je Jf Jg Sl Jh Ji Jj Jk Str Jl Jp Jq Jr
-/
import Derived.BigRegion
import Derived.Lib.SlBytesConst
import Derived.Laws.BytesArg
import Derived.Test.YtebjhcjbfaaejaaGreatDoorJct1
set_option maxRecDepth 100000
set_option maxHeartbeats 32000000
open Go.Value renaming int->ii,slice->si,string->sj,pointer->pi,tuple->tl,bool->ij,agg->il
open Go.IntKind renaming i64->ip,u32->iq,u8->ix,wrap->Wi
open Go.Obj renaming cells->iy
open Go.Ending renaming returned->iz
open Or renaming inl->Ii,inr->Ij
open List renaming length->li,replicate->ji,map_cons->xJ,length_nil->qP,eq_nil_of_length_eq_zero->eT,take_length->aAZ,singleton_append->aHa
open UInt8 renaming ofNat->Ot
open Option renaming map_eq_some_iff->mI
open Go renaming info_parts->oJ,yieldsIf_load_mid->eY
open Go.Proofs.Tryz renaming ntmps70->aDf,underlying114->aGZ
namespace Go.Proofs.YtebjhcjbfaaejaaGreatDoor
open Go.Proofs.Tryz
variable {k i m:Nat}{w' W:World}{l:List UInt8}{u:Value}{L N:List Nat}{F:List Value}{H:List (List UInt8)}{D:DM}{α:Type}
section
open Go.RowKit
structure tL (w:World) (gl off:Nat) (gs:List Nat) (L:List (List UInt8)):Prop where
 len:gs.length=L.length
 row:∀(j:Nat) (g:Nat),gs[j]? = some g->w.cell? ⟨gl,off+j,none⟩=some (zU g)
 sec:∀(j:Nat) (g:Nat) (s:List UInt8),gs[j]? = some g->L[j]? = some s->fK w g s
theorem tL.fr{S:List Nat}{w w':World}{gl off:Nat}{gs:List Nat}{L:List (List UInt8)}(h:tL w gl off gs L)(b:Fr S w w')(h1:gl∉S)(h2:∀g∈gs,g∉S):tL w' gl off gs L:=⟨h.len,λd g c=>by have:=h.row d g c;rw[b.cell (xF w _ this) h1];exact this,λd g f c i=>(h.sec d g f c i).fr b (h2 g (kF c))⟩
theorem tL.drop{w:World}{gl off:Nat}{gs:List Nat}{L:List (List UInt8)}(h:tL w gl off gs L)(k:Nat):tL w gl (off+k) (gs.drop k) (L.drop k):=⟨by simp[h.len],λf c b=>by rw[zK]at b;rw[yP];exact h.row _ c b,λf c g b d=>by rw[zK]at b d;exact h.sec _ c g b d⟩
theorem tL.at_{w:World}{gl off:Nat}{gs:List Nat}{L:List (List UInt8)}(h:tL w gl off gs L){j:Nat}(b:j<li L):∃g s,L[j]? = some s/\w.cell? ⟨gl,off+j,none⟩=some (zU g)/\fK w g s:=by
 have c:j<li gs:=by rw[h.len];exact b
 exact⟨gs[j],L[j],kE b,h.row j _ (kE c),h.sec j _ _ (kE c) (kE b)⟩
theorem uW{st:pC}{T:List (List UInt8)}{k:Nat}{s:List UInt8}(c:T[k]? = some s)(h:∀q,mB s=some q->¬ (q.st=st/\q.place=k/\(k+1<st.count->li q.b=48))):zC st k (T.drop k)=none:=by
 have d:k<li T:=(uC.1 c).1;rw[xM d];rw[kE d]at c;simp only[yG]at c;rw[c];unfold zC;cases d:mB s with
 | none=>rfl
 | some q=>simp only[eA (h q d)]
theorem aIX{st:pC}{T:List (List UInt8)}{k:Nat}{s:List UInt8}{q:Pc}(c:T[k]? = some s)(g:mB s=some q)(h:q.st=st/\q.place=k/\(k+1<st.count->li q.b=48)): zC st k (T.drop k)=(zC st (k+1) (T.drop (k+1))).map (q.b++·):=by
 have d:k<li T:=(uC.1 c).1;rw[xM d];rw[kE d]at c;simp only[yG]at c;rw[c];conv=>lhs;unfold zC
 rw[g];simp only[iA h]
def gG:Array Value:=#[.int .u32 0,.int .u32 0,.int .i64 0]
def aDM (st:pC):Value:=.agg #[.int .u32 (st.session:Int),.int .u32 (st.number:Int),.int .i64 (st.count:Int)]
def uV (w:World) (L:List (List UInt8)) (e:Ending) (w':World):Prop:=
 match jB L with
 | none=>e=.returned (.tuple #[.agg gG,.slice none 0 0,.bool false])/\Fr [] w w'
 | some (st,b)=>∃v g,e=.returned (.tuple #[aDM st,v,.bool true])/\dA w' v b g/\w.heap.size<=g/\Fr [] w w'
theorem wX{L:List (List UInt8)}{s:List UInt8}(h0:L[0]? = some s)(h:∀p,mB s=some p->p.st.count<1∨li L<p.st.count):jB L=none:=by
 cases L with
 | nil=>cases h0
 | cons c L=>
  simp only[zP,yG]at h0;subst h0;cases b:mB c with
  | none=>simp only[jB,b]
  | some p=>simp only[jB,b,iA (h p b)]
theorem aFz{L:List (List UInt8)}{s:List UInt8}{p:Pc}(h0:L[0]? = some s)(c:mB s=some p)(h1:1<=p.st.count)(h2:p.st.count<=li L):jB L=(zC p.st 0 (L.take p.st.count)).map λb=>(p.st,b):=by
 cases L with
 | nil=>cases h0
 | cons b L=>simp only[zP,yG]at h0;subst h0;simp only[jB,c,eA (show ¬ (p.st.count<1∨li (b::L)<p.st.count) by omega)]
def aHG (g:Nat) (p:Pc):List Value:=[.int .u32 (p.st.session:Int),.int .u32 (p.st.number:Int),.int .i64 (p.st.count:Int),.int .i64 (p.place:Int),.slice (some ⟨g,16,none⟩) p.b.length 48]
def aLC (w w1:World) (g0:Nat) (p:Pc) (L:List (List UInt8)) (out i:Value) (wr:World):Prop:=
 ∃(k:Nat) (acc:List UInt8),k<=p.st.count/\i=.int .i64 k/\acc.length<=48*k/\wr.ownsRow 0 5 1 out acc.length (gA acc)/\(∀x,out.ownBlock=some x->w.heap.size<=x) /\
  zC p.st 0 (L.take p.st.count)=(zC p.st k ((L.take p.st.count).drop k)).map (acc++·)/\Blk wr w.heap.size 164 [.int .u32 0,.int .u32 0,.int .i64 0]/\Blk wr w1.heap.size 203 (aHG g0 p)/\Fr [] w wr
theorem vW{s:List UInt8}{q:Pc}(h:mB s=some q):li q.b<=48:=by
 unfold mB at h;split at h;·rename_i c;cases h;show((s.drop 16).take _).length<=48;rw[pB];omega
 cases h
theorem aLD{w:World}{g:Nat}{s:List UInt8}{q:Pc}(h:mB s=some q)(k:fK w g s):∀(j:Nat) (u:Value),(gA q.b)[j]? = some u->w.cell? (Addr.add ⟨g,16,none⟩ j)=some u:=by
 intro j u c;unfold mB at h;split at h;·cases h;rw[sH]at c;obtain⟨d,f,rfl⟩:=mI.1 c;rw[Go.Addr.add_mid];exact bS k 16 _ j d f
 cases h
theorem aBu{w w':World}{L:List (List UInt8)}{p:Pc}{k:Nat}(h1:jB L=(zC p.st 0 (L.take p.st.count)).map λb=>(p.st,b))(h2:zC p.st 0 (L.take p.st.count)=(zC p.st k ((L.take p.st.count).drop k)).map (l++·))(h3:zC p.st k ((L.take p.st.count).drop k)=none)(c:Fr [] w w'): uV w L (iz (tl #[il gG,si none 0 0,ij false])) w':=by unfold uV;rw[h1,h2,h3];exact⟨rfl,c⟩
theorem jM{w:World}{v:Value}{bs:List UInt8}{b:Nat}(h:w.ownsRow 0 5 1 v (li bs) (gA bs))(j:∀x,v.ownBlock=some x->b<=x):∃g,dA w v bs g/\b<=g:=by
 obtain⟨l,m,rfl,n,_⟩:=jA h;obtain⟨c,f⟩|⟨g,o,p,i,_,q,r,s,t,u⟩:=h.2;·injection c with c k d;subst c d;have:bs=[]:=eT f;subst this;exact⟨b,dA.nil _ _,tA _⟩
 injection i with c k d;subst c d;exact⟨g,dA.of_own h,j g rfl⟩
theorem aSM{w w':World}{L:List (List UInt8)}{p:Pc}{k:Nat}{v:Value}(h1:jB L=(zC p.st 0 (L.take p.st.count)).map λb=>(p.st,b))(h2:zC p.st 0 (L.take p.st.count)=(zC p.st k ((L.take p.st.count).drop k)).map (l++·))(h:k=p.st.count)(q:p.st.count<=li L) (c:∀x,v.ownBlock=some x->w<=x)(j:w'.ownsRow 0 5 1 v (li l) (gA l))(m:Fr [] w w'):uV w L (iz (tl #[aDM p.st,v,ij true])) w':=by
 have e:(L.take p.st.count).drop k=[]:=List.drop_eq_nil_of_le (by rw[pB];omega);have b:jB L=some (p.st,l):=by rw[h1,h2,e];simp[zC]
 obtain⟨d,f,g⟩:=jM j c;unfold uV;rw[b];exact⟨v,d,rfl,f,g,m⟩
theorem aOy{w w1 wr:World}{g0:Nat}{p q:Pc}{L:List (List UInt8)}{A:Option Addr}{f k:Nat}(h:li l<=48*k)(g:∀x,(si A (li l) f).ownBlock=some x->w<=x)(i:Fr [] w wr)(c:Fr [] wr w') (j:Blk wr w 164 [ii iq 0,ii iq 0,ii ip 0])(m:Blk wr w1 203 (aHG g0 p))(d:wr.ownsRow 0 5 1 (si A (li l) f) (li l) (gA l)) (n:zC p.st 0 (L.take p.st.count)=(zC p.st k ((L.take p.st.count).drop k)).map (l++·))(r:zC p.st k ((L.take p.st.count).drop k)=(zC p.st (k+1) ((L.take p.st.count).drop (k+1))).map (q.b++·))(s:q.b=[])(t:k+1<=p.st.count)(X:Obj): aLC w w1 g0 p L (si A (li l) f) (ii ip ((k:Int)+1)) (w'.alloc X):=by refine⟨k+1,l,t,rfl,by omega,fB d (c.alloc _) (by simp),g,?_,(j.fr c).alloc _,(m.fr c).alloc _,(i.trans c).alloc _⟩;rw[n,r,s];simp
theorem aIY{w w1 wr:World}{g0:Nat}{p q:Pc}{L:List (List UInt8)}{A:Option Addr}{f k g cap:Nat}(s:li l<=48*k)(m:∀x,(si A (li l) f).ownBlock=some x->w<=x)(t:Fr [] w wr)(c:Fr [] wr w') (u:Blk wr w 164 [ii iq 0,ii iq 0,ii ip 0])(v:Blk wr w1 203 (aHG g0 p))(d:wr.ownsRow 0 5 1 (si A (li l) f) (li l) (gA l)) (C:zC p.st 0 (L.take p.st.count)=(zC p.st k ((L.take p.st.count).drop k)).map (l++·))(D:zC p.st k ((L.take p.st.count).drop k)=(zC p.st (k+1) ((L.take p.st.count).drop (k+1))).map (q.b++·))(E:li q.b<=48)(F:k+1<=p.st.count)(X:Obj) (j:W.ownsRow 0 5 1 (si g (li l+li q.b) cap) (li l+li q.b) (gA l++gA q.b))(i:(w'.alloc X).grownBy W (si A (li l) f).ownBlock)(r:(si A (li l) f).ownBlock=some g∨g=w'.heap.size+1): aLC w w1 g0 p L (si g (li l+li q.b) cap) (ii ip ((k:Int)+1)) W:=by
 have n:=t.size;have o:=c.size;have y:(w'.alloc X).heap.size=w'.heap.size+1:=by simp
 have h:w<=g:=by
  obtain f|f:=r;·exact m g f
  omega
 refine⟨k+1,l++q.b,F,rfl,by rw[iB];omega,by rw[iB,fD];exact j,by simpa[Value.ownBlock]using h,?_,((u.fr c).alloc _).grown i (λe=>tY d u (by decide) e.symm),((v.fr c).alloc _).grown i (λe=>tY d v (by decide) e.symm),((t.trans c).alloc _).grown i (λf h=>Ij (m f h))⟩;rw[C,D];simp[Option.map_map,Function.comp_def]
theorem Z3{P:Prop} (h:P:=by
 have d0:=hbF.a 0;have d1:=hbF.a 1;have d2:=hbF.a 2;clear hbF
 revert hfF d0 d1 d2
 generalize (World.alloc (World.setCell (World.setCell (World.setCell w2 _ _) _ _) _ _) _)=wf;intro hfF d0 d1 d2;refine qD (v:=.tuple #[.agg gG,.slice none 0 0,.bool false]) (by simp[results,Go.Proofs.Tryz.results81,go_sem,gG,d0,d1,d2]) rfl ?_;exact aBu HCOL.o HC.o (HNO.o) hfF.out):P:=h
theorem Z61{P:Prop} (h:P:=by
 go_wp2_with (refine Go.wpList_append_lies _ rfl (.tmp 89) (.tmp 91) 67 rfl 0 5 iu (.int .u8 0) 1 1 Go.Proofs.Tryz.underlying67 HI.o HZ.o HSZ.o HBY.o rfl (by omega) (.slice A acc.length co) acc.length (gA acc) rfl (fB HOWN.o (HF2.o.alloc _) (by simp)) ⟨gk,16,none⟩ q.b.length 48 (gA q.b) rfl (by rw[nA,Nat.mul_one]) (HNW.o _) (mD _) hz (by have:=HACC.o;unfold maxLen;omega) (by have:=HACC.o;omega) (uB _) _ rfl ?_)
 intro g cap w3 hown3 hg3 hat3 hlt3;have HO3:=lh hown3;have HG3:=lh hg3;have HAT3:=lh hat3;clear hown3 hg3 hat3
 go_wp2
 go_roundw
 case rel=>
  have hst:=aIY (w1:=w1) (g0:=g0) HACC.o HGE.o HF.o HF2.o HR.o HP.o HOWN.o HC.o HY.o hql (by omega) _ HO3.o HG3.o HAT3.o
  repeat apply Exists.intro
  refine⟨hst,?_⟩;simp only[HD2.o,Bool.or_false]
  repeat' (first | rfl | apply And.intro)
 case measure=>simp[intOf];omega):P:=h
theorem aDN{w:World}{gl off c:Nat}{gs:List Nat}{L:List (List UInt8)}{A:Option Addr}(h:tL w gl off gs L)(d:0<li L->A=some ⟨gl,off,none⟩)(i:li L<=c)(u:li L<=65536): Calls prog 81 #[si A (li L) c] w (uV w L):=by
 by_cases f:li L=0;·have e:L=[]:=eT f;subst e;clear d h i u;go_enter func81,ntmps81;go_wp2;refine qD (v:=tl #[il gG,si none 0 0,ij false]) (by simp[results,go_sem,gG]) rfl ?_;exact⟨rfl,(jj [] w).alloc _⟩
 obtain rfl:=d (by omega);obtain⟨g0,l,f,d,i⟩:=h.at_ (j:=0) (by omega);rw[gV]at d;have⟨HS,T,H⟩:=hh3 h i f;clear h i f;have U:=xF w _ d;unfold zU at d;go_enter func81,ntmps81;go_wp2_with fail;refine(aBt (T.o.fr ((jj [] w).alloc _))).mono ?_;rintro e w1 ⟨rfl,f⟩;have d:Blk w1 w.heap.size 164 [ii iq 0,ii iq 0,ii ip 0]:=(jl w _ _).fr f;have E:=d.a 0;have F:=d.a 1;have G:=d.a 2;have M:=d.free;have s:=d.lt;have i:Fr [] w w1:=((jj [] w).alloc _).trans f;have⟨I,J⟩:=hh2 i d;clear i d f;unfold aDJ;cases k:mB l with
 | none=>simp only[aS];go_wp2;have hbF:=(((J.o.set_ 0 (ii iq 0)).set_ 1 (ii iq 0)).set_ 2 (ii ip 0)).alloc (iy #[ii iq 0,ii iq 0,ii ip 0,ii ip 0,si none 0 0] 203);have hfF:=lh ((((I.o.setCell (p:=⟨w.heap.size,0,none⟩) (Ij (tA _)) (ii iq 0)).setCell (p:=⟨w.heap.size,1,none⟩) (Ij (tA _)) (ii iq 0)).setCell (p:=⟨w.heap.size,2,none⟩) (Ij (tA _)) (ii ip 0)).alloc (iy #[ii iq 0,ii iq 0,ii ip 0,ii ip 0,si none 0 0] 203));have d0:=hbF.a 0;have d1:=hbF.a 1;have d2:=hbF.a 2;clear hbF;revert hfF d0 d1 d2;generalize (World.alloc (World.setCell (World.setCell (World.setCell w1 _ _) _ _) _ _) _)=wf;intro hfF d0 d1 d2;refine qD (v:=tl #[il gG,si none 0 0,ij false]) (by simp[results,go_sem,gG,d0,d1,d2]) rfl ?_;unfold uV;rw[wX H.o (λp h=>by rw[k]at h;cases h)];exact⟨rfl,hfF.out⟩
 | some p=>
  simp only[aDI];by_cases i:p.st.count<1∨li L<p.st.count
  ·have f:∀q,mB l=some q->q.st.count<1∨li L<q.st.count:=λq h=>(by rw[k]at h;cases h;exact i);have m:=lh f;clear f;by_cases l:p.st.count<1
   case' pos=>clear i
   case' neg=>have f:li L<p.st.count:=(by omega);clear i
   all_goals go_wp2;have hbF:=(((J.o.set_ 0 (ii iq 0)).set_ 1 (ii iq 0)).set_ 2 (ii ip 0)).alloc (iy #[ii iq (p.st.session:Int),ii iq (p.st.number:Int),ii ip (p.st.count:Int),ii ip (p.place:Int),si (some ⟨g0,16,none⟩) (li p.b) 48] 203);have hfF:=lh ((((I.o.setCell (p:=⟨w.heap.size,0,none⟩) (Ij (tA _)) (ii iq 0)).setCell (p:=⟨w.heap.size,1,none⟩) (Ij (tA _)) (ii iq 0)).setCell (p:=⟨w.heap.size,2,none⟩) (Ij (tA _)) (ii ip 0)).alloc (iy #[ii iq (p.st.session:Int),ii iq (p.st.number:Int),ii ip (p.st.count:Int),ii ip (p.place:Int),si (some ⟨g0,16,none⟩) (li p.b) 48] 203));have d0:=hbF.a 0;have d1:=hbF.a 1;have d2:=hbF.a 2;clear hbF;revert hfF d0 d1 d2;generalize (World.alloc (World.setCell (World.setCell (World.setCell w1 _ _) _ _) _ _) _)=wf;intro hfF d0 d1 d2;refine qD (v:=tl #[il gG,si none 0 0,ij false]) (by simp[results,go_sem,gG,d0,d1,d2]) rfl ?_;unfold uV;rw[wX H.o (m.o)];exact⟨rfl,hfF.out⟩
  have l:1<=p.st.count:=(by omega);have f:p.st.count<=li L:=(by omega);have m:(p.st.count:Int)<=(li L:Int):=(by omega);clear i;have HCOL:=lh (aFz H.o k l f);have i:decide ((p.st.count:Int)<1)=false:=(by simp;omega);have k:decide (li L<p.st.count)=false:=(by simp;omega);have⟨b8,HD2⟩:=hh2 i k;clear i k;go_wp2;go_loopw [8,48] (aLC w w1 g0 p L) (λ_ i _=>p.st.count-(intOf i).toNat);·refine⟨0,[],uB _,rfl,by simp,gD _ _ _ _,by simp[Value.ownBlock],by simp,J.o.alloc _,jl _ _ _,I.o.alloc _⟩
  have N:=lh f;clear f m;obtain⟨f,acc,a1,rfl,k,l,m,n,d,i,r⟩:=hrel;have V:=i.a 0;have W:=i.a 1;have X:=i.a 2;have⟨HACC,HOWN,HGE,HC,HR,HP,HF⟩:=hh7 k l m n d i r;clear k l m n d i r;obtain⟨A,co,rfl,S,_⟩:=jA HOWN.o;obtain⟨iu,d,hz,i,k⟩:=oJ nT;have⟨HI,HZ,HSZ,HBY⟩:=hh4 d hz i k;clear d hz i k;by_cases B:f<p.st.count
  ·obtain⟨gk,l,d,k,i⟩:=(HS.o.fr HF.o (by simp) (by simp)).at_ (j:=f) (by have:=N.o;omega);have⟨a',t⟩:=hh2 d i;clear d i;unfold zU at k;go_wp2_with fail;refine(aBt t.o).mono ?_;rintro e w2 ⟨rfl,d⟩;have Y:=(HP.o.fr d).a 0;have Z:=(HP.o.fr d).a 1;have R:=(HP.o.fr d).a 2;have a0:=(HP.o.fr d).lt;have E:=(HR.o.fr d).a 0;have F:=(HR.o.fr d).a 1;have G:=(HR.o.fr d).a 2;have M:=(HR.o.fr d).free;have s:=(HR.o.fr d).lt;have HF2:=lh d;clear d;have k:=lh (show(L.take p.st.count)[f]? = some l by rw[uH,iA B];exact a'.o);unfold aDJ;cases i:mB l with
   | none=>have HNO:=lh (uW (st:=p.st) k.o (λs d=>by rw[i]at d;cases d));simp only[aS];go_wp2;have hbF:=((((HR.o.fr HF2.o).set_ 0 (ii iq 0)).set_ 1 (ii iq 0)).set_ 2 (ii ip 0)).alloc (iy #[ii iq 0,ii iq 0,ii ip 0,ii ip 0,si none 0 0] 203);have hfF:=lh (((((HF.o.trans HF2.o).setCell (p:=⟨w.heap.size,0,none⟩) (Ij (tA _)) (ii iq 0)).setCell (p:=⟨w.heap.size,1,none⟩) (Ij (tA _)) (ii iq 0)).setCell (p:=⟨w.heap.size,2,none⟩) (Ij (tA _)) (ii ip 0)).alloc (iy #[ii iq 0,ii iq 0,ii ip 0,ii ip 0,si none 0 0] 203));exact Z3
   | some q=>
    simp only[aDI];have hql:=vW i;have HNW:=lh (λl=>aLD i ((t.o.fr HF2.o).fr ((jj [] w2).alloc l)));by_cases x:q.st.session=p.st.session
    ·by_cases y:q.st.number=p.st.number
     ·by_cases z:q.st.count=p.st.count
      ·have m:q.st=p.st:=by
        cases l:q.st;cases n:p.st;rw[l,n]at x y z;simp only at x y z;rw[x,y,z]
       by_cases C:q.place=f
       ·by_cases O:f+1<p.st.count
        ·have Q:(f:Int)+1<(p.st.count:Int):=(by omega);by_cases D:li q.b=48
         ·have l:((li q.b:Int)!=48)=false:=(by rw[bne_eq_false_iff_eq];omega);have HY:=lh (aIX (st:=p.st) k.o i ⟨m,C,λ_=>D⟩);have hz:0<li q.b:=(by omega);clear D m;exact Z61
         have l:((li q.b:Int)!=48)=true:=(by rw[nJ];omega);have HNO:=lh (uW (st:=p.st) k.o (λs d=>by rw[i]at d;cases d;rintro⟨l,n,r⟩;exact D (r O)));clear m;go_wp2;have hbF:=((((HR.o.fr HF2.o).set_ 0 (ii iq 0)).set_ 1 (ii iq 0)).set_ 2 (ii ip 0)).alloc (iy #[ii iq (p.st.session:Int),ii iq (p.st.number:Int),ii ip (p.st.count:Int),ii ip (f:Int),si (some ⟨gk,16,none⟩) (li q.b) 48] 203);have hfF:=lh (((((HF.o.trans HF2.o).setCell (p:=⟨w.heap.size,0,none⟩) (Ij (tA _)) (ii iq 0)).setCell (p:=⟨w.heap.size,1,none⟩) (Ij (tA _)) (ii iq 0)).setCell (p:=⟨w.heap.size,2,none⟩) (Ij (tA _)) (ii ip 0)).alloc (iy #[ii iq (p.st.session:Int),ii iq (p.st.number:Int),ii ip (p.st.count:Int),ii ip (f:Int),si (some ⟨gk,16,none⟩) (li q.b) 48] 203));exact Z3
        have Q:¬ (f:Int)+1<(p.st.count:Int):=(by omega);have HY:=lh (aIX (st:=p.st) k.o i ⟨m,C,λh=>absurd h O⟩);clear m;obtain hz|hz:=iT (li q.b)
        ·go_wp2_with (refine eQ rfl (.tmp 89) (.tmp 91) 67 67 rfl 5 5 Go.Proofs.Tryz.underlying67 Go.Proofs.Tryz.underlying67 (by kernel_rfl) A (some ⟨gk,16,none⟩) (li acc) co 48 rfl rfl S ?_);go_wp2;go_roundw
         case rel=>
          have m:q.b=[]:=eT hz;have hst:=aOy (w1:=w1) (g0:=g0) HACC.o HGE.o HF.o HF2.o HR.o HP.o HOWN.o HC.o HY.o m (by omega);repeat apply Exists.intro
          refine⟨hst _,?_⟩;repeat' (first|rfl|apply And.intro)
         case measure=>simp[intOf];omega
        exact Z61
       have HNO:=lh (uW (st:=p.st) k.o (λs d=>by rw[i]at d;cases d;rintro⟨l,n,r⟩;exact C n));go_wp2;have hbF:=((((HR.o.fr HF2.o).set_ 0 (ii iq 0)).set_ 1 (ii iq 0)).set_ 2 (ii ip 0)).alloc (iy #[ii iq (p.st.session:Int),ii iq (p.st.number:Int),ii ip (p.st.count:Int),ii ip (q.place:Int),si (some ⟨gk,16,none⟩) (li q.b) 48] 203);have hfF:=lh (((((HF.o.trans HF2.o).setCell (p:=⟨w.heap.size,0,none⟩) (Ij (tA _)) (ii iq 0)).setCell (p:=⟨w.heap.size,1,none⟩) (Ij (tA _)) (ii iq 0)).setCell (p:=⟨w.heap.size,2,none⟩) (Ij (tA _)) (ii ip 0)).alloc (iy #[ii iq (p.st.session:Int),ii iq (p.st.number:Int),ii ip (p.st.count:Int),ii ip (q.place:Int),si (some ⟨gk,16,none⟩) (li q.b) 48] 203));exact Z3
      have HNO:=lh (uW (st:=p.st) k.o (λs d=>by rw[i]at d;cases d;rintro⟨l,n,r⟩;exact z (by rw[l])));go_wp2;have hbF:=((((HR.o.fr HF2.o).set_ 0 (ii iq 0)).set_ 1 (ii iq 0)).set_ 2 (ii ip 0)).alloc (iy #[ii iq (p.st.session:Int),ii iq (p.st.number:Int),ii ip (q.st.count:Int),ii ip (q.place:Int),si (some ⟨gk,16,none⟩) (li q.b) 48] 203);have hfF:=lh (((((HF.o.trans HF2.o).setCell (p:=⟨w.heap.size,0,none⟩) (Ij (tA _)) (ii iq 0)).setCell (p:=⟨w.heap.size,1,none⟩) (Ij (tA _)) (ii iq 0)).setCell (p:=⟨w.heap.size,2,none⟩) (Ij (tA _)) (ii ip 0)).alloc (iy #[ii iq (p.st.session:Int),ii iq (p.st.number:Int),ii ip (q.st.count:Int),ii ip (q.place:Int),si (some ⟨gk,16,none⟩) (li q.b) 48] 203));exact Z3
     have HNO:=lh (uW (st:=p.st) k.o (λs d=>by rw[i]at d;cases d;rintro⟨l,n,r⟩;exact y (by rw[l])));go_wp2;have hbF:=((((HR.o.fr HF2.o).set_ 0 (ii iq 0)).set_ 1 (ii iq 0)).set_ 2 (ii ip 0)).alloc (iy #[ii iq (p.st.session:Int),ii iq (q.st.number:Int),ii ip (q.st.count:Int),ii ip (q.place:Int),si (some ⟨gk,16,none⟩) (li q.b) 48] 203);have hfF:=lh (((((HF.o.trans HF2.o).setCell (p:=⟨w.heap.size,0,none⟩) (Ij (tA _)) (ii iq 0)).setCell (p:=⟨w.heap.size,1,none⟩) (Ij (tA _)) (ii iq 0)).setCell (p:=⟨w.heap.size,2,none⟩) (Ij (tA _)) (ii ip 0)).alloc (iy #[ii iq (p.st.session:Int),ii iq (q.st.number:Int),ii ip (q.st.count:Int),ii ip (q.place:Int),si (some ⟨gk,16,none⟩) (li q.b) 48] 203));exact Z3
    have HNO:=lh (uW (st:=p.st) k.o (λs d=>by rw[i]at d;cases d;rintro⟨l,n,r⟩;exact x (by rw[l])));go_wp2;have hbF:=((((HR.o.fr HF2.o).set_ 0 (ii iq 0)).set_ 1 (ii iq 0)).set_ 2 (ii ip 0)).alloc (iy #[ii iq (q.st.session:Int),ii iq (q.st.number:Int),ii ip (q.st.count:Int),ii ip (q.place:Int),si (some ⟨gk,16,none⟩) (li q.b) 48] 203);have hfF:=lh (((((HF.o.trans HF2.o).setCell (p:=⟨w.heap.size,0,none⟩) (Ij (tA _)) (ii iq 0)).setCell (p:=⟨w.heap.size,1,none⟩) (Ij (tA _)) (ii iq 0)).setCell (p:=⟨w.heap.size,2,none⟩) (Ij (tA _)) (ii ip 0)).alloc (iy #[ii iq (q.st.session:Int),ii iq (q.st.number:Int),ii ip (q.st.count:Int),ii ip (q.place:Int),si (some ⟨gk,16,none⟩) (li q.b) 48] 203));exact Z3
  have d:f=p.st.count:=(by omega);have E:=HR.o.a 0;have F:=HR.o.a 1;have G:=HR.o.a 2;have M:=HR.o.free;clear B;have i:=lh d;have B:¬ (f:Int)<(p.st.count:Int):=(by omega);clear d;go_wp2;have hbF:=((HR.o.set_ 0 (ii iq (p.st.session:Int))).set_ 1 (ii iq (p.st.number:Int))).set_ 2 (ii ip (p.st.count:Int));have hfF:=lh (((HF.o.setCell (p:=⟨w.heap.size,0,none⟩) (Ij (tA _)) (ii iq (p.st.session:Int))).setCell (p:=⟨w.heap.size,1,none⟩) (Ij (tA _)) (ii iq (p.st.number:Int))).setCell (p:=⟨w.heap.size,2,none⟩) (Ij (tA _)) (ii ip (p.st.count:Int)));have d:=lh (fB HOWN.o ((((jj [w.heap.size] wr).setCell (p:=⟨w.heap.size,0,none⟩) (Ii (by simp)) (ii iq (p.st.session:Int))).setCell (p:=⟨w.heap.size,1,none⟩) (Ii (by simp)) (ii iq (p.st.number:Int))).setCell (p:=⟨w.heap.size,2,none⟩) (Ii (by simp)) (ii ip (p.st.count:Int))) (λg f u=>tY HOWN.o HR.o (by decide) (by simp only[xA]at u;rw[<- u];exact f)));have d0:=hbF.a 0;have d1:=hbF.a 1;have d2:=hbF.a 2;clear hbF;revert hfF d d0 d1 d2;generalize (World.setCell (World.setCell (World.setCell wr _ _) _ _) _ _)=wf;intro hfF d d0 d1 d2;refine qD (v:=tl #[aDM p.st,si A (li acc) co,ij true]) (by simp[results,go_sem,aDM,d0,d1,d2]) rfl ?_;exact aSM HCOL.o HC.o i.o N.o HGE.o d.out hfF.out
def DM.part (D:DM) (f n:Nat):List (List UInt8):=(List.range n).map fun k=>D.look (f+k)
theorem DM.part_len(D:DM)(f n:Nat):li (D.part f n)=n:=by simp[DM.part]
theorem DM.part_succ(D:DM)(f n:Nat):D.part f (n+1)=D.part f n++[D.look (f+n)]:=by simp[DM.part,List.range_succ]
def xD (d f n at_ num ses:Nat) (br:Bool):List Value:=[.pointer (some ⟨d,0,none⟩),.int .i64 (f:Int),.int .i64 (n:Int),.int .i64 (at_:Int),.int .u32 (num:Int),.int .u32 (ses:Int),.bool br]
theorem aDO(b:Array Value)(w:World):(callFunc 113 b).run prog w=.ok (.enter 113 b) w:=by kernel_rfl
theorem aIZ:(prog.info? 201).map (λb=>(b.zero,b.size,b.bytes))=some (some (si none 0 0),1,24):=by kernel_rfl
def aNf (w:World) (D:DM) (f n:Nat) (out i:Value) (wr:World):Prop:=
 ∃(k:Nat) (gs:List Nat),k<=n/\i=.int .i64 k/\gs.length=k/\wr.ownsRow 0 201 1 out k (gs.map zU)/\(∀x,out.ownBlock=some x->w.heap.size<=x)/\(∀g∈gs,w.heap.size<=g) /\
  (∀(j g:Nat) (s:List UInt8),gs[j]? = some g->(D.part f k)[j]? = some s->fK wr g s)/\Fr [] w wr
theorem aOz{w wr w1:World}{D:DM}{f n k g cap b:Nat}{A:Option Addr}{gs:List Nat}(z:D.ok)(I:f+n<=li D.S)(B:k<n)(q:li gs=k)(r:wr.ownsRow 0 201 1 (si A k b) k (gs.map zU))(t:∀x,(si A k b).ownBlock=some x->w<=x)(C:∀g∈gs,w<=g) (u:∀(j g:Nat) (s:List UInt8),gs[j]? = some g->(D.part f k)[j]? = some s->fK wr g s)(H:Fr [] w wr)(d:Fr [] wr w1)(l:Blk w1 g 5 (gA (D.look (f+k))))(L:wr<=g){X:Obj} (E:w'.ownsRow 0 201 1 (si i (k+1) cap) (k+1) (gs.map zU++[zU g]))(p:(w1.alloc X).grownBy w' (si A k b).ownBlock)(F:(si A k b).ownBlock=some i∨i=w1.heap.size+1): aNf w D f n (si i (k+1) cap) (ii ip ((k:Int)+1)) w':=by
 have y:=H.size;have G:=d.size;have v:=fB r d (by simp);have b:w<=i:=by
  obtain c|c:=F;·exact t i c
  omega
 refine⟨k+1,gs++[g],B,rfl,by simp[q],by simpa using E,by simpa[Value.ownBlock]using b,?_,?_,((H.trans d).alloc _).grown p (λb h=>Ij (t b h))⟩
 ·intro x b;obtain c|c:=sD.1 b
  ·exact C x c
  simp only[xA]at c;omega
 intro j x s b h;rw[DM.part_succ]at h;obtain o|o:=iR j k;·rw[yK (by omega)]at b;rw[yK (by rw[DM.part_len];exact o)]at h;have m:=(u j x s b h).fr d;exact⟨(m.1.alloc _).grown p (λe=>tY v m.1 (by decide) e.symm),m.2⟩
 rw[mJ (by omega)]at b;rw[mJ (by rw[DM.part_len];exact o),DM.part_len]at h;rw[q]at b;have m:j-k=0:=by
  obtain c|c:=iT (j-k);·exact c
  rw[gT (by simp;omega)]at b;cases b
 rw[m]at b h;simp only[zP,yG]at b h;subst b h;exact⟨(l.alloc _).grown p (λe=>tY v l (by decide) e.symm),DM.look_len z (by omega)⟩
theorem aQr{w wr:World}{D:DM}{f n d:Nat}{A:Option Addr}{gs:List Nat}(i:li gs=n)(b:wr.ownsRow 0 201 1 (si A n d) n (gs.map zU))(m:∀x,(si A n d).ownBlock=some x->w<=x)(r:∀g∈gs,w<=g) (k:∀(j g:Nat) (s:List UInt8),gs[j]? = some g->(D.part f n)[j]? = some s->fK wr g s)(p:Fr [] w wr): ∃A' c gl gs',iz (tl #[si A n d,ii ip 0])=iz (tl #[si A' n c,ii ip 0])/\n<=c/\(0<n->A'=some ⟨gl,0,none⟩)/\tL wr gl 0 gs' (D.part f n)/\w<=gl/\(∀g∈gs',w<=g)/\Fr [] w wr:=by
 obtain⟨_,_,h,l,_⟩:=jA b;injection h with _ _ h;subst h;obtain h|h:=iT n;·subst h;have:gs=[]:=eT i;subst this;exact⟨A,d,w,[],rfl,l,λo=>absurd o (by omega),⟨by simp[DM.part],by simp,by simp⟩,tA _,by simp,p⟩
 obtain⟨gl,o,q⟩:=tD b h;subst o;refine⟨_,d,gl,gs,rfl,l,λ_=>rfl,⟨by rw[DM.part_len,i],λj g d=>?_,k⟩,m gl rfl,r,p⟩;rw[nB];exact q j _ (by rw[wI,d];rfl)
theorem aSN{w:World}{lg d f n at_ num ses:Nat}{br:Bool}{D:DM}(b:Blk w lg 158 (xD d f n at_ num ses br))(i:wF w d D L)(y:D.dead=false)(X:f+n<=li D.S)(Y:li D.S<=65536): Calls prog 79 #[pi (some ⟨lg,0,none⟩)] w λe h=>∃A c gl gs,e=iz (tl #[si A n c,ii ip 0])/\n<=c/\(0<n->A=some ⟨gl,0,none⟩)/\tL h gl 0 gs (D.part f n)/\w.heap.size<=gl/\(∀g∈gs,w.heap.size<=g)/\Fr [] w h:=by
 have Q:=b.a 2;have⟨HB,HD,F⟩:=hh3 b i y;clear b i y;go_enter func79,ntmps79;go_wp2;go_loopw [4,12] (aNf w D f n) (λ_ b _=>n-(intOf b).toNat);·exact⟨0,[],uB _,rfl,rfl,gD _ _ _ _,by simp[Value.ownBlock],by simp,by simp,jj _ _⟩
 obtain⟨b,gs,U,rfl,i,h,j,k,p,q⟩:=hrel;obtain⟨A,C,rfl,V,_⟩:=jA h;have⟨I,m,J,M,z,H⟩:=hh6 i h j k p q;clear i h j k p q;by_cases G:b<n
 ·have T:Wi ip ((f:Int)+(b:Int))=(f:Int)+(b:Int):=ak;have h:=(HB.o.fr H.o).a 0;have i:=(HB.o.fr H.o).a 1;have k:=lh (HD.o.fr H.o);go_wp2_with fail;refine aj (λj=>j.cell? ⟨lg,0,none⟩=some (pi (some ⟨d,0,none⟩))/\j.cell? ⟨lg,1,none⟩=some (ii ip (f:Int))) [0,1,2,3,4,5,6,7,8,9,11,12,13,14,15] ?_;refine ae 0 ⟨h,i⟩ ?_;refine ae 1 ⟨h,i⟩ ?_;refine ae 2 ⟨h,i⟩ ?_;refine ae 3 ⟨h,i⟩ ?_;refine ae 4 ⟨h,i⟩ ?_;refine ae 5 ⟨h,i⟩ ?_;refine ae 6 ⟨h,i⟩ ?_;refine ae 7 ⟨h,i⟩ ?_;refine ae 8 ⟨h,i⟩ ?_;refine ae 9 ⟨h,i⟩ ?_;refine ag 10 λK hK=>kA (l:=[.tmp 19,.tmp 25]) rfl [pi (some ⟨d,0,none⟩),ii ip ((f:Int)+(b:Int))] rfl (aDO _) ((aNc (k.out.fr ((jj [] wr).drew)) ((f:Int)+(b:Int))).mono ?_);rintro e p ⟨W,g,rfl,E,v,x,B,_⟩;have q:D.readE ((f:Int)+(b:Int))=0:=by
   unfold DM.readE;rw[F.o,eA (by simp),eA (by omega)]
  have u:D.read ((f:Int)+(b:Int))=D.look (f+b):=(by unfold DM.read;rw[iA q,show((f:Int)+(b:Int)).toNat=f+b by omega]);obtain⟨rfl,t⟩:=B q;rw[u]at t;have r:Fr [] wr p:=(jj [] wr).drew.trans x;have s:=HB.o.fr (H.o.trans r);have j:p.cell? ⟨lg,0,none⟩=some (pi (some ⟨d,0,none⟩)):=s.at_ rfl;have k:p.cell? ⟨lg,1,none⟩=some (ii ip (f:Int)):=s.at_ rfl;rw[q];refine⟨_,rfl,hK _ _ (λ_=>⟨j,k⟩) ?_⟩;simp only[nrm];refine ae 11 ⟨j,k⟩ ?_;refine ae 12 ⟨j,k⟩ ?_;refine ae 13 ⟨j,k⟩ ?_;refine ae 14 ⟨j,k⟩ ?_;refine ae 15 ⟨j,k⟩ ?_;refine wd ?_ _;have⟨N,O,a4⟩:=hh3 t r (show wr.heap.size<=g from v);clear t r x s E B v hK q u h i j k;obtain⟨q,h,i,j,k⟩:=oJ aIZ;have⟨a5,a6,a7,a8⟩:=hh4 h i j k;clear h i j k;go_wp2_with (refine Go.wpList_append_lies _ rfl (.tmp 32) (.tmp 34) 159 rfl 0 201 q (si none 0 0) 1 24 underlying159 a5.o a6.o a7.o a8.o rfl (by omega) (si A b C) b (gs.map zU) rfl ?own ⟨p.heap.size,0,none⟩ 1 1 [zU g] rfl rfl ?news ?one (by omega) (by unfold maxLen;omega) (by omega) (uB _) _ rfl ?_)
  case own=>exact fB m.o (O.o.alloc _) (by simp)
  case one=>intro i h;simp at h;subst h;rfl
  case news=>intro k i h;rw[Go.Addr.add_mid,nB];exact(jl p 201 [zU g]).at_ h
  intro p q r h i j s;have⟨a9,a',P⟩:=hh3 h i j;clear h i j;go_wp2;go_roundw
  case rel=>exact aOz (wF.ok HD.o) (by omega) G I.o m.o J.o M.o z.o H.o O.o N.o a4.o a9.o a'.o P.o
  case measure=>simp[intOf];omega
 have h:b=n:=(by omega);subst h;go_wp2;go_ret2;exact aQr I.o m.o J.o M.o z.o H.o
def aK (a:Nat×Nat) (s:List UInt8):Nat×Nat:=match mB s with|some p=>(max a.1 p.st.session,max a.2 p.st.number)|none=>a
def bG (a:Nat×Nat) (L:List (List UInt8)):Nat×Nat:=L.foldl aK a
theorem aDP(L:List (List UInt8)):lC L=bG (0,0) L:=rfl
theorem qZ{a:Nat×Nat}{L:List (List UInt8)}{k:Nat}{s:List UInt8}(h:L[k]? = some s):bG a (L.take (k+1))=aK (bG a (L.take k)) s:=by have b:k<li L:=(uC.1 h).1;rw[jR b];rw[kE b]at h;simp only[yG]at h;rw[h];simp[bG]
def aUm (w:World) (lg d f n at_:Nat) (br:Bool) (a:Nat×Nat) (L:List (List UInt8)) (i:Value) (wr:World):Prop:=
 ∃k:Nat,k<=L.length/\i=.int .i64 k/\Blk wr lg 158 (xD d f n at_ (bG a (L.take k)).2 (bG a (L.take k)).1 br)/\Fr [lg] w wr
theorem aSO{w:World}{lg d f n at_:Nat}{br:Bool}{m:Nat×Nat}{q:Pc}(h:Blk w lg 158 (xD d f n at_ m.2 m.1 br)): Blk ((w.setCell ⟨lg,5,none⟩ (ii iq (if m.1<q.st.session then (q.st.session:Int) else (m.1:Int)))).setCell ⟨lg,4,none⟩ (ii iq (if m.2<q.st.number then (q.st.number:Int) else (m.2:Int)))) lg 158 (xD d f n at_ (max m.2 q.st.number) (max m.1 q.st.session) br):=by
 have b:(if m.1<q.st.session then (q.st.session:Int) else (m.1:Int))=((max m.1 q.st.session:Nat):Int):=by split<;>omega
 have c:(if m.2<q.st.number then (q.st.number:Int) else (m.2:Int))=((max m.2 q.st.number:Nat):Int):=by split<;>omega
 rw[b,c];exact(h.set_ 5 _).set_ 4 _
theorem aSP{w:World}{lg d f n at_:Nat}{br:Bool}{m:Nat×Nat}(h:Blk w lg 158 (xD d f n at_ m.2 m.1 br)): Blk ((w.setCell ⟨lg,5,none⟩ (ii iq (((m.1:Int)+1)%4294967296))).setCell ⟨lg,4,none⟩ (ii iq (((m.2:Int)+1)%4294967296))) lg 158 (xD d f n at_ ((m.2+1)%4294967296) ((m.1+1)%4294967296) br):=by
 have b:((m.1:Int)+1)%4294967296=(((m.1+1)%4294967296:Nat):Int):=by omega
 have c:((m.2:Int)+1)%4294967296=(((m.2+1)%4294967296:Nat):Int):=by omega
 rw[b,c];exact(h.set_ 5 _).set_ 4 _
theorem aLE{w:World}{lg d f n at_ gl c:Nat}{br:Bool}{a:Nat×Nat}{gs:List Nat}{L:List (List UInt8)}{A:Option Addr}(h:Blk w lg 158 (xD d f n at_ a.2 a.1 br))(Y:tL w gl 0 gs L)(s:0<li L->A=some ⟨gl,0,none⟩)(_:li L<=c)(E:li L<=65536)(N:gl≠lg): Calls prog 80 #[pi (some lg),si A (li L) c] w λe g=>e=iz (ij (decide ((bG a L).1<4294967295)))/\Blk g lg 158 (xD d f n at_ (((bG a L).2+1)%4294967296) (((bG a L).1+1)%4294967296) br)/\Fr [lg] w g:=by
 have l:=lh h;have i:=lh Y;go_enter func80,ntmps80;go_wp2;go_loopw [12] (aUm w lg d f n at_ br a L) (λg _=>li L-(intOf g).toNat);·exact⟨0,uB _,rfl,l.o,jj _ _⟩
 obtain⟨k,C,rfl,h,m⟩:=hrel;have g:=lh h;have h:=lh m;by_cases m:k<li L
 ·obtain rfl:=s (by omega);have t:∀s∈gs,s∉[lg]:=by
   intro s u s;simp only[xA]at s;subst s;obtain⟨j,s,rfl⟩:=List.getElem_of_mem u;have u:j<li L:=(by rw[<- i.o.len];exact s);have v:=(i.o.sec j _ _ (kE s) (kE u)).1;exact(v.ne_ l.o (by decide)) rfl
  obtain⟨y,z,s,l,u⟩:=(i.o.fr h.o (by simp[N]) t).at_ (j:=k) m;have⟨x,r⟩:=hh2 s u;unfold zU at l;rw[nB]at l;go_wp2_with fail;refine(aBt r.o).mono ?_;rintro e D ⟨rfl,s⟩;have l:=lh s;have i:=g.o.fr s;have s:=i.a 4;have t:=i.a 5;have v:=i.free;have B:=i.lt;have u:=lh i;unfold aDJ;cases i:mB z with
  | none=>simp only[aS];go_wp2;exact⟨⟨k+1,m,rfl,by rw[qZ x.o];unfold aK;rw[i];exact u.o.alloc _,(h.o.trans l.o).alloc _⟩,by simp[intOf];omega⟩
  | some q=>
   simp only[aDI];go_wp2;go_region;go_wp2;refine⟨⟨k+1,m,rfl,?_,?_⟩,by simp[intOf];omega⟩;·rw[qZ x.o];unfold aK;rw[i];have i:=(aSO (q:=q) u.o).alloc (iy #[ii iq (q.st.session:Int),ii iq (q.st.number:Int),q.st.count,q.place,si (some ⟨y,16,none⟩) (li q.b) 48] 203);first|exact i|exact i.drew
   first
    | exact(((h.o.trans l.o).setCell (p:=⟨lg,5,none⟩) (Ii (by simp)) _).setCell (p:=⟨lg,4,none⟩) (Ii (by simp)) _).alloc _
    | exact((((h.o.trans l.o).setCell (p:=⟨lg,5,none⟩) (Ii (by simp)) _).setCell (p:=⟨lg,4,none⟩) (Ii (by simp)) _).alloc _).drew
 have l:k=li L:=(by omega);have s:=g.o.a 4;have t:=g.o.a 5;have v:=g.o.free;rw[l,aAZ]at s t;have k:=lh l;go_wp2;go_ret;have l:Blk wr lg 158 (xD d f n at_ (bG a L).2 (bG a L).1 br):=(by have i:=g.o;rw[k.o,aAZ]at i;exact i);refine⟨?_,?_,?_⟩;·show iz (ij (decide (((bG a L).1:Int)<4294967295)))=_;rw[show decide (((bG a L).1:Int)<4294967295)=decide ((bG a L).1<4294967295) from decide_eq_decide.2 (by omega)]
 ·exact aSP l
 exact((h.o.setCell (p:=⟨lg,5,none⟩) (Ii (by simp)) _).setCell (p:=⟨lg,4,none⟩) (Ii (by simp)) _)
theorem vV(w:World)(n:Int)(h1:-9223372036854775808<=n)(h2:n<=9223372036854775807): Calls prog 91 #[n] w λe b=>e=iz (ii ip (aNd n))/\w=b:=by
 unfold aNd;by_cases b:n<=0;·rw[iA b];go_enter func91,ntmps91;go_wp2;go_ret;exact⟨rfl,rfl⟩
 rw[eA b];have b:Int.tdiv (n-1) 48=(n-1) / 48:=Int.tdiv_eq_ediv_of_nonneg (by omega);go_enter func91,ntmps91;go_wp2;go_ret;exact⟨rfl,rfl⟩
theorem aNg{w:World}{lg d f n at_ num ses:Nat}{br:Bool}(b:Blk w lg 158 (xD d f n at_ num ses br))(c:n<=65536)(g:at_<=n): Calls prog 92 #[pi lg] w λe h=>e=iz (ii ip ((n-at_:Nat):Int))/\∃m,h=w.drewN m:=by have h:=b.a 2;have i:=b.a 3;go_enter func92,ntmps92;go_wp2;go_quiet (fail);go_wp2;go_ret;refine⟨?_,_,rfl⟩;show iz (ii ip ((n:Int)-(at_:Int)))=_;rw[show(n:Int)-(at_:Int)=((n-at_:Nat):Int) by omega]
theorem aQs{w:World}{lg d f n at_ num ses:Nat}{br:Bool}(b:Blk w lg 158 (xD d f n at_ num ses br)): Calls prog 69 #[pi lg] w λe c=>e=iz (tl #[])/\Blk c lg 158 (xD d f n 0 num ses br)/\Fr [lg] w c:=by have c:=b.a 3;have g:=b.free;go_enter func69,ntmps69;go_wp2;go_end0;exact⟨rfl,b.set_ 3 _,(jj _ _).setCell (Ii (by simp)) _⟩
section
variable {P:Program}{o:Oper}{a:Act}{w:World}{K:Act->World->Prop}{Q:Exit->Act->World->Prop}
theorem lA{v:Value}(b:(execOp a.eval o).run P w=.ok (.value v) w)(h:K (a.put o.dst v) w):Oper.wp P o a w K Q:=by unfold Oper.wp;rw[b];exact h
theorem aLF(t:TypeId)(j:o.op=.alloc t)(z:Value)(zs:Array Value)(g:(P.info? t).map (·.zero)=some (some z))(d:z.cells=zs) (h:K (a.put o.dst (pi w)) (w.alloc (iy zs t))):Oper.wp P o a w K Q:=by
 subst d;cases b:P.info? t with
 | none=>simp[b]at g
 | some f=>
  have c:f.zero=some z:=by simpa[b]using g
  unfold Oper.wp;simp[execOp,j,Instr.alloc,zeroValue,typeInfo,b,c,newVar,newRow,Result.andThen];exact h
theorem gB(t:TypeId)(c:o.op=.alloc t)(z:Value)(zs:List Value)(d:(P.info? t).map (·.zero)=some (some z))(b:z.cells=zs.toArray) (h:∀w1,Blk w1 w t zs->Fr [] w w1->w1.heap.size=w.heap.size+1->K (a.put o.dst (pi w)) w1):Oper.wp P o a w K Q:=aLF t c z _ d b (h _ (jl w t zs) ((jj [] w).alloc _) (by simp))
theorem pA{g:Nat}{t':TypeId}(t:TypeId)(x y:Operand)(d:o.op=.store t x y)(cs:List Value) (i:a.eval x=pi g)(j:a.eval y=il cs.toArray)(c:Blk w g t' F) (hi:(P.info? t).map (·.size)=some (li cs))(k:li F=li cs)(h1:∀v∈cs,v.oneCell'=true) (h:∀w1,Blk w1 g t' cs->Fr [g] w w1->w1.heap.size=w.heap.size->K (a.put o.dst undef) w1):Oper.wp P o a w K Q:=by have b:=run_storeVar_row (P:=P) w g t' t F.toArray cs.toArray c (by simpa using hi) (by simpa using k) (all_oneCell_toArray h1);unfold Oper.wp;simp[execOp,d,i,j,Instr.storeAt,Instr.sureAddr,b,Result.andThen];exact h _ (c.row_ cs) ((jj [g] w).setRow (Ii (by simp)) _) (by simp[World.setRow])
theorem aDQ{t e:TypeId}{i:TypeInfo}{z:Value}(ht:P.underlying t=some (.slice e))(hi:P.info? e=some i)(m:i.zero=some z)(k:i.size=1)(h:z.cells.size=1)(v:Value)(p:v.cells=#[v]): (Instr.buildSlice t 1 #[(0,v)]).run P w=.ok (si w 1 1) (w.alloc (iy #[v] e)):=by
 obtain⟨b,c⟩:∃b,z.cells=#[b]:=by
  match hc:z.cells,h with
  | ⟨[b]⟩,_=>exact⟨b,rfl⟩
 simp[Instr.buildSlice,run_underlying ht,sizeOf,typeInfo,hi,k,zeroValue,m,newRow,c,Instr.fill,p,Array.range,Array.zipIdx];have d:∀(b:Nat) (_:b=1) (c:Fin b->Value),(Array.ofFn c).setIfInBounds 0 v=#[v]:=λb f c=>by
  subst f;apply Array.ext;·simp
  intro b f c;have:b=0:=(by simp at c;omega);subst this;simp
 exact congrArg (λb=>w.alloc (iy b e)) (d _ (by simp[k]) _)
theorem uJ{t e:TypeId}(x:Operand)(d:o.op=.buildSlice t 1 #[(0,x)]){i:TypeInfo}{z:Value}(ht:P.underlying t=some (.slice e))(hi:P.info? e=some i)(g:i.zero=some z)(j:i.size=1)(c:z.cells.size=1)(v:Value)(k:a.eval x=v)(l:v.cells=#[v])(H:Nat)(b:w=H) (h:∀w1,Blk w1 H e [v]->Fr [] w w1->w1=H+1->K (a.put o.dst (si H 1 1)) w1):Oper.wp P o a w K Q:=by subst b;have b:=aDQ (P:=P) (w:=w) ht hi g j c v l;refine tB (v:=si w 1 1) (w':=w.alloc (iy #[v] e)) ?_ (h _ (jl w e [v]) ((jj [] w).alloc _) (by simp));simp[execOp,d,k,b,Result.andThen]
theorem fC{t:TypeId}(s x:Operand)(E:o.op=.call { callee:=.builtin .append,args:=#[s,x],argTypes:=#[t,t] }) (e:TypeId){i:TypeInfo}{z:Value}(f C:Nat)(ht:P.underlying t=some (.slice e))(hi:P.info? e=some i)(F:i.zero=some z)(k:i.size=f)(q:i.bytes=C)(r:z.cells.size=f)(h0:0<f) (v:Value)(n:Nat)(y:List Value)(D:a.eval s=v)(p:w.ownsRow 0 e f v n y) (A:Addr)(m c:Nat)(b:List Value)(G:a.eval x=si A m c)(I:li b=m*f)(l:∀j u,b[j]? = some u->w.cell? (A.add j)=some u)(h1:∀u∈b,u.oneCell'=true) (L:0<m)(B:n+m<=maxLen)(d:(n+m)*C<=140737488355328)(H:Nat)(J:w=H) (h:∀g cap w',w'.ownsRow 0 e f (si g (n+m) cap) (n+m) (y++b)->Fr v.ownBlock.toList w w'->(v.ownBlock=some g∨g=H)->g<w'.heap.size->K (a.put o.dst (si g (n+m) cap)) w'):Oper.wp P o a w K Q:=by refine wp_append_lies _ s x t E 0 e i z f C ht hi F k q r h0 v n y D p A m c b G I l h1 L B d (uB _) H J ?_;intro g cap w' f C D G;exact h g cap w' f ((jj _ w).grown C (λg f=>Ii (by simp[f]))) D G
theorem gH{t:TypeId}{x:Operand}{lo hi:Option Operand}(i:o.op=.slice t x lo hi none){v:Value}{b c:Option Value}(j:a.eval x=u)(d:lo.map a.eval=b)(g:hi.map a.eval=c) (h:(Instr.sliceAt t u b c none).run P w=.ok v w):(execOp a.eval o).run P w=.ok (.value v) w:=by subst j d g;simp[execOp,i,h,Result.andThen]
theorem aOA{t e:TypeId}(ht:P.underlying t=some (.slice e))(k:(P.info? e).map (·.size)=some 1)(A:Option Addr)(n c lo hi:Nat)(l m:IntKind)(h1:lo<=hi)(h2:hi<=c): ∀w,(Instr.sliceAt t (si A n c) (some (ii l lo)) (some (ii m hi)) none).run P w=.ok (si (if c=lo then A else A.map (·.add lo)) (hi-lo) (c-lo)) w:=by
 intro w;have b:P.elem t=e:=by simp[Program.elem,ht]
 obtain⟨i,f,g⟩:=mI.1 k;have d:∀w,(sizeOf e).run P w=.ok 1 w:=λw=>by simp[sizeOf,typeInfo,go_sem,f,g]
 rw[Go.run_sliceAt_slice (h:=by rw[b];exact ht),run_slice_lh (ht:=by rw[b];exact ht) (h0:=by omega) (h1:=by omega) (h2:=by omega),b,d];simp[Result.andThen,sliced]
theorem xH{t e:TypeId}(ht:P.underlying t=some (.slice e))(k:(P.info? e).map (·.size)=some 1)(A:Option Addr)(n c lo:Nat)(l:IntKind)(h1:lo<=n): ∀w,(Instr.sliceAt t (si A n c) (some (ii l lo)) none none).run P w=.ok (si (if c=lo then A else A.map (·.add lo)) (n-lo) (c-lo)) w:=by
 intro w;have b:P.elem t=e:=by simp[Program.elem,ht]
 obtain⟨i,f,g⟩:=mI.1 k;have d:∀w,(sizeOf e).run P w=.ok 1 w:=λw=>by simp[sizeOf,typeInfo,go_sem,f,g]
 rw[Go.run_sliceAt_slice (h:=by rw[b];exact ht),run_slice_l (ht:=by rw[b];exact ht) (h0:=by omega) (h1:=by omega),b,d];simp[Result.andThen,sliced]
theorem Z36{P:Prop} (h:P:=by
 rw[Go.run_sliceAt_slice (h:=by rw[hel];exact ht),run_slice_h (ht:=by rw[hel];exact ht) (h0:=by omega) (h2:=by omega),hel,h5];have e0:A.map (fun x=>x.add 0)=A:=by cases A <;> simp[Addr.add]
 simp[Result.andThen,sliced,e0]):P:=h
theorem aHH{t e:TypeId}(ht:P.underlying t=some (.slice e))(g:(P.info? e).map (·.size)=some 1)(A:Option Addr)(n c hi:Nat)(j:IntKind)(h1:hi<=c): ∀w,(Instr.sliceAt t (si A n c) none (some (ii j hi)) none).run P w=.ok (si A hi c) w:=by
 intro w;have hel:P.elem t=e:=by simp[Program.elem,ht]
 obtain⟨f,b,d⟩:=mI.1 g;have h5:∀w,(sizeOf e).run P w=.ok 1 w:=λw=>by simp[sizeOf,typeInfo,go_sem,b,d]
 exact Z36
end
theorem aUn(l:List α)(lo m:Nat)(b:lo+m<=li l):li ((l.drop lo).take m)=m:=by rw[pB,vB];omega
theorem dA.sub{w:World}{A:Option Addr}{n c g:Nat}{bs:List UInt8}(h:dA w (si A n c) bs g)(lo m:Nat)(k:lo+m<=li bs): dA w (si (if c=lo then A else A.map (·.add lo)) m (c-lo)) ((bs.drop lo).take m) g:=by
 obtain⟨j,l,f,b,o,d⟩:=h;injection b with b p i;subst b i;have b:=aUn bs lo m k;refine⟨_,_,f+lo,by rw[b],by rw[b];omega,λf=>?_⟩;rw[b]at f;obtain⟨rfl,f⟩:=d (by omega);rw[eA (by omega)];refine⟨by simp[Go.Addr.add_mid],λd i b=>?_⟩;rw[yP];refine f _ i ?_;rw[vN,dK,uH]at b;split at b;·rw[zK]at b;exact b
 cases b
theorem dA.from_{w:World}{A:Option Addr}{n c g:Nat}{bs:List UInt8}(h:dA w (si A n c) bs g)(lo:Nat)(b:lo<=li bs): dA w (si (if c=lo then A else A.map (·.add lo)) (li bs-lo) (c-lo)) (bs.drop lo) g:=by have:=h.sub lo (li bs-lo) (by omega);rwa [zF (by simp)]at this
theorem dA.len{w:World}{A:Option Addr}{n c g:Nat}{bs:List UInt8}(h:dA w (si A n c) bs g):n=li bs/\li bs<=c:=by obtain⟨j,k,l,b,d,m⟩:=h;injection b with b f i;subst b i;exact⟨f,d⟩
section
variable {P:Program}{ops:Array Oper}{Q:Exit->Act->World->Prop}
theorem rn{rest:List Oper}{d:Oper}{v:Value}{a:Act}{w:World}(b:d.guard=none)(c:(execOp a.eval d).run P w=.ok (.value v) w)(h:wpList P ops Q rest (a.put d.dst v) w):wpList P ops Q (d::rest) a w:=wpList_plain b λ_ hK=>lA (v:=v) c (hK _ _ h)
theorem ab{rest:List Oper}{f:Oper}{v:Value}{a b:Act}{w:World}(h:wpList P ops Q rest b w)(c:f.guard=none:=by exact rfl)(d:(execOp a.eval f).run P w=.ok (.value v) w:=by go_simp<;>with_reducible rfl)(g:a.put f.dst v=b:=by (try simp only[nrm])<;>exact rfl):wpList P ops Q (f::rest) a w:=by subst g;exact rn c d h
end
def aV (D:DM) (pos:Nat):List (List UInt8)->DM×Int
 | []=>(D.sync,D.syncE)
 | s::ss=>if D.writeE (pos:Int) s≠0 then (D.write (pos:Int) s,D.writeE (pos:Int) s) else aV (D.write (pos:Int) s) (pos+1) ss
def tC (ses num:Nat) (b:List UInt8):List (List UInt8):=(List.range (rA b.length)).map fun k=>aE (zE ses num b k)
theorem xE(ses num:Nat)(b:List UInt8):li (tC ses num b)=rA (li b):=by simp[tC]
theorem aHI(ses num:Nat)(b:List UInt8){k:Nat}(c:k<rA (li b)):(tC ses num b).drop k=aE (zE ses num b k)::(tC ses num b).drop (k+1):=by rw[xM (by rw[xE];exact c)];simp[tC]
theorem aFA(b:Array Value)(w:World):(callFunc 128 b).run prog w=.ok (.enter 128 b) w:=by kernel_rfl
theorem aFB(b:Array Value)(w:World):(callFunc 67 b).run prog w=.ok (.enter 67 b) w:=by kernel_rfl
def aUo (w:World) (d f at_ num ses:Nat) (b:List UInt8) (D:DM) (fp:List Nat) (i:Value) (wr:World):Prop:=
 ∃(k:Nat) (Dk:DM),k<=rA b.length/\i=.int .i64 k/\aV D (f+at_) (tC ses num b)=aV Dk (f+at_+k) ((tC ses num b).drop k)/\Dk.done<=D.done+k/\Dk.S.length=D.S.length/\eK w wr d Dk fp
theorem aNh{m k:Nat}(h:k<rA m):48*k<=m:=by unfold rA at h;split at h<;>omega
theorem wF.mem{w:World}{d:Nat}{D:DM}(h:wF w d D L):d∈L:=by obtain⟨b,c,rfl,_⟩:=h;simp[dfp]
theorem eK.comp{w w1:World}{d:Nat}(i:Fr L w w1)(j:∀k∈N,k∈L∨w<=k)(h2:eK w1 w' d D N):eK w w' d D L:=by
 obtain⟨b,c,f,g⟩:=h2;have h:=i.size;refine⟨b,c,i.trans f (λb c=>j b c),λb c=>?_⟩;obtain f|f:=g b c;·exact j b f
 right;omega
theorem wW{D:DM}{pos:Nat}{s:List UInt8}(h:D.writeE (pos:Int) s≠0):aV D pos (s::H)=(D.write (pos:Int) s,D.writeE (pos:Int) s):=by show(if _ then _ else _)=_;rw[iA h]
theorem rZ{D:DM}{pos:Nat}{s:List UInt8}(h:D.writeE (pos:Int) s=0):aV D pos (s::H)=aV (D.write (pos:Int) s) (pos+1) H:=by show(if _ then _ else _)=_;rw[eA (by simp[h])]
theorem yQ(D:DM)(k:Int)(b:List UInt8):(D.write k b).S=D.S:=by
 unfold DM.write;split;·rfl
 split;·rfl
 split<;>rfl
theorem qT(D:DM)(k:Int)(b:List UInt8):(D.write k b).done<=D.done+1:=by
 unfold DM.write;split;·omega
 split;·omega
 split;·show D.done<=_;omega
 exact tA _
theorem aUp{w:World}{lg d f n at_ num ses:Nat}{br:Bool}{v:Value}{b:List UInt8}{D:DM}(h:Blk w lg 158 (xD d f n at_ num ses br))(c:wF w d D L)(Q:lg∉L)(i:dA w v b m)(F:m∉L)(_:m<w.heap.size)(J:rA (li b)<=65535) (c3:at_+rA (li b)<=n)(c7:f+n<=li D.S)(X:num<4294967296)(a5:ses<4294967296)(c':D.done+65536<1099511627776): Calls prog 93 #[pi (some ⟨lg,0,none⟩),v,ii ip (rA (li b):Int)] w λe j=>e=iz (ii ip (aV D (f+at_) (tC ses num b)).2)/\eK w j d (aV D (f+at_) (tC ses num b)).1 L:=by
 have⟨HB,HD,HV⟩:=hh3 h c i;have a6:=(wF.ok c).most;clear h c i;obtain⟨q,r,b6,rfl,b7,c⟩:=HV.o;have a7:=lh c;clear c;go_enter func93,ntmps93;go_wp2;go_loopw [11] (aUo w d f at_ num ses b D L) (λc _=>rA (li b)-(intOf c).toNat);·exact⟨0,D,uB _,rfl,rfl,by omega,rfl,L,HD.o,jj _ _,λ_ j=>Ii j⟩
 obtain⟨c,s,b8,rfl,h,b9,a4,i⟩:=hrel;have⟨g,a9⟩:=hh2 h i;clear h i;by_cases Y:c<rA (li b)
 ·obtain⟨W,x,u,y⟩:=a9.o;have i:=HB.o.fr u Q;have a8:=i.lt;have Z:=i.a 0;have a':=i.a 1;have b0:=i.a 3;have A:=i.a 4;have B:=i.a 5;have⟨H,G,I,E⟩:=hh4 i x u y;clear i x u y;have k:li ((zE ses num b c).b)=min 48 (li b-48*c):=(by simp[zE]);have b1:48*c<=li b:=aNh Y;obtain⟨h,z⟩:=nm (li ((zE ses num b c).b));rw[<- z]at k;have V:=lh z;clear z;have b2:48*c+h<=li b/\h<=48:=(by omega);have b3:(if 48*((c:Int)+1)<(li b:Int) then 48*((c:Int)+1) else (li b:Int))=((48*c+h:Nat):Int):=(by split<;>omega);have R:=wi c (by omega);have a0:Wi ip (48*((c:Int)+1))=48*((c:Int)+1):=ak;have a1:Wi ip (48*(c:Int))=((48*c:Nat):Int):=ak;have z:=aOA (P:=prog) (t:=67) Go.Proofs.Tryz.underlying67 (by kernel_rfl) q (li b) r (48*c) (48*c+h) ip ip (by omega) (by omega);have C:=(HV.o.fr I.o F).sub (48*c) h (by omega);have F:(b.drop (48*c)).take h=(zE ses num b c).b:=by
   unfold zE;rw[k,<- vB,List.take_eq_take_min];simp
  rw[aDe]at z;rw[F]at C;generalize hsvv:(if r=48*c then q else q.map (·.add (48*c)))=q at *;generalize hcc:r-48*c=r at *;have⟨c4,c5,HQ⟩:=hh3 z C k;clear z C k F hsvv hcc;go_wp2_with fail;refine aj (λk=>k.cell? ⟨lg,5,none⟩=some (ii iq (ses:Int))/\k.cell? ⟨lg,4,none⟩=some (ii iq (num:Int))) [0,1,2,3,4,5,6,7,8,9,10,11,12,13,14,15,16,17,18,19,20,21] ?_;refine tks [0,1,2,3,4,5,6,7,8,9,10,11,12,13,14,15,16,17,18,19] ?_;iterate 20 (refine ac ⟨B,A⟩ ?_)
  refine tke ?_;refine tv 20 (si q h r) rfl rfl ⟨B,A⟩ (Ii ⟨rfl,λk _=>gH rfl rfl rfl rfl (c4.o k)⟩) ?_;simp only[nrm];refine tks [21] ?_;refine ac ⟨B,A⟩ ?_;refine tke ?_;refine ag 22 λK hK=>?_;refine gB 203 rfl (il aS) aS.toList (by kernel_rfl) rfl λc0 O F _=>hK _ _ (λ_=>⟨(H.o.fr (Fr.drew (jj [] wr) |>.trans F)).at_ rfl,(H.o.fr (Fr.drew (jj [] wr) |>.trans F)).at_ rfl⟩) ?_;simp only[nrm];refine ah 23 λK hK=>?_;refine pA 203 (.tmp 8) (.tmp 35) rfl (tK (zE ses num b c) (si q h r)) rfl rfl O (by kernel_rfl) rfl ?one λz T U _=>hK _ _ (λj=>absurd j (by decide +kernel)) ?_
  case one=>intro b' C;simp only[tK,bB,kC,dC]at C;rcases C with rfl|rfl|rfl|rfl|rfl<;>rfl
  simp only[Act.put];refine wd ?_ _;have N:Fr [] wr z:=((jj [] wr).drew.trans F).trans U (λc1 C=>Ij (by simp at C;rw[C];exact tA _));have M:Hid (Blk z wr.heap.size 203 (tK (zE ses num b c) (si q h r))):=lh T;have C:=lh N;clear T U N O F B A hK;have A:=H.o.fr C.o;have B:=A.a 0;have F:=A.a 1;have N:=A.a 3;clear A;go_wp2_with fail;have a2:Wi ip ((f:Int)+(at_:Int))=(f:Int)+(at_:Int):=ak;have a3:Wi ip ((f:Int)+(at_:Int)+(c:Int))=(f:Int)+(at_:Int)+(c:Int):=ak;refine aj (λk=>k.cell? ⟨lg,0,none⟩=some (pi (some ⟨d,0,none⟩))/\k.cell? ⟨lg,1,none⟩=some (ii ip (f:Int))/\k.cell? ⟨lg,3,none⟩=some (ii ip (at_:Int))/\Blk k wr.heap.size 203 (tK (zE ses num b c) (si q h r))) [0,1,2,3,4,5,6,7,8,9,10,11,12,13,14,15] ?_;refine tks [0,1,2,3,4,5,6,7,8,9,10,11,12,13,14] ?_;iterate 15 (refine ac ⟨B,F,N,M.o⟩ ?_)
  refine tke ?_;refine tv 15 (il (tK (zE ses num b c) (si q h r)).toArray) rfl rfl ⟨B,F,N,M.o⟩ (eY rfl 203 (.tmp 8) rfl wr.heap.size 0 rfl (tK (zE ses num b c) (si q h r)) _ (λk A c2 v O=>by rw[nB];exact A.2.2.2.at_ O) underlying203 rfl (by kernel_rfl)) ?_;simp only[nrm];refine ag 16 λK hK=>?_;have T:dA z.drew (si q h r) (zE ses num b c).b m:=c5.o.fr C.o.drew;refine kA (l:=[.tmp 51]) rfl [il (tK (zE ses num b c) (si q h r)).toArray] rfl (aFA _) ((aIW (p:=zE ses num b c) a5 X (by show rA (li b)<65536;omega) (by show c<65536;omega) (by rw[<- V.o];omega) T).mono ?_);rintro e r ⟨v6,h,rfl,X,V,O⟩;have q:Fr [] wr r:=C.o.drew.trans O;have k:=H.o.fr q;have A:=M.o.fr ((jj [] z).drew.trans O);refine⟨_,rfl,hK _ _ (λ_=>⟨k.at_ rfl,k.at_ rfl,k.at_ rfl,A⟩) ?_⟩;simp only[nrm];refine ag 17 λK hK=>?_;have U:=G.o.fr q;have a5:=G.o.lt d G.o.mem;have b4:=C.o.size;refine kA (l:=[.tmp 39,.tmp 50,.tmp 52]) rfl [pi (some ⟨d,0,none⟩),ii ip ((f:Int)+(at_:Int)+(c:Int)),v6] rfl (aFB _) ((aIR U _ _ _ _ X (by have:z.heap.size<=h:=V;omega) (by omega)).mono ?_);rintro e M ⟨rfl,h⟩;have C:Fr W r M:=(by obtain⟨_,_,j,_⟩:=h;exact j);have r:=k.fr C (λJ=>by obtain j|j:=E.o _ J;exact Q j;exact absurd HB.o.lt (by omega));have V:=A.fr C (λJ=>absurd (G.o.lt _ J) (by omega));refine⟨_,rfl,hK _ _ (λ_=>⟨r.at_ rfl,r.at_ rfl,r.at_ rfl,V⟩) ?_⟩;simp only[nrm];refine af 18 (λj=>absurd j (by decide +kernel)) ?_;refine wd ?_ _;rw[show(f:Int)+(at_:Int)+(c:Int)=((f+at_+c:Nat):Int) by omega]at h⊢;have j:eK w M d (s.write ((f+at_+c:Nat):Int) (aE (zE ses num b c))) L:=(by refine eK.comp (I.o.trans q) ?_ h;exact E.o);have J:=yQ s ((f+at_+c:Nat):Int) (aE (zE ses num b c));have b5:=qT s ((f+at_+c:Nat):Int) (aE (zE ses num b c));have⟨z,c6⟩:=hh2 j J;clear C r V h j J hK U X k A O q T B F N R a0 a1 a2 a3;rw[aHI ses num b Y]at g;by_cases j:s.writeE ((f+at_+c:Nat):Int) (aE (zE ses num b c))=0
  ·rw[j];rw[rZ j]at g;generalize s.write ((f+at_+c:Nat):Int) (aE (zE ses num b c))=k at *;clear j;go_wp2;go_roundw
   case rel=>exact⟨c+1,k,by omega,rfl,g.o,by omega,by rw[c6.o];exact a4,z.o⟩
   case measure=>simp[intOf];omega
  rw[wW j]at g;generalize s.writeE ((f+at_+c:Nat):Int) (aE (zE ses num b c))=q at *;generalize s.write ((f+at_+c:Nat):Int) (aE (zE ses num b c))=k at *;have k:(q !=0)=true:=(by rw[nJ];exact j);clear j;go_wp2;go_ret;rw[g.o];exact⟨rfl,z.o⟩
 have j:c=rA (li b):=(by omega);rw[j,sO (by rw[xE];exact tA _)]at g;obtain⟨W,x,u,y⟩:=a9.o;have i:=HB.o.fr u Q;have Z:=i.a 0;have⟨G,I,E,d9⟩:=hh4 x u y j;clear i x u y j;go_wp2_with fail;refine(aNb G.o (by omega)).mono ?_;rintro e M ⟨rfl,h⟩;have z:=lh h;clear h;go_wp2;go_ret;rw[g.o];exact⟨rfl,eK.comp I.o E.o z.o⟩
structure LG where
 f:Nat
 n:Nat
 at_:Nat
 num:Nat
 ses:Nat
 br:Bool
def LG.cells (l:LG) (d:Nat):List Value:=xD d l.f l.n l.at_ l.num l.ses l.br
def rD (D:DM) (l:LG) (b:List UInt8):Int:=
 if l.br then 10 else if 65535<rA b.length then 4 else if l.n-l.at_<rA b.length then 5 else (aV D (l.f+l.at_) (tC l.ses l.num b)).2
def kB (D:DM) (l:LG) (b:List UInt8):DM:=
 if l.br then D else if 65535<rA b.length then D else if l.n-l.at_<rA b.length then D else (aV D (l.f+l.at_) (tC l.ses l.num b)).1
def aD (D:DM) (l:LG) (b:List UInt8):LG:=
 if l.br then l else if 65535<rA b.length then l else if l.n-l.at_<rA b.length then l else
 if (aV D (l.f+l.at_) (tC l.ses l.num b)).2≠0 then { l with br:=true } else { l with at_:=l.at_+rA b.length,num:=(l.num+1)%4294967296 }
theorem aBv(n:Nat):aNd (n:Int)=(rA n:Int):=by
 unfold aNd rA;by_cases h:n=0;·subst h;rfl
 rw[eA (by omega),eA h];omega
structure Jn (w:World) (lg d:Nat) (l:LG) (D:DM) (fp:List Nat):Prop where
 log:Blk w lg 158 (l.cells d)
 disk:wF w d D fp
 apart:lg∉fp
 at_:l.at_<=l.n
 fit:l.f+l.n<=D.S.length
 num:l.num<4294967296
 ses:l.ses<4294967296
def sZ (w w':World) (lg d:Nat) (l:LG) (D:DM) (fp:List Nat):Prop:=∃fp',Jn w' lg d l D fp'/\Fr (lg::fp) w w'/\∀k∈fp',k∈fp∨w.heap.size<=k
theorem sZ.same{w:World}{lg d:Nat}{l:LG}{D:DM}(h:Jn w lg d l D L):sZ w w lg d l D L:=⟨L,h,jj _ _,λ_ b=>Ii b⟩
theorem Jn.fr{S:List Nat}{w w':World}{lg d:Nat}{l:LG}{D:DM}(h:Jn w lg d l D L)(b:Fr S w w')(h1:lg∉S)(h2:∀k∈L,k∉S):Jn w' lg d l D L:=⟨h.log.fr b h1,h.disk.fr b h2,h.apart,h.at_,h.fit,h.num,h.ses⟩
theorem aUq(b:List (List UInt8)):∀(D:DM) (pos:Nat),(aV D pos b).1.S.length=li D.S:=by
 induction b with
 | nil=>
  intro D pos;show li D.sync.S=_;unfold DM.sync;split;·rfl
  split;·rfl
  simp[uE]
 | cons c b d=>
  intro D pos;show(if _ then _ else _:DM×Int).1.S.length=_;split;·show(D.write (pos:Int) c).S.length=_;rw[yQ]
  rw[d,yQ]
theorem aOB(b:List (List UInt8)):∀(D:DM) (pos:Nat),(aV D pos b).1.done<=D.done+li b+1:=by
 induction b with
 | nil=>
  intro D pos;show D.sync.done<=_;unfold DM.sync;split;·omega
  split;·show D.done<=_;omega
  show D.done+1<=_;simp
 | cons c b d=>
  intro D pos;have f:=qT D (pos:Int) c;show(if _ then _ else _:DM×Int).1.done<=_;rw[bD];split;·show(D.write (pos:Int) c).done<=_;omega
  have:=d (D.write (pos:Int) c) (pos+1);omega
theorem aUr(w:World)(v:Value)(A:Option Addr)(n c:Nat)(b:v=si A n c)(d:n<=9223372036854775807): Calls prog 70 #[pi none,v] w λe f=>e=iz (ii ip 10)/\w=f:=by subst b;go_enter func70,aDf;go_wp2_with fail;refine(vV _ _ (by omega) (by omega)).mono ?_;rintro e f ⟨rfl,rfl⟩;go_wp2;go_ret;exact⟨rfl,rfl⟩
theorem aBw{w:World}{lg d:Nat}{l:LG}{D:DM}{v:Value}{b:List UInt8}(h:Jn w lg d l D L)(hv:dA w v b i)(a4:i∉L)(a5:i<w.heap.size)(a9:li b<=9223372036854775807)(I:D.done+65536<1099511627776): Calls prog 70 #[pi (some ⟨lg,0,none⟩),v] w λe w'=>e=iz (ii ip (rD D l b))/\sZ w w' lg d (aD D l b) (kB D l b) L:=by
 have H:=lh h;have C:=h.at_;have q:=h.fit;have a0:=(wF.ok h.disk).most;have l0:=h.log.a 0;have l6:=h.log.a 6;clear h;have HV:=lh hv;obtain⟨A,c,off,rfl,a8,a3⟩:=hv;clear a3;unfold rD aD kB;by_cases g:l.br=true;·rw[iA g,iA g,iA g];rw[g]at l6;clear g;go_enter func70,aDf;go_wp2_with fail;refine(vV _ _ (by omega) (by omega)).mono ?_;rintro e w1 ⟨rfl,rfl⟩;go_wp2;go_ret;exact⟨rfl,sZ.same H.o⟩
 have r:l.br=false:=by simpa using g
 rw[eA g,eA g,eA g];rw[r]at l6;have a6:=lh r;clear g r;by_cases h1:65535<rA (li b);·rw[iA h1,iA h1,iA h1];go_enter func70,aDf;go_wp2_with fail;refine(vV _ _ (by omega) (by omega)).mono ?_;rintro e w1 ⟨rfl,rfl⟩;rw[aBv];go_wp2;go_ret;exact⟨rfl,sZ.same H.o⟩
 rw[eA h1,eA h1,eA h1];by_cases h2:l.n-l.at_<rA (li b);·rw[iA h2,iA h2,iA h2];go_enter func70,aDf;go_wp2_with fail;refine(vV _ _ (by omega) (by omega)).mono ?_;rintro e w1 ⟨rfl,rfl⟩;rw[aBv];go_wp2_with fail;refine(aNg H.o.log (by omega) C).mono ?_;rintro e w1 ⟨rfl,m,rfl⟩;go_wp2;go_ret;exact⟨rfl,L,H.o.fr ((jj [] w).drewN m) (by simp) (by simp),(jj _ w).drewN m,λ_ hk=>Ii hk⟩
 rw[eA h2,eA h2,eA h2];obtain⟨W,M,hr⟩:∃W M,aV D (l.f+l.at_) (tC l.ses l.num b)=(W,M):=⟨_,_,rfl⟩;have Y:=aUq (tC l.ses l.num b) D (l.f+l.at_);rw[hr]at Y⊢;simp only at Y⊢;have HR:=lh hr;have HS:=lh Y;clear hr Y;go_enter func70,aDf;go_wp2_with fail;refine(vV _ _ (by omega) (by omega)).mono ?_;rintro e w1 ⟨rfl,rfl⟩;rw[aBv];go_wp2_with fail;refine(aNg H.o.log (by omega) C).mono ?_;rintro e w1 ⟨rfl,m,rfl⟩;go_wp2_with fail;have J:=H.o.fr ((jj [] w).drewN m) (by simp) (by simp);refine(aUp J.log J.disk J.apart (HV.o.fr ((jj [] w).drewN m)) a4 (by exact a5) (by omega) (by omega) q J.num J.ses I).mono ?_;rintro e u ⟨rfl,y,z,X,F⟩;rw[HR.o]at z⊢;simp only at z⊢;have s:Fr L w u:=((jj L w).drewN m).trans X (λx t=>Ii t);have p:=H.o.log.fr s H.o.apart;have b3:=p.a 3;have b4:=p.a 4;have b6:=p.a 6;have bf:=p.free;have N:lg∉y:=λB=>by
  obtain h|h:=F _ B;·exact H.o.apart h
  exact absurd H.o.log.lt (by simp only[World.drewN]at h;omega)
 have O:=lh p;have a1:=lh z;have a2:=lh s;have P:=lh F;have E:=lh N;clear p z X s F J N;have Q:∀G,Fr [lg] u G->Fr (lg::L) w G:=λG h3=>(a2.o.mono (λx t=>Ii (jD _ t))).trans h3 (λx t=>Ii (by simp at t;simp[t]));have T:∀G,Fr [lg] u G->wF G d W y:=λG h3=>a1.o.fr h3 (λk hk B=>by simp at B;subst B;exact E.o hk);have U:=lh Q;have V:=lh T;clear Q T;by_cases Z:M=0
 ·subst Z;go_wp2;go_ret;have j:Fr [lg] u ((u.setCell ⟨lg,3,none⟩ (ii ip ((l.at_:Int)+(rA (li b):Int)))).setCell ⟨lg,4,none⟩ (ii iq (((l.num:Int)+1)%4294967296))):=(((jj [lg] u).setCell (Ii (by simp)) _).setCell (Ii (by simp)) _);refine⟨rfl,y,⟨?_,V.o _ j,E.o,?_,?_,?_,H.o.ses⟩,U.o _ j,P.o⟩
  ·have t:=(O.o.set_ 3 (ii ip ((l.at_:Int)+(rA (li b):Int)))).set_ 4 (ii iq (((l.num:Int)+1)%4294967296));have e1:((l.num:Int)+1)%4294967296=(((l.num+1)%4294967296:Nat):Int):=(by omega);have M:(l.at_:Int)+(rA (li b):Int)=((l.at_+rA (li b):Nat):Int):=(by omega);rw[e1,M]at t⊢;exact t
  ·show l.at_+rA (li b)<=l.n;omega
  ·show l.f+l.n<=li W.S;rw[HS.o];exact q
  show(l.num+1)%4294967296<_;omega
 have a7:(M !=0)=true:=(by rw[nJ];exact Z);have HE:=lh Z;clear Z;go_wp2;go_ret;have j:Fr [lg] u (u.setCell ⟨lg,6,none⟩ (ij true)):=((jj [lg] u).setCell (Ii (by simp)) _);refine⟨rfl,y,⟨O.o.set_ 6 _,V.o _ j,E.o,C,?_,H.o.num,H.o.ses⟩,U.o _ j,P.o⟩;show l.f+l.n<=li W.S;rw[HS.o];exact q
theorem aLG{s:List UInt8}{p:Pc}(h:mB s=some p):p.st.session<4294967296/\p.st.number<4294967296/\p.st.count<65536/\p.place<65536/\li p.b<=48:=by
 have f:=vW h;unfold mB at h;split at h
 ·simp only[yG]at h;subst h;have d:∀c:List UInt8,li c<=2->nD c<65536:=λc g=>by
   have i:=aBs c;have j:256^li c<=256^2:=Nat.pow_le_pow_right (by omega) g;have c:256^2=65536:=(by decide);omega
  exact⟨aDE _ (by simp;omega),aDE _ (by simp;omega),d _ (by simp;omega),d _ (by simp;omega),f⟩
 cases h
theorem aCd{st:pC}:∀(L:List (List UInt8)) (k:Nat) (b:List UInt8),zC st k L=some b->li b<=48*li L
 | [],k,b,h=>by simp[zC]at h;subst h;simp
 | s::L,k,b,h=>by
  simp only[zC]at h;cases c:mB s with
  | none=>rw[c]at h;cases h
  | some i=>
   rw[c]at h;simp only at h;split at h;·obtain⟨d,f,rfl⟩:=mI.1 h;have g:=aCd L (k+1) d f;have d:=vW c;simp only[iB,bD];omega
   cases h
theorem nI{L:List (List UInt8)}{st:pC}{b:List UInt8}(h:jB L=some (st,b)):1<=st.count/\st.count<=li L/\st.session<4294967296/\st.number<4294967296/\li b<=48*st.count:=by
 cases L with
 | nil=>simp[jB]at h
 | cons f L=>
  simp only[jB]at h;cases c:mB f with
  | none=>rw[c]at h;cases h
  | some g=>
   rw[c]at h;simp only at h;split at h;·cases h
   rename_i k;obtain⟨j,i,d⟩:=mI.1 h;simp only[Prod.mk.injEq]at d;obtain⟨rfl,rfl⟩:=d;have d:=aLG c;have c:=aCd _ _ _ i;rw[pB]at c;refine⟨by omega,by omega,d.1,d.2.1,?_⟩;have:min g.st.count (li (f::L))<=g.st.count:=Nat.min_le_left _ _;omega
def fQ (last:Option pC) (st:pC):Bool:=match last with|none=>false|some l=>decide (st.number≠(l.number+1)%4294967296∨st.session<l.session)
theorem jI{k:Nat}{last:Option pC}{L:List (List UInt8)}(h:jB L=none):vA k last L=[]:=by
 cases k with
 | zero=>rfl
 | succ k=>simp only[vA,h]
theorem bN{k:Nat}{last:Option pC}{L:List (List UInt8)}{st:pC}{b:List UInt8}(h:jB L=some (st,b))(c:fQ last st=true):vA k last L=[]:=by
 cases k with
 | zero=>rfl
 | succ k=>simp only[vA,h];exact iA c
theorem nN{k:Nat}{last:Option pC}{L:List (List UInt8)}{st:pC}{b:List UInt8}(h:jB L=some (st,b))(c:fQ last st=false):vA (k+1) last L=(st,b)::vA k (some st) (L.drop st.count):=by simp only[vA,h];exact eA (λh=>absurd (c.symm.trans h) (by decide))
def fI (R:List (pC×List UInt8)):Option pC:=R.getLast?.map (·.1)
theorem yL(R:List (pC×List UInt8))(x:pC×List UInt8):fI (R++[x])=some x.1:=by simp[fI]
def dE (o:Option pC):List Value:=match o with|none=>[.int .u32 0,.int .u32 0,.int .i64 0] | some st=>[.int .u32 (st.session:Int),.int .u32 (st.number:Int),.int .i64 (st.count:Int)]
def mL (num0:Nat) (o:Option pC):Nat:=match o with|none=>num0|some st=>(st.number+1)%4294967296
structure RowsIn (w:World) (v:Value) (bss:List (List UInt8)) (vs:List Value) (b0:Nat):Prop where
 own:w.ownsRow 0 67 1 v bss.length vs
 len:vs.length=bss.length
 ge:∀x,v.ownBlock=some x->b0<=x
 row:∀(j:Nat) (u:Value) (bs:List UInt8),vs[j]? = some u->bss[j]? = some bs->∃g,dA w u bs g/\b0<=g/\g<w.heap.size/\v.ownBlock≠some g
 one:∀u∈vs,u.oneCell'=true
def aQt (w:World) (v:Value) (bss:List (List UInt8)) (b0:Nat):Prop:=∃vs,RowsIn w v bss vs b0
theorem RowsIn.fr{S:List Nat}{w w':World}{v:Value}(h:RowsIn w v H F k)(b:Fr S w w')(c:∀x∈S,x<k∨w<=x:=by simp):RowsIn w' v H F k:=⟨fB h.own b (λd g f=>by have:=h.ge d g;have:=aG h.own d g;have:=c d f;omega),h.len,h.ge,λm n o p q=>by obtain⟨d,g,i,j,l⟩:=h.row m n o p q;exact⟨d,g.fr b (λf=>by have:=c d f;omega),i,iL j b.size,l⟩,h.one⟩
theorem RowsIn.nil(w:World)(b:Nat):RowsIn w (si none 0 0) [] [] b:=⟨gD _ _ _ _,rfl,by simp[Value.ownBlock],by simp,by simp⟩
theorem RowsIn.mono{w:World}{v:Value}(h:RowsIn w v H F k)(c:i<=k):RowsIn w v H F i:=⟨h.own,h.len,λb d=>vD c (h.ge b d),λg j l m n=>by obtain⟨b,d,o,f⟩:=h.row g j l m n;exact⟨b,d,by omega,f⟩,h.one⟩
theorem dA.lt{w:World}{v:Value}{bs:List UInt8}{g:Nat}(h:dA w v bs g)(h0:k<=g)(h1:k<w):∃g',dA w v bs g'/\k<=g'/\g'<w:=by
 obtain⟨f,i,j,l,m,n⟩:=h;obtain d|d:=iT (li bs);·exact⟨k,⟨f,i,j,l,m,λh=>by omega⟩,tA _,h1⟩
 obtain⟨p,o⟩:=n d;obtain⟨b,c,rfl⟩:∃b c,bs=b::c:=by cases bs with|nil=>simp at d|cons b c=>exact⟨b,c,rfl⟩
 have c:=o 0 (B8 b) rfl;exact⟨g,⟨f,i,j,l,m,n⟩,h0,xF w _ c⟩
theorem RowsIn.push{w w7:World}{v:Value}{u:Value}{bs:List UInt8}{g g7 cap:Nat}(h:RowsIn w v H F k)(D:dA w u bs g)(E:k<=g)(l:g<w)(r:v.ownBlock≠some g)(h1:u.oneCell'=true) (f:w7.ownsRow 0 67 1 (si g7 (li H+1) cap) (li H+1) (F++[u]))(t:Fr v.ownBlock.toList w w7)(s:v.ownBlock=some g7∨g7=w)(A:k<=w): RowsIn w7 (si g7 (li H+1) cap) (H++[bs]) (F++[u]) k:=by
 have p:∀c,c<w.heap.size->v.ownBlock≠some c->(si g7 (li H+1) cap).ownBlock≠some c:=by
  intro c h1 d o;have n:g7=c:=by simpa[Value.ownBlock]using o
  obtain b|b:=s;·exact d (n▸b)
  omega
 refine⟨by rw[iB];exact f,by simp[h.len],?_,?_,?_⟩
 ·intro j d;have:g7=j:=by simpa[Value.ownBlock]using d
  obtain b|b:=s;·exact h.ge j (this▸b)
  omega
 ·intro m y z i f;obtain q|x:=iR m (li H)
  ·rw[yK (by rw[h.len];exact q)]at i;rw[yK q]at f;obtain⟨c,o,n,b,q⟩:=h.row m y z i f;exact⟨c,o.fr t (by simpa using q),n,iL b t.size,p c b q⟩
  rw[mJ (by rw[h.len];exact x)]at i;rw[mJ x]at f;have b:m-li H=0:=by
   obtain h|h:=iT (m-li H);·exact h
   rw[gT (by show 1<=_;omega)]at f;cases f
  rw[h.len,b]at i;rw[b]at f;simp only[zP,yG]at i f;subst i f;exact⟨g,D.fr t (by simpa using r),E,iL l t.size,p g l r⟩
 intro j d;obtain d|d:=sD.1 d;·exact h.one j d
 simp at d;subst d;exact h1
theorem tL.lt{w:World}{gl off:Nat}{gs:List Nat}{L:List (List UInt8)}(h:tL w gl off gs L):∀g∈gs,g<w:=by
 intro g d;obtain⟨b,c,rfl⟩:=List.getElem_of_mem d;have d:b<li L:=by rw[<- h.len];exact c
 exact(h.sec b _ _ (kE c) (kE d)).1.lt
theorem aDR:(prog.info? 67).map (λb=>(b.zero,b.size,b.bytes))=some (some (si none 0 0),1,24):=by kernel_rfl
def aDS (v:Value):Nat:=match v with | .slice _ n _=>n|_=>0
def aDT (w:World) (d f n num0 ses gp gl:Nat) (gs:List Nat) (L:List (List UInt8)) (out:Value) (wr:World):Prop:=
 ∃(R:List (pC×List UInt8)) (vs:List Value) (k at_:Nat),R.length<=at_/\at_<=n/\n<=at_+k/\vA n none L=R++vA k (fI R) (L.drop at_)/\at_=(R.map (·.1.count)).sum /\
  (∀x∈R,x.1.session<4294967296/\x.1.number<4294967296) /\
  RowsIn wr out (R.map (·.2)) vs (gp+1)/\Blk wr w.heap.size 158 (xD d f n at_ (mL num0 (fI R)) ses false)/\Blk wr gp 164 (dE (fI R))/\tL wr gl 0 gs L/\Fr [] w wr
theorem Z0{P:Prop} (h:P:=by
 simp only[nrm];refine ah 9 fun K hK=>?_;refine rB (w':=w8.drew.setCell ⟨w.heap.size,3,none⟩ (.int .i64 ((at_:Int)+(st.count:Int)))) (by go_simp) (hK _ _ (fun h=>absurd h (by decide +kernel)) ?_);simp only[Act.put];refine wd ?_ _
 have hb9:Blk (w8.drew.setCell ⟨w.heap.size,3,none⟩ (.int .i64 ((at_:Int)+(st.count:Int)))) w.heap.size 158 (xD d f n (at_+st.count) (mL num0 (fI R)) ses0 false):=by
  have h:=HB8.o.drew.set_ 3 (.int .i64 ((at_:Int)+(st.count:Int)));rw[show(at_:Int)+(st.count:Int)=((at_+st.count:Nat):Int) by omega] at h ⊢;exact h
 have hf9:Fr [w.heap.size] w8 (w8.drew.setCell ⟨w.heap.size,3,none⟩ (.int .i64 ((at_:Int)+(st.count:Int)))):=(Fr.refl [w.heap.size] w8).drew.setCell (.inl (by simp)) _;generalize (w8.drew.setCell ⟨w.heap.size,3,none⟩ (.int .i64 ((at_:Int)+(st.count:Int))))=w9 at *;clear l3 lf p0 p1 p2 wadd hK;have l4:=hb9.a 4;have lf:=hb9.free;have p1:=(HQ8.o.fr hf9 (by simp;omega)).a 1;have HB9:=lh hb9;have HF9:=lh hf9;clear hb9 hf9;have wadd:IntKind.u32.wrap ((st.number:Int)+1)=(((st.number+1) % 4294967296:Nat):Int):=by rw[Go.IntKind.wrap_u32];omega
 go_wp2
 have hfs:∀ w10,Fr [w.heap.size] w8 w10 -> Blk w10 w.heap.size 158 (xD d f n (at_+st.count) ((st.number+1) % 4294967296) ses0 false) ->
   aDT w d f n num0 ses0 w3.heap.size gl gs (D.part f n) (.slice (some ⟨g7,0,none⟩) (R.length+1) cap) w10:=by
  intro w10 hf10 hb10;refine⟨R ++ [(st,b)],vs ++ [v4],k - 1,at_+st.count,by simp;omega,by omega,by omega,?_,by simp[HSUM.o],?_,HR8.o.fr hf10 (fun x hx=>.inl (by simp at hx;omega)),?_,?_,?_,HFW8.o.trans hf10 (fun x hx=>.inr (by simp at hx;omega))⟩
  ·have hk1:k=(k - 1)+1:=by omega
   rw[HRECS.o,hk1,nN HRO.o HST.o,yL,List.drop_drop,<- hk1]
   simp
  ·intro x hx;rcases sD.1 hx with hx | hx
   ·exact HBD.o x hx
   ·simp at hx;subst hx;exact⟨q3,q4⟩
  ·rw[yL];exact hb10
  ·rw[yL];exact HL8.o.fr hf10 (by simp;omega)
  ·exact HS8.o.fr hf10 (by simp;have:=HGL.o;omega) (fun g hg hm=>by simp at hm;have:=HS3.o.lt g hg;have:=HGS.o g hg;omega)
 refine⟨hfs _ ?_ ?_,?_⟩
 ·first | exact HF9.o.setCell (.inl (by simp)) _ | exact(HF9.o.drew).setCell (.inl (by simp)) _ | exact(HF9.o.setCell (.inl (by simp)) _).drew
 ·first | exact HB9.o.set_ 4 _ | exact HB9.o.drew.set_ 4 _ | exact(HB9.o.set_ 4 _).drew
 ·simp only[aDS];omega):P:=h
theorem Z68{P:Prop} (h:P:=by
 have hr6:=HROWS.o.fr hF6';have hb6:dA w6 v4 b g4':=hb4';have:=hr6.push (g7:=g7) (cap:=cap) (w7:=w7) hb6 (by omega) (by omega) (fun hx=>by have:=hox g4' (by simp[hx]);omega) HV41.o (by rw[cH];exact ho7) hf7 (by rw[hz6];exact hat7) (by omega);rw[cH] at this;rw[tQ];exact this):P:=h
theorem Z89{P:Prop} (h:P:=by
 have h:(Value.slice oA R.length oc).ownBlock=some x:=by simpa using hx
 exact⟨HROWS.o.ge x h,aG HROWS.o.own x h⟩):P:=h
theorem aSQ{w:World}{d f n:Nat}{D:DM}(i:wF w d D N)(l:D.dead=false)(h1:1<=n)(r:f+n<=li D.S)(m:(lC (D.part f n)).1<4294967295): Calls prog 50 #[pi (some ⟨d,0,none⟩),ii ip (f:Int),ii ip (n:Int)] w λe w'=>∃out,e=iz (tl #[pi (some ⟨w.heap.size,0,none⟩),out,ii ip 0]) /\aQt w' out ((vA n none (D.part f n)).map (·.2)) (w.heap.size+1) /\Blk w' w.heap.size 158 (xD d f n ((vA n none (D.part f n)).map (·.1.count)).sum (mL (((lC (D.part f n)).2+1)%4294967296) (fI (vA n none (D.part f n)))) ((lC (D.part f n)).1+1) false)/\Fr [] w w':=by
 have p:=(wF.ok i).most;have⟨HD,a4,c9⟩:=hh3 i l m;clear i l m;have B:decide ((n:Int)<1)=false:=by simp;omega
 have C:decide ((f:Int)<0)=false:=by simp
 have E:decide (((li D.S:Nat):Int)<(n:Int))=false:=by simp;omega
 have F:decide (((li D.S:Nat):Int)-(n:Int)<(f:Int))=false:=by simp;omega
 go_enter func50,ntmps50;go_wp2_with fail;refine(aHE HD.o).mono ?_;rintro e i ⟨rfl,rfl⟩;rw[a4.o];go_wp2_with fail;refine(aHF HD.o).mono ?_;rintro e i ⟨rfl,rfl⟩;go_wp2_with fail;refine(aHF HD.o).mono ?_;rintro e i ⟨rfl,rfl⟩;go_wp2_with fail;have i:Fr [] w (w.alloc (iy (xD d f n 0 0 0 false).toArray 158)):=(jj [] w).alloc _;refine(aSN (lg:=w.heap.size) (at_:=0) (num:=0) (ses:=0) (br:=false) (jl w _ (xD d f n 0 0 0 false)) (HD.o.fr i) a4.o r p).mono ?_;rintro e d1 ⟨A,c,gl,gs,rfl,t,z,s,l,m,p⟩;have u:(w.alloc (iy (xD d f n 0 0 0 false).toArray 158)).heap.size=w.heap.size+1:=by simp
 rw[u]at l m;have r:=(jl w 158 (xD d f n 0 0 0 false)).fr p;have⟨d9,f5,f6,HGL,HGS⟩:=hh5 s (i.trans p) r l m;clear s p i r l m u;go_wp2_with fail;have i:=D.part_len f n;have l:=aLE (A:=A) (c:=c) (a:=(0,0)) f6.o d9.o (by rw[i];exact z) (by rw[i];exact t) (by rw[i];omega) (by have:=HGL.o;omega);rw[i]at l;refine l.mono ?_;clear l;rintro e w3 ⟨rfl,l,r⟩;rw[<- aDP]at l⊢;rw[show decide ((lC (D.part f n)).1<4294967295)=true from yJ c9.o];have s:Fr [] w w3:=f5.o.trans r (λx hx=>Ij (by simp at hx;omega));have m:=d9.o.fr r (by simp;have:=HGL.o;omega) (λg hg hm=>by simp at hm;have:=HGS.o g hg;omega);have t:((lC (D.part f n)).1+1)%4294967296=(lC (D.part f n)).1+1:=aL (by have:=c9.o;omega);rw[t]at l;have G:(lC (D.part f n)).2<4294967296∨True:=Ij trivial;have y:gl<w3.heap.size∨n=0:=by
  obtain p|p:=iT n;·exact Ij p
  obtain⟨g,d2,_,H,_⟩:=m.at_ (j:=0) (by rw[i];exact p);exact Ii (xF w3 _ H)
 have⟨f8,f9,HS3,h3,a0⟩:=hh5 l s m i y;clear l s r m t G f6 d9 f5 i y;generalize hnum0:((lC (D.part f n)).2+1)%4294967296=num0 at *;generalize hses0:(lC (D.part f n)).1+1=ses0 at *;have c2:=f9.o.size;have c3:=f8.o.lt;have⟨e5,e6⟩:=hh2 hnum0 hses0;clear hnum0 hses0 B C E F;go_wp2;go_loopw [12] (aDT w d f n num0 ses0 w3.heap.size gl gs (D.part f n)) (λout _=>n+1-aDS out);·have y:Fr [] w3 (w3.alloc (iy #[ii iq 0,ii iq 0,ii ip 0] 164)):=(jj [] w3).alloc _;exact⟨[],[],n,0,uB _,uB _,by omega,rfl,rfl,by simp,RowsIn.nil _ _,f8.o.fr y,jl w3 _ _,HS3.o.fr y (by simp) (by simp),f9.o.trans y⟩
 obtain⟨R,vs,k,at_,d3,d5,d6,m,r,s,i,l,t,B,C⟩:=hrel;obtain⟨oA,oc,rfl,d7,_⟩:=jA i.own;have b8:=l.a 3;have⟨HRECS,HSUM,HBD,HROWS,a5,q,O,e7⟩:=hh8 m r s i l t B C;clear m r s i l t B C;rw[cH]at *;have i:li (List.drop at_ (D.part f n))=n-at_:=by rw[vB,h3.o]
 have l:jB ((D.part f n).drop at_)=none->vA n none (D.part f n)=R:=λh=>by rw[HRECS.o,jI h,jH]
 have⟨a2,a7⟩:=hh2 i l;clear i l;have l:∀i,vA n none (D.part f n)=R->Fr [] wr i->∃out,iz (tl #[pi (some ⟨w.heap.size,0,none⟩),si oA (li R) oc,ii ip 0])=iz (tl #[pi (some ⟨w.heap.size,0,none⟩),out,ii ip 0]) /\aQt i out ((vA n none (D.part f n)).map (·.2)) (w.heap.size+1)/\Blk i w.heap.size 158 (xD d f n ((vA n none (D.part f n)).map (·.1.count)).sum (mL (((lC (D.part f n)).2+1)%4294967296) (fI (vA n none (D.part f n)))) ((lC (D.part f n)).1+1) false)/\Fr [] w i:=by intro i F i;rw[F,<- HSUM.o,e5.o,e6.o];refine⟨_,rfl,⟨vs,((HROWS.o.fr i).mono (by omega))⟩,a5.o.fr i,e7.o.trans i⟩
 have b2:=lh l;clear l;have i:∀x,jB ((D.part f n).drop at_)=some x->jB ((D.part f n).drop at_)≠none:=λx h=>by rw[h];simp
 clear i;by_cases m:c=at_;·have l:n=at_:=(by omega);have i:(D.part f n).drop at_=[]:=eT (by rw[a2.o];omega);have C:=a7.o (by rw[i];rfl);have J:=lh C;clear C i;subst m;subst l;go_wp2_with fail;have m:=aDN (A:=A) (c:=0) (w:=wr) (gl:=gl) (off:=0) (gs:=[]) (L:=[]) ⟨rfl,by simp,by simp⟩ (by simp) (by simp) (by simp);refine m.mono ?_;rintro e i ⟨rfl,l⟩;have r:=lh l;clear l m;unfold gG;go_wp2;go_ret3;exact b2.o _ J.o (r.o.alloc _)
 have m:=aDN (A:=A.map (·.add at_)) (c:=c-at_) (O.o.drop at_) (by intro p;rw[a2.o]at p;rw[z (by omega)];simp[Go.Addr.add_mid]) (by rw[a2.o];omega) (by rw[a2.o];omega);rw[a2.o]at m;have p:=lh m;clear m;go_wp2_with fail;refine p.o.mono ?_;intro e i p;unfold uV at p;cases m:jB ((D.part f n).drop at_) with
 | none=>rw[m]at p;obtain⟨rfl,l⟩:=p;have C:=a7.o m;have⟨J,r⟩:=hh2 C l;clear C l m;unfold gG;go_wp2;go_ret3;exact b2.o _ J.o (r.o.alloc _)
 | some x=>
  obtain⟨st,b⟩:=x;rw[m]at p;obtain⟨v4,d8,rfl,s,t,l⟩:=p;obtain⟨d',p,q3,q4,e0⟩:=nI m;rw[a2.o]at p;have⟨HRO,c7,g2,r⟩:=hh4 m s t l;clear m s t l;have E:=q.o.fr r.o;have c4:=E.lt;have l:v4.cells=#[v4]:=(by obtain⟨_,_,_,rfl,_⟩:=c7.o;rfl);have m:v4.oneCell'=true:=(by obtain⟨_,_,_,rfl,_⟩:=c7.o;rfl);have⟨d4,HV41⟩:=hh2 l m;clear l m;unfold aDM;by_cases F:R=[]
  ·have c5:¬ (0<li R):=(by rw[F];simp);have p:fQ (fI R) st=false:=(by rw[F];rfl);have⟨HST,b9⟩:=hh2 p E;clear E F p;go_wp2_with fail;have y:Fr [] wr (i.alloc (iy (dE (some st)).toArray 164)):=r.o.alloc _;have M:Blk (i.alloc (iy (dE (some st)).toArray 164)) i.heap.size 164 (dE (some st)):=jl i _ _;have⟨e8,Q⟩:=hh2 y M;clear y M;refine aj (λt=>Blk t i.heap.size 164 (dE (some st))) [0,1,4] ?_;refine tks [0,1] ?_;iterate 2 (refine ac Q.o ?_)
   refine tke ?_;refine tv 4 (il (dE (some st)).toArray) rfl rfl Q.o (eY rfl 164 (.tmp 14) rfl i.heap.size 0 rfl (dE (some st)) _ (λt b5 j v b6=>by rw[nB];exact b5.at_ b6) underlying164 rfl (by kernel_rfl)) ?_;simp only[nrm];obtain⟨c1,H,I,u,a8⟩:=oJ aDR;refine ag 2 λK hK=>uJ (.tmp 94) rfl aGZ H I u rfl v4 rfl d4.o (i.heap.size+1) (by show(i.alloc _).heap.size=_;simp) λw6 b0 B hz6=>?_;have hF6':Fr [] wr w6:=e8.o.drew.trans B;have G:Blk w6 i.heap.size 164 (dE (some st)):=Q.o.drew.fr B;refine hK _ _ (λ_=>G) ?_;simp only[nrm];refine ag 3 λK hK=>fC (.tmp 93) (.tmp 95) rfl 67 1 24 aGZ H I u a8 rfl (by omega) (si oA (li R) oc) (li R) vs rfl ?own ⟨i.heap.size+1,0,none⟩ 1 1 [v4] rfl rfl ?news ?one (by omega) (by unfold maxLen;omega) (by omega) (i.heap.size+2) hz6 λg7 cap w7 ho7 hf7 hat7 b7=>?_
   case own=>have:=(HROWS.o.fr hF6').own;rw[cH]at this;exact this
   case one=>intro a' l;simp at l;subst l;exact HV41.o
   case news=>intro j a' l;rw[Go.Addr.add_mid,nB];exact b0.at_ l
   have hox:∀x∈(si oA (li R) oc).ownBlock.toList,w3.heap.size+1<=x/\x<wr.heap.size:=λx hx=>(by exact Z89);have b':=r.o.size;have c0:=q.o.lt;obtain⟨g4',hb4',b3,b4⟩:=(c7.o.fr (((jj [] i).alloc (iy (dE (some st)).toArray 164)).drew.trans B) (by simp)).lt g2.o (by omega);have T:RowsIn w7 (si (some ⟨g7,0,none⟩) (li R+1) cap) ((R++[(st,b)]).map (·.2)) (vs++[v4]) (w3.heap.size+1):=(by exact Z68);have z:=G.fr hf7 (λhm=>by have:=hox _ hm;omega);have U:=(a5.o.fr hF6').fr hf7 (λhm=>by have:=hox _ hm;omega);have V:=(q.o.fr hF6').fr hf7 (λhm=>by have:=hox _ hm;omega);have W:=(O.o.fr hF6' (by simp) (by simp)).fr hf7 (λhm=>by have:=hox _ hm;have:=a0.o;omega) (λg hg hm=>by have:=hox _ hm;have:=HS3.o.lt g hg;omega);have X:=(e7.o.trans hF6').trans hf7 (λx hx=>Ij (by have:=hox _ hx;omega));refine hK _ _ (λ_=>z) ?_;simp only[nrm];refine af 5 (λ_=>z) ?_;refine ah 6 λK hK=>?_;refine pA 164 (.tmp 13) (.tmp 97) rfl (dE (some st)) rfl rfl V (by kernel_rfl) (by cases fI R<;>rfl) (by intro a' l;simp only[dE,bB,kC,dC]at l;rcases l with rfl|rfl|rfl<;>rfl) λw8 b1 m _=>hK _ _ (λh=>absurd h (by decide +kernel)) ?_;simp only[Act.put];refine wd ?_ _;have Y:=z.fr m (by simp;omega);have Z:=U.fr m (by simp;omega);have a1:=W.fr m (by simp;have:=a0.o;omega) (λg hg hm=>by simp at hm;have:=HS3.o.lt g hg;omega);have a3:=T.fr m (λx hx=>Ii (by simp at hx;omega));have a6:=X.trans m (λx hx=>Ij (by simp at hx;omega));have⟨HQ8,HB8,HS8,HR8,HFW8,HL8⟩:=hh6 Y Z a1 a3 a6 b1;clear Y Z a1 a3 a6 b1 m X W V U z T hb4' b3 b4 hox hat7 ho7 hf7 b7 G B hF6' b0 hz6 hK H I u a8 b8;have l3:=HB8.o.a 3;have lf:=HB8.o.free;have p0:=HQ8.o.a 0;have p1:=HQ8.o.a 1;have p2:=HQ8.o.a 2;have wadd:Wi ip ((at_:Int)+(st.count:Int))=(at_:Int)+(st.count:Int):=ak;go_wp2_with fail;refine aj (λt=>t.cell? ⟨w.heap.size,3,none⟩=some (ii ip (at_:Int))/\t.cell? ⟨i.heap.size,2,none⟩=some (ii ip (st.count:Int))) [0,1,2,3,4,5,6] ?_;refine tks [0,1,2,3,4,5,6] ?_;iterate 7 (refine ac ⟨l3,p2⟩ ?_)
   refine tke ?_;refine af 7 (λh=>absurd h (by decide +kernel)) ?_;refine ag 8 λK hK=>lA (v:=?aq2_8) ?yq2_8 (hK _ _ (λh=>absurd h (by decide +kernel)) ?_)
   case yq2_8=>go_simp<;>with_reducible rfl
   exact Z0
  obtain⟨s,a9⟩:∃s,fI R=some s:=by
   unfold fI;cases hg:R.getLast? with
   | none=>rw[List.getLast?_eq_none_iff]at hg;exact absurd hg F
   | some x=>exact⟨x.1,rfl⟩
  have c6:0<li R:=(by obtain h|h:=iT (li R);exact absurd (eT h) F;exact h);have c8:s.number<4294967296/\s.session<4294967296:=(by unfold fI at a9;obtain⟨x,hx,rfl⟩:=mI.1 a9;have:=HBD.o x (List.mem_of_getLast? hx);exact⟨this.2,this.1⟩);rw[a9]at E;have b9:=lh E;have c':=E.a 0;have d0:=E.a 1;have b9:=lh a9;clear E a9 F;have E:IntKind.u32.wrap ((s.number:Int)+1)=(((s.number+1)%4294967296:Nat):Int):=(by rw[Go.IntKind.wrap_u32];omega);cases p:fQ (fI R) st with
  | true=>
   have C:vA n none (D.part f n)=R:=(by rw[HRECS.o,bN HRO.o p,jH]);have J:=lh C;clear C;rw[b9.o]at p;simp only[fQ,uG]at p;by_cases C:(st.number:Int)=(((s.number+1)%4294967296:Nat):Int);·have F:(st.session:Int)<(s.session:Int):=(by omega);clear p;go_wp2;go_ret3;exact b2.o _ J.o (r.o.alloc _)
   clear p;go_wp2;go_ret3;exact b2.o _ J.o (r.o.alloc _)
  | false=>
   have HST:=lh p;rw[b9.o]at p;simp only[fQ,eI]at p;have C:(st.number:Int)=(((s.number+1)%4294967296:Nat):Int):=(by omega);have F:¬ ((st.session:Int)<(s.session:Int)):=(by omega);have F:IntKind.u32.wrap ((s.number:Int)+1)=(st.number:Int):=(by rw[E,C]);clear p E C;go_wp2_with fail;have y:Fr [] wr (i.alloc (iy (dE (some st)).toArray 164)):=r.o.alloc _;have M:Blk (i.alloc (iy (dE (some st)).toArray 164)) i.heap.size 164 (dE (some st)):=jl i _ _;have⟨e8,Q⟩:=hh2 y M;clear y M;refine aj (λt=>Blk t i.heap.size 164 (dE (some st))) [0,1,4] ?_;refine tks [0,1] ?_;iterate 2 (refine ac Q.o ?_)
   refine tke ?_;refine tv 4 (il (dE (some st)).toArray) rfl rfl Q.o (eY rfl 164 (.tmp 14) rfl i.heap.size 0 rfl (dE (some st)) _ (λt b5 j v b6=>by rw[nB];exact b5.at_ b6) underlying164 rfl (by kernel_rfl)) ?_;simp only[nrm];obtain⟨c1,H,I,u,a8⟩:=oJ aDR;refine ag 2 λK hK=>uJ (.tmp 94) rfl aGZ H I u rfl v4 rfl d4.o (i.heap.size+1) (by show(i.alloc _).heap.size=_;simp) λw6 b0 B hz6=>?_;have hF6':Fr [] wr w6:=e8.o.drew.trans B;have G:Blk w6 i.heap.size 164 (dE (some st)):=Q.o.drew.fr B;refine hK _ _ (λ_=>G) ?_;simp only[nrm];refine ag 3 λK hK=>fC (.tmp 93) (.tmp 95) rfl 67 1 24 aGZ H I u a8 rfl (by omega) (si oA (li R) oc) (li R) vs rfl ?own ⟨i.heap.size+1,0,none⟩ 1 1 [v4] rfl rfl ?news ?one (by omega) (by unfold maxLen;omega) (by omega) (i.heap.size+2) hz6 λg7 cap w7 ho7 hf7 hat7 b7=>?_
   case own=>have:=(HROWS.o.fr hF6').own;rw[cH]at this;exact this
   case one=>intro a' l;simp at l;subst l;exact HV41.o
   case news=>intro j a' l;rw[Go.Addr.add_mid,nB];exact b0.at_ l
   have hox:∀x∈(si oA (li R) oc).ownBlock.toList,w3.heap.size+1<=x/\x<wr.heap.size:=λx hx=>(by exact Z89);have b':=r.o.size;have c0:=q.o.lt;obtain⟨g4',hb4',b3,b4⟩:=(c7.o.fr (((jj [] i).alloc (iy (dE (some st)).toArray 164)).drew.trans B) (by simp)).lt g2.o (by omega);have T:RowsIn w7 (si (some ⟨g7,0,none⟩) (li R+1) cap) ((R++[(st,b)]).map (·.2)) (vs++[v4]) (w3.heap.size+1):=(by exact Z68);have z:=G.fr hf7 (λhm=>by have:=hox _ hm;omega);have U:=(a5.o.fr hF6').fr hf7 (λhm=>by have:=hox _ hm;omega);have V:=(q.o.fr hF6').fr hf7 (λhm=>by have:=hox _ hm;omega);have W:=(O.o.fr hF6' (by simp) (by simp)).fr hf7 (λhm=>by have:=hox _ hm;have:=a0.o;omega) (λg hg hm=>by have:=hox _ hm;have:=HS3.o.lt g hg;omega);have X:=(e7.o.trans hF6').trans hf7 (λx hx=>Ij (by have:=hox _ hx;omega));refine hK _ _ (λ_=>z) ?_;simp only[nrm];refine af 5 (λ_=>z) ?_;refine ah 6 λK hK=>?_;refine pA 164 (.tmp 13) (.tmp 97) rfl (dE (some st)) rfl rfl V (by kernel_rfl) (by cases fI R<;>rfl) (by intro a' l;simp only[dE,bB,kC,dC]at l;rcases l with rfl|rfl|rfl<;>rfl) λw8 b1 m _=>hK _ _ (λh=>absurd h (by decide +kernel)) ?_;simp only[Act.put];refine wd ?_ _;have Y:=z.fr m (by simp;omega);have Z:=U.fr m (by simp;omega);have a1:=W.fr m (by simp;have:=a0.o;omega) (λg hg hm=>by simp at hm;have:=HS3.o.lt g hg;omega);have a3:=T.fr m (λx hx=>Ii (by simp at hx;omega));have a6:=X.trans m (λx hx=>Ij (by simp at hx;omega));have⟨HQ8,HB8,HS8,HR8,HFW8,HL8⟩:=hh6 Y Z a1 a3 a6 b1;clear Y Z a1 a3 a6 b1 m X W V U z T hb4' b3 b4 hox hat7 ho7 hf7 b7 G B hF6' b0 hz6 hK H I u a8 b8;have l3:=HB8.o.a 3;have lf:=HB8.o.free;have p0:=HQ8.o.a 0;have p1:=HQ8.o.a 1;have p2:=HQ8.o.a 2;have wadd:Wi ip ((at_:Int)+(st.count:Int))=(at_:Int)+(st.count:Int):=ak;go_wp2_with fail;refine aj (λt=>t.cell? ⟨w.heap.size,3,none⟩=some (ii ip (at_:Int))/\t.cell? ⟨i.heap.size,2,none⟩=some (ii ip (st.count:Int))) [0,1,2,3,4,5,6] ?_;refine tks [0,1,2,3,4,5,6] ?_;iterate 7 (refine ac ⟨l3,p2⟩ ?_)
   refine tke ?_;refine af 7 (λh=>absurd h (by decide +kernel)) ?_;refine ag 8 λK hK=>lA (v:=?aq4_8) ?yq4_8 (hK _ _ (λh=>absurd h (by decide +kernel)) ?_)
   case yq4_8=>go_simp<;>with_reducible rfl
   exact Z0
theorem oN{P:Program}{w:World}{src e dst:TypeId}(l:P.underlying src=some (.slice e))(m:P.underlying e=some (.int ix))(d:P.underlying dst=some .string){v:Value}{bs:List UInt8}{g:Nat}(h:dA w v bs g): (convert src dst v).run P w=.ok (sj ⟨bs.toArray⟩) w:=by
 obtain⟨c,b,p,rfl,q,f⟩:=h;rw[run_convert_bytes_string w src dst e _ _ b l m d];cases c with
 | none=>
  have c:bs=[]:=by
   cases bs with
   | nil=>rfl
   | cons n r=>have:=(f (by simp)).1;cases this
  subst c;simp[Conv.bytesToString];rfl
 | some a=>
  have j:(loadCells a (li bs)).run P w=.ok ((bs.map fun(b:UInt8)=>(b.toNat:Int)).map (ii ix)).toArray w:=by have:=run_loadCells_list (P:=P) w a (gA bs) (λo v i=>by have c:0<li bs:=(by have:=(uC.1 i).1;rw[nA]at this;omega);obtain⟨d,k⟩:=f c;injection d with d;subst d;rw[Go.Addr.add_mid];exact k o v i);rw[nA]at this;rw[this];congr 2;simp[gA,B8,Function.comp_def]
  rw[run_bytesToString w a (li bs) b _ j,foldl_push_bytes];have e:(bs.map fun(b:UInt8)=>(b.toNat:Int)).map (λb=>Ot b.toNat)=bs:=by
   rw[List.map_map];conv=>rhs;rw[<- List.map_id bs]
   apply List.map_congr_left;intro n _;simp
  rw[e];simp[ByteArray.empty,ByteArray.emptyWithCapacity];rfl
def DkX (w0 w:World) (d:Nat) (D:DM) (X:Nat->Prop):Prop:=∃fp,wF w d D fp/\(∀k∈fp,w0.heap.size<=k/\¬ X k)/\Fr [] w0 w/\∀k,X k->k<w.heap.size
def Kp (X:Nat->Prop) (w w':World):Prop:=∃S,Fr S w w'/\∀x∈S,¬ X x
section
variable {w0 w:World}{d:Nat}{X:Nat->Prop}
theorem Kp.blk(h:Kp X w w'){g:Nat}{t:TypeId}{cs:List Value}(i:Blk w g t cs)(j:X g):Blk w' g t cs:=by obtain⟨d,b,c⟩:=h;exact i.fr b (λb=>c _ b j)
theorem Kp.bytes(h:Kp X w w'){g:Nat}{v:Value}{bs:List UInt8}(i:dA w v bs g)(j:X g):dA w' v bs g:=by obtain⟨d,b,c⟩:=h;exact i.fr b (λb=>c _ b j)
theorem Kp.of(b:Fr [] w w'):Kp X w w':=⟨[],b,by simp⟩
theorem aQu(w0 w:World)(n:Nat)(h1:1<=n)(q:n<=65536)(i:Fr [] w0 w)(j:∀k,X k->k<w.heap.size): Calls prog 8 #[ii ip n] w λe b=>∃d,e=iz (tl #[pi (some ⟨d,0,none⟩),ii ip 0])/\DkX w0 b d (DM.new n) X/\Fr [] w b:=by refine(aUh n w h1 q).mono ?_;rintro e b ⟨d,c,g,l,b,f⟩;have h:=b.size;exact⟨d,g,⟨c,l,λk g=>⟨vD i.size (f k g),λc=>by have:=j k c;have:=f k g;omega⟩,i.trans b,λk c=>iL (j k c) h⟩,b⟩
end
def aQv (D:DM) (f n:Nat):List (pC×List UInt8):=vA n none (D.part f n)
def aQw (D:DM) (f n:Nat):LG:=
 { f:=f,n:=n,at_:=((aQv D f n).map (·.1.count)).sum,num:=mL (((lC (D.part f n)).2+1)%4294967296) (fI (aQv D f n)),ses:=(lC (D.part f n)).1+1,br:=false }
structure LG.ok (l:LG) (D:DM):Prop where
 at_:l.at_<=l.n
 fit:l.f+l.n<=D.S.length
 num:l.num<4294967296
 ses:l.ses<4294967296
theorem aDU:∀(k:Nat) (last:Option pC) (L:List (List UInt8)),((vA k last L).map (·.1.count)).sum<=li L
 | 0,_,L=>by simp[vA]
 | k+1,last,L=>by
  cases b:jB L with
  | none=>rw[jI b];simp
  | some d=>
   obtain⟨c,g⟩:=d;have f:=nI b;cases d:fQ last c with
   | true=>rw[bN b d];simp
   | false=>rw[nN b d];have:=aDU k (some c) (L.drop c.count);simp only[xJ,List.sum_cons,vB]at this⊢;omega
theorem aQx{D:DM}{f n:Nat}(b:f+n<=li D.S)(c:(lC (D.part f n)).1<4294967295):(aQw D f n).ok D:=by
 refine⟨?_,b,?_,?_⟩;·have:=aDU n none (D.part f n);rw[D.part_len]at this;exact this
 ·show mL _ _<_;unfold mL;split<;>omega
 show _+1<_;omega
end
theorem aTU(n:Nat)(h:n<4294967296):nD [jC n 3,jC n 2,jC n 1,jC n 0]=n:=by simp[nD,jC];omega
theorem aQy(n:Nat)(h:n<65536):nD [jC n 1,jC n 0]=n:=by simp[nD,jC];omega
theorem aFC(p:Pc)(h1:p.st.session<4294967296)(h2:p.st.number<4294967296)(h3:p.st.count<65536)(k:p.place<65536)(m:li p.b<=48):mB (pad (aE p))=some p:=by
 have f:li (pad (aE p))=64:=aHB (by rw[vX];omega);obtain⟨d,c⟩:∃d,pad (aE p)=165::90::jC p.st.session 3::jC p.st.session 2::jC p.st.session 1::jC p.st.session 0::jC p.st.number 3::jC p.st.number 2::jC p.st.number 1::jC p.st.number 0 :: jC p.place 1::jC p.place 0::jC p.st.count 1::jC p.st.count 0::Ot (li p.b)::0::(p.b++d):=⟨ji (64-li (aE p)) 0,by simp[pad,aE]⟩;have h:(Ot (li p.b)).toNat=li p.b:=by simp;omega
 unfold mB;rw[iA ⟨f,by rw[c];rfl,by rw[c];rfl,by rw[c];show(Ot (li p.b)).toNat<=48;omega⟩,c];have c:=aTU _ h1;have d:=aTU _ h2;have f:=aQy _ h3;have g:=aQy _ k;simp[c,d,f,g];rw[aL (by omega),xL]
def aCz (ses num:Nat) (b:List UInt8) (k:Nat):List UInt8:=pad (aE (zE ses num b k))
def rJ (ses num:Nat) (b:List UInt8):List (List UInt8):=(List.range (rA b.length)).map (aCz ses num b)
theorem aJa(ses num:Nat)(b:List UInt8):(tC ses num b).map pad=rJ ses num b:=by simp[tC,rJ,aCz]
theorem aJ(ses num:Nat)(b:List UInt8):li (rJ ses num b)=rA (li b):=by simp[rJ]
theorem tZ(ses num:Nat)(b:List UInt8){k:Nat}(c:k<rA (li b)):(rJ ses num b)[k]? = some (aCz ses num b k):=by simp[rJ,c]
theorem aJb(n:Nat):1<=rA n:=by unfold rA;split<;>omega
theorem aSR(n:Nat):n<=48*rA n:=by unfold rA;split<;>omega
structure aLH (ses num:Nat) (b:List UInt8):Prop where
 ses:ses<4294967296
 num:num<4294967296
 need:rA b.length<=65535
theorem wV(ses num:Nat)(b:List UInt8)(k:Nat):(zE ses num b k).b.length=min 48 (li b-48*k):=by simp[zE]
theorem dN{ses num:Nat}{b:List UInt8}(h:aLH ses num b){k:Nat}(c:k<rA (li b)):mB (aCz ses num b k)=some (zE ses num b k):=by have:=h.need;exact aFC _ h.ses h.num (by show rA (li b)<65536;omega) (by show k<65536;omega) (by rw[wV];omega)
def iG (ses num:Nat) (b:List UInt8):pC:=⟨ses,num,rA b.length⟩
theorem uZ{ses num:Nat}{b:List UInt8}(h:aLH ses num b):∀(j k:Nat),k+j=rA (li b)->zC (iG ses num b) k ((List.range' k j).map (aCz ses num b))=some (b.drop (48*k))
 | 0,k,hk=>by have:=aSR (li b);rw[sO (by omega)];rfl
 | j+1,k,hk=>by
  have c:k<rA (li b):=by omega
  rw[List.range'_succ,xJ];simp only[zC,dN h c];have c:k+1<(iG ses num b).count->(zE ses num b k).b.length=48:=λd=>by rw[wV];have:=aNh (m:=li b) (k:=k+1) d;omega
  rw[iA ⟨rfl,rfl,c⟩,uZ h j (k+1) (by omega)];simp only[tO,yG];show(b.drop (48*k)).take 48++b.drop (48*(k+1))=b.drop (48*k);rw[show 48*(k+1)=48*k+48 by omega,<- List.drop_drop,bL]
theorem xX{ses num:Nat}{b:List UInt8}(h:aLH ses num b)(T:List (List UInt8)):jB (rJ ses num b++T)=some (iG ses num b,b):=by
 have f:=aJb (li b);have j:=uZ h (rA (li b)) 0 (by omega);have g:(rJ ses num b++T).take (rA (li b))=rJ ses num b:=by rw[<- aJ ses num b,xL]
 obtain⟨c,k⟩:∃c,rJ ses num b++T=aCz ses num b 0::c:=by
  cases i:rJ ses num b++T with
  | nil=>have:=congrArg List.length i;rw[iB,aJ]at this;simp at this;omega
  | cons l c=>have d:(rJ ses num b++T)[0]? = some (aCz ses num b 0):=(by rw[yK (by rw[aJ];omega),tZ ses num b f]);rw[i]at d;simp at d;exact⟨c,by rw[d]⟩
 have d:rA (li b)<=li (rJ ses num b++T):=by rw[iB,aJ];omega
 rw[k]at g d⊢;simp only[jB,dN h f];rw[eA (by show ¬ (rA (li b)<1∨_<rA (li b));omega)];show(zC (iG ses num b) 0 ((aCz ses num b 0::c).take (rA (li b)))).map _=_;rw[g];unfold rJ;rw[List.range_eq_range',j];rfl
theorem aDV{st:pC}:∀(L:List (List UInt8)) (k:Nat) (b:List UInt8),zC st k L=some b->∀j s,L[j]? = some s->∃q,mB s=some q/\q.st=st/\q.place=k+j
 | [],k,b,h,j,s,hj=>by simp at hj
 | x::L,k,b,h,j,s,hj=>by
  simp only[zC]at h;cases c:mB x with
  | none=>rw[c]at h;cases h
  | some q=>
   rw[c]at h;simp only at h;split at h
   ·rename_i g;obtain⟨d,f,_⟩:=mI.1 h;cases j with
    | zero=>simp at hj;subst hj;exact⟨q,c,g.1,by omega⟩
    | succ j=>obtain⟨c,g,i,l⟩:=aDV L (k+1) d f j s (by simpa using hj);exact⟨c,g,i,by omega⟩
   cases h
theorem eS{L:List (List UInt8)}{st:pC}{b:List UInt8}(h:jB L=some (st,b)){k:Nat}(l:k<st.count):∃s q,L[k]? = some s/\mB s=some q/\q.st=st/\q.place=k:=by
 have j:=nI h;cases L with
 | nil=>simp[jB]at h
 | cons s L=>
  simp only[jB]at h;cases c:mB s with
  | none=>rw[c]at h;cases h
  | some n=>
   rw[c]at h;simp only at h;split at h;·cases h
   obtain⟨d,f,c⟩:=mI.1 h;simp only[Prod.mk.injEq]at c;obtain⟨rfl,rfl⟩:=c;have c:k<li (s::L):=(by omega);obtain⟨q,g,i,m⟩:=aDV _ 0 d f k _ (by rw[uH,iA l];exact kE c);exact⟨_,q,kE c,g,i,by omega⟩
theorem vZ{L L':List (List UInt8)}{st:pC}{b:List UInt8}(h:jB L=some (st,b))(g:∀k,k<st.count->L'[k]? = L[k]?):jB L'=some (st,b):=by
 have i:=nI h;have j:st.count<=li L':=by have c:=g (st.count-1) (by omega);rw[kE (show st.count-1<li L by omega)]at c;have:=(uC.1 c).1;omega
 have d:L'.take st.count=L.take st.count:=by
  apply vU;intro c;rw[uH,uH];split;·exact g c (by assumption)
  rfl
 have c:=g 0 (by omega);cases L with
 | nil=>simp[jB]at h
 | cons m L=>
  cases L' with
  | nil=>simp at c
  | cons f L'=>
   simp at c;subst c;simp only[jB]at h⊢;cases c:mB f with
   | none=>rw[c]at h;cases h
   | some n=>
    rw[c]at h;simp only at h⊢;split at h;·cases h
    obtain⟨l,f,c⟩:=mI.1 h;simp only[Prod.mk.injEq]at c;obtain⟨rfl,rfl⟩:=c;rw[eA (by omega),d,f];rfl
def aOC (L L':List (List UInt8)) (ses num:Nat) (b:List UInt8):Prop:=
 L'.length=L.length/\∀j,L'[j]? = L[j]?∨(j<rA b.length/\L'[j]? = some (aCz ses num b j))
def aQz (L:List (List UInt8)) (ses num:Nat):Prop:=∀s∈L,∀q,mB s=some q->¬ (q.st.session=ses/\q.st.number=num)
theorem aJc{L L':List (List UInt8)}{ses num:Nat}{b:List UInt8}(o:aOC L L' ses num b)(p:aLH ses num b)(u:aQz L ses num){st:pC}{b':List UInt8}(h:jB L'=some (st,b')): (st=iG ses num b/\b'=b/\L'=rJ ses num b++L.drop (rA (li b)))∨jB L=some (st,b'):=by
 have t:=nI h;by_cases s:st.session=ses/\st.number=num
 ·left;have q:∀k,k<st.count->k<rA (li b)/\L'[k]? = some (aCz ses num b k):=by
   intro k n;obtain⟨l,m,g,c,i,r⟩:=eS h n;obtain d|d:=o.2 k;·rw[g]at d;exact absurd (by rw[i];exact s) (u l (kF d.symm) m c)
   exact d
  obtain⟨f,j⟩:=q 0 (by omega);obtain⟨l,m,g,c,i,r⟩:=eS h (k:=0) (by omega);rw[g]at j;injection j with j;subst j;rw[dN p f]at c;injection c with c;subst c;have j:st=iG ses num b:=i.symm;subst j;have e:L'=rJ ses num b++L'.drop (rA (li b)):=by
   conv=>lhs;rw[<- bL (rA (li b)) L']
   congr 1;apply vU;intro j;rw[uH];split;·rw[(q j (by assumption)).2,tZ ses num b (by assumption)]
   rw[gT (by rw[aJ];omega)]
  refine⟨rfl,?_,?_⟩;·rw[e,xX p]at h;simp at h;exact h.symm
  rw[e];congr 1;apply vU;intro j;rw[zK,zK];obtain d|d:=o.2 (rA (li b)+j);·rw[d]
  omega
 right;refine vZ h λk n=>?_;obtain⟨l,m,g,c,i,r⟩:=eS h n;obtain d|⟨d,f⟩:=o.2 k;·exact d.symm
 rw[g]at f;injection f with f;subst f;rw[dN p d]at c;injection c with c;subst c;exact absurd (by rw[<- i];exact⟨rfl,rfl⟩) s
theorem aOD{L L':List (List UInt8)}{ses num:Nat}{b:List UInt8}(d:aOC L L' ses num b)(h:∀k,k<rA (li b)->k<li L->L'[k]? = some (aCz ses num b k))(g:rA (li b)<=li L):L'=rJ ses num b++L.drop (rA (li b)):=by
 apply vU;intro f;obtain c|c:=iR f (rA (li b));·rw[yK (by rw[aJ];exact c),tZ ses num b c];exact h f c (by omega)
 rw[mJ (by rw[aJ];exact c),aJ,zK,show rA (li b)+(f-rA (li b))=f by omega];obtain c|c:=d.2 f;·exact c
 omega
def aOE:List UInt8:=List.replicate 64 0
theorem aDW:mB aOE=none:=by decide +kernel
theorem aOF{L:List (List UInt8)}(h:∀s∈L,s=aOE):jB L=none:=by
 cases L with
 | nil=>rfl
 | cons s L=>have:=h s (eC ..);subst this;simp only[jB,aDW]
theorem aLI(L:List (List UInt8)):∀a:Nat×Nat,a.1<=(bG a L).1/\a.2<=(bG a L).2/\∀s∈L,∀q,mB s=some q->q.st.session<=(bG a L).1/\q.st.number<=(bG a L).2:=by
 induction L with
 | nil=>intro a;exact⟨tA _,tA _,by simp⟩
 | cons s L b=>
  intro a;have d:=b (aK a s);have e:bG a (s::L)=bG (aK a s) L:=rfl;rw[e];have f:a.1<=(aK a s).1/\a.2<=(aK a s).2/\∀q,mB s=some q->q.st.session<=(aK a s).1/\q.st.number<=(aK a s).2:=by
   unfold aK;cases h:mB s with
   | none=>exact⟨tA _,tA _,by simp⟩
   | some i=>exact⟨Nat.le_max_left ..,Nat.le_max_left ..,λq b=>by simp at b;subst b;exact⟨Nat.le_max_right ..,Nat.le_max_right ..⟩⟩
  refine⟨by omega,by omega,λg c q b=>?_⟩;obtain rfl|c:=bB.1 c;·have:=f.2.2 q b;omega
  exact d.2.2 g c q b
theorem aLJ(L:List (List UInt8))(c e:Nat)(h:∀s∈L,∀q,mB s=some q->q.st.session<=c/\q.st.number<=e):∀a:Nat×Nat,a.1<=c->a.2<=e->(bG a L).1<=c/\(bG a L).2<=e:=by
 induction L with
 | nil=>intro a b d;exact⟨b,d⟩
 | cons s L i=>
  intro a b d;have f:(aK a s).1<=c/\(aK a s).2<=e:=by
   unfold aK;cases g:mB s with
   | none=>exact⟨b,d⟩
   | some b=>have:=h s (eC ..) b g;exact⟨by show max _ _<=_;omega,by show max _ _<=_;omega⟩
  exact i (λb d=>h b (jD _ d)) _ f.1 f.2
def wO (pos:Nat):List (List UInt8)->List (Nat×List UInt8)
 | []=>[]
 | s::ss=>(pos,pad s)::wO (pos+1) ss
theorem aSS(c:List (List UInt8)):∀pos,∀p∈wO pos c,∃i s,c[i]? = some s/\p=(pos+i,pad s):=by
 induction c with
 | nil=>intro pos p b;simp[wO]at b
 | cons s c h=>
  intro pos p b;obtain rfl|b:=bB.1 b;·exact⟨0,s,rfl,rfl⟩
  obtain⟨i,d,f,g⟩:=h (pos+1) p b;exact⟨i+1,d,by simpa using f,by rw[g,show pos+1+i=pos+(i+1) by omega]⟩
theorem aST(b:List (List UInt8)):∀(D:DM) (pos:Nat),D.dead=false->pos+li b<=li D.S->(∀s∈b,li s<=64)->(D.limit = -1∨(li b:Int)<D.limit) ->aV D pos b=({ S:=iC D.S (D.P++wO pos b),P:=[],limit:=if D.limit = -1 then -1 else D.limit-li b-1,dead:=false,done:=D.done+li b+1 },0):=by
 induction b with
 | nil=>
  intro D pos d h g c;simp only[qP]at c;show(D.sync,D.syncE)=_;have f:D.limit≠0:=by omega
  simp only[DM.sync,DM.syncE,d,nH,eF,f,DM.spent,wO,jH,qP];congr 2;split;·rw[eA (by omega)];simp
  rw[iA (by omega)];omega
 | cons s b j=>
  intro D pos d h g c;simp only[bD]at c h;have h:=g s (eC ..);have f:D.limit≠0:=by omega
  have i:D.writeE (pos:Int) s=0:=by unfold DM.writeE;rw[d,eA (by simp),eA (by omega),eA f]
  rw[rZ i,tV d (by omega) h f];rw[j { D.spent with P:=D.P++[(pos,pad s)] } (pos+1) d (by show pos+1+li b<=li D.S;omega) (λd f=>g d (jD _ f)) (by show(if 0<D.limit then D.limit-1 else D.limit) = -1∨(li b:Int)<(if 0<D.limit then D.limit-1 else D.limit);split<;>omega)];simp only[DM.spent,wO,uF,aHa,bD];congr 2;·rcases c with c|c<;>(repeat' split)<;>omega
  omega
theorem aOG(c:List (List UInt8)):∀(D:DM) (pos:Nat),D.dead=false->pos+li c<=li D.S->(∀s∈c,li s<=64)->0<=D.limit->D.limit<=li c ->aV D pos c=({ S:=D.S,P:=D.P++(wO pos c).take D.limit.toNat,limit:=0,dead:=true,done:=D.done+D.limit.toNat },10):=by
 induction c with
 | nil=>
  intro D pos d h g i f;have b:D.limit=0:=by simp at f;omega
  show(D.sync,D.syncE)=_;simp[DM.sync,DM.syncE,d,b,DM.died,wO]
 | cons s c j=>
  intro D pos d h g i f;simp only[bD]at f h;have h:=g s (eC ..);by_cases b:D.limit=0
  ·have f:D.writeE (pos:Int) s=10:=by
    unfold DM.writeE;rw[d,eA (by simp),eA (by omega),iA b]
   have i:D.write (pos:Int) s=D.died:=(by unfold DM.write;rw[d,eA (by simp),eA (by omega),iA b]);rw[wW (by rw[f];decide),f,i,b];simp[DM.died,b]
  have f:D.writeE (pos:Int) s=0:=by unfold DM.writeE;rw[d,eA (by simp),eA (by omega),eA b]
  rw[rZ f,tV d (by omega) h b];have b:0<D.limit:=(by omega);rw[j { D.spent with P:=D.P++[(pos,pad s)] } (pos+1) d (by show pos+1+li c<=li D.S;omega) (λd f=>g d (jD _ f)) (by show 0<=(if 0<D.limit then D.limit-1 else D.limit);rw[iA b];omega) (by show(if 0<D.limit then D.limit-1 else D.limit)<=_;rw[iA b];omega)];simp only[DM.spent,wO,uF,aHa,b,vG];have e:D.limit.toNat=(D.limit-1).toNat+1:=(by omega);rw[e,List.take_succ_cons];congr 2;omega
theorem aOH(b:List (List UInt8)):∀A B,li b<=li B->iC (A++B) (wO (li A) b)=A++(b.map pad++B.drop (li b)):=by
 induction b with
 | nil=>intro A B _;simp[wO,iC]
 | cons c b g=>
  intro A B f;cases B with
  | nil=>simp at f
  | cons d B=>show iC ((A++d::B).set (li A) (pad c)) (wO (li A+1) b)=_;have e:(A++d::B).set (li A) (pad c)=(A++[pad c])++B:=(by simp);have d:=g (A++[pad c]) B (by simpa using f);rw[iB,aBb]at d;rw[e,d];simp
theorem aJd(d:List (List UInt8))(pos:Nat):∀(b:List (Nat×List UInt8)) (S:List (List UInt8)),(∀p∈b,∃i s,d[i]? = some s/\p=(pos+i,pad s)) ->li (iC S b)=li S/\∀j,(iC S b)[j]? = S[j]?∨∃i s,d[i]? = some s/\j=pos+i/\(iC S b)[j]? = some (pad s)
 | [],S,_=>⟨rfl,λj=>Ii rfl⟩
 | p::b,S,h=>by
  obtain⟨i,s,k,rfl⟩:=h p (eC ..);obtain⟨c,g⟩:=aJd d pos b (S.set (pos+i) (pad s)) (λf l=>h f (jD _ l));refine⟨by rw[show iC S ((pos+i,pad s)::b)=iC (S.set (pos+i) (pad s)) b from rfl,c];simp,λj=>?_⟩;rw[show iC S ((pos+i,pad s)::b)=iC (S.set (pos+i) (pad s)) b from rfl];obtain f|f:=g j
  ·rw[f,List.getElem?_set];by_cases c:pos+i=j
   ·rw[iA c];by_cases g:pos+i<li S
    ·right;exact⟨i,s,k,c.symm,by simp[g]⟩
    left;simp[g];rw[<- c];omega
   left;rw[eA c]
  exact Ij f
structure St (D:DM) (f:Nat) (V:List (List UInt8)):Prop where
 dead:D.dead=false
 pend:D.P=[]
 part:∃S0 S1,D.S=S0++(V++S1)/\S0.length=f
theorem St.fit{D:DM}{f:Nat}(h:St D f H):f+li H<=li D.S:=by obtain⟨c,d,b,g⟩:=h.part;rw[b];simp;omega
theorem St.view{D:DM}{f:Nat}(h:St D f H){n:Nat}(c:li H=n):D.part f n=H:=by
 obtain⟨j,k,g,i⟩:=h.part;apply vU;intro d;unfold DM.part;rw[wI];obtain b|b:=iR d n;·rw[List.getElem?_range b];simp only[tO,DM.look,h.pend,rK,List.foldl_nil,g];rw[vR,mJ (by omega),i,show f+d-f=d by omega,yK (by omega),kE (by omega)];rfl
 rw[gT (by simpa using b),gT (by omega)];rfl
theorem yX{ses num:Nat}{b:List UInt8}:∀s∈tC ses num b,li s<=64:=by intro s c;unfold tC at c;obtain⟨d,_,rfl⟩:=kI.1 c;rw[vX,wV];omega
structure LgAt (l:LG) (f n at_:Nat):Prop where
 f:l.f=f
 n:l.n=n
 at_:l.at_=at_
 br:l.br=false
section
variable {l:LG}{f:Nat}{A B:List (List UInt8)}{b:List UInt8}
theorem wZ(h:St D f (A++B))(c:LgAt l f (li (A++B)) (li A))(q:rA (li b)<=li B)(r:rA (li b)<=65535)(g:D.limit = -1∨(rA (li b):Int)<D.limit): rD D l b=0/\St (kB D l b) f (A++(rJ l.ses l.num b++B.drop (rA (li b))))/\aD D l b={ l with at_:=li A+rA (li b),num:=(l.num+1)%4294967296 }/\(kB D l b).limit=(if D.limit = -1 then -1 else D.limit-rA (li b)-1)/\(kB D l b).done=D.done+rA (li b)+1:=by
 have i:¬ (l.br=true):=by rw[c.br];simp
 have j:¬ (l.n-l.at_<rA (li b)):=by rw[c.n,c.at_,iB];omega
 have d:=h.fit;rw[iB]at d;have d:=aST (tC l.ses l.num b) D (l.f+l.at_) h.dead (by rw[xE,c.f,c.at_];omega) yX (by rw[xE];exact g);rw[xE]at d;unfold rD kB aD;simp only[i,eF,j,show ¬ (65535<rA (li b)) by omega];rw[d];refine⟨rfl,⟨rfl,rfl,?_⟩,by simp[c.at_],rfl,rfl⟩;obtain⟨d,i,m,j⟩:=h.part;refine⟨d,i,?_,j⟩;show iC D.S (D.P++wO (l.f+l.at_) (tC l.ses l.num b))=_;have k:D.S=(d++A)++(B++i):=by rw[m];simp
 have i:l.f+l.at_=li (d++A):=by rw[c.f,c.at_,iB,j]
 rw[h.pend,nG,k,i,aOH _ _ _ (by rw[xE,iB];omega),aJa,xE,List.drop_append_of_le_length q];simp
theorem aCe(y:St D f (A++B))(d:LgAt l f (li (A++B)) (li A))(Q:rA (li b)<=li B)(H:rA (li b)<=65535)(E:0<=D.limit)(u:D.limit<=rA (li b))(K:List Bool): rD D l b=10/\(kB D l b).dead=true/\(kB D l b).done<=D.done+rA (li b)/\(∃T,St ((kB D l b).reopen K) f (A++T)/\aOC B T l.ses l.num b)/\aD D l b={ l with br:=true }:=by
 have c:¬ (l.br=true):=by rw[d.br];simp
 have g:¬ (l.n-l.at_<rA (li b)):=by rw[d.n,d.at_,iB];omega
 have h:=y.fit;rw[iB]at h;have h:=aOG (tC l.ses l.num b) D (l.f+l.at_) y.dead (by rw[xE,d.f,d.at_];omega) yX E (by rw[xE];exact u);unfold rD kB aD;simp only[c,eF,g,show ¬ (65535<rA (li b)) by omega];rw[h];refine⟨rfl,rfl,by show D.done+D.limit.toNat<=_;omega,?_,rfl⟩;obtain⟨c,o,h,x⟩:=y.part;have t:l.f+l.at_=li (c++A):=by rw[d.f,d.at_,iB,x]
 obtain⟨z,r⟩:=aJd (tC l.ses l.num b) (l.f+l.at_) (zG (D.P++(wO (l.f+l.at_) (tC l.ses l.num b)).take D.limit.toNat) K) D.S (λd g=>by have:=zM _ _ d g;rw[y.pend,nG]at this;exact aSS _ _ d (yM this));obtain⟨g,C⟩:∃g,g=iC D.S (zG (D.P++(wO (l.f+l.at_) (tC l.ses l.num b)).take D.limit.toNat) K):=⟨_,rfl⟩;rw[<- C]at z r;have m:D.S=(c++A)++(B++o):=by rw[h];simp
 have q:∀(d:Nat) (i:List UInt8),(tC l.ses l.num b)[d]? = some i->d<rA (li b)/\pad i=aCz l.ses l.num b d:=λd i j=>by have h:=(uC.1 j).1;rw[xE]at h;have k:=tZ l.ses l.num b h;rw[<- aJa,wI,j]at k;simp at k;exact⟨h,k⟩
 have v:∀h,h<li (c++A)∨li (c++A)+li B<=h->g[h]? = D.S[h]?:=λh p=>by
  obtain k|⟨d,i,j,s,_⟩:=r h;·exact k
  have:=(q d i j).1;rw[t]at s;omega
 have F:g.take (li (c++A))=c++A:=by
  have:g.take (li (c++A))=D.S.take (li (c++A)):=by
   apply vU;intro d;rw[uH,uH];split;·exact v d (Ii (by assumption))
   rfl
  rw[this,m,xL]
 have G:g.drop (li (c++A)+li B)=o:=by
  have:g.drop (li (c++A)+li B)=D.S.drop (li (c++A)+li B):=by apply vU;intro d;rw[zK,zK];exact v _ (Ij (by omega))
  rw[this,m,List.drop_length_add_append,rO]
 have v:g=(c++A)++((g.drop (li (c++A))).take (li B)++o):=by
  conv=>lhs;rw[<- bL (li (c++A)) g,F]
  congr 1;conv=>lhs;rw[<- bL (li B) (g.drop (li (c++A)))]
  rw[List.drop_drop,G]
 refine⟨(g.drop (li (c++A))).take (li B),⟨rfl,rfl,c,o,?_,x⟩,?_,?_⟩
 ·show iC D.S (zG (D.P++(wO (l.f+l.at_) (tC l.ses l.num b)).take D.limit.toNat) K)=_;rw[<- C];conv=>lhs;rw[v]
  simp
 ·rw[pB,vB,z,m];simp;omega
 intro h;rw[uH];by_cases p:h<li B
 ·rw[iA p,zK];obtain k|⟨d,i,j,s,k⟩:=r (li (c++A)+h)
  ·left;rw[k,m,mJ (by omega),show(c++A).length+h-li (c++A)=h by omega,yK p]
  right;rw[t]at s;have:d=h:=(by omega);subst this;rw[k,(q d i j).2];exact⟨(q d i j).1,rfl⟩
 left;rw[eA p,gT (by omega)]
end
theorem aCf(L:List (List UInt8)):lC L=bG (0,0) L:=aDP L
theorem aJe(n:Nat):∀s∈ji n aOE,s=aOE:=λ_ b=>(List.mem_replicate.1 b).2
theorem aFK{ses num:Nat}{b:List UInt8}(h:aLH ses num b)(T:List (List UInt8))(k:Nat)(last:Option pC)(c:fQ last (iG ses num b)=false): vA (k+1) last (rJ ses num b++T)=(iG ses num b,b)::vA k (some (iG ses num b)) T:=by rw[nN (xX h T) c];congr 2;show List.drop (rA (li b)) _=T;rw[<- aJ ses num b,rO]
end Go.Proofs.YtebjhcjbfaaejaaGreatDoor
