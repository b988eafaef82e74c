/-
  Joined: CbE CbF CcC CcD CcE CcF CcB CcH CcJ CcK CcL CcI
-/
import Derived.BigQuiet
import Derived.Test.YtebjhcjbfaaejaaGreatDoorJct13
set_option maxRecDepth 100000
set_option maxHeartbeats 32000000
open Go.Value renaming int->ii,slice->si,string->sj,pointer->pi,tuple->tl,bool->ij,agg->il
open Go.IntKind renaming i64->ip,wrap->Wi
open Go.Obj renaming cells->iy
open Go.Ending renaming returned->iz
open Or renaming inl->Ii,inr->Ij
open List renaming length->li,replicate->ji,take_add_one->eJ,map_cons->xJ,flatMap_append->vO,mem_flatMap->wR,filter_eq_self->kT,set_cons_succ->aAR,length_set->aDz,zip_eq_zipWith->aHy,length_zip->aLu,zip_append->aLw
open Go.Proofs.Tryz renaming func31->nR,ntmps31->oR,underlying35->rV
open Nat renaming le_succ_of_le->aLx
namespace Go.Proofs.YtebjhcjbfaaejaaGreatDoor
open Go.Proofs.Tryz
variable {n k i j m:Nat}{w':World}{F G:List Value}{T:TypeId}{S:PS}{α:Type}
section
open Go.RowKit Go.Shelf
theorem TxV.src{D:Nat->Prop}{w:World}{A:Option Addr}{n cap:Nat}{l:Tx}(h:TxV D w (si A n cap) l)(d:0<n):∃g,A=some ⟨g,0,none⟩/\∀(j:Nat) (u:Value),(l.flatMap pG)[j]? = some u->w.cell? ⟨g,j,none⟩=some u:=by have c:=gR h.1;have b:=h.1;rw[<- c]at b;exact tD b d
theorem aTL{w:World}{b c:Nat}{f:TypeId}{d:Nat}{v1 v2:Value}(h1:w.ownsRow b T n v1 i F)(h2:w.ownsRow c f k v2 d G)(m:T≠f){q:Nat}(g:v1.ownBlock=some q):q∉v2.ownBlock.toList:=λb=>by
 have b:v2.ownBlock=some q:=by simpa using b
 obtain⟨rfl,_⟩|⟨h,_,_,rfl,_,j,_⟩:=h1.2;·cases g
 obtain⟨rfl,_⟩|⟨l,_,_,rfl,_,c,_⟩:=h2.2;·cases b
 have d:h=q:=tE g;have h:l=q:=tE b;subst d h;rw[j]at c;injection c with c;injection c with _ b _;exact m b
theorem TxV.frO{D:Nat->Prop}{w w':World}{b n:Nat}{u v:Value}{l:Tx}(h:TxV D w u l)(c:w.ownsRow b 93 2 v n F)(d:Fr v.ownBlock.toList w w'):TxV D w' u l:=⟨fB h.1 d λg f=>aTL h.1 c (by decide) f,h.2⟩
structure CpI (w:World) (vc:Value) (c:Ct) (i:Nat) (us:List Value) (vo:Value) (wr:World):Prop where
 len:us.length=i
 own:CoO (w.heap.size+3) wr vo ((c.take i).zip us)
 txs:∀p∈(c.take i).zip us,TxV (fun q=>w.heap.size+3<=q) wr p.2 p.1.2
 b1:Blk wr w.heap.size 37 [vc]
 b3:Blk wr (w.heap.size+2) 37 [vo]
 b2:Blk wr (w.heap.size+1) 37 [.slice none 0 0]
 fr:Fr [] w wr
theorem aMS{D:Nat->Prop}{w:World}{v:Value}{c:Ct}(h:CtV D w v c F)(hl:li c<=1000000)(ht:∀y∈c,li y.2<=1000000): Calls prog 30 #[il #[v]] w λe w'=>∃v' b,e=iz (il #[v'])/\CtV (λq=>w.heap.size<=q) w' v' c b/\Fr [] w w':=by
 refine cA λR HQ=>?_;obtain⟨A,cap,rfl,G,_⟩:=jA h.own;obtain⟨m,X⟩:∃m,li c=m:=⟨_,rfl⟩;rw[X]at h hl G⊢;obtain⟨wb,P⟩:=_root_.Go.Proofs.YtebjhcjbfaaejaaGreatDoor.nm (((w.alloc (iy #[si A m cap] 37)).alloc (iy #[si none 0 0] 37)).alloc (iy #[si none 0 0] 37));have hf:Fr [] w wb:=by rw[P];exact(((jj [] w).alloc _).alloc _).alloc _
 have d2:Blk wb w.heap.size 37 [si A m cap]:=by rw[P];exact((jl w _ [si A m cap]).alloc _).alloc _
 have J:Blk wb (w.heap.size+1) 37 [si none 0 0]:=by rw[P];have:=jl (w.alloc (iy #[si A m cap] 37)) 37 [si none 0 0];rw[qB]at this;exact this.alloc _
 have z:Blk wb (w.heap.size+2) 37 [si none 0 0]:=by rw[P];have:=jl ((w.alloc (iy #[si A m cap] 37)).alloc (iy #[si none 0 0] 37)) 37 [si none 0 0];rwa [qB,qB]at this
 have HH:=lh h;have HM:=lh X;have f2:=lh d2;have f3:=lh J;have f4:=lh z;have h7:=lh G;have f5:=lh hf;have HT:=lh ht;clear h X hf d2 J z G ht;obtain⟨iu,e4,e5,a9,g'⟩:=info_parts aCa;obtain⟨i5,h1,h2,e6,e7⟩:=info_parts aBZ;go_enter func30,ntmps30;go_upto_region 3 with fail;rw[show w.heap.size+1+1=w.heap.size+2 by omega,<- P];clear P;go_loopg [4] m (λj v4 wr=>∃(i:Nat) (b:List Value) (vo:Value),i+j=m/\v4=ii ip (i:Int)/\CpI w (si A m cap) c i b vo wr);·exact⟨0,[],_,by omega,rfl,⟨rfl,gD _ _ _ _,(λp hp=>by simp at hp),f2.o,f4.o,f3.o,f5.o⟩⟩
 obtain⟨i,b,vo,hi,rfl,hI⟩:=hrel;obtain⟨Ao,co,rfl,_,_⟩:=jA hI.own;have f:=lh hI;have c1:=hI.b1.a 0;clear hI;by_cases f1:i<m
 ·obtain⟨y,hy⟩:∃y,c[i]? = some y:=gx (by rw[HM.o];exact f1);obtain⟨g,u,rfl,H,c',a',b0⟩:=HH.o.at_ hy;have h8:g<w.heap.size:=dI c';have cn:=aA f.o.fr c';have d3:=aA f.o.fr a';have a0:=b0.fr f.o.fr;clear c' a' b0;obtain⟨B,bc,rfl,_,_⟩:=jA a0.1;have h':(i:Int)<(m:Int):=(by omega);have i0:i<m:=f1;have f6:=HT.o y (kF hy);obtain⟨s,d0⟩:∃s,li y.2=s:=⟨_,rfl⟩;rw[d0]at d3 f6 a0;obtain⟨nm,d1⟩:∃nm:ByteArray,nm=⟨y.1.toArray⟩:=⟨_,rfl⟩;rw[<- d1]at cn;have C:li ((c.take i).zip b)=i:=(by rw[aLu,pB,f.o.len,HM.o];omega);have HO:Hid (wr.ownsRow (w.heap.size+3) 93 2 (si Ao i co) i (((c.take i).zip b).flatMap clR)):=lh (by have h9:=f.o.own;unfold CoO at h9;rw[C]at h9;exact h9);have b3:wr.cell? ⟨w.heap.size+2,0,none⟩=some (si Ao i co):=(by have:=f.o.b3.a 0;rw[C]at this;exact this);have HY:=lh hy;have d4:=lh d0;have f7:=lh d1;have f8:=lh a0;have d5:=lh C;clear hy d0 d1 a0 H C;go_upto_region 5 with fail;have L:wr.drew.cell? ⟨w.heap.size+2,0,none⟩=some (si Ao i co):=b3;have T:wr.drew.cell? ⟨w.heap.size,0,none⟩=some (si (some ⟨g,0,none⟩) m cap):=c1;have M:wr.drew.cell? ⟨g,i*2,none⟩=some (sj nm):=cn;have U:wr.drew.cell? ⟨g,i*2+1,none⟩=some (si B s bc):=d3;refine aj (λW=>W.cell? ⟨w.heap.size+2,0,none⟩=some (si Ao i co)/\W.cell? ⟨w.heap.size,0,none⟩=some (si (some ⟨g,0,none⟩) m cap)/\W.cell? ⟨g,i*2,none⟩=some (sj nm)/\W.cell? ⟨g,i*2+1,none⟩=some (si B s bc)) [0,1,2,3,4,5,6,7,9,10,11,12,13,14,16,19] ?_;have d6:Fr [] wr wr.drew:=(jj [] wr).drew;have d7:=lh d6;clear d6;generalize wr.drew=wd at *;refine tks [0,1,2,3,4,5,6,7,9,10,11,12,13,14] ?_;iterate 14 (refine ac ⟨L,T,M,U⟩ ?_)
  refine tke ?_;refine ag 8 λK hK=>?_;obtain⟨w1,Y⟩:=_root_.Go.Proofs.YtebjhcjbfaaejaaGreatDoor.nm (wd.alloc (iy #[] 95));have k:Fr [] wd w1:=(by rw[Y];exact(jj [] wd).alloc _);have d8:w1.ownsRow 0 95 2 (si (some ⟨wd.heap.size,0,none⟩) 0 0) 0 []:=⟨rfl,Ij ⟨wd.heap.size,0,#[],rfl,uB _,by rw[Y];exact World.alloc_heap_new wd _,tA _,uB _,rfl,rfl⟩⟩;refine tB (v:=si (some ⟨wd.heap.size,0,none⟩) 0 0) (w':=w1) (by rw[Y];go_simp<;>rfl) (hK _ _ (λ_=>⟨aA k L,aA k T,aA k M,aA k U⟩) ?_);simp only[nrm];clear hK;have f9:=lh (d7.o.trans k);have f':=aA k L;have g0:=aA k T;have g1:=aA k M;have g2:=aA k U;have i1:w1.heap.size=wd.heap.size+1:=(by rw[Y];simp);have d9:=dI L;have d':=dI M;clear Y f' g0 g1 g2;refine ag 15 λK hK=>?_;refine iE (.tmp 21) (.tmp 27) rfl 95 2 24 Tryz.underlying91 h1 h2 e6 e7 rfl (by omega) (some ⟨wd.heap.size,0,none⟩) 0 0 [] rfl d8 B s bc (y.2.flatMap pG) rfl (by rw[sW,d4.o]) (λh0=>by obtain⟨q,I,hc⟩:=(f8.o.fr f9.o).src h0;exact⟨_,I,λj u H=>by rw[Go.Addr.add_mid,nB];exact hc j u H⟩) (λu H=>by obtain⟨t,_,H⟩:=wR.1 H;exact lX t u H) (by unfold maxLen;omega) (by omega) w1.heap.size rfl λQ c2 S a6 e8 b4=>?_;have N:Fr [] wd S:=k.trans e8 λx hx=>Ij (by have e:x=wd.heap.size:=(by simpa[Value.ownBlock]using hx);rw[e];exact tA _);have a1:=aA N L;have a2:=aA N T;have a3:=aA N M;have a4:=aA N U;refine hK _ _ (λ_=>⟨a1,a2,a3,a4⟩) ?_;simp only[nrm];clear hK;have i2:=f.o.fr.size;have i3:w.heap.size+3<=wd.heap.size:=(by have:=d9;omega);have a5:Hid (TxV (λq=>w.heap.size+3<=q) S (si Q (0+s) c2) y.2):=lh ⟨by rw[nB]at a6⊢;rw[<- d4.o]at a6⊢;exact gF a6,λq I=>by
   obtain h|h:=b4 q I;·have e:q=wd.heap.size:=(by simpa[Value.ownBlock]using h.symm);omega
   omega⟩
  have g3:=lh (d7.o.trans N);clear k d8 a6 e8 b4 N L T M U d9 d';rw[nB]at a5⊢;refine tks [16] (ac ⟨a1,a2,a3,a4⟩ ?_);refine tke ?_;refine ag 17 λK hK=>qC (.tmp 29) rfl rV e4 e5 [sj nm,si Q s c2] rfl a9 rfl (by simp) (by simp) ?_;have b5:=jl S 93 [sj nm,si Q s c2];have E:Fr [] S (S.alloc (iy #[sj nm,si Q s c2] 93)):=(jj [] S).alloc _;have g4:(S.alloc (iy #[sj nm,si Q s c2] 93)).heap.size=S.heap.size+1:=(by simp);change Blk (S.alloc (iy #[sj nm,si Q s c2] 93)) _ _ _ at b5;generalize S.alloc (iy #[sj nm,si Q s c2] 93)=w6 at *;have b6:=aA E a1;have b7:=aA E a2;have b8:=aA E a3;have b9:=aA E a4;refine hK _ _ (λ_=>⟨b6,b7,b8,b9⟩) ?_;simp only[nrm];clear hK;have g5:=lh E;have g6:=lh b5;have n:=g3.o.trans E;clear E b5 a1 a2 a3 a4;refine ag 18 λK hK=>?_;refine fC (.tmp 14) (.tmp 30) rfl 93 2 40 rV e4 e5 a9 g' rfl (by omega) (si Ao i co) i (((c.take i).zip b).flatMap clR) rfl (gF (fB HO.o n (by simp))) ⟨S.heap.size,0,none⟩ 1 1 [sj nm,si Q s c2] rfl rfl (λj u H=>by rw[Go.Addr.add_mid,nB];exact g6.o.at_ H) (by intro u H;simp only[bB,kC,dC]at H;rcases H with rfl|rfl<;>rfl) (by omega) (by unfold maxLen;omega) (by omega) (S.heap.size+1) g4 λg7 c7 w7 e9 r Z e'=>?_;have d:∀q,q<w.heap.size+3->q∉(si Ao i co).ownBlock.toList:=λq I X=>(by have:=sC HO.o q (by simpa using X);omega);have b':=yD r b6 (d _ (by show w.heap.size+2<_;omega));have c0:=yD r b7 (d _ (by show w.heap.size<_;omega));have c4:=yD r b8 (d _ (by show g<_;omega));have c5:=yD r b9 (d _ (by show g<_;omega));refine hK _ _ (λ_=>⟨b',c0,c4,c5⟩) ?_;simp only[nrm];clear hK;have e0:=fB HO.o n (by simp);have V:=(f.o.b3.fr n).fr r (d _ (by omega));have z7:=V.free;refine tks [19] (ac ⟨b',c0,c4,c5⟩ ?_);refine tke ?_;refine ah 20 λK hK=>?_;have O:Fr [w.heap.size+2] w7 (w7.setCell ⟨w.heap.size+2,0,none⟩ (si (some ⟨g7,0,none⟩) (i+1) c7)):=(jj _ _).setCell (Ii (by simp)) _;have a7:=V.set_ 0 (si (some ⟨g7,0,none⟩) (i+1) c7);refine rB (w':=w7.setCell ⟨w.heap.size+2,0,none⟩ (si (some ⟨g7,0,none⟩) (i+1) c7)) (by go_simp) (hK _ _ (λh=>absurd h (by decide +kernel)) ?_);simp only[Act.put];clear hK;refine _root_.Go.Proofs.YtebjhcjbfaaejaaGreatDoor.wd ?_ _;have h4:=n.size;have h5:=f.o.b3.lt;have c6:(c.take (i+1)).zip (b++[si Q s c2])=(c.take i).zip b++[(y,si Q s c2)]:=(by rw[eJ,HY.o];exact aLw (by rw[pB,f.o.len,HM.o];omega));have e1:clR (y,si Q s c2)=[sj nm,si Q s c2]:=(by rw[f7.o];rfl);have c8:∀ {u:Value} {l:Tx},TxV (λq=>w.heap.size+3<=q) w6 u l->TxV (λq=>w.heap.size+3<=q) (w7.setCell ⟨w.heap.size+2,0,none⟩ (si (some ⟨g7,0,none⟩) (i+1) c7)) u l:=λh=>(h.frO e0 r).fr O (λq I X=>by have:=xA.1 X;omega);have a8:CpI w (si (some ⟨g,0,none⟩) m cap) c (i+1) (b++[si Q s c2]) (si (some ⟨g7,0,none⟩) (i+1) c7) (w7.setCell ⟨w.heap.size+2,0,none⟩ (si (some ⟨g7,0,none⟩) (i+1) c7)):=by
   refine⟨by rw[iB,f.o.len];rfl,?_,λp hp=>?_,((f.o.b1.fr n).fr r (d _ (by omega))).fr O,a7,((f.o.b2.fr n).fr r (d _ (by omega))).fr O,?_⟩
   ·rw[c6];refine CoO.fr (CoO.snoc (f.o.own.fr n) d5.o rfl (by rw[xG,List.flatMap_nil,jH,e1];exact e9) λq I=>?_) O λq I X=>?_
    ·have e:g7=q:=(by simpa[Value.ownBlock]using I);subst e;obtain h|h:=Z
     ·rw[d5.o];exact Ii h
     exact Ij (by omega)
    have e:g7=q:=(by simpa[Value.ownBlock]using I);subst e;have:=xA.1 X;obtain h|h:=Z;·have:=sC HO.o _ h;omega
    omega
   ·rw[c6,sD,xA]at hp;obtain hp|rfl:=hp
    ·exact c8 ((f.o.txs p hp).fr n)
    exact c8 (a5.o.fr g5.o)
   exact((f.o.fr.trans n).trans r λx hx=>Ij (by have:=sC HO.o x (by simpa using hx);omega)).trans O λx hx=>Ij (by rw[xA.1 hx];omega)
  have e2:=lh a8;have i4:Wi ip ((i:Int)+1)=((i+1:Nat):Int):=ak;clear a8 c8 e1 c6 a7 O V z7 e0 b6 b7 b8 b9 b' c0 c4 c5 e9 r Z e' d n;go_wp2_with fail;go_roundg (m-(i+1))
  case measure=>omega
  case rel=>exact⟨i+1,_,_,by omega,rfl,e2.o⟩
 obtain rfl:i=m:=(by omega);have ho:=f.o.own;have c9:=f.o.txs;have z:=f.o.b3;have J:=f.o.b2;have C:li (c.zip b)=i:=(by rw[aLu,f.o.len,HM.o];omega);rw[zF (by rw[HM.o];exact tA _)]at ho c9 z;rw[C]at ho z;clear C;have h6:=J.lt;have e3:=lh J;have HO:=lh ho;have a5:=lh c9;have c3:=z.a 0;clear ho c9 z J;go_upto_region 6 with fail;refine sB ?_;refine ab ?_;refine lp λK hK=>pA 37 (.tmp 2) (.tmp 33) rfl [si Ao i co] rfl rfl e3.o lD rfl (by intro u H;simp only[bB,kC,dC]at H;subst H;rfl) λw9 h3 f0 i6=>hK _ _ ?_;simp only[Act.put];clear hK;refine wB ?_;have g8:=lh h3;have g9:CtV (λq=>w.heap.size+3<=q) wr (si Ao i co) c b:=CtV.of_co (by rw[f.o.len,HM.o]) HO.o (λq I=>I) a5.o;have HX:=lh (HQ.o _ _ ⟨_,b,rfl,(g9.fr f0 (λq I X=>by have:=xA.1 X;omega)).more (λq I=>by omega),f.o.fr.trans f0 λq I=>Ij (by rw[xA.1 I];omega)⟩);go_wp2_with fail;all_goals exact cI rfl rfl g8.o Go.Proofs.Tryz.underlying37 rfl (by kernel_rfl) HX.o
theorem OkC.split{c:Ct}(h:OkC c){k:Nat}{y:Ky×Tx}(f:c[k]? = some y):c=c.take k++y::c.drop (k+1)/\(∀z∈c.take k,z.1≠y.1)/\∀z∈c.drop (k+1),z.1≠y.1:=by
 have e:c=c.take k++y::c.drop (k+1):=by rw[<- xK f,bL]
 have b:=h.rise;rw[e]at b;obtain⟨_,g,i⟩:=List.pairwise_append.1 b;refine⟨e,λz d e=>?_,λz d e=>?_⟩;·have b:=i z d y (eC ..);rw[e]at b;exact bC _ b
 have b:=(lF.1 g).1 z d;rw[e]at b;exact bC _ b
theorem aSp{c:Ct}(h:OkC c){k:Nat}{y:Ky×Tx}(b:c[k]? = some y):bY c y.1=c.take k++c.drop (k+1):=by
 obtain⟨e,g,i⟩:=h.split b;unfold bY;conv=>lhs;rw[e]
 rw[List.filter_append,List.filter_cons_of_neg (by simp),kT.2 λd f=>by simp[g d f],kT.2 λd f=>by simp[i d f]]
theorem aFs{f:α->α}:∀ {l:List α},(∀a∈l,f a=a)->l.map f=l
 | [],_=>rfl
 | a::l,h=>by rw[xJ,h a (eC ..),aFs λb c=>h b (jD _ c)]
theorem aOi{c:Ct}(h:OkC c){k:Nat}{y:Ky×Tx}(b:c[k]? = some y)(f:Tx->Tx):iW c y.1 f=c.set k (y.1,f y.2):=by
 obtain⟨e,i,j⟩:=h.split b;have d:=(uC.1 b).1;rw[List.set_eq_take_append_cons_drop,iA d];unfold iW;conv=>lhs;rw[e]
 rw[tQ,xJ,iA rfl,aFs λd g=>eA (i d g),aFs λd g=>eA (j d g)]
theorem aGI:∀(c:Ct) (b:List Value) (k:Nat) (y:Ky×Tx) (t:Tx) (u:Value),c[k]? = some y->li b=li c->qW (c.set k (y.1,t)) (b.set k u)=(qW c b).set (k*2+1) u
 | [],_,_,_,_,_,h,_=>by simp at h
 | z::c,[],_,_,_,_,_,h=>by simp at h
 | z::c,x::b,0,y,t,u,h,_=>by
  obtain rfl:z=y:=by simpa using h
  rfl
 | z::c,x::b,k+1,y,t,u,h,hl=>by have d:=aGI c b k y t u (by simpa using h) (by simpa using hl);rw[aAR,aAR];show _::_::qW (c.set k (y.1,t)) (b.set k u)=(_::_::qW c b).set ((k+1)*2+1) u;rw[d,show(k+1)*2+1=k*2+1+1+1 by omega,aAR,aAR]
theorem aPS{c:Ct}(h:li F=li c):li (qW c F)=li c*2:=by rw[mX c F h,sU,aAO h]
theorem CtV.set{D D':Nat->Prop}{w:World}{g n cap:Nat}{c:Ct}(h:CtV D w (si g n cap) c F){k:Nat}{y:Ky×Tx}(m:c[k]? = some y){u:Value}{t:Tx}(p:TxV D' w u t)(r:∀q,D q->D' q): CtV D' (w.setCell ⟨g,k*2+1,none⟩ u) (si g n cap) (c.set k (y.1,t)) (F.set k u):=by
 have f:=gR h.own;have i:=(uC.1 m).1;have j:Fr (si g n cap).ownBlock.toList w (w.setCell ⟨g,k*2+1,none⟩ u):=(jj _ _).setCell (Ii (by simp[Value.ownBlock])) _;refine⟨by rw[aDz,aDz,h.len],?_,λq b=>r q (h.blk q b),λo v x b d=>?_⟩;·have l:=h.own;rw[<- f]at l;have s:=aOb l (k*2+1) u (by rw[aPS h.len];omega);rw[aDz,<- f,aGI c F k y t u m h.len];exact s
 by_cases f:k=o;·subst f;rw[List.getElem?_set_self i]at b;rw[List.getElem?_set_self (by rw[h.len];exact i)]at d;obtain rfl:=tE b;obtain rfl:=tE d;exact p.frO h.own j
 rw[List.getElem?_set_ne f]at b d;exact((h.txs o v x b d).frO h.own j).more r
theorem CtV.free{D:Nat->Prop}{w:World}{g n cap:Nat}{c:Ct}(h:CtV D w (si g n cap) c F)(j:Nat):w.frozen? ⟨g,j,none⟩=false:=by have d:=gR h.own;have b:=h.own;rw[<- d]at b;exact aKx b j
theorem aPT{l:Tx}{n:Int}:aBS l n=false->li (dJ l n)=li l:=λb=>by unfold dJ;rw[kT.2 λc d=>?_];unfold aBS at b;have:=List.any_eq_false.1 b c d;simpa using this
theorem aSq{l:Tx}{n:Int}(h:aBS l n=true):li (dJ l n)<li l/\dJ l n=lU l n.toNat:=by
 unfold aBS at h;obtain⟨c,d,b⟩:=List.any_eq_true.1 h;have b:(c.1:Int)=n:=by simpa using b
 subst b;refine⟨?_,by rw[aSm];simp⟩;refine Nat.lt_of_le_of_ne (pO ..) λe=>?_;have:=List.length_filter_eq_length_iff.1 e c d;simp at this
def aKM (D:Nat->Prop) (w:World) (v:Value) (r:Ct×Int) (e:Ending) (w':World):Prop:=
 ∃v' us',e=.returned (.tuple #[.agg #[v'],.int .i64 r.2])/\CtV (fun q=>D q∨w.heap.size<=q) w' v' r.1 us'/\Fr v.ownBlock.toList w w'
theorem aIG(b:Array Value)(w:World):(callFunc 54 b).run prog w=.ok (.enter 54 b) w:=by kernel_rfl
theorem aIH(b:Array Value)(w:World):(callFunc 56 b).run prog w=.ok (.enter 56 b) w:=by kernel_rfl
theorem aCG(b:Array Value)(w:World):(callFunc 57 b).run prog w=.ok (.enter 57 b) w:=by kernel_rfl
section
variable {D:Nat->Prop}{w:World}{v:Value}{c:Ct}{us:List Value}
theorem Z2{P:Prop} (h:P:=by
 simp only[Act.put];clear hK;refine ab ?_;refine wB ?_;have HB9:=lh hb9;have HX:=lh (HQ.o _ _ ⟨_,_,rfl,(HH1.o.fr hf9 (fun q hq hm=>(HDX.o q hq).2 (xA.1 hm))).more (fun q hq=>(HDX.o q hq).1),HFX.o.trans hf9 fun x hx=>.inr (by rw[xA.1 hx];omega)⟩);clear hb9 hf9 hz9;go_wp2_with fail;exact qD (vC rfl rfl HB9.o Go.Proofs.Tryz.underlying37 rfl (by kernel_rfl)) rfl HX.o):P:=h
theorem Z74{P:Prop} (h:P:=by
 rw[hwb];have:=Blk.new ((w.alloc (.cells #[.slice A m cap] 37)).alloc (.cells #[.int .i64 what,.string cs,.int .i64 id,.string ts] 66)) 37 [.slice none 0 0]
 rwa [qB,qB] at this):P:=h
theorem Z86{P:Prop} (h:P:=by
 rw[hwb];have:=Blk.new (w.alloc (.cells #[.slice A m cap] 37)) 66 [.int .i64 what,.string cs,.int .i64 id,.string ts];rw[qB] at this;exact this.alloc _):P:=h
theorem aPU(h:CtV D w v c us)(i:OkC c)(H:li c<=1000000)(t:∀q,D q->q<w.heap.size)(what id:Int)(cs ts:ByteArray)(h1:what≠1)(h2:what≠2)(h3:what≠3)(Q:what≠4): Calls prog 31 #[il #[v],il #[ii ip what,sj cs,ii ip id,sj ts]] w (aKM D w v (c,1)):=by
 have E:(what==1)=false:=by rw[lE];exact h1
 have I:(what==2)=false:=by rw[lE];exact h2
 have J:(what==3)=false:=by rw[lE];exact h3
 have L:(what==4)=false:=by rw[lE];exact Q
 clear h1 h2 h3 Q;refine cA λR HQ=>?_;obtain⟨A,cap,rfl,j,_⟩:=jA h.own;have u:=H;obtain⟨m,hm⟩:∃m,li c=m:=⟨_,rfl⟩;have g:=h.co;rw[hm]at h H j g HQ⊢;obtain⟨d,hwb⟩:=nm (((w.alloc (iy #[si A m cap] 37)).alloc (iy #[ii ip what,sj cs,ii ip id,sj ts] 66)).alloc (iy #[si none 0 0] 37));have b:Fr [] w d:=by rw[hwb];exact(((jj [] w).alloc _).alloc _).alloc _
 have k:Blk d w.heap.size 37 [si A m cap]:=by rw[hwb];exact((jl w _ [si A m cap]).alloc _).alloc _
 have l:Blk d (w.heap.size+1) 66 [ii ip what,sj cs,ii ip id,sj ts]:=by exact Z86
 have n:Blk d (w.heap.size+2) 37 [si none 0 0]:=by exact Z74
 have⟨p,S,HM,T,r,f,z,U,B⟩:=hh9 (fO (h.fr b) (by rw[hm];exact H) cs) (h.fr b) hm b k l n j (g.fr b);have⟨V,W⟩:=hh2 t i;have y:=rW (s:=bA cs) i;have C:Hid (d.heap.size=w.heap.size+3):=lh (by rw[hwb];simp);clear h hm b k l n j g t i u;clear y;go_enter nR,oR;go_upto_region 1 with fail;rw[show w.heap.size+1+1=w.heap.size+2 by omega,<- hwb];clear hwb;have d:=r.o.a 0;have g:=f.o.a 0;have j:=f.o.a 1;have k:=f.o.a 2;have l:=f.o.a 3;go_wp2_with fail;refine p.o.mono ?_;rintro e n ⟨rfl,b⟩;have t:=aA b d;have u:=aA b g;have y:=aA b j;have M:=aA b k;have N:=aA b l;have⟨F,HH1,G,X,Y⟩:=hh5 (T.o.trans b) (S.o.fr b) (z.o.fr b) (B.o.fr b) (r.o.fr b);have O:=b.size;have Z:=C.o;clear b d g j k l p f;have HDX:Hid (∀q,D q->(D q∨w.heap.size<=q)/\q≠w.heap.size+2):=lh λq hq=>⟨Ii hq,by have:=V.o q hq;omega⟩;have HFX:Hid (Fr (si A m cap).ownBlock.toList w n):=lh (F.o.mono (by simp));go_upto_region 3 with fail;refine sB ?_;refine ab ?_;refine lp λK hK=>pA 37 (.tmp 4) (.tmp 15) rfl [si A m cap] rfl rfl G.o lD rfl (by intro d b;simp only[bB,kC,dC]at b;subst b;rfl) λb hb9 hf9 hz9=>hK _ _ ?_;exact Z2
theorem aMT(h:CtV D w v c us)(j:OkC c)(l:li c<=1000000)(Q:∀q,D q->q<w.heap.size)(what id:Int)(cs ts:ByteArray)(z:what=2∨what=3∨what=4)(S:pK c (bA cs)=false): Calls prog 31 #[il #[v],il #[ii ip what,sj cs,ii ip id,sj ts]] w (aKM D w v (c,6)):=by
 refine cA λL HQ=>?_;obtain⟨A,cap,rfl,k,_⟩:=jA h.own;have u:=l;obtain⟨m,hm⟩:∃m,li c=m:=⟨_,rfl⟩;have g:=h.co;rw[hm]at h l k g HQ⊢;obtain⟨d,hwb⟩:=nm (((w.alloc (iy #[si A m cap] 37)).alloc (iy #[ii ip what,sj cs,ii ip id,sj ts] 66)).alloc (iy #[si none 0 0] 37));have b:Fr [] w d:=by rw[hwb];exact(((jj [] w).alloc _).alloc _).alloc _
 have n:Blk d w.heap.size 37 [si A m cap]:=by rw[hwb];exact((jl w _ [si A m cap]).alloc _).alloc _
 have p:Blk d (w.heap.size+1) 66 [ii ip what,sj cs,ii ip id,sj ts]:=by exact Z86
 have t:Blk d (w.heap.size+2) 37 [si none 0 0]:=by exact Z74
 have⟨i,T,HM,U,r,f,B,V,C⟩:=hh9 (fO (h.fr b) (by rw[hm];exact l) cs) (h.fr b) hm b n p t k (g.fr b);have⟨W,X⟩:=hh2 Q j;have l:=rW (s:=bA cs) j;have y:Hid (d.heap.size=w.heap.size+3):=lh (by rw[hwb];simp);clear h hm b n p t k g Q j u;obtain⟨_,b⟩|⟨hx,_⟩:=l;·rw[b]at i;clear b S;obtain rfl|rfl|rfl:=z;all_goals go_enter nR,oR;go_upto_region 1 with fail;rw[show w.heap.size+1+1=w.heap.size+2 by omega,<- hwb];clear hwb;have d:=r.o.a 0;have g:=f.o.a 0;have k:=f.o.a 1;have l:=f.o.a 2;have n:=f.o.a 3;go_wp2_with fail;refine i.o.mono ?_;rintro e p ⟨rfl,b⟩;have t:=aA b d;have u:=aA b g;have z:=aA b k;have E:=aA b l;have F:=aA b n;have⟨G,HH1,H,Y,Z⟩:=hh5 (U.o.trans b) (T.o.fr b) (B.o.fr b) (C.o.fr b) (r.o.fr b);have I:=b.size;have J:=y.o;clear b d g k l n i f;have HDX:Hid (∀q,D q->(D q∨w.heap.size<=q)/\q≠w.heap.size+2):=lh λq hq=>⟨Ii hq,by have:=W.o q hq;omega⟩;have HFX:Hid (Fr (si A m cap).ownBlock.toList w p):=lh (G.o.mono (by simp));go_upto_region 14 with fail;refine sB ?_;refine ab ?_;refine lp λK hK=>pA 37 (.tmp 4) (.tmp 36) rfl [si A m cap] rfl rfl H.o lD rfl (by intro d b;simp only[bB,kC,dC]at b;subst b;rfl) λb hb9 hf9 hz9=>hK _ _ ?_;exact Z2
 rw[S]at hx;cases hx
theorem Z84{P:Prop} (h:P:=by
 go_wp2_with fail;exact qD (vC rfl rfl HB9.o Go.Proofs.Tryz.underlying37 rfl (by kernel_rfl)) rfl HX.o):P:=h
theorem aMU(h:CtV D w v c us)(N:OkC c)(T:li c<=1000000)(B:∀q,D q->q<w.heap.size)(i:Int)(cs j:ByteArray): Calls prog 31 #[il #[v],il #[ii ip 1,sj cs,ii ip i,sj j]] w (aKM D w v (if nmB (bA cs)=false then (c,1) else if pK c (bA cs)=true then (c,7) else (aAG c (bA cs),0))):=by
 refine cA λb0 HQ=>?_;obtain⟨m,p,rfl,u,_⟩:=jA h.own;have C:=T;obtain⟨g,hm⟩:∃g,li c=g:=⟨_,rfl⟩;have t:=h.co;rw[hm]at h T u t HQ⊢;obtain⟨d,k⟩:=nm (((w.alloc (iy #[si m g p] 37)).alloc (iy #[ii ip 1,sj cs,ii ip i,sj j] 66)).alloc (iy #[si none 0 0] 37));have b:Fr [] w d:=by rw[k];exact(((jj [] w).alloc _).alloc _).alloc _
 have y:Blk d w.heap.size 37 [si m g p]:=by rw[k];exact((jl w _ [si m g p]).alloc _).alloc _
 have z:Blk d (w.heap.size+1) 66 [ii ip 1,sj cs,ii ip i,sj j]:=by rw[k];have:=jl (w.alloc (iy #[si m g p] 37)) 66 [ii ip 1,sj cs,ii ip i,sj j];rw[qB]at this;exact this.alloc _
 have A:Blk d (w.heap.size+2) 37 [si none 0 0]:=by rw[k];have:=jl ((w.alloc (iy #[si m g p] 37)).alloc (iy #[ii ip 1,sj cs,ii ip i,sj j] 66)) 37 [si none 0 0];rwa [qB,qB]at this
 have⟨n,HH,HM,HF,r,f,J,b4,L⟩:=hh9 (fO (h.fr b) (by rw[hm];exact T) cs) (h.fr b) hm b y z A u (t.fr b);have⟨HD,b5⟩:=hh2 B N;have O:=rW (s:=bA cs) N;have U:Hid (d.heap.size=w.heap.size+3):=lh (by rw[k];simp);clear h hm b y z A u t B N C;cases F:nmB (bA cs) with
 | false=>rw[F,iA rfl]at HQ;have Q:=lh F;clear F O;go_enter nR,oR;go_upto_region 1 with fail;rw[show w.heap.size+1+1=w.heap.size+2 by omega,<- k];clear k;have t:=r.o.a 0;have u:=f.o.a 0;have y:=f.o.a 1;have z:=f.o.a 2;have A:=f.o.a 3;go_wp2_with fail;refine n.o.mono ?_;rintro e M ⟨rfl,b⟩;have B:=aA b t;have G:=aA b u;have E:=aA b y;have H:=aA b z;have I:=aA b A;have⟨i,HH1,j,a0,a1⟩:=hh5 (HF.o.trans b) (HH.o.fr b) (J.o.fr b) (L.o.fr b) (r.o.fr b);have V:=b.size;have W:=U.o;clear b t u y z A n f;go_wp2_with fail;refine(aMR (w:=M) cs).mono ?_;rw[Q.o];rintro e S ⟨rfl,d⟩;replace B:=aA d B;replace i:=lh (i.o.trans d);replace HH1:=lh (HH1.o.fr d);replace j:=lh (j.o.fr d);have X:=d.size;clear d G E H I;have HDX:Hid (∀q,D q->(D q∨w.heap.size<=q)/\q≠w.heap.size+2):=lh λq hq=>⟨Ii hq,by have:=HD.o q hq;omega⟩;have HFX:Hid (Fr (si m g p).ownBlock.toList w S):=lh (i.o.mono (by simp));go_upto_region 6 with fail;refine sB ?_;refine ab ?_;refine lp λK hK=>pA 37 (.tmp 4) (.tmp 22) rfl [si m g p] rfl rfl j.o lD rfl (by intro Z C;simp only[bB,kC,dC]at C;subst C;rfl) λR hb9 hf9 hz9=>hK _ _ ?_;exact Z2
 | true=>
  rw[F,eA (by decide)]at HQ;have Q:=lh F;clear F;obtain⟨F,O⟩|⟨F,a4,a6,O,_⟩:=O
  ·rw[F,eA (by decide)]at HQ;rw[O]at n;clear O F;go_enter nR,oR;go_upto_region 1 with fail;rw[show w.heap.size+1+1=w.heap.size+2 by omega,<- k];clear k;have t:=r.o.a 0;have u:=f.o.a 0;have y:=f.o.a 1;have z:=f.o.a 2;have A:=f.o.a 3;go_wp2_with fail;refine n.o.mono ?_;rintro e M ⟨rfl,b⟩;have B:=aA b t;have G:=aA b u;have E:=aA b y;have H:=aA b z;have I:=aA b A;have⟨i,HH1,j,a0,a1⟩:=hh5 (HF.o.trans b) (HH.o.fr b) (J.o.fr b) (L.o.fr b) (r.o.fr b);have V:=b.size;have W:=U.o;clear b t u y z A n f;go_wp2_with fail;refine(aMR (w:=M) cs).mono ?_;rw[Q.o];rintro e S ⟨rfl,d⟩;replace B:=aA d B;replace E:=aA d E;replace i:=lh (i.o.trans d);replace HH1:=lh (HH1.o.fr d);replace j:=lh (j.o.fr d);have X:=d.size;have Y:=lh (aSo HH1.o (by rw[HM.o];exact T) (λq hq=>by have:=HD.o q hq;omega) cs);clear d G H I;go_upto_region 9 with fail;refine sB ?_;iterate 3 (refine ab ?_)
   refine lp λK hK=>kA (l:=[.tmp 26,.tmp 28]) rfl [il #[si m g p],sj cs] rfl (aIG _) (Y.o.mono ?_);rintro e a7 ⟨v3,a8,rfl,Y,a2,T⟩;refine⟨_,rfl,hK _ _ ?_⟩;simp only[nrm];clear hK;have⟨a5,a9,a'⟩:=hh3 Y (j.o.fr T) (i.o.trans T);have a3:=T.size;clear Y a2 T;refine lp λK hK=>pA 37 (.tmp 4) (.tmp 29) rfl [v3] rfl rfl a9.o lD rfl (by intro Z C;simp only[bB,kC,dC]at C;subst C;obtain⟨_,_,rfl,_,_⟩:=jA a5.o.own;rfl) λR hb9 hf9 hz9=>hK _ _ ?_;simp only[Act.put];clear hK;refine ab ?_;refine wB ?_;have⟨HB9,HX⟩:=hh2 hb9 (HQ.o _ _ ⟨_,_,rfl,(a5.o.fr hf9 (λq hq hm=>by have:=xA.1 hm;obtain h|h:=hq;have:=HD.o q h;omega;omega)).more (λq hq=>by obtain h|h:=hq;exact Ii h;exact Ij (by omega)),(a'.o.mono (by simp)).trans hf9 λx hx=>Ij (by rw[xA.1 hx];omega)⟩);clear hb9 hf9 hz9;exact Z84
  rw[F,iA rfl]at HQ;rw[O]at n;clear O F;go_enter nR,oR;go_upto_region 1 with fail;rw[show w.heap.size+1+1=w.heap.size+2 by omega,<- k];clear k;have t:=r.o.a 0;have u:=f.o.a 0;have y:=f.o.a 1;have z:=f.o.a 2;have A:=f.o.a 3;go_wp2_with fail;refine n.o.mono ?_;rintro e M ⟨rfl,b⟩;have B:=aA b t;have G:=aA b u;have E:=aA b y;have H:=aA b z;have I:=aA b A;have⟨i,HH1,j,a0,a1⟩:=hh5 (HF.o.trans b) (HH.o.fr b) (J.o.fr b) (L.o.fr b) (r.o.fr b);have V:=b.size;have W:=U.o;clear b t u y z A n f;go_wp2_with fail;refine(aMR (w:=M) cs).mono ?_;rw[Q.o];rintro e S ⟨rfl,d⟩;replace B:=aA d B;replace i:=lh (i.o.trans d);replace HH1:=lh (HH1.o.fr d);replace j:=lh (j.o.fr d);have X:=d.size;clear d G E H I;have HDX:Hid (∀q,D q->(D q∨w.heap.size<=q)/\q≠w.heap.size+2):=lh λq hq=>⟨Ii hq,by have:=HD.o q hq;omega⟩;have HFX:Hid (Fr (si m g p).ownBlock.toList w S):=lh (i.o.mono (by simp));go_upto_region 8 with fail;refine sB ?_;refine ab ?_;refine lp λK hK=>pA 37 (.tmp 4) (.tmp 25) rfl [si m g p] rfl rfl j.o lD rfl (by intro Z C;simp only[bB,kC,dC]at C;subst C;rfl) λR hb9 hf9 hz9=>hK _ _ ?_;exact Z2
theorem aMV(h:CtV D w v c us)(t:OkC c)(x:li c<=1000000)(B:∀q,D q->q<w.heap.size)(i:Int)(cs m:ByteArray)(C:pK c (bA cs)=true): Calls prog 31 #[il #[v],il #[ii ip 2,sj cs,ii ip i,sj m]] w (aKM D w v (bY c (bA cs),0)):=by
 refine cA λb4 I=>?_;obtain⟨k,n,rfl,r,_⟩:=jA h.own;have F:=x;obtain⟨j,u⟩:∃j,li c=j:=⟨_,rfl⟩;have p:=h.co;rw[u]at h x r p I⊢;obtain⟨g,f⟩:=nm (((w.alloc (iy #[si k j n] 37)).alloc (iy #[ii ip 2,sj cs,ii ip i,sj m] 66)).alloc (iy #[si none 0 0] 37));have d:Fr [] w g:=by rw[f];exact(((jj [] w).alloc _).alloc _).alloc _
 have y:Blk g w.heap.size 37 [si k j n]:=by rw[f];exact((jl w _ [si k j n]).alloc _).alloc _
 have z:Blk g (w.heap.size+1) 66 [ii ip 2,sj cs,ii ip i,sj m]:=by rw[f];have:=jl (w.alloc (iy #[si k j n] 37)) 66 [ii ip 2,sj cs,ii ip i,sj m];rw[qB]at this;exact this.alloc _
 have A:Blk g (w.heap.size+2) 37 [si none 0 0]:=by rw[f];have:=jl ((w.alloc (iy #[si k j n] 37)).alloc (iy #[ii ip 2,sj cs,ii ip i,sj m] 66)) 37 [si none 0 0];rwa [qB,qB]at this
 have⟨T,HH,HM,HF,a5,E,c9,a6,c'⟩:=hh9 (fO (h.fr d) (by rw[u];exact x) cs) (h.fr d) u d y z A r (p.fr d);have⟨HD,d0⟩:=hh2 B t;have i:=rW (s:=bA cs) t;have G:Hid (g.heap.size=w.heap.size+3):=lh (by rw[f];simp);clear h u d y z A r p B t F;obtain⟨x,_⟩|⟨_,d,b1,i,g,m,_⟩:=i;·rw[C]at x;cases x
 rw[i]at T;rw[<- m,aSp d0.o g]at I;have a2:d<j:=by have:=(uC.1 g).1;rw[HM.o]at this;exact this
 have a3:Wi ip ((d:Int)+1)=((d+1:Nat):Int):=ak;clear i C m g;go_enter nR,oR;go_upto_region 1 with fail;rw[show w.heap.size+1+1=w.heap.size+2 by omega,<- f];clear f;have g:=a5.o.a 0;have i:=E.o.a 0;have m:=E.o.a 1;have p:=E.o.a 2;have r:=E.o.a 3;go_wp2_with fail;refine T.o.mono ?_;rintro e t ⟨rfl,f⟩;have S:=aA f g;have a4:=aA f i;have y:=aA f m;have z:=aA f p;have A:=aA f r;have⟨d3,U,d4,a7,e3⟩:=hh5 (HF.o.trans f) (HH.o.fr f) (c9.o.fr f) (c'.o.fr f) (a5.o.fr f);have a8:=f.size;have a9:=G.o;clear f g i m p r T E;clear y z A;have r:=U.o.len;obtain⟨f,B⟩:∃f,c.zip us=f:=⟨_,rfl⟩;have A:li f=j:=by rw[<- B,aAO r,HM.o]
 have C:=aOh U.o;rw[B]at a7 C;have H:li (f.take d)=d:=by rw[pB,A];omega
 have L:li (f.drop (d+1))=j-(d+1):=by rw[vB,A]
 have F:∀g:Nat,f.flatMap clR=(f.take g).flatMap clR++(f.drop g).flatMap clR:=λg=>by rw[<- vO,bL]
 have V:Hid (0<j->∃p,k=some ⟨p,0,none⟩/\(∀(m:Nat) (i:Value),((f.take d).flatMap clR)[m]? = some i->t.cell? ⟨p,m,none⟩=some i)/\∀(m:Nat) (i:Value),((f.drop (d+1)).flatMap clR)[m]? = some i->t.cell? ⟨p,(d+1)*2+m,none⟩=some i):=lh λJ=>by
  obtain⟨p,z,b2,y⟩:=a7.o.cells J;refine⟨p,z,λm i g=>y m i ?_,λm i g=>y _ i ?_⟩;·rw[F d,yK (uC.1 g).1];exact g
  have G:li (f.take (d+1))=d+1:=(by rw[pB,A];omega);rw[F (d+1),mJ (by rw[sU,G];omega),sU,G,aDe];exact g
 have⟨M,a',O,HL,d5⟩:=hh5 H L C B r;have b0:d<=n:=by have:=a6.o;omega
 clear H L F C A B r;obtain⟨b3,X,Y,Z,R⟩:=info_parts aCa;go_upto_region 18 with fail;refine sB ?_;iterate 5 (refine ab ?_)
 refine lp λK hK=>?_;refine iE (.tmp 41) (.tmp 45) rfl 93 2 40 rV X Y Z R rfl (by omega) none 0 0 [] rfl (gD _ _ _ _) k d n ((f.take d).flatMap clR) rfl (by rw[sU,M.o]) (λJ=>by obtain⟨p,z,y,_⟩:=V.o (by omega);exact⟨_,z,λm i g=>by rw[Go.Addr.add_mid,nB];exact y m i g⟩) (λi g=>by obtain⟨F,H,g⟩:=wR.1 g;exact O.o F (yM H) i g) (by unfold maxLen;omega) (by omega) t.heap.size rfl λC L N a0 P Q=>hK _ _ ?_;simp only[nrm];clear hK;refine ab ?_;refine wB ?_;have A:Hid (CoO (w.heap.size+3) N (si C (0+d) L) (f.take d)):=lh (CoO.snoc (l:=[]) (w:=t) (v:=si none 0 0) (gD _ _ _ _) rfl M.o a0 λq k=>by
  obtain h|h:=Q q k;·exact Ii h
  exact Ij (by omega))
 have B:Hid (Fr [] t N):=lh P;have W:Hid (∀q,(si C (0+d) L).ownBlock=some q->q=t.heap.size):=lh λq k=>by
  obtain h|h:=Q q k;·cases h
  exact h
 have a1:=aA P S;clear a0 P Q S;rw[nB]at A W⊢;have P:(0:Int)<=(d:Int)+1:=by omega
 have G:(d:Int)+1<=(j:Int):=by omega
 go_upto_region 19 with fail;refine sB ?_;iterate 6 (refine ab ?_)
 refine lp λK hK=>?_;refine iE (.tmp 47) (.tmp 52) rfl 93 2 40 rV X Y Z R rfl (by omega) C d L ((f.take d).flatMap clR) rfl (by have C:=A.o;unfold CoO at C;rw[M.o]at C;exact gF C) _ (j-(d+1)) _ ((f.drop (d+1)).flatMap clR) rfl (by rw[sU,a'.o]) (λJ=>by
  obtain⟨p,z,_,y⟩:=V.o (by omega);refine⟨⟨p,(d+1)*2,none⟩,?_,λm i g=>?_⟩;·have p:¬ n=d+1:=(by have:=a6.o;omega);simp[p,z,Go.Addr.add_mid]
  rw[Go.Addr.add_mid];exact aA B.o (y m i g)) (λi g=>by obtain⟨F,H,g⟩:=wR.1 g;exact O.o F (pJ H) i g) (by unfold maxLen;omega) (by omega) N.heap.size rfl λC F p G H J=>hK _ _ ?_
 simp only[nrm];clear hK;refine ab ?_;refine wB ?_;have N:=B.o.size;have y:=CoO.snoc A.o M.o a'.o G λq k=>by
  obtain h|h:=J q k;·exact Ii h
  exact Ij (by omega)
 have m:Fr [] t p:=B.o.trans H λB x=>Ij (by rw[W.o B (by simpa using x)];exact tA _);have r:=d5.o;have t:f.take d=(c.take d).zip (us.take d):=by rw[<- HL.o,aHy,List.take_zipWith];rfl
 have z:f.drop (d+1)=(c.drop (d+1)).zip (us.drop (d+1)):=by rw[<- HL.o,aHy,List.drop_zipWith];rfl
 have n:f.take d++f.drop (d+1)=(c.take d++c.drop (d+1)).zip (us.take d++us.drop (d+1)):=by rw[aLw (by rw[pB,pB,r]),<- t,<- z]
 have A:CtV (λq=>D q∨w.heap.size+3<=q) p (si C (d+(j-(d+1))) F) (c.take d++c.drop (d+1)) (us.take d++us.drop (d+1)):=by
  refine CtV.of_co (b:=w.heap.size+3) ?_ (by rw[<- n];exact y) (λq k=>Ij k) λL f=>?_;·rw[iB,iB,pB,pB,vB,vB,r]
  rw[<- n]at f;have p:=U.o.all;rw[HL.o]at p;obtain f|f:=sD.1 f;·exact((p L (yM f)).fr m).more λq k=>Ii k
  exact((p L (pJ f)).fr m).more λq k=>Ii k
 have⟨d7,d8,d9⟩:=hh3 A (d3.o.trans m) (d4.o.fr m);clear A m y t z n r G H J a1;generalize d+(j-(d+1))=d at *;go_upto_region 20 with fail;refine sB ?_;iterate 2 (refine ab ?_)
 refine lp λK hK=>pA 37 (.tmp 4) (.tmp 55) rfl [si C d F] rfl rfl d9.o lD rfl (by intro i g;simp only[bB,kC,dC]at g;subst g;rfl) λi f d g=>hK _ _ ?_;simp only[Act.put];clear hK;refine ab ?_;refine wB ?_;have⟨d',HX⟩:=hh2 f (I.o _ _ ⟨_,_,rfl,(d7.o.fr d (λq k u=>by have:=xA.1 u;obtain h|h:=k;have:=HD.o q h;omega;omega)).more (λq k=>by obtain h|h:=k;exact Ii h;exact Ij (by omega)),(d8.o.mono (by simp)).trans d λB x=>Ij (by rw[xA.1 x];omega)⟩);clear f d g;go_wp2_with fail;all_goals exact qD (vC rfl rfl d'.o Go.Proofs.Tryz.underlying37 rfl (by kernel_rfl)) rfl HX.o
theorem Z65{P:Prop} (h:P:=by
 simp only[Act.put];clear hK;refine ab ?_;refine wB ?_;have HB9:=lh hb9;have HX:=lh (HQ.o _ _ ⟨_,_,rfl,(HCX.o.fr hf9 (fun q hq hm=>(HDX.o q hq).2 (xA.1 hm))).more (fun q hq=>(HDX.o q hq).1),HFX.o.trans hf9 fun x hx=>.inr (by rw[xA.1 hx];omega)⟩);clear hb9 hf9 hz9;go_wp2_with fail;exact qD (vC rfl rfl HB9.o Go.Proofs.Tryz.underlying37 rfl (by kernel_rfl)) rfl HX.o):P:=h
theorem aPV(h:CtV D w v c us)(u:OkC c)(z:li c<=1000000)(ht:∀y∈c,li y.2<=1000000)(E:∀q,D q->q<w.heap.size)(j:Int)(cs i:ByteArray)(F:pK c (bA cs)=true): Calls prog 31 #[il #[v],il #[ii ip 3,sj cs,ii ip j,sj i]] w (aKM D w v (if idB j=false then (c,1) else if 65536<li (bA i) then (c,4) else (iW c (bA cs) λl=>with_ l j.toNat (bA i),0))):=by
 have a2:=lh ht;clear ht;refine cA λa8 HQ=>?_;obtain⟨n,k,rfl,r,_⟩:=jA h.own;have G:=z;obtain⟨f,hm⟩:∃f,li c=f:=⟨_,rfl⟩;have p:=h.co;rw[hm]at h z r p HQ⊢;obtain⟨g,m⟩:=nm (((w.alloc (iy #[si n f k] 37)).alloc (iy #[ii ip 3,sj cs,ii ip j,sj i] 66)).alloc (iy #[si none 0 0] 37));have b:Fr [] w g:=by rw[m];exact(((jj [] w).alloc _).alloc _).alloc _
 have A:Blk g w.heap.size 37 [si n f k]:=by rw[m];exact((jl w _ [si n f k]).alloc _).alloc _
 have B:Blk g (w.heap.size+1) 66 [ii ip 3,sj cs,ii ip j,sj i]:=by rw[m];have:=jl (w.alloc (iy #[si n f k] 37)) 66 [ii ip 3,sj cs,ii ip j,sj i];rw[qB]at this;exact this.alloc _
 have C:Blk g (w.heap.size+2) 37 [si none 0 0]:=by rw[m];have:=jl ((w.alloc (iy #[si n f k] 37)).alloc (iy #[ii ip 3,sj cs,ii ip j,sj i] 66)) 37 [si none 0 0];rwa [qB,qB]at this
 have⟨t,HH,HM,HF,H,d,V,c8,X⟩:=hh9 (fO (h.fr b) (by rw[hm];exact z) cs) (h.fr b) hm b A B C r (p.fr b);have⟨HD,b8⟩:=hh2 E u;have z:=rW (s:=bA cs) u;have S:Hid (g.heap.size=w.heap.size+3):=lh (by rw[m];simp);clear h hm b A B C r p E u G;obtain⟨hx,_⟩|⟨_,u,y,r,b,g,p⟩:=z;·rw[F]at hx;cases hx
 rw[r]at t;have a4:u<f:=by have:=(uC.1 b).1;rw[HM.o]at this;exact this
 have a5:(u:Int)<(f:Int):=by omega
 have⟨HY,b',d0⟩:=hh3 b g p;clear r F g b p;rw[yA]at HQ;cases F:idB j with
 | false=>rw[F,iA rfl]at HQ;have p:=lh (id23 (w:=w) j);go_enter nR,oR;go_upto_region 1 with fail;rw[show w.heap.size+1+1=w.heap.size+2 by omega,<- m];clear m;have z:=H.o.a 0;have A:=d.o.a 0;have B:=d.o.a 1;have C:=d.o.a 2;have E:=d.o.a 3;go_wp2_with fail;refine t.o.mono ?_;rintro e g ⟨rfl,b⟩;have J:=aA b z;have N:=aA b A;have O:=aA b B;have L:=aA b C;have M:=aA b E;have⟨G,HH1,I,a6,a7⟩:=hh5 (HF.o.trans b) (HH.o.fr b) (V.o.fr b) (X.o.fr b) (H.o.fr b);have U:=b.size;have W:=S.o;clear b z A B C E t d;go_wp2_with fail;refine(id23 (w:=g) j).mono ?_;rw[F];rintro e a0 ⟨rfl,rfl⟩;clear N O L M p F;have HDX:Hid (∀q,D q->(D q∨w.heap.size<=q)/\q≠w.heap.size+2):=lh λq hq=>⟨Ii hq,by have:=HD.o q hq;omega⟩;have HFX:Hid (Fr (si n f k).ownBlock.toList w g):=lh (G.o.mono (by simp));go_upto_region 23 with fail;refine sB ?_;refine ab ?_;refine lp λK hK=>pA 37 (.tmp 4) (.tmp 62) rfl [si n f k] rfl rfl I.o lD rfl (by intro T p;simp only[bB,kC,dC]at p;subst p;rfl) λa1 hb9 hf9 hz9=>hK _ _ ?_;exact Z2
 | true=>
  rw[F,eA (by decide)]at HQ;have Y:=lh F;by_cases Q:65536<i.size;·have R:(65536:Int)<(i.size:Int):=(by omega);rw[iA Q]at HQ;clear Q F;go_enter nR,oR;go_upto_region 1 with fail;rw[show w.heap.size+1+1=w.heap.size+2 by omega,<- m];clear m;have z:=H.o.a 0;have A:=d.o.a 0;have B:=d.o.a 1;have C:=d.o.a 2;have E:=d.o.a 3;go_wp2_with fail;refine t.o.mono ?_;rintro e g ⟨rfl,b⟩;have J:=aA b z;have N:=aA b A;have O:=aA b B;have L:=aA b C;have M:=aA b E;have⟨G,HH1,I,a6,a7⟩:=hh5 (HF.o.trans b) (HH.o.fr b) (V.o.fr b) (X.o.fr b) (H.o.fr b);have U:=b.size;have W:=S.o;clear b z A B C E t d;go_wp2_with fail;refine(id23 (w:=g) j).mono ?_;rw[Y.o];rintro e a0 ⟨rfl,rfl⟩;have HDX:Hid (∀q,D q->(D q∨w.heap.size<=q)/\q≠w.heap.size+2):=lh λq hq=>⟨Ii hq,by have:=HD.o q hq;omega⟩;have HFX:Hid (Fr (si n f k).ownBlock.toList w g):=lh (G.o.mono (by simp));go_upto_region 25 with fail;refine sB ?_;refine ab ?_;refine lp λK hK=>pA 37 (.tmp 4) (.tmp 67) rfl [si n f k] rfl rfl I.o lD rfl (by intro T p;simp only[bB,kC,dC]at p;subst p;rfl) λa1 hb9 hf9 hz9=>hK _ _ ?_;exact Z2
  have R:¬ (65536:Int)<(i.size:Int):=(by omega);rw[eA Q,<- b'.o,aOi b8.o HY.o]at HQ;have a3:Hid (∃n:Nat,j=(n:Int)):=lh ⟨j.toNat,by have:=(cK.1 F).1;omega⟩;clear Q F;go_enter nR,oR;go_upto_region 1 with fail;rw[show w.heap.size+1+1=w.heap.size+2 by omega,<- m];clear m;have z:=H.o.a 0;have A:=d.o.a 0;have B:=d.o.a 1;have C:=d.o.a 2;have E:=d.o.a 3;go_wp2_with fail;refine t.o.mono ?_;rintro e g ⟨rfl,b⟩;have J:=aA b z;have N:=aA b A;have O:=aA b B;have L:=aA b C;have M:=aA b E;have⟨G,HH1,I,a6,a7⟩:=hh5 (HF.o.trans b) (HH.o.fr b) (V.o.fr b) (X.o.fr b) (H.o.fr b);have U:=b.size;have W:=S.o;clear b z A B C E t d;go_wp2_with fail;refine(id23 (w:=g) j).mono ?_;rw[Y.o];rintro e a0 ⟨rfl,rfl⟩;obtain⟨n,rfl⟩:=a3.o;rw[Int.toNat_natCast]at HQ;obtain⟨b,T,rfl,p,_,z,A⟩:=HH1.o.at_ HY.o;obtain⟨Q,S,rfl,_,_⟩:=jA A.1;obtain⟨j,B⟩:∃j,li y.2=j:=⟨_,rfl⟩;have U:=a2.o y (kF HY.o);rw[B]at z A;have⟨d1,m⟩:=hh2 B A;clear p B A;clear N O;go_upto_region 24 with fail;have W:decide ((65536:Int)<(i.size:Int))=false:=vH (by omega);clear R;go_upto_region 26 with fail;have B:g.drew.cell? ⟨w.heap.size,0,none⟩=some (si (some ⟨b,0,none⟩) f k):=J;have C:g.drew.cell? ⟨b,u*2+1,none⟩=some (si Q j S):=z;have E:g.drew.cell? ⟨w.heap.size+1,2,none⟩=some (ii ip (n:Int)):=L;have F:g.drew.cell? ⟨w.heap.size+1,3,none⟩=some (sj i):=M;refine aj (λA=>A.cell? ⟨w.heap.size,0,none⟩=some (si (some ⟨b,0,none⟩) f k)/\A.cell? ⟨b,u*2+1,none⟩=some (si Q j S)/\A.cell? ⟨w.heap.size+1,2,none⟩=some (ii ip (n:Int))/\A.cell? ⟨w.heap.size+1,3,none⟩=some (sj i)) [0,1,2,3,4,5,6,7,8,9,10,11,12] ?_;have r:Fr [] g g.drew:=(jj [] g).drew;have Y:=dI z;replace G:=lh (G.o.trans r);replace HH1:=lh (HH1.o.fr r);replace I:=lh (I.o.fr r);replace m:=lh (m.o.fr r);have R:=r.size;clear r J L M z;generalize g.drew=a0 at *;have M:=lh (aSn m.o U n i);refine tks [0,1,2,3,4,5,6,7,8,9,10,11,12] ?_;iterate 13 (refine ac ⟨B,C,E,F⟩ ?_)
  refine tke ?_;refine ag 13 λK hK=>?_;refine kA (l:=[.tmp 76,.tmp 78,.tmp 80]) rfl [si Q j S,ii ip (n:Int),sj i] rfl (aIH _) (M.o.mono ?_);rintro e j ⟨r,rfl,L,g⟩;have A:=aA g B;have N:=aA g C;have O:=aA g E;have Q:=aA g F;refine⟨_,rfl,hK _ _ (λ_=>⟨A,N,O,Q⟩) ?_⟩;simp only[nrm];clear hK;have S:Hid (TxV (λq=>D q∨w.heap.size+3<=q) j r (with_ y.2 n (bA i))):=lh (L.v λq hq=>Ij (by omega));have⟨Z,c5,c6⟩:=hh3 (HH1.o.fr g) (G.o.trans g) (I.o.fr g);obtain⟨r,z,rfl,_,_⟩:=jA L;clear g L B C E F M m;have m:=Z.o.free (u*2+1);refine af 14 (λh=>absurd h (by decide +kernel)) ?_;refine af 15 (λh=>absurd h (by decide +kernel)) ?_;refine ah 16 λK hK=>?_;refine rB (w':=j.setCell ⟨b,u*2+1,none⟩ (si r (li (with_ y.2 n (bA i))) z)) (by go_simp) (hK _ _ (λh=>absurd h (by decide +kernel)) ?_);simp only[Act.put];clear hK;refine _root_.Go.Proofs.YtebjhcjbfaaejaaGreatDoor.wd ?_ _;have g:Fr [b] j (j.setCell ⟨b,u*2+1,none⟩ (si r (li (with_ y.2 n (bA i))) z)):=(jj _ _).setCell (Ii (by simp)) _;have B:b<w.heap.size:=HD.o b (Z.o.blk b rfl);have J:=yD g A (by simp;omega);have⟨HCX,c7⟩:=hh2 (Z.o.set HY.o S.o (λq hq=>Ii hq)) (c6.o.fr g (by simp;omega));have HFX:Hid (Fr (si (some ⟨b,0,none⟩) f k).ownBlock.toList w (j.setCell ⟨b,u*2+1,none⟩ (si r (li (with_ y.2 n (bA i))) z))):=lh ((c5.o.mono (by simp)).trans g λx hx=>Ii (by simpa[Value.ownBlock]using hx));have HDX:Hid (∀q,(D q∨w.heap.size+3<=q)->(D q∨w.heap.size<=q)/\q≠w.heap.size+2):=lh λq hq=>by
   obtain h|h:=hq;·exact⟨Ii h,by have:=HD.o q h;omega⟩
   exact⟨Ij (by omega),by omega⟩
  clear g A N O Q m;generalize j.setCell ⟨b,u*2+1,none⟩ (si r (li (with_ y.2 n (bA i))) z)=g at *;go_upto_region 27 with fail;refine sB ?_;refine ab ?_;refine lp λK hK=>pA 37 (.tmp 4) (.tmp 84) rfl [si (some ⟨b,0,none⟩) f k] rfl rfl c7.o lD rfl (by intro T p;simp only[bB,kC,dC]at p;subst p;rfl) λa1 hb9 hf9 hz9=>hK _ _ ?_;exact Z65
theorem aMW(h:CtV D w v c us)(T:OkC c)(t:li c<=1000000)(ht:∀y∈c,li y.2<=1000000)(B:∀q,D q->q<w.heap.size)(f:Int)(cs m:ByteArray)(C:pK c (bA cs)=true): Calls prog 31 #[il #[v],il #[ii ip 4,sj cs,ii ip f,sj m]] w (aKM D w v (if aBS (txC c (bA cs)) f=true then (iW c (bA cs) λl=>lU l f.toNat,0) else (c,6))):=by
 have L:=lh ht;clear ht;refine cA λR HQ=>?_;obtain⟨j,g,rfl,p,_⟩:=jA h.own;have F:=t;obtain⟨b,hm⟩:∃b,li c=b:=⟨_,rfl⟩;have n:=h.co;rw[hm]at h t p n HQ⊢;obtain⟨k,d⟩:=nm (((w.alloc (iy #[si j b g] 37)).alloc (iy #[ii ip 4,sj cs,ii ip f,sj m] 66)).alloc (iy #[si none 0 0] 37));have i:Fr [] w k:=by rw[d];exact(((jj [] w).alloc _).alloc _).alloc _
 have u:Blk k w.heap.size 37 [si j b g]:=by rw[d];exact((jl w _ [si j b g]).alloc _).alloc _
 have z:Blk k (w.heap.size+1) 66 [ii ip 4,sj cs,ii ip f,sj m]:=by rw[d];have:=jl (w.alloc (iy #[si j b g] 37)) 66 [ii ip 4,sj cs,ii ip f,sj m];rw[qB]at this;exact this.alloc _
 have A:Blk k (w.heap.size+2) 37 [si none 0 0]:=by rw[d];have:=jl ((w.alloc (iy #[si j b g] 37)).alloc (iy #[ii ip 4,sj cs,ii ip f,sj m] 66)) 37 [si none 0 0];rwa [qB,qB]at this
 have⟨J,HH,HM,HF,a0,r,a9,c2,a'⟩:=hh9 (fO (h.fr i) (by rw[hm];exact t) cs) (h.fr i) hm i u z A p (n.fr i);have⟨HD,b0⟩:=hh2 B T;have j:=rW (s:=bA cs) T;have H:Hid (k.heap.size=w.heap.size+3):=lh (by rw[d];simp);clear h hm i u z A p n B T F;obtain⟨hx,_⟩|⟨_,j,y,i,k,m,n⟩:=j;·rw[C]at hx;cases hx
 rw[i]at J;have S:j<b:=by have:=(uC.1 k).1;rw[HM.o]at this;exact this
 have U:(j:Int)<(b:Int):=by omega
 have⟨HY,b6,b7⟩:=hh3 k m n;clear i C m k n;rw[b7.o]at HQ;go_enter nR,oR;go_upto_region 1 with fail;rw[show w.heap.size+1+1=w.heap.size+2 by omega,<- d];clear d;have m:=a0.o.a 0;have n:=r.o.a 0;have u:=r.o.a 1;have z:=r.o.a 2;have A:=r.o.a 3;go_wp2_with fail;refine J.o.mono ?_;rintro e k ⟨rfl,d⟩;have t:=aA d m;have V:=aA d n;have C:=aA d u;have M:=aA d z;have O:=aA d A;have⟨F,p,G,c6,c7⟩:=hh5 (HF.o.trans d) (HH.o.fr d) (a9.o.fr d) (a'.o.fr d) (a0.o.fr d);have W:=d.size;have X:=H.o;clear d m n u z A J r;obtain⟨d,N,rfl,m,_,z,A⟩:=p.o.at_ HY.o;obtain⟨H,I,rfl,_,_⟩:=jA A.1;obtain⟨n,B⟩:∃n,li y.2=n:=⟨_,rfl⟩;have Q:=L.o y (kF HY.o);rw[B]at z A;have⟨a1,u⟩:=hh2 B A;clear m B A;clear C O;go_upto_region 28 with fail;have A:k.drew.cell? ⟨w.heap.size,0,none⟩=some (si (some ⟨d,0,none⟩) b g):=t;have B:k.drew.cell? ⟨d,j*2+1,none⟩=some (si H n I):=z;have C:k.drew.cell? ⟨w.heap.size+1,2,none⟩=some (ii ip f):=M;refine aj (λL=>L.cell? ⟨w.heap.size,0,none⟩=some (si (some ⟨d,0,none⟩) b g)/\L.cell? ⟨d,j*2+1,none⟩=some (si H n I)/\L.cell? ⟨w.heap.size+1,2,none⟩=some (ii ip f)) [0,1,2,3,4,5,6,7] ?_;have i:Fr [] k k.drew:=(jj [] k).drew;have Y:=dI z;replace F:=lh (F.o.trans i);replace p:=lh (p.o.fr i);replace G:=lh (G.o.fr i);replace u:=lh (u.o.fr i);have Z:=i.size;clear i t M z;generalize k.drew=a2 at *;have L:=lh (aCw u.o Q f);refine tks [0,1,2,3,4,5,6,7] ?_;iterate 8 (refine ac ⟨A,B,C⟩ ?_)
 refine tke ?_;refine ag 8 λK hK=>kA (l:=[.tmp 90,.tmp 92]) rfl [si H n I,ii ip f] rfl (aCG _) (L.o.mono ?_);rintro e k ⟨Q,rfl,H,i⟩;have z:=aA i A;have I:=aA i B;have M:=aA i C;refine⟨_,rfl,hK _ _ (λ_=>⟨z,I,M⟩) ?_⟩;simp only[nrm];clear hK;have O:Hid (TxV (λq=>D q∨w.heap.size+3<=q) k Q (dJ y.2 f)):=lh (H.v λq hq=>Ij (by omega));have⟨E,a3,a4⟩:=hh3 (p.o.fr i) (F.o.trans i) (G.o.fr i);obtain⟨F,G,rfl,_,_⟩:=jA H;clear i H A B C L u M;refine af 9 (λh=>absurd h (by decide +kernel)) ?_;refine _root_.Go.Proofs.YtebjhcjbfaaejaaGreatDoor.wd ?_ _;have C:d<w.heap.size:=HD.o d (E.o.blk d rfl);have t:=z;cases i:aBS y.2 f with
 | false=>
  rw[i,eA (by decide)]at HQ;have p:=aPT i;rw[a1.o]at p;have A:(((li (dJ y.2 f):Nat):Int)==(n:Int))=true:=by rw[p];simp
  have HDX:Hid (∀q,D q->(D q∨w.heap.size<=q)/\q≠w.heap.size+2):=lh λq hq=>⟨Ii hq,by have:=HD.o q hq;omega⟩;have HFX:Hid (Fr (si (some ⟨d,0,none⟩) b g).ownBlock.toList w k):=lh (a3.o.mono (by simp));clear i p;go_upto_region 30 with fail;refine sB ?_;refine ab ?_;refine lp λK hK=>pA 37 (.tmp 4) (.tmp 104) rfl [si (some ⟨d,0,none⟩) b g] rfl rfl a4.o lD rfl (by intro N m;simp only[bB,kC,dC]at m;subst m;rfl) λB hb9 hf9 hz9=>hK _ _ ?_;simp only[Act.put];clear hK;refine ab ?_;refine wB ?_;have⟨HB9,HX⟩:=hh2 hb9 (HQ.o _ _ ⟨_,_,rfl,(E.o.fr hf9 (λq hq hm=>(HDX.o q hq).2 (xA.1 hm))).more (λq hq=>(HDX.o q hq).1),HFX.o.trans hf9 λx hx=>Ij (by rw[xA.1 hx];omega)⟩);clear hb9 hf9 hz9;exact Z84
 | true=>
  rw[i,iA rfl,<- b6.o,aOi b0.o HY.o]at HQ;obtain⟨p,u⟩:=aSq i;rw[a1.o]at p;rw[<- u]at HQ;have A:(((li (dJ y.2 f):Nat):Int)==(n:Int))=false:=by rw[lE];omega
  have n:=E.o.free (j*2+1);clear i u;go_upto_region 32 with fail;have i:Fr [d] k (k.setCell ⟨d,j*2+1,none⟩ (si F (li (dJ y.2 f)) G)):=(jj _ _).setCell (Ii (by simp)) _;replace t:=yD i z (by simp;omega);have⟨HCX,c1⟩:=hh2 (E.o.set HY.o O.o (λq hq=>Ii hq)) (a4.o.fr i (by simp;omega));have HFX:Hid (Fr (si (some ⟨d,0,none⟩) b g).ownBlock.toList w (k.setCell ⟨d,j*2+1,none⟩ (si F (li (dJ y.2 f)) G))):=lh ((a3.o.mono (by simp)).trans i λx hx=>Ii (by simpa[Value.ownBlock]using hx));have HDX:Hid (∀q,(D q∨w.heap.size+3<=q)->(D q∨w.heap.size<=q)/\q≠w.heap.size+2):=lh λq hq=>by
   obtain h|h:=hq;·exact⟨Ii h,by have:=HD.o q h;omega⟩
   exact⟨Ij (by omega),by omega⟩
  clear i z I n;generalize k.setCell ⟨d,j*2+1,none⟩ (si F (li (dJ y.2 f)) G)=i at *;go_upto_region 32 with fail;refine sB ?_;refine ab ?_;refine lp λK hK=>pA 37 (.tmp 4) (.tmp 111) rfl [si (some ⟨d,0,none⟩) b g] rfl rfl c1.o lD rfl (by intro N m;simp only[bB,kC,dC]at m;subst m;rfl) λB hb9 hf9 hz9=>hK _ _ ?_;exact Z65
theorem aPW(h:CtV D w v c us)(f:OkC c)(j:li c<=1000000)(ht:∀y∈c,li y.2<=1000000)(k:∀q,D q->q<w)(l:OpV): Calls prog 31 #[il #[v],il l.cells.toArray] w (aKM D w v (pQ c l.op)):=by
 obtain⟨d,b,g,i⟩:=l;show Calls _ _ #[il #[v],il #[d,sj b,g,sj i]] _ (aKM D w v (pQ c ⟨d,bA b,g,bA i⟩));unfold pQ;by_cases n:d=1;·subst n;rw[iA rfl];exact aMU h f j k g b i
 rw[eA n];by_cases l:d=2∨d=3∨d=4
 ·rw[iA l];cases m:pK c (bA b) with
  | false=>rw[iA rfl];exact aMT h f j k d g b i l m
  | true=>
   rw[eA (by decide)];obtain rfl|rfl|rfl:=l;·rw[iA rfl];exact aMV h f j k g b i m
   ·rw[eA (show ¬ (3:Int)=2 by decide),iA rfl];exact aPV h f j ht k g b i m
   rw[eA (show ¬ (4:Int)=2 by decide),eA (show ¬ (4:Int)=3 by decide)];exact aMW h f j ht k g b i m
 rw[eA l];exact aPU h f j k d g b i n (λe=>l (Ii e)) (λe=>l (Ij (Ii e))) (λe=>l (Ij (Ij e)))
end
theorem aOj(p:α->Bool)(l:List α)(x:α):li (l.takeWhile p++x::l.dropWhile p)=li l+1:=by have b:=congrArg List.length (xR (p:=p) (l:=l));rw[iB]at b;rw[iB,bD];omega
theorem aKN(l:Tx)(n:Nat):li (lU l n)<=li l:=pO ..
theorem aSr(l:Tx)(n:Nat)(s:List UInt8):li (with_ l n s)<=li l+1:=by have b:=aKN l n;unfold with_;rw[aOj];omega
theorem aOk(c:Ct)(b:OpC):(pQ c b).1.length<=li c+1:=by
 have f:li (bY c b.coll)<=li c:=pO ..;have g:li (aAG c b.coll)=li c+1:=aOj _ _ _;have h:∀(d:Tx->Tx) (e:Int),((iW c b.coll d,e):Ct×Int).1.length<=li c+1:=λd e=>by show(iW c b.coll d).length<=_;unfold iW;rw[cH];omega
 unfold pQ;repeat' split
 all_goals first|exact Nat.le_succ _|exact aLx f|exact uQ g|exact h _ _
theorem aSs{c:Ct}{M:Nat}(h:∀y∈c,li y.2<=M)(g:OpC):∀y∈(pQ c g).1,li y.2<=M+1:=by
 have f:∀y∈c,li y.2<=M+1:=λy b=>aLx (h y b);have k:∀y∈bY c g.coll,li y.2<=M+1:=λy b=>f y (dO.1 b).1;have l:∀y∈aAG c g.coll,li y.2<=M+1:=λy b=>by
  obtain rfl|b:=vM.1 b;·exact uB _
  exact f y b
 have j:∀i:Tx->Tx,(∀d,li (i d)<=li d+1)->∀y∈iW c g.coll i,li y.2<=M+1:=λi m y b=>by
  obtain⟨b,_⟩|⟨g,i,_,rfl⟩:=yF.1 b;·exact f y b
  exact vD (m g.2) (by have:=h g i;omega)
 unfold pQ;repeat' split
 all_goals first|exact f|exact k|exact l|exact j _ (λd=>aSr d _ _)|exact j _ (λd=>aLx (aKN d _))
theorem aOl{c:Ct}(h:OkC c)(d:OpC):OkC (pQ c d).1:=by
 unfold pQ;by_cases b:d.what=1
 ·rw[iA b];cases f:nmB d.coll with
  | false=>exact h
  | true=>
   rw[eA (by decide)];cases g:pK c d.coll with
   | true=>exact h
   | false=>exact h.made f g
 rw[eA b];split
 ·split
  ·exact h
  split;·exact h.kill
  split
  ·cases b:idB d.id with
   | false=>exact h
   | true=>
    rw[eA (by decide)];split;·exact h
    rename_i k;have j:=cK.1 b;refine h.set (λg b=>aKm _ _ b) λg b i f=>?_;obtain rfl|⟨f,_⟩:=aAH.1 f;·exact⟨by show d.id.toNat<_;omega,by show li d.text<=_;omega⟩
    exact b i f
  split;·exact h.set (λg b=>aIs _ b) λg b i f=>b i (cO.1 f).1
  exact h
 exact h
theorem aII{b:Ct}{N:Nat}(h0:li b<=N):∀(l:List OpC) {c:Ct},li c+li l<=N->(doC b c l).1.length<=N
 | [],_,h=>h
 | o::l,c,h=>by
  unfold doC;split;·exact aII h0 l (by have:=aOk c o;rw[bD]at h;omega)
  exact h0
theorem aMX{b:Ct}{N:Nat}(h0:∀y∈b,li y.2<=N):∀(l:List OpC) {c:Ct} {M:Nat},(∀y∈c,li y.2<=M)->M+li l<=N->∀y∈(doC b c l).1,li y.2<=N
 | [],c,M,h,hl=>λy b=>by have:=h y b;rw[List.length_nil]at hl;omega
 | o::l,c,M,h,hl=>by
  unfold doC;split;·exact aMX h0 l (aSs h o) (by rw[bD]at hl;omega)
  exact h0
theorem CtV.below{D:Nat->Prop}{w:World}{v:Value}{c:Ct}(h:CtV D w v c F):CtV (λb=>D b/\b<w) w v c F:=⟨h.len,h.own,λb d=>⟨h.blk b d,aG h.own b d⟩,λf g i j k=>⟨(h.txs f g i j k).1,λb d=>⟨(h.txs f g i j k).2 b d,aG (h.txs f g i j k).1 b d⟩⟩⟩
theorem aCx(b:Array Value)(w:World):(callFunc 31 b).run prog w=.ok (.enter 31 b) w:=by kernel_rfl
section
variable {P:Program}{W:World}{a:Act}{o:Oper}
theorem aPX{g off:Nat}{t:TypeId}{cs:List Value}{d:TypeDesc}{x:Operand}(b:o.op=.load t x)(c:a.eval x=pi (some ⟨g,off,none⟩))(f:W.rangeAt g off cs)(h:P.underlying t=some d)(i:d.isRow=true)(hi:(P.info? t).map (·.size)=some (li cs)):(execOp a.eval o).run P W=.ok (.value (il cs.toArray)) W:=by unfold execOp;simp only[b,c,Instr.loadAt,Instr.sureAddr,Sem.run_bind,Sem.run_pure,Result.andThen_ok,run_loadVar_mid W g off t cs d f h i hi]
end
def DoR (w:World) (c:Ct) (ops:List OpC) (M b6:Nat) (v:Value) (j:Nat) (v7:Value) (wr:World):Prop:=
 ∃(i:Nat) (ck:Ct) (vo:Value) (uso:List Value),i+j=ops.length/\v7=.int .i64 (i:Int)/\doC c c ops=doC c ck (ops.drop i)/\OkC ck/\ck.length<=c.length+i/\(∀y∈ck,y.2.length<=M+i)/\CtV (fun q=>w.heap.size+2<=q/\q≠b6/\q<wr.heap.size) wr vo ck uso/\Blk wr b6 37 [vo]/\Blk wr w.heap.size 37 [v]/\Blk wr (w.heap.size+1) 37 [.slice none 0 0]/\Fr [] w wr
structure DoD (w wr:World) (D1:Nat->Prop) (vo:Value) (r:Ct×Int) (v3:Value) (us3:List Value) (b8:Nat) (W:World):Prop where
 ct:CtV (fun q=>(D1 q∨wr.heap.size<=q)/\q≠b8) W v3 r.1 us3
 blk:Blk W b8 37 [v3]
 new:wr.heap.size<=b8
 fr:Fr vo.ownBlock.toList wr W
theorem aGJ{l m:List α}{k:Nat}{a:α}(h:l.take k=m.take k)(h1:l[k]? = some a)(h2:m[k]? = some a):l.take (k+1)=m.take (k+1):=by rw[eJ,eJ,h,h1,h2]
theorem aFt{a b:ByteArray}(h:a.toList=b.toList):a=b:=by rw[lN,lN]at h;exact aIm h
theorem Z31{P:Prop} (h:P:=by
 have hne:l1 ≠ l2:=fun e=>by
  have h3:=HA.o;rw[e,HB.o] at h3;exact heq (tE h3).symm
 go_upto_region 6 with fail
 go_quiet (fail)
 have HX:=lh (HQ.o _ _ ⟨false,rfl,by simp[hne],go nq⟩);clear go hne heq;go_wp2_with fail;exact HX.o):P:=h
theorem Z72{P:Prop} (h:P:=by
 have HM:=lh (aGJ HT.o HA.o HB.o);go_upto_region 6 with fail
 go_quiet (fail)
 have HG:=lh (go nq);clear go;go_wp2_with fail
 go_roundg (n - (k+1))
 case measure=>omega
 case rel=>exact⟨k+1,by omega,rfl,HM.o,HG.o⟩):P:=h
theorem Z85{P:Prop} (h:P:=by
 obtain rfl:k=n:=by omega
 have he:=HT.o;rw[zF (by rw[HN.o];exact tA _),zF (by rw[HN2.o];exact tA _)] at he;have HX:=lh (HQ.o _ _ ⟨true,rfl,by simp[he],HF.o⟩);clear he;go_wp2_with fail;exact HX.o):P:=h
theorem aGK{w:World}{v1 v2:Value}{l1 l2:List Int}(h1:kH w v1 (li l1) (l1.map oP) i)(h2:kH w v2 (li l2) (l2.map oP) m)(E:li l1<=1000000000): Calls prog 22 #[v1,v2] w λe w'=>∃b,e=iz (ij b)/\(b=true↔l1=l2)/\Fr [] w w':=by
 refine cA λR HQ=>?_;obtain⟨I,c1,y,rfl,_,p⟩:=h1;obtain⟨J,c2,z,rfl,_,q⟩:=h2;by_cases c:li l1=li l2
 ·obtain⟨n,l⟩:∃n,li l1=n:=⟨_,rfl⟩;have d:=c.symm.trans l;rw[l]at E p⊢;rw[d]at q⊢;have HN:=lh l;have HN2:=lh d;have t:=lh p;have u:=lh q;go_enter func22,ntmps22;go_wp2_with fail;go_loopg [5] n (λj v5 wr=>∃k:Nat,k+j=n/\v5=ii ip (k:Int)/\l1.take k=l2.take k/\Fr [] w wr)
  ·exact⟨0,by omega,rfl,rfl,jj _ _⟩
  obtain⟨k,L,rfl,A,B⟩:=hrel;have HT:=lh A;have HF:=lh B;by_cases f:k<n
  ·obtain⟨a,r⟩:∃a,l1[k]? = some a:=gx (by rw[HN.o];exact f);obtain⟨b,s⟩:∃b,l2[k]? = some b:=gx (by rw[HN2.o];exact f);obtain⟨rfl,C⟩:=t.o (by omega);obtain⟨rfl,D⟩:=u.o (by omega);have F:wr.cell? ⟨i,y+k,none⟩=some (ii ip a):=aA HF.o (C k (oP a) (by rw[wI,r];rfl));have G:wr.cell? ⟨m,z+k,none⟩=some (ii ip b):=aA HF.o (D k (oP b) (by rw[wI,s];rfl));have H:(k:Int)<(n:Int):=(by omega);have v:Wi ip ((k:Int)+1)=((k+1:Nat):Int):=ak;have HA:=lh r;have HB:=lh s;have go:∀nq,Fr [] w (wr.drewN nq):=λnq=>HF.o.drewN nq;by_cases heq:a=b
   ·subst heq;have g:(a==a)=true:=(by simp);exact Z72
   have g:(a==b)=false:=(by rw[lE];exact heq);exact Z31
  exact Z85
 have x:((li l1:Int)==(li l2:Int))=false:=by rw[lE];omega
 have HX:=lh (HQ.o _ _ ⟨false,rfl,by simp;intro e;exact c (by rw[e]),jj _ _⟩);go_enter func22,ntmps22;go_wp2_with fail;exact HX.o
theorem aMY{w:World}{v1 v2:Value}{l1 l2:List ByteArray}(h1:kH w v1 (li l1) (l1.map sj) i)(h2:kH w v2 (li l2) (l2.map sj) m)(E:li l1<=1000000000): Calls prog 19 #[v1,v2] w λe w'=>∃b,e=iz (ij b)/\(b=true↔l1=l2)/\Fr [] w w':=by
 refine cA λR HQ=>?_;obtain⟨I,c1,y,rfl,_,p⟩:=h1;obtain⟨J,c2,z,rfl,_,q⟩:=h2;by_cases c:li l1=li l2
 ·obtain⟨n,l⟩:∃n,li l1=n:=⟨_,rfl⟩;have d:=c.symm.trans l;rw[l]at E p⊢;rw[d]at q⊢;have HN:=lh l;have HN2:=lh d;have t:=lh p;have u:=lh q;go_enter func19,ntmps19;go_wp2_with fail;go_loopg [5] n (λj v5 wr=>∃k:Nat,k+j=n/\v5=ii ip (k:Int)/\l1.take k=l2.take k/\Fr [] w wr)
  ·exact⟨0,by omega,rfl,rfl,jj _ _⟩
  obtain⟨k,L,rfl,A,B⟩:=hrel;have HT:=lh A;have HF:=lh B;by_cases f:k<n
  ·obtain⟨a,r⟩:∃a,l1[k]? = some a:=gx (by rw[HN.o];exact f);obtain⟨b,s⟩:∃b,l2[k]? = some b:=gx (by rw[HN2.o];exact f);obtain⟨rfl,C⟩:=t.o (by omega);obtain⟨rfl,D⟩:=u.o (by omega);have F:wr.cell? ⟨i,y+k,none⟩=some (sj a):=aA HF.o (C k (sj a) (by rw[wI,r];rfl));have G:wr.cell? ⟨m,z+k,none⟩=some (sj b):=aA HF.o (D k (sj b) (by rw[wI,s];rfl));have H:(k:Int)<(n:Int):=(by omega);have v:Wi ip ((k:Int)+1)=((k+1:Nat):Int):=ak;have HA:=lh r;have HB:=lh s;have go:∀nq,Fr [] w (wr.drewN nq):=λnq=>HF.o.drewN nq;by_cases heq:a=b
   ·subst heq;have g:(a.toList==a.toList)=true:=(by simp);exact Z72
   have g:(a.toList==b.toList)=false:=(by rw[lE];exact λe=>heq (aFt e));exact Z31
  exact Z85
 have x:((li l1:Int)==(li l2:Int))=false:=by rw[lE];omega
 have HX:=lh (HQ.o _ _ ⟨false,rfl,by simp;intro e;exact c (by rw[e]),jj _ _⟩);go_enter func19,ntmps19;go_wp2_with fail;exact HX.o
end
section
open Go.RowKit Go.ChangeMaps Go.MapKept Go.Maps Go.Sort Go.Shelf
theorem aSt:(prog.info? 65).map (λb=>(b.zero,b.size,b.bytes))=some (some (il #[ii ip 0,sj { data:=#[] },ii ip 0,sj { data:=#[] }]),4,48):=by kernel_rfl
theorem aPY(b:OpV):∀u∈b.cells,u.oneCell'=true:=by intro u b;simp only[OpV.cells,bB,kC,dC]at b;rcases b with rfl|rfl|rfl|rfl<;>rfl
theorem aKO{w:World}{L:List OpV}{v:Value}{b:Nat}(d:kH w v (li L) (L.map OpV.cells).flatten b)(j:li L<=1000000): Calls prog 14 #[v] w λe c=>∃v' g,e=iz v'/\kH c v' (li L) (L.map OpV.cells).flatten g/\w<=g/\(0<li L->g<c)/\Fr [] w c:=by
 refine cA λa1 O=>?_;obtain⟨X,Y,f,rfl,_,c⟩:=d;obtain⟨n,y⟩:∃n,li L=n:=⟨_,rfl⟩;rw[y]at j c O⊢;obtain⟨Z,I,M,N,T⟩:=info_parts aSt;go_enter func14,ntmps14;go_upto_region 3 with fail;go_loopg [3,4] n (λj v3 v4 wr=>∃i:Nat,i+j=n/\v4=ii ip (i:Int)/\wr.ownsRow w 65 4 v3 i ((L.take i).flatMap OpV.cells)/\Fr [] w wr);·exact⟨0,by omega,rfl,gD _ _ _ _,jj _ _⟩
 obtain⟨i,R,rfl,d,u⟩:=hrel;have q:=lh d;by_cases l:i<n
 ·obtain⟨o,d⟩:∃o,L[i]? = some o:=gx (by rw[y];exact l);obtain⟨rfl,C⟩:=c (by omega);have s:∀j r,o.cells[j]? = some r->wr.cell? ⟨b,f+i*4+j,none⟩=some r:=λj r x=>by
   have l:j<4:=(uC.1 x).1;have m:=mQ (k:=4) (L.map OpV.cells) (λc t=>by obtain⟨D,_,rfl⟩:=kI.1 t;rfl) i o.cells (by rw[wI,d];rfl) j l;have l:=C (4*i+j) r (by rw[m];exact x);have m:=aA u l;rwa [show f+(4*i+j)=f+i*4+j by omega]at m
  have Q:Hid ((L.take (i+1)).flatMap OpV.cells=(L.take i).flatMap OpV.cells++o.cells):=lh (by rw[eJ,d,vO];show _++(o.cells++[])=_;rw[jH]);have U:(i:Int)<(n:Int):=(by omega);have V:Wi ip ((i:Int)+1)=((i+1:Nat):Int):=ak;obtain⟨z,A,rfl,_,_⟩:=jA q.o;obtain⟨l,c,m,p⟩:=o;have W:b<w:=dI (C (4*i+0) _ (by rw[mQ (k:=4) (L.map OpV.cells) (λc t=>by obtain⟨D,_,rfl⟩:=kI.1 t;rfl) i _ (by rw[wI,d];rfl) 0 (by omega)];rfl));have t:b∉(si z i A).ownBlock.toList:=λC=>(by have:=sC q.o b (by simpa using C);omega);go_upto_region 5 with fail;have C:wr.drew.cell? ⟨b,f+i*4,none⟩=some (ii ip l):=s 0 _ rfl;have D:wr.drew.cell? ⟨b,f+i*4+1,none⟩=some (sj c):=s 1 _ rfl;have E:wr.drew.cell? ⟨b,f+i*4+2,none⟩=some (ii ip m):=s 2 _ rfl;have F:wr.drew.cell? ⟨b,f+i*4+3,none⟩=some (sj p):=s 3 _ rfl;refine aj (λs=>s.cell? ⟨b,f+i*4,none⟩=some (ii ip l)/\s.cell? ⟨b,f+i*4+1,none⟩=some (sj c)/\s.cell? ⟨b,f+i*4+2,none⟩=some (ii ip m)/\s.cell? ⟨b,f+i*4+3,none⟩=some (sj p)) [0,1,2,3,4,5,6,7,8,9,10,11,12,13,14,15,16,17,18,19,20,21] ?_;have s:Fr [] wr wr.drew:=(jj [] wr).drew;generalize wr.drew=b at *;refine tks [0,1,2,3,4,5,6,7,8,9,10,11,12,13,14,15,16,17,18,19,20,21] ?_;iterate 22 (refine ac ⟨C,D,E,F⟩ ?_)
  refine tke ?_;refine ag 22 λK hK=>qC (.tmp 32) rfl underlying44 I M [l,sj c,m,sj p] rfl N rfl (by simp) (by simp) ?_;have G:=jl b 65 [l,sj c,m,sj p];have f:Fr [] b (b.alloc (iy #[l,sj c,m,sj p] 65)):=(jj [] b).alloc _;have S:(b.alloc (iy #[l,sj c,m,sj p] 65)).heap.size=b.heap.size+1:=(by simp);change Blk (b.alloc (iy #[l,sj c,m,sj p] 65)) _ _ _ at G;generalize b.alloc (iy #[l,sj c,m,sj p] 65)=a0 at *;have H:=aA f C;have C:=aA f D;have D:=aA f E;have E:=aA f F;refine hK _ _ (λ_=>⟨H,C,D,E⟩) ?_;simp only[nrm];have⟨B,J⟩:=hh2 (s.trans f) G;refine ag 23 λK hK=>fC (.tmp 11) (.tmp 33) rfl 65 4 48 underlying44 I M N T rfl (by omega) (si z i A) i ((L.take i).flatMap OpV.cells) rfl (gF (fB q.o B.o (by simp))) ⟨b,0,none⟩ 1 1 [l,sj c,m,sj p] rfl rfl (λj r x=>by rw[Go.Addr.add_mid,nB];exact J.o.at_ x) (aPY ⟨l,c,m,p⟩) (by omega) (by unfold maxLen;omega) (by omega) (b.heap.size+1) S λc j f l b m x=>hK _ _ (λ_=>⟨yD b H t,yD b C t,yD b D t,yD b E t⟩) ?_;simp only[nrm];refine af 24 (λh=>absurd h (by decide +kernel)) ?_;refine _root_.Go.Proofs.YtebjhcjbfaaejaaGreatDoor.wd ?_ _;have p:=u.size;have r:=s.size;have HO7:Hid (f.ownsRow w 65 4 (si c (i+1) j) (i+1) ((L.take (i+1)).flatMap OpV.cells)):=lh (by
   rw[Q.o];exact wL l λj l=>by
    have e:c=j:=(by simpa[Value.ownBlock]using l);subst e;obtain h|h:=m;·exact sC q.o _ h
    omega)
  have HF7:Hid (Fr [] w f):=lh ((u.trans B.o).trans b λb c=>Ij (sC q.o b (by simpa using c)));exact Z35
 obtain rfl:i=n:=(by omega);have d:=q.o;rw[zF (by rw[y];exact tA _)]at d;obtain⟨b,m,f,l⟩:=kH.of_own d w;obtain⟨z,A,rfl,_,_⟩:=jA d;have j:w<=b:=by
  by_cases c:0<i;·exact sC d _ (f c)
  rw[l (by omega)];exact tA _
 have l:0<i->b<wr:=λc=>aG d _ (f c);have c:=lh (O.o _ _ ⟨_,b,rfl,by rw[<- List.flatMap_def];exact m,j,l,u⟩);go_wp2_with fail;exact c.o
def OkRd (o:RdA):Prop:=o.L.length<=12/\∀p∈o.L,p.cs.size<=100/\p.ts.size<=1500
def OkRds (l:List RdA):Prop:=l.length<=20/\∀o∈l,OkRd o
theorem dY{l:List α}{k:Nat}{a:α}{p:α->Prop}(h:∀x∈l.take k,p x)(h1:l[k]? = some a)(c:p a):∀x∈l.take (k+1),p x:=λx b=>by
 rw[eJ,h1,sD]at b;obtain b|b:=b;·exact h x b
 obtain rfl:x=a:=by simpa using b
 exact c
theorem aOm{W w:World}{v:Value}{l:List RdA}(hl:aIB W v l)(Q:Fr [] W w): Calls prog 7 #[v] w λe w'=>∃b,e=iz (ij b)/\(b=true->OkRds l)/\Fr [] w w':=by
 refine cA λR HQ=>?_;obtain⟨A,c,g,off,rfl,T,N⟩:=hl;unfold maxLen at T;obtain⟨n,G⟩:∃n,li l=n:=⟨_,rfl⟩;rw[G]at T⊢;have r:=lh (HQ.o _ w ⟨false,rfl,(λh=>by cases h),jj _ _⟩);by_cases F:20<n
 ·have H:(20:Int)<(n:Int):=by omega
  clear F;go_enter func7,ntmps7;go_wp2_with fail;exact r.o
 have H:¬ (20:Int)<(n:Int):=by omega
 go_enter func7,ntmps7;go_wp2_with fail;go_loopg [3] n (λj v3 wr=>∃i:Nat,i+j=n/\v3=ii ip (i:Int)/\(∀o∈l.take i,OkRd o)/\wr=w);·exact⟨0,by omega,rfl,(λo u=>by simp at u),rfl⟩
 obtain⟨i,hi,rfl,f,rfl⟩:=hrel;obtain⟨wo,rfl⟩:=nm (wr);have t:=lh f;by_cases O:i<n
 ·obtain⟨o,u⟩:∃o,l[i]? = some o:=gx (by rw[G];exact O);obtain⟨rfl,y⟩:=N i o u;obtain⟨A2,c2,g2,U,z,B,C,D⟩:=y.a;obtain⟨q,s⟩:∃q,li o.L=q:=⟨_,rfl⟩;rw[s]at z B C;have Z:=Q.keep y.c0;rw[z]at Z;unfold maxLen at C;have hI:(i:Int)<(n:Int):=(by omega);have a0:Wi ip ((i:Int)+1)=((i+1:Nat):Int):=ak;have HO:=lh u;by_cases a2:12<q
  ·have x:(12:Int)<(q:Int):=(by omega);go_wp2_with fail;exact r.o
  have x:¬ (12:Int)<(q:Int):=(by omega);go_wp2_with fail;go_loopg [4] q (λj v4 wr2=>∃k:Nat,k+j=q/\v4=ii ip (k:Int)/\(∀p∈o.L.take k,p.cs.size<=100/\p.ts.size<=1500)/\wr2=wo)
  case atStart=>exact⟨0,by omega,rfl,(λo u=>by simp at u),rfl⟩
  case round=>
   obtain⟨k,hk,rfl,d,rfl⟩:=hrel;have m:=lh d;by_cases P:k<q
   ·obtain⟨p,V⟩:∃p,o.L[k]? = some p:=gx (by rw[s];exact P);obtain⟨rfl,E⟩:=D k p V;have q1:=Q.keep (E 1 (sj p.cs) rfl);have q3:=Q.keep (E 3 (sj p.ts) rfl);have a1:(k:Int)<(q:Int):=(by omega);have S:Wi ip ((k:Int)+1)=((k+1:Nat):Int):=ak;by_cases X:100<p.cs.size
    ·have I:(100:Int)<(p.cs.size:Int):=(by omega);go_wp2_with fail;exact r.o
    have I:¬ (100:Int)<(p.cs.size:Int):=(by omega);by_cases Y:1500<p.ts.size;·have J:(1500:Int)<(p.ts.size:Int):=(by omega);go_wp2_with fail;exact r.o
    have J:¬ (1500:Int)<(p.ts.size:Int):=(by omega);have M:=lh (dY m.o V ⟨by omega,by omega⟩);go_wp2_with fail;go_roundg (q-(k+1))
    case measure=>omega
    case rel=>exact⟨k+1,by omega,rfl,M.o,rfl⟩
   obtain rfl:k=q:=(by omega);have d:=m.o;rw[zF (by rw[s];exact tA _)]at d;have M:=lh (dY (p:=OkRd) t.o HO.o ⟨by rw[s];omega,d⟩);go_wp2_with fail;go_roundg (n-(i+1))
   case measure=>omega
   case rel=>exact⟨i+1,by omega,rfl,M.o,rfl⟩
 obtain rfl:i=n:=(by omega);have f:=t.o;rw[zF (by rw[G];exact tA _)]at f;have HX:=lh (HQ.o _ _ ⟨true,rfl,(λ_=>⟨by rw[G];omega,f⟩),jj _ _⟩);go_wp2_with fail;exact HX.o
section
variable {w0 w:World}{dk g st ca cc N:Nat}{x:SE}{X:Nat->Prop}{c:Ct}
theorem CtX.done(h:CtX w0 w dk g st ca x X){l:List OpC}{e:Ending}(i:aUe w0 dk g st ca x X l w e w')(b:Liv cc N (doS x l).1 c):CtX w0 w' dk g st ca (doS x l).1 X:=by obtain⟨_,_,_,f,d⟩:=i;exact⟨⟨f,d.blk h.sx.blk h.sx.xs,h.sx.xs,b.com.br,b.com.calm,b.com.store b.late⟩,d.blk h.blk h.xc,h.xc⟩
theorem CtX.checked(h:CtX w0 w dk g st ca x X)(f:PgX w0 w' dk g S X)(d:Kp X w w')(b:Liv cc N ⟨S,x.E⟩ c):CtX w0 w' dk g st ca ⟨S,x.E⟩ X:=⟨⟨f,d.blk h.sx.blk h.sx.xs,h.sx.xs,b.com.br,b.com.calm,b.com.store b.late⟩,d.blk h.blk h.xc,h.xc⟩
theorem Liv.check(h:Liv cc N x c)(i:cc+1<4294967296): (x.s.check.2=0/\Liv (cc+1) N ⟨x.s.check.1,x.E⟩ c/\x.s.check.1.n=x.s.n/\x.s.check.1.l.n=x.s.l.n/\(x.s.D.limit = -1->x.s.check.1.D.limit = -1)) ∨(x.s.check.2=10/\x.s.check.1.D.dead=true/\x.s.D.limit≠-1/\x.s.check.1.D.done<=300000*(cc+1)/\∀Q,aCF (cc+1) N x.s.n x.s.l.n (x.s.check.1.D.reopen Q) c):=by
 obtain⟨a,b,d,e,f,g⟩|⟨a,b,d,e,f⟩:=h.com.check i;·exact Ii ⟨a,⟨b,by show x.s.check.1.late=[];rw[d];exact h.late,h.few,h.rep⟩,e,f,g⟩
 exact Ij ⟨a,b,d,e,λQ=>⟨x.E,f Q,h.few,h.rep⟩⟩
end
theorem aSu{w w1:World}{X:Nat->Prop}(h:Kp X w w1)(b:Fr [] w1 w'):Kp X w w':=h.more (Kp.of b)
theorem aIJ{w0 w:World}{n log:Nat}{D:DM}{X:Nat->Prop}{N:Nat}{c:Ct}{H:PgM}{E:Nat->En}(h:DkX w0 w i D X)(b:D.dead=false)(d:D.P=[])(h1:1<=n)(h2:n<=4096)(h3:1<=log)(f:log+8*n<=li D.S)(l:(lC (D.S.take log)).1<4294967295)(ht:qG n ((vA log none (D.S.take log)).map (·.2)) []=some H)(q:Liv j N ⟨qH n log D H,E⟩ c): Calls prog 9 #[pi (some ⟨i,0,none⟩),ii ip (n:Int),ii ip (log:Int)] w λe p=>∃g st s X',e=iz (tl #[pi (some ⟨s,0,none⟩),pi (some ⟨g,0,none⟩),ii ip 0])/\CtX w0 p i g st s ⟨qH n log D H,E⟩ X'/\(∀k,X k->X' k)/\Kp X w p:=by have⟨t,x,y,z⟩:=hh4 (aUw h b d h1 h2 h3 f l ht) q.com.calm q.com.br (q.com.store q.late);refine cA λG B=>?_;clear h b d h1 h2 h3 f l ht q;go_enter func9,ntmps9;go_wp2_with fail;refine t.o.mono ?_;rintro e C ⟨g,rfl,r,p⟩;have⟨m,A⟩:=hh2 (aPR r y.o x.o z.o) p;clear r p t;go_wp2_with fail;refine m.o.mono ?_;rintro e F ⟨st,s,rfl,r,u⟩;have v:=lh (B.o _ _ ⟨g,st,s,_,rfl,r,λk p=>Ii p,aSu A.o u⟩);clear r u m;go_wp2_with fail;exact qD (by simp[results,Tryz.results9,go_sem]) rfl v.o
end
theorem aKP(x:Nat×List UInt8):∀m:PgM,li (bV x m)=li m+1
 | []=>rfl
 | y::m=>by
  unfold bV;split;·rfl
  rw[bD,aKP x m,bD]
theorem aKQ(m:PgM)(k:Nat)(b:List UInt8):li (pR m k b)<=li m+1:=by unfold pR;rw[aKP];have:=pO (λc:Nat×List UInt8=>!decide (c.1=k)) m;omega
section
variable {s:PS}{E:Nat->En}{t:Nat}{key v:Ky}
theorem aKR(k:kK s.page s.n E)(ht:t<8)(h1:1<=li key)(h2:li key<=96)(h3:li v<=64)(l:li (E t)<1099511627776)(c:2*li (tI (E t) key v)+2*li (aGm E t)<s.n): ∃c',aFE (oD s.page s.n) t ⟨key,v,0⟩=some c'/\putS ⟨s,E⟩ t key v=(⟨cV s c',oE E t (tI (E t) key v)⟩,0)/\∃P F,uI c' (oE E t (tI (E t) key v)) P F:=by
 obtain⟨_,_,P,F,d⟩:=k;obtain⟨c',f,_,h⟩:=aEu (x:=⟨key,v,0⟩) d ht ⟨h1,h2,h3,by show 0<65536;omega,rfl⟩ l;obtain⟨i,j,g⟩|⟨_,b⟩:=h;·exact⟨c',f,aJW f g.e,i,j,g⟩
 have:=gZ d t;have d:=(oI s.page s.n).2.1;rw[d]at b;have b:s.n<=2*li (tI (E t) key v)+li (bM P t):=b;omega
theorem aGL(y:kK s.page s.n E)(ht:t<8)(z:E t=[])(h1:1<=li key)(h2:li key<=96)(h3:li v<=64)(i:2+2*li (aGm E t)<s.n): ∃s',putS ⟨s,E⟩ t key v=(⟨s',oE E t [(key,v)]⟩,0)/\kK s'.page s.n (oE E t [(key,v)])/\li s'.late<=li s.late+2/\s'.n=s.n:=by
 have b:tI (E t) key v=[(key,v)]:=by rw[z];rfl
 obtain⟨f,c,o,G,H,m⟩:=aKR (E:=E) y ht h1 h2 h3 (by rw[z];decide) (by rw[b];exact i);rw[b]at o m;have l:=aJS y;obtain⟨p,q,r,u,x⟩:=oI s.page s.n;obtain⟨_,g,I,J,j⟩:=y;obtain⟨d,b⟩:=nm (oD s.page s.n);rw[<- b]at c l p q r u x j;have b:d.roots t=0:=by
  obtain⟨a,_⟩|⟨_,L,h⟩:=j.tree t ht;·exact a
  exact absurd z (Sub.fine.all _ _ _ _ _ h).2.2
 unfold aFE at c;rw[iA b]at c;have c:=tE c;obtain⟨_,_,h,A,B,N,b⟩|⟨_,C,_⟩:=aAr j.acc x
 ·have j:=b.mem (k:=d.alloc.2) (Ii (eC ..));have D:=b.next2;have F:=b.few;have x:WfW d.alloc.1:=⟨b.few,b.next2,b.head,λk j=>by rw[h.pg];rw[h.n]at j;exact l.pg k j,b.wf.rM,b.wf.rS,λj g=>⟨(b.wf.mM j g).2.1,(b.wf.mM j g).2.2⟩,λj g=>⟨(b.wf.mS j g).2.1,(b.wf.mS j g).2.2⟩,λk=>by rw[h.roots];exact l.roots k⟩;have b:Nd.ok ⟨true,0,[⟨key,v,0⟩]⟩/\Nd.size ⟨true,0,[⟨key,v,0⟩]⟩<=512:=aMe ⟨h1,h2,h3,by show 0<65536;omega,rfl⟩;have j:WfW f:=by
   rw[<- c];exact(x.root (t:=t) (v:=d.alloc.2) (by omega)).write (by show d.alloc.2<d.alloc.1.n;omega) b.1 b.2
  have b:f.M=[(d.alloc.2,⟨true,0,[⟨key,v,0⟩]⟩)]:=by rw[<- c];show aAm d.alloc.1.M _ _=_;rw[A,r];rfl
  have g:f.S=[]:=by rw[<- c];show aBF d.alloc.1.S _=_;rw[B,u];rfl
  have l:f.pg=s.page:=by rw[<- c];show d.alloc.1.pg=_;rw[h.pg,p]
  have p:f.n=s.n:=by rw[<- c];show d.alloc.1.n=_;rw[h.n,q]
  refine⟨cV s f,o,aAA m l p j,?_,?_⟩;·unfold cV aAz eZ;rw[b,g];exact vD (aKQ _ _ _) (Nat.succ_le_succ (aKQ _ _ _))
  unfold cV aAz eZ;rw[b,g];rfl
 have b:=m.e;rw[<- c,C]at b;cases b
end
def awA:OpV:=⟨1,⟨#[97]⟩,0,⟨#[]⟩⟩
def awB:OpV:=⟨3,⟨#[97]⟩,1,⟨#[120]⟩⟩
def awC:OpV:=⟨3,⟨#[97]⟩,2,⟨#[121]⟩⟩
def awD:OpV:=⟨4,⟨#[97]⟩,9,⟨#[]⟩⟩
def aw1:Ct:=[([97],[(1,[120])])]
theorem aUP:doC [] [] [awA.op,awB.op]=(aw1,0):=by decide +kernel
theorem aTM:aFF aw1 [97] 1=([120],true,0):=by decide +kernel
theorem aTN:aFF aw1 [97] 2=([],false,0):=by decide +kernel
theorem aOn:∀o∈[awA.op,awB.op,awC.op,awD.op],OkO o:=by intro o b;simp only[bB,kC,dC]at b;unfold OkO;rcases b with rfl|rfl|rfl|rfl<;>decide
theorem nm97:nmB [97]=true:=by decide +kernel
def awE:Nat->En:=oE (oE (fun _=>[]) 1 [(nmK [97],[])]) 0 [(zB [97] [1,0],pc [120] 0)]
theorem aUQ{s:PS}(h:Liv k 0 ⟨s,λ_=>[]⟩ [])(g:s.n=20):∃c,allS ⟨s,λ_=>[]⟩ [awA.op,awB.op]=(⟨c,awE⟩,0)/\li c.late<=4:=by
 have f:=h.com.store h.late;have i:s.late=[]:=h.late;obtain⟨b,j,l,m,d⟩:=aGL (t:=1) (key:=nmK [97]) (v:=[]) f (by omega) rfl (by decide +kernel) (by decide +kernel) (by decide) (by show 2+2*li (aGm (λ_=>[]) 1)<s.n;rw[g];decide +kernel);have f:kK b.page b.n (oE (λ_=>[]) 1 [(nmK [97],[])]):=by rw[d];exact l
 obtain⟨c,o,_,p,_⟩:=aGL (t:=0) (key:=zB [97] [1,0]) (v:=pc [120] 0) f (by omega) rfl (by decide +kernel) (by decide +kernel) (by decide +kernel) (by rw[d,g];decide +kernel);have d:oneS ⟨s,λ_=>[]⟩ awA.op=(⟨b,oE (λ_=>[]) 1 [(nmK [97],[])]⟩,0):=by rw[<- j];unfold oneS aAK;rw[iA (show awA.op.what=1 from rfl),show awA.op.coll=[97] from rfl,nm97,eA (by decide),eA (show ¬ dU [] (nmK [97])=true by decide +kernel)]
 have f:oneS ⟨b,oE (λ_=>[]) 1 [(nmK [97],[])]⟩ awB.op=(⟨c,awE⟩,0):=by
  have j:isS ⟨b,oE (λ_=>[]) 1 [(nmK [97],[])]⟩ [97]=true:=by unfold isS;rw[nm97];show dU [(nmK [97],[])] (nmK [97])=true;decide +kernel
  have l:eD (oE (λ_=>[]) 1 [(nmK [97],[])] 0) (zB [97] [1])=[]:=rfl;have hcut:cutS ⟨b,oE (λ_=>[]) 1 [(nmK [97],[])]⟩ (zB [97] [1])=(⟨b,oE (λ_=>[]) 1 [(nmK [97],[])]⟩,0):=by unfold cutS;rw[l];rfl
  unfold oneS;rw[eA (show ¬ awB.op.what=1 by decide),iA (show awB.op.what=2∨awB.op.what=3∨awB.op.what=4 by decide),show awB.op.coll=[97] from rfl,j,eA (by decide),eA (show ¬ awB.op.what=2 by decide),iA (show awB.op.what=3 from rfl)];unfold aCv;rw[show awB.op.id=1 from rfl,show awB.op.text=[120] from rfl,show idB 1=true from by decide,eA (by decide),eA (by decide),show(1:Int).toNat=1 from rfl,hcut,iA rfl,show np [120]=1 from by decide];unfold layS;rw[o,iA rfl];rfl
 refine⟨c,?_,?_⟩;·unfold allS;rw[d,iA rfl];unfold allS;rw[f,iA rfl];rfl
 rw[i]at m;have:li ([]:PgM)=0:=rfl;omega
theorem aTO{s:PS}{N:Nat}(h:Liv k N ⟨s,awE⟩ aw1)(m:s.n=20):(allS ⟨s,awE⟩ [awC.op,awD.op]).2=6:=by
 have b:kK s.page s.n awE:=h.com.store h.late;have f:isS ⟨s,awE⟩ [97]=true:=by unfold isS;rw[nm97];show dU (awE 1) (nmK [97])=true;decide +kernel
 have hcut:cutS ⟨s,awE⟩ (zB [97] [2])=(⟨s,awE⟩,0):=by have c:eD ((⟨s,awE⟩:SE).E 0) (zB [97] [2])=[]:=(show eD (awE 0) (zB [97] [2])=[] by decide +kernel);unfold cutS;rw[c];rfl
 obtain⟨g,_,d,_⟩:=aKR (t:=0) (key:=zB [97] [2,0]) (v:=pc [121] 0) b (by omega) (by decide +kernel) (by decide +kernel) (by decide +kernel) (by decide +kernel) (by rw[m];decide +kernel);obtain⟨b,i⟩:=nm (cV s g);rw[<- i]at d;have g:oneS ⟨s,awE⟩ awC.op=(⟨b,oE awE 0 (tI (awE 0) (zB [97] [2,0]) (pc [121] 0))⟩,0):=by unfold oneS;rw[eA (show ¬ awC.op.what=1 by decide),iA (show awC.op.what=2∨awC.op.what=3∨awC.op.what=4 by decide),show awC.op.coll=[97] from rfl,f,eA (by decide),eA (show ¬ awC.op.what=2 by decide),iA (show awC.op.what=3 from rfl)];unfold aCv;rw[show awC.op.id=2 from rfl,show awC.op.text=[121] from rfl,show idB 2=true from by decide,eA (by decide),eA (by decide),show(2:Int).toNat=2 from rfl,hcut,iA rfl,show np [121]=1 from by decide];unfold layS;rw[d,iA rfl];rfl
 have d:(oneS ⟨b,oE awE 0 (tI (awE 0) (zB [97] [2,0]) (pc [121] 0))⟩ awD.op).2=6:=by
  have f:isS ⟨b,oE awE 0 (tI (awE 0) (zB [97] [2,0]) (pc [121] 0))⟩ [97]=true:=by unfold isS;rw[nm97];show dU (awE 1) (nmK [97])=true;decide +kernel
  have c:eD ((⟨b,oE awE 0 (tI (awE 0) (zB [97] [2,0]) (pc [121] 0))⟩:SE).E 0) (zB [97] [9])=[]:=by show eD (oE awE 0 (tI (awE 0) (zB [97] [2,0]) (pc [121] 0)) 0) (zB [97] [9])=[];decide +kernel
  unfold oneS;rw[eA (show ¬ awD.op.what=1 by decide),iA (show awD.op.what=2∨awD.op.what=3∨awD.op.what=4 by decide),show awD.op.coll=[97] from rfl,f,eA (by decide),eA (show ¬ awD.op.what=2 by decide),eA (show ¬ awD.op.what=3 by decide)];unfold aAJ cutS;rw[show awD.op.id=9 from rfl,show idB 9=true from by decide,eA (by decide),show(9:Int).toNat=9 from rfl,c];rfl
 unfold allS;rw[g,iA rfl];unfold allS;rw[eA (by rw[d];decide),d]
theorem aw_do{s:PS}(h:Liv k 0 ⟨s,λ_=>[]⟩ [])(f:k+4<4294967296)(m:s.n=20)(g:s.l.n=200)(p:s.D.limit = -1)(b:Wr s (allS ⟨s,λ_=>[]⟩ [awA.op,awB.op]).1.s):∃s2,doS ⟨s,λ_=>[]⟩ [awA.op,awB.op]=(⟨s2,awE⟩,0):=by obtain⟨d,i,q⟩:=aUQ h m;rw[i]at b;have b:Wr s d:=b;obtain⟨r,c,_⟩:=h.com.inv;have j:=b.inv c;have c:=b.same;obtain⟨o,_⟩:=j.free f (by rw[c.D];exact p) (by rw[c.l,g];omega) (by rw[c.l,g];omega);refine⟨d.commit.1,?_⟩;unfold doS;rw[i,eA (λh=>h rfl),eA (by show ¬ d.commit.2≠0;rw[o];decide)]
theorem aUR{s:PS}{N:Nat}(h:Liv k N ⟨s,awE⟩ aw1)(b:s.n=20):∃s2,doS ⟨s,awE⟩ [awC.op,awD.op]=(⟨s2,awE⟩,6):=by have c:=aTO h b;refine⟨{ (allS ⟨s,awE⟩ [awC.op,awD.op]).1.s with late:=[] },?_⟩;unfold doS;rw[iA (by rw[c];decide),c]
theorem aFu{n log M:Nat}(h1:1<=n)(h2:n<=4096)(h3:1<=log)(b:log+8*n<=M)(i:M<=65536): ∃H,qG n ((vA log none ((DM.new M).S.take log)).map (·.2)) []=some H/\Liv 1 0 ⟨qH n log (DM.new M) H,λ_=>[]⟩ []/\(lC ((DM.new M).S.take log)).1<4294967295/\log+8*n<=(DM.new M).S.length:=by have c:aFf 0 n log (DM.new M) λ_=>[]:=⟨λ_=>ji 512 0,zL.new h1 h2 h3 b i,aPd rfl (λj _=>kV ..) h1 h2⟩;obtain⟨H,d,f,g,_,_,h,_⟩:=c.open_ (by omega) (by show 0<=_;omega);exact⟨H,d,⟨f,rfl,mE.nil,Rep.nil⟩,g,h⟩
section
open Go.RowKit Go.ChangeMaps Go.MapKept Go.Maps Go.Sort Go.Shelf
theorem aGM(b:Array Value)(w:World):(callFunc 13 b).run prog w=.ok (.enter 13 b) w:=by kernel_rfl
theorem aSv{w:World}{b:Nat}{c p:OpV}(h:Blk w b 65 (c.cells++p.cells)):kH w (si b 2 2) [c,p].length ([c,p].map OpV.cells).flatten b:=⟨_,2,0,rfl,tA _,λ_=>⟨rfl,λd f c=>by rw[nB];exact h.at_ (by simpa using c)⟩⟩
theorem aOo(w:World):RV 6 #[] w (ij true):=by
 obtain⟨b,c,d,f,g⟩:=aFu (n:=20) (log:=200) (M:=400) (by omega) (by omega) (by omega) (by omega) (by omega);have⟨Q,h,S,T⟩:=hh4 c d f g;clear c d f g;refine cA λO E=>?_;go_enter func6,ntmps6;go_wp2_with fail;refine(aQu (X:=λ_=>False) w w 400 (by omega) (by omega) (jj _ _) (by simp)).mono ?_;rintro e F ⟨G,rfl,c,_⟩;have d:=lh c;clear c;go_wp2_with fail;refine(aIJ (n:=20) (log:=200) d.o rfl rfl (by omega) (by omega) (by omega) T.o S.o Q.o h.o).mono ?_;rintro e c ⟨H,I,z,J,rfl,f,_,_⟩;have g:(qH 20 200 (DM.new 400) b).n=20/\(qH 20 200 (DM.new 400) b).l.n=200/\(qH 20 200 (DM.new 400) b).D.limit = -1/\(qH 20 200 (DM.new 400) b).D.done=0:=⟨rfl,rfl,rfl,rfl⟩;generalize qH 20 200 (DM.new 400) b=m at *;obtain⟨A,o,x,N⟩:=g;have r:=lh f;clear f d Q S T;go_upto_region 3 with fail;obtain⟨b,d⟩:=nm (c.alloc (iy #[ii ip 1,sj ⟨#[97]⟩,ii ip 0,sj ⟨#[]⟩,ii ip 3,sj ⟨#[97]⟩,ii ip 1,sj ⟨#[120]⟩] 65));have f:Fr [] c b:=by rw[d];exact(jj [] c).alloc _
 have k:Blk b c.heap.size 65 (awA.cells++awB.cells):=by rw[d];exact jl c _ (awA.cells++awB.cells)
 refine sB ?_;iterate 3 (refine ab ?_)
 refine lp λK hK=>tB (v:=si (some ⟨c.heap.size,0,none⟩) 2 2) (w':=b) (by rw[d];go_simp<;>rfl) (hK _ _ ?_);simp only[nrm];clear hK;have⟨i,V⟩:=hh2 (aIA (r.o.fr f) h.o.few h.o.rep (L:=[awA,awB]) (λg b=>aOn g.op (by simp only[bB,kC,dC]at b⊢;rcases b with rfl|rfl<;>simp)) (by show 0+25*2<=_;omega) (by show m.D.done+_<_;omega) (aSv k) (λ_=>Ij ⟨tA _,k.lt⟩)) (r.o.fr f);clear d f k;refine lp λK hK=>kA (l:=[.tmp 24,.tmp 27]) rfl [pi (some ⟨z,0,none⟩),si (some ⟨c.heap.size,0,none⟩) 2 2] rfl (aGM _) (i.o.mono ?_);intro e f q;have k:=q;obtain⟨rfl,c,d,_,_⟩:=k;have s:[awA,awB].map OpV.op=[awA.op,awB.op]:=rfl;rw[s]at c d q⊢;obtain⟨k,B⟩:=aw_do h.o (by omega) A o x c;have t:=aNX h.o (l:=[awA.op,awB.op]) (λg b=>aOn g (by simp only[bB,kC,dC]at b⊢;rcases b with rfl|rfl<;>simp)) c d (by omega) (by show m.n<=100;omega);obtain⟨_,_,y,_⟩|⟨_,_,o,_,p,m⟩:=t;·exact absurd x y
 have u:=V.o.done q m;rw[B]at o p m u⊢;rw[iA rfl,aUP]at m;have o:k.n=20:=o.trans A;have p:k.D.limit = -1:=p x;refine⟨_,rfl,hK _ _ ?_⟩;simp only[nrm];clear hK;refine ab ?_;refine wB ?_;have⟨j,C⟩:=hh2 m u;clear q c d B m u V i r;go_upto_region 4 with fail;obtain⟨u,m⟩:=nm (f.alloc (iy #[ii ip 3,sj ⟨#[97]⟩,ii ip 2,sj ⟨#[121]⟩,ii ip 4,sj ⟨#[97]⟩,ii ip 9,sj ⟨#[]⟩] 65));have q:Fr [] f u:=by rw[m];exact(jj [] f).alloc _
 have r:Blk u f.heap.size 65 (awC.cells++awD.cells):=by rw[m];exact jl f _ (awC.cells++awD.cells)
 refine sB ?_;iterate 3 (refine ab ?_)
 refine lp λK hK=>tB (v:=si (some ⟨f.heap.size,0,none⟩) 2 2) (w':=u) (by rw[m];go_simp<;>rfl) (hK _ _ ?_);simp only[nrm];clear hK;have u:=j.o.com.done;have⟨i,Z⟩:=hh2 (aIA (C.o.fr q) j.o.few j.o.rep (L:=[awC,awD]) (λg b=>aOn g.op (by simp only[bB,kC,dC]at b⊢;rcases b with rfl|rfl<;>simp)) (by show 0+25*[awA.op,awB.op].length+25*2<=_;decide) (by show k.D.done+_<_;have:k.D.done<=300000*(1+3):=u;omega) (aSv r) (λ_=>Ij ⟨tA _,r.lt⟩)) (C.o.fr q);clear m q r u;refine lp λK hK=>kA (l:=[.tmp 29,.tmp 32]) rfl [pi (some ⟨z,0,none⟩),si (some ⟨f.heap.size,0,none⟩) 2 2] rfl (aGM _) (i.o.mono ?_);intro e u m;have f:=m;obtain⟨rfl,c,d,_,_⟩:=f;have s:[awC,awD].map OpV.op=[awC.op,awD.op]:=rfl;rw[s]at c d m⊢;obtain⟨r,q⟩:=aUR j.o o;have t:=aNX j.o (l:=[awC.op,awD.op]) (λg b=>aOn g (by simp only[bB,kC,dC]at b⊢;rcases b with rfl|rfl<;>simp)) c d (by omega) (by show k.n<=100;omega);obtain⟨_,_,y,_⟩|⟨_,_,_,_,_,b⟩:=t;·exact absurd p y
 have f:=Z.o.done m b;rw[q]at b f⊢;rw[eA (show ¬ (6:Int)=0 by decide)]at b;refine⟨_,rfl,hK _ _ ?_⟩;simp only[nrm];clear hK;refine ab ?_;refine wB ?_;have g:=lh (aAN f b.few (by decide) b.rep ⟨#[97]⟩ 1);rw[show bA ⟨#[97]⟩=[97] from rfl,aTM]at g;have⟨a1,a2⟩:=hh2 f b;clear m c d q b f Z i C;go_wp2_with fail;refine g.o.mono ?_;rintro e k ⟨rfl,c⟩;have b:=lh (aAN (a1.o.stay c) a2.o.few (by decide) a2.o.rep ⟨#[97]⟩ 2);rw[show bA ⟨#[97]⟩=[97] from rfl,aTN]at b;have d:=lh c;clear c g;go_wp2_with fail;refine b.o.mono ?_;rintro e g ⟨rfl,c⟩;have f:=lh (E.o (iz (ij true)) g ⟨rfl,(a1.o.frame.trans d.o).trans c⟩);clear c b;go_wp2_with fail;exact f.o
theorem aKS(b:Array Value)(w:World):(callFunc 26 b).run prog w=.ok (.enter 26 b) w:=by kernel_rfl
theorem aMZ(b:Array Value)(w:World):(callFunc 23 b).run prog w=.ok (.enter 23 b) w:=by kernel_rfl
theorem aTP{l:Tx}(f:l.Pairwise λa b=>a.1<b.1){k:Nat}{t:Nat×List UInt8}(ht:l[k]? = some t):(l.find? λb=>decide ((b.1:Int)=(t.1:Int)))=some t:=by
 induction l generalizing k with
 | nil=>simp at ht
 | cons b l g=>
  obtain⟨c,d⟩:=lF.1 f;cases k with
  | zero=>obtain rfl:b=t:=(by simpa using ht);rw[List.find?_cons,yJ rfl]
  | succ k=>have b:l[k]? = some t:=(by simpa using ht);have:=c t (kF b);rw[List.find?_cons,vH (by omega)];exact g d b
theorem aTQ{c:Ct}(h:OkC c){i:Nat}{y:Ky×Tx}(d:c[i]? = some y){k:Nat}{t:Nat×List UInt8}(ht:y.2[k]? = some t):aFF c y.1 (t.1:Int)=(t.2,true,0):=by have b:=kF d;unfold aFF;rw[sJ.2 ⟨y,b,rfl⟩,eA (by decide),h.tx b,aTP (h.ids y b) ht]
theorem aUS{w:World}{v:Value}{c:Ct}{g:Nat}(h:kH w v (li c) (c.map λb=>sj ⟨b.1.toArray⟩) g):kH w v (li (c.map λb=>(⟨b.1.toArray⟩:ByteArray))) ((c.map λb=>(⟨b.1.toArray⟩:ByteArray)).map sj) g:=by rw[cH,List.map_map];exact h
theorem aPZ(L:En)(k:Ky):li (eD L k)<=li L:=pO ..
theorem aOp(s:Ky):∀l:Tx,li l<=li (l.flatMap λb=>wM s b.1 b.2)
 | []=>tA _
 | b::l=>by
  have c:=aOp s l;have d:=aFc b.2;have f:li (wM s b.1 b.2)=np b.2:=by unfold wM;simp
  rw[xG,iB,bD];omega
section
variable {w0 w:World}{dk g st ca:Nat}{x:SE}{X D:Nat->Prop}{c m:Ct}{v:Value}{us:List Value}
theorem aCb(h:CtX w0 w dk g st ca x X){N:Nat}(j:mE N x.E)(B:N<=900000)(k:Rep x.E c)(p:CtV D w v m us)(I:OkC m)(d:li m<=1000000)(ht:∀y∈m,li y.2<=1000000): Calls prog 17 #[pi (some ⟨ca,0,none⟩),il #[v]] w λe i=>∃b,e=iz (ij b)/\(c=m->b=true)/\Fr [] w i:=by
 refine cA λb1 V=>?_;obtain⟨s,O,rfl,_,_⟩:=jA p.own;have C:=k.names;have q:li (c.map λy=>(⟨y.1.toArray⟩:ByteArray))<=1000000000:=by have A:=j.few 1;rw[C,cH]at A;rw[cH];omega
 have r:=aUO k;obtain⟨c1,t⟩:∃L,(c.map λy=>(⟨y.1.toArray⟩:ByteArray))=L:=⟨_,rfl⟩;rw[t]at q r;have J:=lh t;have F:=d;obtain⟨n,u⟩:∃n,li m=n:=⟨_,rfl⟩;rw[u]at d p⊢;obtain⟨z,i⟩:=_root_.Go.Proofs.YtebjhcjbfaaejaaGreatDoor.nm (w.alloc (iy #[si s n O] 37));have d:Fr [] w z:=by rw[i];exact(jj [] w).alloc _
 have G:Blk z w.heap.size 37 [si s n O]:=by rw[i];exact jl w _ [si s n O]
 have⟨e5,H,HV,HN,HF,HB,a1,HR,e6⟩:=hh9 (aPQ (h.stay d) j B r) (h.stay d) (p.fr d) u d G j k I;have⟨HT,g',a2,e7⟩:=hh4 ht q B F;clear h p u d G j k I ht q B C F r t;go_enter func17,ntmps17;go_upto_region 1 with fail;rw[<- i];clear i;go_wp2_with fail;refine e5.o.mono ?_;rintro e c2 ⟨v1,rfl,i,d⟩;obtain⟨c3,k,_,_⟩:=kH.of_own i z.heap.size;obtain⟨c4,c5,rfl,_,_⟩:=jA i;have j:=(HB.o.fr d).a 0;have⟨h0,h6,b7⟩:=hh3 k d (aTK (HV.o.fr d) e7.o);clear i k d e5;rw[HN.o]at b7;go_wp2_with fail;refine b7.o.mono ?_;rintro e c6 ⟨v2,a0,rfl,i,_,d⟩;obtain⟨c7,c8,c9,rfl,-,-⟩:=id i;have k:=lh (aMY (h0.o.fr d) (aUS (c:=m) (by rw[HN.o];exact i)) g'.o);have p:=aA d j;have q:=lh (h6.o.trans d);clear i d b7 j;go_wp2_with fail;refine k.o.mono ?_;rintro e Y ⟨j,rfl,i,d⟩;have r:=aA d p;have⟨f,h8⟩:=hh2 (q.o.trans d) i;clear d i k p;cases j with
 | false=>
  have t:c≠m:=λe=>by have:=h8.o.2 (by rw[<- J.o,e]);cases this
  have q:=lh (V.o _ _ ⟨false,rfl,(λe=>absurd e t),HF.o.trans f.o⟩);clear t;go_wp2_with fail;exact q.o
 | true=>
  have d:=lh (HB.o.fr f.o);go_wp2_with fail;clear r;go_loopg [7] n (λP v7 wr=>∃p:Nat,p+P=n/\v7=ii ip (p:Int)/\Fr [] Y wr);·exact⟨0,by omega,rfl,jj _ _⟩
  obtain⟨p,c',rfl,S⟩:=hrel;have Q:=f.o.trans S;have⟨h',i0,HC⟩:=hh3 S (HF.o.trans Q) (H.o.stay Q);have r:=(d.o.fr S).a 0;by_cases d:p<n
  ·obtain⟨y,j⟩:∃y,m[p]? = some y:=gx (by rw[HN.o];exact d);obtain⟨g,d0,rfl,C,G,I,k⟩:=(HV.o.fr Q).at_ j;obtain⟨a4,a5,rfl,_,_⟩:=jA k.1;obtain⟨u,F⟩:∃u,li y.2=u:=⟨_,rfl⟩;have d:=HT.o y (kF j);rw[F]at I d k C;obtain⟨d,J⟩:∃d:ByteArray,d=⟨y.1.toArray⟩:=⟨_,rfl⟩;have W:bA d=y.1:=(by rw[J];simp[bA]);rw[<- J]at G;have B:pK m (bA d)=true:=(by rw[W];exact sJ.2 ⟨y,kF j,rfl⟩);have b2:(p:Int)<(n:Int):=(by omega);have b3:Wi ip ((p:Int)+1)=((p+1:Nat):Int):=ak;have i:=aOf HC.o a1.o a2.o HR.o d;have U:Hid (∃s T,Calls prog 21 #[pi (some ⟨ca,0,none⟩),sj d] wr (uR s T wr)/\(c=m->T=0/\s=aIE m (bA d))/\li s<=1000000000):=lh (by
    by_cases z:pK c (bA d)=true;·rw[iA z]at i;refine⟨_,_,i,λe=>⟨rfl,by rw[e]⟩,?_⟩;unfold aIE;rw[cH];obtain⟨M,Z,R⟩:=sJ.1 z;rw[<- R,HR.o.ok.tx Z];have A:=a1.o.few 0;have b4:=a2.o;have b5:li (x.E 0)<=900000:=(by omega);have R:=aPZ (x.E 0) (nmK M.1);rw[HR.o.texts Z]at R;have b6:=aOp M.1 M.2;omega
    rw[eA z]at i;exact⟨_,_,i,λe=>absurd (by rw[e];exact B) z,by simp⟩)
   obtain⟨s,T,s,z,M⟩:=U.o;have⟨e',b8,i2,HY,i3,i4,i5,k6,HU⟩:=hh9 s z M j F W B k C;have⟨i6,i7⟩:=hh2 G I;clear s z M i j F W B k J C Q U;go_wp2_with fail;refine e'.o.mono ?_;rintro e B ⟨v4,d1,rfl,C,_,k⟩;obtain⟨d2,d3,d4,rfl,-,-⟩:=id C;have⟨F,z⟩:=hh2 C (h'.o.trans k);have i:=aA k r;have j:=aA k i6.o;have s:=aA k i7.o;clear C k e' r G I;obtain⟨G,r⟩:∃G,aIE m (bA d)=G:=⟨_,rfl⟩;have b9:=lh r;rw[r]at b8;have k:Fr [] B B.drew:=(jj [] B).drew;have I:=lh ((f.o.trans z.o).trans k);have C:=lh (aUg (HV.o.fr I.o) e6.o e7.o HT.o d);rw[iA i5.o,r]at C;clear r;go_upto_region 8 with fail;replace i:=aA k i;replace j:=aA k j;replace s:=aA k s;refine aj (λM=>M.cell? ⟨w.heap.size,0,none⟩=some (si (some ⟨g,0,none⟩) n O)/\M.cell? ⟨g,p*2,none⟩=some (sj d)) [0,1,2,3,4,5,6,8,9,10] ?_;replace z:=lh (z.o.trans k);replace F:=lh (F.o.fr k);clear k;generalize B.drew=d' at *;refine tks [0,1,2,3,4,5,6] ?_;iterate 7 (refine ac ⟨i,j⟩ ?_)
   refine tke ?_;refine ag 7 λK hK=>?_;refine kA (l:=[.tmp 49,.tmp 55]) rfl [il #[si (some ⟨g,0,none⟩) n O],sj d] rfl (aKS _) (C.o.mono ?_);rintro e d5 ⟨v5,d6,rfl,B,_,r⟩;replace i:=aA r i;replace j:=aA r j;replace s:=aA r s;refine⟨_,rfl,hK _ _ (λ_=>⟨i,j⟩) ?_⟩;simp only[nrm];clear hK;obtain⟨I,J,d7,rfl,-,-⟩:=id B;have⟨f1,f2⟩:=hh2 (z.o.trans r) (aGK (F.o.fr r) B i2.o);clear B r C;refine tks [8,9,10] ?_;iterate 3 (refine ac ⟨i,j⟩ ?_)
   refine tke ?_;refine ag 11 λK hK=>?_;refine lA (v:=si I (li G) J) (by go_simp) (hK _ _ (λ_=>⟨i,j⟩) ?_);simp only[nrm];clear hK;refine ag 12 λK hK=>?_;refine lA (v:=ii ip 0) (by go_simp) (hK _ _ (λ_=>⟨i,j⟩) ?_);simp only[nrm];clear hK;refine _root_.Go.Proofs.YtebjhcjbfaaejaaGreatDoor.wd ?_ _;by_cases a3:T=0
   ·subst a3;go_wp2_with fail;refine f2.o.mono ?_;rintro e B ⟨C,rfl,z,r⟩;have i:=aA r i;have j:=aA r j;have s:=aA r s;have⟨f3,i9⟩:=hh2 (f1.o.trans r) z;clear r z f2;cases C with
    | false=>have t:c≠m:=λe=>(by have:=i9.o.2 (b8.o e).2;cases this);have q:=lh (V.o _ _ ⟨false,rfl,(λe=>absurd e t),(HF.o.trans f.o).trans f3.o⟩);clear t;go_wp2_with fail;exact q.o
    | true=>
     go_wp2_with fail;obtain⟨d8,rfl⟩:=_root_.Go.Proofs.YtebjhcjbfaaejaaGreatDoor.nm (wr);have⟨i',j0,j1⟩:=hh3 i j s;clear i j s;go_loopg [12] u (λP v12 z=>∃r:Nat,r+P=u/\v12=ii ip (r:Int)/\Fr [] B z/\Fr [] Y z)
     case atStart=>exact⟨0,by omega,rfl,jj _ _,f3.o⟩
     case round=>
      obtain⟨r,d9,rfl,z,B⟩:=hrel;have i:=aA z i'.o;have j:=aA z j0.o;have s:=aA z j1.o;have⟨I,Z⟩:=hh2 B z;clear z B;by_cases B:r<u
      ·obtain⟨z,ht⟩:∃z,y.2[r]? = some z:=gx (by rw[i3.o];exact B);obtain⟨a0,u2,b0,a6,_,_,a7⟩:=(HV.o.fr (f.o.trans I.o)).at_ HY.o;obtain rfl:si a4 u a5=u2:=tE (HU.o.symm.trans a6);obtain⟨a8,rfl,a9,R⟩:=a7.at_ ht;have b':(r:Int)<(u:Int):=(by omega);have c0:Wi ip ((r:Int)+1)=((r+1:Nat):Int):=ak;have a':=lh (aAN (H.o.stay (f.o.trans I.o)) a1.o a2.o HR.o d (z.1:Int));obtain⟨B,P,J,C⟩:∃B P J,aFF c (bA d) (z.1:Int)=(B,P,J):=⟨_,_,_,rfl⟩;have a4:c=m->(B,P,J)=(z.2,true,0):=λe=>(by rw[<- C,e,i4.o];exact aTQ e6.o HY.o ht);obtain⟨U,F⟩:∃U:ByteArray,U=⟨z.2.toArray⟩:=⟨_,rfl⟩;obtain⟨G,a0⟩:∃G:ByteArray,G=⟨B.toArray⟩:=⟨_,rfl⟩;have Y:Hid (c=m->G=U/\P=true/\J=0):=lh λe=>by
        have A:=a4 e;simp only[Prod.mk.injEq]at A;exact⟨by rw[a0,F,A.1],A.2.1,A.2.2⟩
       have⟨j3,j4⟩:=hh2 a0 C;rw[<- F]at R;clear C a4 F a6 a7 ht a0 a' b0;have k:Fr [] wr wr.drew:=(jj [] wr).drew;go_upto_region 14 with fail;have A:=aA k i;have B:=aA k j;have C:=aA k s;have F:=aA k a9;have a0:=aA k R;refine aj (λM=>M.cell? ⟨w.heap.size,0,none⟩=some (si (some ⟨g,0,none⟩) n O)/\M.cell? ⟨g,p*2,none⟩=some (sj d)/\M.cell? ⟨g,p*2+1,none⟩=some (si (some ⟨a8,0,none⟩) u a5)/\M.cell? ⟨a8,r*2,none⟩=some (ii ip (z.1:Int))) [0,1,2,3,4,5,6,7,8,9,10,11,12,13,14,15,16,18,19,20,21] ?_;replace I:=lh (I.o.trans k);replace Z:=lh (Z.o.trans k);have M:=lh (aAN (H.o.stay (f.o.trans I.o)) a1.o a2.o HR.o d (z.1:Int));rw[j4.o]at M;clear k i j s a9 R S;generalize wr.drew=O at *;refine tks [0,1,2,3,4,5,6,7,8,9,10,11,12,13,14,15,16] ?_;iterate 17 (refine ac ⟨A,B,C,F⟩ ?_)
       refine tke ?_;refine ag 17 λK hK=>?_;refine kA (l:=[.tmp 79,.tmp 85,.tmp 95]) rfl [pi (some ⟨ca,0,none⟩),sj d,ii ip (z.1:Int)] rfl (aMZ _) (M.o.mono ?_);rintro e i ⟨rfl,d⟩;replace A:=aA d A;replace B:=aA d B;replace C:=aA d C;replace F:=aA d F;replace a0:=aA d a0;refine⟨_,rfl,hK _ _ (λ_=>⟨A,B,C,F⟩) ?_⟩;simp only[nrm];clear hK;have⟨f5,f6⟩:=hh2 (I.o.trans d) (Z.o.trans d);clear d M;rw[<- j3.o];refine tks [18,19,20,21] ?_;iterate 4 (refine ac ⟨A,B,C,F⟩ ?_)
       refine tke ?_;refine ag 22 λK hK=>?_;refine lA (v:=sj G) (by go_simp) (hK _ _ (λ_=>⟨A,B,C,F⟩) ?_);simp only[nrm];clear hK;refine ag 23 λK hK=>?_;refine lA (v:=ij P) (by go_simp) (hK _ _ (λ_=>⟨A,B,C,F⟩) ?_);simp only[nrm];clear hK;refine ag 24 λK hK=>?_;refine lA (v:=ii ip J) (by go_simp) (hK _ _ (λ_=>⟨A,B,C,F⟩) ?_);simp only[nrm];clear hK;refine _root_.Go.Proofs.YtebjhcjbfaaejaaGreatDoor.wd ?_ _;have d:Hid (c≠m->b1 (iz (ij false)) i):=lh λt=>V.o _ _ ⟨false,rfl,(λe=>absurd e t),(HF.o.trans f.o).trans f5.o⟩;cases P with
       | false=>have q:=lh (d.o λe=>by have:=(Y.o e).2.1;cases this);go_wp2_with fail;exact q.o
       | true=>
        by_cases j:J=0
        ·subst j;by_cases k:G=U
         ·subst k;have s:(G.toList==G.toList)=true:=(by simp);have i:=f5.o;have z:=f6.o;go_wp2_with fail;go_roundg (u-(r+1))
          case measure=>omega
          case rel=>exact⟨r+1,by omega,rfl,z,i⟩
         have s:(G.toList==U.toList)=false:=(by rw[lE];exact λe=>k (aFt e));have q:=lh (d.o λe=>k (Y.o e).1);go_wp2_with fail;exact q.o
        have k:(J==0)=false:=(by rw[lE];exact j);have q:=lh (d.o λe=>j (Y.o e).2.2);go_wp2_with fail;exact q.o
      obtain rfl:r=u:=(by omega);have i:=I.o;go_wp2_with fail;go_roundg (n-(p+1))
      case measure=>omega
      case rel=>exact⟨p+1,by omega,rfl,i⟩
   have W:(T==0)=false:=(by rw[lE];exact a3);have t:c≠m:=λe=>a3 (b8.o e).1;have q:=lh (V.o _ _ ⟨false,rfl,(λe=>absurd e t),(HF.o.trans f.o).trans f1.o⟩);clear t;go_wp2_with fail;exact q.o
  obtain rfl:p=n:=(by omega);have q:=lh (V.o _ _ ⟨true,rfl,(λ_=>rfl),i0.o⟩);clear S Q;go_wp2_with fail;exact q.o
end
end
end Go.Proofs.YtebjhcjbfaaejaaGreatDoor
