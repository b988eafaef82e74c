/-
  Joined: Nc Nd Ne Nf Ng LayB Oa Ob
-/
import Derived.Shelf.SlIterI.Nil
import Derived.Shelf.SlSorted.Search
import Derived.Test.YtebjhcjbfaaejaaGreatDoorProg
import Derived.Lib.Bytealg
import Derived.Lib.BytesEntry
import Derived.Laws.Externs
import Derived.Lib.LazyBuf
import Derived.Shelf.Spec.SlicesInsertGrow
import Derived.Test.YtebjhcjbfaaejaaGreatDoorJct4
set_option maxRecDepth 100000
set_option maxHeartbeats 32000000
open Go.Value renaming int->ii,slice->si,tuple->tl,bool->ij,agg->il
open Go.IntKind renaming i64->ip,u8->ix
open Go.Obj renaming cells->iy
open Go.Ending renaming returned->iz
open Or renaming inl->Ii,inr->Ij
open List renaming length->li,map_cons->xJ,mem_filter->cL,pairwise_append->wQ,mem_flatMap->wR,size_toArray->uU,nodup_append->jT,filter_eq_self->kT,filter_append->nV,nodup_cons->aBk,take_take->aDm,singleton_append->aHa,filter_eq_nil_iff->aHq,length_range'->aLm
open UInt8 renaming ofNat->Ot
open Option renaming map_eq_some_iff->mI,isSome_none->aBm
open Go.Proofs.Tryz renaming underlying182->qJ,underlying9->nO,underlying5->aBd
namespace Go.Proofs.YtebjhcjbfaaejaaGreatDoor
open Go.Proofs.Tryz
variable {k i m c d s:Nat}{v u:Value}{L:List Nat}{F:List Value}{T:TypeId}{α:Type}
structure CD where
 pg:Nat->List UInt8
 n:Nat
 next:Nat
 head:Nat
 roots:Nat->Nat
 M:List (Nat×Nd)
 S:List (Nat×Nat)
 e:Nat
noncomputable def CD.N (c:CD) (k:Nat):Option Nd:=if (sG c.S k).isSome then none else match sG c.M k with|some n=>some n|none=>if 1<=k/\k<c.n then aOX (c.pg k) else none
def CD.nx (c:CD) (k:Nat):Option Nat:=match sG c.S k with|some j=>some j|none=>if (sG c.M k).isSome || !decide (k<c.n) then none else some (r16 (c.pg k))
def CD.write (c:CD) (k:Nat) (n:Nd):CD:={ c with M:=aAm c.M k n,S:=aBF c.S k }
def CD.free (c:CD) (k:Nat):CD:={ c with M:=aBF c.M k,S:=aAm c.S k c.head,head:=k }
def CD.full (c:CD):CD:=if c.e=0 then { c with e:=5 } else c
def CD.alloc (c:CD):CD×Nat:=if c.head≠0 then ({ c with head:=(c.nx c.head).getD 0 },c.head) else if c.next<c.n then ({ c with next:=c.next+1 },c.next) else (c.full,0)
def CD.lay (c:CD) (k:Nat) (n:Nd):CD×(Ky×Nat):=
 if n.size<=512 then (c.write k n,([],0)) else ((c.alloc.1.write k n.left).write c.alloc.2 n.right,(n.key,c.alloc.2))
def Nd.way (n:Nd) (key:Ky):Nat:=(n.l.takeWhile fun x=>!decide (klt key x.key)).length
def Nd.child (n:Nd) (k:Nat):Nat:=qO n.first (n.l.take k)
def xI (l:List It) (k:Nat) (x:It):List It:=l.take k++x::l.drop k
def nF (l:List It) (x:It):List It:=
 l.takeWhile (fun y=>decide (klt y.key x.key)) ++
  match l.dropWhile (fun y=>decide (klt y.key x.key)) with
  | y::B=>if y.key=x.key then { y with v:=x.v }::B else x::y::B
  | []=>[x]
noncomputable def aHU:Nat->CD->Nat->It->Option (CD×(Ky×Nat))
 | 0,_,_,_=>none
 | f+1,c,k,x=>
  match c.N k with
  | none=>none
  | some n=>
   if n.lf then some (c.lay k { n with l:=nF n.l x })
   else match aHU f c (n.child (n.way x.key)) x with
    | none=>none
    | some (c',u)=>if u.2=0 then some (c',([],0)) else some (c'.lay k { n with l:=xI n.l (n.way x.key) ⟨u.1,[],u.2⟩ })
def nS (nx:Nat->Option Nat):Nat->List Nat->Prop
 | h,[]=>h=0
 | h,a::F=>h=a/\∃j,nx a=some j/\nS nx j F
structure Wf (c:CD):Prop where
 rM:gJ c.M
 rS:gJ c.S
 mM:∀p∈c.M,1<=p.1/\p.1<c.n/\p.2.ok/\p.2.size<=512
 mS:∀p∈c.S,1<=p.1/\p.1<c.n/\p.2<65536
theorem aAp{m:List (Nat×α)}{k:Nat}{p:Nat×α}(h:p∈aBF m k):p∈m:=(cL.1 h).1
theorem aAq{m:List (Nat×α)}{k:Nat}{b:α}{p:Nat×α}(h:p∈aAm m k b):p=(k,b)∨p∈m:=by
 unfold aAm at h;obtain h|h:=aEr.1 h;·exact Ii h
 exact Ij (cL.1 h).1
theorem Wf.write{c:CD}(h:Wf c){k:Nat}{n:Nd}(h1:1<=k/\k<c.n)(h2:n.ok)(h3:n.size<=512):Wf (c.write k n):=⟨h.rM.put k n,h.rS.del k,λd b=>by
 obtain rfl|b:=aAq b;·exact⟨h1.1,h1.2,h2,h3⟩
 exact h.mM d b,λd b=>h.mS d (aAp b)⟩
theorem Wf.free{c:CD}(h:Wf c){k:Nat}(h1:1<=k/\k<c.n)(h2:c.head<65536):Wf (c.free k):=⟨h.rM.del k,h.rS.put k _,λd b=>h.mM d (aAp b),λd b=>by
 obtain rfl|b:=aAq b;·exact⟨h1.1,h1.2,h2⟩
 exact h.mS d b⟩
structure Acc (c:CD) (U F:List Nat):Prop where
 perm:(U++F).Perm (List.range' 1 (c.next-1))
 next1:1<=c.next
 next2:c.next<=c.n
 few:c.n<=4096
 chain:nS c.nx c.head F
 wf:Wf c
structure aJz (c c':CD):Prop where
 pg:c'.pg=c.pg
 n:c'.n=c.n
 roots:c'.roots=c.roots
theorem aJz.trans{c d f:CD}(h:aJz c d)(b:aJz d f):aJz c f:=⟨by rw[b.pg,h.pg],by rw[b.n,h.n],by rw[b.roots,h.roots]⟩
section
variable {c:CD}{U U' F:List Nat}{n:Nd}
theorem Acc.swap(h:Acc c U F)(b:U'.Perm U):Acc c U' F:=⟨(b.append_right F).trans h.perm,h.next1,h.next2,h.few,h.chain,h.wf⟩
theorem Acc.nodup(h:Acc c U F):(U++F).Nodup:=h.perm.nodup_iff.2 (List.nodup_range' ..)
theorem Acc.mem(h:Acc c U F)(b:k∈U∨k∈F):1<=k/\k<c.next:=by have:=(h.perm.mem_iff (a:=k)).1 (sD.2 b);rw[List.mem_range'_1]at this;have:=h.next1;omega
theorem Acc.apart(h:Acc c U F)(b:k∈U):k∉F:=λd=>(jT.1 h.nodup).2.2 k b k d rfl
theorem nS.congr{c b:Nat->Option Nat}:∀ {F:List Nat} {h:Nat},nS c h F->(∀k∈F,b k=c k)->nS b h F
 | [],_,h,_=>h
 | a::F,_,⟨h1,j,h2,h3⟩,hn=>⟨h1,j,by rw[hn a (eC ..)];exact h2,nS.congr h3 (λk c=>hn k (jD _ c))⟩
theorem jG(j:Nat):(c.write k n).N j=if j=k then some n else c.N j:=by
 unfold CD.N CD.write;simp only;rw[aAn,zV];by_cases b:j=k;·rw[iA b,iA b,iA b];rfl
 rw[eA b,eA b,eA b]
theorem aQP{j:Nat}(h:j≠k):(c.write k n).nx j=c.nx j:=by unfold CD.nx CD.write;simp only;rw[zV,aAn,eA h,eA h]
theorem aQQ{j:Nat}(h:j≠k):(c.free k).N j=c.N j:=by unfold CD.N CD.free;simp only;rw[zV,aAn,eA h,eA h]
theorem aNr(j:Nat):(c.free k).nx j=if j=k then some c.head else c.nx j:=by
 unfold CD.nx CD.free;simp only;rw[aAn,zV];by_cases b:j=k;·simp[b]
 simp[b]
theorem Acc.head(h:Acc c U F):c.head<65536:=by
 cases F with
 | nil=>have:c.head=0:=h.chain;omega
 | cons a F=>have b:=h.chain.1;have:=(h.mem (k:=a) (Ij (eC ..))).2;have:=h.next2;have:=h.few;omega
theorem Acc.write(h:Acc c U F)(d:k∈U)(b:n.ok)(f:n.size<=512):Acc (c.write k n) U F:=⟨h.perm,h.next1,h.next2,h.few,h.chain.congr λg i=>aQP fun(e:g=k)=>h.apart d (e▸i),h.wf.write (by have:=h.mem (Ii d);have:=h.next2;omega) b f⟩
theorem Acc.free(h:Acc c (k::U) F):Acc (c.free k) U (k::F):=by
 refine⟨?_,h.next1,h.next2,h.few,⟨rfl,c.head,by rw[aNr,iA rfl],?_⟩,h.wf.free (by have:=h.mem (k:=k) (Ii (eC ..));have:=h.next2;omega) h.head⟩;·refine List.Perm.trans ?_ h.perm;exact List.perm_middle
 refine h.chain.congr λb d=>?_;rw[aNr,eA fun(e:b=k)=>h.apart (k:=k) (eC ..) (e▸d)]
theorem aAr(h:Acc c U F)(f:c.e=0): (c.alloc.2≠0/\c.alloc.1.e=0/\aJz c c.alloc.1/\c.alloc.1.M=c.M/\c.alloc.1.S=c.S/\∃F',Acc c.alloc.1 (c.alloc.2::U) F') ∨(c.alloc.2=0/\c.alloc.1={ c with e:=5 }/\F=[]/\c.next=c.n):=by
 unfold CD.alloc;by_cases b:c.head≠0
 ·rw[iA b];left;cases F with
  | nil=>exact absurd h.chain b
  | cons a F=>
   obtain⟨d,j,g,i⟩:=h.chain;refine⟨b,f,⟨rfl,rfl,rfl⟩,rfl,rfl,F,?_,h.next1,h.next2,h.few,?_,⟨h.wf.rM,h.wf.rS,h.wf.mM,h.wf.mS⟩⟩;·refine List.Perm.trans ?_ h.perm;simp only;rw[d];exact List.perm_middle.symm
   show nS c.nx ((c.nx c.head).getD 0) F;rw[d,g];exact i
 rw[eA b];have b:F=[]:=by
  cases F with
  | nil=>rfl
  | cons a F=>exfalso;have:=(h.mem (k:=a) (Ij (eC ..))).1;have:=h.chain.1;omega
 subst b;by_cases b:c.next<c.n
 ·rw[iA b];left;have d:=h.next1;refine⟨by show c.next≠0;omega,f,⟨rfl,rfl,rfl⟩,rfl,rfl,[],?_,by show 1<=c.next+1;omega,b,h.few,h.chain,⟨h.wf.rM,h.wf.rS,h.wf.mM,h.wf.mS⟩⟩;have d:=h.perm;rw[jH]at d⊢;show(c.next::U).Perm (List.range' 1 (c.next+1-1));have e:List.range' 1 (c.next+1-1)=List.range' 1 (c.next-1)++[c.next]:=by
   rw[show c.next+1-1=(c.next-1)+1 by omega,List.range'_concat,show 1+1*(c.next-1)=c.next by omega]
  rw[e];exact(d.cons _).trans (List.perm_append_singleton ..).symm
 rw[eA b];right;have:=h.next2;refine⟨rfl,?_,rfl,by omega⟩;unfold CD.full;rw[iA f]
end
def Res (N:Nat->Option Nd) (m h at_:Nat) (lo hi:Option Ky) (E:En) (u:Ky×Nat) (P:List Nat):Prop:=
 (u.2=0/\Sub N m h at_ lo hi E P) ∨
 (u.2≠0/\1<=u.1.length/\u.1.length<=96/\wT lo u.1/\kS hi u.1/\∃E1 P1 E2 P2,Sub N 1 h at_ lo (some u.1) E1 P1/\Sub N 1 h u.2 (some u.1) hi E2 P2/\E=E1++E2/\P=P1++P2)
def aJA (c c':CD) (m h at_:Nat) (lo hi:Option Ky) (E:En) (u:Ky×Nat) (R:List Nat):Prop:=
 aJz c c'/\((c'.e=0/\∃P F,Acc c' (P++R) F/\(∀p∈R,c'.N p=c.N p)/\Res c'.N m h at_ lo hi E u P)∨(c'.e=5/\u.2=0/\(∀p∈R,c'.N p=c.N p)/\(∃n,c'.N at_=some n)/\c.n<=2*E.length+R.length))
section
variable {c:CD}{U F R P:List Nat}{h:Nat}{n:Nd}{lo hi:Option Ky}{E:En}
theorem aEs(A:NF c.N h n lo hi E P)(r:Acc c (k::P++R) F)(x:c.e=0)(i:n.ok)(p:n.size<=if n.lf then 680 else 780)(j:m<=li n.l): aJA c (c.lay k n).1 m h k lo hi E (c.lay k n).2 R:=by
 have b:=r.nodup;have Y:k∉F:=r.apart (k:=k) (yE _ (eC ..));have o:k∉P/\k∉R:=by have f:=(jT.1 b).1;rw[lI,aBk,sD]at f;exact⟨λh=>f.1 (Ii h),λh=>f.1 (Ij h)⟩
 unfold CD.lay;by_cases g:n.size<=512
 ·rw[iA g];refine⟨⟨rfl,rfl,rfl⟩,Ii ⟨x,k::P,F,r.write (by simp) i g,λd b=>?_,Ii ⟨rfl,n,P,?_,i,g,j,rfl,A.congr λd b=>?_⟩⟩⟩
  ·rw[jG,eA fun(e:d=k)=>o.2 (e▸b)]
  ·rw[jG,iA rfl]
  rw[jG,eA fun(e:d=k)=>o.1 (e▸b)]
 rw[eA g];obtain⟨j,t,D,G,S,T,H,I⟩:=Nd.split_ok i (by omega) p;obtain⟨g,p⟩:∃g,n.l[n.cutAt]? = some g:=⟨_,kE j⟩;have B:n.key=g.key:=by unfold Nd.key;rw[p];rfl
 have C:=i.item g (kF p);obtain⟨J,q,L,s,U,V,rfl,rfl,W,X⟩:=A.split j t;obtain⟨t,u,g,v,y,z,p⟩|⟨t,u,g,v⟩:=aAr r x
 ·have x:=p.nodup;obtain⟨j,M⟩:=nm (c.alloc.2);obtain⟨O,Q⟩:=nm (c.alloc.1);rw[<- M,<- Q];rw[<- M]at t p x;rw[<- Q]at u g v y p;have M:∀d,O.N d=c.N d:=λd=>(by unfold CD.N;rw[v,y,g.n,g.pg]);have Z:j∉z:=p.apart (k:=j) (eC ..);have a0:k∉z:=p.apart (k:=k) (jD _ (yE _ (eC ..)));have y:j∉k::(q++s)++R:=by
   have f:=(jT.1 x).1;exact(aBk.1 f).1
  have Q:j≠k:=λe=>y (by rw[e];exact yE _ (eC ..));have x:∀d,d∈q∨d∈s∨d∈R->((O.write k n.left).write j n.right).N d=c.N d:=λd b=>by
   have f:d≠j:=λe=>y (by
    rw[<- e];obtain b|b|b:=b;·exact yE _ (jD _ (yE _ b))
    ·exact yE _ (jD _ (tF _ b))
    exact tF _ b)
   have y:d≠k:=λe=>by
    rw[e]at b;obtain b|b|b:=b;·exact o.1 (yE _ b)
    ·exact o.1 (tF _ b)
    exact o.2 b
   rw[jG,eA f,jG,eA y,M]
  refine⟨⟨g.pg,g.n,g.roots⟩,Ii ⟨u,(k::q)++(j::s),z,((p.write (by simp) H D).write (by simp) I G).swap ?_,λd b=>x d (Ij (Ij b)),Ij ⟨t,by rw[B];exact C.k1,by rw[B];exact C.k2,X,W,J,k::q,L,j::s,?_,?_,rfl,rfl⟩⟩⟩;·rw[gM];intro a;simp only[dL,lL];omega
  ·exact⟨n.left,q,by rw[jG,eA (Ne.symm Q),jG,iA rfl],H,D,S,rfl,U.congr λd b=>x d (Ii b)⟩
  exact⟨n.right,s,by rw[jG,iA rfl],I,G,T,rfl,V.congr λd b=>x d (Ij (Ii b))⟩
 have j:c.n<=2*li (J++L)+li R:=by have p:=(A.count (by omega)).1;have b:=r.perm.length_eq;rw[g,v,aLm,jH,iB,bD]at b;have:=r.next1;omega
 rw[t,u];have g:k≠0:=(by have:=(r.mem (k:=k) (Ii (yE _ (eC ..)))).1;omega);refine⟨⟨rfl,rfl,rfl⟩,Ij ⟨rfl,rfl,λd b=>?_,⟨n.left,?_⟩,j⟩⟩;·have f:=(r.mem (k:=d) (Ii (tF _ b))).1;have y:d≠k:=λe=>o.2 (e▸b);rw[jG,eA (by omega),jG,eA y];rfl
 rw[jG,eA g,jG,iA rfl]
end
def tI (E:En) (k:Ky) (v:List UInt8):En:=E.filter (fun e=>decide (klt e.1 k))++(k,v)::E.filter (fun e=>decide (klt k e.1))
def zH (E:En) (k:Ky):En:=E.filter fun e=>!decide (e.1=k)
theorem bW{EA E0 EB:En}{k:Ky}{v:List UInt8}(h1:∀e∈EA,klt e.1 k)(h2:∀e∈EB,klt k e.1):tI (EA++(E0++EB)) k v=EA++(tI E0 k v++EB):=by
 have c:EA.filter (λe=>decide (klt e.1 k))=EA:=kT.2 λe b=>by simpa using h1 e b
 have d:EA.filter (λe=>decide (klt k e.1))=[]:=aHq.2 λe b=>by simpa using jS (h1 e b)
 have f:EB.filter (λe=>decide (klt e.1 k))=[]:=aHq.2 λe b=>by simpa using jS (h2 e b)
 have g:EB.filter (λe=>decide (klt k e.1))=EB:=kT.2 λe b=>by simpa using h2 e b
 unfold tI;rw[nV,nV,nV,nV,c,d,f,g];simp
theorem aJB{EA E0 EB:En}{k:Ky}(h1:∀e∈EA,klt e.1 k)(h2:∀e∈EB,klt k e.1):zH (EA++(E0++EB)) k=EA++(zH E0 k++EB):=by
 have d:EA.filter (λe=>!decide (e.1=k))=EA:=kT.2 λe b=>by have:=h1 e b;simp only[lT,eI];exact λc=>bC k (by rw[c]at this;exact this)
 have f:EB.filter (λe=>!decide (e.1=k))=EB:=kT.2 λe b=>by have:=h2 e b;simp only[lT,eI];exact λc=>bC k (by rw[c]at this;exact this)
 unfold zH;rw[nV,nV,d,f]
theorem jK{p:α->Bool}:∀ {l:List α} {x:α} {B:List α},l.dropWhile p=x::B->p x=false
 | [],_,_,b=>by cases b
 | y::l,x,B,b=>by
  by_cases c:p y;·rw[List.dropWhile_cons_of_pos c]at b;exact jK b
  rw[List.dropWhile_cons_of_neg c]at b;injection b with b _;rw[<- b];simpa using c
theorem vJ{p:α->Bool}:∀ {l:List α},∀x∈l.takeWhile p,p x=true
 | [],x,b=>by cases b
 | y::l,x,b=>by
  by_cases c:p y
  ·rw[List.takeWhile_cons_of_pos c]at b;obtain rfl|b:=bB.1 b
   ·exact c
   exact vJ x b
  rw[List.takeWhile_cons_of_neg c]at b;cases b
theorem aJC{l:List It}{x:It}(q:sI (mC l)):mC (nF l x)=tI (mC l) x.key x.v:=by
 obtain⟨d,h⟩:=nm (l.takeWhile λb=>decide (klt b.key x.key));obtain⟨f,i⟩:=nm (l.dropWhile λb=>decide (klt b.key x.key));have j:l=d++f:=by rw[h,i,xR]
 have n:∀e∈mC d,klt e.1 x.key:=λe c=>by obtain⟨b,g,rfl⟩:=kI.1 c;rw[h]at g;simpa using vJ b g
 unfold nF;rw[<- h,<- i];rw[j,rF]at q;obtain⟨_,m,_⟩:=wQ.1 q;rw[j,rF,rF];have h:tI (mC d++mC f) x.key x.v=mC d++tI (mC f) x.key x.v:=by have:=bW (EA:=mC d) (E0:=mC f) (EB:=[]) (k:=x.key) (v:=x.v) n (λe c=>by cases c);simpa using this
 rw[h];congr 1;cases h:f with
 | nil=>rfl
 | cons b d=>
  have g:¬ klt b.key x.key:=by rw[i]at h;simpa using jK h
  rw[h]at m;have i:=(lF.1 m).1;simp only;by_cases f:b.key=x.key;·rw[iA f];have h:∀e∈mC d,klt x.key e.1:=λe c=>(by rw[<- f];exact i e c);show(b.key,x.v)::mC d=tI ((b.key,b.v)::mC d) x.key x.v;have:=bW (EA:=[]) (E0:=[(b.key,b.v)]) (EB:=mC d) (k:=x.key) (v:=x.v) (λe c=>by cases c) h;simp only[nG,aHa]at this;rw[this,f];simp[tI,bC]
  rw[eA f];have j:klt x.key b.key:=by
   by_cases m:klt x.key b.key;·exact m
   exact absurd (zQ g m) f
  have h:∀e∈mC (b::d),klt x.key e.1:=λe c=>by
   obtain rfl|c:=bB.1 c;·exact j
   exact qE j (i e c)
  have:=bW (EA:=[]) (E0:=[]) (EB:=mC (b::d)) (k:=x.key) (v:=x.v) (λe c=>by cases c) h;simp only[nG]at this;rw[this];rfl
theorem aCk{l:List It}{x y:It}(b:y∈nF l x):y=x∨y∈l∨∃z∈l,y={ z with v:=x.v }:=by
 unfold nF at b;obtain b|b:=sD.1 b;·exact Ij (Ii ((List.takeWhile_sublist _).mem b))
 split at b
 ·rename_i z f g;have c:∀d,d∈z::f->d∈l:=λd f=>(by rw[<- g]at f;exact(List.dropWhile_sublist _).mem f);split at b
  ·obtain rfl|b:=bB.1 b
   ·exact Ij (Ij ⟨z,c z (eC ..),rfl⟩)
   exact Ij (Ii (c y (jD _ b)))
  obtain rfl|b:=bB.1 b;·exact Ii rfl
  exact Ij (Ii (c y b))
 rw[xA]at b;exact Ii b
theorem aAs{l:List It}{x:It}(b:x.ok true)(_f:∀y∈l,y.ok true):aF true (nF l x)<=aF true l+162/\li (nF l x)<=li l+1/\1<=li (nF l x):=by
 have c:=aHT b;rw[iA rfl]at c;have c:aF true l=aF true (l.takeWhile λy=>decide (klt y.key x.key))+aF true (l.dropWhile λy=>decide (klt y.key x.key)):=by rw[<- gC,xR]
 have d:li l=li (l.takeWhile λy=>decide (klt y.key x.key))+li (l.dropWhile λy=>decide (klt y.key x.key)):=by rw[<- iB,xR]
 unfold nF;rw[c,gC,iB,d];cases d:l.dropWhile λy=>decide (klt y.key x.key) with
 | nil=>simp only[cD,bD,List.length_nil];have:aF true []=0:=rfl;omega
 | cons y f=>
  simp only;split;·simp only[cD,bD];have c:=b.v;have:ibn true { y with v:=x.v }<=ibn true y+64:=(by unfold ibn;simp only[vG];omega);omega
  simp only[cD,bD];omega
theorem oS{n:Nd}{key:Ky}{lo hi:Option Ky}(h1:wT lo key)(h2:kS hi key): ∃A B,n.l=A++B/\li A=n.way key/\n.l.take (n.way key)=A/\n.l.drop (n.way key)=B/\wT (lS lo A) key/\kS (oX hi B) key:=by
 obtain⟨A,f⟩:=nm (n.l.takeWhile λb=>!decide (klt key b.key));obtain⟨B,g⟩:=nm (n.l.dropWhile λb=>!decide (klt key b.key));have c:n.l=A++B:=by rw[f,g,xR]
 have d:n.way key=li A:=by rw[f];rfl
 refine⟨A,B,c,d.symm,by rw[d,c,xL],by rw[d,c,rO],?_,?_⟩
 ·have:∀b∈A,¬ klt key b.key:=λb h=>by rw[f]at h;simpa using vJ b h
  clear f c d;induction A generalizing lo with
  | nil=>exact h1
  | cons b A c=>refine c (lo:=some b.key) (λa c=>?_) (λd f=>this d (jD _ f));injection c with c;rw[<- c];exact this b (eC ..)
 cases c:B with
 | nil=>exact h2
 | cons b f=>intro d b;injection b with b;rw[<- b];rw[g]at c;simpa using jK c
theorem zY{S:aW}(f:aHS S){A B:List It}{lo hi:Option Ky}{c:Nat}{EA _E0 EB:En}{PA PB:List Nat}{k:Ky}(i:yH S lo c A EA PA)(j:nM S B hi EB PB)(l:A.Pairwise λb d=>klt b.key d.key) (h1:wT (lS lo A) k)(h2:kS (oX hi B) k):(∀e∈EA,klt e.1 k)/\∀e∈EB,klt k e.1:=by
 refine⟨λe d=>?_,λe d=>?_⟩;·obtain⟨a,g,b⟩:=yH.less f i l e d;exact zW b (h1 a g)
 obtain⟨g,h,b⟩:=nM.more f j e d;exact zW (h2 g h) b
theorem Z28{P:Prop} (h:P:=by
 have:=(ha'.mem (k:=u.2) (.inl (yE _ (tF _ s2.head)))).2;have:=ha'.next2;have:=ha'.few;omega):P:=h
theorem Z75{P:Prop} (h:P:=by
 show y.ok n.lf
 rw[hlf];rcases aCk hy with rfl | hy | ⟨z,hz,rfl⟩
 ·exact hx
 ·exact hi' y hy
 ·have q:=hi' z hz;exact⟨q.k1,q.k2,hx.v,q.at_,by simpa using q.bare⟩):P:=h
theorem aHV:∀(h:Nat) {f:Nat} {c:CD} {k:Nat} {lo hi:Option Ky} {E:En} {P R F:List Nat} {x:It},h<f->Sub c.N 1 h k lo hi E P->Acc c (P++R) F->c.e=0->x.ok true->wT lo x.key->kS hi x.key ->∃c' u,aHU f c k x=some (c',u)/\aJA c c' 1 h k lo hi (tI E x.key x.v) u R
 | 0,f,c,k,lo,hi,E,P,R,F,x,hf,hs,t,b,hx,h1,h2=>by
  obtain⟨f,rfl⟩:∃g,f=g+1:=⟨f-1,by omega⟩;obtain⟨n,d,A,j,B,X,rfl,hlf,rfl,rfl,o,p⟩:=hs;have hi':∀y∈n.l,y.ok true:=λy hy=>by have:=j.item y hy;rwa [hlf]at this
  obtain⟨Y,Z,H⟩:=aAs hx hi';have b3:n.size=3+aF true n.l:=by rw[cF,hlf];rfl
  have r:Nd.size { n with l:=nF n.l x }=3+aF true (nF n.l x):=by rw[cF];simp only[hlf];rfl
  have b4:li n.l<=509:=by
   have:∀l:List It,(∀y∈l,y.ok true)->li l<=aF true l:=λl i=>by
    induction l with
    | nil=>exact uB _
    | cons y l a6=>have:=a6 (λq s=>i q (jD _ s));rw[cD,bD];unfold ibn;simp only[vG];omega
   have:=this n.l hi';omega
  have s:NF c.N 0 { n with l:=nF n.l x } lo hi (tI (mC n.l) x.key x.v) []:=by
   have C:=aJC (x:=x) o;refine⟨hlf,C.symm,rfl,?_,λe b=>?_⟩
   ·unfold tI;refine wQ.2 ⟨o.filter _,lF.2 ⟨λe b=>by simpa using(cL.1 b).2,o.filter _⟩,λa t b6 o=>?_⟩;have D:klt a.1 x.key:=(by simpa using(cL.1 t).2);obtain rfl|o:=bB.1 o
    ·exact D
    exact qE D (by simpa using(cL.1 o).2)
   unfold tI at b;obtain b|b:=sD.1 b;·exact p e (cL.1 b).1
   obtain rfl|b:=bB.1 b;·exact⟨h1,h2⟩
   exact p e (cL.1 b).1
  have i:=aEs (m:=1) s (R:=R) (F:=F) t b (k:=k) ⟨by show(nF n.l x).length<65536;omega,λy hy=>?_,j.first,j.bare⟩ (by rw[r];simp only[hlf,vG];omega) H;·refine⟨_,_,?_,i⟩;unfold aHU;rw[A];simp only;rw[iA hlf]
  exact Z75
 | h+1,f,c,k,lo,hi,E,P,R,F,x,hf,hs,t,b,hx,h1,h2=>by
  obtain⟨f,rfl⟩:∃g,f=g+1:=⟨f-1,by omega⟩;obtain⟨n,d,A,j,B,X,rfl,hlf,hK⟩:=hs;obtain⟨o,s,i,b5,G,W,S,T⟩:=oS (n:=n) h1 h2;have p:=(fE.keys Sub.fine hK).1;rw[i]at hK p;have C:=(wQ.1 p).1;obtain⟨I,p,a0,O,J,r,L,a3,M,rfl,rfl⟩:=fE.focus.1 hK;obtain⟨a1,a2⟩:=zY Sub.fine L M (_E0:=a0) C S T;have U:n.child (n.way x.key)=qO n.first o:=by unfold Nd.child;rw[G]
  have V:Acc c (O++(k::(p++r)++R)) F:=t.swap (by rw[gM];intro a;simp only[dL,lL];omega);obtain⟨c',u,t,C,O⟩:=aHV h (f:=f) (by omega) a3 V b hx S T;have b:aHU (f+1) c k x=if u.2=0 then some (c',([],0)) else some (c'.lay k { n with l:=o++⟨u.1,[],u.2⟩::s }):=by unfold aHU;rw[A];simp only;rw[eA (by rw[hlf];decide),U,t];simp only;unfold xI;rw[G,W]
  rw[b];obtain⟨a3,S,a4,ha',t,O⟩|⟨a8,u0,t,_,a9⟩:=O
  ·have a7:c'.N k=some n:=(by rw[t k (yE _ (eC ..))];exact A);have U:∀ {Q:List Nat},(∀b∈Q,b∈p∨b∈r)->∀G lo hi E d,(∀b∈d,b∈Q)->Sub c.N 1 h G lo hi E d->Sub c'.N 1 h G lo hi E d:=λV G lo hi E d W T=>
    T.congr λb d=>t b (yE _ (jD _ (sD.2 (V b (W b d)))))
   have V:=yH.mono (U (Q:=p) (λb d=>Ii d)) (λb d=>d) L;have W:=nM.mono (U (Q:=r) (λb d=>Ij d)) (λb d=>d) M;have G:∀b∈R,c'.N b=c.N b:=λb d=>t b (tF _ d);rw[bW a1 a2];obtain⟨u0,T⟩|⟨u0,u1,u2,u3,u4,a',U,b0,a5,b1,s2,b2,rfl⟩:=O
   ·rw[iA u0];refine⟨c',([],0),rfl,C,Ii ⟨a3,k::(p++(S++r)),a4,ha'.swap ?_,G,Ii ⟨rfl,n,p++(S++r),a7,j,B,X,rfl,hlf,?_⟩⟩⟩
    ·rw[gM];intro a;simp only[dL,lL];omega
    rw[i];exact fE.focus.2 ⟨I,p,_,S,J,r,V,T,W,rfl,rfl⟩
   rw[eA u0];have O:u.2<65536:=(by exact Z28);have S:NF c'.N (h+1) { n with l:=o++⟨u.1,[],u.2⟩::s } lo hi (I++(tI a0 x.key x.v++J)) (p++((U++a5)++r)):=(by refine⟨hlf,?_⟩;rw[b2];exact fE.focus2.2 ⟨I,p,a',U,b0,a5,J,r,V,b1,s2,W,rfl,rfl⟩);have r:Nd.size { n with l:=o++⟨u.1,[],u.2⟩::s }=n.size+(3+li u.1):=(by rw[cF,cF,i,gC,gC,cD];simp only[ibn,hlf,eF,nH];omega);have I:li n.l<=507:=by
    have:∀l:List It,li l<=aF false l:=λl=>by
     induction l with
     | nil=>exact uB _
     | cons y l a6=>rw[cD,bD];unfold ibn;simp only[eF,nH];omega
    have:=this n.l;rw[cF,hlf]at B;simp only[eF,nH]at B;omega
   have p:=aEs (m:=1) S (R:=R) (F:=a4) (k:=k) (ha'.swap (by
    rw[gM];intro a;simp only[dL,lL];omega)) a3 ⟨by
     show(o++⟨u.1,[],u.2⟩::s).length<65536;have:li n.l=li o+li s:=(by rw[i,iB]);rw[iB,bD];omega,λy hy=>by
     show y.ok n.lf;obtain hy|hy:=sD.1 hy;·exact j.item y (by rw[i];exact yE _ hy)
     obtain rfl|hy:=bB.1 hy;·exact⟨u1,u2,uB _,O,by rw[hlf];rfl⟩
     exact j.item y (by rw[i];exact tF _ hy),j.first,j.bare⟩
    (by rw[r];simp only[hlf,eF,nH];omega) (by show 1<=li (o++_::s);rw[iB,bD];omega)
   obtain⟨j,p⟩:=p;refine⟨_,_,rfl,C.trans j,?_⟩;obtain⟨j,r,B,Y,Z,H⟩|z:=p;·exact Ii ⟨j,r,B,Y,λb d=>(Z b d).trans (G b d),H⟩
   exact Ij ⟨z.1,z.2.1,λb d=>(z.2.2.1 b d).trans (G b d),z.2.2.2.1,by rw[<- C.n];exact z.2.2.2.2⟩
  rw[iA u0];exact⟨c',([],0),rfl,C,Ij ⟨a8,rfl,λb d=>t b (tF _ d),⟨n,by rw[t k (yE _ (eC ..))];exact A⟩,by have D:=yH.count (λc lo hi E P h=>(Sub.count h).1) L;have b:=nM.count (λc lo hi E P h=>(Sub.count h).1) M;have d:li n.l=li o+li s:=(by rw[i,iB]);rw[bW a1 a2];simp only[iB,bD]at a9⊢;omega⟩⟩
def lB (l:List It) (key:Ky):Nat:=(l.takeWhile fun y=>decide (klt y.key key)).length
def aZ (l:List It) (key:Ky):Bool:=match l with|y::_=>decide (y.key=key) | []=>false
def gP (l:List It) (key:Ky):Bool:=aZ (l.dropWhile fun y=>decide (klt y.key key)) key
def dH (l:List It) (k:Nat):List It:=l.take k++l.drop (k+1)
def xO (l:List It) (k:Nat) (key:Ky):List It:=l.take k++match l.drop k with|y::B=>{ y with key:=key }::B | []=>[]
noncomputable def aJD (c:CD) (at_:Nat) (n:Nd) (k:Nat):Option (CD×(Ky×Nat)):=
 match c.N (n.child k),c.N (n.child (k+1)),n.l[k]? with
 | some a,some b,some y=>
  if (a.with_ y.key b).size<=512 then some (((c.write (n.child k) (a.with_ y.key b)).free (n.child (k+1))).lay at_ { n with l:=dH n.l k })
  else some (((c.write (n.child k) (a.with_ y.key b).left).write (n.child (k+1)) (a.with_ y.key b).right).lay at_ { n with l:=xO n.l k (a.with_ y.key b).key })
 | _,_,_=>none
noncomputable def aFX (c:CD) (at_:Nat) (n:Nd) (k:Nat) (u:Ky×Nat):Option (CD×(Ky×Nat)):=
 if u.2≠0 then some (c.lay at_ { n with l:=xI n.l k ⟨u.1,[],u.2⟩ })
 else match c.N (n.child k) with
  | none=>none
  | some x=>if c.e≠0∨170<=x.size∨n.l=[] then some (c,([],0)) else aJD c at_ n (k-1)
noncomputable def aEt:Nat->CD->Nat->Ky->Option (CD×Bool×(Ky×Nat))
 | 0,_,_,_=>none
 | f+1,c,k,key=>
  match c.N k with
  | none=>none
  | some n=>
   if n.lf then if gP n.l key then some (c.write k { n with l:=dH n.l (lB n.l key) },true,([],0)) else some (c,false,([],0))
   else match aEt f c (n.child (n.way key)) key with
    | none=>none
    | some (c',is,u)=>if is then (aFX c' k n (n.way key) u).map fun r=>(r.1,true,r.2) else some (c',false,([],0))
section
variable {c c':CD}{U F R P:List Nat}{h:Nat}{n:Nd}{lo hi:Option Ky}{E:En}
theorem yH.snoc{S:aW}{y:It}:∀ {A:List It} {lo:Option Ky} {c:Nat} {E:En} {P:List Nat},yH S lo c (A++[y]) E P↔∃E' P' E1 P1,yH S lo c A E' P'/\S (qO c A) (lS lo A) (some y.key) E1 P1/\E=E'++E1/\P=P'++P1
 | [],lo,c,E,P=>by
  constructor;·rintro⟨E1,P1,g,h,b,⟨rfl,rfl⟩,rfl,rfl⟩;exact⟨[],[],E1,P1,⟨rfl,rfl⟩,b,by simp,by simp⟩
  rintro⟨_,_,E1,P1,⟨rfl,rfl⟩,b,d,f⟩;rw[nG]at d f;subst d;subst f;exact⟨E,P,[],[],b,⟨rfl,rfl⟩,by simp,by simp⟩
 | x::A,lo,c,E,P=>by
  constructor;·rintro⟨E1,P1,g,h,b,k,rfl,rfl⟩;obtain⟨d,f,g,h,i,j,rfl,rfl⟩:=yH.snoc.1 k;exact⟨E1++d,P1++f,g,h,⟨E1,P1,d,f,b,i,rfl,rfl⟩,j,by rw[uF],by rw[uF]⟩
  rintro⟨_,_,g,h,⟨E1,P1,d,f,b,i,rfl,rfl⟩,j,rfl,rfl⟩;exact⟨E1,P1,d++g,f++h,b,yH.snoc.2 ⟨d,f,g,h,i,j,rfl,rfl⟩,by rw[uF],by rw[uF]⟩
theorem pS(c:Nat)(y:It):∀A:List It,qO c (A++[y])=y.at_
 | []=>rfl
 | x::A=>pS x.at_ y A
theorem aBG(lo:Option Ky)(y:It):∀A:List It,lS lo (A++[y])=some y.key
 | []=>rfl
 | x::A=>aBG (some x.key) y A
theorem aNs{y:It}:∀ {A:List It} {lo:Option Ky},(A++[y]).Pairwise (λb c=>klt b.key c.key)->(∀a,lo=some a->klt a y.key)->∀a,lS lo A=some a->klt a y.key
 | [],_,_,h,a,ha=>h a ha
 | b::A,lo,hp,_,a,ha=>by have c:=lF.1 hp;refine aNs (lo:=some b.key) c.2 (λd b=>?_) a ha;injection b with b;rw[<- b];exact c.1 y (tF _ (xA.2 rfl))
theorem pF{n:Nd}(b:n.size<=512):li n.l<=509:=by
 have:∀c:List It,li c<=aF n.lf c:=λc=>by
  induction c with
  | nil=>exact uB _
  | cons d c c=>rw[cD,bD];unfold ibn;split<;>omega
 have:=this n.l;rw[cF]at b;split at b<;>omega
theorem aNt{S:aW}(f:aHS S){A B:List It}{y:It}(hK:fE S lo i (A++y::B) hi E P):wT (lS lo A) y.key/\kS (oX hi B) y.key:=by
 obtain⟨b,c⟩:=fE.keys f hK;refine⟨λa d=>jS (aNs (A:=A) (y:=y) ?_ (c y (tF _ (eC ..))).1 a d),?_⟩
 ·have e:A++y::B=(A++[y])++B:=by simp
  rw[e]at b;exact(wQ.1 b).1
 cases B with
 | nil=>exact(c y (tF _ (eC ..))).2
 | cons d B=>intro g c;injection c with c;rw[<- c];exact(lF.1 (wQ.1 b).2.1).1 d (eC ..)
theorem aAt{Q:List Nat}(b:∀p∈Q,c'.N p=c.N p):∀cc lo hi E P',(∀p∈P',p∈Q)->Sub c.N 1 h cc lo hi E P'->Sub c'.N 1 h cc lo hi E P':=λ_ _ _ _ _ d f=>f.congr λp f=>b p (d p f)
theorem Z38{P:Prop} (h:P:=by
 unfold dH;rw[hl,xL,show A ++ y :: B=(A ++ [y]) ++ B by simp,show A.length+1=(A ++ [y]).length by simp,rO]):P:=h
theorem Z80{P:Prop} (h:P:=by
 unfold Nd.child;rw[hl,show A ++ y :: B=(A ++ [y]) ++ B by simp,show A.length+1=(A ++ [y]).length by simp,xL,pS]):P:=h
theorem aNu{A B:List It}{y:It}{EA E1 E2 EB:En}{PA P1 P2 PB:List Nat}{a b:Nd}(hl:n.l=A++y::B)(t:n.lf=false)(g:n.ok)(Q:n.size<=512) (a3:yH (Sub c.N 1 h) lo n.first A EA PA)(D:c.N (qO n.first A)=some a)(j:a.ok)(o:a.size<=512)(f:NF c.N h a (lS lo A) (some y.key) E1 P1) (E:c.N y.at_=some b)(z:b.ok)(C:b.size<=512)(i:NF c.N h b (some y.key) (oX hi B) E2 P2)(a4:nM (Sub c.N 1 h) B hi EB PB) (b':1<=li a.l+li b.l)(b7:a.size+b.size<=512+169)(H:wT (lS lo A) y.key)(I:kS (oX hi B) y.key) (T:Acc c (k::(PA++((qO n.first A::P1)++(y.at_::P2))++PB)++R) F)(a5:c.e=0): ∃c' u,aJD c k n (li A)=some (c',u)/\aJA c c' 0 (h+1) k lo hi (EA++((E1++E2)++EB)) u R:=by
 have q:n.child (li A)=qO n.first A:=by unfold Nd.child;rw[hl,xL]
 have s:n.child (li A+1)=y.at_:=by exact Z80
 have G:n.l[li A]? = some y:=by rw[hl,mJ (tA _),mY];rfl
 have r:=g.item y (by rw[hl];exact tF _ (eC ..));have d:a.lf=b.lf:=by rw[f.kind,i.kind]
 obtain⟨m,p⟩:=nm (a.with_ y.key b);have x:m.ok:=by rw[p];exact aNq j z d ⟨r.k1,r.k2⟩ (by have:=pF o;have:=pF C;omega)
 have L:m.size=if a.lf then a.size+b.size-3 else a.size+b.size+li y.key-2:=by rw[p];exact aFW d _
 have S:m.lf=a.lf:=by rw[p];rfl
 have M:NF c.N h m (lS lo A) (oX hi B) (E1++E2) (P1++P2):=by rw[p];exact f.with_ i I H
 have I:1<=li m.l:=by
  rw[p];show 1<=li ((if a.lf then a.l else a.l++[⟨y.key,[],b.first⟩])++b.l);rw[iB];split;·omega
  rw[iB];simp only[LN];omega
 have b2:=r.k2;obtain⟨i,J⟩:=nm (qO n.first A);obtain⟨j,V⟩:=nm (y.at_);rw[<- J]at q T D;rw[<- V]at s T E;have f:=T.nodup;have z:∀d,(k::(PA++((i::P1)++(j::P2))++PB)++R++F).count d<=1:=λd=>List.nodup_iff_count.1 f d;have C:∀d,d∈k::(PA++(P1++P2)++PB)++R->d≠i/\d≠j:=λd f=>by
  have o:=z d;have H:1<=(k::(PA++(P1++P2)++PB)++R).count d:=List.count_pos_iff.2 f;simp only[dL,lL]at o H;constructor;·intro e;rw[iA (show(i==d)=true by simp[e])]at o;omega
  intro e;rw[iA (show(j==d)=true by simp[e])]at o;omega
 have O:i≠j:=λe=>by have o:=z i;simp only[dL,lL]at o;rw[iA (show(i==i)=true by simp),iA (show(j==i)=true by simp[e])]at o;omega
 have b3:i∉F:=T.apart (k:=i) (by simp);have b4:j∉F:=T.apart (k:=j) (by simp);unfold aJD;rw[q,s,D,E,G];simp only;rw[<- p];by_cases z:m.size<=512
 case' pos=>
  rw[iA z];obtain⟨o,p⟩:=nm ((c.write i m).free j);have s:∀d,d≠j->o.N d=if d=i then some m else c.N d:=λd f=>by rw[p,aQQ f,jG]
  have q:∀d,d∈k::(PA++(P1++P2)++PB)++R->o.N d=c.N d:=λd f=>by rw[s d (C d f).2,eA (C d f).1]
  have E:Acc o (k::(PA++(i::(P1++P2))++PB)++R) (j::F):=by rw[p];refine Acc.free ((T.write (k:=i) (by simp) x z).swap ?_);rw[gM];intro d;simp only[dL,lL];omega
  have G:aJz c o:=by rw[p];exact⟨rfl,rfl,rfl⟩
  have H:o.e=0:=by rw[p];exact a5
  have D:Sub o.N 1 h i (lS lo A) (oX hi B) (E1++E2) (i::(P1++P2)):=⟨m,P1++P2,by rw[s i O,iA rfl],x,z,I,rfl,M.congr λd f=>q d (by simp at f⊢;rcases f with f|f<;>simp[f])⟩;have I:NF o.N (h+1) { n with l:=A++B } lo hi (EA++((E1++E2)++EB)) (PA++((i::(P1++P2))++PB)):=by refine⟨t,fE.focus.2 ⟨EA,PA,E1++E2,i::(P1++P2),EB,PB,yH.mono (P:=PA) (aAt λd f=>q d (by simp[f])) (λ_ h=>h) a3,by rw[J]at D⊢;exact D,nM.mono (P:=PB) (aAt λd f=>q d (by simp[f])) (λ_ h=>h) a4,rfl,rfl⟩⟩
  have D:dH n.l (li A)=A++B:=by exact Z38
  rw[D];have a6:Nd.size { n with l:=A++B }<=512:=by rw[cF,hl,gC,cD]at Q;rw[cF,gC];simp only;omega
  have D:=aEs (m:=0) I (R:=R) (F:=j::F) (k:=k) (E.swap (by rw[gM];intro d;simp only[dL,lL];omega)) H ⟨by show(A++B).length<65536;have:=g.few;rw[hl,iB,bD]at this;rw[iB];omega,λd f=>g.item d (by rw[hl];obtain f|f:=sD.1 f;exact yE _ f;exact tF _ (jD _ f)),g.first,g.bare⟩ (by show _<=if n.lf=true then 680 else 780;rw[eA (by rw[t];decide)];omega) (uB _)
 case' neg=>
  rw[eA z];have z:m.size<=if m.lf then 680 else 780:=by rw[S,L];split<;>omega
  obtain⟨W,a7,X,Y,a8,a9,Z,a0⟩:=Nd.split_ok x (by omega) z;obtain⟨z,L⟩:∃z,m.l[m.cutAt]? = some z:=⟨_,kE W⟩;have S:m.key=z.key:=by unfold Nd.key;rw[L];rfl
  have U:=x.item z (kF L);obtain⟨a1,x,a2,z,a',b0,b1,L,b5,b6⟩:=M.split W a7;obtain⟨o,p⟩:=nm ((c.write i m.left).write j m.right);have s:∀d,o.N d=if d=j then some m.right else if d=i then some m.left else c.N d:=λd=>by rw[p,jG,jG]
  have q:∀d,d∈k::(PA++(P1++P2)++PB)++R->o.N d=c.N d:=λd f=>by rw[s d,eA (C d f).2,eA (C d f).1]
  have E:Acc o (k::(PA++((i::P1)++(j::P2))++PB)++R) F:=by rw[p];exact(T.write (by simp) Z X).write (by simp) a0 Y
  have G:aJz c o:=by rw[p];exact⟨rfl,rfl,rfl⟩
  have H:o.e=0:=by rw[p];exact a5
  have C:Sub o.N 1 h i (lS lo A) (some m.key) a1 (i::x):=⟨m.left,x,by rw[s,eA O,iA rfl],Z,X,a8,rfl,a'.congr λd f=>q d (by have:d∈P1++P2:=(by rw[L];exact yE _ f);simp at this⊢;rcases this with h|h<;>simp[h])⟩;have M:Sub o.N 1 h j (some m.key) (oX hi B) a2 (j::z):=⟨m.right,z,by rw[s,iA rfl],a0,Y,a9,rfl,b0.congr λd f=>q d (by have:d∈P1++P2:=(by rw[L];exact tF _ f);simp at this⊢;rcases this with h|h<;>simp[h])⟩;have s:xO n.l (li A) m.key=A++{ y with key:=m.key }::B:=by unfold xO;rw[hl,xL,rO]
  rw[s];have I:NF o.N (h+1) { n with l:=A++{ y with key:=m.key }::B } lo hi (EA++((E1++E2)++EB)) (PA++(((i::x)++(j::z))++PB)):=by refine⟨t,?_⟩;rw[b1];exact fE.focus2.2 ⟨EA,PA,a1,i::x,a2,j::z,EB,PB,yH.mono (P:=PA) (aAt λd f=>q d (by simp[f])) (λ_ h=>h) a3,by rw[J]at C⊢;exact C,by rw[V]at M⊢;exact M,nM.mono (P:=PB) (aAt λd f=>q d (by simp[f])) (λ_ h=>h) a4,rfl,rfl⟩
  have i:li m.key<=96:=by rw[S];exact U.k2
  have j:1<=li m.key:=by rw[S];exact U.k1
  have a6:Nd.size { n with l:=A++{ y with key:=m.key }::B }<=620:=by rw[cF,hl,gC,cD]at Q;rw[cF,gC,cD];simp only[t,ibn,eF,nH]at Q⊢;omega
  have s:∀d,P1.count d+P2.count d=x.count d+z.count d:=λd=>by have:=congrArg (List.count d) L;simpa only[dL]using this
  have D:=aEs (m:=0) I (R:=R) (F:=F) (k:=k) (E.swap (by
   rw[gM];intro d;have:=s d;simp only[dL,lL];omega)) H ⟨by
    show(A++{ y with key:=m.key }::B).length<65536;have:=g.few;rw[hl,iB,bD]at this;rw[iB,bD];exact this,λd f=>by
    show d.ok n.lf;obtain f|f:=sD.1 f;·exact g.item d (by rw[hl];exact yE _ f)
    obtain rfl|f:=bB.1 f;·exact⟨j,i,r.v,r.at_,r.bare⟩
    exact g.item d (by rw[hl];exact tF _ (jD _ f)),g.first,g.bare⟩ (by show _<=if n.lf=true then 680 else 780;rw[eA (by rw[t];decide)];omega) (uB _)
 all_goals
  rw[<- p];obtain⟨j,D⟩:=D;have i:∀d∈R,o.N d=c.N d:=λd f=>q d (by simp[f]);refine⟨_,_,rfl,G.trans j,?_⟩;obtain⟨f,j,o,p,q,r⟩|d:=D;·exact Ii ⟨f,j,o,p,λw f=>(q w f).trans (i w f),r⟩
  exact Ij ⟨d.1,d.2.1,λw f=>(d.2.2.1 w f).trans (i w f),d.2.2.2.1,by rw[<- G.n];exact d.2.2.2.2⟩
end
section
variable {c c':CD}{F R P:List Nat}{h:Nat}{n:Nd}{lo hi:Option Ky}{E:En}
theorem aNv{l:List It}{key:Ky}(t:sI (mC l)):(gP l key=true↔∃e∈mC l,e.1=key)/\(gP l key=true->mC (dH l (lB l key))=zH (mC l) key/\li (dH l (lB l key))+1=li l/\aF true (dH l (lB l key))<=aF true l/\∀x∈dH l (lB l key),x∈l):=by
 obtain⟨A,c⟩:=nm (l.takeWhile λy=>decide (klt y.key key));obtain⟨i,j⟩:=nm (l.dropWhile λy=>decide (klt y.key key));have hl:l=A++i:=by rw[c,j,xR]
 have d:lB l key=li A:=by rw[c];rfl
 have g:∀e∈mC A,klt e.1 key:=λe b=>by obtain⟨y,f,rfl⟩:=kI.1 b;rw[c]at f;simpa using vJ y f
 have c:gP l key=aZ i key:=by rw[j];rfl
 rw[d,c];rw[hl,rF]at t;obtain⟨_,m,_⟩:=wQ.1 t;cases d:i with
 | nil=>refine⟨⟨(λh=>by cases h),λ⟨e,b,c⟩=>?_⟩,λh=>by cases h⟩;exfalso;rw[hl,d,jH]at b;have:=g e b;rw[c]at this;exact bC _ this
 | cons y B=>
  have f:¬ klt y.key key:=by rw[j]at d;simpa using jK d
  rw[d]at m hl;have i:=(lF.1 m).1;unfold aZ;simp only;by_cases c:y.key=key
  ·have j:∀e∈mC B,klt key e.1:=λe b=>(by rw[<- c];exact i e b);have d:dH l (li A)=A++B:=by
    exact Z38
   refine⟨⟨λ_=>⟨(y.key,y.v),by rw[hl,rF];exact tF _ (eC ..),c⟩,λ_=>by simpa using c⟩,λ_=>?_⟩;rw[d];refine⟨?_,by rw[hl,iB,iB,bD];omega,by rw[hl,gC,gC,cD];omega,λx d=>?_⟩;·have:=aJB (EA:=mC A) (E0:=[(y.key,y.v)]) (EB:=mC B) (k:=key) g j;rw[hl,rF,rF];show mC A++mC B=zH (mC A++((y.key,y.v)::mC B)) key;rw[aHa]at this;rw[this];simp[zH,c]
   rw[hl];obtain d|d:=sD.1 d;·exact yE _ d
   exact tF _ (jD _ d)
  have j:klt key y.key:=by
   by_cases h:klt key y.key;·exact h
   exact absurd (zQ f h) c
  refine⟨⟨λh=>absurd (of_decide_eq_true h) c,λ⟨e,b,d⟩=>?_⟩,λh=>absurd (of_decide_eq_true h) c⟩;exfalso;rw[hl,rF]at b;obtain b|b:=sD.1 b;·have:=g e b;rw[d]at this;exact bC _ this
  obtain rfl|b:=bB.1 b;·exact c d
  have:=qE j (i e b);rw[d]at this;exact bC _ this
theorem aMc{x:Nd}(h:170<=x.size):1<=li x.l:=by
 cases b:x.l with
 | nil=>exfalso;rw[cF,b]at h;have:aF x.lf []=0:=rfl;split at h<;>omega
 | cons b c=>simp
theorem aHW:∀(h:Nat) {f:Nat} {c:CD} {k:Nat} {lo hi:Option Ky} {E:En} {P R F:List Nat} {key:Ky},h<f->Sub c.N 1 h k lo hi E P->Acc c (P++R) F->c.e=0->wT lo key->kS hi key ->
  ∃c' O u,aEt f c k key=some (c',O,u)/\(O=true↔∃e∈E,e.1=key)/\(O=false->c'=c/\u.2=0)/\(O=true->aJA c c' 0 h k lo hi (zH E key) u R)
 | 0,f,c,k,lo,hi,E,P,R,F,key,hf,hs,ha,j,h1,h2=>by
  obtain⟨f,rfl⟩:∃g,f=g+1:=⟨f-1,by omega⟩;obtain⟨n,P',e1,i,o,hm,rfl,d,rfl,rfl,hr,V⟩:=hs;obtain⟨q1,q2⟩:=aNv (key:=key) hr;have c9:k∉F:=ha.apart (k:=k) (by simp)
  have b0:k∉R:=λhk=>by
   have:=(jT.1 (jT.1 ha.nodup).1).2.2 k (by simp) k hk;exact this rfl
  cases q:gP n.l key with
  | false=>
   have q3:=q1;rw[q]at q3;refine⟨c,false,([],0),?_,q3,λ_=>⟨rfl,rfl⟩,λh=>by cases h⟩;unfold aEt;rw[e1]
   simp only
   rw[iA d,eA (by rw[q];decide)]
  | true=>
   obtain⟨d1,d2,d3,d4⟩:=q2 q;have q3:=q1;rw[q]at q3
   have I:Nd.ok { n with l:=dH n.l (lB n.l key) }:=⟨by
    show(dH n.l (lB n.l key)).length<65536
    have:=i.few;omega,λx hx=>i.item x (d4 x hx),i.first,i.bare⟩
   have s:Nd.size { n with l:=dH n.l (lB n.l key) }<=512:=by
    rw[cF]at o⊢;simp only[d,vG]at o⊢;omega
   refine⟨c.write k { n with l:=dH n.l (lB n.l key) },true,([],0),?_,q3,(λh=>by cases h),λ_=>⟨⟨rfl,rfl,rfl⟩,Ii ⟨j,[k],F,ha.write (by simp) I s,λp hp=>?_,Ii ⟨rfl,{ n with l:=dH n.l (lB n.l key) },[],by rw[jG,iA rfl],I,s,uB _,rfl,d,d1.symm,rfl,?_,?_⟩⟩⟩⟩
   ·unfold aEt;rw[e1]
    simp only
    rw[iA d,iA q]
   ·rw[jG,eA fun(e:p=k)=>b0 (e▸hp)]
   ·exact hr.filter _
   ·exact λe j=>V e (cL.1 j).1
 | h+1,f,c,k,lo,hi,E,P,R,F,key,hf,hs,ha,j,h1,h2=>by
  obtain⟨f,rfl⟩:∃g,f=g+1:=⟨f-1,by omega⟩;obtain⟨n,P',e1,i,o,hm,rfl,d,hK⟩:=hs;obtain⟨A,B,v,b9,a7,b',g1,g2⟩:=oS (n:=n) h1 h2;have t:=(fE.keys Sub.fine hK).1
  have J:∀ {W B':List It} {y:It},n.l=W++y::B'->wT (lS lo W) y.key/\kS (oX hi B') y.key:=λe=>by
   rw[e]at hK;exact aNt Sub.fine hK
  rw[v]at hK t;have b1:=(wQ.1 t).1;obtain⟨EA,PA,E0,P0,EB,PB,kL,k0,kR,rfl,rfl⟩:=fE.focus.1 hK;obtain⟨q1,q2⟩:=zY Sub.fine kL kR (_E0:=E0) b1 g1 g2;have a0:n.child (n.way key)=qO n.first A:=by unfold Nd.child;rw[a7]
  have b4:Acc c (P0++(k::(PA++PB)++R)) F:=ha.swap (by
   rw[gM];intro a;simp only[dL,lL];omega)
  obtain⟨c',O,u,ep,q,c0,a8⟩:=aHW h (f:=f) (by omega) k0 b4 j g1 g2
  have L:O=true↔∃e∈EA++(E0++EB),e.1=key:=by
   rw[q]
   constructor
   ·rintro⟨e,j,hk⟩;exact⟨e,tF _ (yE _ j),hk⟩
   ·rintro⟨e,j,hk⟩;obtain j|j:=sD.1 j
    ·have:=q1 e j;rw[hk]at this;exact absurd this (bC _)
    ·obtain j|j:=sD.1 j
     ·exact⟨e,j,hk⟩
     ·have:=q2 e j;rw[hk]at this;exact absurd this (bC _)
  have b5:aEt (f+1) c k key=if O then (aFX c' k n (n.way key) u).map λr=>(r.1,true,r.2) else some (c',false,([],0)):=by
   unfold aEt;rw[e1]
   simp only
   rw[eA (by rw[d];decide),a0,ep]
  rw[b5]
  cases O with
  | false=>exact⟨c',false,([],0),rfl,L,λ_=>⟨(c0 rfl).1,rfl⟩,λh=>by cases h⟩
  | true=>
   rw[iA rfl,aJB q1 q2]
   suffices hs:∃c2 u2,aFX c' k n (n.way key) u=some (c2,u2)/\aJA c c2 0 (h+1) k lo hi (EA++(zH E0 key++EB)) u2 R by
    obtain⟨c2,u2,c1,hL⟩:=hs;exact⟨c2,true,u2,by rw[c1];rfl,L,(λh=>by cases h),λ_=>hL⟩
   obtain⟨sm,C⟩:=a8 rfl;unfold aFX;rw[a0];obtain⟨e0,Pn,Fn,ha',hR,C⟩|⟨e5,u0,hR,⟨n0,c3⟩,a9⟩:=C
   ·have b6:c'.N k=some n:=by rw[hR k (yE _ (eC ..))];exact e1
    have mono:∀ {Q:List Nat},(∀p∈Q,p∈PA∨p∈PB)->∀cc lo hi E P',(∀p∈P',p∈Q)->Sub c.N 1 h cc lo hi E P'->Sub c'.N 1 h cc lo hi E P':=λhQ cc lo hi E P' hP D=>
     D.congr λp hp=>hR p (yE _ (jD _ (sD.2 (hQ p (hP p hp)))))
    have G:=yH.mono (mono (Q:=PA) (λp hp=>Ii hp)) (λp hp=>hp) kL;have H:=nM.mono (mono (Q:=PB) (λp hp=>Ij hp)) (λp hp=>hp) kR;have T:∀p∈R,c'.N p=c.N p:=λp hp=>hR p (tF _ hp)
    have fin:∀ {c2:CD} {E2:En} {u2:Ky×Nat},aJA c' c2 0 (h+1) k lo hi E2 u2 R->aJA c c2 0 (h+1) k lo hi E2 u2 R:=λhL=>by
     obtain⟨c4,hL⟩:=hL;refine⟨sm.trans c4,?_⟩;obtain⟨z0,Pz,Fz,z1,z2,z3⟩|z:=hL
     ·exact Ii ⟨z0,Pz,Fz,z1,λw V=>(z2 w V).trans (T w V),z3⟩
     ·exact Ij ⟨z.1,z.2.1,λw V=>(z.2.2.1 w V).trans (T w V),z.2.2.2.1,by rw[<- sm.n];exact z.2.2.2.2⟩
    obtain⟨u0,D⟩|⟨u0,u1,u2,u3,u4,E1,P1,E2,P2,s1,s2,eE,rfl⟩:=C
    ·rw[eA (λh=>h u0)];obtain⟨x,Px,x1,x2,x3,_,rfl,x6⟩:=id D;rw[x1]
     simp only
     by_cases hx:170<=x.size
     ·rw[iA (Ij (Ii hx))];refine⟨c',([],0),rfl,sm,Ii ⟨e0,k::(PA++((qO n.first A::Px)++PB)),Fn,ha'.swap ?_,T,Ii ⟨rfl,n,PA++((qO n.first A::Px)++PB),b6,i,o,uB _,rfl,d,?_⟩⟩⟩
      ·rw[gM];intro a;simp only[dL,lL];omega
      ·rw[v];exact fE.focus.2 ⟨EA,PA,_,_,EB,PB,G,⟨x,Px,x1,x2,x3,aMc hx,rfl,x6⟩,H,rfl,rfl⟩
     ·have a4:n.l≠[]:=λe=>by rw[e]at hm;cases hm
      rw[eA (by rintro(h|h|h);exact h e0;exact hx h;exact a4 h),<- b9];obtain c5|⟨W,y,a'⟩:=List.eq_nil_or_concat A
      ·subst c5;obtain⟨rfl,rfl⟩:=G
       cases B with
       | nil=>exact absurd v a4
       | cons y B=>
        obtain⟨_,_,E2,P2,X,c6,⟨rfl,rfl⟩,b2,b3,rfl,rfl⟩:=(fE.focus (A:=[])).1 (show fE (Sub c'.N 1 h) (some y.key) y.at_ ([]++B) hi EB PB from H);obtain⟨z,Pz,z1,z2,z3,z4,rfl,z6⟩:=b2;obtain⟨m1,m2⟩:=J v
        obtain⟨c2,u2,j1,j2⟩:=aNu (A:=[]) (B:=B) (k:=k) (F:=Fn) (R:=R) (P1:=Px) (P2:=Pz) (PA:=[]) (PB:=c6) (EA:=[]) (EB:=X) (E1:=zH E0 key) (E2:=E2) (lo:=lo) (hi:=hi) (a:=x) (b:=z) v d i o ⟨rfl,rfl⟩ x1 x2 x3 x6 z1 z2 z3 z6 b3 (by omega) (by omega) m1 m2 (ha'.swap (by
         rw[gM];intro a;simp only[dL,lL,qO,nG];omega)) e0
        refine⟨c2,u2,j1,fin ?_⟩;have e:([]:En)++(zH E0 key++([]++(E2++X)))=[]++((zH E0 key++E2)++X):=by simp
        rw[e];exact j2
      ·rw[List.concat_eq_append]at a';subst a';obtain⟨Y,c7,E1,P1,l1,l2,rfl,rfl⟩:=yH.snoc.1 G;obtain⟨z,Pz,z1,z2,z3,z4,rfl,z6⟩:=l2;rw[pS]at x1 ha';rw[aBG]at x6;have a5:n.l=W++y::B:=by rw[v];simp
       obtain⟨m1,m2⟩:=J a5
       obtain⟨c2,u2,j1,j2⟩:=aNu (A:=W) (B:=B) (y:=y) (k:=k) (F:=Fn) (R:=R) (P1:=Pz) (P2:=Px) (PA:=c7) (PB:=PB) (EA:=Y) (EB:=EB) (E1:=E1) (E2:=zH E0 key) (lo:=lo) (hi:=hi) (a:=z) (b:=x) a5 d i o l1 z1 z2 z3 z6 x1 x2 x3 x6 H (by omega) (by omega) m1 m2 (ha'.swap (by
        rw[gM];intro a;simp only[dL,lL];omega)) e0
       refine⟨c2,u2,by rw[show(W++[y]).length-1=li W by simp];exact j1,fin ?_⟩;have e:(Y++E1)++(zH E0 key++EB)=Y++((E1++zH E0 key)++EB):=by simp
       rw[e];exact j2
    ·rw[iA u0]
     have hu:u.2<65536:=by
      exact Z28
     have a6:xI n.l (n.way key) ⟨u.1,[],u.2⟩=A++⟨u.1,[],u.2⟩::B:=by unfold xI;rw[a7,b']
     rw[a6]
     have b7:NF c'.N (h+1) { n with l:=A++⟨u.1,[],u.2⟩::B } lo hi (EA++(zH E0 key++EB)) (PA++((P1++P2)++PB)):=by
      refine⟨d,?_⟩;rw[eE];exact fE.focus2.2 ⟨EA,PA,E1,P1,E2,P2,EB,PB,G,s1,s2,H,rfl,rfl⟩
     have s:Nd.size { n with l:=A++⟨u.1,[],u.2⟩::B }=n.size+(3+li u.1):=by
      rw[cF,cF,v,gC,gC,cD];simp only[ibn,d,eF,nH];omega
     have c8:=pF o
     have b8:=aEs (m:=0) b7 (R:=R) (F:=Fn) (k:=k) (ha'.swap (by
      rw[gM];intro a;simp only[dL,lL]
      omega)) e0 ⟨by
       show(A++⟨u.1,[],u.2⟩::B).length<65536
       have:li n.l=li A+li B:=by rw[v,iB]
       rw[iB,bD];omega,λy Z=>by
       show y.ok n.lf
       obtain Z|Z:=sD.1 Z
       ·exact i.item y (by rw[v];exact yE _ Z)
       ·obtain rfl|Z:=bB.1 Z
        ·exact⟨u1,u2,uB _,hu,by rw[d];rfl⟩
        ·exact i.item y (by rw[v];exact tF _ Z),i.first,i.bare⟩
      (by show _<=if n.lf=true then 680 else 780;rw[eA (by rw[d];decide),s];omega) (uB _)
     exact⟨_,_,rfl,fin b8⟩
   ·rw[eA (λh=>h u0),c3]
    simp only
    rw[iA (Ii (by rw[e5];decide))]
    exact⟨c',([],0),rfl,sm,Ij ⟨e5,rfl,λp hp=>hR p (tF _ hp),⟨n,by rw[hR k (yE _ (eC ..))];exact e1⟩,by
     have a1:=yH.count (λc lo hi E P h=>(Sub.count h).1) kL;have a2:=nM.count (λc lo hi E P h=>(Sub.count h).1) kR;have a3:li n.l=li A+li B:=by rw[v,iB]
     simp only[iB,bD]at a9⊢;omega⟩⟩
def oE {α:Type} (r:Nat->α) (t:Nat) (v:α):Nat->α:=fun k=>if k=t then v else r k
def CD.root (c:CD) (t v:Nat):CD:={ c with roots:=oE c.roots t v }
def vF (c:CD) (t:Nat) (u:Ky×Nat):CD:=if u.2=0 then c else (c.alloc.1.root t c.alloc.2).write c.alloc.2 ⟨false,c.roots t,[⟨u.1,[],u.2⟩]⟩
noncomputable def qR (c:CD) (t:Nat):Option CD:=match c.N (c.roots t) with|none=>none|some n=>if c.e≠0∨n.l≠[] then some c else some ((c.free (c.roots t)).root t n.first)
noncomputable def aFE (c:CD) (t:Nat) (x:It):Option CD:=if c.roots t=0 then some ((c.alloc.1.root t c.alloc.2).write c.alloc.2 ⟨true,0,[x]⟩) else (aHU 40 c (c.roots t) x).map fun r=>vF r.1 t r.2
noncomputable def aHX (c:CD) (t:Nat) (key:Ky):Option (CD×Bool):=
 if c.roots t=0 then some (c,false)
 else match aEt 40 c (c.roots t) key with
  | none=>none
  | some (c',is,u)=>if is then (qR (vF c' t u) t).map fun d=>(d,true) else some (c',false)
def aOZ (N:Nat->Option Nd) (root:Nat) (E:En) (P:List Nat):Prop:=(root=0/\E=[]/\P=[])∨(root≠0/\∃h,Sub N 1 h root none none E P)
def aJE (P:Nat->List Nat):List Nat:=(List.range 8).flatMap P
def bM (P:Nat->List Nat) (t:Nat):List Nat:=((List.range 8).erase t).flatMap P
structure uI (c:CD) (E:Nat->En) (P:Nat->List Nat) (F:List Nat):Prop where
 e:c.e=0
 tree:∀t,t<8->aOZ c.N (c.roots t) (E t) (P t)
 acc:Acc c (aJE P) F
structure aFY (c c':CD):Prop where
 pg:c'.pg=c.pg
 n:c'.n=c.n
section
variable {E:Nat->En}{P:Nat->List Nat}{t:Nat}
theorem aPa(Q:List Nat):bM (oE P t Q) t=bM P t:=by
 unfold bM;have c:∀b∈(List.range 8).erase t,oE P t Q b=P b:=λb d=>by unfold oE;rw[eA];rintro rfl;exact(List.Nodup.not_mem_erase List.nodup_range) d
 generalize (List.range 8).erase t=f at c;induction f with
 | nil=>rfl
 | cons a f f=>rw[xG,xG,c a (eC ..),f (λb d=>c b (jD _ d))]
theorem qS(ht:t<8):(aJE P).Perm (P t++bM P t):=by unfold aJE bM;have b:=List.perm_cons_erase (kO.2 ht);have c:=b.flatMap_right P;rwa [xG]at c
theorem aPb{k s:Nat}(d:s<8)(b:s≠t)(f:k∈P s):k∈bM P t:=by unfold bM;rw[wR];exact⟨s,(List.mem_erase_of_ne b).2 (kO.2 d),f⟩
theorem aOZ.congr{N N':Nat->Option Nd}{b:Nat}{E:En}{P:List Nat}(h:aOZ N b E P)(d:∀p∈P,N' p=N p):aOZ N' b E P:=by
 obtain h|⟨b,h,c⟩:=h;·exact Ii h
 exact Ij ⟨b,h,c.congr d⟩
theorem uI.turn{Et:En}{Pt:List Nat}(h:uI c E P F)(ht:t<8)(g:c'.e=0)(i:∀s,s≠t->c'.roots s=c.roots s)(j:aOZ c'.N (c'.roots t) Et Pt)(k:Acc c' (Pt++bM P t) L)(l:∀p∈bM P t,c'.N p=c.N p): uI c' (oE E t Et) (oE P t Pt) L:=by
 refine⟨g,λs d=>?_,k.swap ?_⟩
 ·by_cases b:s=t
  ·subst b;unfold oE;rw[iA rfl,iA rfl];exact j
  have f:oE E t Et s=E s:=eA b;have m:oE P t Pt s=P s:=eA b;rw[f,m,i s b];exact(h.tree s d).congr λp f=>l p (aPb d b f)
 have:=qS (P:=oE P t Pt) ht;rw[aPa]at this;have e:oE P t Pt t=Pt:=iA rfl;rw[e]at this;exact this
theorem cM{N:Nat->Option Nd}{h at_:Nat}{lo hi:Option Ky}{E:En}{P:List Nat}(d:Sub N 1 h at_ lo hi E P)(f:li E<1099511627776):h<40:=by
 have c:=d.count.2;by_cases b:h<40;·exact b
 exfalso;have:2^40<=2^h:=Nat.pow_le_pow_right (by omega) (by omega);have e:(2:Nat)^40=1099511627776:=by decide
 omega
theorem aMd(c:CD)(t v:Nat):(c.root t v).N=c.N:=rfl
theorem Acc.root{U F:List Nat}(h:Acc c U F)(t v:Nat):Acc (c.root t v) U F:=⟨h.perm,h.next1,h.next2,h.few,h.chain,h.wf.rM,h.wf.rS,h.wf.mM,h.wf.mS⟩
theorem aMe{x:It}(b:x.ok true):Nd.ok ⟨true,0,[x]⟩/\Nd.size ⟨true,0,[x]⟩<=512:=by
 refine⟨⟨by show 1<65536;omega,λd c=>?_,Nat.zero_lt_succ _,λ_=>rfl⟩,?_⟩;·rw[xA.1 c];exact b
 have:=aHT b;rw[iA rfl]at this;show 3+(ibn true x+0)<=512;omega
theorem aNw{h m:Nat}{Et:En}{u:Ky×Nat}{R Pt:List Nat}(b:c.roots t≠0)(q:Res c.N m h (c.roots t) none none Et u Pt)(i:Acc c (Pt++R) F)(T:c.e=0): aFY c (vF c t u)/\(∀s,s≠t->(vF c t u).roots s=c.roots s) /\((vF c t u).e=0/\(∃Pt' H,Acc (vF c t u) (Pt'++R) H/\(∀p∈R,(vF c t u).N p=c.N p)/\(vF c t u).roots t≠0/\((u.2=0/\Sub (vF c t u).N m h ((vF c t u).roots t) none none Et Pt')∨Sub (vF c t u).N 1 (h+1) ((vF c t u).roots t) none none Et Pt')) ∨(vF c t u).e=5/\(∃n,(vF c t u).N ((vF c t u).roots t)=some n)/\c.n<=2*li Et+li R):=by
 unfold vF;obtain⟨u0,g⟩|⟨u0,u1,u2,_,_,G,j,I,l,B,C,rfl,rfl⟩:=q;·rw[iA u0];exact⟨⟨rfl,rfl⟩,λ_ _=>rfl,Ii ⟨T,Pt,F,i,λ_ _=>rfl,b,Ii ⟨u0,g⟩⟩⟩
 rw[eA u0];have r:∀(f:CD) (v:Nat) (nd:Nd),((f.root t v).write v nd).roots=oE f.roots t v:=λ_ _ _=>rfl;obtain⟨x,y,d,o,b,H,z⟩|⟨x,y,d,o⟩:=aAr i T
 ·obtain⟨a,A⟩:=nm (c.alloc.2);obtain⟨f,D⟩:=nm (c.alloc.1);rw[<- A,<- D];rw[<- A]at x z;rw[<- D]at y d o b z;have D:∀p,f.N p=c.N p:=λp=>(by unfold CD.N;rw[o,b,d.n,d.pg]);have E:a∉(j++l)++R:=(aBk.1 (jT.1 z.nodup).1).1;have A:∀p∈(j++l)++R,((f.root t a).write a ⟨false,c.roots t,[⟨u.1,[],u.2⟩]⟩).N p=c.N p:=λp b=>by
   rw[jG,eA (fun(e:p=a)=>E (e▸b)),aMd,D]
  have J:=(i.mem (k:=c.roots t) (Ii (yE _ (yE _ B.head)))).2;have L:=(i.mem (k:=u.2) (Ii (yE _ (tF _ C.head)))).2;have M:=i.next2;have O:=i.few;have D:Nd.ok ⟨false,c.roots t,[⟨u.1,[],u.2⟩]⟩:=⟨by show 1<65536;omega,λo E=>by rw[xA.1 E];exact⟨u1,u2,uB _,by show u.2<65536;omega,rfl⟩,by show c.roots t<65536;omega,λh=>by cases h⟩;have E:Nd.size ⟨false,c.roots t,[⟨u.1,[],u.2⟩]⟩<=512:=(by show 5+(3+li u.1+0)<=512;omega);refine⟨⟨d.pg,d.n⟩,λs g=>?_,Ii ⟨y,a::(j++l),H,?_,λp b=>A p (tF _ b),?_,Ij ?_⟩⟩;·rw[r,d.roots];exact eA g
  ·exact(z.root t a).write (by simp) D E
  ·rw[r];show oE f.roots t a t≠0;unfold oE;rw[iA rfl];exact x
  rw[r,show oE f.roots t a t=a from iA rfl];refine⟨⟨false,c.roots t,[⟨u.1,[],u.2⟩]⟩,j++l,by rw[jG,iA rfl],D,E,tA _,rfl,rfl,G,j,I,l,?_,?_,rfl,rfl⟩;·exact B.congr λp b=>A p (yE _ (yE _ b))
  exact C.congr λp b=>A p (yE _ (tF _ b))
 have b:=i.perm.length_eq;rw[d,o,aLm,jH,iB,iB]at b;have b:=B.count.1;have d:=C.count.1;rw[x,y];refine⟨⟨rfl,rfl⟩,λs g=>eA g,Ij ⟨rfl,⟨⟨false,c.roots t,[⟨u.1,[],u.2⟩]⟩,?_⟩,?_⟩⟩;·rw[r,show oE _ t 0 t=0 from iA rfl,jG,iA rfl]
 rw[iB];omega
theorem aEu{x:It}(h:uI c E P F)(ht:t<8)(X:x.ok true)(C:li (E t)<1099511627776): ∃c',aFE c t x=some c'/\aFY c c'/\((∃P' L,uI c' (oE E t (tI (E t) x.key x.v)) P' L)∨c'.e=5/\c.n<=2*li (tI (E t) x.key x.v)+li (bM P t)):=by
 have i:=h.acc.swap (qS ht).symm;unfold aFE;obtain⟨l,b,d⟩|⟨l,B,k⟩:=h.tree t ht
 ·rw[iA l];rw[d,nG]at i;rw[b];obtain⟨u,y⟩:=aMe X;refine⟨_,rfl,?_⟩;obtain⟨o,p,d,q,j,L,r⟩|⟨o,p,d,q⟩:=aAr i h.e
  ·obtain⟨a,g⟩:=nm (c.alloc.2);obtain⟨b,m⟩:=nm (c.alloc.1);rw[<- g,<- m];rw[<- g]at o r;rw[<- m]at p d q j r;have z:∀g,b.N g=c.N g:=λg=>(by unfold CD.N;rw[q,j,d.n,d.pg]);have A:a∉bM P t:=(aBk.1 (jT.1 r.nodup).1).1;refine⟨⟨d.pg,d.n⟩,Ii ⟨_,L,h.turn ht p (λs k=>?_) (Et:=tI [] x.key x.v) (Pt:=[a]) (Ij ⟨?_,0,⟨true,0,[x]⟩,[],?_,u,y,tA _,?_,rfl,rfl,rfl,?_,?_⟩) ?_ (λg j=>?_)⟩⟩
   ·show oE b.roots t a s=_;rw[d.roots];exact eA k
   ·show oE b.roots t a t≠0;rw[show oE b.roots t a t=a from iA rfl];exact o
   ·show((b.root t a).write a _).N (oE b.roots t a t)=_;rw[show oE b.roots t a t=a from iA rfl,jG,iA rfl]
   ·show[a]=[oE b.roots t a t];rw[show oE b.roots t a t=a from iA rfl]
   ·exact List.pairwise_singleton _ _
   ·exact λe _=>⟨λa i=>(by cases i),λm b=>(by cases b)⟩
   ·exact(r.root t a).write (by simp) u y
   rw[jG,eA (fun(e:g=a)=>A (e▸j)),aMd,z]
  have j:=i.perm.length_eq;rw[d,q,aLm,jH]at j;rw[o,p];refine⟨⟨rfl,rfl⟩,Ij ⟨rfl,?_⟩⟩;show c.n<=2*1+_;omega
 rw[eA l];obtain⟨c',o,d,b,m⟩:=aHV B (f:=40) (cM k C) k i h.e X (λ_ h=>by cases h) (λ_ h=>by cases h);rw[d];refine⟨_,rfl,?_⟩;obtain⟨p,D,G,q,i,m⟩|⟨r,u0,i,_,u⟩:=m
 ·have d:c'.roots t=c.roots t:=(by rw[b.roots]);rw[<- d]at m l;obtain⟨d,y,z⟩:=aNw l m q p;refine⟨⟨by rw[d.pg,b.pg],by rw[d.n,b.n]⟩,?_⟩;obtain⟨l,H,m,p,q,A,d⟩|⟨B,_,C⟩:=z
  ·refine Ii ⟨_,m,h.turn ht l (λs k=>by rw[y s k,b.roots]) (Ij ⟨A,?_⟩) p (λg j=>(q g j).trans (i g j))⟩;obtain⟨_,d⟩|d:=d
   ·exact⟨_,d⟩
   exact⟨_,d⟩
  exact Ij ⟨B,by rw[<- b.n];exact C⟩
 have d:vF c' t o=c':=(by unfold vF;rw[iA u0]);simp only;rw[d];exact⟨⟨b.pg,b.n⟩,Ij ⟨r,u⟩⟩
theorem aMf{key:Ky}(h:uI c E P F)(ht:t<8)(p:li (E t)<1099511627776): ∃c' D,aHX c t key=some (c',D)/\aFY c c'/\(D=true↔∃e∈E t,e.1=key)/\(D=false->c'=c) /\((∃i F',uI c' (oE E t (zH (E t) key)) i F')∨c'.e=5/\D=true/\c.n<=2*li (zH (E t) key)+li (bM P t)):=by
 have o:=h.acc.swap (qS ht).symm;have d:(¬ ∃e∈E t,e.1=key)->oE E t (zH (E t) key)=E:=λn=>by
  funext j;unfold oE;by_cases l:j=t;·rw[iA l,l];exact kT.2 λe b=>by simp only[lT,eI];exact λg=>n ⟨e,b,g⟩
  rw[eA l]
 unfold aHX;obtain⟨g,m,W⟩|⟨g,I,l⟩:=h.tree t ht
 ·rw[iA g];have n:¬ ∃e∈E t,e.1=key:=by rw[m];rintro⟨e,b,_⟩;cases b
  exact⟨c,false,rfl,⟨rfl,rfl⟩,⟨(λh=>by cases h),λh=>absurd h n⟩,λ_=>rfl,Ii ⟨P,F,by rw[d n];exact h⟩⟩
 rw[eA g];obtain⟨c',D,y,b,m,n,q⟩:=aHW I (f:=40) (key:=key) (cM l p) l o h.e (λ_ h=>by cases h) (λ_ h=>by cases h);rw[b];simp only;cases D with
 | false=>obtain⟨rfl,_⟩:=n rfl;have b:¬ ∃e∈E t,e.1=key:=λo=>(by have:=m.2 o;cases this);exact⟨c',false,rfl,⟨rfl,rfl⟩,m,λ_=>rfl,Ii ⟨P,F,by rw[d b];exact h⟩⟩
 | true=>
  rw[iA rfl];suffices hgo:∃b,qR (vF c' t y) t=some b/\aFY c b/\((∃i F',uI b (oE E t (zH (E t) key)) i F')∨b.e=5/\c.n<=2*li (zH (E t) key)+li (bM P t)) by
   obtain⟨b,o,p,d⟩:=hgo;refine⟨b,true,by rw[o];rfl,p,m,(λh=>by cases h),?_⟩;obtain d|d:=d;·exact Ii d
   exact Ij ⟨d.1,rfl,d.2⟩
  obtain⟨o,d⟩:=q rfl;obtain⟨s,X,Y,v,q,d⟩|⟨J,u0,q,⟨Z,Q⟩,S⟩:=d
  ·have m:c'.roots t=c.roots t:=(by rw[o.roots]);rw[<- m]at d g;obtain⟨m,u,r⟩:=aNw g d v s;obtain⟨b,d⟩:=nm (vF c' t y);rw[<- d]at m u r⊢;have s:aFY c b:=⟨by rw[m.pg,o.pg],by rw[m.n,o.n]⟩;unfold qR;obtain⟨z,d,H,L,v,T,r⟩|⟨M,⟨R,U⟩,V⟩:=r
   ·have B:∀g∈bM P t,b.N g=c.N g:=λg m=>(v g m).trans (q g m);have C:∀j,j≠t->b.roots j=c.roots j:=λj l=>(by rw[u j l,o.roots]);have G:∀q,Sub b.N 1 q (b.roots t) none none (zH (E t) key) d->∃p,(match b.N (b.roots t) with|none=>none|some d=>if b.e≠0∨d.l≠[] then some b else some ((b.free (b.roots t)).root t d.first))=some p/\aFY c p/\((∃i F',uI p (oE E t (zH (E t) key)) i F')∨p.e=5/\c.n<=2*li (zH (E t) key)+li (bM P t)):=λq x=>by
     obtain⟨d,i,u,A,O,v,a0,p⟩:=id x;rw[u];simp only;rw[iA (Ij λe=>by rw[e]at v;cases v)];exact⟨b,rfl,s,Ii ⟨_,H,h.turn ht z C (Ij ⟨T,q,x⟩) L B⟩⟩
    obtain⟨u0,r⟩|r:=r
    ·obtain⟨d,i,u,A,O,v,rfl,p⟩:=id r;by_cases v:d.l=[]
     ·rw[u];simp only;rw[eA (by rintro(h|h);exact h z;exact h v)];have x:Acc b (b.roots t::(i++bM P t)) H:=L;have L:=(x.free).root t d.first;have n:b.roots t∉i++bM P t:=(aBk.1 (jT.1 x.nodup).1).1;have H:∀g∈i++bM P t,((b.free (b.roots t)).root t d.first).N g=b.N g:=λg m=>(by rw[aMd,aQQ (fun(e:g=b.roots t)=>n (e▸m))]);have n:((b.free (b.roots t)).root t d.first).roots t=d.first:=iA rfl;refine⟨_,rfl,⟨s.pg,s.n⟩,Ii ⟨_,_,h.turn (c':=(b.free (b.roots t)).root t d.first) ht z (λj l=>?_) (Et:=zH (E t) key) (Pt:=i) ?_ L (λg m=>(H g (tF _ m)).trans (B g m))⟩⟩
      ·show oE b.roots t d.first j=_;rw[show oE b.roots t d.first j=b.roots j from eA l,C j l]
      rw[n];cases q:I with
      | zero=>rw[q]at p;obtain⟨l,j,n,_,_⟩:=p;exact Ii ⟨A.bare l,by rw[j,v];rfl,n⟩
      | succ n=>rw[q]at p;obtain⟨l,j⟩:=p;rw[v]at j;have l:Sub b.N 1 n d.first none none (zH (E t) key) i:=j;have:=(x.mem (k:=d.first) (Ii (jD _ (yE _ l.head)))).1;exact Ij ⟨by omega,n,l.congr λg m=>H g (yE _ m)⟩
     have g:1<=li d.l:=by cases j:d.l with|nil=>exact absurd j v|cons j l=>simp
     exact G _ ⟨d,i,u,A,O,g,rfl,p⟩
    exact G _ r
   rw[U];simp only;rw[iA (Ii (by rw[M];decide))];exact⟨b,rfl,s,Ij ⟨M,by rw[<- o.n];exact V⟩⟩
  have b:vF c' t y=c':=(by unfold vF;rw[iA u0]);rw[b];unfold qR;rw[o.roots,Q];simp only;rw[iA (Ii (by rw[J];decide))];exact⟨c',rfl,⟨o.pg,o.n⟩,Ij ⟨J,S⟩⟩
end
def oM (c:CD):List UInt8:=[79,82]++b16 c.next++b16 c.head++b16 (c.roots 0)++b16 (c.roots 1)++b16 (c.roots 2)++b16 (c.roots 3)++b16 (c.roots 4)++b16 (c.roots 5)++b16 (c.roots 6)++b16 (c.roots 7)
theorem bZ(c:CD):li (oM c)=22:=rfl
def yO (c:CD) (k:Nat):List UInt8:=
 if k=0 then gI (oM c) else match sG c.S k with|some j=>gI (b16 j)|none=>match sG c.M k with|some n=>gI n.written|none=>c.pg k
def oD (pg:Nat->List UInt8) (n:Nat):CD:=
 if pg 0=jE then { pg:=pg,n:=n,next:=1,head:=0,roots:=fun _=>0,M:=[],S:=[],e:=0 }
 else { pg:=pg,n:=n,next:=r16 ((pg 0).drop 2),head:=r16 ((pg 0).drop 4),roots:=fun t=>r16 ((pg 0).drop (6+2*t)),M:=[],S:=[],e:=0 }
def aQR (pg:Nat->List UInt8):Prop:=pg 0=jE∨(pg 0≠jE/\(pg 0).getD 0 0=79/\(pg 0).getD 1 0=82)
def kK (pg:Nat->List UInt8) (n:Nat) (E:Nat->En):Prop:=aQR pg/\(∀k,k<n->(pg k).length=512)/\∃P F,uI (oD pg n) E P F
theorem oI(pg:Nat->List UInt8)(n:Nat):(oD pg n).pg=pg/\(oD pg n).n=n/\(oD pg n).M=[]/\(oD pg n).S=[]/\(oD pg n).e=0:=by unfold oD;split<;>exact⟨rfl,rfl,rfl,rfl,rfl⟩
theorem Sub.nodes{N:Nat->Option Nd}:∀ {h m at_:Nat} {lo hi:Option Ky} {E:En} {P:List Nat},Sub N m h at_ lo hi E P->∀p∈P,∃n,N p=some n/\n.ok/\n.size<=512
 | h,m,at_,lo,hi,E,P,⟨n,P',h1,h2,h3,_,hP,h6⟩,p,b=>by
  subst hP;obtain rfl|b:=bB.1 b;·exact⟨n,h1,h2,h3⟩
  cases h with
  | zero=>obtain⟨_,_,rfl,_⟩:=h6;cases b
  | succ h=>
   have f:∀ {c:List It} {lo:Option Ky} {d:Nat} {E:En} {P:List Nat},fE (Sub N 1 h) lo d c hi E P->∀p∈P,∃n,N p=some n/\n.ok/\n.size<=512:=λ{c}=>by
    induction c with
    | nil=>exact λg p b=>Sub.nodes g p b
    | cons o c g=>
     rintro lo d E P ⟨i,j,k,l,c,d,rfl,rfl⟩ p b;obtain b|b:=sD.1 b;·exact Sub.nodes c p b
     exact g d p b
   exact f h6.2 p b
theorem nS.bound{b:Nat->Option Nat}{q:Nat}:∀ {F:List Nat} {h:Nat},nS b h F->(∀k∈F,k<q)->0<q->h<q
 | [],_,h,_,hq=>by have:_=0:=h;omega
 | a::F,_,⟨h1,_⟩,hF,_=>by rw[h1];exact hF a (eC ..)
theorem nS.same{c b:Nat->Option Nat}{q:Nat}:∀ {F:List Nat} {h:Nat},nS c h F->(∀k∈F,k<q)->0<q->(∀k∈F,∀j,c k=some j->j<q->b k=some j)->nS b h F
 | [],_,h,_,_,_=>h
 | a::F,_,⟨h1,j,h2,h3⟩,hF,hq,hn=>by have d:=h3.bound (λk c=>hF k (jD _ c)) hq;exact⟨h1,j,hn a (eC ..) j h2 d,h3.same (λk c=>hF k (jD _ c)) hq (λk c=>hn k (jD _ c))⟩
section
variable {E:Nat->En}{P:Nat->List Nat}
theorem aEv(c:CD):gI (oM c)≠jE:=λe=>by
 have this:(gI (oM c)).getD 0 0=jE.getD 0 0:=by rw[e]
 have b:(gI (oM c)).getD 0 0=79:=rfl;have d:jE.getD 0 0=0:=by unfold jE;rw[vR,List.getElem?_replicate,iA (by omega)];rfl
 rw[b,d]at this;exact absurd this (by decide)
theorem lK(h:uI c E P F){t:Nat}(ht:t<8):c.roots t<65536:=by
 have f:=h.acc.next2;have g:=h.acc.few;obtain⟨i,_,_⟩|⟨_,j,d⟩:=h.tree t ht;·omega
 have b:c.roots t∈aJE P:=by unfold aJE;rw[wR];exact⟨t,kO.2 ht,d.head⟩
 have:=(h.acc.mem (Ii b)).2;omega
theorem aPc(h:uI c E P F)(u:∀k,k<c.n->li (c.pg k)=512):kK (yO c) c.n E:=by
 have v:=h.acc.next1;have x:=h.acc.next2;have y:=h.acc.few;have r:=h.acc.head;have l:yO c 0=gI (oM c):=iA rfl;have s:¬ yO c 0=jE:=by rw[l];exact aEv c
 have f:oD (yO c) c.n={ pg:=yO c,n:=c.n,next:=c.next,head:=c.head,roots:=λt=>r16 ((yO c 0).drop (6+2*t)),M:=[],S:=[],e:=0 }:=by unfold oD;rw[eA s,l];have b:r16 ((gI (oM c)).drop 2)=c.next:=lH (by omega) _;have d:r16 ((gI (oM c)).drop 4)=c.head:=lH r _;rw[b,d]
 have z:∀t,t<8->r16 ((yO c 0).drop (6+2*t))=c.roots t:=λt m=>by
  rw[l];have b:=lK h (t:=0) (by omega);have g:=lK h (t:=1) (by omega);have o:=lK h (t:=2) (by omega);have d:=lK h (t:=3) (by omega);have i:=lK h (t:=4) (by omega);have j:=lK h (t:=5) (by omega);have p:=lK h (t:=6) (by omega);have A:=lK h (t:=7) (by omega);match t,m with
  | 0,_=>exact lH b _
  | 1,_=>exact lH g _
  | 2,_=>exact lH o _
  | 3,_=>exact lH d _
  | 4,_=>exact lH i _
  | 5,_=>exact lH j _
  | 6,_=>exact lH p _
  | 7,_=>exact lH A _
 have A:∀d,1<=d->d<c.n->∀n,c.N d=some n->n.ok->n.size<=512->(oD (yO c) c.n).N d=some n:=λd g o n b C p=>by
  rw[f];unfold CD.N at b⊢;simp only[aJy,aBm,nH,eF];rw[iA ⟨g,o⟩];cases j:sG c.S d with
  | some B=>rw[j]at b;simp at b
  | none=>
   rw[j]at b;simp only[aBm,nH,eF]at b;unfold yO;rw[eA (by omega),j];simp only;cases i:sG c.M d with
   | some D=>rw[i]at b;simp only at b⊢;injection b with b;rw[b];exact aSY C p
   | none=>rw[i]at b;simp only at b⊢;rw[iA ⟨g,o⟩]at b;exact b
 refine⟨Ij ⟨s,by rw[l];rfl,by rw[l];rfl⟩,λk l=>?_,P,F,by rw[f],λt m=>?_,⟨?_,?_,?_,?_,?_,?_⟩⟩
 ·unfold yO;split
  ·exact fN (by rw[bZ];omega)
  split;·exact fN (by show 2<=512;omega)
  split;·rename_i n i;have:=h.acc.wf.mM _ (aAo i);exact fN (by rw[Nd.written_len];exact this.2.2.2)
  exact u k l
 ·have b:(oD (yO c) c.n).roots t=c.roots t:=by rw[f];exact z t m
  rw[b];obtain g|⟨g,r,p⟩:=h.tree t m;·exact Ii g
  refine Ij ⟨g,r,?_⟩;refine p.congr λd g=>?_;obtain⟨n,b,r,s⟩:=p.nodes d g;have o:d∈aJE P:=(by unfold aJE;rw[wR];exact⟨t,kO.2 m,g⟩);have:=h.acc.mem (Ii o);rw[b];exact A d this.1 (by omega) n b r s
 ·rw[f];exact h.acc.perm
 ·rw[f];exact v
 ·rw[f];exact x
 ·rw[f];exact y
 ·have b:(oD (yO c) c.n).head=c.head:=by rw[f]
  rw[b];refine h.acc.chain.same (q:=65536) (λk l=>by have:=(h.acc.mem (Ij l)).2;omega) (by omega) λk l B b m=>?_;have o:=(h.acc.mem (Ij l)).1;have g:k<c.n:=by have:=(h.acc.mem (Ij l)).2;have:=h.acc.next2;omega
  rw[f];unfold CD.nx at b⊢;simp only[aJy,aBm,Bool.false_or,yJ g,Bool.not_true,nH,eF];unfold yO;rw[eA (by omega)];cases j:sG c.S k with
  | some l=>rw[j]at b;simp only at b⊢;injection b with b;rw[b];exact congrArg some (lH m _)
  | none=>
   rw[j]at b;simp only at b⊢;cases i:sG c.M k with
   | some n=>rw[i]at b;simp at b
   | none=>rw[i]at b;simpa[g]using b
 rw[f];exact⟨List.Pairwise.nil,List.Pairwise.nil,λd u=>(by cases u),λd u=>(by cases u)⟩
theorem aPd{pg:Nat->List UInt8}{n:Nat}(h0:pg 0=jE)(b:∀k,k<n->li (pg k)=512)(h1:1<=n)(h2:n<=4096):kK pg n λ_=>[]:=by have c:oD pg n={ pg:=pg,n:=n,next:=1,head:=0,roots:=λ_=>0,M:=[],S:=[],e:=0 }:=iA h0;refine⟨Ii h0,b,λ_=>[],[],by rw[c],λd _=>Ii ⟨by rw[c],rfl,rfl⟩,?_⟩;rw[c];refine⟨?_,tA _,h1,h2,rfl,⟨List.Pairwise.nil,List.Pairwise.nil,λc b=>(by cases b),λc b=>(by cases b)⟩⟩;have e:aJE (λ_=>[])=[]:=rfl;rw[e];exact List.Perm.refl _
end
def rR (E:En) (k:Ky):Option (List UInt8):=(E.find? fun e=>decide (e.1=k)).map (·.2)
theorem aCl{E1 E2:En}{k:Ky}(h:∀e∈E1,e.1≠k):rR (E1++E2) k=rR E2 k:=by unfold rR;rw[List.find?_append,show E1.find? (λe=>decide (e.1=k))=none from List.find?_eq_none.2 λe b=>by simpa using h e b];rfl
theorem aPe{E1 E2:En}{k:Ky}(h:∀e∈E2,e.1≠k):rR (E1++E2) k=rR E1 k:=by unfold rR;rw[List.find?_append,show E2.find? (λe=>decide (e.1=k))=none from List.find?_eq_none.2 λe b=>by simpa using h e b,Option.or_none]
theorem aQS{l:List It}{key:Ky}(q:sI (mC l)):rR (mC l) key=if gP l key then (l[lB l key]?).map (·.v) else none:=by
 obtain⟨h,j⟩:=nm (l.takeWhile λb=>decide (klt b.key key));obtain⟨d,k⟩:=nm (l.dropWhile λb=>decide (klt b.key key));have i:l=h++d:=by rw[j,k,xR]
 have m:lB l key=li h:=by rw[j];rfl
 have n:gP l key=aZ d key:=by rw[k];rfl
 have o:∀e∈mC h,e.1≠key:=λe f c=>by
  obtain⟨b,g,rfl⟩:=kI.1 f;rw[j]at g;have:klt b.key key:=by simpa using vJ b g
  rw[show b.key=key from c]at this;exact bC _ this
 rw[m,n];have j:rR (mC l) key=rR (mC d) key:=by rw[i,rF,aCl o]
 have m:l[li h]? = d[0]?:=by rw[i,mJ (tA _),mY]
 rw[j,m];rw[i,rF]at q;obtain⟨_,i,_⟩:=wQ.1 q;cases h:d with
 | nil=>rfl
 | cons b j=>
  rw[h]at i;have g:¬ klt b.key key:=by rw[k]at h;simpa using jK h
  unfold aZ;simp only;by_cases c:b.key=key;·rw[iA (by simpa using c)];unfold rR mC;rw[xJ,bQ (by simpa using c)];rfl
  rw[eA (by simpa using c)];have h:klt key b.key:=by
   by_cases d:klt key b.key;·exact d
   exact absurd (zQ g d) c
  unfold rR;rw[List.find?_eq_none.2 λe f=>?_];·rfl
  simp only[uG];intro b;obtain rfl|f:=bB.1 f;·exact c b
  have:=qE h ((lF.1 i).1 e f);rw[b]at this;exact bC _ this
def zO (up:Option Ky) (k:Ky):Bool:=match up with|some b=>!decide (klt k b)|none=>false
def goE (low:Ky) (up:Option Ky) (most:Nat):En->En->En×Bool
 | out,[]=>(out,true)
 | out,e::E=>if klt e.1 low then goE low up most out E else if out.length=most∨zO up e.1=true then (out,false) else goE low up most (out++[e]) E
section
variable {low:Ky}{up:Option Ky}{most:Nat}
theorem pL(out:En)(e:Ky×List UInt8)(E:En):goE low up most out (e::E)=if klt e.1 low then goE low up most out E else if li out=most∨zO up e.1=true then (out,false) else goE low up most (out++[e]) E:=rfl
theorem aEw:∀(E1 E2 out:En),goE low up most out (E1++E2)=if (goE low up most out E1).2 then goE low up most (goE low up most out E1).1 E2 else goE low up most out E1
 | [],_,_=>rfl
 | e::E1,E2,out=>by
  have b:=aEw E1 E2;rw[lI,pL,pL out e E1];split;·exact b out
  split;·rfl
  exact b _
theorem aJF:∀ {E1:En} (E2 out:En),(∀e∈E1,klt e.1 low)->goE low up most out (E1++E2)=goE low up most out E2
 | [],_,_,_=>rfl
 | e::E1,E2,out,h=>by
  show goE low up most out (e::(E1++E2))=_;conv=>lhs;unfold goE
  rw[iA (h e (eC ..))];exact aJF E2 out λe b=>h e (jD _ b)
def inB (low:Ky) (up:Option Ky) (e:Ky×List UInt8):Bool:=!decide (klt e.1 low)&&!zO up e.1
theorem aPf{a b:Ky}(h:zO up a=true)(c:klt a b):zO up b=true:=by
 unfold zO at h⊢;cases up with
 | none=>cases h
 | some f=>simp only[lT,eI]at h⊢;exact λd=>h (qE c d)
theorem aEx:∀ {E out:En},sI E->li out<=most->(goE low up most out E).1=out++(E.filter (inB low up)).take (most-li out)
 | [],out,_,_=>by simp[goE]
 | e::E,out,hr,hl=>by
  obtain⟨i,f⟩:=lF.1 hr;unfold goE;by_cases c:klt e.1 low;·rw[iA c,aEx f hl,List.filter_cons_of_neg (by unfold inB;simp[c])]
  rw[eA c];by_cases b:li out=most∨zO up e.1=true
  ·rw[iA b];obtain b|b:=b
   ·simp[b]
   have:(e::E).filter (inB low up)=[]:=aHq.2 λg d=>by
    have h:zO up g.1=true:=by
     obtain rfl|d:=bB.1 d;·exact b
     exact aPf b (i g d)
    unfold inB;simp[h]
   rw[this];simp
  rw[eA b];have d:li out<most:=by have:li out≠most:=λe=>b (Ii e);omega
  rw[aEx f (by rw[iB,aBb];omega),List.filter_cons_of_pos (by unfold inB;simp only[tN,lT];exact⟨by simpa using c,by simpa using λc=>b (Ij c)⟩),iB,aBb,uF];obtain⟨b,c⟩:∃b,most-li out=b+1:=⟨most-li out-1,by omega⟩;rw[c,List.take_succ_cons,show most-(li out+1)=b by omega];rfl
end
end
end Go.Proofs.YtebjhcjbfaaejaaGreatDoor
section
namespace Go.Proofs
open Go.Shelf
def Tryz.keysN_ren:Go.Shelf.Ren:=⟨fun|7=>149|10=>184|n=>n,fun|23=>139|26=>3|3=>184|28=>130|0=>0|27=>129|33=>112|4=>4|n=>n,fun|n=>n⟩
theorem Tryz.keysN:Go.Proofs.SlLaysZI.n7 Tryz.prog Tryz.keysN_ren:={
 mixed:=by kernel_rfl
 f7:=⟨Tryz.f149.name,by decide,Tryz.func149.trans (congrArg some (by kernel_rfl))⟩
 f10:=⟨Tryz.f184.name,by decide,Tryz.func184.trans (congrArg some (by kernel_rfl))⟩
 t0:=Go.Proofs.Tryz.underlying0
 a0:=Tryz.isAgg0
 z0:=Go.Proofs.Tryz.sizeOf0
 v0:=Go.Proofs.Tryz.zeroValue0
 t4:=Go.Proofs.Tryz.underlying4
 a4:=Tryz.isAgg4
 z4:=Go.Proofs.Tryz.sizeOf4
 v4:=Go.Proofs.Tryz.zeroValue4
 t23:=Go.Proofs.Tryz.underlying139
 a23:=Tryz.isAgg139
 z23:=Tryz.sizeOf139
 v23:=Tryz.zeroValue139
 t26:=Go.Proofs.Tryz.underlying3
 a26:=Go.Proofs.Tryz.isAgg3
 z26:=Go.Proofs.Tryz.sizeOf3
 v26:=Go.Proofs.Tryz.zeroValue3
 t27:=Tryz.underlying129
 a27:=Tryz.isAgg129
 z27:=Tryz.sizeOf129
 v27:=Tryz.zeroValue129
 t28:=Go.Proofs.Tryz.underlying130
 a28:=Tryz.isAgg130
 z28:=Tryz.sizeOf130
 v28:=Go.Proofs.Tryz.zeroValue130
 t33:=Go.Proofs.Tryz.underlying112
 a33:=Tryz.isAgg112
 z33:=Tryz.sizeOf112
 v33:=Go.Proofs.Tryz.zeroValue112 }
def Tryz.keysI_ren:Go.Shelf.Ren:=⟨fun|7=>152|10=>185|n=>n,fun|23=>140|26=>3|3=>3|28=>130|0=>0|27=>129|33=>112|4=>4|n=>n,fun|n=>n⟩
theorem Tryz.keysI:Go.Proofs.SlLaysZI.n7 Tryz.prog Tryz.keysI_ren:={
 mixed:=by kernel_rfl
 f7:=⟨Tryz.f152.name,by decide,Tryz.func152.trans (congrArg some (by kernel_rfl))⟩
 f10:=⟨Tryz.f185.name,by decide,Tryz.func185.trans (congrArg some (by kernel_rfl))⟩
 t0:=Go.Proofs.Tryz.underlying0
 a0:=Tryz.isAgg0
 z0:=Go.Proofs.Tryz.sizeOf0
 v0:=Go.Proofs.Tryz.zeroValue0
 t4:=Go.Proofs.Tryz.underlying4
 a4:=Tryz.isAgg4
 z4:=Go.Proofs.Tryz.sizeOf4
 v4:=Go.Proofs.Tryz.zeroValue4
 t23:=Go.Proofs.Tryz.underlying140
 a23:=Tryz.isAgg140
 z23:=Tryz.sizeOf140
 v23:=Tryz.zeroValue140
 t26:=Go.Proofs.Tryz.underlying3
 a26:=Go.Proofs.Tryz.isAgg3
 z26:=Go.Proofs.Tryz.sizeOf3
 v26:=Go.Proofs.Tryz.zeroValue3
 t27:=Tryz.underlying129
 a27:=Tryz.isAgg129
 z27:=Tryz.sizeOf129
 v27:=Tryz.zeroValue129
 t28:=Go.Proofs.Tryz.underlying130
 a28:=Tryz.isAgg130
 z28:=Tryz.sizeOf130
 v28:=Go.Proofs.Tryz.zeroValue130
 t33:=Go.Proofs.Tryz.underlying112
 a33:=Tryz.isAgg112
 z33:=Tryz.sizeOf112
 v33:=Go.Proofs.Tryz.zeroValue112 }
def Tryz.searchA_ren:Go.Shelf.Ren:=⟨fun|16=>134|n=>n,fun|3=>3|35=>112|4=>4|38=>170|n=>n,fun|n=>n⟩
theorem Tryz.searchA:Go.Proofs.SlLaysO.n16 Tryz.prog Tryz.searchA_ren:={
 mixed:=by kernel_rfl
 f16:=Tryz.func134.trans (congrArg some (by kernel_rfl))
 t3:=Go.Proofs.Tryz.underlying3
 a3:=Go.Proofs.Tryz.isAgg3
 z3:=Go.Proofs.Tryz.sizeOf3
 v3:=Go.Proofs.Tryz.zeroValue3
 t4:=Go.Proofs.Tryz.underlying4
 a4:=Tryz.isAgg4
 z4:=Go.Proofs.Tryz.sizeOf4
 v4:=Go.Proofs.Tryz.zeroValue4
 t35:=Go.Proofs.Tryz.underlying112
 a35:=Tryz.isAgg112
 z35:=Tryz.sizeOf112
 v35:=Go.Proofs.Tryz.zeroValue112
 t38:=Tryz.underlying170
 a38:=Tryz.isAgg170
 z38:=Tryz.sizeOf170
 v38:=Tryz.zeroValue170 }
end Go.Proofs
end
namespace Go.Proofs.YtebjhcjbfaaejaaGreatDoor
open Go.Proofs.Tryz
variable {k i m c d s:Nat}{v u:Value}{L:List Nat}{F:List Value}{T:TypeId}{α:Type}
section
open Go.RowKit Go.Sort Go.Shelf
theorem aEy{w:World}{v:Value}{bs:List UInt8}{g:Nat}(h:dA w v bs g):(Extern.Bytes.bytesOf v).run prog w=.ok ⟨bs.toArray⟩ w:=by
 obtain⟨m,o,p,rfl,q,j⟩:=h;have i:∀(d:List UInt8) (a:Addr) (f:ByteArray),(∀c b,d[c]? = some b->w.cell? (a.add c)=some (B8 b))->(Extern.Bytes.loadBytes a (li d) f).run prog w=.ok ⟨f.data++d.toArray⟩ w:=by
  intro d;induction d with
  | nil=>intro a f _;simp[Extern.Bytes.loadBytes]
  | cons b d n=>intro a f h;have d:=h 0 b rfl;rw[show a.add 0=a from by cases a;simp[Addr.add]]at d;have k:(Ot b.toNat)=b:=(by simp);have l:=n (a.add 1) (f.push b) (λc n f=>by have:=h (c+1) n (by simpa using f);rwa [show a.add (c+1)=(a.add 1).add c by rw[Addr.add_add,Nat.add_comm]]at this);unfold B8 at d;simp only[bD,Extern.Bytes.loadBytes,Sem.run_bind,run_load,d,Result.andThen,Int.toNat_natCast];rw[show b.toNat.toUInt8=b from k,l];simp[ByteArray.push]
 cases m with
 | none=>
  have d:bs=[]:=by
   cases bs with
   | nil=>rfl
   | cons b l=>have:=(j (by simp)).1;cases this
  subst d;rfl
 | some a=>have:=i bs a .empty (λc b f=>by have d:0<li bs:=(by have:=(uC.1 f).1;omega);obtain⟨i,k⟩:=j d;injection i with i;subst i;rw[Go.Addr.add_mid];exact k c (B8 b) (by rw[sH,f];rfl));show(Extern.Bytes.loadBytes a (li bs) .empty).run prog w=_;rw[this];have e:ByteArray.empty.data=#[]:=rfl;rw[e,Array.empty_append]
theorem aJG{w:World}{a b:List UInt8}(c:dA w v a k)(d:dA w u b i): (Extern.BytealgCompare.compare #[v,u]).run prog w=.ok (ii ip (Lib.compareBytes a b)) w:=by change Sem.run prog (do pure (goInt (Extern.BytealgCompare.cmp (<- Extern.Bytes.bytesOf v) (<- Extern.Bytes.bytesOf u)))) w=_;simp only[Sem.run_bind,aEy c,aEy d,Sem.run_pure,Result.andThen];rw[Lib.cmp_eq];rfl
theorem aCm{w:World}{a b:List UInt8}(c:dA w v a k)(d:dA w u b i): Calls prog 130 #[v,u] w λe f=>e=iz (ij (decide (a=b)))/\w=f:=by
 have f:=oN (P:=prog) (src:=67) (dst:=9) Go.Proofs.Tryz.underlying67 aBd nO c;have g:=oN (P:=prog) (src:=67) (dst:=9) Go.Proofs.Tryz.underlying67 aBd nO d;have e:decide (a=b)=(a==b):=by rw[lO];simp
 clear c d;go_enter func130,ntmps130;go_wp2;go_ret;exact⟨by rw[e];rfl,rfl⟩
theorem qN{w:World}{a b:List UInt8}(c:dA w v a k)(d:dA w u b i): Calls prog 133 #[v,u] w λe f=>e=iz (ii ip (Lib.compareBytes a b))/\w=f:=by go_enter func133,ntmps133;go_wp2;rw[run_callFunc_extern func174 (by kernel_rfl) (by kernel_rfl) (by kernel_rfl) (e:=Extern.BytealgCompare.compare) (by kernel_rfl),aJG c d];simp only[Result.andThen];rw[Oper.upon_value];go_wp2;go_ret;exact⟨rfl,rfl⟩
theorem aA{w w':World}(h:Fr [] w w'){p:Addr}{v:Value}(b:w.cell? p=some v):w'.cell? p=some v:=by rw[h.cell (xF w _ b) (by simp)];exact b
theorem Z23{P:Prop} (h:P:=by
 subst hn;rcases h.2 with ⟨rfl,h0⟩ | ⟨g,cap,cur,rfl,hg,hh,hn,hc,hs,ht⟩
 ·have:bs=[]:=uO.1 h0;subst this;exact⟨w.heap.size,dA.nil _ _,hb⟩
 ·refine⟨g,⟨_,cap,0,rfl,hn,fun _=>⟨rfl,fun j u hj=>?_⟩⟩,hg⟩;rw[nB];have:=World.ownsRow.cells h (g:=g) rfl j u hj
  rwa [Go.Addr.add_mid,nB] at this):P:=h
theorem dA.of_row{w:World}{b:Nat}{e:TypeId}{v:Value}{bs:List UInt8}{n:Nat}(hn:n=li bs)(h:w.ownsRow b e 1 v n (gA bs))(hb:b<=w):∃g,dA w v bs g/\b<=g:=by exact Z23
theorem yN:(prog.info? 5).map (λb=>(b.zero,b.size,b.bytes))=some (some (ii ix 0),1,1):=by kernel_rfl
theorem vK:(prog.info? 198).map (λb=>(b.zero,b.size,b.bytes))=some (some (il #[si none 0 0,si none 0 0,ii ip 0]),3,56):=by kernel_rfl
theorem fF{i:Option TypeInfo}{z:Option Value}{s b:Nat}(h:i.map (λi=>(i.zero,i.size,i.bytes))=some (z,s,b)):∃t,i=some t/\t.zero=z/\t.size=s/\t.bytes=b:=by obtain⟨t,d,c⟩:=mI.1 h;simp only[Prod.mk.injEq]at c;exact⟨t,d,c.1,c.2.1,c.2.2⟩
theorem Z48{P:Prop} (h:P:=by
 have h0:0 < bs.length:=by have:=(uC.1 hj).1;rw[nA] at this;omega
 obtain⟨ha,hcell⟩:=HB.o h0;injection ha with ha;subst ha;rw[Go.Addr.add_mid];exact hcell j u hj):P:=h
theorem rH{w:World}{v:Value}{bs:List UInt8}{g:Nat}(h:dA w v bs g)(m:li bs<=1099511627776): Calls prog 110 #[v] w λe c=>∃i,e=iz i/\(∃g',dA c i bs g'/\w.heap.size<=g')/\Fr [] w c:=by
 have x:∀(w:World) (a:Option Addr) (n b:Nat),(binOp .eql 67 (si a n b) (si none 0 0)).run prog w=.ok (ij a.isNone) w:=λw a n b=>Lib.run_eql_slice_nil w _ _ a n b 0 0 Go.Proofs.Tryz.underlying67;obtain⟨d,b,z,rfl,A,f⟩:=h;have HB:=lh f;obtain⟨p,q,r,s,t⟩:=fF yN;cases d with
 | none=>
  have h0:bs=[]:=by
   cases bs with
   | nil=>rfl
   | cons B C=>have:=(HB.o (by simp)).1;cases this
  subst h0;go_enter func110,ntmps110;go_wp2;go_ret;exact⟨_,rfl,⟨w.heap.size,dA.nil _ _,tA _⟩,jj _ _⟩
 | some d=>
  have f:∀j u,(gA bs)[j]? = some u->w.cell? (d.add j)=some u:=λj u hj=>by exact Z48
  have k:∀j u,(gA bs)[j]? = some u->(d.add j).block<w.heap.size:=λj u hj=>xF w _ (f j u hj);have l:=lh f;have y:=lh k;go_enter func110,ntmps110;go_wp2_with ((at_builtin;refine wpList_append_own _ rfl _ _ 67 rfl w.heap.size 5 p (ii ix 0) 1 1 Go.Proofs.Tryz.underlying67 q r s t rfl (by omega) _ 0 [] rfl ?own d (li bs) b (gA bs) rfl (by rw[nA];omega) (λj u hj=>aA ((jj [] w).alloc _) (l.o j u hj)) (λu b=>mD _ u b) (by unfold maxLen;omega) (by omega) (by simp) ?_))
  case own=>exact World.ownsRow_made w #[] 0 (tA _) (by unfold maxLen;omega) rfl
  intro i c d f k;have b:Fr [] w c:=((jj [] w).alloc _).grown f (λg c=>Ij (by simp[Value.ownBlock]at c;omega));have c:=lh (dA.of_row (n:=li bs) (bs:=bs) rfl d b.size);have d:=lh b;go_wp2;go_ret;exact⟨_,rfl,c.o,d.o⟩
def aCn (cs:List Value):Prop:=∀u∈cs,u.oneCell'=true
theorem mK{w:World}{n g:Nat}{v:Value}{cs:List Value}(h:kH w v n cs g)(D:li cs=n*3)(h1:aCn cs)(H:n<=65536): Calls prog 131 #[v] w λe j=>∃f,e=iz f/\j.ownsRow w.heap.size 198 3 f n cs/\Fr [] w j:=by
 have A:∀(w:World) (a:Option Addr) (n i:Nat),(binOp .eql 182 (si a n i) (si none 0 0)).run prog w=.ok (ij a.isNone) w:=λw a n i=>Lib.run_eql_slice_nil w _ _ a n i 0 0 qJ;obtain⟨s,t,u,x,y⟩:=fF vK;obtain⟨b,i,B,rfl,C,l⟩:=h;have q:=lh h1;cases b with
 | none=>
  obtain rfl:n=0:=by
   obtain d|d:=iT n;·exact d
   have:=(l d).1;cases this
  have b:cs=[]:=uO.1 (by omega);subst b;go_enter func131,ntmps131;go_wp2;go_ret;exact⟨_,rfl,gD _ _ _ _,jj _ _⟩
 | some p=>
  have r:Hid (∀(b:Nat) (c:Value),cs[b]? = some c->w.cell? (p.add b)=some c):=lh λb c k=>by have d:0<n:=(by have:=(uC.1 k).1;omega);obtain⟨m,z⟩:=l d;injection m with m;subst m;rw[Go.Addr.add_mid];exact z b c k
  clear h1 l;go_enter func131,ntmps131;go_wp2_with (at_builtin;refine wpList_append_own _ rfl _ _ 182 rfl w.heap.size 198 s (il #[si none 0 0,si none 0 0,ii ip 0]) 3 56 qJ t u x y rfl (by omega) _ 0 [] rfl ?own p n i cs rfl (by omega) (λb c k=>aA ((jj [] w).alloc _) (r.o b c k)) q.o (by unfold maxLen;omega) (by omega) (by simp) ?_)
  case own=>exact World.ownsRow_made w #[] 0 (tA _) (by unfold maxLen;omega) rfl
  intro f j h1 c i;have b:Fr [] w j:=((jj [] w).alloc _).grown c (λg c=>Ij (by simp[Value.ownBlock]at c;omega));have c:Hid (j.ownsRow w.heap.size 198 3 f n cs):=lh (by simpa using h1);have d:=lh b;go_wp2;go_ret;exact⟨_,rfl,c.o,d.o⟩
theorem Fr.grow{S:List Nat}{w w':World}(h:Fr S w w')(os:Array Obj):Fr S w (grow w' os):=⟨h.os,h.tape,h.output,by show w<=(w'.heap++os).size;rw[Array.size_append];have:=h.size;omega,λb c d=>by show(w'.heap++os)[b]? = _;rw[Array.getElem?_append_left (by have:=h.size;omega)];exact h.block b c d⟩
theorem aFZ{w:World}{g:Nat}{cb:Array Value}{n:Nat}(p:Nat->Bool)(j:∀args w,(callFunc g args).run prog w=.ok (.enter g args) w)(m:n<=65536) (k:∀w':World,Fr [] w w'->∀c,c<n->Calls prog g (#[ii ip c]++cb) w' λe d=>e=iz (ij (p c))/\∃q,d=w'.drewN q) (l:∀a b,a<=b->b<n->p a=true->p b=true): RV 134 #[ii ip n,.func (.func g) #[] cb] w (ii ip ((List.range n).countP (λc=>!p c):Nat)):=by have h:=Any.sort_Search Tryz.searchA g cb n p w j (by omega) (λf d c i=>(k _ (((jj [] w).drewN f).grow d) c i).mono λe w' ⟨c,q,f⟩=>⟨c,q,#[],by rw[f,grow_empty]⟩) l;exact Calls.mono h λe w' ⟨c,q,d,f⟩=>⟨c,by rw[f];exact((jj [] w).drewN q).grow d⟩
end
section
open Go.RowKit Go.Sort Go.Shelf Go.Lib
section
variable {P:Program}{w:World}
theorem xT{h sT ty t:TypeId}{k g off:Nat}{a:Addr}{cur cs:List Value}(q:P.underlying h=some (.slice T))(p:(P.info? T).map (·.size)=some k)(r:Blk w g t cur) (u:li cs=Nat.min d m*k)(b:∀j v,cs[j]? = some v->w.cell? (a.add j)=some v)(f:off+li cs<=li cur)(h1:∀v∈cs,v.oneCell'=true): (Builtin.copy_ #[h,sT] ty #[si (some ⟨g,off,none⟩) m c,si a d s]).run P w=.ok (goInt (Nat.min d m)) (w.setRow g (splice cur off cs).toArray):=by
 have i:=run_loadCells_list (P:=P) w a cs b;have l:=run_storeCells_at P g off t cs 0 cur.toArray w r (by simpa using f) h1;cases h:P.info? T with
 | none=>simp[h]at p
 | some o=>
  have n:o.size=k:=by simpa[h]using p
  rw[u]at i;simp[Builtin.copy_,run_underlying q,Builtin.lenOf,Builtin.firstCells,sizeOf,typeInfo,h,n,i,l,splice]
theorem aCo{t ty j:TypeId}{g off n c:Nat}{cur zs:List Value}{z:Value}(l:P.underlying t=some (.slice T))(k:(P.info? T).map (·.zero)=some (some z))(d:Blk w g j cur)(p:0<n) (h:(Builtin.zeroCells z.cells n).toList=zs)(b:off+li zs<=li cur)(h1:∀v∈zs,v.oneCell'=true): (Builtin.clear_ #[t] ty #[si (some ⟨g,off,none⟩) n c]).run P w=.ok (tl #[]) (w.setRow g (splice cur off zs).toArray):=by
 have f:=run_storeCells_at P g off j zs 0 cur.toArray w d (by simpa using b) h1;obtain⟨d,rfl⟩:∃d,n=d+1:=⟨n-1,by omega⟩;cases d:P.info? T with
 | none=>simp[d]at k
 | some m=>
  have i:m.zero=some z:=by simpa[d]using k
  simp[Builtin.clear_,run_underlying l,zeroValue,typeInfo,d,i,h,f,splice,Result.andThen]
theorem xU{b:Array Oper}{g:Oper}{a:Act}{w:World}{K:Act->World->Prop}{Q:Exit->Act->World->Prop}{E:Prop} (h:g.guard=none)(d x:Operand)(l sT:TypeId)(c:g.op=Op.call { callee:=Callee.builtin Builtin.append,args:=#[d,x],argTypes:=#[l,sT] }) (v u:Value)(i:a.eval d=v)(j:a.eval x=u){f:Value}{w':World}(k:(Builtin.append_ #[l,sT] g.type #[v,u]).run P w=.ok f w')(hK:K (a.put g.dst f) w'): if Region.wanted g (yielded b a.tmps)=true then Oper.wp P g a w K Q else E:=by
 have l:Region.wanted g (yielded b a.tmps)=true:=by simp[Region.wanted,h]
 rw[iA l];unfold Oper.wp;simp[execOp,c,resolve,invoke,builtin,i,j,k,Result.andThen];exact hK
theorem sS{b:Array Oper}{rest:List Oper}{j:Oper}{a:Act}{Q:Exit->Act->World->Prop}(c:j.guard=none)(d:Operand)(t:TypeId) (f:j.op=.call { callee:=.builtin .clear,args:=#[d],argTypes:=#[t] })(v:Value)(g:a.eval d=v){w':World} (i:(Builtin.clear_ #[t] j.type #[v]).run P w=.ok u w')(h:wpList P b Q rest (a.put j.dst u) w'):wpList P b Q (j::rest) a w:=by refine wpList_plain c λ_ hK=>?_;unfold Oper.wp execOp;simp only[f,resolve,invoke,builtin,Sem.run_bind,Sem.run_pure,Result.andThen_ok,List.map_toArray,xJ,List.map_nil,g,i];exact hK _ _ h
end
theorem mH:(prog.info? 198).map (·.size)=some 3:=by kernel_rfl
theorem aR:(prog.info? 198).map (·.zero)=some (some (il #[si none 0 0,si none 0 0,ii ip 0])):=by kernel_rfl
def zit:List Value:=[.slice none 0 0,.slice none 0 0,.int .i64 0]
theorem gN{cur cs:List Value}{off:Nat}(h:off+li cs<=li cur):li (splice cur off cs)=li cur:=by unfold splice;simp;omega
theorem cW{cur cs:List Value}{off m:Nat}(h:m<=off)(h2:off<=li cur):(splice cur off cs).take m=cur.take m:=by unfold splice;rw[List.take_append_of_le_length (by rw[pB];omega),aDm,gO h]
theorem iP{cur cs:List Value}{off:Nat}(h:off<=li cur):(splice cur off cs).take (off+li cs)=cur.take off++cs:=by unfold splice;rw[<- uF,List.take_left' (by rw[iB,pB];omega)]
theorem aAu{w:World}{b n i:Nat}{v:Value}{cs:List Value}(h:w.ownsRow b 198 3 v n cs)(h1:aCn cs)(hn:n<=65536)(hi:i<n): Calls prog 157 #[v,ii ip i,ii ip ((i:Int)+1)] w λe w'=>∃v',e=iz v'/\w'.ownsRow b 198 3 v' (n-1) (cs.take (3*i)++cs.drop (3*i+3))/\v'.ownBlock=v.ownBlock/\Fr v.ownBlock.toList w w':=by
 obtain⟨rfl,h0⟩|⟨g,cap,cur,rfl,hg,T,G,H,I,ht⟩:=h.2;·omega
 obtain⟨m,rfl⟩:∃m,n=m+1:=⟨n-1,by omega⟩;have hl:li cs=(m+1)*3:=h.1;unfold maxLen at H;have N:Blk w g 198 cur.toList:=T;have D:=lh N;clear h T N;go_enter func157,ntmps157;obtain⟨ti,J,hz,L,a5⟩:=fF vK;have f:li cur.toList=cap*3:=by simpa using I
 have k:∀(j:Nat) (u:Value),(cs.drop (3*i+3))[j]? = some u->cur.toList[(i+1)*3+j]? = some u:=λj u s=>by
  rw[zK,<- ht,uH]at s;split at s;·rwa [show 3*i+3+j=(i+1)*3+j by omega]at s
  cases s
 have t:∀(W:World) (ty:TypeId) (q:Nat),(m=i∨q=(i+1)*3)->Blk W g 198 cur.toList->(Builtin.append_ #[182,182] ty #[si (some ⟨g,0,none⟩) i cap,si (some ⟨g,q,none⟩) (m+1-(i+1)) (cap-(i+1))]).run prog W=.ok (si (some ⟨g,0,none⟩) m cap) (W.setRow g (splice cur.toList (i*3) (cs.drop (3*i+3))).toArray):=λW ty q U y=>by
  have:=run_append_room (P:=prog) (w:=W) 182 ty 198 ti qJ J g i cap cur y ⟨g,q,none⟩ (m+1-(i+1)) (cap-(i+1)) (cs.drop (3*i+3)) (by rw[L,vB];omega) (λj u s=>by
   obtain U|rfl:=U;·rw[sO (by omega)]at s;cases s
   rw[Go.Addr.add_mid];exact y.at_ (k j u s)) (λu hu=>h1 u (pJ hu)) (by omega) (by rw[L,vB];simp at f;omega)
  rw[L,show i+(m+1-(i+1))=m by omega]at this;rw[this];unfold splice;rw[uF]
 obtain⟨c2,l⟩:=nm (splice cur.toList (i*3) (cs.drop (3*i+3)));have d:li c2=cap*3:=by rw[l,gN (by rw[vB];omega)];exact f
 have p:c2.take (m*3)=cs.take (3*i)++cs.drop (3*i+3):=by have e:=iP (cs:=cs.drop (3*i+3)) (show i*3<=li cur.toList by omega);rw[vB,show i*3+(li cs-(3*i+3))=m*3 by omega]at e;rw[l,e];congr 1;rw[<- ht,aDm,gO (by omega),Nat.mul_comm]
 rw[<- l]at t;have z:(Builtin.zeroCells (il #[si none 0 0,si none 0 0,ii ip 0]).cells 1).toList=zit:=by kernel_rfl
 have A:∀(W:World) (ty:TypeId) (c:Nat),Blk W g 198 c2->(Builtin.clear_ #[182] ty #[si (some ⟨g,m*3,none⟩) 1 c]).run prog W=.ok (tl #[]) (W.setRow g (splice c2 (m*3) zit).toArray):=λW ty c y=>aCo qJ aR y (by omega) z (by rw[d];show m*3+3<=_;omega) (by simp[zit,Value.oneCell']);have r:∀W:World,Fr [g] w W->Blk W g 198 (splice c2 (m*3) zit)->W.ownsRow b 198 3 (si (some ⟨g,0,none⟩) m cap) m (cs.take (3*i)++cs.drop (3*i+3)):=λW _ y=>⟨by rw[iB,pB,vB];omega,Ij ⟨g,cap,(splice c2 (m*3) zit).toArray,rfl,hg,y,by omega,by unfold maxLen;omega,by rw[uU,gN (by rw[d];show m*3+3<=_;omega),d],by show(splice c2 (m*3) zit).take (m*3)=_;rw[cW (tA _) (by omega),p]⟩⟩;have V:i<=cap:=by omega
 have X:((i:Int)+1).toNat=i+1:=by omega
 have Y:(0:Int)<=(i:Int)+1:=by omega
 have Z:(i:Int)+1<=(m:Int)+1:=by omega
 have E:prog.follows Departure.mixedOrders=true:=by kernel_rfl
 have a0:m<=m+1:=by omega
 have a1:(i:Int)<=(m:Int):=by omega
 have a2:i<=m:=by omega
 have a3:(m:Int)<=(m:Int)+1:=by omega
 have a4:m+1<=cap:=G;have O:¬ cap=m:=by omega
 have Q:=lh t;have F:=lh A;have B:=lh r;have C:Hid (Blk (w.drew.setRow g c2.toArray) g 198 c2):=lh (D.o.drew.row_ c2);clear t k A r p l z d f ht;go_upto_region 5 with fail;by_cases x:cap=i+1
 case' pos=>obtain rfl:m=i:=(by omega);subst x;go_region_law_o (refine xU rfl _ _ 182 182 rfl _ _ (by simp[Act.eval,Act.put]) (by simp[Act.eval,Act.put]) (Q.out _ _ 0 (Ii rfl) D.o.drew) ?_)
 case' neg=>go_region_law_o (refine xU rfl _ _ 182 182 rfl _ _ (by simp[Act.eval,Act.put]) (by simp[Act.eval,Act.put]) (Q.out _ _ ((i+1)*3) (Ij rfl) D.o.drew) ?_)
 all_goals go_wp2_with (refine sS rfl _ 182 rfl _ rfl (F.o _ _ _ C.o) ?_);go_ret;exact⟨_,rfl,B.o _ (((jj [g] w).drew.setRow (Ii (by simp)) _).setRow (Ii (by simp)) _) (C.o.row_ _),rfl,by simpa[Value.ownBlock] using(((jj [g] w).drew.setRow (Ii (by simp)) _).setRow (Ii (by simp)) _)⟩
theorem aEz{W:World}{g q lb cb:Nat}{cur:List Value}(b:Blk W k 198 F)(l:Blk W g 198 cur)(j:k≠g)(h:cur≠[]): (callFunc 186 #[si k 1 1,si (some ⟨g,q,none⟩) lb cb]).run prog W=.ok (.value (ij false)) W:=by
 have c:∀w:World,(Go.sizeOf 198).run prog w=.ok 3 w:=λw=>by obtain⟨i,d,f⟩:=mI.1 mH;simp[Go.sizeOf,typeInfo,go_sem,d,f]
 have d:W.shape? k=some (198,li F):=by unfold Blk at b;simp[World.shape?,b]
 have f:W.shape? g=some (198,li cur):=by unfold Blk at l;simp[World.shape?,l]
 rw[run_callFunc_extern func186 (by kernel_rfl) (by kernel_rfl) (by kernel_rfl) (e:=Extern.SlicesOverlaps.overlaps #[182,182] #[4]) (by kernel_rfl),Lib.run_overlaps_apart W 182 4 198 qJ 3 c ⟨k,0,none⟩ ⟨g,q,none⟩ 1 1 lb cb j _ _ _ _ d f (by simpa using h) (b.free 0) (b.free _)];rfl
theorem yT{w:World}{b n i:Nat}{v:Value}{cs:List Value}(h:w.ownsRow b 198 3 v n cs)(h1:aCn cs)(hn:n<=65536)(hi:i<=n)(hb:b<=w.heap.size)
 (hx:Blk w k 198 F)(e3:aCn F)(b9:li F=3)(e4:v.ownBlock≠some k):
  Calls prog 155 #[v,i,si (some k) 1 1] w λe w'=>∃v',e=iz v'/\w'.ownsRow b 198 3 v' (n+1) (cs.take (3*i)++(F++cs.drop (3*i)))/\Fr v.ownBlock.toList w w'/\(∀q,v'.ownBlock=some q->v.ownBlock=some q∨w.heap.size<=q):=by
 obtain⟨ti,b8,hz,hs,X⟩:=fF vK;have b':prog.follows Departure.mixedOrders=true:=by kernel_rfl
 have HH:=lh h;have HX:=lh hx;have O:=lh e3;have a1:li cs=n*3:=h.1
 have c0:∀(j:Nat) (u:Value),F[j]? = some u->w.cell? ((⟨k,0,none⟩:Addr).add j)=some u:=λj u f=>by
  rw[Go.Addr.add_mid,nB];exact hx.at_ f
 have c1:=lh c0
 by_cases e0:i=n
 ·subst e0;have e:cs.take (3*i)++(F++cs.drop (3*i))=cs++F:=by rw[zF (by omega),sO (by omega),jH]
  rw[e];obtain⟨A,c,rfl,f0,d⟩:=jA h
  go_enter func155,ntmps155
  go_wp2_with (at_builtin;refine Go.wpList_append_lies _ rfl _ _ 182 rfl b 198 ti (il #[si none 0 0,si none 0 0,ii ip 0]) 3 56 qJ b8 hz hs X rfl (by omega) _ i cs rfl HH.o ⟨k,0,none⟩ 1 1 F rfl (by omega) c1.o O.o (by omega) (by unfold maxLen;omega) (by omega) hb w.heap.size rfl ?_)
  all_goals
   intro g cap w' k1 k2 k3 k4;have HR:=lh k1
   have HO:Hid (∀q,(si g (i+1) cap).ownBlock=some q->(si A i c).ownBlock=some q∨w.heap.size<=q):=lh λq hq=>by
    obtain rfl:g=q:=by simpa[Value.ownBlock]using hq
    obtain k3|k3:=k3
    ·exact Ii (by first|(rw[<- k3];done)|(cases A<;>simp_all [Value.ownBlock]))
    ·exact Ij (by omega)
   have HF:Hid (Fr (si A i c).ownBlock.toList w w'):=lh ((jj _ w).grown k2 (λg hg=>Ii (by
    have c4:(si A i c).ownBlock=some g:=by first|exact hg|(rw[<- hg];cases A<;>rfl)
    rw[c4];simp)))
   clear k1 k2 k3 k4
   go_wp2
   go_ret
   exact⟨_,rfl,HR.o,HF.o,HO.o⟩
 ·obtain⟨rfl,h0⟩|⟨g,cap,cur,rfl,hg,hh,f1,d',Y,ht⟩:=h.2
  ·omega
  ·unfold maxLen at d';have hB:Blk w g 198 cur.toList:=hh;have a2:k≠g:=λe=>e4 (by rw[e];rfl);have p:li cur.toList=cap*3:=by simpa using Y
   have HB:=lh hB;have e8:=hB.lt
   have x:∀(j:Nat) (u:Value),(cs.drop (3*i))[j]? = some u->cur.toList[i*3+j]? = some u:=λj u f=>by
    rw[zK,<- ht,uH]at f
    split at f
    ·rwa [show 3*i+j=i*3+j by omega]at f
    ·cases f
   have Q:∀q,q<=n*3->cur.toList.take q=cs.take q:=λq hq=>by rw[<- ht,aDm,gO hq]
   clear h hh hB
   by_cases a0:n+1<=cap
   ·-- in place
    have t:∀(W:World) (ty:TypeId) (sc dc:Nat),Blk W g 198 cur.toList->(Builtin.copy_ #[182,182] ty #[si (some ⟨g,(i+1)*3,none⟩) (n-i) dc,si (some ⟨g,i*3,none⟩) (n+1-i) sc]).run prog W=.ok (goInt (Nat.min (n+1-i) (n-i))) (W.setRow g (splice cur.toList ((i+1)*3) (cs.drop (3*i))).toArray):=λW ty sc dc hW=>
     xT qJ mH hW (by show _=min _ _*3;rw[vB,Nat.min_eq_right (by omega)];omega) (λj u f=>by rw[Go.Addr.add_mid];exact hW.at_ (x j u f)) (by rw[vB];omega) (λu hu=>h1 u (pJ hu))
    obtain⟨c2,d⟩:=nm (splice cur.toList ((i+1)*3) (cs.drop (3*i)));have r:li c2=cap*3:=by rw[d,gN (by rw[vB];omega)];exact p
    have a3:c2.take ((n+1)*3)=cur.toList.take ((i+1)*3)++cs.drop (3*i):=by
     have e:=iP (cs:=cs.drop (3*i)) (show(i+1)*3<=li cur.toList by omega);rw[vB,show(i+1)*3+(li cs-3*i)=(n+1)*3 by omega]at e;rw[d,e]
    rw[<- d]at t
    have z:∀(W:World) (ty:TypeId) (l dc:Nat),1<=l->Blk W g 198 c2->Blk W k 198 F->(Builtin.copy_ #[182,182] ty #[si (some ⟨g,i*3,none⟩) l dc,si k 1 1]).run prog W=.ok (goInt (Nat.min 1 l)) (W.setRow g (splice c2 (i*3) F).toArray):=λW ty l dc hl hW hV=>
     xT qJ mH hW (by show _=min _ _*3;rw[gO hl];omega) (λj u f=>by rw[Go.Addr.add_mid,nB];exact hV.at_ f) (by omega) O.o
    have s:∀W:World,Blk W g 198 (splice c2 (i*3) F)->W.ownsRow b 198 3 (si g (n+1) cap) (n+1) (cs.take (3*i)++(F++cs.drop (3*i))):=λW hW=>
     ⟨by rw[iB,iB,pB,vB];omega,Ij ⟨g,cap,(splice c2 (i*3) F).toArray,rfl,hg,hW,a0,by unfold maxLen;omega,by rw[uU,gN (by omega),r],by
      show(splice c2 (i*3) F).take ((n+1)*3)=_
      have e1:c2.take (i*3)=cs.take (3*i):=by rw[d,cW (by omega) (by omega),Q _ (by omega),Nat.mul_comm]
      have e2:c2.drop (i*3+li F)=cs.drop (3*i)++cur.toList.drop ((i+1)*3+li (cs.drop (3*i))):=by
       rw[d,b9];unfold splice;rw[List.drop_left' (by rw[pB];omega)]
      unfold splice;rw[e1,e2,<- uF,<- uF,uF (List.take (3*i) cs) F,List.take_left' (by rw[iB,iB,pB,vB];omega)]⟩⟩
    have c5:=lh t;have c6:=lh z;have B:=lh s;have a4:Hid (Blk (w.drew.setRow g c2.toArray) g 198 c2):=lh (HB.o.drew.row_ c2);have c7:Hid (Blk (w.drew.setRow g c2.toArray) k 198 F):=lh (HX.o.drew.row_far a2 _);have c8:∀lb cb q,(callFunc 186 #[si k 1 1,si (some ⟨g,q,none⟩) lb cb]).run prog w=.ok (.value (ij false)) w:=λlb cb q=>aEz HX.o HB.o a2 (λe=>by rw[e]at p;simp at p;omega);have c9:=wi i (by omega)
    have c':(0:Int)<=(i:Int)+1:=by omega
    have d0:((i:Int)+1).toNat=i+1:=by omega
    have d1:(i:Int)<=(n:Int):=by omega
    have d2:i<=n:=hi;have d3:¬ (cap=i+1):=by omega
    have d4:¬ (cap=i):=by omega
    have d5:(i:Int)<=(n:Int)+1:=by omega
    have e9:(n:Int)+1<=(cap:Int):=by omega
    have e':(0:Int)<=(n:Int)+1:=by omega
    have e5:((n:Int)+1).toNat=n+1:=by omega
    have e6:¬ ((cap:Int)<(n:Int)+1):=by omega
    have a5:¬ ((i:Int)=(n:Int)):=by omega
    have a6:i<=n+1:=by omega
    clear t z s x Q a3 d r p ht Y a1
    go_enter func155,ntmps155
    go_wp2_with (simp only[c8])
    go_region_law_o (refine step_copy_runI rfl _ _ 182 182 rfl _ _ (by simp[Act.eval,Act.put]) (by simp[Act.eval,Act.put]) (c5.o _ _ (cap-i) (cap-(i+1)) HB.o.drew) ?_)
    go_wp2_with (refine wpList_copy_runI _ rfl _ _ 182 182 rfl _ _ rfl rfl (c6.o _ _ (n+1-i) (cap-i) (by omega) a4.o c7.o) ?_)
    go_ret
    exact⟨_,rfl,B.o _ (a4.o.row_ _),by simpa[Value.ownBlock] using(((jj [g] w).drew.setRow (Ii (by simp)) _).setRow (Ii (by simp)) _),λq hq=>Ii hq⟩
   ·obtain rfl:cap=n:=by omega
    have C:(Builtin.firstCells ti.size i (si g i cap)).run prog w.drew=.ok (cs.take (3*i)).toArray w.drew:=by
     rw[hs];refine run_firstCells_some w.drew 3 i ⟨g,0,none⟩ i cap (cs.take (3*i)) (by rw[pB];omega) (λj u f=>?_);rw[Go.Addr.add_mid,nB];rw[uH]at f
     split at f
     ·rw[<- ht,uH]at f
      split at f
      ·exact HB.o.drew.at_ f
      ·cases f
     ·cases f
    obtain⟨G,hG⟩:=nm (grownCap w (cap+1) cap 198);obtain⟨m,y⟩:∃m:Array Value,m=(cs.take (3*i)).toArray++Builtin.zeroCells (il #[si none 0 0,si none 0 0,ii ip 0]).cells (cap+1-i)++Builtin.zeroCells (il #[si none 0 0,si none 0 0,ii ip 0]).cells (G-(cap+1)):=⟨_,rfl⟩;have a7:(cap:Int)+1-(i:Int)=((cap+1-i:Nat):Int):=by omega
    have T:∀ty:TypeId,(Builtin.append_ #[182,3] ty #[si g i cap,ii ip ((cap:Int)+1-(i:Int))]).run prog w=.ok (si w (cap+1) G) (w.drew.alloc (iy m 198)):=λty=>by
     have a8:=Lib.run_append_grow_zeros (P:=prog) w 182 3 ty 198 ti (il #[si none 0 0,si none 0 0,ii ip 0]) ip ip qJ Tryz.underlying3 b8 hz (some ⟨g,0,none⟩) i cap (cs.take (3*i)) C (cap+1-i) (by omega) (by omega) (by omega) (by omega) (by rw[X];omega) (by rw[X];exact growslice_fits (by omega) (by omega));rw[show i+(cap+1-i)=cap+1 by omega,<- hG,<- y]at a8;rw[a7];exact a8
    have d6:cap+1<=G:=by rw[hG];exact grownCap_ge w _ _ _
    have a9:G<=maxLen:=by rw[hG];exact grownCap_le_maxLen w _ _ _ (by unfold maxLen;omega)
    have hR:li m.toList=G*3:=by
     rw[y];simp only[Array.length_toList,Array.size_append,uU,pB,size_zeroCells]
     show _+_*3+_*3=_
     omega
    have a':m.toList.take (i*3)=cs.take (3*i):=by
     rw[y,Array.toList_append,Array.toList_append,uF,List.take_left' (by simp;omega)]
    obtain⟨N,D⟩:=nm (w.drew.alloc (iy m 198));have U:Blk N w.heap.size 198 m.toList:=by rw[D];exact jl w.drew _ m.toList
    have H:Fr [] w N:=by rw[D];exact((jj [] w).drew).alloc _
    have b0:Blk N k 198 F:=HX.o.fr H;have b1:Blk N g 198 cur.toList:=HB.o.fr H;have d7:=HX.o.lt;have b2:N.heap.size=w.heap.size+1:=by rw[D];simp
    rw[<- D]at T;obtain⟨c2,d⟩:=nm (splice m.toList (i*3) F);obtain⟨c3,I⟩:=nm (splice c2 ((i+1)*3) (cs.drop (3*i)));have r:li c2=G*3:=by rw[d,gN (by omega),hR]
    have J:li c3=G*3:=by rw[I,gN (by rw[vB];omega),r]
    have L:c3.take ((cap+1)*3)=cs.take (3*i)++(F++cs.drop (3*i)):=by
     have e:=iP (cs:=cs.drop (3*i)) (show(i+1)*3<=li c2 by omega);rw[vB,show(i+1)*3+(li cs-3*i)=(cap+1)*3 by omega]at e;have e2:=iP (cs:=F) (show i*3<=li m.toList by omega);rw[b9,show i*3+3=(i+1)*3 by omega,a']at e2;rw[I,e,d,e2,uF]
    have t:∀(ty:TypeId),(Builtin.copy_ #[182,182] ty #[si (some ⟨w.heap.size,i*3,none⟩) (cap+1-i) (G-i),si k 1 1]).run prog N=.ok (goInt (Nat.min 1 (cap+1-i))) (N.setRow w.heap.size c2.toArray):=λty=>by
     rw[d];exact xT qJ mH U (by show _=min _ _*3;rw[gO (by omega)];omega) (λj u f=>by rw[Go.Addr.add_mid,nB];exact b0.at_ f) (by omega) O.o
    obtain⟨Z,E⟩:=nm (N.setRow w.heap.size c2.toArray);have V:Blk Z w.heap.size 198 c2:=by rw[E];exact U.row_ c2
    have b3:Blk Z g 198 cur.toList:=by rw[E];exact b1.row_far (by omega) _
    have b4:Fr [] w Z:=by rw[E];exact H.setRow (Ij (tA _)) _
    rw[<- E]at t
    have z:∀(ty:TypeId),(Builtin.copy_ #[182,182] ty #[si (some ⟨w.heap.size,(i+1)*3,none⟩) (cap-i) (G-(i+1)),si (some ⟨g,i*3,none⟩) (cap-i) (cap-i)]).run prog Z.drew=.ok (goInt (Nat.min (cap-i) (cap-i))) (Z.drew.setRow w.heap.size c3.toArray):=λty=>by
     rw[I];exact xT qJ mH V.drew (by show _=min _ _*3;rw[vB,Nat.min_self];omega) (λj u f=>by rw[Go.Addr.add_mid];exact b3.drew.at_ (x j u f)) (by rw[vB];omega) (λu hu=>h1 u (pJ hu))
    have s:(Z.drew.setRow w.heap.size c3.toArray).ownsRow b 198 3 (si w (cap+1) G) (cap+1) (cs.take (3*i)++(F++cs.drop (3*i))):=
     ⟨by rw[iB,iB,pB,vB];omega,Ij ⟨w.heap.size,G,c3.toArray,rfl,hb,V.drew.row_ c3,d6,a9,by rw[uU,J],L⟩⟩
    have b5:Fr [] w (Z.drew.setRow w.heap.size c3.toArray):=b4.drew.setRow (Ij (tA _)) _;have b6:=lh t;have b7:=lh z;have d8:=lh T;have B:=lh s;have d9:=lh b5;unfold maxLen at a9;have c9:=wi i (by omega)
    have c':(0:Int)<=(i:Int)+1:=by omega
    have d0:((i:Int)+1).toNat=i+1:=by omega
    have d1:(i:Int)<=(cap:Int):=by omega
    have d2:i<=cap:=hi;have d3:¬ (G=i+1):=by omega
    have d4:¬ (G=i):=by omega
    have e7:¬ (cap=i):=by omega
    have d5:(i:Int)<=(cap:Int)+1:=by omega
    have a5:¬ ((i:Int)=(cap:Int)):=by omega
    have a6:i<=cap+1:=by omega
    clear t z T s b5 C x Q p ht Y a1 a7 hG y hR a' U H b0 b1 d7 b2 V b3 b4 d I r J L D E
    go_enter func155,ntmps155
    go_wp2_with (first
     | (at_builtin;refine Lib.wpList_append_run _ rfl _ _ _ _ rfl _ _ rfl rfl _ _ (d8.o _) ?_)
     | (refine wpList_copy_runI _ rfl _ _ 182 182 rfl _ _ rfl rfl (b6.o _) ?_))
    go_region_law_o (refine step_copy_runI rfl _ _ 182 182 rfl _ _ (by simp[Act.eval,Act.put]) (by simp[Act.eval,Act.put]) (b7.o _) ?_)
    go_wp2
    go_ret
    exact⟨_,rfl,B.o,d9.o.mono (by simp),λq hq=>Ij (uQ (by simpa[Value.ownBlock]using hq))⟩
end
end Go.Proofs.YtebjhcjbfaaejaaGreatDoor
