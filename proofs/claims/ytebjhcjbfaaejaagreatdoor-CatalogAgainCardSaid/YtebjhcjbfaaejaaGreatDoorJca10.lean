/-
  Joined: Nd Ne Nf Ng LayB
-/
import Derived.Shelf.SlIterI.Nil
import Derived.Shelf.SlSorted.Search
import Derived.Test.YtebjhcjbfaaejaaGreatDoorProg
import Derived.Test.YtebjhcjbfaaejaaGreatDoorJca9
set_option maxRecDepth 100000
set_option maxHeartbeats 32000000
namespace Go.Proofs.YtebjhcjbfaaejaaGreatDoor
open Go.Proofs.Tryz
variable {i:Nat}{L:List Nat}
section
def gB (l:List It) (key:Ky):Nat:=(l.takeWhile fun y=>decide (klt y.key key)).length
def lX (l:List It) (key:Ky):Bool:=match l with|y::_=>decide (y.key=key) | []=>false
def nN (l:List It) (key:Ky):Bool:=lX (l.dropWhile fun y=>decide (klt y.key key)) key
def iG (l:List It) (k:Nat):List It:=l.take k++l.drop (k+1)
def fN (l:List It) (k:Nat) (key:Ky):List It:=l.take k++match l.drop k with|y::B=>{ y with key:=key }::B | []=>[]
noncomputable def aBi (c:CD) (at_:Nat) (n:Nd) (k:Nat):Option (CD×(Ky×Nat)):=
 match c.N (n.child k),c.N (n.child (k+1)),n.l[k]? with
 | some a,some b,some y=>
  if (a.with_ y.key b).size<=512 then some (((c.write (n.child k) (a.with_ y.key b)).free (n.child (k+1))).lay at_ { n with l:=iG n.l k })
  else some (((c.write (n.child k) (a.with_ y.key b).left).write (n.child (k+1)) (a.with_ y.key b).right).lay at_ { n with l:=fN n.l k (a.with_ y.key b).key })
 | _,_,_=>none
noncomputable def cZ (c:CD) (at_:Nat) (n:Nd) (k:Nat) (u:Ky×Nat):Option (CD×(Ky×Nat)):=
 if u.2≠0 then some (c.lay at_ { n with l:=xH n.l k ⟨u.1,[],u.2⟩ })
 else match c.N (n.child k) with
  | none=>none
  | some x=>if c.e≠0∨170<=x.size∨n.l=[] then some (c,([],0)) else aBi c at_ n (k-1)
noncomputable def dZ:Nat->CD->Nat->Ky->Option (CD×Bool×(Ky×Nat))
 | 0,_,_,_=>none
 | f+1,c,k,key=>
  match c.N k with
  | none=>none
  | some n=>
   if n.lf then if nN n.l key then some (c.write k { n with l:=iG n.l (gB n.l key) },true,([],0)) else some (c,false,([],0))
   else match dZ f c (n.child (n.way key)) key with
    | none=>none
    | some (c',is,u)=>if is then (cZ c' k n (n.way key) u).map fun r=>(r.1,true,r.2) else some (c',false,([],0))
section
variable {c c' : CD} {U F R P : List Nat} {k h : Nat} {n : Nd} {lo hi : Option Ky} {E : En}
theorem bH.snoc{S:oU}{y:It}:∀ {A:List It} {lo:Option Ky} {c:Nat} {E:En} {P:List Nat},bH S lo c (A++[y]) E P↔∃E' P' E1 P1,bH S lo c A E' P'/\S (yM c A) (mQ lo A) (some y.key) E1 P1/\E=E'++E1/\P=P'++P1
 | [],lo,c,E,P=>by
  constructor
  ·rintro⟨E1,P1,E2,P2,h1,⟨rfl,rfl⟩,rfl,rfl⟩;exact⟨[],[],E1,P1,⟨rfl,rfl⟩,h1,by simp,by simp⟩
  ·rintro⟨_,_,E1,P1,⟨rfl,rfl⟩,h1,l,m⟩;rw[eH]at l m;subst l;subst m;exact⟨E,P,[],[],h1,⟨rfl,rfl⟩,by simp,by simp⟩
 | x::A,lo,c,E,P=>by
  constructor
  ·rintro⟨E1,P1,E2,P2,h1,h2,rfl,rfl⟩;obtain⟨b,d,f,g,i,j,rfl,rfl⟩:=bH.snoc.1 h2;exact⟨E1++b,P1++d,f,g,⟨E1,P1,b,d,h1,i,rfl,rfl⟩,j,by rw[qF],by rw[qF]⟩
  ·rintro⟨_,_,f,g,⟨E1,P1,b,d,h1,i,rfl,rfl⟩,j,rfl,rfl⟩;exact⟨E1,P1,b++f,d++g,h1,bH.snoc.2 ⟨b,d,f,g,i,j,rfl,rfl⟩,by rw[qF],by rw[qF]⟩
theorem oQ(c:Nat)(y:It):∀A:List It,yM c (A++[y])=y.at_
 | []=>rfl
 | x::A=>oQ x.at_ y A
theorem aAJ(lo:Option Ky)(y:It):∀A:List It,mQ lo (A++[y])=some y.key
 | []=>rfl
 | x::A=>aAJ (some x.key) y A
theorem aLB{y:It}:∀ {A:List It} {lo:Option Ky},(A++[y]).Pairwise (fun x z=>klt x.key z.key)->(∀a,lo=some a->klt a y.key)->∀a,mQ lo A=some a->klt a y.key
 | [],_,_,h,a,ha=>h a ha
 | x::A,lo,hp,_,a,ha=>by
  have d:=xE.1 hp;refine aLB (lo:=some x.key) d.2 (fun b f=>?_) a ha;injection f with f;rw[<- f];exact d.1 y (rE _ (aB.2 rfl))
theorem qE{n:Nd}(b:n.size<=512):n.l.length<=509:=by
 have:∀l:List It,l.length<=iE n.lf l:=fun l=>by
  induction l with
  | nil=>exact rB _
  | cons y l d=>rw[pC,gD];unfold ibn;split<;>omega
 have:=this n.l;rw[jE]at b
 split at b<;>omega
theorem aLC{S:oU}(g:aGx S){A B:List It}{y:It}(hK:nD S lo i (A++y::B) hi E P):zR (mQ lo A) y.key/\lQ (uV hi B) y.key:=by
 obtain⟨h1,h2⟩:=nD.keys g hK;refine⟨fun a f=>kQ (aLB (A:=A) (y:=y) ?_ (h2 y (rE _ (sB ..))).1 a f),?_⟩
 ·have e:A++y::B=(A++[y])++B:=by simp
  rw[e]at h1;exact(aQ.1 h1).1
 ·cases B with
  | nil=>exact(h2 y (rE _ (sB ..))).2
  | cons z B=>
   intro b d;injection d with d;rw[<- d];exact(xE.1 (aQ.1 h1).2.1).1 z (sB ..)
theorem eZ{Q:List Nat}(g:∀p∈Q,c'.N p=c.N p):∀cc lo hi E P',(∀p∈P',p∈Q)->Sub c.N 1 h cc lo hi E P'->Sub c'.N 1 h cc lo hi E P':=fun _ _ _ _ _ b d=>d.congr fun p f=>g p (b p f)
theorem aLD{A B:List It}{y:It}{EA E1 E2 EB:En}{PA P1 P2 PB:List Nat}{a b:Nd}(r:n.l=A++y::B)(C:n.lf=false)(g:n.ok)(Q:n.size<=512)
 (kL:bH (Sub c.N 1 h) lo n.first A EA PA)(na:c.N (yM n.first A)=some a)(b1:a.ok)(b2:a.size<=512)(fa:NF c.N h a (mQ lo A) (some y.key) E1 P1)
 (nb:c.N y.at_=some b)(b3:b.ok)(b4:b.size<=512)(fb:NF c.N h b (some y.key) (uV hi B) E2 P2)(kR:gL (Sub c.N 1 h) B hi EB PB)
 (b9:1<=a.l.length+b.l.length)(b':a.size+b.size<=512+169)(g1:zR (mQ lo A) y.key)(g2:lQ (uV hi B) y.key)
 (S:Acc c (k::(PA++((yM n.first A::P1)++(y.at_::P2))++PB)++R) F)(he:c.e=0):
  ∃c' u,aBi c k n A.length=some (c',u)/\aHV c c' 0 (h+1) k lo hi (EA++((E1++E2)++EB)) u R:=by
 have V:n.child A.length=yM n.first A:=by unfold Nd.child;rw[r,rK]
 have W:n.child (A.length+1)=y.at_:=by
  unfold Nd.child;rw[r,show A++y::B=(A++[y])++B by simp,show A.length+1=(A++[y]).length by simp,rK,oQ]
 have hy:n.l[A.length]? = some y:=by rw[r,dK (tA _),xW];rfl
 have i:=g.item y (by rw[r];exact rE _ (sB ..));have X:a.lf=b.lf:=by rw[fa.kind,fb.kind]
 obtain⟨m,T⟩:=nm (a.with_ y.key b);have G:m.ok:=by rw[T];exact aLz b1 b3 X ⟨i.k1,i.k2⟩ (by have:=qE b2;have:=qE b4;omega)
 have a4:m.size=if a.lf then a.size+b.size-3 else a.size+b.size+y.key.length-2:=by rw[T];exact aEI X _
 have a5:m.lf=a.lf:=by rw[T];rfl
 have mf:NF c.N h m (mQ lo A) (uV hi B) (E1++E2) (P1++P2):=by rw[T];exact fa.with_ fb g2 g1
 have ml:1<=m.l.length:=by
  rw[T]
  show 1<=((if a.lf then a.l else a.l++[⟨y.key,[],b.first⟩])++b.l).length
  rw[lB]
  split
  ·omega
  ·rw[lB];simp only[LN];omega
 have b5:=i.k2;obtain⟨p,hp⟩:=nm (yM n.first A);obtain⟨q,hq⟩:=nm (y.at_);rw[<- hp]at V S na;rw[<- hq]at W S nb;have a6:=S.nodup;have I:∀z,(k::(PA++((p::P1)++(q::P2))++PB)++R++F).count z<=1:=fun z=>List.nodup_iff_count.1 a6 z
 have ne:∀z,z∈k::(PA++(P1++P2)++PB)++R->z≠p/\z≠q:=fun z f=>by
  have h1:=I z;have h2:1<=(k::(PA++(P1++P2)++PB)++R).count z:=List.count_pos_iff.2 f;simp only[zJ,eK]at h1 h2
  constructor
  ·intro e;rw[iA (show(p==z)=true by simp[e])]at h1;omega
  ·intro e;rw[iA (show(q==z)=true by simp[e])]at h1;omega
 have Y:p≠q:=fun e=>by
  have h1:=I p;simp only[zJ,eK]at h1;rw[iA (show(p==p)=true by simp),iA (show(q==p)=true by simp[e])]at h1;omega
 have b6:p∉F:=S.apart (k:=p) (by simp);have b7:q∉F:=S.apart (k:=q) (by simp);unfold aBi;rw[V,W,na,nb,hy]
 simp only
 rw[<- T]
 by_cases hs:m.size<=512
 case' pos=>
  rw[iA hs];obtain⟨d,D⟩:=nm ((c.write p m).free q);have o:∀z,z≠q->d.N z=if z=p then some m else c.N z:=fun z f=>by rw[D,aOJ f,pF]
  have H:∀z,z∈k::(PA++(P1++P2)++PB)++R->d.N z=c.N z:=fun z f=>by rw[o z (ne z f).2,eA (ne z f).1]
  have M:Acc d (k::(PA++(p::(P1++P2))++PB)++R) (q::F):=by
   rw[D];refine Acc.free ((S.write (k:=p) (by simp) G hs).swap ?_);rw[aL];intro z;simp only[zJ,eK];omega
  have sm:aHU c d:=by rw[D];exact⟨rfl,rfl,rfl⟩
  have ed:d.e=0:=by rw[D];exact he
  have J:Sub d.N 1 h p (mQ lo A) (uV hi B) (E1++E2) (p::(P1++P2)):=⟨m,P1++P2,by rw[o p Y,iA rfl],G,hs,ml,rfl,mf.congr fun z f=>H z (by simp at f⊢;rcases f with f|f<;>simp[f])⟩
  have O:NF d.N (h+1) { n with l:=A++B } lo hi (EA++((E1++E2)++EB)) (PA++((p::(P1++P2))++PB)):=by
   refine⟨C,nD.focus.2 ⟨EA,PA,E1++E2,p::(P1++P2),EB,PB,bH.mono (P:=PA) (eZ fun z f=>H z (by simp[f])) (fun _ h=>h) kL,by rw[hp]at J⊢;exact J,gL.mono (P:=PB) (eZ fun z f=>H z (by simp[f])) (fun _ h=>h) kR,rfl,rfl⟩⟩
  have Z:iG n.l A.length=A++B:=by
   unfold iG;rw[r,rK,show A++y::B=(A++[y])++B by simp,show A.length+1=(A++[y]).length by simp,aN]
  rw[Z]
  have a0:Nd.size { n with l:=A++B }<=512:=by
   rw[jE,r,uB,pC]at Q;rw[jE,uB]
   simp only
   omega
  have j:=aDk (m:=0) O (R:=R) (F:=q::F) (k:=k) (M.swap (by
   rw[aL];intro z;simp only[zJ,eK]
   omega)) ed ⟨by
    show(A++B).length<65536
    have:=g.few;rw[r,lB,gD]at this;rw[lB];omega,fun z f=>g.item z (by rw[r];rcases pD.1 f with f|f;exact aE _ f;exact rE _ (uC _ f)),g.first,g.bare⟩ (by show _<=if n.lf=true then 680 else 780;rw[eA (by rw[C];decide)];omega) (rB _)
 case' neg=>
  rw[eA hs];have a7:m.size<=if m.lf then 680 else 780:=by rw[a5,a4];split<;>omega
  obtain⟨s1,s2,s3,s4,s5,s6,s7,s8⟩:=Nd.split_ok G (by omega) a7;obtain⟨x,hx⟩:∃x,m.l[m.cutAt]? = some x:=⟨_,xD s1⟩;have L:m.key=x.key:=by unfold Nd.key;rw[hx];rfl
  have a1:=G.item x (rG hx);obtain⟨E3,P3,E4,P4,n1,n2,eE,eP,hh,b8⟩:=mf.split s1 s2;obtain⟨d,D⟩:=nm ((c.write p m.left).write q m.right);have o:∀z,d.N z=if z=q then some m.right else if z=p then some m.left else c.N z:=fun z=>by rw[D,pF,pF]
  have H:∀z,z∈k::(PA++(P1++P2)++PB)++R->d.N z=c.N z:=fun z f=>by rw[o z,eA (ne z f).2,eA (ne z f).1]
  have M:Acc d (k::(PA++((p::P1)++(q::P2))++PB)++R) F:=by rw[D];exact(S.write (by simp) s7 s3).write (by simp) s8 s4
  have sm:aHU c d:=by rw[D];exact⟨rfl,rfl,rfl⟩
  have ed:d.e=0:=by rw[D];exact he
  have s:Sub d.N 1 h p (mQ lo A) (some m.key) E3 (p::P3):=⟨m.left,P3,by rw[o,eA Y,iA rfl],s7,s3,s5,rfl,n1.congr fun z f=>H z (by
   have:z∈P1++P2:=by rw[eP];exact aE _ f
   simp at this⊢;rcases this with h|h<;>simp[h])⟩
  have t:Sub d.N 1 h q (some m.key) (uV hi B) E4 (q::P4):=⟨m.right,P4,by rw[o,iA rfl],s8,s4,s6,rfl,n2.congr fun z f=>H z (by
   have:z∈P1++P2:=by rw[eP];exact rE _ f
   simp at this⊢;rcases this with h|h<;>simp[h])⟩
  have a8:fN n.l A.length m.key=A++{ y with key:=m.key }::B:=by
   unfold fN;rw[r,rK,aN]
  rw[a8]
  have O:NF d.N (h+1) { n with l:=A++{ y with key:=m.key }::B } lo hi (EA++((E1++E2)++EB)) (PA++(((p::P3)++(q::P4))++PB)):=by
   refine⟨C,?_⟩;rw[eE];exact nD.focus2.2 ⟨EA,PA,E3,p::P3,E4,q::P4,EB,PB,bH.mono (P:=PA) (eZ fun z f=>H z (by simp[f])) (fun _ h=>h) kL,by rw[hp]at s⊢;exact s,by rw[hq]at t⊢;exact t,gL.mono (P:=PB) (eZ fun z f=>H z (by simp[f])) (fun _ h=>h) kR,rfl,rfl⟩
  have a2:m.key.length<=96:=by rw[L];exact a1.k2
  have a9:1<=m.key.length:=by rw[L];exact a1.k1
  have a0:Nd.size { n with l:=A++{ y with key:=m.key }::B }<=620:=by
   rw[jE,r,uB,pC]at Q;rw[jE,uB,pC];simp only[C,ibn,dE,qG]at Q⊢;omega
  have a':∀z,P1.count z+P2.count z=P3.count z+P4.count z:=fun z=>by
   have:=congrArg (List.count z) eP
   simpa only[zJ]using this
  have j:=aDk (m:=0) O (R:=R) (F:=F) (k:=k) (M.swap (by
   rw[aL];intro z;have:=a' z;simp only[zJ,eK]
   omega)) ed ⟨by
    show(A++{ y with key:=m.key }::B).length<65536
    have:=g.few;rw[r,lB,gD]at this;rw[lB,gD];exact this,fun z f=>by
    show z.ok n.lf
    rcases pD.1 f with f|f
    ·exact g.item z (by rw[r];exact aE _ f)
    ·rcases kB.1 f with rfl|f
     ·exact⟨a9,a2,i.v,i.at_,i.bare⟩
     ·exact g.item z (by rw[r];exact rE _ (uC _ f)),g.first,g.bare⟩ (by show _<=if n.lf=true then 680 else 780;rw[eA (by rw[C];decide)];omega) (rB _)
 all_goals
  rw[<- D];obtain⟨b0,j⟩:=j;have a3:∀z∈R,d.N z=c.N z:=fun z f=>H z (by simp[f]);refine⟨_,_,rfl,sm.trans b0,?_⟩;rcases j with ⟨z0,Pz,Fz,z1,z2,z3⟩|z
  ·exact .inl ⟨z0,Pz,Fz,z1,fun w hw=>(z2 w hw).trans (a3 w hw),z3⟩
  ·exact .inr ⟨z.1,z.2.1,fun w hw=>(z.2.2.1 w hw).trans (a3 w hw),z.2.2.2.1,by rw[<- sm.n];exact z.2.2.2.2⟩
end
end
section
section
variable {c c' : CD} {U F R P : List Nat} {k h : Nat} {n : Nd} {lo hi : Option Ky} {E : En}
theorem aLE{l:List It}{key:Ky}(u:tH (bC l)):(nN l key=true↔∃e∈bC l,e.1=key)/\(nN l key=true->bC (iG l (gB l key))=cH (bC l) key/\(iG l (gB l key)).length+1=l.length/\iE true (iG l (gB l key))<=iE true l/\∀x∈iG l (gB l key),x∈l):=by
 obtain⟨A,r⟩:=nm (l.takeWhile fun y=>decide (klt y.key key));obtain⟨D,s⟩:=nm (l.dropWhile fun y=>decide (klt y.key key));have d:l=A++D:=by rw[r,s,pP]
 have z:gB l key=A.length:=by rw[r];rfl
 have h1:∀e∈bC A,klt e.1 key:=fun e b=>by
  obtain⟨y,o,rfl⟩:=cI.1 b;rw[r]at o
  simpa using sI y o
 have p:nN l key=lX D key:=by rw[s];rfl
 rw[z,p];rw[d,uE]at u;obtain⟨_,t,_⟩:=aQ.1 u
 cases g:D with
 | nil=>
  refine⟨⟨(fun h=>by cases h),fun⟨e,b,f⟩=>?_⟩,fun h=>by cases h⟩
  exfalso
  rw[d,g,dI]at b;have:=h1 e b;rw[f]at this;exact zB _ this
 | cons y B=>
  have o:¬ klt y.key key:=by
   rw[s]at g
   simpa using gJ g
  rw[g]at t d;have i:=(xE.1 t).1;unfold lX
  simp only
  by_cases f:y.key=key
  ·have h2:∀e∈bC B,klt key e.1:=fun e b=>by rw[<- f];exact i e b
   have j:iG l A.length=A++B:=by
    unfold iG;rw[d,rK,show A++y::B=(A++[y])++B by simp,show A.length+1=(A++[y]).length by simp,aN]
   refine⟨⟨fun _=>⟨(y.key,y.v),by rw[d,uE];exact rE _ (sB ..),f⟩,fun _=>by simpa using f⟩,fun _=>?_⟩;rw[j];refine⟨?_,by rw[d,lB,lB,gD];omega,by rw[d,uB,uB,pC];omega,fun x m=>?_⟩
   ·have:=aHW (EA:=bC A) (E0:=[(y.key,y.v)]) (EB:=bC B) (k:=key) h1 h2;rw[d,uE,uE]
    show bC A++bC B=cH (bC A++((y.key,y.v)::bC B)) key
    rw[List.singleton_append]at this;rw[this]
    simp[cH,f]
   ·rw[d];rcases pD.1 m with m|m
    ·exact aE _ m
    ·exact rE _ (uC _ m)
  ·have q:klt key y.key:=by
    by_cases h:klt key y.key
    ·exact h
    ·exact absurd (wO o h) f
   refine⟨⟨fun h=>absurd (of_decide_eq_true h) f,fun⟨e,b,hek⟩=>?_⟩,fun h=>absurd (of_decide_eq_true h) f⟩
   exfalso
   rw[d,uE]at b;rcases pD.1 b with b|b
   ·have:=h1 e b;rw[hek]at this;exact zB _ this
   ·rcases kB.1 b with rfl|b
    ·exact f hek
    ·have:=vD q (i e b);rw[hek]at this;exact zB _ this
theorem aKm{x:Nd}(h:170<=x.size):1<=x.l.length:=by
 cases b:x.l with
 | nil=>
  exfalso
  rw[jE,b]at h;have:iE x.lf []=0:=rfl
  split at h<;>omega
 | cons y l=>simp
theorem aGA:∀(h:Nat) {f:Nat} {c:CD} {k:Nat} {lo hi:Option Ky} {E:En} {P R F:List Nat} {key:Ky},h<f->Sub c.N 1 h k lo hi E P->Acc c (P++R) F->c.e=0->zR lo key->lQ hi key ->
  ∃c' S u,dZ f c k key=some (c',S,u)/\(S=true↔∃e∈E,e.1=key)/\(S=false->c'=c/\u.2=0)/\(S=true->aHV c c' 0 h k lo hi (cH E key) u R)
 | 0,f,c,k,lo,hi,E,P,R,F,key,hf,hs,ha,o,h1,h2=>by
  obtain⟨f,rfl⟩:∃g,f=g+1:=⟨f-1,by omega⟩;obtain⟨n,P',e1,i,s,hm,rfl,d,rfl,rfl,hr,W⟩:=hs;obtain⟨q1,q2⟩:=aLE (key:=key) hr;have c9:k∉F:=ha.apart (k:=k) (by simp)
  have b4:k∉R:=fun X=>by
   have:=(List.nodup_append.1 (List.nodup_append.1 ha.nodup).1).2.2 k (by simp) k X;exact this rfl
  cases j:nN n.l key with
  | false=>
   have q3:=q1;rw[j]at q3;refine⟨c,false,([],0),?_,q3,fun _=>⟨rfl,rfl⟩,fun h=>by cases h⟩;unfold dZ;rw[e1]
   simp only
   rw[iA d,eA (by rw[j];decide)]
  | true=>
   obtain⟨d1,d2,d3,d4⟩:=q2 j;have q3:=q1;rw[j]at q3
   have M:Nd.ok { n with l:=iG n.l (gB n.l key) }:=⟨by
    show(iG n.l (gB n.l key)).length<65536
    have:=i.few;omega,fun x hx=>i.item x (d4 x hx),i.first,i.bare⟩
   have v:Nd.size { n with l:=iG n.l (gB n.l key) }<=512:=by
    rw[jE]at s⊢;simp only[d,mH]at s⊢;omega
   refine⟨c.write k { n with l:=iG n.l (gB n.l key) },true,([],0),?_,q3,(fun h=>by cases h),fun _=>⟨⟨rfl,rfl,rfl⟩,.inl ⟨o,[k],F,ha.write (by simp) M v,fun p t=>?_,.inl ⟨rfl,{ n with l:=iG n.l (gB n.l key) },[],by rw[pF,iA rfl],M,v,rB _,rfl,d,d1.symm,rfl,?_,?_⟩⟩⟩⟩
   ·unfold dZ;rw[e1]
    simp only
    rw[iA d,iA j]
   ·rw[pF,eA fun(e:p=k)=>b4 (e▸t)]
   ·exact hr.filter _
   ·exact fun e o=>W e (wI.1 o).1
 | h+1,f,c,k,lo,hi,E,P,R,F,key,hf,hs,ha,o,h1,h2=>by
  obtain⟨f,rfl⟩:∃g,f=g+1:=⟨f-1,by omega⟩;obtain⟨n,P',e1,i,s,hm,rfl,d,hK⟩:=hs;obtain⟨A,B,G,b',a9,c0,g1,g2⟩:=nQ (n:=n) h1 h2;have C:=(nD.keys Sub.fine hK).1
  have O:∀ {Y B':List It} {y:It},n.l=Y++y::B'->zR (mQ lo Y) y.key/\lQ (uV hi B') y.key:=fun e=>by
   rw[e]at hK;exact aLC Sub.fine hK
  rw[G]at hK C;have b5:=(aQ.1 C).1;obtain⟨EA,PA,E0,P0,EB,PB,kL,k0,kR,rfl,rfl⟩:=nD.focus.1 hK;obtain⟨q1,q2⟩:=kX Sub.fine kL kR (_E0:=E0) b5 g1 g2;have a4:n.child (n.way key)=yM n.first A:=by unfold Nd.child;rw[a9]
  have b6:Acc c (P0++(k::(PA++PB)++R)) F:=ha.swap (by
   rw[aL];intro a;simp only[zJ,eK];omega)
  obtain⟨c',S,u,ep,j,a',T⟩:=aGA h (f:=f) (by omega) k0 b6 o g1 g2
  have D:S=true↔∃e∈EA++(E0++EB),e.1=key:=by
   rw[j]
   constructor
   ·rintro⟨e,o,X⟩;exact⟨e,rE _ (aE _ o),X⟩
   ·rintro⟨e,o,X⟩;rcases pD.1 o with o|o
    ·have:=q1 e o;rw[X]at this;exact absurd this (zB _)
    ·rcases pD.1 o with o|o
     ·exact⟨e,o,X⟩
     ·have:=q2 e o;rw[X]at this;exact absurd this (zB _)
  have a5:dZ (f+1) c k key=if S then (cZ c' k n (n.way key) u).map fun r=>(r.1,true,r.2) else some (c',false,([],0)):=by
   unfold dZ;rw[e1]
   simp only
   rw[eA (by rw[d];decide),a4,ep]
  rw[a5]
  cases S with
  | false=>exact⟨c',false,([],0),rfl,D,fun _=>⟨(a' rfl).1,rfl⟩,fun h=>by cases h⟩
  | true=>
   rw[iA rfl,aHW q1 q2]
   suffices hs:∃c2 u2,cZ c' k n (n.way key) u=some (c2,u2)/\aHV c c2 0 (h+1) k lo hi (EA++(cH E0 key++EB)) u2 R by
    obtain⟨c2,u2,c1,hL⟩:=hs;exact⟨c2,true,u2,by rw[c1];rfl,D,(fun h=>by cases h),fun _=>hL⟩
   obtain⟨sm,H⟩:=T rfl;clear ep a5 j D a' T;unfold cZ;rw[a4];rcases H with ⟨e0,Pn,Fn,q,hR,H⟩|⟨e5,u0,hR,⟨n0,c3⟩,b0⟩
   ·have b7:c'.N k=some n:=by rw[hR k (aE _ (sB ..))];exact e1
    have mono:∀ {Q:List Nat},(∀p∈Q,p∈PA∨p∈PB)->∀cc lo hi E P',(∀p∈P',p∈Q)->Sub c.N 1 h cc lo hi E P'->Sub c'.N 1 h cc lo hi E P':=fun hQ cc lo hi E P' hP I=>
     I.congr fun p t=>hR p (aE _ (uC _ (pD.2 (hQ p (hP p t)))))
    have J:=bH.mono (mono (Q:=PA) (fun p t=>.inl t)) (fun p t=>t) kL;have L:=gL.mono (mono (Q:=PB) (fun p t=>.inr t)) (fun p t=>t) kR;have V:∀p∈R,c'.N p=c.N p:=fun p t=>hR p (rE _ t)
    have fin:∀ {c2:CD} {E2:En} {u2:Ky×Nat},aHV c' c2 0 (h+1) k lo hi E2 u2 R->aHV c c2 0 (h+1) k lo hi E2 u2 R:=fun hL=>by
     obtain⟨c4,hL⟩:=hL;refine⟨sm.trans c4,?_⟩;rcases hL with ⟨z0,Pz,Fz,z1,z2,z3⟩|z
     ·exact .inl ⟨z0,Pz,Fz,z1,fun w W=>(z2 w W).trans (V w W),z3⟩
     ·exact .inr ⟨z.1,z.2.1,fun w W=>(z.2.2.1 w W).trans (V w W),z.2.2.2.1,by rw[<- sm.n];exact z.2.2.2.2⟩
    rcases H with ⟨u0,I⟩|⟨u0,u1,u2,u3,u4,E1,P1,E2,P2,s1,s2,eE,rfl⟩
    ·rw[eA (fun h=>h u0)];obtain⟨x,Px,x1,x2,x3,_,rfl,x6⟩:=id I;rw[x1]
     simp only
     by_cases hx:170<=x.size
     ·rw[iA (.inr (.inl hx))];refine⟨c',([],0),rfl,sm,.inl ⟨e0,k::(PA++((yM n.first A::Px)++PB)),Fn,q.swap ?_,V,.inl ⟨rfl,n,PA++((yM n.first A::Px)++PB),b7,i,s,rB _,rfl,d,?_⟩⟩⟩
      ·rw[aL];intro a;simp only[zJ,eK];omega
      ·rw[G];exact nD.focus.2 ⟨EA,PA,_,_,EB,PB,J,⟨x,Px,x1,x2,x3,aKm hx,rfl,x6⟩,L,rfl,rfl⟩
     ·have a6:n.l≠[]:=fun e=>by rw[e]at hm;cases hm
      rw[eA (by rintro(h|h|h);exact h e0;exact hx h;exact a6 h),<- b'];rcases List.eq_nil_or_concat A with c5|⟨Y,y,b1⟩
      ·subst c5;obtain⟨rfl,rfl⟩:=J
       cases B with
       | nil=>exact absurd G a6
       | cons y B=>
        obtain⟨_,_,E2,P2,Z,c6,⟨rfl,rfl⟩,b2,b3,rfl,rfl⟩:=(nD.focus (A:=[])).1 (show nD (Sub c'.N 1 h) (some y.key) y.at_ ([]++B) hi EB PB from L);obtain⟨z,Pz,z1,z2,z3,z4,rfl,z6⟩:=b2;obtain⟨m1,m2⟩:=O G
        obtain⟨c2,u2,j1,j2⟩:=aLD (A:=[]) (B:=B) (k:=k) (F:=Fn) (R:=R) (P1:=Px) (P2:=Pz) (PA:=[]) (PB:=c6) (EA:=[]) (EB:=Z) (E1:=cH E0 key) (E2:=E2) (lo:=lo) (hi:=hi) (a:=x) (b:=z) G d i s ⟨rfl,rfl⟩ x1 x2 x3 x6 z1 z2 z3 z6 b3 (by omega) (by omega) m1 m2 (q.swap (by
         rw[aL];intro a;simp only[zJ,eK,yM,eH];omega)) e0
        refine⟨c2,u2,j1,fin ?_⟩;have e:([]:En)++(cH E0 key++([]++(E2++Z)))=[]++((cH E0 key++E2)++Z):=by simp
        rw[e];exact j2
      ·rw[List.concat_eq_append]at b1;subst b1;obtain⟨a0,c7,E1,P1,l1,l2,rfl,rfl⟩:=bH.snoc.1 J;obtain⟨z,Pz,z1,z2,z3,z4,rfl,z6⟩:=l2;rw[oQ]at x1 q;rw[aAJ]at x6;have a7:n.l=Y++y::B:=by rw[G];simp
       obtain⟨m1,m2⟩:=O a7
       obtain⟨c2,u2,j1,j2⟩:=aLD (A:=Y) (B:=B) (y:=y) (k:=k) (F:=Fn) (R:=R) (P1:=Pz) (P2:=Px) (PA:=c7) (PB:=PB) (EA:=a0) (EB:=EB) (E1:=E1) (E2:=cH E0 key) (lo:=lo) (hi:=hi) (a:=z) (b:=x) a7 d i s l1 z1 z2 z3 z6 x1 x2 x3 x6 L (by omega) (by omega) m1 m2 (q.swap (by
        rw[aL];intro a;simp only[zJ,eK];omega)) e0
       refine⟨c2,u2,by rw[show(Y++[y]).length-1=Y.length by simp];exact j1,fin ?_⟩;have e:(a0++E1)++(cH E0 key++EB)=a0++((E1++cH E0 key)++EB):=by simp
       rw[e];exact j2
    ·rw[iA u0]
     have hu:u.2<65536:=by
      have:=(q.mem (k:=u.2) (.inl (aE _ (rE _ s2.head)))).2;have:=q.next2;have:=q.few;omega
     have a8:xH n.l (n.way key) ⟨u.1,[],u.2⟩=A++⟨u.1,[],u.2⟩::B:=by unfold xH;rw[a9,c0]
     rw[a8]
     have b8:NF c'.N (h+1) { n with l:=A++⟨u.1,[],u.2⟩::B } lo hi (EA++(cH E0 key++EB)) (PA++((P1++P2)++PB)):=by
      refine⟨d,?_⟩;rw[eE];exact nD.focus2.2 ⟨EA,PA,E1,P1,E2,P2,EB,PB,J,s1,s2,L,rfl,rfl⟩
     have v:Nd.size { n with l:=A++⟨u.1,[],u.2⟩::B }=n.size+(3+u.1.length):=by
      rw[jE,jE,G,uB,uB,pC];simp only[ibn,d,dE,qG];omega
     have c8:=qE s
     have b9:=aDk (m:=0) b8 (R:=R) (F:=Fn) (k:=k) (q.swap (by
      rw[aL];intro a;simp only[zJ,eK]
      omega)) e0 ⟨by
       show(A++⟨u.1,[],u.2⟩::B).length<65536
       have:n.l.length=A.length+B.length:=by rw[G,lB]
       rw[lB,gD];omega,fun y hy=>by
       show y.ok n.lf
       rcases pD.1 hy with hy|hy
       ·exact i.item y (by rw[G];exact aE _ hy)
       ·rcases kB.1 hy with rfl|hy
        ·exact⟨u1,u2,rB _,hu,by rw[d];rfl⟩
        ·exact i.item y (by rw[G];exact rE _ hy),i.first,i.bare⟩
      (by show _<=if n.lf=true then 680 else 780;rw[eA (by rw[d];decide),v];omega) (rB _)
     exact⟨_,_,rfl,fin b9⟩
   ·rw[eA (fun h=>h u0),c3]
    simp only
    rw[iA (.inl (by rw[e5];decide))]
    exact⟨c',([],0),rfl,sm,.inr ⟨e5,rfl,fun p t=>hR p (rE _ t),⟨n,by rw[hR k (aE _ (sB ..))];exact e1⟩,by
     have a1:=bH.count (fun c lo hi E P h=>(Sub.count h).1) kL;have a2:=gL.count (fun c lo hi E P h=>(Sub.count h).1) kR;have a3:n.l.length=A.length+B.length:=by rw[G,lB]
     simp only[lB,gD]at b0⊢;omega⟩⟩
end
end
section
def sD {α:Type} (r:Nat->α) (t:Nat) (v:α):Nat->α:=fun k=>if k=t then v else r k
def CD.root (c:CD) (t v:Nat):CD:={ c with roots:=sD c.roots t v }
def lE (c:CD) (t:Nat) (u:Ky×Nat):CD:=if u.2=0 then c else (c.alloc.1.root t c.alloc.2).write c.alloc.2 ⟨false,c.roots t,[⟨u.1,[],u.2⟩]⟩
noncomputable def oK (c:CD) (t:Nat):Option CD:=match c.N (c.roots t) with|none=>none|some n=>if c.e≠0∨n.l≠[] then some c else some ((c.free (c.roots t)).root t n.first)
noncomputable def putC (c:CD) (t:Nat) (x:It):Option CD:=if c.roots t=0 then some ((c.alloc.1.root t c.alloc.2).write c.alloc.2 ⟨true,0,[x]⟩) else (aBw 40 c (c.roots t) x).map fun r=>lE r.1 t r.2
noncomputable def delC (c:CD) (t:Nat) (key:Ky):Option (CD×Bool):=
 if c.roots t=0 then some (c,false)
 else match dZ 40 c (c.roots t) key with
  | none=>none
  | some (c',is,u)=>if is then (oK (lE c' t u) t).map fun d=>(d,true) else some (c',false)
def aMY (N:Nat->Option Nd) (root:Nat) (E:En) (P:List Nat):Prop:=(root=0/\E=[]/\P=[])∨(root≠0/\∃h,Sub N 1 h root none none E P)
def aHY (P:Nat->List Nat):List Nat:=(List.range 8).flatMap P
def xK (P:Nat->List Nat) (t:Nat):List Nat:=((List.range 8).erase t).flatMap P
structure vH (c:CD) (E:Nat->En) (P:Nat->List Nat) (F:List Nat):Prop where
 e:c.e=0
 tree:∀t,t<8->aMY c.N (c.roots t) (E t) (P t)
 acc:Acc c (aHY P) F
structure aEJ (c c':CD):Prop where
 pg:c'.pg=c.pg
 n:c'.n=c.n
section
variable {c c' : CD} {E : Nat -> En} {P : Nat -> List Nat} {F : List Nat} {t : Nat}
theorem aMZ(Q:List Nat):xK (sD P t Q) t=xK P t:=by
 unfold xK
 have b:∀k∈(List.range 8).erase t,sD P t Q k=P k:=fun k d=>by
  unfold sD;rw[eA];rintro rfl;exact(List.Nodup.not_mem_erase List.nodup_range) d
 generalize (List.range 8).erase t=l at b
 induction l with
 | nil=>rfl
 | cons a l f=>rw[nH,nH,b a (sB ..),f (fun k d=>b k (uC _ d))]
theorem pQ(ht:t<8):(aHY P).Perm (P t++xK P t):=by
 unfold aHY xK;have h:=List.perm_cons_erase (vT.2 ht);have h2:=h.flatMap_right P
 rwa [nH]at h2
theorem aNa{k s:Nat}(d:s<8)(b:s≠t)(f:k∈P s):k∈xK P t:=by
 unfold xK;rw[List.mem_flatMap];exact⟨s,(List.mem_erase_of_ne b).2 (vT.2 d),f⟩
theorem aMY.congr{N N':Nat->Option Nd}{root:Nat}{E:En}{P:List Nat}(h:aMY N root E P)(d:∀p∈P,N' p=N p):aMY N' root E P:=by
 rcases h with h|⟨h0,h,b⟩
 ·exact .inl h
 ·exact .inr ⟨h0,h,b.congr d⟩
theorem vH.turn{Et:En}{Pt:List Nat}(h:vH c E P F)(ht:t<8)(j:c'.e=0)(k:∀s,s≠t->c'.roots s=c.roots s)(l:aMY c'.N (c'.roots t) Et Pt)(m:Acc c' (Pt++xK P t) L)(o:∀p∈xK P t,c'.N p=c.N p):
  vH c' (sD E t Et) (sD P t Pt) L:=by
 refine⟨j,fun s d=>?_,m.swap ?_⟩
 ·by_cases b:s=t
  ·subst b;unfold sD;rw[iA rfl,iA rfl];exact l
  ·have f:sD E t Et s=E s:=eA b;have g:sD P t Pt s=P s:=eA b;rw[f,g,k s b];exact(h.tree s d).congr fun p i=>o p (aNa d b i)
 ·have:=pQ (P:=sD P t Pt) ht;rw[aMZ]at this;have e:sD P t Pt t=Pt:=iA rfl;rw[e]at this;exact this
theorem yK{N:Nat->Option Nd}{h at_:Nat}{lo hi:Option Ky}{E:En}{P:List Nat}(d:Sub N 1 h at_ lo hi E P)(f:E.length<1099511627776):h<40:=by
 have h1:=d.count.2
 by_cases b:h<40
 ·exact b
 ·exfalso
  have:2^40<=2^h:=Nat.pow_le_pow_right (by omega) (by omega);have e:(2:Nat)^40=1099511627776:=by decide
  omega
theorem aKn(c:CD)(t v:Nat):(c.root t v).N=c.N:=rfl
theorem Acc.root{U F:List Nat}(h:Acc c U F)(t v:Nat):Acc (c.root t v) U F:=⟨h.perm,h.next1,h.next2,h.few,h.chain,h.wf.rM,h.wf.rS,h.wf.mM,h.wf.mS⟩
theorem aKo{x:It}(b:x.ok true):Nd.ok ⟨true,0,[x]⟩/\Nd.size ⟨true,0,[x]⟩<=512:=by
 refine⟨⟨by show 1<65536;omega,fun y d=>?_,Nat.zero_lt_succ _,fun _=>rfl⟩,?_⟩
 ·rw[aB.1 d];exact b
 ·have:=aGy b;rw[iA rfl]at this
  show 3+(ibn true x+0)<=512
  omega
theorem aLF{h m:Nat}{Et:En}{u:Ky×Nat}{R Pt:List Nat}(J:c.roots t≠0)(q:Res c.N m h (c.roots t) none none Et u Pt)(i:Acc c (Pt++R) F)(S:c.e=0):
  aEJ c (lE c t u)/\(∀s,s≠t->(lE c t u).roots s=c.roots s) /\
  ((lE c t u).e=0/\(∃Pt' I,Acc (lE c t u) (Pt'++R) I/\(∀p∈R,(lE c t u).N p=c.N p)/\(lE c t u).roots t≠0/\((u.2=0/\Sub (lE c t u).N m h ((lE c t u).roots t) none none Et Pt')∨Sub (lE c t u).N 1 (h+1) ((lE c t u).roots t) none none Et Pt')) ∨
   (lE c t u).e=5/\(∃n,(lE c t u).N ((lE c t u).roots t)=some n)/\c.n<=2*Et.length+R.length):=by
 unfold lE;rcases q with ⟨u0,o⟩|⟨u0,u1,u2,_,_,E1,P1,E2,P2,G,H,rfl,rfl⟩
 ·rw[iA u0];exact⟨⟨rfl,rfl⟩,fun _ _=>rfl,.inl ⟨S,Pt,F,i,fun _ _=>rfl,J,.inl ⟨u0,o⟩⟩⟩
 ·rw[eA u0];have b:∀(d:CD) (v:Nat) (nd:Nd),((d.root t v).write v nd).roots=sD d.roots t v:=fun _ _ _=>rfl;rcases aZ i S with ⟨r,x,g,z,M,I,A⟩|⟨r,x,g,z⟩
  ·obtain⟨a,O⟩:=nm (c.alloc.2);obtain⟨d,Q⟩:=nm (c.alloc.1);rw[<- O,<- Q];rw[<- O]at r A;rw[<- Q]at x g z M A;have B:∀p,d.N p=c.N p:=fun p=>by unfold CD.N;rw[z,M,g.n,g.pg]
   have C:a∉(P1++P2)++R:=(List.nodup_cons.1 (List.nodup_append.1 A.nodup).1).1
   have D:∀p∈(P1++P2)++R,((d.root t a).write a ⟨false,c.roots t,[⟨u.1,[],u.2⟩]⟩).N p=c.N p:=fun p f=>by
    rw[pF,eA (fun(e:p=a)=>C (e▸f)),aKn,B]
   have T:=(i.mem (k:=c.roots t) (.inl (aE _ (aE _ G.head)))).2;have U:=(i.mem (k:=u.2) (.inl (aE _ (rE _ H.head)))).2;have V:=i.next2;have L:=i.few;have j:Nd.ok ⟨false,c.roots t,[⟨u.1,[],u.2⟩]⟩:=⟨by show 1<65536;omega,fun y W=>by rw[aB.1 W];exact⟨u1,u2,rB _,by show u.2<65536;omega,rfl⟩,by show c.roots t<65536;omega,fun h=>by cases h⟩;have l:Nd.size ⟨false,c.roots t,[⟨u.1,[],u.2⟩]⟩<=512:=by show 5+(3+u.1.length+0)<=512;omega
   refine⟨⟨g.pg,g.n⟩,fun s o=>?_,.inl ⟨x,a::(P1++P2),I,?_,fun p f=>D p (rE _ f),?_,.inr ?_⟩⟩
   ·rw[b,g.roots];exact eA o
   ·exact(A.root t a).write (by simp) j l
   ·rw[b];show sD d.roots t a t≠0;unfold sD;rw[iA rfl];exact r
   ·rw[b,show sD d.roots t a t=a from iA rfl];refine⟨⟨false,c.roots t,[⟨u.1,[],u.2⟩]⟩,P1++P2,by rw[pF,iA rfl],j,l,tA _,rfl,rfl,E1,P1,E2,P2,?_,?_,rfl,rfl⟩
    ·exact G.congr fun p f=>D p (aE _ (aE _ f))
    ·exact H.congr fun p f=>D p (aE _ (rE _ f))
  ·have f:=i.perm.length_eq;rw[g,z,List.length_range',dI,lB,lB]at f;have c1:=G.count.1;have c2:=H.count.1;rw[r,x];refine⟨⟨rfl,rfl⟩,fun s o=>eA o,.inr ⟨rfl,⟨⟨false,c.roots t,[⟨u.1,[],u.2⟩]⟩,?_⟩,?_⟩⟩
   ·rw[b,show sD _ t 0 t=0 from iA rfl,pF,iA rfl]
   ·rw[lB];omega
theorem aDl{x:It}(h:vH c E P F)(ht:t<8)(W:x.ok true)(hE:(E t).length<1099511627776):
  ∃c',putC c t x=some c'/\aEJ c c'/\((∃P' M,vH c' (sD E t (uH (E t) x.key x.v)) P' M)∨c'.e=5/\c.n<=2*(uH (E t) x.key x.v).length+(xK P t).length):=by
 have k:=h.acc.swap (pQ ht).symm;unfold putC;rcases h.tree t ht with ⟨o,I,J⟩|⟨o,L,m⟩
 ·rw[iA o];rw[J,eH]at k;rw[I];obtain⟨q,r⟩:=aKo W;refine⟨_,rfl,?_⟩;rcases aZ k h.e with ⟨A,B,i,C,Q,M,D⟩|⟨A,B,i,C⟩
  ·obtain⟨a,S⟩:=nm (c.alloc.2);obtain⟨d,T⟩:=nm (c.alloc.1);rw[<- S,<- T];rw[<- S]at A D;rw[<- T]at B i C Q D;have G:∀p,d.N p=c.N p:=fun p=>by unfold CD.N;rw[C,Q,i.n,i.pg]
   have H:a∉xK P t:=(List.nodup_cons.1 (List.nodup_append.1 D.nodup).1).1;refine⟨⟨i.pg,i.n⟩,.inl ⟨_,M,h.turn ht B (fun s m=>?_) (Et:=uH [] x.key x.v) (Pt:=[a]) (.inr ⟨?_,0,⟨true,0,[x]⟩,[],?_,q,r,tA _,?_,rfl,rfl,rfl,?_,?_⟩) ?_ (fun p l=>?_)⟩⟩
   ·show sD d.roots t a s=_
    rw[i.roots];exact eA m
   ·show sD d.roots t a t≠0
    rw[show sD d.roots t a t=a from iA rfl];exact A
   ·show((d.root t a).write a _).N (sD d.roots t a t)=_
    rw[show sD d.roots t a t=a from iA rfl,pF,iA rfl]
   ·show[a]=[sD d.roots t a t]
    rw[show sD d.roots t a t=a from iA rfl]
   ·exact List.pairwise_singleton _ _
   ·exact fun e _=>⟨fun a k=>(by cases k),fun b hb=>(by cases hb)⟩
   ·exact(D.root t a).write (by simp) q r
   ·rw[pF,eA (fun(e:p=a)=>H (e▸l)),aKn,G]
  ·have l:=k.perm.length_eq;rw[i,C,List.length_range',dI]at l;rw[A,B];refine⟨⟨rfl,rfl⟩,.inr ⟨rfl,?_⟩⟩
   show c.n<=2*1+_
   omega
 ·rw[eA o];obtain⟨c',u,Z,j,g⟩:=aGz L (f:=40) (yK m hE) m k h.e W (fun _ h=>by cases h) (fun _ h=>by cases h);rw[Z];refine⟨_,rfl,?_⟩;rcases g with ⟨e0,Pn,Fn,O,U,g⟩|⟨e5,u0,U,_,y⟩
  ·have X:c'.roots t=c.roots t:=by rw[j.roots]
   rw[<- X]at g o;obtain⟨V,g2,g3⟩:=aLF o g O e0;refine⟨⟨by rw[V.pg,j.pg],by rw[V.n,j.n]⟩,?_⟩;rcases g3 with ⟨z0,Pz,Fz,z1,z2,z3,z⟩|⟨z5,_,z6⟩
   ·refine .inl ⟨_,Fz,h.turn ht z0 (fun s m=>by rw[g2 s m,j.roots]) (.inr ⟨z3,?_⟩) z1 (fun p l=>(z2 p l).trans (U p l))⟩;rcases z with ⟨_,z⟩|z
    ·exact⟨_,z⟩
    ·exact⟨_,z⟩
   ·exact .inr ⟨z5,by rw[<- j.n];exact z6⟩
  ·have Y:lE c' t u=c':=by unfold lE;rw[iA u0]
   simp only
   rw[Y];exact⟨⟨j.pg,j.n⟩,.inr ⟨e5,y⟩⟩
theorem aKp{key:Ky}(h:vH c E P F)(ht:t<8)(hE:(E t).length<1099511627776):
  ∃c' D,delC c t key=some (c',D)/\aEJ c c'/\(D=true↔∃e∈E t,e.1=key)/\(D=false->c'=c) /\
   ((∃i F',vH c' (sD E t (cH (E t) key)) i F')∨c'.e=5/\D=true/\c.n<=2*(cH (E t) key).length+(xK P t).length):=by
 have ha:=h.acc.swap (pQ ht).symm
 have j:(¬ ∃e∈E t,e.1=key)->sD E t (cH (E t) key)=E:=fun b=>by
  funext s
  unfold sD
  by_cases o:s=t
  ·rw[iA o,o]
   exact List.filter_eq_self.2 fun e he=>by
    simp only[wW,qK];exact fun hk=>b ⟨e,he,hk⟩
  ·rw[eA o]
 unfold delC;rcases h.tree t ht with ⟨S,a1,a4⟩|⟨S,T,o⟩
 ·rw[iA S];have b:¬ ∃e∈E t,e.1=key:=by rw[a1];rintro⟨e,he,_⟩;cases he
  exact⟨c,false,rfl,⟨rfl,rfl⟩,⟨(fun h=>by cases h),fun h=>absurd h b⟩,fun _=>rfl,.inl ⟨P,F,by rw[j b];exact h⟩⟩
 ·rw[eA S];obtain⟨c',D,u,ep,C,b,U⟩:=aGA T (f:=40) (key:=key) (yK o hE) o ha h.e (fun _ h=>by cases h) (fun _ h=>by cases h);rw[ep]
  simp only
  cases D with
  | false=>
   obtain⟨rfl,_⟩:=b rfl;have hn:¬ ∃e∈E t,e.1=key:=fun hx=>by have:=C.2 hx;cases this
   exact⟨c',false,rfl,⟨rfl,rfl⟩,C,fun _=>rfl,.inl ⟨P,F,by rw[j hn];exact h⟩⟩
  | true=>
   rw[iA rfl]
   suffices hgo:∃d,oK (lE c' t u) t=some d/\aEJ c d/\((∃i F',vH d (sD E t (cH (E t) key)) i F')∨d.e=5/\c.n<=2*(cH (E t) key).length+(xK P t).length) by
    obtain⟨d,d1,G,H⟩:=hgo;refine⟨d,true,by rw[d1];rfl,G,C,(fun h=>by cases h),?_⟩;rcases H with H|H
    ·exact .inl H
    ·exact .inr ⟨H.1,rfl,H.2⟩
   obtain⟨x,g⟩:=U rfl;rcases g with ⟨e0,Pn,Fn,a2,hR,g⟩|⟨e5,u0,hR,⟨n0,a3⟩,V⟩
   ·have hr:c'.roots t=c.roots t:=by rw[x.roots]
    rw[<- hr]at g S;obtain⟨g1,g2,g3⟩:=aLF S g a2 e0;obtain⟨d,hd⟩:=nm (lE c' t u);rw[<- hd]at g1 g2 g3⊢;have q:aEJ c d:=⟨by rw[g1.pg,x.pg],by rw[g1.n,x.n]⟩;unfold oK;rcases g3 with ⟨z0,Pz,Fz,z1,z2,z3,W⟩|⟨z5,⟨nz,z6⟩,z7⟩
    ·have L:∀p∈xK P t,d.N p=c.N p:=fun p v=>(z2 p v).trans (hR p v);have M:∀s,s≠t->d.roots s=c.roots s:=fun s o=>by rw[g2 s o,x.roots]
     have m:∀J,Sub d.N 1 J (d.roots t) none none (cH (E t) key) Pz->∃G,(match d.N (d.roots t) with|none=>none|some n=>if d.e≠0∨n.l≠[] then some d else some ((d.free (d.roots t)).root t n.first))=some G/\aEJ c G/\((∃i F',vH G (sD E t (cH (E t) key)) i F')∨G.e=5/\c.n<=2*(cH (E t) key).length+(xK P t).length):=fun J z=>by
      obtain⟨n,i,X,n2,n3,n4,n5,I⟩:=id z;rw[X]
      simp only
      rw[iA (.inr fun e=>by rw[e]at n4;cases n4)];exact⟨d,rfl,q,.inl ⟨_,Fz,h.turn ht z0 M (.inr ⟨z3,J,z⟩) z1 L⟩⟩
     rcases W with ⟨u0,W⟩|W
     ·obtain⟨n,i,X,n2,n3,n4,rfl,I⟩:=id W
      by_cases Z:n.l=[]
      ·rw[X]
       simp only
       rw[eA (by rintro(h|h);exact h z0;exact h Z)];have A:Acc d (d.roots t::(i++xK P t)) Fz:=z1;have B:=(A.free).root t n.first;have b:d.roots t∉i++xK P t:=(List.nodup_cons.1 (List.nodup_append.1 A.nodup).1).1;have O:∀p∈i++xK P t,((d.free (d.roots t)).root t n.first).N p=d.N p:=fun p v=>by rw[aKn,aOJ (fun(e:p=d.roots t)=>b (e▸v))]
       have r:((d.free (d.roots t)).root t n.first).roots t=n.first:=iA rfl;refine⟨_,rfl,⟨q.pg,q.n⟩,.inl ⟨_,_,h.turn (c':=(d.free (d.roots t)).root t n.first) ht z0 (fun s o=>?_) (Et:=cH (E t) key) (Pt:=i) ?_ B (fun p v=>(O p (rE _ v)).trans (L p v))⟩⟩
       ·show sD d.roots t n.first s=_
        rw[show sD d.roots t n.first s=d.roots s from eA o,M s o]
       ·rw[r]
        cases J:T with
        | zero=>
         rw[J]at I;obtain⟨k1,Y,k3,_,_⟩:=I;exact .inl ⟨n2.bare k1,by rw[Y,Z];rfl,k3⟩
        | succ h'=>
         rw[J]at I;obtain⟨k1,Y⟩:=I;rw[Z]at Y;have Q:Sub d.N 1 h' n.first none none (cH (E t) key) i:=Y;have:=(A.mem (k:=n.first) (.inl (uC _ (aE _ Q.head)))).1;exact .inr ⟨by omega,h',Q.congr fun p v=>O p (aE _ v)⟩
      ·have a0:1<=n.l.length:=by cases hq:n.l with|nil=>exact absurd hq Z|cons y l=>simp
       exact m _ ⟨n,i,X,n2,n3,a0,rfl,I⟩
     ·exact m _ W
    ·rw[z6]
     simp only
     rw[iA (.inl (by rw[z5];decide))];exact⟨d,rfl,q,.inr ⟨z5,by rw[<- x.n];exact z7⟩⟩
   ·have hg:lE c' t u=c':=by unfold lE;rw[iA u0]
    rw[hg];unfold oK;rw[x.roots,a3]
    simp only
    rw[iA (.inl (by rw[e5];decide))];exact⟨c',rfl,⟨x.pg,x.n⟩,.inr ⟨e5,V⟩⟩
end
end
section
def iJ (c:CD):List UInt8:=[79,82]++b16 c.next++b16 c.head++b16 (c.roots 0)++b16 (c.roots 1)++b16 (c.roots 2)++b16 (c.roots 3)++b16 (c.roots 4)++b16 (c.roots 5)++b16 (c.roots 6)++b16 (c.roots 7)
theorem mX(c:CD):(iJ c).length=22:=rfl
def gN (c:CD) (k:Nat):List UInt8:=
 if k=0 then jH (iJ c) else match xF c.S k with|some j=>jH (b16 j)|none=>match xF c.M k with|some n=>jH n.written|none=>c.pg k
def aC (pg:Nat->List UInt8) (n:Nat):CD:=
 if pg 0=qD then { pg:=pg,n:=n,next:=1,head:=0,roots:=fun _=>0,M:=[],S:=[],e:=0 }
 else { pg:=pg,n:=n,next:=r16 ((pg 0).drop 2),head:=r16 ((pg 0).drop 4),roots:=fun t=>r16 ((pg 0).drop (6+2*t)),M:=[],S:=[],e:=0 }
def aOK (pg:Nat->List UInt8):Prop:=pg 0=qD∨(pg 0≠qD/\(pg 0).getD 0 0=79/\(pg 0).getD 1 0=82)
def oI (pg:Nat->List UInt8) (n:Nat) (E:Nat->En):Prop:=aOK pg/\(∀k,k<n->(pg k).length=512)/\∃P F,vH (aC pg n) E P F
theorem nG(pg:Nat->List UInt8)(n:Nat):(aC pg n).pg=pg/\(aC pg n).n=n/\(aC pg n).M=[]/\(aC pg n).S=[]/\(aC pg n).e=0:=by
 unfold aC
 split<;>exact⟨rfl,rfl,rfl,rfl,rfl⟩
theorem Sub.nodes{N:Nat->Option Nd}:∀ {h m at_:Nat} {lo hi:Option Ky} {E:En} {P:List Nat},Sub N m h at_ lo hi E P->∀p∈P,∃n,N p=some n/\n.ok/\n.size<=512
 | h,m,at_,lo,hi,E,P,⟨n,P',h1,h2,h3,_,hP,h6⟩,p,b=>by
  subst hP;rcases kB.1 b with rfl|b
  ·exact⟨n,h1,h2,h3⟩
  ·cases h with
   | zero=>obtain⟨_,_,rfl,_⟩:=h6;cases b
   | succ h=>
    have key:∀ {l:List It} {lo:Option Ky} {c:Nat} {E:En} {P:List Nat},nD (Sub N 1 h) lo c l hi E P->∀p∈P,∃n,N p=some n/\n.ok/\n.size<=512:=fun {l}=>by
     induction l with
     | nil=>exact fun g p b=>Sub.nodes g p b
     | cons x l i=>
      rintro lo c E P ⟨E1,P1,E2,P2,d,f,rfl,rfl⟩ p b;rcases pD.1 b with b|b
      ·exact Sub.nodes d p b
      ·exact i f p b
    exact key h6.2 p b
theorem eN.bound{nx:Nat->Option Nat}{q:Nat}:∀ {F:List Nat} {h:Nat},eN nx h F->(∀k∈F,k<q)->0<q->h<q
 | [],_,h,_,hq=>by have:_=0:=h;omega
 | a::F,_,⟨h1,_⟩,hF,_=>by rw[h1];exact hF a (sB ..)
theorem eN.same{nx c:Nat->Option Nat}{q:Nat}:∀ {F:List Nat} {h:Nat},eN nx h F->(∀k∈F,k<q)->0<q->(∀k∈F,∀j,nx k=some j->j<q->c k=some j)->eN c h F
 | [],_,h,_,_,_=>h
 | a::F,_,⟨h1,j,h2,h3⟩,hF,hq,hn=>by
  have d:=h3.bound (fun k b=>hF k (uC _ b)) hq;exact⟨h1,j,hn a (sB ..) j h2 d,h3.same (fun k b=>hF k (uC _ b)) hq (fun k b=>hn k (uC _ b))⟩
section
variable {c : CD} {E : Nat -> En} {P : Nat -> List Nat} {F : List Nat}
theorem aDm(c:CD):jH (iJ c)≠qD:=fun e=>by
 have this:(jH (iJ c)).getD 0 0=qD.getD 0 0:=by rw[e]
 have h1:(jH (iJ c)).getD 0 0=79:=rfl;have h2:qD.getD 0 0=0:=by unfold qD;rw[wP,List.getElem?_replicate,iA (by omega)];rfl
 rw[h1,h2]at this;exact absurd this (by decide)
theorem jJ(h:vH c E P F){t:Nat}(ht:t<8):c.roots t<65536:=by
 have h2:=h.acc.next2;have h3:=h.acc.few;rcases h.tree t ht with ⟨h0,_,_⟩|⟨_,f,d⟩
 ·omega
 ·have b:c.roots t∈aHY P:=by unfold aHY;rw[List.mem_flatMap];exact⟨t,vT.2 ht,d.head⟩
  have:=(h.acc.mem (.inl b)).2;omega
theorem aNb(h:vH c E P F)(x:∀k,k<c.n->(c.pg k).length=512):oI (gN c) c.n E:=by
 have z:=h.acc.next1;have A:=h.acc.next2;have I:=h.acc.few;have B:=h.acc.head;have r:gN c 0=jH (iJ c):=iA rfl;have s:¬ gN c 0=qD:=by rw[r];exact aDm c
 have f:aC (gN c) c.n={ pg:=gN c,n:=c.n,next:=c.next,head:=c.head,roots:=fun t=>r16 ((gN c 0).drop (6+2*t)),M:=[],S:=[],e:=0 }:=by
  unfold aC;rw[eA s,r];have J:r16 ((jH (iJ c)).drop 2)=c.next:=oG (by omega) _;have L:r16 ((jH (iJ c)).drop 4)=c.head:=oG B _;rw[J,L]
 have O:∀t,t<8->r16 ((gN c 0).drop (6+2*t))=c.roots t:=fun t ht=>by
  rw[r];have h0:=jJ h (t:=0) (by omega);have h1:=jJ h (t:=1) (by omega);have h2:=jJ h (t:=2) (by omega);have h3:=jJ h (t:=3) (by omega);have Q:=jJ h (t:=4) (by omega);have T:=jJ h (t:=5) (by omega);have U:=jJ h (t:=6) (by omega);have V:=jJ h (t:=7) (by omega)
  match t,ht with
  | 0,_=>exact oG h0 _
  | 1,_=>exact oG h1 _
  | 2,_=>exact oG h2 _
  | 3,_=>exact oG h3 _
  | 4,_=>exact oG Q _
  | 5,_=>exact oG T _
  | 6,_=>exact oG U _
  | 7,_=>exact oG V _
 have W:∀p,1<=p->p<c.n->∀n,c.N p=some n->n.ok->n.size<=512->(aC (gN c) c.n).N p=some n:=fun p h1 h2 n b D y=>by
  rw[f];unfold CD.N at b⊢;simp only[aHT,Option.isSome_none,qG,dE];rw[iA ⟨h1,h2⟩]
  cases o:xF c.S p with
  | some j=>rw[o]at b;simp at b
  | none=>
   rw[o]at b;simp only[Option.isSome_none,qG,dE]at b;unfold gN;rw[eA (by omega),o]
   simp only
   cases l:xF c.M p with
   | some n'=>
    rw[l]at b
    simp only at b⊢
    injection b with b;rw[b];exact aQw D y
   | none=>
    rw[l]at b
    simp only at b⊢
    rw[iA ⟨h1,h2⟩]at b;exact b
 refine⟨.inr ⟨s,by rw[r];rfl,by rw[r];rfl⟩,fun k m=>?_,P,F,by rw[f],fun t ht=>?_,⟨?_,?_,?_,?_,?_,?_⟩⟩
 ·unfold gN
  split
  ·exact yL (by rw[mX];omega)
  ·split
   ·exact yL (by show 2<=512;omega)
   ·split
    ·rename_i n l
     have:=h.acc.wf.mM _ (xY l);exact yL (by rw[Nd.written_len];exact this.2.2.2)
    ·exact x k m
 ·have C:(aC (gN c) c.n).roots t=c.roots t:=by rw[f];exact O t ht
  rw[C];rcases h.tree t ht with h1|⟨h1,B,y⟩
  ·exact .inl h1
  ·refine .inr ⟨h1,B,?_⟩;refine y.congr fun p v=>?_;obtain⟨n,H,n2,Z⟩:=y.nodes p v;have X:p∈aHY P:=by unfold aHY;rw[List.mem_flatMap];exact⟨t,vT.2 ht,v⟩
   have:=h.acc.mem (.inl X);rw[H];exact W p this.1 (by omega) n H n2 Z
 ·rw[f];exact h.acc.perm
 ·rw[f];exact z
 ·rw[f];exact A
 ·rw[f];exact I
 ·have g:(aC (gN c) c.n).head=c.head:=by rw[f]
  rw[g];refine h.acc.chain.same (q:=65536) (fun k m=>by have:=(h.acc.mem (.inr m)).2;omega) (by omega) fun k m j d G=>?_;have Y:=(h.acc.mem (.inr m)).1;have u:k<c.n:=by have:=(h.acc.mem (.inr m)).2;have:=h.acc.next2;omega
  rw[f];unfold CD.nx at d⊢;simp only[aHT,Option.isSome_none,Bool.false_or,xP u,Bool.not_true,qG,dE];unfold gN;rw[eA (by omega)]
  cases o:xF c.S k with
  | some i=>
   rw[o]at d
   simp only at d⊢
   injection d with d;rw[d];exact congrArg some (oG G _)
  | none=>
   rw[o]at d
   simp only at d⊢
   cases l:xF c.M k with
   | some n=>rw[l]at d;simp at d
   | none=>rw[l]at d;simpa[u]using d
 ·rw[f];exact⟨List.Pairwise.nil,List.Pairwise.nil,fun p x=>(by cases x),fun p x=>(by cases x)⟩
theorem aNc{pg:Nat->List UInt8}{n:Nat}(h0:pg 0=qD)(b:∀k,k<n->(pg k).length=512)(h1:1<=n)(h2:n<=4096):oI pg n fun _=>[]:=by
 have d:aC pg n={ pg:=pg,n:=n,next:=1,head:=0,roots:=fun _=>0,M:=[],S:=[],e:=0 }:=iA h0;refine⟨.inl h0,b,fun _=>[],[],by rw[d],fun t _=>.inl ⟨by rw[d],rfl,rfl⟩,?_⟩;rw[d];refine⟨?_,tA _,h1,h2,rfl,⟨List.Pairwise.nil,List.Pairwise.nil,fun p b=>(by cases b),fun p b=>(by cases b)⟩⟩;have e:aHY (fun _=>[])=[]:=rfl;rw[e];exact List.Perm.refl _
end
def rP (E:En) (k:Ky):Option (List UInt8):=(E.find? fun e=>decide (e.1=k)).map (·.2)
theorem aBj{E1 E2:En}{k:Ky}(h:∀e∈E1,e.1≠k):rP (E1++E2) k=rP E2 k:=by
 unfold rP;rw[List.find?_append,show E1.find? (fun e=>decide (e.1=k))=none from List.find?_eq_none.2 fun e b=>by simpa using h e b]
 rfl
theorem aNd{E1 E2:En}{k:Ky}(h:∀e∈E2,e.1≠k):rP (E1++E2) k=rP E1 k:=by
 unfold rP;rw[List.find?_append,show E2.find? (fun e=>decide (e.1=k))=none from List.find?_eq_none.2 fun e b=>by simpa using h e b,Option.or_none]
theorem aOL{l:List It}{key:Ky}(q:tH (bC l)):rP (bC l) key=if nN l key then (l[gB l key]?).map (·.v) else none:=by
 obtain⟨A,m⟩:=nm (l.takeWhile fun y=>decide (klt y.key key));obtain⟨D,o⟩:=nm (l.dropWhile fun y=>decide (klt y.key key));have i:l=A++D:=by rw[m,o,pP]
 have r:gB l key=A.length:=by rw[m];rfl
 have j:nN l key=lX D key:=by rw[o];rfl
 have h1:∀e∈bC A,e.1≠key:=fun e d b=>by
  obtain⟨y,g,rfl⟩:=cI.1 d;rw[m]at g;have:klt y.key key:=by simpa using sI y g
  rw[show y.key=key from b]at this;exact zB _ this
 rw[r,j];have s:rP (bC l) key=rP (bC D) key:=by rw[i,uE,aBj h1]
 have t:l[A.length]? = D[0]?:=by rw[i,dK (tA _),xW]
 rw[s,t];rw[i,uE]at q;obtain⟨_,p,_⟩:=aQ.1 q
 cases c:D with
 | nil=>rfl
 | cons y B=>
  rw[c]at p
  have g:¬ klt y.key key:=by
   rw[o]at c
   simpa using gJ c
  unfold lX
  simp only
  by_cases b:y.key=key
  ·rw[iA (by simpa using b)];unfold rP bC;rw[yJ,uT (by simpa using b)]
   rfl
  ·rw[eA (by simpa using b)]
   have k:klt key y.key:=by
    by_cases h:klt key y.key
    ·exact h
    ·exact absurd (wO g h) b
   unfold rP;rw[List.find?_eq_none.2 fun e d=>?_]
   ·rfl
   ·simp only[yI];intro f;rcases kB.1 d with rfl|d
    ·exact b f
    ·have:=vD k ((xE.1 p).1 e d);rw[f]at this;exact zB _ this
def iN (up:Option Ky) (k:Ky):Bool:=match up with|some b=>!decide (klt k b)|none=>false
def goE (low:Ky) (up:Option Ky) (most:Nat):En->En->En×Bool
 | out,[]=>(out,true)
 | out,e::E=>if klt e.1 low then goE low up most out E else if out.length=most∨iN up e.1=true then (out,false) else goE low up most (out++[e]) E
section
variable {low : Ky} {up : Option Ky} {most : Nat}
theorem iK(out:En)(e:Ky×List UInt8)(E:En):goE low up most out (e::E)=if klt e.1 low then goE low up most out E else if out.length=most∨iN up e.1=true then (out,false) else goE low up most (out++[e]) E:=rfl
theorem aDn:∀(E1 E2 out:En),goE low up most out (E1++E2)=if (goE low up most out E1).2 then goE low up most (goE low up most out E1).1 E2 else goE low up most out E1
 | [],_,_=>rfl
 | e::E1,E2,out=>by
  have b:=aDn E1 E2;rw[zI,iK,iK out e E1]
  split
  ·exact b out
  ·split
   ·rfl
   ·exact b _
theorem aHZ:∀ {E1:En} (E2 out:En),(∀e∈E1,klt e.1 low)->goE low up most out (E1++E2)=goE low up most out E2
 | [],_,_,_=>rfl
 | e::E1,E2,out,h=>by
  show goE low up most out (e::(E1++E2))=_
  conv=>lhs;unfold goE
  rw[iA (h e (sB ..))];exact aHZ E2 out fun e b=>h e (uC _ b)
def inB (low:Ky) (up:Option Ky) (e:Ky×List UInt8):Bool:=!decide (klt e.1 low)&&!iN up e.1
theorem aNe{a b:Ky}(h:iN up a=true)(c:klt a b):iN up b=true:=by
 unfold iN at h⊢
 cases up with
 | none=>cases h
 | some u=>
  simp only[wW,qK]at h⊢;exact fun d=>h (vD c d)
theorem aDo:∀ {E out:En},tH E->out.length<=most->(goE low up most out E).1=out++(E.filter (inB low up)).take (most-out.length)
 | [],out,_,_=>by simp[goE]
 | e::E,out,hr,hl=>by
  obtain⟨f,c⟩:=xE.1 hr;unfold goE
  by_cases h1:klt e.1 low
  ·rw[iA h1,aDo c hl,List.filter_cons_of_neg (by unfold inB;simp[h1])]
  ·rw[eA h1]
   by_cases h2:out.length=most∨iN up e.1=true
   ·rw[iA h2];rcases h2 with h2|h2
    ·simp[h2]
    ·have:(e::E).filter (inB low up)=[]:=List.filter_eq_nil_iff.2 fun x b=>by
      have d:iN up x.1=true:=by
       rcases kB.1 b with rfl|b
       ·exact h2
       ·exact aNe h2 (f x b)
      unfold inB
      simp[d]
     rw[this];simp
   ·rw[eA h2]
    have h3:out.length<most:=by
     have:out.length≠most:=fun e=>h2 (.inl e);omega
    rw[aDo c (by rw[lB,aAd];omega),List.filter_cons_of_pos (by unfold inB;simp only[tN,wW];exact⟨by simpa using h1,by simpa using fun h=>h2 (.inr h)⟩),lB,aAd,qF];obtain⟨j,g⟩:∃j,most-out.length=j+1:=⟨most-out.length-1,by omega⟩;rw[g,List.take_succ_cons,show most-(out.length+1)=j by omega]
    rfl
end
end
end Go.Proofs.YtebjhcjbfaaejaaGreatDoor
section
namespace Go.Proofs
open Go.Shelf
def Tryz.keysN_ren:Go.Shelf.Ren:=⟨fun|7=>149|10=>184|n=>n,fun|23=>139|26=>3|3=>184|28=>130|0=>0|27=>129|33=>112|4=>4|n=>n,fun|n=>n⟩
theorem Tryz.keysN:Go.Proofs.SlLaysZI.n7 Tryz.prog Tryz.keysN_ren:={
 mixed:=by kernel_rfl
 f7:=⟨Tryz.f149.name,by decide,Tryz.func149.trans (congrArg some (by kernel_rfl))⟩
 f10:=⟨Tryz.f184.name,by decide,Tryz.func184.trans (congrArg some (by kernel_rfl))⟩
 t0:=Go.Proofs.Tryz.underlying0
 a0:=Tryz.isAgg0
 z0:=Go.Proofs.Tryz.sizeOf0
 v0:=Go.Proofs.Tryz.zeroValue0
 t4:=Go.Proofs.Tryz.underlying4
 a4:=Tryz.isAgg4
 z4:=Go.Proofs.Tryz.sizeOf4
 v4:=Go.Proofs.Tryz.zeroValue4
 t23:=Go.Proofs.Tryz.underlying139
 a23:=Tryz.isAgg139
 z23:=Tryz.sizeOf139
 v23:=Tryz.zeroValue139
 t26:=Go.Proofs.Tryz.underlying3
 a26:=Go.Proofs.Tryz.isAgg3
 z26:=Go.Proofs.Tryz.sizeOf3
 v26:=Go.Proofs.Tryz.zeroValue3
 t27:=Tryz.underlying129
 a27:=Tryz.isAgg129
 z27:=Tryz.sizeOf129
 v27:=Tryz.zeroValue129
 t28:=Go.Proofs.Tryz.underlying130
 a28:=Tryz.isAgg130
 z28:=Tryz.sizeOf130
 v28:=Go.Proofs.Tryz.zeroValue130
 t33:=Go.Proofs.Tryz.underlying112
 a33:=Tryz.isAgg112
 z33:=Tryz.sizeOf112
 v33:=Go.Proofs.Tryz.zeroValue112 }
def Tryz.keysI_ren:Go.Shelf.Ren:=⟨fun|7=>152|10=>185|n=>n,fun|23=>140|26=>3|3=>3|28=>130|0=>0|27=>129|33=>112|4=>4|n=>n,fun|n=>n⟩
theorem Tryz.keysI:Go.Proofs.SlLaysZI.n7 Tryz.prog Tryz.keysI_ren:={
 mixed:=by kernel_rfl
 f7:=⟨Tryz.f152.name,by decide,Tryz.func152.trans (congrArg some (by kernel_rfl))⟩
 f10:=⟨Tryz.f185.name,by decide,Tryz.func185.trans (congrArg some (by kernel_rfl))⟩
 t0:=Go.Proofs.Tryz.underlying0
 a0:=Tryz.isAgg0
 z0:=Go.Proofs.Tryz.sizeOf0
 v0:=Go.Proofs.Tryz.zeroValue0
 t4:=Go.Proofs.Tryz.underlying4
 a4:=Tryz.isAgg4
 z4:=Go.Proofs.Tryz.sizeOf4
 v4:=Go.Proofs.Tryz.zeroValue4
 t23:=Go.Proofs.Tryz.underlying140
 a23:=Tryz.isAgg140
 z23:=Tryz.sizeOf140
 v23:=Tryz.zeroValue140
 t26:=Go.Proofs.Tryz.underlying3
 a26:=Go.Proofs.Tryz.isAgg3
 z26:=Go.Proofs.Tryz.sizeOf3
 v26:=Go.Proofs.Tryz.zeroValue3
 t27:=Tryz.underlying129
 a27:=Tryz.isAgg129
 z27:=Tryz.sizeOf129
 v27:=Tryz.zeroValue129
 t28:=Go.Proofs.Tryz.underlying130
 a28:=Tryz.isAgg130
 z28:=Tryz.sizeOf130
 v28:=Go.Proofs.Tryz.zeroValue130
 t33:=Go.Proofs.Tryz.underlying112
 a33:=Tryz.isAgg112
 z33:=Tryz.sizeOf112
 v33:=Go.Proofs.Tryz.zeroValue112 }
def Tryz.searchA_ren:Go.Shelf.Ren:=⟨fun|16=>134|n=>n,fun|3=>3|35=>112|4=>4|38=>170|n=>n,fun|n=>n⟩
theorem Tryz.searchA:Go.Proofs.SlLaysO.n16 Tryz.prog Tryz.searchA_ren:={
 mixed:=by kernel_rfl
 f16:=Tryz.func134.trans (congrArg some (by kernel_rfl))
 t3:=Go.Proofs.Tryz.underlying3
 a3:=Go.Proofs.Tryz.isAgg3
 z3:=Go.Proofs.Tryz.sizeOf3
 v3:=Go.Proofs.Tryz.zeroValue3
 t4:=Go.Proofs.Tryz.underlying4
 a4:=Tryz.isAgg4
 z4:=Go.Proofs.Tryz.sizeOf4
 v4:=Go.Proofs.Tryz.zeroValue4
 t35:=Go.Proofs.Tryz.underlying112
 a35:=Tryz.isAgg112
 z35:=Tryz.sizeOf112
 v35:=Go.Proofs.Tryz.zeroValue112
 t38:=Tryz.underlying170
 a38:=Tryz.isAgg170
 z38:=Tryz.sizeOf170
 v38:=Tryz.zeroValue170 }
end Go.Proofs
end
namespace Go.Proofs.YtebjhcjbfaaejaaGreatDoor
open Go.Proofs.Tryz
variable {i:Nat}{L:List Nat}
end Go.Proofs.YtebjhcjbfaaejaaGreatDoor
