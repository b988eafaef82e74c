/-
  Joined: Nb Nc
-/
import Derived.Test.YtebjhcjbfaaejaaGreatDoorJca8
set_option maxRecDepth 100000
set_option maxHeartbeats 32000000
namespace Go.Proofs.YtebjhcjbfaaejaaGreatDoor
open Go.Proofs.Tryz
variable {L:List Nat}{α:Type}
section
abbrev En:=List (Ky × List UInt8)
def bC (l:List It):En:=l.map fun x=>(x.key,x.v)
def tH (E:En):Prop:=E.Pairwise fun a b=>klt a.1 b.1
def cK (lo hi:Option Ky) (E:En):Prop:=∀e∈E,zR lo e.1/\lQ hi e.1
abbrev oU:=Nat -> Option Ky -> Option Ky -> En -> List Nat -> Prop
def nD (S:oU):Option Ky->Nat->List It->Option Ky->En->List Nat->Prop
 | lo,c,[],hi,E,P=>S c lo hi E P
 | lo,c,x::l,hi,E,P=>∃E1 P1 E2 P2,S c lo (some x.key) E1 P1/\nD S (some x.key) x.at_ l hi E2 P2/\E=E1++E2/\P=P1++P2
def NF (N:Nat->Option Nd):Nat->Nd->Option Ky->Option Ky->En->List Nat->Prop
 | 0,n,lo,hi,E,P=>n.lf=true/\E=bC n.l/\P=[]/\tH E/\cK lo hi E
 | h+1,n,lo,hi,E,P=>n.lf=false/\nD (fun at_ lo hi E P=>∃n P',N at_=some n/\n.ok/\n.size<=512/\1<=n.l.length/\P=at_::P'/\NF N h n lo hi E P') lo n.first n.l hi E P
def Sub (N:Nat->Option Nd) (m h:Nat):oU:=fun at_ lo hi E P=>∃n P',N at_=some n/\n.ok/\n.size<=512/\m<=n.l.length/\P=at_::P'/\NF N h n lo hi E P'
def yM (c:Nat):List It->Nat
 | []=>c
 | x::A=>yM x.at_ A
def mQ (lo:Option Ky):List It->Option Ky
 | []=>lo
 | x::A=>mQ (some x.key) A
def uV (hi:Option Ky):List It->Option Ky
 | []=>hi
 | x::_=>some x.key
def bH (S:oU):Option Ky->Nat->List It->En->List Nat->Prop
 | _,_,[],E,P=>E=[]/\P=[]
 | lo,c,x::A,E,P=>∃E1 P1 E2 P2,S c lo (some x.key) E1 P1/\bH S (some x.key) x.at_ A E2 P2/\E=E1++E2/\P=P1++P2
def gL (S:oU):List It->Option Ky->En->List Nat->Prop
 | [],_,E,P=>E=[]/\P=[]
 | x::B,hi,E,P=>nD S (some x.key) x.at_ B hi E P
section
variable {S S' : oU} {lo hi : Option Ky} {c : Nat} {A B l : List It} {E : En} {P : List Nat}
theorem nD.mono(f:∀c lo hi E b,(∀p∈b,p∈P)->S c lo hi E b->S' c lo hi E b):∀ {l:List It} {lo:Option Ky} {c:Nat} {E:En} {b:List Nat},(∀p∈b,p∈P)->nD S lo c l hi E b->nD S' lo c l hi E b
 | [],_,_,_,_,hP,h=>f _ _ _ _ _ hP h
 | x::l,lo,c,E,b,hP,h=>by
  obtain⟨E1,P1,E2,P2,h1,h2,rfl,rfl⟩:=h;exact⟨E1,P1,E2,P2,f _ _ _ _ _ (fun p d=>hP p (aE _ d)) h1,nD.mono f (fun p d=>hP p (rE _ d)) h2,rfl,rfl⟩
theorem bH.mono(f:∀c lo hi E b,(∀p∈b,p∈P)->S c lo hi E b->S' c lo hi E b):∀ {l:List It} {lo:Option Ky} {c:Nat} {E:En} {b:List Nat},(∀p∈b,p∈P)->bH S lo c l E b->bH S' lo c l E b
 | [],_,_,_,_,_,h=>h
 | x::l,lo,c,E,b,hP,h=>by
  obtain⟨E1,P1,E2,P2,h1,h2,rfl,rfl⟩:=h;exact⟨E1,P1,E2,P2,f _ _ _ _ _ (fun p d=>hP p (aE _ d)) h1,bH.mono f (fun p d=>hP p (rE _ d)) h2,rfl,rfl⟩
theorem gL.mono(b:∀c lo hi E L,(∀p∈L,p∈P)->S c lo hi E L->S' c lo hi E L)(d:∀p∈L,p∈P)(h:gL S B hi E L):gL S' B hi E L:=by
 cases B with
 | nil=>exact h
 | cons x B=>exact nD.mono b d h
theorem nD.focus:∀ {A:List It} {lo:Option Ky} {c:Nat} {E:En} {P:List Nat},nD S lo c (A++B) hi E P ↔
  ∃EA PA E0 b EB PB,bH S lo c A EA PA/\S (yM c A) (mQ lo A) (uV hi B) E0 b/\gL S B hi EB PB/\E=EA++(E0++EB)/\P=PA++(b++PB)
 | [],lo,c,E,P=>by
  cases B with
  | nil=>
   constructor
   ·intro h;exact⟨[],[],E,P,[],[],⟨rfl,rfl⟩,h,⟨rfl,rfl⟩,by simp,by simp⟩
   ·rintro⟨_,_,E0,b,_,_,⟨rfl,rfl⟩,h,⟨rfl,rfl⟩,rfl,rfl⟩;simp only[eH,dI];exact h
  | cons x B=>
   constructor
   ·rintro⟨E1,P1,E2,P2,h1,h2,rfl,rfl⟩;exact⟨[],[],E1,P1,E2,P2,⟨rfl,rfl⟩,h1,h2,rfl,rfl⟩
   ·rintro⟨_,_,E0,b,EB,PB,⟨rfl,rfl⟩,h1,h2,rfl,rfl⟩;exact⟨E0,b,EB,PB,h1,h2,rfl,rfl⟩
 | y::A,lo,c,E,P=>by
  constructor
  ·rintro⟨E1,P1,E2,P2,h1,h2,rfl,rfl⟩;obtain⟨EA,PA,E0,b,EB,PB,d,f,g,rfl,rfl⟩:=nD.focus.1 h2;exact⟨E1++EA,P1++PA,E0,b,EB,PB,⟨E1,P1,EA,PA,h1,d,rfl,rfl⟩,f,g,by rw[qF],by rw[qF]⟩
  ·rintro⟨_,_,E0,b,EB,PB,⟨E1,P1,EA,PA,h1,d,rfl,rfl⟩,f,g,rfl,rfl⟩;exact⟨E1,P1,EA++(E0++EB),PA++(b++PB),h1,nD.focus.2 ⟨EA,PA,E0,b,EB,PB,d,f,g,rfl,rfl⟩,by rw[qF],by rw[qF]⟩
theorem nD.focus2{x:It}:nD S lo c (A++x::B) hi E P ↔
  ∃EA PA E1 P1 E2 P2 EB PB,bH S lo c A EA PA/\S (yM c A) (mQ lo A) (some x.key) E1 P1/\S x.at_ (some x.key) (uV hi B) E2 P2/\gL S B hi EB PB/\E=EA++((E1++E2)++EB)/\P=PA++((P1++P2)++PB):=by
 constructor
 ·intro h;obtain⟨EA,PA,E1,P1,i,j,b,d,k,rfl,rfl⟩:=nD.focus.1 h;obtain⟨_,_,E2,P2,EB,PB,⟨rfl,rfl⟩,f,g,rfl,rfl⟩:=(nD.focus (A:=[])).1 (show nD S (some x.key) x.at_ ([]++B) hi i j from k);exact⟨EA,PA,E1,P1,E2,P2,EB,PB,b,d,f,g,by simp,by simp⟩
 ·rintro⟨EA,PA,E1,P1,E2,P2,EB,PB,b,d,f,g,rfl,rfl⟩;refine nD.focus.2 ⟨EA,PA,E1,P1,E2++EB,P2++PB,b,d,?_,by simp,by simp⟩;exact(nD.focus (A:=[])).2 ⟨[],[],E2,P2,EB,PB,⟨rfl,rfl⟩,f,g,rfl,rfl⟩
theorem nD.cut{x:It}:∀ {A:List It} {lo:Option Ky} {c:Nat} {E:En} {P:List Nat},nD S lo c (A++x::B) hi E P↔∃E1 P1 E2 P2,nD S lo c A (some x.key) E1 P1/\nD S (some x.key) x.at_ B hi E2 P2/\E=E1++E2/\P=P1++P2
 | [],_,_,_,_=>Iff.rfl
 | y::A,lo,c,E,P=>by
  constructor
  ·rintro⟨E1,P1,E2,P2,h1,h2,rfl,rfl⟩;obtain⟨b,d,f,g,h,i,rfl,rfl⟩:=nD.cut.1 h2;exact⟨E1++b,P1++d,f,g,⟨E1,P1,b,d,h1,h,rfl,rfl⟩,i,by rw[qF],by rw[qF]⟩
  ·rintro⟨_,_,f,g,⟨E1,P1,b,d,h1,h,rfl,rfl⟩,i,rfl,rfl⟩;exact⟨E1,P1,b++f,d++g,h1,nD.cut.2 ⟨b,d,f,g,h,i,rfl,rfl⟩,by rw[qF],by rw[qF]⟩
end
theorem aEG{lo hi:Option Ky}{E:En}{k:Ky}(h:cK lo (some k) E)(f:lQ hi k):cK lo hi E:=fun e c=>⟨(h e c).1,fun b d=>vD ((h e c).2 k rfl) (f b d)⟩
theorem aEH{lo hi:Option Ky}{E:En}{k:Ky}(h:cK (some k) hi E)(d:zR lo k):cK lo hi E:=fun e b=>⟨fun a c=>aMV (d a c) ((h e b).1 k rfl),(h e b).2⟩
theorem cK.mid{lo _hi:Option Ky}{E:En}{k:Ky}(h:cK lo (some k) E)(f:E≠[]):zR lo k:=by
 obtain⟨e,b⟩:=List.exists_mem_of_ne_nil E f;exact fun a c d=>(h e b).1 a c (vD ((h e b).2 k rfl) d)
theorem cK.mid2{lo _hi:Option Ky}{E:En}{k:Ky}(h:cK lo (some k) E)(d:E≠[]):∀a,lo=some a->klt a k:=by
 obtain⟨e,b⟩:=List.exists_mem_of_ne_nil E d;exact fun a c=>aAH ((h e b).1 a c) ((h e b).2 k rfl)
theorem cK.midHi{hi:Option Ky}{E:En}{k:Ky}(h:cK (some k) hi E)(f:E≠[]):lQ hi k:=by
 obtain⟨e,c⟩:=List.exists_mem_of_ne_nil E f;exact fun b d=>aAH ((h e c).1 k rfl) ((h e c).2 b d)
theorem tH.append{E1 E2:En}{k:Ky}{lo hi:Option Ky}(h1:tH E1)(h2:tH E2)(w1:cK lo (some k) E1)(f:cK (some k) hi E2):tH (E1++E2):=by
 refine aQ.2 ⟨h1,h2,fun a c b d=>?_⟩;exact jV ((w1 a c).2 k rfl) ((f b d).1 k rfl)
structure aGx (S:oU):Prop where
 all:∀c lo hi E P,S c lo hi E P->tH E/\cK lo hi E/\E≠[]
theorem nD.fine{S:oU}(g:aGx S){hi:Option Ky}:∀ {l:List It} {lo:Option Ky} {c:Nat} {E:En} {P:List Nat},nD S lo c l hi E P->tH E/\cK lo hi E/\E≠[]
 | [],_,_,_,_,h=>g.all _ _ _ _ _ h
 | x::l,lo,_,_,_,⟨E1,P1,E2,P2,h1,h2,rfl,rfl⟩=>by
  obtain⟨j,d,i⟩:=g.all _ _ _ _ _ h1;obtain⟨k,f,m⟩:=nD.fine g h2;refine⟨j.append k d f,fun e b=>?_,fun e=>i (List.append_eq_nil_iff.1 e).1⟩;rcases pD.1 b with b|b
  ·exact aEG d (f.midHi m) e b
  ·exact aEH f (d.mid (_hi:=hi) i) e b
theorem nD.keys{S:oU}(d:aGx S){hi:Option Ky}:∀ {l:List It} {lo:Option Ky} {c:Nat} {E:En} {P:List Nat},nD S lo c l hi E P->(l.Pairwise fun x y=>klt x.key y.key)/\∀x∈l,(∀a,lo=some a->klt a x.key)/\lQ hi x.key
 | [],_,_,_,_,_=>⟨List.Pairwise.nil,fun x j=>by cases j⟩
 | x::l,lo,_,_,_,⟨E1,P1,E2,P2,h1,h2,rfl,rfl⟩=>by
  obtain⟨m,f,g⟩:=d.all _ _ _ _ _ h1;obtain⟨o,h,i⟩:=nD.fine d h2;obtain⟨c1,c2⟩:=nD.keys d h2;refine⟨xE.2 ⟨fun y b=>(c2 y b).1 _ rfl,c1⟩,fun y b=>?_⟩;rcases kB.1 b with rfl|b
  ·exact⟨f.mid2 (_hi:=hi) g,h.midHi i⟩
  ·exact⟨fun a k=>vD (f.mid2 (_hi:=hi) g a k) ((c2 y b).1 _ rfl),(c2 y b).2⟩
theorem bH.less{S:oU}(i:aGx S):∀ {A:List It} {lo:Option Ky} {c:Nat} {E:En} {P:List Nat},bH S lo c A E P->(A.Pairwise fun x y=>klt x.key y.key)->∀e∈E,∃a,mQ lo A=some a/\klt e.1 a
 | [],_,_,_,_,h,_,e,b=>by
  obtain⟨rfl,_⟩:=h
  cases b
 | [x],_,_,_,_,h,_,e,b=>by
  obtain⟨E1,P1,E2,P2,h1,⟨rfl,_⟩,rfl,_⟩:=h;rw[dI]at b;exact⟨x.key,rfl,((i.all _ _ _ _ _ h1).2.1 e b).2 _ rfl⟩
 | x::y::A,_,_,_,_,h,hp,e,b=>by
  obtain⟨E1,P1,E2,P2,h1,h2,rfl,_⟩:=h;have d:=(xE.1 hp);rcases pD.1 b with b|b
  ·have j:=((i.all _ _ _ _ _ h1).2.1 e b).2 _ rfl;obtain⟨q,r,s,t,h3,u,k,v⟩:=id h2;obtain⟨_,l,m⟩:=i.all _ _ _ _ _ h3;obtain⟨f,g⟩:=List.exists_mem_of_ne_nil _ m;obtain⟨a,o,p⟩:=bH.less i h2 d.2 f (by rw[k];exact aE _ g);exact⟨a,o,vD (jV j ((l f g).1 _ rfl)) p⟩
  ·exact bH.less i h2 d.2 e b
theorem gL.more{S:oU}(d:aGx S){B:List It}{hi:Option Ky}{E:En}{P:List Nat}(h:gL S B hi E P):∀e∈E,∃b,uV hi B=some b/\¬ klt e.1 b:=by
 cases B with
 | nil=>obtain⟨rfl,_⟩:=h;intro e c;cases c
 | cons x B=>exact fun e c=>⟨x.key,rfl,((nD.fine d h).2.1 e c).1 _ rfl⟩
section
variable {N N' : Nat -> Option Nd} {m h : Nat} {n : Nd} {at_ : Nat} {lo hi : Option Ky} {E : En} {P : List Nat}
theorem NF.fine:∀ {h:Nat} {n:Nd} {lo hi:Option Ky} {E:En} {P:List Nat},NF N h n lo hi E P->tH E/\cK lo hi E/\(1<=n.l.length∨1<=h->E≠[])
 | 0,n,_,_,_,_,⟨_,rfl,_,h1,h2⟩=>⟨h1,h2,fun g e=>by
  have b:n.l.length=0:=by have:=congrArg List.length e;simpa[bC]using this
  omega⟩
 | h+1,n,_,_,_,_,hn=>by
  have d:aGx (Sub N 1 h):=⟨fun c lo hi E P ⟨n,i,_,_,_,b,_,f⟩=>by
   obtain⟨h1,h2,h3⟩:=NF.fine f;exact⟨h1,h2,h3 (.inl b)⟩⟩
  obtain⟨h1,h2,h3⟩:=nD.fine d hn.2;exact⟨h1,h2,fun _=>h3⟩
theorem Sub.fine:aGx (Sub N 1 h):=⟨fun c lo hi E P ⟨n,f,_,_,_,b,_,d⟩=>by
 obtain⟨h1,h2,h3⟩:=NF.fine d;exact⟨h1,h2,h3 (.inl b)⟩⟩
theorem NF.congr:∀ {h:Nat} {n:Nd} {lo hi:Option Ky} {E:En} {P:List Nat},NF N h n lo hi E P->(∀p∈P,N' p=N p)->NF N' h n lo hi E P
 | 0,_,_,_,_,_,hn,_=>hn
 | h+1,n,_,_,_,P,hn,hN=>by
  refine⟨hn.1,nD.mono (P:=P) (fun c lo hi E j f=>?_) (fun p d=>d) hn.2⟩;rintro⟨n,b,h1,h2,h3,g,rfl,i⟩;exact⟨n,b,by rw[hN c (f c (sB ..))];exact h1,h2,h3,g,rfl,NF.congr i (fun p d=>hN p (f p (uC _ d)))⟩
theorem Sub.congr(i:Sub N m h at_ lo hi E P)(b:∀p∈P,N' p=N p):Sub N' m h at_ lo hi E P:=by
 obtain⟨n,c,h1,h2,h3,d,rfl,f⟩:=i;exact⟨n,c,by rw[b at_ (sB ..)];exact h1,h2,h3,d,rfl,f.congr (fun p g=>b p (uC _ g))⟩
theorem Sub.head(b:Sub N m h at_ lo hi E P):at_∈P:=by obtain⟨n,c,_,_,_,_,rfl,_⟩:=b;exact sB ..
theorem NF.kind(b:NF N h n lo hi E P):n.lf=decide (h=0):=by
 cases h with
 | zero=>exact b.1
 | succ h=>rw[b.1];rfl
theorem nD.count{S:oU}{q:Nat}(d:∀c lo hi E P,S c lo hi E P->P.length+1<=2*E.length/\q<=E.length){hi:Option Ky}:∀ {l:List It} {lo:Option Ky} {c:Nat} {E:En} {P:List Nat},nD S lo c l hi E P->P.length+l.length+1<=2*E.length/\q*(l.length+1)<=E.length
 | [],_,_,_,_,hk=>by have:=d _ _ _ _ _ hk;simpa using this
 | x::l,_,_,_,_,⟨E1,P1,E2,P2,h1,h2,rfl,rfl⟩=>by
  have a:=d _ _ _ _ _ h1;have b:=nD.count d h2;rw[lB,lB,gD,Nat.mul_succ];omega
theorem NF.count:∀ {h:Nat} {n:Nd} {lo hi:Option Ky} {E:En} {P:List Nat},NF N h n lo hi E P->1<=n.l.length->P.length+2<=2*E.length/\2^h<=E.length
 | 0,n,_,_,_,_,⟨_,rfl,rfl,_,_⟩,b=>by
  have e:(bC n.l).length=n.l.length:=by simp[bC]
  rw[e];simp;omega
 | h+1,n,_,_,_,_,hn,b=>by
  have d:∀c lo hi E P,Sub N 1 h c lo hi E P->P.length+1<=2*E.length/\2^h<=E.length:=by
   rintro c lo hi E P ⟨n,i,_,_,_,b,rfl,f⟩;have:=NF.count f b;rw[gD];omega
  have g:=nD.count d hn.2;have h2:2^h*2<=2^h*(n.l.length+1):=Nat.mul_le_mul_left _ (by omega);rw[Nat.pow_succ];omega
theorem Sub.count(d:Sub N 1 h at_ lo hi E P):P.length+1<=2*E.length/\2^h<=E.length:=by
 obtain⟨n,f,_,_,_,b,rfl,c⟩:=d;have:=NF.count c b;rw[gD];omega
end
theorem bH.count{S:oU}(d:∀c lo hi E P,S c lo hi E P->P.length+1<=2*E.length):∀ {A:List It} {lo:Option Ky} {c:Nat} {E:En} {P:List Nat},bH S lo c A E P->P.length+A.length<=2*E.length
 | [],_,_,_,_,h=>by
  obtain⟨rfl,rfl⟩:=h
  simp
 | x::l,_,_,_,_,h=>by
  obtain⟨E1,P1,E2,P2,h1,h2,rfl,rfl⟩:=h;have a:=d _ _ _ _ _ h1;have b:=bH.count d h2;rw[lB,lB,gD];omega
theorem gL.count{S:oU}(b:∀c lo hi E P,S c lo hi E P->P.length+1<=2*E.length){B:List It}{hi:Option Ky}{E:En}{P:List Nat}(h:gL S B hi E P):P.length+B.length<=2*E.length:=by
 cases B with
 | nil=>
  obtain⟨rfl,rfl⟩:=h
  simp
 | cons x B=>
  have:=(nD.count (q:=0) (fun c lo hi E P h=>⟨b c lo hi E P h,rB _⟩) (show nD S (some x.key) x.at_ B hi E P from h)).1;rw[gD];omega
def gO (lf:Bool) (lim:Nat):List It->Nat->Nat->Nat
 | x::y::l,k,s=>if 2*s<lim then gO lf lim (y::l) (k+1) (s+ibn lf x) else k
 | _,k,_=>k
def Nd.half (n:Nd):Nat:=max (gO n.lf (n.size-3) n.l 0 0) 1
def Nd.cutAt (n:Nd):Nat:=if n.lf then n.half else min n.half (n.l.length-2)
def Nd.left (n:Nd):Nd:=⟨n.lf,n.first,n.l.take n.cutAt⟩
def Nd.key (n:Nd):Ky:=((n.l[n.cutAt]?).map (·.key)).getD []
def Nd.right (n:Nd):Nd:=if n.lf then ⟨true,0,n.l.drop n.cutAt⟩ else ⟨false,((n.l[n.cutAt]?).map (·.at_)).getD 0,n.l.drop (n.cutAt+1)⟩
def iE (lf:Bool) (l:List It):Nat:=(l.map (ibn lf)).sum
theorem pC(lf:Bool)(x:It)(l:List It):iE lf (x::l)=ibn lf x+iE lf l:=rfl
theorem uB(lf:Bool)(a b:List It):iE lf (a++b)=iE lf a+iE lf b:=by unfold iE;rw[List.map_append,List.sum_append]
theorem jE(n:Nd):n.size=(if n.lf then 3 else 5)+iE n.lf n.l:=rfl
theorem aBg(lf:Bool)(b:Nat):∀(l:List It) (k s:Nat),∃j,gO lf b l k s=k+j/\(j<=l.length-1)/\(j=0∨∃x,l[j-1]? = some x/\2*(s+iE lf (l.take (j-1)))<b/\iE lf (l.take j)=iE lf (l.take (j-1))+ibn lf x)/\(j=l.length-1∨b<=2*(s+iE lf (l.take j)))
 | [],k,s=>⟨0,rfl,by simp,.inl rfl,.inl rfl⟩
 | [x],k,s=>⟨0,rfl,by simp,.inl rfl,.inl rfl⟩
 | x::y::l,k,s=>by
  unfold gO
  by_cases h:2*s<b
  ·rw[iA h];obtain⟨j,h1,h2,h3,c⟩:=aBg lf b (y::l) (k+1) (s+ibn lf x);have f:gO lf b (y::l) (k+1) (s+ibn lf x)=k+(j+1):=by rw[h1];clear h3;omega
   have g:j+1<=(x::y::l).length-1:=by clear h3 c;simp only[gD]at h2⊢;omega
   refine⟨j+1,f,g,.inr ?_,?_⟩
   ·rcases h3 with rfl|⟨z,m,o,d⟩
    ·exact⟨x,rfl,by simpa[iE]using h,by simp[iE]⟩
    ·obtain⟨i,rfl⟩:∃i,j=i+1:=by
      rcases j with _|j
      ·exfalso
       simp[iE]at d
       unfold ibn at d
       split at d<;>omega
      ·exact⟨j,rfl⟩
     simp only[Nat.add_sub_cancel]at m o d⊢;rw[List.take_succ_cons,pC]at d;refine⟨z,by simpa using m,?_,?_⟩
     ·rw[List.take_succ_cons,pC];omega
     ·rw[List.take_succ_cons,List.take_succ_cons,pC,pC,List.take_succ_cons,pC];omega
   ·clear h3;rcases c with c|c
    ·left;simp only[gD]at c⊢;omega
    ·right;rw[List.take_succ_cons,pC];omega
  ·rw[eA h];exact⟨0,rfl,by simp,.inl rfl,.inr (by simp[iE];omega)⟩
theorem aBF{lf:Bool}{l:List It}{q:Nat}(h:∀x∈l,ibn lf x<=q):iE lf l<=q*l.length:=by
 induction l with
 | nil=>simp[iE]
 | cons y l c=>
  have:=c (fun x b=>h x (uC _ b));have:=h y (sB ..);rw[pC,gD,Nat.mul_succ];omega
theorem aGy{lf:Bool}{x:It}(h:x.ok lf):ibn lf x<=if lf then 162 else 99:=by
 have:=h.k2;have:=h.v;unfold ibn
 split<;>omega
theorem sN(lf:Bool)(l:List It)(k:Nat):iE lf (l.take k)+iE lf (l.drop k)=iE lf l:=by rw[<- uB,bN]
theorem aMX{lf:Bool}{l:List It}{k:Nat}{x:It}(b:l[k]? = some x):iE lf (l.drop k)=ibn lf x+iE lf (l.drop (k+1)):=by
 obtain⟨h1,h2⟩:=tD.1 b;rw[zM h1,h2,pC]
theorem Nd.split_ok{n:Nd}(h:n.ok)(d:512<n.size)(C:n.size<=if n.lf then 680 else 780):
  n.cutAt<n.l.length/\1<=n.cutAt/\n.left.size<=512/\n.right.size<=512/\1<=n.left.l.length/\1<=n.right.l.length/\n.left.ok/\n.right.ok:=by
 obtain⟨lf,first,l⟩:=n;obtain⟨h1,h2,h3,A⟩:=h
 simp only at h1 h2 h3 A
 have o:∀x∈l,ibn lf x<=if lf then 162 else 99:=fun x r=>aGy (h2 x r)
 have s:Nd.size ⟨lf,first,l⟩=(if lf then 3 else 5)+iE lf l:=rfl;have t:=aBF o;obtain⟨j,E,L,m,g⟩:=aBg lf (Nd.size ⟨lf,first,l⟩ - 3) l 0 0;rw[cC]at E;have f:Nd.half ⟨lf,first,l⟩=max j 1:=by unfold Nd.half;simp only;rw[E]
 rw[s]at d C m g;simp only[cC]at m g
 have u:1<=j:=by
  clear m;rcases g with g|g
  ·cases lf<;>simp only[mH,dE,qG]at d t⊢<;>omega
  ·rcases jR j with rfl|u
   ·exfalso
    simp only[xT]at g;have:iE lf ([]:List It)=0:=rfl
    cases lf<;>simp only[mH,dE,qG]at d g<;>omega
   ·exact u
 have p:max j 1=j:=by clear m;omega
 rw[p]at f
 have v:∃x,l[j-1]? = some x/\2*iE lf (l.take (j-1))<(if lf then 3 else 5)+iE lf l-3/\iE lf (l.take j)=iE lf (l.take (j-1))+ibn lf x:=by
  rcases m with m|m
  ·omega
  ·exact m
 clear m;obtain⟨x,I,F,N⟩:=v;have r:=o x (rG I)
 cases lf with
 | true=>
  simp only[mH]at d C t g F r o;have b:Nd.cutAt ⟨true,first,l⟩=j:=by unfold Nd.cutAt;simp only[mH];exact f
  have ht:=sN true l j;have z:j<l.length:=by omega
  have G:iE true (l.drop j)<=400:=by
   rcases g with g|g
   ·have i:=aBF (l:=l.drop j) (fun y c=>o y (sK c));rw[mC]at i;have:l.length-j=1:=by omega
    rw[this]at i;omega
   ·omega
  refine⟨by rw[b];exact z,by rw[b];exact u,?_,?_,?_,?_,⟨?_,?_,h3,A⟩,⟨?_,?_,?_,?_⟩⟩
  ·show(if true then 3 else 5)+iE true (l.take (Nd.cutAt ⟨true,first,l⟩))<=512
   rw[b,iA rfl];omega
  ·show(if true then 3 else 5)+iE true (l.drop (Nd.cutAt ⟨true,first,l⟩))<=512
   rw[b,iA rfl];omega
  ·show 1<=(l.take (Nd.cutAt ⟨true,first,l⟩)).length
   rw[b,jC];omega
  ·show 1<=(l.drop (Nd.cutAt ⟨true,first,l⟩)).length
   rw[b,mC];omega
  ·show(l.take (Nd.cutAt ⟨true,first,l⟩)).length<65536
   rw[b,jC];omega
  ·exact fun y c=>h2 y (rO c)
  ·show(l.drop (Nd.cutAt ⟨true,first,l⟩)).length<65536
   rw[b,mC];omega
  ·exact fun y c=>h2 y (sK c)
  ·exact Nat.zero_lt_succ _
  ·exact fun _=>rfl
 | false=>
  simp only[dE,qG]at d C t g F r o;have D:4<=l.length:=by omega
  have b:Nd.cutAt ⟨false,first,l⟩=min j (l.length-2):=by unfold Nd.cutAt;simp only[dE,qG];rw[f]
  obtain⟨k,J⟩:=nm (min j (l.length-2));rw[<- J]at b;have ht:=sN false l k;have q:k<l.length:=by omega
  obtain⟨y,c⟩:=gx (l:=l) q;have i:=aMX (lf:=false) c
  have H:iE false (l.take k)<=iE false (l.take j):=by
   have e:l.take k=(l.take j).take k:=by rw[List.take_take,iT (by omega)]
   rw[e];have:=sN false (l.take j) k;omega
  have G:iE false (l.drop (k+1))<=450:=by
   rcases g with g|g
   ·have i:=aBF (l:=l.drop (k+1)) (fun y c=>o y (sK c));rw[mC]at i;have:l.length-(k+1)=1:=by omega
    rw[this]at i;omega
   ·by_cases B:k=j
    ·rw[B]at ht i⊢;omega
    ·have i:=aBF (l:=l.drop (k+1)) (fun y c=>o y (sK c));rw[mC]at i;have:l.length-(k+1)=1:=by omega
     rw[this]at i;omega
  refine⟨by rw[b];exact q,by rw[b];omega,?_,?_,?_,?_,⟨?_,?_,h3,A⟩,⟨?_,?_,?_,?_⟩⟩
  ·show(if false=true then 3 else 5)+iE false (l.take (Nd.cutAt ⟨false,first,l⟩))<=512
   rw[b,eA (by decide)];omega
  ·show(if false=true then 3 else 5)+iE false (l.drop (Nd.cutAt ⟨false,first,l⟩+1))<=512
   rw[b,eA (by decide)];omega
  ·show 1<=(l.take (Nd.cutAt ⟨false,first,l⟩)).length
   rw[b,jC];omega
  ·show 1<=(l.drop (Nd.cutAt ⟨false,first,l⟩+1)).length
   rw[b,mC];omega
  ·show(l.take (Nd.cutAt ⟨false,first,l⟩)).length<65536
   rw[b,jC];omega
  ·exact fun y c=>h2 y (rO c)
  ·show(l.drop (Nd.cutAt ⟨false,first,l⟩+1)).length<65536
   rw[b,mC];omega
  ·exact fun y c=>h2 y (sK c)
  ·show((l[Nd.cutAt ⟨false,first,l⟩]?).map (·.at_)).getD 0<65536
   rw[b,c];exact(h2 y (rG c)).at_
  ·intro h;cases h
def Nd.with_ (n:Nd) (key:Ky) (r:Nd):Nd:=⟨n.lf,n.first,(if n.lf then n.l else n.l++[⟨key,[],r.first⟩])++r.l⟩
section
variable {N : Nat -> Option Nd} {h : Nat} {n a b : Nd} {lo hi : Option Ky} {E E1 E2 : En} {P P1 P2 : List Nat} {k : Ky}
theorem uE(a b:List It):bC (a++b)=bC a++bC b:=by unfold bC;rw[List.map_append]
theorem NF.split(G:NF N h n lo hi E P)(Y:n.cutAt<n.l.length)(h1:1<=n.cutAt):∃E1 P1 E2 P2,NF N h n.left lo (some n.key) E1 P1/\NF N h n.right (some n.key) hi E2 P2/\E=E1++E2/\P=P1++P2/\lQ hi n.key/\zR lo n.key:=by
 obtain⟨lf,first,l⟩:=n;obtain⟨x,q⟩:∃x,l[Nd.cutAt ⟨lf,first,l⟩]? = some x:=⟨_,xD Y⟩;have H:Nd.key ⟨lf,first,l⟩=x.key:=by unfold Nd.key;rw[q];rfl
 have i:l.drop (Nd.cutAt ⟨lf,first,l⟩)=x::l.drop (Nd.cutAt ⟨lf,first,l⟩+1):=by
  obtain⟨I,J⟩:=tD.1 q;rw[zM I,J]
 have s:l=l.take (Nd.cutAt ⟨lf,first,l⟩)++x::l.drop (Nd.cutAt ⟨lf,first,l⟩+1):=by rw[<- i,bN]
 rw[H]
 cases h with
 | zero=>
  obtain⟨d,C,L,O,r⟩:=G
  simp only at d C
  subst d;obtain⟨j,g⟩:=nm (Nd.cutAt ⟨true,first,l⟩);rw[<- g]at q i s h1;have t:Nd.left ⟨true,first,l⟩=⟨true,first,l.take j⟩:=by unfold Nd.left;rw[<- g]
  have u:Nd.right ⟨true,first,l⟩=⟨true,0,l.drop j⟩:=by unfold Nd.right;simp only[mH];rw[<- g]
  rw[t,u];have c:E=bC (l.take j)++bC (l.drop j):=by rw[C,<- uE,bN]
  have m:=O;rw[c]at m;obtain⟨Q,z,T⟩:=aQ.1 m;have o:(x.key,x.v)∈bC (l.drop j):=by rw[i];exact sB ..
  have p:(x.key,x.v)∈E:=by rw[c];exact rE _ o
  refine⟨bC (l.take j),[],bC (l.drop j),[],⟨rfl,rfl,rfl,Q,fun e f=>⟨(r e (by rw[c];exact aE _ f)).1,fun b A=>?_⟩⟩,⟨rfl,rfl,rfl,z,fun e f=>⟨fun a B=>?_,(r e (by rw[c];exact rE _ f)).2⟩⟩,c,L,(r _ p).2,(r _ p).1⟩
  ·injection A with A;rw[<- A];exact T e f _ o
  ·injection B with B;rw[<- B];rw[i]at f z;rcases kB.1 f with rfl|f
   ·exact zB _
   ·exact kQ ((xE.1 z).1 e f)
 | succ h=>
  obtain⟨d,hK⟩:=G
  simp only at d hK
  subst d;obtain⟨j,g⟩:=nm (Nd.cutAt ⟨false,first,l⟩);rw[<- g]at q i s;have t:Nd.left ⟨false,first,l⟩=⟨false,first,l.take j⟩:=by unfold Nd.left;rw[<- g]
  have u:Nd.right ⟨false,first,l⟩=⟨false,x.at_,l.drop (j+1)⟩:=by unfold Nd.right;simp only[dE,qG];rw[<- g,q];rfl
  rw[t,u];have y:nD (Sub N 1 h) lo first (l.take j++x::l.drop (j+1)) hi E P:=by rw[<- s];exact hK
  obtain⟨E1,P1,E2,P2,D,F,U,V⟩:=nD.cut.1 y;obtain⟨_,W,X⟩:=nD.fine Sub.fine D;obtain⟨_,c2,c3⟩:=nD.fine Sub.fine F;exact⟨E1,P1,E2,P2,⟨rfl,D⟩,⟨rfl,F⟩,U,V,c2.midHi c3,W.mid (_hi:=hi) X⟩
theorem NF.with_(m:NF N h a lo (some k) E1 P1)(o:NF N h b (some k) hi E2 P2)(h1:lQ hi k)(h2:zR lo k):NF N h (a.with_ k b) lo hi (E1++E2) (P1++P2):=by
 obtain⟨lf,first,l⟩:=a
 cases h with
 | zero=>
  obtain⟨rfl,rfl,rfl,p,j⟩:=m;obtain⟨f,rfl,rfl,g,c⟩:=o;refine⟨rfl,?_,rfl,p.append g j c,fun e d=>?_⟩
  ·show _=bC (l++b.l)
   rw[uE]
  ·rcases pD.1 d with d|d
   ·exact aEG j h1 e d
   ·exact aEH c h2 e d
 | succ h=>
  obtain⟨rfl,hK⟩:=m;obtain⟨f,i⟩:=o;refine⟨rfl,?_⟩
  show nD (Sub N 1 h) lo first ((l++[⟨k,[],b.first⟩])++b.l) hi (E1++E2) (P1++P2)
  rw[qF];exact nD.cut.2 ⟨E1,P1,E2,P2,hK,i,rfl,rfl⟩
theorem aEI(d:a.lf=b.lf)(k:Ky):(a.with_ k b).size=if a.lf then a.size+b.size-3 else a.size+b.size+k.length-2:=by
 obtain⟨lf,first,l⟩:=a;obtain⟨f,c,l'⟩:=b
 simp only at d
 subst d
 cases lf with
 | true=>
  show 3+iE true (l++l')=3+iE true l+(3+iE true l')-3
  rw[uB];omega
 | false=>
  show 5+iE false ((l++[⟨k,[],c⟩])++l')=5+iE false l+(5+iE false l')+k.length-2
  rw[uB,uB,pC]
  show _+(_+(3+k.length+0)+_)=_
  omega
theorem aLz(f:a.ok)(i:b.ok)(j:a.lf=b.lf)(m:1<=k.length/\k.length<=96)(q:a.l.length+b.l.length<65535):(a.with_ k b).ok:=by
 obtain⟨lf,first,l⟩:=a;obtain⟨o,d,l'⟩:=b
 simp only at j q
 subst j;refine⟨?_,fun x p=>?_,f.first,f.bare⟩
 ·show((if lf then l else l++[⟨k,[],d⟩])++l').length<65536
  rw[lB]
  split
  ·omega
  ·rw[lB];simp only[LN];omega
 ·have c:x∈(if lf then l else l++[⟨k,[],d⟩])++l':=p
  show x.ok lf
  rcases pD.1 c with c|c
  ·split at c
   ·exact f.item x c
   ·rename_i g
    rcases pD.1 c with c|c
    ·exact f.item x c
    ·simp only[aB]at c;subst c;exact⟨m.1,m.2,rB _,i.first,by rw[eA g]⟩
  ·exact i.item x c
end
end
section
structure CD where
 pg:Nat->List UInt8
 n:Nat
 next:Nat
 head:Nat
 roots:Nat->Nat
 M:List (Nat×Nd)
 S:List (Nat×Nat)
 e:Nat
noncomputable def CD.N (c:CD) (k:Nat):Option Nd:=if (xF c.S k).isSome then none else match xF c.M k with|some n=>some n|none=>if 1<=k/\k<c.n then aMW (c.pg k) else none
def CD.nx (c:CD) (k:Nat):Option Nat:=match xF c.S k with|some j=>some j|none=>if (xF c.M k).isSome || !decide (k<c.n) then none else some (r16 (c.pg k))
def CD.write (c:CD) (k:Nat) (n:Nd):CD:={ c with M:=vY c.M k n,S:=aAI c.S k }
def CD.free (c:CD) (k:Nat):CD:={ c with M:=aAI c.M k,S:=vY c.S k c.head,head:=k }
def CD.full (c:CD):CD:=if c.e=0 then { c with e:=5 } else c
def CD.alloc (c:CD):CD×Nat:=if c.head≠0 then ({ c with head:=(c.nx c.head).getD 0 },c.head) else if c.next<c.n then ({ c with next:=c.next+1 },c.next) else (c.full,0)
def CD.lay (c:CD) (k:Nat) (n:Nd):CD×(Ky×Nat):=
 if n.size<=512 then (c.write k n,([],0)) else ((c.alloc.1.write k n.left).write c.alloc.2 n.right,(n.key,c.alloc.2))
def Nd.way (n:Nd) (key:Ky):Nat:=(n.l.takeWhile fun x=>!decide (klt key x.key)).length
def Nd.child (n:Nd) (k:Nat):Nat:=yM n.first (n.l.take k)
def xH (l:List It) (k:Nat) (x:It):List It:=l.take k++x::l.drop k
def pE (l:List It) (x:It):List It:=
 l.takeWhile (fun y=>decide (klt y.key x.key)) ++
  match l.dropWhile (fun y=>decide (klt y.key x.key)) with
  | y::B=>if y.key=x.key then { y with v:=x.v }::B else x::y::B
  | []=>[x]
noncomputable def aBw:Nat->CD->Nat->It->Option (CD×(Ky×Nat))
 | 0,_,_,_=>none
 | f+1,c,k,x=>
  match c.N k with
  | none=>none
  | some n=>
   if n.lf then some (c.lay k { n with l:=pE n.l x })
   else match aBw f c (n.child (n.way x.key)) x with
    | none=>none
    | some (c',u)=>if u.2=0 then some (c',([],0)) else some (c'.lay k { n with l:=xH n.l (n.way x.key) ⟨u.1,[],u.2⟩ })
def eN (nx:Nat->Option Nat):Nat->List Nat->Prop
 | h,[]=>h=0
 | h,a::F=>h=a/\∃j,nx a=some j/\eN nx j F
structure Wf (c:CD):Prop where
 rM:gI c.M
 rS:gI c.S
 mM:∀p∈c.M,1<=p.1/\p.1<c.n/\p.2.ok/\p.2.size<=512
 mS:∀p∈c.S,1<=p.1/\p.1<c.n/\p.2<65536
theorem yY{m:List (Nat×α)}{k:Nat}{p:Nat×α}(h:p∈aAI m k):p∈m:=(wI.1 h).1
theorem zY{m:List (Nat×α)}{k:Nat}{b:α}{p:Nat×α}(h:p∈vY m k b):p=(k,b)∨p∈m:=by
 unfold vY at h;rcases aDj.1 h with h|h
 ·exact .inl h
 ·exact .inr (wI.1 h).1
theorem Wf.write{c:CD}(h:Wf c){k:Nat}{n:Nd}(h1:1<=k/\k<c.n)(h2:n.ok)(h3:n.size<=512):Wf (c.write k n):=⟨h.rM.put k n,h.rS.del k,fun p b=>by
 rcases zY b with rfl|b
 ·exact⟨h1.1,h1.2,h2,h3⟩
 ·exact h.mM p b,fun p b=>h.mS p (yY b)⟩
theorem Wf.free{c:CD}(h:Wf c){k:Nat}(h1:1<=k/\k<c.n)(h2:c.head<65536):Wf (c.free k):=⟨h.rM.del k,h.rS.put k _,fun p b=>h.mM p (yY b),fun p b=>by
 rcases zY b with rfl|b
 ·exact⟨h1.1,h1.2,h2⟩
 ·exact h.mS p b⟩
structure Acc (c:CD) (U F:List Nat):Prop where
 perm:(U++F).Perm (List.range' 1 (c.next-1))
 next1:1<=c.next
 next2:c.next<=c.n
 few:c.n<=4096
 chain:eN c.nx c.head F
 wf:Wf c
structure aHU (c c':CD):Prop where
 pg:c'.pg=c.pg
 n:c'.n=c.n
 roots:c'.roots=c.roots
theorem aHU.trans{c1 c2 c3:CD}(h:aHU c1 c2)(b:aHU c2 c3):aHU c1 c3:=⟨by rw[b.pg,h.pg],by rw[b.n,h.n],by rw[b.roots,h.roots]⟩
section
variable {c c' : CD} {U U' F R P : List Nat} {k : Nat} {n : Nd}
theorem Acc.swap(h:Acc c U F)(b:U'.Perm U):Acc c U' F:=⟨(b.append_right F).trans h.perm,h.next1,h.next2,h.few,h.chain,h.wf⟩
theorem Acc.nodup(h:Acc c U F):(U++F).Nodup:=h.perm.nodup_iff.2 (List.nodup_range' ..)
theorem Acc.mem(h:Acc c U F)(b:k∈U∨k∈F):1<=k/\k<c.next:=by
 have:=(h.perm.mem_iff (a:=k)).1 (pD.2 b);rw[List.mem_range'_1]at this;have:=h.next1;omega
theorem Acc.apart(h:Acc c U F)(d:k∈U):k∉F:=fun b=>(List.nodup_append.1 h.nodup).2.2 k d k b rfl
theorem eN.congr{nx b:Nat->Option Nat}:∀ {F:List Nat} {h:Nat},eN nx h F->(∀k∈F,b k=nx k)->eN b h F
 | [],_,h,_=>h
 | a::F,_,⟨h1,j,h2,h3⟩,hn=>⟨h1,j,by rw[hn a (sB ..)];exact h2,eN.congr h3 (fun k d=>hn k (uC _ d))⟩
theorem pF(j:Nat):(c.write k n).N j=if j=k then some n else c.N j:=by
 unfold CD.N CD.write
 simp only
 rw[wY,nU]
 by_cases h:j=k
 ·rw[iA h,iA h,iA h];rfl
 ·rw[eA h,eA h,eA h]
theorem aOI{j:Nat}(h:j≠k):(c.write k n).nx j=c.nx j:=by
 unfold CD.nx CD.write
 simp only
 rw[nU,wY,eA h,eA h]
theorem aOJ{j:Nat}(h:j≠k):(c.free k).N j=c.N j:=by
 unfold CD.N CD.free
 simp only
 rw[nU,wY,eA h,eA h]
theorem aLA(j:Nat):(c.free k).nx j=if j=k then some c.head else c.nx j:=by
 unfold CD.nx CD.free
 simp only
 rw[wY,nU]
 by_cases h:j=k
 ·simp[h]
 ·simp[h]
theorem Acc.head(h:Acc c U F):c.head<65536:=by
 cases F with
 | nil=>have:c.head=0:=h.chain;omega
 | cons a F=>
  have h1:=h.chain.1;have:=(h.mem (k:=a) (.inr (sB ..))).2;have:=h.next2;have:=h.few;omega
theorem Acc.write(h:Acc c U F)(d:k∈U)(b:n.ok)(g:n.size<=512):Acc (c.write k n) U F:=
 ⟨h.perm,h.next1,h.next2,h.few,h.chain.congr fun j f=>aOI fun(e:j=k)=>h.apart d (e▸f),h.wf.write (by have:=h.mem (.inl d);have:=h.next2;omega) b g⟩
theorem Acc.free(h:Acc c (k::U) F):Acc (c.free k) U (k::F):=by
 refine⟨?_,h.next1,h.next2,h.few,⟨rfl,c.head,by rw[aLA,iA rfl],?_⟩,h.wf.free (by have:=h.mem (k:=k) (.inl (sB ..));have:=h.next2;omega) h.head⟩
 ·refine List.Perm.trans ?_ h.perm;exact List.perm_middle
 ·refine h.chain.congr fun j b=>?_;rw[aLA,eA fun(e:j=k)=>h.apart (k:=k) (sB ..) (e▸b)]
theorem aZ(h:Acc c U F)(f:c.e=0):
  (c.alloc.2≠0/\c.alloc.1.e=0/\aHU c c.alloc.1/\c.alloc.1.M=c.M/\c.alloc.1.S=c.S/\∃F',Acc c.alloc.1 (c.alloc.2::U) F') ∨
  (c.alloc.2=0/\c.alloc.1={ c with e:=5 }/\F=[]/\c.next=c.n):=by
 unfold CD.alloc
 by_cases b:c.head≠0
 ·rw[iA b]
  left
  cases F with
  | nil=>exact absurd h.chain b
  | cons a F=>
   obtain⟨h1,j,h2,h3⟩:=h.chain;refine⟨b,f,⟨rfl,rfl,rfl⟩,rfl,rfl,F,?_,h.next1,h.next2,h.few,?_,⟨h.wf.rM,h.wf.rS,h.wf.mM,h.wf.mS⟩⟩
   ·refine List.Perm.trans ?_ h.perm
    simp only
    rw[h1];exact List.perm_middle.symm
   ·show eN c.nx ((c.nx c.head).getD 0) F
    rw[h1,h2];exact h3
 ·rw[eA b]
  have i:F=[]:=by
   cases F with
   | nil=>rfl
   | cons a F=>
    exfalso
    have:=(h.mem (k:=a) (.inr (sB ..))).1;have:=h.chain.1;omega
  subst i
  by_cases d:c.next<c.n
  ·rw[iA d]
   left
   have h1:=h.next1;refine⟨by show c.next≠0;omega,f,⟨rfl,rfl,rfl⟩,rfl,rfl,[],?_,by show 1<=c.next+1;omega,d,h.few,h.chain,⟨h.wf.rM,h.wf.rS,h.wf.mM,h.wf.mS⟩⟩;have g:=h.perm;rw[dI]at g⊢
   show(c.next::U).Perm (List.range' 1 (c.next+1-1))
   have e:List.range' 1 (c.next+1-1)=List.range' 1 (c.next-1)++[c.next]:=by
    rw[show c.next+1-1=(c.next-1)+1 by omega,List.range'_concat,show 1+1*(c.next-1)=c.next by omega]
   rw[e];exact(g.cons _).trans (List.perm_append_singleton ..).symm
  ·rw[eA d]
   right
   have:=h.next2;refine⟨rfl,?_,rfl,by omega⟩;unfold CD.full;rw[iA f]
end
def Res (N:Nat->Option Nd) (m h at_:Nat) (lo hi:Option Ky) (E:En) (u:Ky×Nat) (P:List Nat):Prop:=
 (u.2=0/\Sub N m h at_ lo hi E P) ∨
 (u.2≠0/\1<=u.1.length/\u.1.length<=96/\zR lo u.1/\lQ hi u.1/\∃E1 P1 E2 P2,Sub N 1 h at_ lo (some u.1) E1 P1/\Sub N 1 h u.2 (some u.1) hi E2 P2/\E=E1++E2/\P=P1++P2)
def aHV (c c':CD) (m h at_:Nat) (lo hi:Option Ky) (E:En) (u:Ky×Nat) (R:List Nat):Prop:=
 aHU c c'/\((c'.e=0/\∃P F,Acc c' (P++R) F/\(∀p∈R,c'.N p=c.N p)/\Res c'.N m h at_ lo hi E u P)∨(c'.e=5/\u.2=0/\(∀p∈R,c'.N p=c.N p)/\(∃n,c'.N at_=some n)/\c.n<=2*E.length+R.length))
section
variable {c c' : CD} {U F R P : List Nat} {k m h : Nat} {n : Nd} {lo hi : Option Ky} {E : En}
theorem aDk(J:NF c.N h n lo hi E P)(r:Acc c (k::P++R) F)(he:c.e=0)(i:n.ok)(hs:n.size<=if n.lf then 680 else 780)(hm:m<=n.l.length):
  aHV c (c.lay k n).1 m h k lo hi E (c.lay k n).2 R:=by
 have C:=r.nodup;have a0:k∉F:=r.apart (k:=k) (aE _ (sB ..))
 have f:k∉P/\k∉R:=by
  have h1:=(List.nodup_append.1 C).1;rw[zI,List.nodup_cons,pD]at h1;exact⟨fun h=>h1.1 (.inl h),fun h=>h1.1 (.inr h)⟩
 unfold CD.lay
 by_cases g:n.size<=512
 ·rw[iA g];refine⟨⟨rfl,rfl,rfl⟩,.inl ⟨he,k::P,F,r.write (by simp) i g,fun p b=>?_,.inl ⟨rfl,n,P,?_,i,g,hm,rfl,J.congr fun p b=>?_⟩⟩⟩
  ·rw[pF,eA fun(e:p=k)=>f.2 (e▸b)]
  ·rw[pF,iA rfl]
  ·rw[pF,eA fun(e:p=k)=>f.1 (e▸b)]
 ·rw[eA g];obtain⟨O,s2,Q,T,s5,s6,V,W⟩:=Nd.split_ok i (by omega) hs;obtain⟨x,X⟩:∃x,n.l[n.cutAt]? = some x:=⟨_,xD O⟩;have j:n.key=x.key:=by unfold Nd.key;rw[X];rfl
  have u:=i.item x (rG X);obtain⟨E1,P1,E2,P2,n1,n2,rfl,rfl,hh,hl⟩:=J.split O s2;rcases aZ r he with ⟨z,A,q,B,Y,I,s⟩|⟨z,A,q,B⟩
  ·have o:=s.nodup;obtain⟨t,ht⟩:=nm (c.alloc.2);obtain⟨d,Z⟩:=nm (c.alloc.1);rw[<- ht,<- Z];rw[<- ht]at z s o;rw[<- Z]at A q B Y s;have D:∀p,d.N p=c.N p:=fun p=>by unfold CD.N;rw[B,Y,q.n,q.pg]
   have a1:t∉I:=s.apart (k:=t) (sB ..);have L:k∉I:=s.apart (k:=k) (uC _ (aE _ (sB ..)))
   have v:t∉k::(P1++P2)++R:=by
    have h1:=(List.nodup_append.1 o).1;exact(List.nodup_cons.1 h1).1
   have G:t≠k:=fun e=>v (by rw[e];exact aE _ (sB ..))
   have H:∀p,p∈P1∨p∈P2∨p∈R->((d.write k n.left).write t n.right).N p=c.N p:=fun p b=>by
    have h1:p≠t:=fun e=>v (by
     rw[<- e];rcases b with b|b|b
     ·exact aE _ (uC _ (aE _ b))
     ·exact aE _ (uC _ (rE _ b))
     ·exact rE _ b)
    have h2:p≠k:=fun e=>by
     rw[e]at b;rcases b with b|b|b
     ·exact f.1 (aE _ b)
     ·exact f.1 (rE _ b)
     ·exact f.2 b
    rw[pF,eA h1,pF,eA h2,D]
   refine⟨⟨q.pg,q.n,q.roots⟩,.inl ⟨A,(k::P1)++(t::P2),I,((s.write (by simp) V Q).write (by simp) W T).swap ?_,fun p b=>H p (.inr (.inr b)),.inr ⟨z,by rw[j];exact u.k1,by rw[j];exact u.k2,hl,hh,E1,k::P1,E2,t::P2,?_,?_,rfl,rfl⟩⟩⟩
   ·rw[aL];intro a;simp only[zJ,eK];omega
   ·exact⟨n.left,P1,by rw[pF,eA (Ne.symm G),pF,iA rfl],V,Q,s5,rfl,n1.congr fun p b=>H p (.inl b)⟩
   ·exact⟨n.right,P2,by rw[pF,iA rfl],W,T,s6,rfl,n2.congr fun p b=>H p (.inr (.inl b))⟩
  ·have y:c.n<=2*(E1++E2).length+R.length:=by
    have hq:=(J.count (by omega)).1;have b:=r.perm.length_eq;rw[q,B,List.length_range',dI,lB,gD]at b;have:=r.next1;omega
   rw[z,A]
   have h0:k≠0:=by
    have:=(r.mem (k:=k) (.inl (aE _ (sB ..)))).1;omega
   refine⟨⟨rfl,rfl,rfl⟩,.inr ⟨rfl,rfl,fun p b=>?_,⟨n.left,?_⟩,y⟩⟩
   ·have h1:=(r.mem (k:=p) (.inl (rE _ b))).1;have h2:p≠k:=fun e=>f.2 (e▸b);rw[pF,eA (by omega),pF,eA h2]
    rfl
   ·rw[pF,eA h0,pF,iA rfl]
end
def uH (E:En) (k:Ky) (v:List UInt8):En:=E.filter (fun e=>decide (klt e.1 k))++(k,v)::E.filter (fun e=>decide (klt k e.1))
def cH (E:En) (k:Ky):En:=E.filter fun e=>!decide (e.1=k)
theorem pU{EA E0 EB:En}{k:Ky}{v:List UInt8}(h1:∀e∈EA,klt e.1 k)(h2:∀e∈EB,klt k e.1):uH (EA++(E0++EB)) k v=EA++(uH E0 k v++EB):=by
 have c:EA.filter (fun e=>decide (klt e.1 k))=EA:=List.filter_eq_self.2 fun e b=>by simpa using h1 e b
 have d:EA.filter (fun e=>decide (klt k e.1))=[]:=List.filter_eq_nil_iff.2 fun e b=>by simpa using kQ (h1 e b)
 have f:EB.filter (fun e=>decide (klt e.1 k))=[]:=List.filter_eq_nil_iff.2 fun e b=>by simpa using kQ (h2 e b)
 have g:EB.filter (fun e=>decide (klt k e.1))=EB:=List.filter_eq_self.2 fun e b=>by simpa using h2 e b
 unfold uH;rw[List.filter_append,List.filter_append,List.filter_append,List.filter_append,c,d,f,g]
 simp
theorem aHW{EA E0 EB:En}{k:Ky}(h1:∀e∈EA,klt e.1 k)(h2:∀e∈EB,klt k e.1):cH (EA++(E0++EB)) k=EA++(cH E0 k++EB):=by
 have d:EA.filter (fun e=>!decide (e.1=k))=EA:=List.filter_eq_self.2 fun e b=>by
  have:=h1 e b;simp only[wW,qK];exact fun c=>zB k (by rw[c]at this;exact this)
 have f:EB.filter (fun e=>!decide (e.1=k))=EB:=List.filter_eq_self.2 fun e b=>by
  have:=h2 e b;simp only[wW,qK];exact fun c=>zB k (by rw[c]at this;exact this)
 unfold cH;rw[List.filter_append,List.filter_append,d,f]
theorem gJ{p:α->Bool}:∀ {l:List α} {x:α} {B:List α},l.dropWhile p=x::B->p x=false
 | [],_,_,h=>by cases h
 | y::l,x,B,h=>by
  by_cases b:p y
  ·rw[List.dropWhile_cons_of_pos b]at h;exact gJ h
  ·rw[List.dropWhile_cons_of_neg b]at h;injection h with h _;rw[<- h];simpa using b
theorem sI{p:α->Bool}:∀ {l:List α},∀x∈l.takeWhile p,p x=true
 | [],x,h=>by cases h
 | y::l,x,h=>by
  by_cases b:p y
  ·rw[List.takeWhile_cons_of_pos b]at h;rcases kB.1 h with rfl|h
   ·exact b
   ·exact sI x h
  ·rw[List.takeWhile_cons_of_neg b]at h;cases h
theorem aHX{l:List It}{x:It}(q:tH (bC l)):bC (pE l x)=uH (bC l) x.key x.v:=by
 obtain⟨A,j⟩:=nm (l.takeWhile fun y=>decide (klt y.key x.key));obtain⟨D,m⟩:=nm (l.dropWhile fun y=>decide (klt y.key x.key));have o:l=A++D:=by rw[j,m,pP]
 have h1:∀e∈bC A,klt e.1 x.key:=fun e b=>by
  obtain⟨y,i,rfl⟩:=cI.1 b;rw[j]at i
  simpa using sI y i
 unfold pE;rw[<- j,<- m];rw[o,uE]at q;obtain⟨_,p,_⟩:=aQ.1 q;rw[o,uE,uE]
 have r:uH (bC A++bC D) x.key x.v=bC A++uH (bC D) x.key x.v:=by
  have:=pU (EA:=bC A) (E0:=bC D) (EB:=[]) (k:=x.key) (v:=x.v) h1 (fun e b=>by cases b)
  simpa using this
 rw[r]
 congr 1
 cases c:D with
 | nil=>rfl
 | cons y B=>
  have i:¬ klt y.key x.key:=by
   rw[m]at c
   simpa using gJ c
  rw[c]at p;have d:=(xE.1 p).1
  simp only
  by_cases g:y.key=x.key
  ·rw[iA g];have h2:∀e∈bC B,klt x.key e.1:=fun e b=>by rw[<- g];exact d e b
   show(y.key,x.v)::bC B=uH ((y.key,y.v)::bC B) x.key x.v
   have:=pU (EA:=[]) (E0:=[(y.key,y.v)]) (EB:=bC B) (k:=x.key) (v:=x.v) (fun e b=>by cases b) h2;simp only[eH,List.singleton_append]at this;rw[this,g]
   simp[uH,zB]
  ·rw[eA g]
   have f:klt x.key y.key:=by
    by_cases h:klt x.key y.key
    ·exact h
    ·exact absurd (wO i h) g
   have h2:∀e∈bC (y::B),klt x.key e.1:=fun e b=>by
    rcases kB.1 b with rfl|b
    ·exact f
    ·exact vD f (d e b)
   have:=pU (EA:=[]) (E0:=[]) (EB:=bC (y::B)) (k:=x.key) (v:=x.v) (fun e b=>by cases b) h2;simp only[eH]at this;rw[this]
   rfl
theorem aBh{l:List It}{x y:It}(b:y∈pE l x):y=x∨y∈l∨∃z∈l,y={ z with v:=x.v }:=by
 unfold pE at b;rcases pD.1 b with b|b
 ·exact .inr (.inl ((List.takeWhile_sublist _).mem b))
 ·split at b
  ·rename_i z B f
   have c:∀q,q∈z::B->q∈l:=fun q d=>by rw[<- f]at d;exact(List.dropWhile_sublist _).mem d
   split at b
   ·rcases kB.1 b with rfl|b
    ·exact .inr (.inr ⟨z,c z (sB ..),rfl⟩)
    ·exact .inr (.inl (c y (uC _ b)))
   ·rcases kB.1 b with rfl|b
    ·exact .inl rfl
    ·exact .inr (.inl (c y b))
  ·rw[aB]at b;exact .inl b
theorem bZ{l:List It}{x:It}(b:x.ok true)(_f:∀y∈l,y.ok true):iE true (pE l x)<=iE true l+162/\(pE l x).length<=l.length+1/\1<=(pE l x).length:=by
 have h:=aGy b;rw[iA rfl]at h;have c:iE true l=iE true (l.takeWhile fun y=>decide (klt y.key x.key))+iE true (l.dropWhile fun y=>decide (klt y.key x.key)):=by rw[<- uB,pP]
 have d:l.length=(l.takeWhile fun y=>decide (klt y.key x.key)).length+(l.dropWhile fun y=>decide (klt y.key x.key)).length:=by rw[<- lB,pP]
 unfold pE;rw[c,uB,lB,d]
 cases i:l.dropWhile fun y=>decide (klt y.key x.key) with
 | nil=>
  simp only[pC,gD,List.length_nil];have:iE true []=0:=rfl;omega
 | cons y B=>
  simp only
  split
  ·simp only[pC,gD];have g:=b.v;have:ibn true { y with v:=x.v }<=ibn true y+64:=by unfold ibn;simp only[mH];omega
   omega
  ·simp only[pC,gD];omega
theorem nQ{n:Nd}{key:Ky}{lo hi:Option Ky}(h1:zR lo key)(h2:lQ hi key):
  ∃A B,n.l=A++B/\A.length=n.way key/\n.l.take (n.way key)=A/\n.l.drop (n.way key)=B/\zR (mQ lo A) key/\lQ (uV hi B) key:=by
 obtain⟨A,g⟩:=nm (n.l.takeWhile fun x=>!decide (klt key x.key));obtain⟨B,j⟩:=nm (n.l.dropWhile fun x=>!decide (klt key x.key));have d:n.l=A++B:=by rw[g,j,pP]
 have f:n.way key=A.length:=by rw[g];rfl
 refine⟨A,B,d,f.symm,by rw[f,d,rK],by rw[f,d,aN],?_,?_⟩
 ·have:∀x∈A,¬ klt key x.key:=fun x k=>by rw[g]at k;simpa using sI x k
  clear g d f
  induction A generalizing lo with
  | nil=>exact h1
  | cons x A o=>
   refine o (lo:=some x.key) (fun a h=>?_) (fun y m=>this y (uC _ m));injection h with h;rw[<- h];exact this x (sB ..)
 ·cases c:B with
  | nil=>exact h2
  | cons x p=>
   intro b i;injection i with i;rw[<- i];rw[j]at c
   simpa using gJ c
theorem kX{S:oU}(g:aGx S){A B:List It}{lo hi:Option Ky}{c:Nat}{EA _E0 EB:En}{PA PB:List Nat}{k:Ky}(j:bH S lo c A EA PA)(l:gL S B hi EB PB)(m:A.Pairwise fun x y=>klt x.key y.key)
 (h1:zR (mQ lo A) k)(h2:lQ (uV hi B) k):(∀e∈EA,klt e.1 k)/\∀e∈EB,klt k e.1:=by
 refine⟨fun e f=>?_,fun e f=>?_⟩
 ·obtain⟨a,h,d⟩:=bH.less g j m e f;exact jV d (h1 a h)
 ·obtain⟨b,i,d⟩:=gL.more g l e f;exact jV (h2 b i) d
theorem aGz:∀(h:Nat) {f:Nat} {c:CD} {k:Nat} {lo hi:Option Ky} {E:En} {P R F:List Nat} {x:It},h<f->Sub c.N 1 h k lo hi E P->Acc c (P++R) F->c.e=0->x.ok true->zR lo x.key->lQ hi x.key ->
  ∃c' u,aBw f c k x=some (c',u)/\aHV c c' 1 h k lo hi (uH E x.key x.v) u R
 | 0,f,c,k,lo,hi,E,P,R,F,x,hf,hs,ha,o,hx,h1,h2=>by
  obtain⟨f,rfl⟩:∃g,f=g+1:=⟨f-1,by omega⟩;obtain⟨n,O,Y,i,I,hm,rfl,d,rfl,rfl,hr,hw⟩:=hs;have H:∀y∈n.l,y.ok true:=fun y r=>by have:=i.item y r;rwa [d]at this
  obtain⟨z1,z2,z3⟩:=bZ hx H;have b3:n.size=3+iE true n.l:=by rw[jE,d];rfl
  have U:Nd.size { n with l:=pE n.l x }=3+iE true (pE n.l x):=by rw[jE];simp only[d];rfl
  have b1:n.l.length<=509:=by
   have:∀l:List It,(∀y∈l,y.ok true)->l.length<=iE true l:=fun l s=>by
    induction l with
    | nil=>exact rB _
    | cons y l ih=>
     have:=ih (fun q hq=>s q (uC _ hq));rw[pC,gD];unfold ibn;simp only[mH];omega
   have:=this n.l H;omega
  have key:NF c.N 0 { n with l:=pE n.l x } lo hi (uH (bC n.l) x.key x.v) []:=by
   have hE:=aHX (x:=x) hr;refine⟨d,hE.symm,rfl,?_,fun e o=>?_⟩
   ·unfold uH;refine aQ.2 ⟨hr.filter _,xE.2 ⟨fun e o=>by simpa using(wI.1 o).2,hr.filter _⟩,fun a ha b hb=>?_⟩;have a1:klt a.1 x.key:=by simpa using(wI.1 ha).2
    rcases kB.1 hb with rfl|hb
    ·exact a1
    ·exact vD a1 (by simpa using(wI.1 hb).2)
   ·unfold uH at o;rcases pD.1 o with o|o
    ·exact hw e (wI.1 o).1
    ·rcases kB.1 o with rfl|o
     ·exact⟨h1,h2⟩
     ·exact hw e (wI.1 o).1
  have s:=aDk (m:=1) key (R:=R) (F:=F) ha o (k:=k) ⟨by show(pE n.l x).length<65536;omega,fun y r=>?_,i.first,i.bare⟩ (by rw[U];simp only[d,mH];omega) z3
  ·refine⟨_,_,?_,s⟩;unfold aBw;rw[Y]
   simp only
   rw[iA d]
  ·show y.ok n.lf
   rw[d];rcases aBh r with rfl|r|⟨z,hz,rfl⟩
   ·exact hx
   ·exact H y r
   ·have q:=H z hz;exact⟨q.k1,q.k2,hx.v,q.at_,by simpa using q.bare⟩
 | h+1,f,c,k,lo,hi,E,P,R,F,x,hf,hs,ha,o,hx,h1,h2=>by
  obtain⟨f,rfl⟩:∃g,f=g+1:=⟨f-1,by omega⟩;obtain⟨n,O,Y,i,I,hm,rfl,d,hK⟩:=hs;obtain⟨A,B,s,b4,Z,a',g1,g2⟩:=nQ (n:=n) h1 h2;have t:=(nD.keys Sub.fine hK).1;rw[s]at hK t;have a4:=(aQ.1 t).1;obtain⟨EA,PA,E0,P0,EB,PB,kL,k0,kR,rfl,rfl⟩:=nD.focus.1 hK;obtain⟨q1,q2⟩:=kX Sub.fine kL kR (_E0:=E0) a4 g1 g2;have a5:n.child (n.way x.key)=yM n.first A:=by unfold Nd.child;rw[Z]
  have a6:Acc c (P0++(k::(PA++PB)++R)) F:=ha.swap (by
   rw[aL];intro a;simp only[zJ,eK];omega)
  obtain⟨c',u,ep,sm,C⟩:=aGz h (f:=f) (by omega) k0 a6 o hx g1 g2
  have a7:aBw (f+1) c k x=if u.2=0 then some (c',([],0)) else some (c'.lay k { n with l:=A++⟨u.1,[],u.2⟩::B }):=by
   unfold aBw;rw[Y]
   simp only
   rw[eA (by rw[d];decide),a5,ep]
   simp only
   unfold xH;rw[Z,a']
  rw[a7];rcases C with ⟨e0,Pn,Fn,D,T,C⟩|⟨e5,u0,T,_,a0⟩
  ·have a8:c'.N k=some n:=by rw[T k (aE _ (sB ..))];exact Y
   have mono:∀ {Q:List Nat},(∀p∈Q,p∈PA∨p∈PB)->∀cc lo hi E O,(∀p∈O,p∈Q)->Sub c.N 1 h cc lo hi E O->Sub c'.N 1 h cc lo hi E O:=fun hQ cc lo hi E O hP G=>
    G.congr fun p j=>T p (aE _ (uC _ (pD.2 (hQ p (hP p j)))))
   have V:=bH.mono (mono (Q:=PA) (fun p j=>.inl j)) (fun p j=>j) kL;have W:=gL.mono (mono (Q:=PB) (fun p j=>.inr j)) (fun p j=>j) kR;have J:∀p∈R,c'.N p=c.N p:=fun p j=>T p (rE _ j);rw[pU q1 q2];rcases C with ⟨u0,G⟩|⟨u0,u1,u2,u3,u4,E1,P1,E2,P2,s1,s2,eE,rfl⟩
   ·rw[iA u0];refine⟨c',([],0),rfl,sm,.inl ⟨e0,k::(PA++(Pn++PB)),Fn,D.swap ?_,J,.inl ⟨rfl,n,PA++(Pn++PB),a8,i,I,hm,rfl,d,?_⟩⟩⟩
    ·rw[aL];intro a;simp only[zJ,eK];omega
    ·rw[s];exact nD.focus.2 ⟨EA,PA,_,Pn,EB,PB,V,G,W,rfl,rfl⟩
   ·rw[eA u0]
    have hu:u.2<65536:=by
     have:=(D.mem (k:=u.2) (.inl (aE _ (rE _ s2.head)))).2;have:=D.next2;have:=D.few;omega
    have a9:NF c'.N (h+1) { n with l:=A++⟨u.1,[],u.2⟩::B } lo hi (EA++(uH E0 x.key x.v++EB)) (PA++((P1++P2)++PB)):=by
     refine⟨d,?_⟩;rw[eE];exact nD.focus2.2 ⟨EA,PA,E1,P1,E2,P2,EB,PB,V,s1,s2,W,rfl,rfl⟩
    have X:Nd.size { n with l:=A++⟨u.1,[],u.2⟩::B }=n.size+(3+u.1.length):=by
     rw[jE,jE,s,uB,uB,pC];simp only[ibn,d,dE,qG];omega
    have b2:n.l.length<=507:=by
     have:∀l:List It,l.length<=iE false l:=fun l=>by
      induction l with
      | nil=>exact rB _
      | cons y l ih=>rw[pC,gD];unfold ibn;simp only[dE,qG];omega
     have:=this n.l;rw[jE,d]at I;simp only[dE,qG]at I;omega
    have L:=aDk (m:=1) a9 (R:=R) (F:=Fn) (k:=k) (D.swap (by
     rw[aL];intro a;simp only[zJ,eK]
     omega)) e0 ⟨by
      show(A++⟨u.1,[],u.2⟩::B).length<65536
      have:n.l.length=A.length+B.length:=by rw[s,lB]
      rw[lB,gD];omega,fun y r=>by
      show y.ok n.lf
      rcases pD.1 r with r|r
      ·exact i.item y (by rw[s];exact aE _ r)
      ·rcases kB.1 r with rfl|r
       ·exact⟨u1,u2,rB _,hu,by rw[d];rfl⟩
       ·exact i.item y (by rw[s];exact rE _ r),i.first,i.bare⟩
     (by rw[X];simp only[d,dE,qG];omega) (by show 1<=(A++_::B).length;rw[lB,gD];omega)
    obtain⟨b0,L⟩:=L;refine⟨_,_,rfl,sm.trans b0,?_⟩;rcases L with ⟨z0,Pz,Fz,z1,z2,z3⟩|z
    ·exact .inl ⟨z0,Pz,Fz,z1,fun p j=>(z2 p j).trans (J p j),z3⟩
    ·exact .inr ⟨z.1,z.2.1,fun p j=>(z.2.2.1 p j).trans (J p j),z.2.2.2.1,by rw[<- sm.n];exact z.2.2.2.2⟩
  ·rw[iA u0]
   exact⟨c',([],0),rfl,sm,.inr ⟨e5,rfl,fun p j=>T p (rE _ j),⟨n,by rw[T k (aE _ (sB ..))];exact Y⟩,by
    have a1:=bH.count (fun c lo hi E P h=>(Sub.count h).1) kL;have a2:=gL.count (fun c lo hi E P h=>(Sub.count h).1) kR;have a3:n.l.length=A.length+B.length:=by rw[s,lB]
    rw[pU q1 q2];simp only[lB,gD]at a0⊢;omega⟩⟩
end
end Go.Proofs.YtebjhcjbfaaejaaGreatDoor
