/-
  Joined: Ba Bb Bc Bd
-/
import Derived.Test.YtebjhcjbfaaejaaGreatDoorJca20
set_option maxRecDepth 100000
set_option maxHeartbeats 32000000
namespace Go.Proofs.YtebjhcjbfaaejaaGreatDoor
open Go.Proofs.Tryz
variable {n i:Nat}{y:Ky}{α:Type}{O:PgM}
section
theorem aPt(a b:UInt8)(x y:Ky):Lib.compareBytes (a::x) (b::y)=if a<b then -1 else if b<a then 1 else Lib.compareBytes x y:=rfl
theorem pJ{a b:UInt8}{x y:Ky}:klt (a::x) (b::y)↔a.toNat<b.toNat∨a=b/\klt x y:=by
 unfold klt;rw[aPt]
 by_cases h1:a<b
 ·rw[iA h1];exact⟨fun _=>.inl (UInt8.lt_iff_toNat_lt.1 h1),fun _=>by decide⟩
 ·rw[eA h1];have c:¬ a.toNat<b.toNat:=fun h=>h1 (UInt8.lt_iff_toNat_lt.2 h)
  by_cases h2:b<a
  ·rw[iA h2];refine⟨fun h=>absurd h (by decide),fun h=>?_⟩;rcases h with h|⟨rfl,_⟩
   ·exact absurd h c
   ·exact absurd h2 (UInt8.lt_irrefl _)
  ·rw[eA h2];have e:a=b:=UInt8.le_antisymm (UInt8.not_lt.1 h2) (UInt8.not_lt.1 h1);exact⟨fun h=>.inr ⟨e,h⟩,fun h=>h.elim (fun h=>absurd h c) And.right⟩
theorem mZ(b:UInt8)(y:Ky):klt [] (b::y):=by unfold klt Lib.compareBytes;decide
theorem jM:∀y:Ky,¬ klt y []
 | []=>zB _
 | _::_=>by unfold klt Lib.compareBytes;decide
theorem aKN(p:Ky){x y:Ky}:klt (p++x) (p++y)↔klt x y:=by
 induction p with
 | nil=>rfl
 | cons a p b=>
  rw[zI,zI,pJ,b];exact⟨fun h=>h.elim (fun h=>absurd h (dR _)) And.right,fun h=>.inr ⟨rfl,h⟩⟩
theorem lO{a b:UInt8}{x y:Ky}:(a::x) <+: (b::y)↔a=b/\x <+: y:=List.cons_prefix_cons
theorem nZ(a:UInt8)(k:Ky):aft (a::k)=if aft k=[] then (if a=255 then [] else [a+1]) else a::aft k:=rfl
theorem aIy:∀ {k x:Ky},aft k=[]->(¬ klt x k↔k <+: x)
 | [],x,_=>⟨fun _=>List.nil_prefix,fun _=>jM x⟩
 | a::k,x,h=>by
  have h2:aft k=[]/\a=255:=by
   unfold aft at h
   by_cases h1:aft k=[]
   ·rw[iA h1]at h
    by_cases f:a=255
    ·exact⟨h1,f⟩
    ·rw[eA f]at h;cases h
   ·rw[eA h1]at h;cases h
  obtain⟨h1,rfl⟩:=h2
  cases x with
  | nil=>exact⟨fun h=>absurd (mZ _ _) h,fun h=>by cases List.prefix_nil.1 h⟩
  | cons b x=>
   have g:=aIy (x:=x) h1;rw[pJ,lO,<- g];have i:=b.toNat_lt;have d:(255:UInt8).toNat=255:=rfl
   constructor
   ·intro h
    have:b=255:=gR.1 (by
     have h3:¬ b.toNat<(255:UInt8).toNat:=fun c=>h (.inl c);omega)
    exact⟨this.symm,fun c=>h (.inr ⟨this,c⟩)⟩
   ·rintro⟨rfl,h⟩ c;rcases c with c|⟨_,c⟩
    ·exact absurd c (dR _)
    ·exact h c
theorem aLY:∀ {k x:Ky},aft k≠[]->(¬ klt x k/\klt x (aft k)↔k <+: x)
 | [],_,h=>absurd rfl h
 | a::k,x,h=>by
  cases x with
  | nil=>exact⟨fun h=>absurd (mZ _ _) h.1,fun h=>by cases List.prefix_nil.1 h⟩
  | cons b x=>
   by_cases h1:aft k=[]
   ·by_cases g:a=255
    ·exact absurd (by rw[nZ,iA h1,iA g]) h
    ·have e:aft (a::k)=[a+1]:=by rw[nZ,iA h1,eA g]
     have f:(a+1).toNat=a.toNat+1:=by
      have h3:=a.toNat_lt;have c:a.toNat≠255:=fun h=>g (gR.1 h);rw[UInt8.toNat_add,show(1:UInt8).toNat=1 from rfl];omega
     rw[e,pJ,pJ,lO,<- aIy h1,f]
     constructor
     ·rintro⟨h3,c⟩
      have d:b.toNat<=a.toNat:=by
       rcases c with c|⟨_,c⟩
       ·omega
       ·exact absurd c (jM _)
      have:b=a:=gR.1 (by
       have:¬ b.toNat<a.toNat:=fun h=>h3 (.inl h);omega)
      exact⟨this.symm,fun j=>h3 (.inr ⟨this,j⟩)⟩
     ·rintro⟨rfl,h3⟩;refine⟨fun c=>?_,.inl (by omega)⟩;rcases c with c|⟨_,c⟩
      ·exact absurd c (dR _)
      ·exact h3 c
   ·have e:aft (a::k)=a::aft k:=by rw[nZ,eA h1]
    have i:=aLY (x:=x) h1;rw[e,pJ,pJ,lO,<- i]
    constructor
    ·rintro⟨h3,c⟩;rcases c with c|⟨rfl,c⟩
     ·exact absurd (.inl c) h3
     ·exact⟨rfl,fun d=>h3 (.inr ⟨rfl,d⟩),c⟩
    ·rintro⟨rfl,h3,c⟩;refine⟨fun d=>?_,.inr ⟨rfl,c⟩⟩;rcases d with d|⟨_,d⟩
     ·exact absurd d (dR _)
     ·exact h3 d
theorem aQK{k:Ky}(h:aft k≠[])(e:Ky×List UInt8):inB k (some (aft k)) e=k.isPrefixOf e.1:=by
 rw[jT,List.isPrefixOf_iff_prefix,<- aLY h];unfold inB iN
 simp
theorem aIz(n:Nat):(UInt8.ofNat n).toNat=n%256:=yN ..
theorem aKO{n m:Nat}(h:n<m)(c:m<4294967296)(x y:Ky):klt (be4 n++x) (be4 m++y):=by
 unfold be4;simp only[zI,eH,pJ,<- gR,aIz];have e1:n / 16777216<256:=by omega
 have b:m / 16777216<256:=by omega
 rw[pK e1,pK b]
 by_cases h1:n / 16777216<m / 16777216
 ·exact .inl h1
 ·refine .inr ⟨by omega,?_⟩
  by_cases h2:n / 65536%256<m / 65536%256
  ·exact .inl h2
  ·refine .inr ⟨by omega,?_⟩
   by_cases h3:n / 256%256<m / 256%256
   ·exact .inl h3
   ·exact .inr ⟨by omega,.inl (by omega)⟩
theorem aLZ{n m:Nat}(b:n<4294967296)(c:m<4294967296)(h:be4 n=be4 m):n=m:=by
 rcases Nat.lt_trichotomy n m with h1|h1|h1
 ·have:=aKO h1 c [] [];rw[h]at this;exact absurd this (zB _)
 ·exact h1
 ·have:=aKO h1 b [] [];rw[h]at this;exact absurd this (zB _)
theorem oV(s:Ky)(a:Nat)(l:List Nat):nB s (a::l)=nmK s++(wK a++l.flatMap wK):=rfl
theorem nL(s:Ky):nmK s=nB s []:=by unfold nB;simp
theorem zK(s:Ky)(l m:List Nat):nB s (l++m)=nB s l++m.flatMap wK:=by unfold nB;rw[qP,qF]
theorem aDM{r:Ky}(b:aft r≠[]):∀p:Ky,aft (p++r)=p++aft r
 | []=>rfl
 | a::p=>by
  show aft (a::(p++r))=a::(p++aft r)
  rw[nZ,aDM b p,eA (by simp[b])]
theorem pV(s:Ky)(l:List Nat):aft (nB s l)≠[]:=by
 have h:∀(l:List Nat),aft ((0:UInt8)::l.flatMap wK)≠[]:=fun l h=>by
  unfold aft at h
  by_cases h1:aft (l.flatMap wK)=[]
  ·rw[iA h1,eA (by decide)]at h;cases h
  ·rw[eA h1]at h;cases h
 have e:nB s l=(64::(s++[0]))++(0::l.flatMap wK):=by unfold nB nmK;simp
 rw[e,aDM (h l)]
 simp
theorem aFb:∀ {a b r:Ky},NoZ a->NoZ b->((a++[0,0]) <+: (b++0::0::r)↔a=b)
 | [],[],r,_,_=>⟨fun _=>rfl,fun _=>⟨r,rfl⟩⟩
 | [],c::b,r,_,hb=>⟨fun h=>absurd (lO.1 h).1.symm (hb c (sB ..)),fun h=>by cases h⟩
 | c::a,[],r,ha,_=>⟨fun h=>absurd (lO.1 h).1 (ha c (sB ..)),fun h=>by cases h⟩
 | c::a,d::b,r,ha,hb=>by
  have g:=aFb (r:=r) (fun x f=>ha x (uC _ f)) (fun x f=>hb x (uC _ f))
  show(c::(a++[0,0])) <+: (d::(b++0::0::r))↔_
  rw[lO,g];exact⟨fun h=>by rw[h.1,h.2],fun h=>by injection h with h1 h2;exact⟨h1,h2⟩⟩
theorem tS(p:Ky){x y:Ky}:(p++x) <+: (p++y)↔x <+: y:=List.prefix_append_right_inj p
theorem aDN{a b:Ky}(c:NoZ a)(d:NoZ b)(l:List Nat):nmK a <+: nB b l↔a=b:=by
 have e:nB b l=64::(b++0::0::l.flatMap wK):=by unfold nB nmK;simp
 rw[e];unfold nmK;rw[lO,aFb c d];exact⟨And.right,fun h=>⟨rfl,h⟩⟩
theorem aIA{p q x y:Ky}(h:p.length=q.length):(p++x) <+: (q++y)↔p=q/\x <+: y:=by
 constructor
 ·intro h1
  have e:p=q:=by
   obtain⟨t,ht⟩:=h1;rw[qF]at ht;exact(List.append_inj ht h).1
  subst e;exact⟨rfl,(tS p).1 h1⟩
 ·rintro⟨rfl,h2⟩;exact(tS p).2 h2
theorem aPu{a b:Ky}(c:NoZ a)(d:NoZ b){n m:Nat}(f:n<4294967296)(g:m<4294967296)(l:List Nat):nB a [n] <+: nB b (m::l)↔a=b/\n=m:=by
 constructor
 ·intro h
  have h1:nmK a <+: nB b (m::l):=by
   refine List.IsPrefix.trans ?_ h;unfold nB;exact List.prefix_append ..
  have e:=(aDN c d _).1 h1;subst e;refine⟨rfl,?_⟩;rw[oV,oV,tS]at h;have:=(aIA (p:=wK n) (q:=wK m) rfl).1 h;have h3:=this.1;unfold wK at h3;injection h3 with _ h3;exact aLZ f g h3
 ·rintro⟨rfl,rfl⟩;rw[oV,oV,tS];exact(aIA rfl).2 ⟨rfl,List.nil_prefix⟩
theorem aNq{a b:Ky}(c:NoZ a)(d:NoZ b){n m i j:Nat}(f:n<4294967296)(g:m<4294967296)(hi:i<4294967296)(k:j<4294967296)(h:nB a [n,i]=nB b [m,j]):a=b/\n=m/\i=j:=by
 have h1:nB a [n] <+: nB b [m,j]:=by
  rw[<- h,show[n,i]=[n]++[i] from rfl,zK];exact List.prefix_append ..
 obtain⟨rfl,rfl⟩:=(aPu c d f g [j]).1 h1;refine⟨rfl,rfl,?_⟩;rw[show[n,i]=[n]++[i] from rfl,show[n,j]=[n]++[j] from rfl,zK,zK]at h;have h2:=List.append_cancel_left h;rw[nH,nH,List.flatMap_nil,dI,dI]at h2;unfold wK at h2;injection h2 with _ h2;exact aLZ hi k h2
theorem aRx:∀ {a b:Ky},NoZ a->NoZ b->klt a b->∀x y:Ky,klt (a++0::x) (b++0::y)
 | _,[],_,_,h,_,_=>absurd h (jM _)
 | [],c::b,_,hb,_,x,y=>by
  show klt (0::x) (c::(b++0::y))
  rw[pJ];refine .inl ?_;have h0:c≠0:=hb c (sB ..);have:c.toNat≠0:=fun h=>h0 (gR.1 h)
  show(0:Nat)<c.toNat
  omega
 | c::a,d::b,ha,hb,h,x,y=>by
  show klt (c::(a++0::x)) (d::(b++0::y))
  rw[pJ]at h⊢;rcases h with h|⟨h1,h2⟩
  ·exact .inl h
  ·exact .inr ⟨h1,aRx (fun z f=>ha z (uC _ f)) (fun z f=>hb z (uC _ f)) h2 x y⟩
theorem aRV{a b:Ky}(c:NoZ a)(d:NoZ b)(h:klt a b)(l m:List Nat):klt (nB a l) (nB b m):=by
 have e:∀(s:Ky) (l:List Nat),nB s l=64::(s++0::(0::l.flatMap wK)):=fun s l=>by unfold nB nmK;simp
 rw[e,e,pJ];exact .inr ⟨rfl,aRx c d h _ _⟩
theorem aPv(s:Ky)(p:List Nat){n m:Nat}(h:n<m)(b:m<4294967296)(l k:List Nat):klt (nB s (p++n::l)) (nB s (p++m::k)):=by
 rw[zK,zK,aKN,nH,nH];unfold wK;rw[zI,zI,pJ];exact .inr ⟨rfl,aKO h b _ _⟩
theorem oZ:∀ {A B:En},tH A->tH B->(∀e,e∈A↔e∈B)->A=B
 | [],[],_,_,_=>rfl
 | [],b::B,_,_,h=>absurd ((h b).2 (sB ..)) (by simp)
 | a::A,[],_,_,h=>absurd ((h a).1 (sB ..)) (by simp)
 | a::A,b::B,hA,hB,h=>by
  obtain⟨d,g⟩:=xE.1 hA;obtain⟨f,i⟩:=xE.1 hB
  have e:a=b:=by
   rcases kB.1 ((h a).1 (sB ..)) with h1|h1
   ·exact h1
   ·rcases kB.1 ((h b).2 (sB ..)) with h2|h2
    ·exact h2.symm
    ·exact absurd (f a h1) (kQ (d b h2))
  subst e;rw[oZ g i fun e=>?_];have h1:=h e;rw[kB,kB]at h1
  constructor
  ·intro c;rcases h1.1 (.inr c) with rfl|h2
   ·exact absurd (d _ c) (zB _)
   ·exact h2
  ·intro c;rcases h1.2 (.inr c) with rfl|h2
   ·exact absurd (f _ c) (zB _)
   ·exact h2
def rC (E:En) (k:Ky):En:=E.filter fun e=>k.isPrefixOf e.1
theorem aPw{E:En}(b:tH E){k:Ky}(h:aft k≠[])(c:E.length<=9223372036854775807):(goE k (some (aft k)) 9223372036854775807 [] E).1=rC E k:=by
 rw[aLW b];have e:E.filter (inB k (some (aft k)))=rC E k:=List.filter_congr fun e _=>aQK h e;rw[e,zF];exact aF (yW ..) c
theorem aDO{E:En}(b:tH E)(k:Ky):tH (rC E k):=b.filter _
theorem uQ{E:En}{k:Ky}{e:Ky×List UInt8}:e∈rC E k↔e∈E/\k <+: e.1:=by
 unfold rC;rw[wI,List.isPrefixOf_iff_prefix]
theorem aIB{E:En}{k:Ky}{e:Ky×List UInt8}:e∈cH E k↔e∈E/\e.1≠k:=by
 unfold cH;rw[wI]
 simp
theorem aQL(L:En):∀(E:En),(∀e,e∈L.foldl (fun E x=>cH E x.1) E↔e∈E/\∀x∈L,e.1≠x.1):=by
 induction L with
 | nil=>exact fun E e=>⟨fun h=>⟨h,fun _ h=>by cases h⟩,fun h=>h.1⟩
 | cons x L c=>
  intro E e;rw[List.foldl_cons,c,aIB]
  constructor
  ·rintro⟨⟨h1,h2⟩,h3⟩;refine⟨h1,fun y b=>?_⟩;rcases kB.1 b with rfl|b
   ·exact h2
   ·exact h3 y b
  ·rintro⟨h1,h2⟩;exact⟨⟨h1,h2 x (sB ..)⟩,fun y b=>h2 y (uC _ b)⟩
end
section
structure OpC where
 what:Int
 coll:Ky
 id:Int
 text:List UInt8
abbrev Tx:=List (Nat × List UInt8)
abbrev Ct:=List (Ky × Tx)
def vQ (c:Ct) (s:Ky):Bool:=c.any fun x=>decide (x.1=s)
def aMa (c:Ct) (s:Ky):Ct:=(c.takeWhile fun x=>decide (klt x.1 s))++(s,[])::c.dropWhile fun x=>decide (klt x.1 s)
def aBB (l:Tx) (n:Nat):Tx:=l.filter fun t=>!decide (t.1=n)
def with_ (l:Tx) (n:Nat) (s:List UInt8):Tx:=((aBB l n).takeWhile fun t=>decide (t.1<n))++(n,s)::(aBB l n).dropWhile fun t=>decide (t.1<n)
def aGT (c:Ct) (s:Ky) (f:Tx->Tx):Ct:=c.map fun x=>if x.1=s then (x.1,f x.2) else x
def aIC (c:Ct) (s:Ky):Ct:=c.filter fun x=>!decide (x.1=s)
def txC (c:Ct) (s:Ky):Tx:=((c.find? fun x=>decide (x.1=s)).map (·.2)).getD []
def aKP (l:Tx) (n:Int):Bool:=l.any fun t=>decide ((t.1:Int)=n)
def aEs (c:Ct) (o:OpC):Ct×Int:=
 if o.what=1 then if nmB o.coll=false then (c,1) else if vQ c o.coll=true then (c,7) else (aMa c o.coll,0)
 else if o.what=2∨o.what=3∨o.what=4 then
  if vQ c o.coll=false then (c,6)
  else if o.what=2 then (aIC c o.coll,0)
  else if o.what=3 then if idB o.id=false then (c,1) else if 65536<o.text.length then (c,4) else (aGT c o.coll fun l=>with_ l o.id.toNat o.text,0)
  else if aKP (txC c o.coll) o.id=true then (aGT c o.coll fun l=>aBB l o.id.toNat,0) else (c,6)
 else (c,1)
def doC (c0:Ct):Ct->List OpC->Ct×Int
 | c,[]=>(c,0)
 | c,o::l=>if (aEs c o).2=0 then doC c0 (aEs c o).1 l else (c0,(aEs c o).2)
theorem tX{lt:α->α->Prop}[DecidableRel lt](ht:∀ {a b c},lt a b->lt b c->lt a c)(x:α):∀ {l:List α},l.Pairwise lt->(∀y∈l,¬ lt y x->lt x y)->((l.takeWhile fun y=>decide (lt y x))++x::l.dropWhile fun y=>decide (lt y x)).Pairwise lt
 | [],_,_=>List.pairwise_singleton _ _
 | y::l,h,hx=>by
  obtain⟨h1,h2⟩:=xE.1 h
  by_cases f:lt y x
  ·rw[List.takeWhile_cons_of_pos (by simpa using f),List.dropWhile_cons_of_pos (by simpa using f),zI];refine xE.2 ⟨fun z d=>?_,tX (lt:=lt) (fun h1 h2=>ht h1 h2) x h2 fun z d=>hx z (uC _ d)⟩;rcases pD.1 d with d|d
   ·exact h1 z ((List.takeWhile_sublist _).subset d)
   ·rcases kB.1 d with rfl|d
    ·exact f
    ·exact h1 z ((List.dropWhile_sublist _).subset d)
  ·rw[List.takeWhile_cons_of_neg (by simpa using f),List.dropWhile_cons_of_neg (by simpa using f),eH];have g:=hx y (sB ..) f;refine xE.2 ⟨fun z d=>?_,h⟩;rcases kB.1 d with rfl|d
   ·exact g
   ·exact ht g (h1 z d)
theorem aMb{p:α->Bool}{l:List α}{x y:α}:y∈l.takeWhile p++x::l.dropWhile p↔y=x∨y∈l:=by
 have e:y∈l↔y∈l.takeWhile p++l.dropWhile p:=by rw[pP]
 rw[e,pD,pD,kB]
 constructor
 ·rintro(h|h|h)
  ·exact .inr (.inl h)
  ·exact .inl h
  ·exact .inr (.inr h)
 ·rintro(h|h|h)
  ·exact .inr (.inl h)
  ·exact .inl h
  ·exact .inr (.inr h)
theorem mO{l:Tx}{n:Nat}{t:Nat×List UInt8}:t∈aBB l n↔t∈l/\t.1≠n:=by unfold aBB;rw[wI];simp
theorem aDP{l:Tx}{n:Nat}{s:List UInt8}{t:Nat×List UInt8}:t∈with_ l n s↔t=(n,s)∨t∈l/\t.1≠n:=by unfold with_;rw[aMb,mO]
theorem wM{c:Ct}{s:Ky}{x:Ky×Tx}:x∈aMa c s↔x=(s,[])∨x∈c:=aMb
theorem nO{c:Ct}{s:Ky}{x:Ky×Tx}:x∈aIC c s↔x∈c/\x.1≠s:=by unfold aIC;rw[wI];simp
theorem kF{c:Ct}{s:Ky}{f:Tx->Tx}{x:Ky×Tx}:x∈aGT c s f↔(x∈c/\x.1≠s)∨∃y∈c,y.1=s/\x=(s,f y.2):=by
 unfold aGT;rw[cI]
 constructor
 ·rintro⟨y,b,rfl⟩
  by_cases h:y.1=s
  ·rw[iA h];exact .inr ⟨y,b,h,by rw[h]⟩
  ·rw[eA h];exact .inl ⟨b,h⟩
 ·rintro(⟨h1,h2⟩|⟨y,b,h1,rfl⟩)
  ·exact⟨x,h1,eA h2⟩
  ·exact⟨y,b,by rw[iA h1,h1]⟩
theorem oL{c:Ct}{s:Ky}:vQ c s=true↔∃x∈c,x.1=s:=by unfold vQ;rw[List.any_eq_true];simp
structure OkC (c:Ct):Prop where
 rise:c.Pairwise fun a b=>klt a.1 b.1
 name:∀x∈c,nmB x.1=true
 ids:∀x∈c,x.2.Pairwise fun a b=>a.1<b.1
 fit:∀x∈c,∀t∈x.2,t.1<4294967296/\t.2.length<=65536
theorem OkC.nil:OkC []:=⟨List.Pairwise.nil,(fun _ h=>by cases h),(fun _ h=>by cases h),(fun _ h=>by cases h)⟩
section
variable {c : Ct} {s : Ky}
theorem OkC.one(h:OkC c){x y:Ky×Tx}(k:x∈c)(m:y∈c)(e:x.1=y.1):x=y:=by
 have key:∀ {l:Ct},l.Pairwise (fun a b=>klt a.1 b.1)->x∈l->y∈l->x=y:=fun {l}=>by
  induction l with
  | nil=>exact fun _ h=>by cases h
  | cons z l j=>
   intro i h1 h2;obtain⟨f,g⟩:=xE.1 i;rcases kB.1 h1 with e1|e1
   ·rcases kB.1 h2 with d|d
    ·rw[e1,d]
    ·exact absurd (f y d) (by rw[<- e1,e];exact zB _)
   ·rcases kB.1 h2 with d|d
    ·exact absurd (f x e1) (by rw[<- d,e];exact zB _)
    ·exact j g e1 d
 exact key h.rise k m
theorem OkC.tx(h:OkC c){x:Ky×Tx}(d:x∈c):txC c x.1=x.2:=by
 unfold txC
 cases b:c.find? fun y=>decide (y.1=x.1) with
 | none=>exact absurd (List.find?_eq_none.1 b x d) (by simp)
 | some y=>
  have h1:=List.find?_some b;have h2:=List.mem_of_find?_eq_some b;rw[h.one h2 d (by simpa using h1)]
  rfl
theorem OkC.made(h:OkC c)(i:nmB s=true)(j:vQ c s=false):OkC (aMa c s):=by
 refine⟨tX (lt:=fun a b:Ky×Tx=>klt a.1 b.1) vD (s,[]) h.rise fun y f g=>?_,fun x d=>?_,fun x d=>?_,fun x d=>?_⟩
 ·by_cases h1:klt s y.1
  ·exact h1
  ·have:vQ c s=true:=oL.2 ⟨y,f,wO g h1⟩;rw[j]at this
   cases this
 ·rcases wM.1 d with rfl|d
  ·exact i
  ·exact h.name x d
 ·rcases wM.1 d with rfl|d
  ·exact List.Pairwise.nil
  ·exact h.ids x d
 ·rcases wM.1 d with rfl|d
  ·exact fun t ht=>by cases ht
  ·exact h.fit x d
theorem OkC.kill(h:OkC c):OkC (aIC c s):=
 ⟨h.rise.filter _,fun x b=>h.name x (nO.1 b).1,fun x b=>h.ids x (nO.1 b).1,fun x b=>h.fit x (nO.1 b).1⟩
theorem OkC.set(h:OkC c){f:Tx->Tx}(h1:∀l:Tx,l.Pairwise (fun a b=>a.1<b.1)->(f l).Pairwise fun a b=>a.1<b.1)(h2:∀l:Tx,(∀t∈l,t.1<4294967296/\t.2.length<=65536)->∀t∈f l,t.1<4294967296/\t.2.length<=65536):OkC (aGT c s f):=by
 refine⟨?_,fun x d=>?_,fun x d=>?_,fun x d=>?_⟩
 ·have e:∀x:Ky×Tx,(if x.1=s then (x.1,f x.2) else x).1=x.1:=fun x=>by split<;>rfl
  unfold aGT;rw[List.pairwise_map];exact h.rise.imp fun {a b} i=>by rw[e,e];exact i
 ·rcases kF.1 d with ⟨d,_⟩|⟨y,g,e,rfl⟩
  ·exact h.name x d
  ·show nmB s=true;rw[<- e];exact h.name y g
 ·rcases kF.1 d with ⟨d,_⟩|⟨y,g,_,rfl⟩
  ·exact h.ids x d
  ·exact h1 _ (h.ids y g)
 ·rcases kF.1 d with ⟨d,_⟩|⟨y,g,_,rfl⟩
  ·exact h.fit x d
  ·exact h2 _ (h.fit y g)
theorem aMc{l:Tx}(n:Nat)(h:l.Pairwise fun a b=>a.1<b.1):(aBB l n).Pairwise fun a b=>a.1<b.1:=h.filter _
theorem aPx{l:Tx}(n:Nat)(s:List UInt8)(h:l.Pairwise fun a b=>a.1<b.1):(with_ l n s).Pairwise fun a b=>a.1<b.1:=
 tX (lt:=fun a b:Nat×List UInt8=>a.1<b.1) (fun h1 h2=>Nat.lt_trans h1 h2) (n,s) (aMc n h) fun y d f=>by
  have h1:=(mO.1 d).2;have h2:¬ y.1<n:=f
  show n<y.1
  omega
end
def pc (b:List UInt8) (j:Nat):List UInt8:=(b.drop (64*j)).take 64
def np (b:List UInt8):Nat:=max 1 ((b.length+63) / 64)
theorem aRW(b:List UInt8)(j:Nat):(pc b j).length<=64:=by unfold pc;rw[jC];omega
theorem aQM(b:List UInt8):((List.range (np b)).map (pc b)).flatten=b:=by
 have h:=aAB b (np b);have e:((List.range (np b)).map (pc b)).flatten=b.take (64*np b):=h;rw[e,zF];unfold np;omega
def pL (s:Ky) (n:Nat) (b:List UInt8):En:=(List.range (np b)).map fun j=>(nB s [n,j],pc b j)
theorem xM{s:Ky}{n:Nat}{b:List UInt8}{e:Ky×List UInt8}:e∈pL s n b↔∃j,j<np b/\e=(nB s [n,j],pc b j):=by
 unfold pL;rw[cI];simp only[vT];exact⟨fun⟨j,h1,h2⟩=>⟨j,h1,h2.symm⟩,fun⟨j,h1,h2⟩=>⟨j,h1,h2.symm⟩⟩
theorem aDQ(b:List UInt8):0<np b:=by unfold np;omega
theorem aPy{b:List UInt8}(h:b.length<=65536):np b<=1024:=by unfold np;omega
theorem aFc(s:Ky)(n:Nat){b:List UInt8}(h:b.length<=65536):tH (pL s n b):=by
 have f:=aPy h;unfold pL tH;rw[List.pairwise_map];refine(List.pairwise_lt_range (n:=np b)).imp_of_mem fun {i j} _ d c=>?_;have:=vT.1 d;exact aPv s [n] c (by omega) [] []
theorem aDR(s:Ky):∀ {l:Tx},l.Pairwise (fun a b=>a.1<b.1)->(∀t∈l,t.1<4294967296/\t.2.length<=65536)->tH (l.flatMap fun t=>pL s t.1 t.2)
 | [],_,_=>List.Pairwise.nil
 | t::l,h,hf=>by
  obtain⟨h1,h2⟩:=xE.1 h;rw[nH];refine aQ.2 ⟨aFc s _ (hf t (sB ..)).2,aDR s h2 fun u c=>hf u (uC _ c),fun x f y d=>?_⟩;obtain⟨i,_,rfl⟩:=xM.1 f;obtain⟨u,c,d⟩:=List.mem_flatMap.1 d;obtain⟨j,_,rfl⟩:=xM.1 d;exact aPv s [] (h1 u c) (hf u (uC _ c)).1 [i] [j]
structure Rep (E:Nat->En) (c:Ct):Prop where
 r0:tH (E 0)
 r1:tH (E 1)
 e0:∀e,e∈E 0↔∃x∈c,∃t∈x.2,e∈pL x.1 t.1 t.2
 e1:∀e,e∈E 1↔∃x∈c,e=(nmK x.1,[])
 ok:OkC c
theorem Rep.nil:Rep (fun _=>[]) []:=⟨List.Pairwise.nil,List.Pairwise.nil,fun e=>by simp,fun e=>by simp,OkC.nil⟩
section
variable {E : Nat -> En} {c : Ct} {s : Ky}
theorem Rep.has(h:Rep E c)(g:nmB s=true):jS (E 1) (nmK s)=vQ c s:=by
 rw[jT,aDG,oL]
 constructor
 ·rintro⟨e,d,f⟩;obtain⟨x,b,rfl⟩:=(h.e1 e).1 d;refine⟨x,b,?_⟩;have h1:nmK x.1 <+: nB s []:=by rw[<- nL];exact⟨[],by rw[dI];exact f⟩
  exact(aDN (uF (h.ok.name x b)).1 (uF g).1 _).1 h1
 ·rintro⟨x,b,rfl⟩;exact⟨_,(h.e1 _).2 ⟨x,b,rfl⟩,rfl⟩
theorem Rep.no(h:Rep E c)(b:nmB s=false):vQ c s=false:=by
 cases f:vQ c s with
 | false=>rfl
 | true=>
  obtain⟨x,d,rfl⟩:=oL.1 f;rw[h.ok.name x d]at b
  cases b
theorem Rep.names(h:Rep E c):E 1=c.map fun x=>(nmK x.1,[]):=by
 refine oZ h.r1 ?_ fun e=>?_
 ·unfold tH;rw[List.pairwise_map];refine h.ok.rise.imp_of_mem fun {a b} f g d=>?_
  show klt (nmK a.1) (nmK b.1)
  rw[nL,nL];exact aRV (uF (h.ok.name a f)).1 (uF (h.ok.name b g)).1 d [] []
 ·rw[h.e1,cI];exact⟨fun⟨x,h1,h2⟩=>⟨x,h1,h2.symm⟩,fun⟨x,h1,h2⟩=>⟨x,h1,h2.symm⟩⟩
theorem Rep.mine(h:Rep E c){x:Ky×Tx}(b:x∈c){y:Ky×Tx}(d:y∈c){t:Nat×List UInt8}{e:Ky×List UInt8}(f:e∈pL y.1 t.1 t.2):nmK x.1 <+: e.1↔x=y:=by
 obtain⟨j,_,rfl⟩:=xM.1 f;rw[aDN (uF (h.ok.name x b)).1 (uF (h.ok.name y d)).1];exact⟨fun e=>h.ok.one b d e,fun e=>by rw[e]⟩
theorem pZ{s:Ky}(h1:NoZ s)(h2:NoZ y){n:Nat}(b:n<4294967296){t:Nat×List UInt8}(ht:t.1<4294967296){e:Ky×List UInt8}(d:e∈pL y t.1 t.2):nB s [n] <+: e.1↔s=y/\n=t.1:=by
 obtain⟨j,_,rfl⟩:=xM.1 d;exact aPu h1 h2 b ht [j]
theorem Rep.texts(h:Rep E c){x:Ky×Tx}(b:x∈c):rC (E 0) (nmK x.1)=x.2.flatMap fun t=>pL x.1 t.1 t.2:=by
 refine oZ (aDO h.r0 _) (aDR _ (h.ok.ids x b) (h.ok.fit x b)) fun e=>?_;rw[uQ,h.e0,List.mem_flatMap]
 constructor
 ·rintro⟨⟨y,f,t,ht,d⟩,g⟩;obtain rfl:=(h.mine b f d).1 g;exact⟨t,ht,d⟩
 ·rintro⟨t,ht,d⟩;exact⟨⟨x,b,t,ht,d⟩,(h.mine b b d).2 rfl⟩
theorem Rep.text(h:Rep E c){x:Ky×Tx}(d:x∈c){t:Nat×List UInt8}(ht:t∈x.2):rC (E 0) (nB x.1 [t.1])=pL x.1 t.1 t.2:=by
 have j:=(uF (h.ok.name x d)).1;refine oZ (aDO h.r0 _) (aFc _ _ (h.ok.fit x d t ht).2) fun e=>?_;rw[uQ,h.e0]
 constructor
 ·rintro⟨⟨y,k,u,n,g⟩,m⟩;obtain⟨e1,r⟩:=(pZ j (uF (h.ok.name y k)).1 (h.ok.fit x d t ht).1 (h.ok.fit y k u n).1 g).1 m;obtain rfl:=h.ok.one d k e1
  have:t=u:=by
   have key:∀ {l:Tx},l.Pairwise (fun a b=>a.1<b.1)->t∈l->u∈l->t=u:=fun {l}=>by
    induction l with
    | nil=>exact fun _ h=>by cases h
    | cons z l q=>
     intro m h1 h2;obtain⟨o,p⟩:=xE.1 m;rcases kB.1 h1 with i|i
     ·rcases kB.1 h2 with f|f
      ·rw[i,f]
      ·have:=o u f;rw[<- i]at this;omega
     ·rcases kB.1 h2 with f|f
      ·have:=o t i;rw[<- f]at this;omega
      ·exact q p i f
   exact key (h.ok.ids x d) ht n
  subst this;exact g
 ·intro g;exact⟨⟨x,d,t,ht,g⟩,(pZ j j (h.ok.fit x d t ht).1 (h.ok.fit x d t ht).1 g).2 ⟨rfl,rfl⟩⟩
theorem Rep.none(h:Rep E c){x:Ky×Tx}(i:x∈c){n:Nat}(l:n<4294967296)(ht:∀t∈x.2,t.1≠n):rC (E 0) (nB x.1 [n])=[]:=by
 refine List.filter_eq_nil_iff.2 fun e k g=>?_;obtain⟨y,d,t,b,f⟩:=(h.e0 e).1 k;rw[List.isPrefixOf_iff_prefix]at g;obtain⟨e1,j⟩:=(pZ (uF (h.ok.name x i)).1 (uF (h.ok.name y d)).1 l (h.ok.fit y d t b).1 f).1 g;obtain rfl:=h.ok.one i d e1;exact ht t b j.symm
def aGU (E:En) (k:Ky):En:=(rC E k).foldl (fun E x=>cH E x.1) E
theorem aID{E:En}{k:Ky}{e:Ky×List UInt8}:e∈aGU E k↔e∈E/\¬ k <+: e.1:=by
 unfold aGU;rw[aQL]
 constructor
 ·rintro⟨h1,h2⟩;exact⟨h1,fun b=>h2 e (uQ.2 ⟨h1,b⟩) rfl⟩
 ·rintro⟨h1,h2⟩;exact⟨h1,fun x d e1=>h2 (by rw[e1];exact(uQ.1 d).2)⟩
theorem aFd{E:En}(h:tH E)(k:Ky):tH (cH E k):=h.filter _
theorem aFe:∀(L:En) {E:En},tH E->tH (L.foldl (fun E x=>cH E x.1) E)
 | [],_,h=>h
 | x::L,_,h=>aFe L (aFd h x.1)
theorem aAU{E:En}(h:tH E)(k:Ky):tH (aGU E k):=aFe _ h
def aNr (s:Ky) (n:Nat) (b:List UInt8):Nat->Nat->En->En
 | _,0,E=>E
 | j,m+1,E=>aNr s n b (j+1) m (uH E (nB s [n,j]) (pc b j))
theorem aFf(s:Ky)(n:Nat)(b:List UInt8):∀(m j:Nat) {E:En},tH E->tH (aNr s n b j m E)
 | 0,_,_,h=>h
 | m+1,j,_,h=>aFf s n b m (j+1) (aAT h)
theorem aIE{s:Ky}(d:NoZ s){n:Nat}(f:n<4294967296)(b:List UInt8):∀(m j:Nat) {E:En} {e:Ky×List UInt8},j+m<4294967296 ->
  (e∈aNr s n b j m E↔(∃i,j<=i/\i<j+m/\e=(nB s [n,i],pc b i))∨(e∈E/\∀i,j<=i->i<j+m->e.1≠nB s [n,i]))
 | 0,j,E,e,_=>⟨fun h=>.inr ⟨h,fun i h1 h2=>by omega⟩,fun h=>by
   rcases h with ⟨i,h1,h2,_⟩|⟨h,_⟩
   ·omega
   ·exact h⟩
 | m+1,j,E,e,hj=>by
  unfold aNr;rw[aIE d f b m (j+1) (by omega),aDI]
  constructor
  ·rintro(⟨i,h1,h2,h3⟩|⟨h1|⟨h1,h2⟩,h3⟩)
   ·exact .inl ⟨i,by omega,by omega,h3⟩
   ·exact .inl ⟨j,by omega,by omega,h1⟩
   ·refine .inr ⟨h1,fun i g l=>?_⟩
    by_cases hi:i=j
    ·rw[hi];exact h2
    ·exact h3 i (by omega) (by omega)
  ·rintro(⟨i,h1,h2,rfl⟩|⟨h1,h2⟩)
   ·by_cases hi:i=j
    ·subst hi
     exact .inr ⟨.inl rfl,fun k p q o=>by
      have:=(aNq d d f f (by omega) (by omega) o).2.2;omega⟩
    ·exact .inl ⟨i,by omega,by omega,rfl⟩
   ·exact .inr ⟨.inr ⟨h1,h2 j (by omega) (by omega)⟩,fun i g l=>h2 i (by omega) (by omega)⟩
theorem Rep.made(h:Rep E c)(d:nmB s=true)(f:vQ c s=false){E':Nat->En}(h0:E' 0=E 0)(h1:E' 1=uH (E 1) (nmK s) []):Rep E' (aMa c s):=by
 refine⟨by rw[h0];exact h.r0,by rw[h1];exact aAT h.r1,fun e=>?_,fun e=>?_,h.ok.made d f⟩
 ·rw[h0,h.e0]
  constructor
  ·rintro⟨x,b,r⟩;exact⟨x,wM.2 (.inr b),r⟩
  ·rintro⟨x,b,t,ht,r⟩;rcases wM.1 b with rfl|b
   ·cases ht
   ·exact⟨x,b,t,ht,r⟩
 ·rw[h1,aDI,h.e1]
  constructor
  ·rintro(rfl|⟨⟨x,b,rfl⟩,_⟩)
   ·exact⟨(s,[]),wM.2 (.inl rfl),rfl⟩
   ·exact⟨x,wM.2 (.inr b),rfl⟩
  ·rintro⟨x,b,rfl⟩;rcases wM.1 b with rfl|b
   ·exact .inl rfl
   ·refine .inr ⟨⟨x,b,rfl⟩,fun e=>?_⟩;have h2:=h.has d;rw[f]at h2;have:jS (E 1) (nmK s)=true:=(aDG _ _).2 ⟨_,(h.e1 _).2 ⟨x,b,rfl⟩,e⟩;rw[h2]at this
    cases this
theorem Rep.kill(h:Rep E c)(l:nmB s=true){E':Nat->En}(h0:E' 0=aGU (E 0) (nmK s))(h1:E' 1=cH (E 1) (nmK s)):Rep E' (aIC c s):=by
 have i:=(uF l).1;refine⟨by rw[h0];exact aAU h.r0 _,by rw[h1];exact aFd h.r1 _,fun e=>?_,fun e=>?_,h.ok.kill⟩
 ·rw[h0,aID,h.e0]
  have k:∀ {x:Ky×Tx},x∈c->∀ {t:Nat×List UInt8},e∈pL x.1 t.1 t.2->(nmK s <+: e.1↔s=x.1):=fun {x} b {t} f=>by
   obtain⟨j,_,rfl⟩:=xM.1 f;exact aDN i (uF (h.ok.name x b)).1 _
  constructor
  ·rintro⟨⟨x,b,t,ht,f⟩,g⟩;exact⟨x,nO.2 ⟨b,fun e=>g ((k b f).2 e.symm)⟩,t,ht,f⟩
  ·rintro⟨x,b,t,ht,f⟩;obtain⟨b,d⟩:=nO.1 b;exact⟨⟨x,b,t,ht,f⟩,fun g=>d ((k b f).1 g).symm⟩
 ·rw[h1,aIB,h.e1]
  constructor
  ·rintro⟨⟨x,b,rfl⟩,d⟩;exact⟨x,nO.2 ⟨b,fun e=>d (by show nmK x.1=_;rw[e])⟩,rfl⟩
  ·rintro⟨x,b,rfl⟩;obtain⟨b,d⟩:=nO.1 b;refine⟨⟨x,b,rfl⟩,fun e=>d ?_⟩;have h2:nmK x.1 <+: nB s []:=by rw[<- nL];exact⟨[],by rw[dI];exact e⟩
   exact(aDN (uF (h.ok.name x b)).1 i _).1 h2
theorem Rep.drop(h:Rep E c)(u:vQ c s=true){n:Nat}(v:n<4294967296){E':Nat->En}(h0:E' 0=aGU (E 0) (nB s [n]))(h1:E' 1=E 1):Rep E' (aGT c s fun l=>aBB l n):=by
 obtain⟨z,r,rfl⟩:=oL.1 u;have o:=(uF (h.ok.name z r)).1;refine⟨by rw[h0];exact aAU h.r0 _,by rw[h1];exact h.r1,fun e=>?_,fun e=>?_,h.ok.set (fun l q=>aMc n q) fun l q t ht=>q t (mO.1 ht).1⟩
 ·rw[h0,aID,h.e0];have p:∀ {x:Ky×Tx},x∈c->∀ {t:Nat×List UInt8},t∈x.2->e∈pL x.1 t.1 t.2->(nB z.1 [n] <+: e.1↔z.1=x.1/\n=t.1):=fun {x} b {t} ht f=>pZ o (uF (h.ok.name x b)).1 v (h.ok.fit x b t ht).1 f
  constructor
  ·rintro⟨⟨x,b,t,ht,f⟩,k⟩
   by_cases d:x.1=z.1
   ·exact⟨(z.1,aBB x.2 n),kF.2 (.inr ⟨x,b,d,rfl⟩),t,mO.2 ⟨ht,fun e=>k ((p b ht f).2 ⟨d.symm,e.symm⟩)⟩,by rw[<- d];exact f⟩
   ·exact⟨x,kF.2 (.inl ⟨b,d⟩),t,ht,f⟩
  ·rintro⟨x,b,t,ht,f⟩;rcases kF.1 b with ⟨b,g⟩|⟨y,m,i,rfl⟩
   ·exact⟨⟨x,b,t,ht,f⟩,fun k=>g ((p b ht f).1 k).1.symm⟩
   ·obtain⟨ht,g⟩:=mO.1 ht;have j:e∈pL y.1 t.1 t.2:=by rw[i];exact f
    exact⟨⟨y,m,t,ht,j⟩,fun k=>g ((p m ht j).1 k).2.symm⟩
 ·rw[h1,h.e1]
  constructor
  ·rintro⟨x,b,rfl⟩
   by_cases d:x.1=z.1
   ·exact⟨(z.1,aBB x.2 n),kF.2 (.inr ⟨x,b,d,rfl⟩),by rw[d]⟩
   ·exact⟨x,kF.2 (.inl ⟨b,d⟩),rfl⟩
  ·rintro⟨x,b,rfl⟩;rcases kF.1 b with ⟨b,_⟩|⟨y,m,i,rfl⟩
   ·exact⟨x,b,rfl⟩
   ·exact⟨y,m,by rw[i]⟩
theorem aFg(l:Tx)(n:Nat)(b:List UInt8)(t:Nat×List UInt8):t∈with_ l n b↔t=(n,b)∨t∈aBB l n:=by rw[aDP,mO]
theorem Rep.put(h:Rep E c)(C:vQ c s=true){n:Nat}(r:n<4294967296){b:List UInt8}(D:b.length<=65536){E':Nat->En}(h0:E' 0=aNr s n b 0 (np b) (aGU (E 0) (nB s [n])))(h1:E' 1=E 1):Rep E' (aGT c s fun l=>with_ l n b):=by
 have F:=h.drop C r (E':=fun t=>if t=0 then aGU (E 0) (nB s [n]) else E t) rfl rfl;obtain⟨z,B,rfl⟩:=oL.1 C;have o:=(uF (h.ok.name z B)).1;have G:=aPy D
 have q:∀l:Tx,(∀t∈l,t.1<4294967296/\t.2.length<=65536)->∀t∈with_ l n b,t.1<4294967296/\t.2.length<=65536:=fun l v t ht=>by
  rcases aDP.1 ht with rfl|⟨ht,_⟩
  ·exact⟨r,D⟩
  ·exact v t ht
 refine⟨by rw[h0];exact aFf _ _ _ _ _ (aAU h.r0 _),by rw[h1];exact h.r1,fun e=>?_,fun e=>?_,h.ok.set (fun l v=>aPx n b v) q⟩
 ·have H:∀e,e∈aGU (E 0) (nB z.1 [n])↔∃x∈aGT c z.1 fun l=>aBB l n,∃t∈x.2,e∈pL x.1 t.1 t.2:=F.e0;rw[h0,aIE o r b (np b) 0 (by omega),H]
  constructor
  ·rintro(⟨i,_,h2,rfl⟩|⟨⟨x,d,t,ht,k⟩,_⟩)
   ·refine⟨(z.1,with_ z.2 n b),kF.2 (.inr ⟨z,B,rfl,rfl⟩),(n,b),aDP.2 (.inl rfl),xM.2 ⟨i,by show i<np b;omega,rfl⟩⟩
   ·rcases kF.1 d with ⟨d,f⟩|⟨y,m,g,rfl⟩
    ·exact⟨x,kF.2 (.inl ⟨d,f⟩),t,ht,k⟩
    ·exact⟨(z.1,with_ y.2 n b),kF.2 (.inr ⟨y,m,g,rfl⟩),t,(aFg _ _ _ _).2 (.inr ht),k⟩
  ·rintro⟨x,d,t,ht,k⟩
   have off:∀ {y:Ky} {u:Nat×List UInt8},NoZ y->u.1<4294967296->e∈pL y u.1 u.2->¬ (z.1=y/\n=u.1)->∀i,0<=i->i<0+np b->e.1≠nB z.1 [n,i]:=fun {y u} m J k f i _ _ L=>by
    have h3:nB z.1 [n] <+: e.1:=by
     rw[L,show[n,i]=[n]++[i] from rfl,zK];exact List.prefix_append ..
    exact f ((pZ o m r J k).1 h3)
   rcases kF.1 d with ⟨d,f⟩|⟨y,m,g,rfl⟩
   ·exact .inr ⟨⟨x,kF.2 (.inl ⟨d,f⟩),t,ht,k⟩,off (uF (h.ok.name x d)).1 (h.ok.fit x d t ht).1 k fun h=>f h.1.symm⟩
   ·rcases(aFg _ _ _ _).1 ht with rfl|ht
    ·obtain⟨j,I,rfl⟩:=xM.1 k;exact .inl ⟨j,by omega,by simpa using I,rfl⟩
    ·have A:=mO.1 ht;exact .inr ⟨⟨(z.1,aBB y.2 n),kF.2 (.inr ⟨y,m,g,rfl⟩),t,ht,k⟩,off o (h.ok.fit y m t A.1).1 k fun h=>A.2 h.2.symm⟩
 ·rw[h1,h.e1]
  constructor
  ·rintro⟨x,d,rfl⟩
   by_cases p:x.1=z.1
   ·exact⟨(z.1,with_ x.2 n b),kF.2 (.inr ⟨x,d,p,rfl⟩),by rw[p]⟩
   ·exact⟨x,kF.2 (.inl ⟨d,p⟩),rfl⟩
  ·rintro⟨x,d,rfl⟩;rcases kF.1 d with ⟨d,_⟩|⟨y,m,g,rfl⟩
   ·exact⟨x,d,rfl⟩
   ·exact⟨y,m,by rw[g]⟩
end
end
section
noncomputable def cutL (L:En) (r:SE×Int):SE×Int:=L.foldl (fun r e=>if r.2=0 then delS r.1 0 e.1 else r) r
noncomputable def cutS (x:SE) (k:Ky):SE×Int:=cutL (rC (x.E 0) k) (x,0)
noncomputable def layS (s:Ky) (n:Nat) (b:List UInt8):Nat->Nat->SE->SE×Int
 | _,0,x=>(x,0)
 | j,m+1,x=>if (putS x 0 (nB s [n,j]) (pc b j)).2=0 then layS s n b (j+1) m (putS x 0 (nB s [n,j]) (pc b j)).1 else putS x 0 (nB s [n,j]) (pc b j)
noncomputable def isS (x:SE) (s:Ky):Bool:=nmB s&&jS (x.E 1) (nmK s)
noncomputable def aDS (x:SE) (s:Ky):SE×Int:=if (cutS x (nmK s)).2=0 then delS (cutS x (nmK s)).1 1 (nmK s) else cutS x (nmK s)
noncomputable def qZ (x:SE) (s:Ky) (id:Int) (b:List UInt8):SE×Int:=
 if idB id=false then (x,1) else if 65536<b.length then (x,4)
 else if (cutS x (nB s [id.toNat])).2=0 then layS s id.toNat b 0 (np b) (cutS x (nB s [id.toNat])).1 else cutS x (nB s [id.toNat])
noncomputable def jW (x:SE) (s:Ky) (id:Int):SE×Int:=
 if idB id=false then (x,6)
 else if (cutS x (nB s [id.toNat])).2=0/\rC (x.E 0) (nB s [id.toNat])=[] then ((cutS x (nB s [id.toNat])).1,6) else cutS x (nB s [id.toNat])
noncomputable def kW (x:SE) (s:Ky):SE×Int:=if nmB s=false then (x,1) else if jS (x.E 1) (nmK s)=true then (x,7) else putS x 1 (nmK s) []
noncomputable def oneS (x:SE) (o:OpC):SE×Int:=
 if o.what=1 then kW x o.coll
 else if o.what=2∨o.what=3∨o.what=4 then
  if isS x o.coll=false then (x,6)
  else if o.what=2 then aDS x o.coll
  else if o.what=3 then qZ x o.coll o.id o.text
  else jW x o.coll o.id
 else (x,1)
noncomputable def allS:SE->List OpC->SE×Int
 | x,[]=>(x,0)
 | x,o::l=>if (oneS x o).2=0 then allS (oneS x o).1 l else oneS x o
noncomputable def doS (x:SE) (l:List OpC):SE×Int:=
 if (allS x l).2≠0 then (⟨{ (allS x l).1.s with late:=[] },x.E⟩,(allS x l).2)
 else if (allS x l).1.s.commit.2≠0 then (⟨{ (allS x l).1.s.commit.1 with late:=[] },x.E⟩,(allS x l).1.s.commit.2)
 else (⟨(allS x l).1.s.commit.1,(allS x l).1.E⟩,0)
theorem aGV(x:SE)(t:Nat)(k v:Ky):((putS x t k v).2=0/\(putS x t k v).1.E=sD x.E t (uH (x.E t) k v))∨putS x t k v=(x,5):=by
 unfold putS
 split
 ·split
  ·exact .inl ⟨rfl,rfl⟩
  ·exact .inr rfl
 ·exact .inr rfl
theorem aGW(x:SE)(t:Nat)(k:Ky):((delS x t k).2=0/\(delS x t k).1.E=sD x.E t (cH (x.E t) k))∨delS x t k=(x,5):=by
 unfold delS
 split
 ·exact .inl ⟨rfl,rfl⟩
 ·split
  ·split
   ·exact .inl ⟨rfl,rfl⟩
   ·exact .inr rfl
  ·exact .inr rfl
theorem wQ(e:Ky×List UInt8)(L:En)(r:SE×Int):cutL (e::L) r=cutL L (if r.2=0 then delS r.1 0 e.1 else r):=rfl
theorem aIF:∀(L:En) {r:SE×Int},r.2≠0->cutL L r=r
 | [],_,_=>rfl
 | e::L,r,h=>by rw[wQ,eA h,aIF L h]
theorem aMd:∀(L:En) (x:SE),((cutL L (x,0)).2=0/\(cutL L (x,0)).1.E 0=L.foldl (fun E e=>cH E e.1) (x.E 0)/\∀t,t≠0->(cutL L (x,0)).1.E t=x.E t)∨(cutL L (x,0)).2=5
 | [],x=>.inl ⟨rfl,rfl,fun _ _=>rfl⟩
 | e::L,x=>by
  rw[wQ,iA rfl];rcases aGW x 0 e.1 with ⟨h1,h2⟩|h
  ·have h3:delS x 0 e.1=((delS x 0 e.1).1,0):=by rw[<- h1]
   rw[h3];rcases aMd L (delS x 0 e.1).1 with ⟨a,b,c⟩|a
   ·refine .inl ⟨a,?_,fun t ht=>?_⟩
    ·rw[b,h2];rfl
    ·rw[c t ht,h2];exact eA ht
   ·exact .inr a
  ·rw[h,aIF L (by simp)];exact .inr rfl
theorem aGX(x:SE)(k:Ky):((cutS x k).2=0/\(cutS x k).1.E 0=aGU (x.E 0) k/\∀t,t≠0->(cutS x k).1.E t=x.E t)∨(cutS x k).2=5:=aMd _ _
theorem aMe(s:Ky)(n:Nat)(b:List UInt8):∀(m j:Nat) (x:SE),((layS s n b j m x).2=0/\(layS s n b j m x).1.E 0=aNr s n b j m (x.E 0)/\∀t,t≠0->(layS s n b j m x).1.E t=x.E t)∨(layS s n b j m x).2=5
 | 0,_,_=>.inl ⟨rfl,rfl,fun _ _=>rfl⟩
 | m+1,j,x=>by
  unfold layS;rcases aGV x 0 (nB s [n,j]) (pc b j) with ⟨h1,h2⟩|h
  ·rw[iA h1];rcases aMe s n b m (j+1) (putS x 0 (nB s [n,j]) (pc b j)).1 with ⟨a,c,d⟩|a
   ·refine .inl ⟨a,?_,fun t ht=>?_⟩
    ·rw[c,h2];rfl
    ·rw[d t ht,h2];exact eA ht
   ·exact .inr a
  ·rw[eA (by rw[h];show ¬ (5:Int)=0;decide),h];exact .inr rfl
theorem aDT{l:Tx}{n:Int}:aKP l n=true↔∃t∈l,(t.1:Int)=n:=by unfold aKP;rw[List.any_eq_true];simp
theorem aQN{x:SE}{c:Ct}(h:Rep x.E c)(o:OpC):((oneS x o).2=(aEs c o).2/\((aEs c o).2=0->Rep (oneS x o).1.E (aEs c o).1))∨(oneS x o).2=5:=by
 unfold oneS aEs
 by_cases h1:o.what=1
 ·rw[iA h1,iA h1];unfold kW
  cases j:nmB o.coll with
  | false=>exact .inl ⟨rfl,fun h=>absurd h (by simp)⟩
  | true=>
   simp only[bQ,dE];rw[h.has j]
   cases k:vQ c o.coll with
   | true=>exact .inl ⟨rfl,fun h=>absurd h (by simp)⟩
   | false=>
    simp only[qG,dE];rcases aGV x 1 (nmK o.coll) []with ⟨a,b⟩|a
    ·exact .inl ⟨a,fun _=>h.made j k (by rw[b];rfl) (by rw[b];rfl)⟩
    ·rw[a];exact .inr rfl
 ·rw[eA h1,eA h1]
  by_cases h2:o.what=2∨o.what=3∨o.what=4
  ·rw[iA h2,iA h2]
   have r:isS x o.coll=vQ c o.coll:=by
    unfold isS
    cases j:nmB o.coll with
    | false=>rw[h.no j];rfl
    | true=>rw[h.has j];rfl
   rw[r]
   cases k:vQ c o.coll with
   | false=>exact .inl ⟨rfl,fun h=>absurd h (by simp)⟩
   | true=>
    have j:nmB o.coll=true:=by
     cases j:nmB o.coll with
     | true=>rfl
     | false=>rw[h.no j]at k;cases k
    obtain⟨z,n,A⟩:=oL.1 k;simp only[bQ,dE]
    by_cases h3:o.what=2
    ·rw[iA h3,iA h3];unfold aDS;rcases aGX x (nmK o.coll) with ⟨a,b,d⟩|a
     ·rw[iA a];rcases aGW (cutS x (nmK o.coll)).1 1 (nmK o.coll) with ⟨e,f⟩|e
      ·exact .inl ⟨e,fun _=>h.kill j (by rw[f];exact b) (by rw[f];show cH _ _=_;rw[d 1 (by omega)])⟩
      ·rw[e];exact .inr rfl
     ·rw[eA (by rw[a];decide)];exact .inr a
    ·rw[eA h3,eA h3]
     by_cases p:o.what=3
     ·rw[iA p,iA p];unfold qZ
      cases hi:idB o.id with
      | false=>exact .inl ⟨rfl,fun h=>absurd h (by simp)⟩
      | true=>
       simp only[bQ,dE];have s:=mL.1 hi
       by_cases q:65536<o.text.length
       ·rw[iA q,iA q];exact .inl ⟨rfl,fun h=>absurd h (by simp)⟩
       ·rw[eA q,eA q];rcases aGX x (nB o.coll [o.id.toNat]) with ⟨a,b,d⟩|a
        ·rw[iA a];rcases aMe o.coll o.id.toNat o.text (np o.text) 0 (cutS x (nB o.coll [o.id.toNat])).1 with ⟨e,f,g⟩|e
         ·exact .inl ⟨e,fun _=>h.put k (by omega) (by omega) (by rw[f,b]) (by rw[g 1 (by omega),d 1 (by omega)])⟩
         ·exact .inr e
        ·rw[eA (by rw[a];decide)];exact .inr a
     ·rw[eA p,eA p];unfold jW;rw[<- A]at k⊢;have l:=h.ok.tx n
      cases hi:idB o.id with
      | false=>
       have u:aKP (txC c z.1) o.id=false:=by
        cases m:aKP (txC c z.1) o.id with
        | false=>rfl
        | true=>
         rw[l]at m;obtain⟨t,ht,e⟩:=aDT.1 m;have:=(h.ok.fit z n t ht).1;have:idB o.id=true:=mL.2 ⟨by omega,by omega⟩;rw[hi]at this
         cases this
       rw[iA rfl,u];exact .inl ⟨rfl,fun h=>absurd h (by simp)⟩
      | true=>
       simp only[bQ,dE];have s:=mL.1 hi
       cases m:aKP (txC c z.1) o.id with
       | false=>
        have i:rC (x.E 0) (nB z.1 [o.id.toNat])=[]:=h.none n (by omega) fun t ht e=>by
         have:aKP (txC c z.1) o.id=true:=by rw[l];exact aDT.2 ⟨t,ht,by omega⟩
         rw[m]at this
         cases this
        have B:cutS x (nB z.1 [o.id.toNat])=(x,0):=by unfold cutS;rw[i];rfl
        rw[B,iA ⟨rfl,i⟩];exact .inl ⟨rfl,fun h=>absurd h (by simp)⟩
       | true=>
        rw[l]at m;obtain⟨t,ht,e⟩:=aDT.1 m
        have v:¬ rC (x.E 0) (nB z.1 [o.id.toNat])=[]:=fun i=>by
         have C:o.id.toNat=t.1:=by omega
         rw[C,h.text n ht]at i;have y:=congrArg List.length i;unfold pL at y;rw[lI,List.length_range]at y;have:=aDQ t.2
         simp at y
         omega
        rw[eA fun h=>v h.2];rcases aGX x (nB z.1 [o.id.toNat]) with ⟨a,b,d⟩|a
        ·exact .inl ⟨a,fun _=>h.drop k (by omega) b (d 1 (by omega))⟩
        ·exact .inr a
  ·rw[eA h2,eA h2];exact .inl ⟨rfl,fun h=>absurd h (by simp)⟩
theorem aKQ(c0:Ct):∀(l:List OpC) {x:SE} {c:Ct},Rep x.E c->((allS x l).2=(doC c0 c l).2/\((doC c0 c l).2=0->Rep (allS x l).1.E (doC c0 c l).1))∨(allS x l).2=5
 | [],_,_,h=>.inl ⟨rfl,fun _=>h⟩
 | o::l,x,c,h=>by
  unfold allS doC;rcases aQN h o with ⟨a,b⟩|a
  ·by_cases h1:(aEs c o).2=0
   ·rw[iA (by rw[a];exact h1),iA h1];exact aKQ c0 l (b h1)
   ·rw[eA (by rw[a];exact h1),eA h1];exact .inl ⟨a,fun h=>absurd h h1⟩
  ·rw[eA (by rw[a];decide)];exact .inr a
theorem rD.cut1{N:Nat}{E:Nat->En}(h:rD N E)(t:Nat)(key:Ky):rD N (sD E t (cH (E t) key)):=
 h.set t ((h.rise t).filter _) (by have:=aPk (E t) key;have:=h.few t;omega) fun e b=>h.keys t e (wI.1 b).1
theorem rD.putS{N:Nat}{x:SE}(h:rD N x.E)(t:Nat){k:Ky}(c:k.length<=600)(v:Ky):rD (N+1) (putS x t k v).1.E:=by
 rcases aGV x t k v with ⟨_,b⟩|b
 ·rw[b];exact h.put t c v
 ·rw[b];exact h.mono (by omega)
theorem rD.delS{N:Nat}{x:SE}(h:rD N x.E)(t:Nat)(k:Ky):rD N (delS x t k).1.E:=by
 rcases aGW x t k with ⟨_,b⟩|b
 ·rw[b];exact h.cut1 t k
 ·rw[b];exact h
theorem rD.cutL{N:Nat}:∀(L:En) {r:SE×Int},rD N r.1.E->rD N (cutL L r).1.E
 | [],_,h=>h
 | e::L,r,h=>by
  rw[wQ];refine rD.cutL L ?_
  split
  ·exact h.delS 0 e.1
  ·exact h
theorem rD.cutS{N:Nat}{x:SE}(h:rD N x.E)(k:Ky):rD N (cutS x k).1.E:=rD.cutL _ h
theorem rD.layS(s:Ky)(c:s.length<=100)(n:Nat)(b:List UInt8):∀(m j:Nat) {N:Nat} {x:SE},rD N x.E->rD (N+m) (layS s n b j m x).1.E
 | 0,_,_,_,h=>h
 | m+1,j,N,x,h=>by
  unfold Go.Proofs.YtebjhcjbfaaejaaGreatDoor.layS;have h1:=h.putS 0 (k:=nB s [n,j]) (by rw[sH];simp;omega) (pc b j)
  split
  ·exact(rD.layS s c n b m (j+1) h1).mono (by omega)
  ·exact h1.mono (by omega)
theorem rD.oneS{N:Nat}{x:SE}(h:rD N x.E){o:OpC}(c:o.coll.length<=100)(ht:o.text.length<=1500):rD (N+25) (oneS x o).1.E:=by
 have d:np o.text<=24:=by unfold np;omega
 have b:(nmK o.coll).length<=600:=by rw[nL,sH];simp;omega
 have h0:=h.mono (M:=N+25) (by omega);unfold Go.Proofs.YtebjhcjbfaaejaaGreatDoor.oneS
 split
 ·unfold kW
  split
  ·exact h0
  ·split
   ·exact h0
   ·exact(h.putS 1 b []).mono (by omega)
 ·split
  ·split
   ·exact h0
   ·split
    ·unfold aDS
     split
     ·exact((h.cutS _).delS 1 _).mono (by omega)
     ·exact(h.cutS _).mono (by omega)
    ·split
     ·unfold qZ
      split
      ·exact h0
      ·split
       ·exact h0
       ·split
        ·exact((rD.layS _ c _ _ _ _ (h.cutS _))).mono (by omega)
        ·exact(h.cutS _).mono (by omega)
     ·unfold jW
      split
      ·exact h0
      ·split
       ·exact(h.cutS _).mono (by omega)
       ·exact(h.cutS _).mono (by omega)
  ·exact h0
def OkO (o:OpC):Prop:=o.coll.length<=100/\o.text.length<=1500
theorem rD.allS:∀(l:List OpC) {N:Nat} {x:SE},rD N x.E->(∀o∈l,OkO o)->rD (N+25*l.length) (allS x l).1.E
 | [],_,_,h,_=>h
 | o::l,N,x,h,ho=>by
  unfold Go.Proofs.YtebjhcjbfaaejaaGreatDoor.allS;have h1:=h.oneS (ho o (sB ..)).1 (ho o (sB ..)).2;rw[gD]
  split
  ·exact(rD.allS l h1 fun p b=>ho p (uC _ b)).mono (by omega)
  ·exact h1.mono (by omega)
end
section
section
variable {c : Nat} {s : PS} {C : Nat -> List UInt8}
theorem zE.app4(h:zE c s C)(f:c+1<4294967296){b:List UInt8}(g:aK s.n b s.held=some O)(d:O≠[])(i:pA b.length<=65535):lC s.D s.l b≠4:=by
 rcases h.app f g d with ⟨a,_⟩|⟨_,_,a,_⟩|⟨a,_⟩|⟨a,_⟩
 ·omega
 ·rw[a];decide
 ·rw[a];decide
 ·rw[a];decide
theorem zE.not4(h:zE c s C)(B:c+4<4294967296)(E:s.n<=100):s.commit.2≠4:=by
 have d:¬s.br=true:=by rw[h.br];decide
 by_cases f:s.late=[]
 ·unfold PS.commit;rw[eA d,iA f];show(0:Int)≠4;decide
 ·have o:pA (bD s.late).length<=65535:=by
   have h1:=eO h.late.mem;have h2:=h.late.few;unfold pA
   split<;>omega
  have t:=h.n2;have p:aK s.n (bD s.late) s.held=some (gH s.held s.late):=kU (by omega) s.late s.held h.late.mem
  have u:(s.append (bD s.late)).2≠4:=by
   have h1:=h.app4 (by omega) p (xL h.late f) o;unfold PS.append
   by_cases m:lC s.D s.l (bD s.late)≠5∨s.held=[]
   ·rw[iA m];exact h1
   ·rw[eA m]
    have i:lC s.D s.l (bD s.late)=5:=by
     by_cases r:lC s.D s.l (bD s.late)=5
     ·exact r
     ·exact absurd (.inl r) m
    have b:s.laid (bD s.late)=s:=by
     rcases h.app (by omega) p (xL h.late f) with ⟨_,a,_⟩|⟨_,_,_,a⟩|⟨a,_⟩|⟨a,_⟩
     ·rw[i]at a;cases a
     ·exact a
     ·rw[i]at a;cases a
     ·rw[i]at a;cases a
    rw[b];rcases h.checked (by omega) with ⟨g,v,x,y,q,z,A⟩|⟨g,_⟩
    ·rw[eA (by rw[g];decide)];have j:aK s.check.1.n (bD s.late) s.check.1.held=some (gH s.check.1.held s.late):=kU (by omega) s.late _ (by rw[q];exact h.late.mem);have k:vG s.check.1.n s.late:=by rw[q];exact h.late
     exact v.app4 (by omega) j (xL k f) o
    ·rw[iA (by rw[g];decide),g];decide
  unfold PS.commit;rw[eA d,eA f]
  split
  ·exact u
  ·show(0:Int)≠4;decide
end
structure bM (c:Nat) (s:PS) (K:Nat->En):Prop where
 inv:∃C,zE c s C/\oI C s.n K
 done:s.D.done<=300000*c
def aKR (c n log:Nat) (D:DM) (K:Nat->En):Prop:=∃C,eJ c n log D C/\oI C n K
section
variable {c : Nat} {s s' : PS} {K E : Nat -> En}
theorem bM.mono{c':Nat}(h:bM c s K)(b:c<=c'):bM c' s K:=by
 obtain⟨C,h1,h2⟩:=h.inv;exact⟨⟨C,h1.mono b,h2⟩,by have:=h.done;omega⟩
theorem Wr.comL(h:Wr s s')(b:bM c s K):bM c s' K:=by
 obtain⟨C,h1,h2⟩:=b.inv;exact⟨⟨C,h.inv h1,by rw[h.same.n];exact h2⟩,by rw[h.same.D];exact b.done⟩
theorem bM.br(h:bM c s K):s.br=false:=by obtain⟨C,h1,_⟩:=h.inv;exact h1.br
theorem bM.calm(h:bM c s K):aAG s:=by obtain⟨C,h1,_⟩:=h.inv;exact h1.calm
theorem bM.held(h:bM c s K):s.held.length<=s.n:=by obtain⟨C,h1,_⟩:=h.inv;exact h1.held.few
theorem bM.n2(h:bM c s K):s.n<=4096:=by obtain⟨C,h1,_⟩:=h.inv;exact h1.n2
theorem bM.store(h:bM c s K)(d:s.late=[]):oI s.page s.n K:=by
 obtain⟨C,h1,h2⟩:=h.inv;exact h2.congr fun k b=>by rw[h1.page_eq b,d];rfl
theorem bM.rolled(h:bM c s K):bM c { s with late:=[] } K:=by
 obtain⟨C,h1,h2⟩:=h.inv;exact⟨⟨C,h1.rolled,h2⟩,h.done⟩
theorem aKR.open_{n log:Nat}{D:DM}(h:aKR c n log D K)(g:c+1<4294967296)(i:D.done<=300000*(c+1)):
  ∃H,iF n ((rA log none (D.S.take log)).map (·.2)) []=some H/\bM (c+1) (gG n log D H) K/\(tB (D.S.take log)).1<4294967295/\D.dead=false/\D.P=[]/\log+8*n<=D.S.length/\1<=n/\n<=4096/\1<=log:=by
 obtain⟨C,h1,h2⟩:=h;obtain⟨H,b,d,f⟩:=h1.open_ g;exact⟨H,b,⟨⟨C,d,h2⟩,i⟩,f,h1.dead,h1.pend,h1.fit,h1.n1,h1.n2,h1.log1⟩
theorem bM.commit(h:bM c s K)(q:c+4<4294967296)(u:s.n<=100)(r:oI s.page s.n E):
  (s.commit.2=0/\bM (c+3) s.commit.1 E/\s.commit.1.late=[]/\s.commit.1.n=s.n/\s.commit.1.l.n=s.l.n/\(s.D.limit = -1->s.commit.1.D.limit = -1)) ∨
  (s.commit.2=5/\bM (c+3) s.commit.1 K/\s.commit.1.n=s.n/\s.commit.1.l.n=s.l.n/\(s.D.limit = -1->s.commit.1.D.limit = -1)) ∨
  (s.commit.2=10/\s.commit.1.D.dead=true/\s.D.limit≠-1/\s.commit.1.D.done<=300000*(c+3)/\∀Q,aKR (c+3) s.n s.l.n (s.commit.1.D.reopen Q) K∨aKR (c+3) s.n s.l.n (s.commit.1.D.reopen Q) E):=by
 have t:s.commit.2≠4:=by
  obtain⟨C,h1,_⟩:=h.inv;exact h1.not4 q u
 have v:=aIs s h.held h.n2;have b:s.commit.1.D.done<=300000*(c+3):=by have:=h.done;omega
 obtain⟨C,h1,h2⟩:=h.inv;rcases h1.committed q with ⟨g,i,j,f,m,o⟩|⟨g,i,j,f,m,o,_⟩|⟨g,i,j,f⟩
 ·refine .inl ⟨g,⟨⟨_,i,?_⟩,b⟩,j,f,m,o⟩;rw[f];exact r.congr fun k p=>(h1.page_eq p).symm
 ·exact .inr (.inl ⟨g.resolve_left t,⟨⟨C,i,by rw[f];exact h2⟩,b⟩,f,m,o⟩)
 ·refine .inr (.inr ⟨g,i,j,b,fun Q=>?_⟩);rcases f Q with d|d
  ·exact .inl ⟨C,d,h2⟩
  ·exact .inr ⟨_,d,r.congr fun k p=>(h1.page_eq p).symm⟩
theorem bM.check(h:bM c s K)(o:c+1<4294967296):
  (s.check.2=0/\bM (c+1) s.check.1 K/\s.check.1.late=s.late/\s.check.1.n=s.n/\s.check.1.l.n=s.l.n/\(s.D.limit = -1->s.check.1.D.limit = -1)) ∨
  (s.check.2=10/\s.check.1.D.dead=true/\s.D.limit≠-1/\s.check.1.D.done<=300000*(c+1)/\∀Q,aKR (c+1) s.n s.l.n (s.check.1.D.reopen Q) K):=by
 have p:=iX s h.held h.n2;have b:s.check.1.D.done<=300000*(c+1):=by have:=h.done;omega
 obtain⟨C,h1,h2⟩:=h.inv;rcases h1.checked o with ⟨d,f,_,g,i,j,k⟩|⟨d,f,m,g⟩
 ·exact .inl ⟨d,⟨⟨C,f,by rw[i];exact h2⟩,b⟩,g,i,j,k⟩
 ·exact .inr ⟨d,f,m,b,fun Q=>⟨C,g Q,h2⟩⟩
end
theorem aFh(c0:Ct):∀(l:List OpC) (c:Ct),(doC c0 c l).2≠10
 | [],_=>by show(0:Int)≠10;decide
 | o::l,c=>by
  unfold doC
  split
  ·exact aFh c0 l _
  ·show(aEs c o).2≠10
   unfold aEs
   repeat' split
   all_goals simp
structure Liv (cc N:Nat) (x:SE) (c:Ct):Prop where
 com:bM cc x.s x.E
 late:x.s.late=[]
 few:rD N x.E
 rep:Rep x.E c
theorem Liv.mono{N cc' N':Nat}{x:SE}{c:Ct}(h:Liv n N x c)(h1:n<=cc')(h2:N<=N'):Liv cc' N' x c:=⟨h.com.mono h1,h.late,h.few.mono h2,h.rep⟩
def OffC (cc N n log:Nat) (D:DM) (c:Ct):Prop:=∃E,aKR cc n log D E/\rD N E/\Rep E c
theorem aMf{N:Nat}{x:SE}{c:Ct}(h:Liv i N x c){l:List OpC}(C:∀o∈l,OkO o)(B:Wr x.s (allS x l).1.s)(F:oI (allS x l).1.s.page x.s.n (allS x l).1.E)(z:i+4<4294967296)(G:x.s.n<=100):
  ((doS x l).2=10/\(doS x l).1.s.D.dead=true/\x.s.D.limit≠-1/\(doS x l).1.s.D.done<=300000*(i+3)/\(doC c c l).2=0/\∀Q,OffC (i+3) (N+25*l.length) x.s.n x.s.l.n ((doS x l).1.s.D.reopen Q) c∨OffC (i+3) (N+25*l.length) x.s.n x.s.l.n ((doS x l).1.s.D.reopen Q) (doC c c l).1) ∨
  (((doS x l).2=(doC c c l).2∨(doS x l).2=5)/\(doS x l).2≠10/\(doS x l).1.s.n=x.s.n/\(doS x l).1.s.l.n=x.s.l.n/\(x.s.D.limit = -1->(doS x l).1.s.D.limit = -1)/\Liv (i+3) (N+25*l.length) (doS x l).1 (if (doS x l).2=0 then (doC c c l).1 else c)):=by
 have q:=rD.allS l h.few C;have r:rD (N+25*l.length) x.E:=h.few.mono (by omega);have j:=B.same;have A:=aKQ c l h.rep;have t:=B.comL h.com;have v:=aFh c l c;unfold doS
 by_cases h1:(allS x l).2=0
 ·have y:¬ (allS x l).2≠0:=fun h=>h h1;rw[eA y]
  have p:(doC c c l).2=0/\Rep (allS x l).1.E (doC c c l).1:=by
   rcases A with ⟨a,b⟩|a
   ·exact⟨by rw[<- a];exact h1,b (by rw[<- a];exact h1)⟩
   ·rw[h1]at a;cases a
  rcases t.commit z (by rw[j.n];exact G) (E:=(allS x l).1.E) (by rw[j.n];exact F) with ⟨a,b,d,e,f,g⟩|⟨a,b,e,f,g⟩|⟨a,b,d,e,f⟩
  ·rw[eA (by rw[a];decide)];refine .inr ⟨.inl p.1.symm,by show(0:Int)≠10;decide,by rw[<- j.n];exact e,by rw[<- j.l];exact f,fun u=>g (by rw[j.D];exact u),?_⟩;rw[iA rfl];exact⟨b,d,q,p.2⟩
  ·rw[iA (by rw[a];decide)];refine .inr ⟨.inr a,by show(allS x l).1.s.commit.2≠10;rw[a];decide,by rw[<- j.n];exact e,by rw[<- j.l];exact f,fun u=>g (by rw[j.D];exact u),?_⟩;rw[eA (by show ¬ (allS x l).1.s.commit.2=0;rw[a];decide)];exact⟨(b.rolled),rfl,r,h.rep⟩
  ·rw[iA (by rw[a];decide)];refine .inl ⟨a,b,by rw[<- j.D];exact d,e,p.1,fun Q=>?_⟩;rw[<- j.n,<- j.l];rcases f Q with k|k
   ·exact .inl ⟨x.E,k,r,h.rep⟩
   ·exact .inr ⟨_,k,q,p.2⟩
 ·rw[iA h1]
  have m:((allS x l).2=(doC c c l).2∨(allS x l).2=5)/\(allS x l).2≠10:=by
   rcases A with ⟨a,_⟩|a
   ·exact⟨.inl a,by rw[a];exact v⟩
   ·exact⟨.inr a,by rw[a];decide⟩
  refine .inr ⟨m.1,m.2,j.n,by rw[<- j.l],fun u=>by show(allS x l).1.s.D.limit = -1;rw[j.D];exact u,?_⟩;rw[eA h1];exact⟨(t.mono (by omega)).rolled,rfl,r,h.rep⟩
end
end Go.Proofs.YtebjhcjbfaaejaaGreatDoor
