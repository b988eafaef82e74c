/-
  Joined: Jl Jp Jq Jr Pm
-/
import Derived.Lib.SlBytesConst
import Derived.Test.YtebjhcjbfaaejaaGreatDoorJca4
set_option maxRecDepth 100000
set_option maxHeartbeats 32000000
namespace Go.Proofs.YtebjhcjbfaaejaaGreatDoor
open Go.Proofs.Tryz
variable {H:List (List UInt8)}
section
open Go.RowKit
def DkX (w0 w:World) (d:Nat) (D:DM) (X:Nat->Prop):Prop:=∃fp,fF w d D fp/\(∀k∈fp,w0.heap.size<=k/\¬ X k)/\Fr [] w0 w/\∀k,X k->k<w.heap.size
def Kp (X:Nat->Prop) (w w':World):Prop:=∃S,Fr S w w'/\∀x∈S,¬ X x
section
variable {w0 w w' : World} {d : Nat} {D D' : DM} {X Y : Nat -> Prop}
theorem Kp.blk(h:Kp X w w'){g:Nat}{t:TypeId}{cs:List Value}(j:Blk w g t cs)(k:X g):Blk w' g t cs:=by
 obtain⟨S,b,c⟩:=h;exact j.fr b (fun i=>c _ i k)
theorem Kp.bytes(h:Kp X w w'){g:Nat}{v:Value}{bs:List UInt8}(j:cA w v bs g)(k:X g):cA w' v bs g:=by
 obtain⟨S,b,c⟩:=h;exact j.fr b (fun i=>c _ i k)
theorem Kp.of(b:Fr [] w w'):Kp X w w':=⟨[],b,by simp⟩
theorem DkX.fr(h:DkX w0 w d D X)(g:Fr [] w w'):DkX w0 w' d D (fun k=>X k∨w.heap.size<=k/\k<w'.heap.size):=by
 obtain⟨i,h1,h2,h3,j⟩:=h;have l:=g.size;refine⟨i,h1.fr g,fun k c=>⟨(h2 k c).1,?_⟩,h3.trans g,?_⟩
 ·rintro(b|b)
  ·exact(h2 k c).2 b
  ·have:=h1.lt k c;omega
 ·rintro k (b|b)
  ·have:=j k b;omega
  ·exact b.2
theorem DkX.frame(h:DkX w0 w d D X):Fr [] w0 w:=by obtain⟨_,_,_,h,_⟩:=h;exact h
theorem aOm(w0 w:World)(n:Nat)(h1:1<=n)(q:n<=65536)(i:Fr [] w0 w)(j:∀k,X k->k<w.heap.size):
  Calls prog 8 #[.int .i64 n] w fun e w'=>∃d,e=.returned (.tuple #[.pointer (some ⟨d,0,none⟩),.int .i64 0])/\DkX w0 w' d (DM.new n) X/\Fr [] w w':=by
 refine(aRz n w h1 q).mono ?_;rintro e w' ⟨d,m,o,p,b,g⟩;have l:=b.size;exact⟨d,o,⟨m,p,fun k h=>⟨aF i.size (g k h),fun c=>by have:=j k c;have:=g k h;omega⟩,i.trans b,fun k c=>pO (j k c) l⟩,b⟩
end
def aOn (D:DM) (f n:Nat):List (eC×List UInt8):=rA n none (D.part f n)
def aOo (D:DM) (f n:Nat):LG:=
 { f:=f,n:=n,at_:=((aOn D f n).map (·.1.count)).sum,num:=fK (((tB (D.part f n)).2+1)%4294967296) (fH (aOn D f n)),ses:=(tB (D.part f n)).1+1,br:=false }
structure LG.ok (l:LG) (D:DM):Prop where
 at_:l.at_<=l.n
 fit:l.f+l.n<=D.S.length
 num:l.num<4294967296
 ses:l.ses<4294967296
theorem aCM:∀(k:Nat) (last:Option eC) (L:List (List UInt8)),((rA k last L).map (·.1.count)).sum<=L.length
 | 0,_,L=>by simp[rA]
 | k+1,last,L=>by
  cases c:bB L with
  | none=>rw[lH c];simp
  | some x=>
   obtain⟨st,b⟩:=x;have g:=pH c
   cases d:bO last st with
   | true=>rw[uL c d];simp
   | false=>
    rw[dM c d];have:=aCM k (some st) (L.drop st.count);simp only[yJ,List.sum_cons,mC]at this⊢;omega
theorem aOp{D:DM}{f n:Nat}(b:f+n<=D.S.length)(c:(tB (D.part f n)).1<4294967295):(aOo D f n).ok D:=by
 refine⟨?_,b,?_,?_⟩
 ·have:=aCM n none (D.part f n);rw[D.part_len]at this;exact this
 ·show fK _ _<_
  unfold fK
  split<;>omega
 ·show _+1<_;omega
section
variable {w0 w w' : World} {d : Nat} {D D' : DM} {X Y : Nat -> Prop}
end
end
section
theorem aRo(n:Nat)(h:n<4294967296):zC [wB n 3,wB n 2,wB n 1,wB n 0]=n:=by
 simp[zC,wB]
 omega
theorem aOq(n:Nat)(h:n<65536):zC [wB n 1,wB n 0]=n:=by
 simp[zC,wB]
 omega
theorem aEp(p:Pc)(h1:p.st.session<4294967296)(h2:p.st.number<4294967296)(h3:p.st.count<65536)(k:p.place<65536)(m:p.b.length<=48):jB (pad (lD p))=some p:=by
 have d:(pad (lD p)).length=64:=aGg (by rw[cW];omega)
 obtain⟨Z,c⟩:∃Z,pad (lD p)=165::90::wB p.st.session 3::wB p.st.session 2::wB p.st.session 1::wB p.st.session 0::wB p.st.number 3::wB p.st.number 2::wB p.st.number 1::wB p.st.number 0 ::
   wB p.place 1::wB p.place 0::wB p.st.count 1::wB p.st.count 0::UInt8.ofNat p.b.length::0::(p.b++Z):=⟨List.replicate (64-(lD p).length) 0,by simp[pad,lD]⟩
 have l:(UInt8.ofNat p.b.length).toNat=p.b.length:=by simp;omega
 unfold jB;rw[iA ⟨d,by rw[c];rfl,by rw[c];rfl,by rw[c];show(UInt8.ofNat p.b.length).toNat<=48;omega⟩,c];have g:=aRo _ h1;have h:=aRo _ h2;have i:=aOq _ h3;have j:=aOq _ k
 simp[g,h,i,j]
 rw[pK (by omega),rK]
def aBv (ses num:Nat) (b:List UInt8) (k:Nat):List UInt8:=pad (lD (gE ses num b k))
def nI (ses num:Nat) (b:List UInt8):List (List UInt8):=(List.range (pA b.length)).map (aBv ses num b)
theorem aHv(ses num:Nat)(b:List UInt8):(gC ses num b).map pad=nI ses num b:=by simp[gC,nI,aBv]
theorem aI(ses num:Nat)(b:List UInt8):(nI ses num b).length=pA b.length:=by simp[nI]
theorem dY(ses num:Nat)(b:List UInt8){k:Nat}(c:k<pA b.length):(nI ses num b)[k]? = some (aBv ses num b k):=by simp[nI,c]
theorem aHw(n:Nat):1<=pA n:=by unfold pA;split<;>omega
theorem aQp(n:Nat):n<=48*pA n:=by unfold pA;split<;>omega
structure aJS (ses num:Nat) (b:List UInt8):Prop where
 ses:ses<4294967296
 num:num<4294967296
 need:pA b.length<=65535
theorem jU(ses num:Nat)(b:List UInt8)(k:Nat):(gE ses num b k).b.length=min 48 (b.length-48*k):=by simp[gE]
theorem vL{ses num:Nat}{b:List UInt8}(h:aJS ses num b){k:Nat}(c:k<pA b.length):jB (aBv ses num b k)=some (gE ses num b k):=by
 have:=h.need;exact aEp _ h.ses h.num (by show pA b.length<65536;omega) (by show k<65536;omega) (by rw[jU];omega)
def oF (ses num:Nat) (b:List UInt8):eC:=⟨ses,num,pA b.length⟩
theorem eY{ses num:Nat}{b:List UInt8}(h:aJS ses num b):∀(j k:Nat),k+j=pA b.length->nC (oF ses num b) k ((List.range' k j).map (aBv ses num b))=some (b.drop (48*k))
 | 0,k,hk=>by
  have:=aQp b.length;rw[nP (by omega)]
  rfl
 | j+1,k,hk=>by
  have d:k<pA b.length:=by omega
  rw[List.range'_succ,yJ];simp only[nC,vL h d]
  have c:k+1<(oF ses num b).count->(gE ses num b k).b.length=48:=fun g=>by
   rw[jU];have:=aLp (m:=b.length) (k:=k+1) g;omega
  rw[iA ⟨rfl,rfl,c⟩,eY h j (k+1) (by omega)];simp only[yP,vI]
  show(b.drop (48*k)).take 48++b.drop (48*(k+1))=b.drop (48*k)
  rw[show 48*(k+1)=48*k+48 by omega,<- List.drop_drop,bN]
theorem eW{ses num:Nat}{b:List UInt8}(h:aJS ses num b)(T:List (List UInt8)):bB (nI ses num b++T)=some (oF ses num b,b):=by
 have c:=aHw b.length;have g:=eY h (pA b.length) 0 (by omega);have ht:(nI ses num b++T).take (pA b.length)=nI ses num b:=by rw[<- aI ses num b,rK]
 obtain⟨r,j⟩:∃r,nI ses num b++T=aBv ses num b 0::r:=by
  cases d:nI ses num b++T with
  | nil=>have:=congrArg List.length d;rw[lB,aI]at this;simp at this;omega
  | cons x r=>
   have h0:(nI ses num b++T)[0]? = some (aBv ses num b 0):=by rw[kM (by rw[aI];omega),dY ses num b c]
   rw[d]at h0
   simp at h0
   exact⟨r,by rw[h0]⟩
 have i:pA b.length<=(nI ses num b++T).length:=by rw[lB,aI];omega
 rw[j]at ht i⊢;simp only[bB,vL h c];rw[eA (by show ¬ (pA b.length<1∨_<pA b.length);omega)]
 show(nC (oF ses num b) 0 ((aBv ses num b 0::r).take (pA b.length))).map _=_
 rw[ht];unfold nI;rw[List.range_eq_range',g]
 rfl
theorem aCN{st:eC}:∀(L:List (List UInt8)) (k:Nat) (b:List UInt8),nC st k L=some b->∀j s,L[j]? = some s->∃q,jB s=some q/\q.st=st/\q.place=k+j
 | [],k,b,h,j,s,hj=>by simp at hj
 | x::L,k,b,h,j,s,hj=>by
  simp only[nC]at h
  cases d:jB x with
  | none=>rw[d]at h;cases h
  | some q=>
   rw[d]at h
   simp only at h
   split at h
   ·rename_i l
    obtain⟨c,g,_⟩:=Option.map_eq_some_iff.1 h
    cases j with
    | zero=>simp at hj;subst hj;exact⟨q,d,l.1,by omega⟩
    | succ j=>
     obtain⟨i,h1,h2,h3⟩:=aCN L (k+1) c g j s (by simpa using hj);exact⟨i,h1,h2,by omega⟩
   ·cases h
theorem gQ{L:List (List UInt8)}{st:eC}{b:List UInt8}(h:bB L=some (st,b)){k:Nat}(l:k<st.count):∃s q,L[k]? = some s/\jB s=some q/\q.st=st/\q.place=k:=by
 have m:=pH h
 cases L with
 | nil=>simp[bB]at h
 | cons s L=>
  simp only[bB]at h
  cases j:jB s with
  | none=>rw[j]at h;cases h
  | some p=>
   rw[j]at h
   simp only at h
   split at h
   ·cases h
   ·obtain⟨c,g,i⟩:=Option.map_eq_some_iff.1 h;simp only[Prod.mk.injEq]at i;obtain⟨rfl,rfl⟩:=i;have d:k<(s::L).length:=by omega
    obtain⟨q,h1,h2,h3⟩:=aCN _ 0 c g k _ (by rw[xG,iA l];exact xD d);exact⟨_,q,xD d,h1,h2,by omega⟩
theorem fY{L L':List (List UInt8)}{st:eC}{b:List UInt8}(h:bB L=some (st,b))(g:∀k,k<st.count->L'[k]? = L[k]?):bB L'=some (st,b):=by
 have o:=pH h
 have q:st.count<=L'.length:=by
  have h1:=g (st.count-1) (by omega);rw[xD (show st.count-1<L.length by omega)]at h1;have:=(tD.1 h1).1;omega
 have ht:L'.take st.count=L.take st.count:=by
  apply fT
  intro i;rw[xG,xG]
  split
  ·exact g i (by assumption)
  ·rfl
 have h0:=g 0 (by omega)
 cases L with
 | nil=>simp[bB]at h
 | cons s L=>
  cases L' with
  | nil=>simp at h0
  | cons m L'=>
   simp at h0
   subst h0;simp only[bB]at h⊢
   cases l:jB m with
   | none=>rw[l]at h;cases h
   | some p=>
    rw[l]at h
    simp only at h⊢
    split at h
    ·cases h
    ·obtain⟨c,d,j⟩:=Option.map_eq_some_iff.1 h;simp only[Prod.mk.injEq]at j;obtain⟨rfl,rfl⟩:=j;rw[eA (by omega),ht,d]
     rfl
def aMB (L L':List (List UInt8)) (ses num:Nat) (b:List UInt8):Prop:=
 L'.length=L.length/\∀j,L'[j]? = L[j]?∨(j<pA b.length/\L'[j]? = some (aBv ses num b j))
def aOr (L:List (List UInt8)) (ses num:Nat):Prop:=∀s∈L,∀q,jB s=some q->¬ (q.st.session=ses/\q.st.number=num)
theorem aHx{L L':List (List UInt8)}{ses num:Nat}{b:List UInt8}(o:aMB L L' ses num b)(p:aJS ses num b)(u:aOr L ses num){st:eC}{b':List UInt8}(h:bB L'=some (st,b')):
  (st=oF ses num b/\b'=b/\L'=nI ses num b++L.drop (pA b.length))∨bB L=some (st,b'):=by
 have v:=pH h
 by_cases t:st.session=ses/\st.number=num
 ·left
  have d:∀k,k<st.count->k<pA b.length/\L'[k]? = some (aBv ses num b k):=by
   intro k m;obtain⟨s,q,h1,h2,h3,r⟩:=gQ h m;rcases o.2 k with c|c
   ·rw[h1]at c;exact absurd (by rw[h3];exact t) (u s (rG c.symm) q h2)
   ·exact c
  obtain⟨g,j⟩:=d 0 (by omega);obtain⟨s,q,h1,h2,h3,r⟩:=gQ h (k:=0) (by omega);rw[h1]at j;injection j with j;subst j;rw[vL p g]at h2;injection h2 with h2;subst h2;have l:st=oF ses num b:=h3.symm;subst l
  have e:L'=nI ses num b++L'.drop (pA b.length):=by
   conv=>lhs;rw[<- bN (pA b.length) L']
   congr 1
   apply fT
   intro i;rw[xG]
   split
   ·rw[(d i (by assumption)).2,dY ses num b (by assumption)]
   ·rw[fR (by rw[aI];omega)]
  refine⟨rfl,?_,?_⟩
  ·rw[e,eW p]at h
   simp at h
   exact h.symm
  ·rw[e]
   congr 1
   apply fT
   intro i;rw[xJ,xJ];rcases o.2 (pA b.length+i) with c|c
   ·rw[c]
   ·omega
 ·right
  refine fY h fun k m=>?_;obtain⟨s,q,h1,h2,h3,r⟩:=gQ h m;rcases o.2 k with c|⟨c,g⟩
  ·exact c.symm
  ·rw[h1]at g;injection g with g;subst g;rw[vL p c]at h2;injection h2 with h2;subst h2;exact absurd (by rw[<- h3];exact⟨rfl,rfl⟩) t
theorem aMC{L L':List (List UInt8)}{ses num:Nat}{b:List UInt8}(d:aMB L L' ses num b)(h:∀k,k<pA b.length->k<L.length->L'[k]? = some (aBv ses num b k))(g:pA b.length<=L.length):L'=nI ses num b++L.drop (pA b.length):=by
 apply fT
 intro i;rcases iP i (pA b.length) with hi|hi
 ·rw[kM (by rw[aI];exact hi),dY ses num b hi];exact h i hi (by omega)
 ·rw[dK (by rw[aI];exact hi),aI,xJ,show pA b.length+(i-pA b.length)=i by omega];rcases d.2 i with c|c
  ·exact c
  ·omega
def aMD:List UInt8:=List.replicate 64 0
theorem aCO:jB aMD=none:=by decide +kernel
theorem aME{L:List (List UInt8)}(h:∀s∈L,s=aMD):bB L=none:=by
 cases L with
 | nil=>rfl
 | cons s L=>
  have:=h s (sB ..);subst this;simp only[bB,aCO]
theorem aJT(L:List (List UInt8)):∀a:Nat×Nat,a.1<=(gF a L).1/\a.2<=(gF a L).2/\∀s∈L,∀q,jB s=some q->q.st.session<=(gF a L).1/\q.st.number<=(gF a L).2:=by
 induction L with
 | nil=>intro a;exact⟨tA _,tA _,by simp⟩
 | cons s L g=>
  intro a;have h:=g (xI a s);have e:gF a (s::L)=gF (xI a s) L:=rfl;rw[e]
  have d:a.1<=(xI a s).1/\a.2<=(xI a s).2/\∀q,jB s=some q->q.st.session<=(xI a s).1/\q.st.number<=(xI a s).2:=by
   unfold xI
   cases i:jB s with
   | none=>exact⟨tA _,tA _,by simp⟩
   | some p=>exact⟨Nat.le_max_left ..,Nat.le_max_left ..,fun q b=>by simp at b;subst b;exact⟨Nat.le_max_right ..,Nat.le_max_right ..⟩⟩
  refine⟨by omega,by omega,fun x c q b=>?_⟩;rcases kB.1 c with rfl|c
  ·have:=d.2.2 q b;omega
  ·exact h.2.2 x c q b
theorem aJU(L:List (List UInt8))(c e:Nat)(h:∀s∈L,∀q,jB s=some q->q.st.session<=c/\q.st.number<=e):∀a:Nat×Nat,a.1<=c->a.2<=e->(gF a L).1<=c/\(gF a L).2<=e:=by
 induction L with
 | nil=>intro a h1 h2;exact⟨h1,h2⟩
 | cons s L i=>
  intro a h1 h2
  have b:(xI a s).1<=c/\(xI a s).2<=e:=by
   unfold xI
   cases g:jB s with
   | none=>exact⟨h1,h2⟩
   | some p=>have:=h s (sB ..) p g;exact⟨by show max _ _<=_;omega,by show max _ _<=_;omega⟩
  exact i (fun x d=>h x (uC _ d)) _ b.1 b.2
end
section
def dN (pos:Nat):List (List UInt8)->List (Nat×List UInt8)
 | []=>[]
 | s::ss=>(pos,pad s)::dN (pos+1) ss
theorem aQq(c:List (List UInt8)):∀pos,∀p∈dN pos c,∃i s,c[i]? = some s/\p=(pos+i,pad s):=by
 induction c with
 | nil=>intro pos p b;simp[dN]at b
 | cons s c g=>
  intro pos p b;rcases kB.1 b with rfl|b
  ·exact⟨0,s,rfl,rfl⟩
  ·obtain⟨i,d,h1,h2⟩:=g (pos+1) p b;exact⟨i+1,d,by simpa using h1,by rw[h2,show pos+1+i=pos+(i+1) by omega]⟩
theorem aQr(b:List (List UInt8)):∀(D:DM) (pos:Nat),D.dead=false->pos+b.length<=D.S.length->(∀s∈b,s.length<=64)->(D.limit = -1∨(b.length:Int)<D.limit) ->
  oT D pos b=({ S:=vB D.S (D.P++dN pos b),P:=[],limit:=if D.limit = -1 then -1 else D.limit-b.length-1,dead:=false,done:=D.done+b.length+1 },0):=by
 induction b with
 | nil=>
  intro D pos d i h c;simp only[List.length_nil]at c
  show(D.sync,D.syncE)=_
  have h0:D.limit≠0:=by omega
  simp only[DM.sync,DM.syncE,d,qG,dE,h0,DM.spent,dN,dI,List.length_nil]
  congr 2
  split
  ·rw[eA (by omega)];simp
  ·rw[iA (by omega)];omega
 | cons s b l=>
  intro D pos d i h c;simp only[gD]at c i;have g:=h s (sB ..);have h0:D.limit≠0:=by omega
  have j:D.writeE (pos:Int) s=0:=by
   unfold DM.writeE;rw[d,eA (by simp),eA (by omega),eA h0]
  rw[bY j,gU d (by omega) g h0];rw[l { D.spent with P:=D.P++[(pos,pad s)] } (pos+1) d (by show pos+1+b.length<=D.S.length;omega) (fun x k=>h x (uC _ k)) (by show(if 0<D.limit then D.limit-1 else D.limit) = -1∨(b.length:Int)<(if 0<D.limit then D.limit-1 else D.limit);split<;>omega)];simp only[DM.spent,dN,qF,List.singleton_append,gD]
  congr 2
  ·rcases c with c|c<;>(repeat' split)<;>omega
  ·omega
theorem aMF(c:List (List UInt8)):∀(D:DM) (pos:Nat),D.dead=false->pos+c.length<=D.S.length->(∀s∈c,s.length<=64)->0<=D.limit->D.limit<=c.length ->
  oT D pos c=({ S:=D.S,P:=D.P++(dN pos c).take D.limit.toNat,limit:=0,dead:=true,done:=D.done+D.limit.toNat },10):=by
 induction c with
 | nil=>
  intro D pos d l i j k;have h0:D.limit=0:=by simp at k;omega
  show(D.sync,D.syncE)=_
  simp[DM.sync,DM.syncE,d,h0,DM.died,dN]
 | cons s c p=>
  intro D pos d l i j k;simp only[gD]at k l;have h:=i s (sB ..)
  by_cases h0:D.limit=0
  ·have g:D.writeE (pos:Int) s=10:=by
    unfold DM.writeE;rw[d,eA (by simp),eA (by omega),iA h0]
   have m:D.write (pos:Int) s=D.died:=by
    unfold DM.write;rw[d,eA (by simp),eA (by omega),iA h0]
   rw[fV (by rw[g];decide),g,m,h0]
   simp[DM.died,h0]
  ·have g:D.writeE (pos:Int) s=0:=by
    unfold DM.writeE;rw[d,eA (by simp),eA (by omega),eA h0]
   rw[bY g,gU d (by omega) h h0];have b:0<D.limit:=by omega
   rw[p { D.spent with P:=D.P++[(pos,pad s)] } (pos+1) d (by show pos+1+c.length<=D.S.length;omega) (fun x o=>i x (uC _ o)) (by show 0<=(if 0<D.limit then D.limit-1 else D.limit);rw[iA b];omega) (by show(if 0<D.limit then D.limit-1 else D.limit)<=_;rw[iA b];omega)];simp only[DM.spent,dN,qF,List.singleton_append,b,mH];have e:D.limit.toNat=(D.limit-1).toNat+1:=by omega
   rw[e,List.take_succ_cons]
   congr 2
   omega
theorem aMG(b:List (List UInt8)):∀A B,b.length<=B.length->vB (A++B) (dN A.length b)=A++(b.map pad++B.drop b.length):=by
 induction b with
 | nil=>intro A B _;simp[dN,vB]
 | cons s b d=>
  intro A B c
  cases B with
  | nil=>simp at c
  | cons x B=>
   show vB ((A++x::B).set A.length (pad s)) (dN (A.length+1) b)=_
   have e:(A++x::B).set A.length (pad s)=(A++[pad s])++B:=by simp
   have h:=d (A++[pad s]) B (by simpa using c);rw[lB,aAd]at h;rw[e,h]
   simp
theorem aHy(d:List (List UInt8))(pos:Nat):∀(b:List (Nat×List UInt8)) (S:List (List UInt8)),(∀p∈b,∃i s,d[i]? = some s/\p=(pos+i,pad s)) ->
  (vB S b).length=S.length/\∀j,(vB S b)[j]? = S[j]?∨∃i s,d[i]? = some s/\j=pos+i/\(vB S b)[j]? = some (pad s)
 | [],S,_=>⟨rfl,fun j=>.inl rfl⟩
 | p::b,S,h=>by
  obtain⟨i,s,hi,rfl⟩:=h p (sB ..);obtain⟨h1,h2⟩:=aHy d pos b (S.set (pos+i) (pad s)) (fun q k=>h q (uC _ k));refine⟨by rw[show vB S ((pos+i,pad s)::b)=vB (S.set (pos+i) (pad s)) b from rfl,h1];simp,fun j=>?_⟩;rw[show vB S ((pos+i,pad s)::b)=vB (S.set (pos+i) (pad s)) b from rfl];rcases h2 j with h3|h3
  ·rw[h3,List.getElem?_set]
   by_cases c:pos+i=j
   ·rw[iA c]
    by_cases g:pos+i<S.length
    ·right;exact⟨i,s,hi,c.symm,by simp[g]⟩
    ·left;simp[g];rw[<- c];omega
   ·left;rw[eA c]
  ·exact .inr h3
structure St (D:DM) (f:Nat) (V:List (List UInt8)):Prop where
 dead:D.dead=false
 pend:D.P=[]
 part:∃S0 S1,D.S=S0++(V++S1)/\S0.length=f
theorem St.fit{D:DM}{f:Nat}(h:St D f H):f+H.length<=D.S.length:=by
 obtain⟨b,S1,h1,h2⟩:=h.part;rw[h1];simp;omega
theorem St.view{D:DM}{f:Nat}(h:St D f H){n:Nat}(c:H.length=n):D.part f n=H:=by
 obtain⟨b,S1,h1,h2⟩:=h.part
 apply fT
 intro i;unfold DM.part;rw[zH];rcases iP i n with hi|hi
 ·rw[List.getElem?_range hi];simp only[yP,DM.look,h.pend,rJ,List.foldl_nil,h1];rw[wP,dK (by omega),h2,show f+i-f=i by omega,kM (by omega),xD (by omega)]
  rfl
 ·rw[fR (by simpa using hi),fR (by omega)]
  rfl
theorem fW{ses num:Nat}{b:List UInt8}:∀s∈gC ses num b,s.length<=64:=by
 intro s c;unfold gC at c;obtain⟨k,_,rfl⟩:=cI.1 c;rw[cW,jU];omega
structure LgAt (l:LG) (f n at_:Nat):Prop where
 f:l.f=f
 n:l.n=n
 at_:l.at_=at_
 br:l.br=false
section
variable {D : DM} {l : LG} {f : Nat} {A B : List (List UInt8)} {b : List UInt8}
theorem gY(h:St D f (A++B))(c:LgAt l f (A++B).length A.length)(q:pA b.length<=B.length)(r:pA b.length<=65535)(g:D.limit = -1∨(pA b.length:Int)<D.limit):
  lC D l b=0/\St (fB D l b) f (A++(nI l.ses l.num b++B.drop (pA b.length)))/\oC D l b={ l with at_:=A.length+pA b.length,num:=(l.num+1)%4294967296 }/\(fB D l b).limit=(if D.limit = -1 then -1 else D.limit-pA b.length-1)/\(fB D l b).done=D.done+pA b.length+1:=by
 have h1:¬ (l.br=true):=by rw[c.br];simp
 have h2:¬ (l.n-l.at_<pA b.length):=by rw[c.n,c.at_,lB];omega
 have d:=h.fit;rw[lB]at d;have j:=aQr (gC l.ses l.num b) D (l.f+l.at_) h.dead (by rw[zD,c.f,c.at_];omega) fW (by rw[zD];exact g);rw[zD]at j;unfold lC fB oC;simp only[h1,dE,h2,show ¬ (65535<pA b.length) by omega];rw[j];refine⟨rfl,⟨rfl,rfl,?_⟩,by simp[c.at_],rfl,rfl⟩;obtain⟨i,S1,p,k⟩:=h.part;refine⟨i,S1,?_,k⟩
 show vB D.S (D.P++dN (l.f+l.at_) (gC l.ses l.num b))=_
 have m:D.S=(i++A)++(B++S1):=by rw[p];simp
 have o:l.f+l.at_=(i++A).length:=by rw[c.f,c.at_,lB,k]
 rw[h.pend,eH,m,o,aMG _ _ _ (by rw[zD,lB];omega),aHv,zD,List.drop_append_of_le_length q]
 simp
theorem aBb(y:St D f (A++B))(o:LgAt l f (A++B).length A.length)(U:pA b.length<=B.length)(Q:pA b.length<=65535)(E:0<=D.limit)(u:D.limit<=pA b.length)(K:List Bool):
  lC D l b=10/\(fB D l b).dead=true/\(fB D l b).done<=D.done+pA b.length/\(∃T,St ((fB D l b).reopen K) f (A++T)/\aMB B T l.ses l.num b)/\oC D l b={ l with br:=true }:=by
 have h1:¬ (l.br=true):=by rw[o.br];simp
 have h2:¬ (l.n-l.at_<pA b.length):=by rw[o.n,o.at_,lB];omega
 have q:=y.fit;rw[lB]at q;have I:=aMF (gC l.ses l.num b) D (l.f+l.at_) y.dead (by rw[zD,o.f,o.at_];omega) fW E (by rw[zD];exact u);unfold lC fB oC;simp only[h1,dE,h2,show ¬ (65535<pA b.length) by omega];rw[I];refine⟨rfl,rfl,by show D.done+D.limit.toNat<=_;omega,?_,rfl⟩;obtain⟨c,S1,N,G⟩:=y.part;have F:l.f+l.at_=(c++A).length:=by rw[o.f,o.at_,lB,G]
 obtain⟨H,C⟩:=aHy (gC l.ses l.num b) (l.f+l.at_) (bG (D.P++(dN (l.f+l.at_) (gC l.ses l.num b)).take D.limit.toNat) K) D.S (fun p O=>by
  have:=sL _ _ p O;rw[y.pend,eH]at this;exact aQq _ _ p (rO this))
 obtain⟨d,t⟩:∃d,d=vB D.S (bG (D.P++(dN (l.f+l.at_) (gC l.ses l.num b)).take D.limit.toNat) K):=⟨_,rfl⟩;rw[<- t]at H C;have v:D.S=(c++A)++(B++S1):=by rw[N];simp
 have g:∀(i:Nat) (s:List UInt8),(gC l.ses l.num b)[i]? = some s->i<pA b.length/\pad s=aBv l.ses l.num b i:=fun i s hi=>by
  have k:=(tD.1 hi).1;rw[zD]at k;have z:=dY l.ses l.num b k;rw[<- aHv,zH,hi]at z
  simp at z
  exact⟨k,z⟩
 have r:∀j,j<(c++A).length∨(c++A).length+B.length<=j->d[j]? = D.S[j]?:=fun j x=>by
  rcases C j with h|⟨i,s,hi,m,_⟩
  ·exact h
  ·have:=(g i s hi).1;rw[F]at m;omega
 have J:d.take (c++A).length=c++A:=by
  have:d.take (c++A).length=D.S.take (c++A).length:=by
   apply fT
   intro i;rw[xG,xG]
   split
   ·exact r i (.inl (by assumption))
   ·rfl
  rw[this,v,rK]
 have L:d.drop ((c++A).length+B.length)=S1:=by
  have:d.drop ((c++A).length+B.length)=D.S.drop ((c++A).length+B.length):=by
   apply fT
   intro i;rw[xJ,xJ];exact r _ (.inr (by omega))
  rw[this,v,List.drop_length_add_append,aN]
 have M:d=(c++A)++((d.drop (c++A).length).take B.length++S1):=by
  conv=>lhs;rw[<- bN (c++A).length d,J]
  congr 1
  conv=>lhs;rw[<- bN B.length (d.drop (c++A).length)]
  rw[List.drop_drop,L]
 refine⟨(d.drop (c++A).length).take B.length,⟨rfl,rfl,c,S1,?_,G⟩,?_,?_⟩
 ·show vB D.S (bG (D.P++(dN (l.f+l.at_) (gC l.ses l.num b)).take D.limit.toNat) K)=_
  rw[<- t]
  conv=>lhs;rw[M]
  simp
 ·rw[jC,mC,H,v]
  simp
  omega
 ·intro j;rw[xG]
  by_cases x:j<B.length
  ·rw[iA x,xJ];rcases C ((c++A).length+j) with h|⟨i,s,hi,m,h⟩
   ·left
    rw[h,v,dK (by omega),show(c++A).length+j-(c++A).length=j by omega,kM x]
   ·right
    rw[F]at m;have:i=j:=by omega
    subst this;rw[h,(g i s hi).2];exact⟨(g i s hi).1,rfl⟩
  ·left
   rw[eA x,fR (by omega)]
end
end
section
theorem aBc(L:List (List UInt8)):tB L=gF (0,0) L:=aCH L
theorem aHz(n:Nat):∀s∈List.replicate n aMD,s=aMD:=fun _ b=>(List.mem_replicate.1 b).2
theorem aEw{ses num:Nat}{b:List UInt8}(h:aJS ses num b)(T:List (List UInt8))(k:Nat)(last:Option eC)(c:bO last (oF ses num b)=false):
  rA (k+1) last (nI ses num b++T)=(oF ses num b,b)::rA k (some (oF ses num b)) T:=by
 rw[dM (eW h T) c]
 congr 2
 show List.drop (pA b.length) _=T
 rw[<- aI ses num b,aN]
end
section
abbrev PgM:=List (Nat × List UInt8)
variable {O:PgM}
def pT (x:Nat×List UInt8):PgM->PgM
 | []=>[x]
 | y::r=>if x.1<y.1 then x::y::r else y::pT x r
def cO (m:PgM) (k:Nat) (b:List UInt8):PgM:=pT (k,b) (m.filter fun p=>!decide (p.1=k))
def rF (m:PgM) (k:Nat):Option (List UInt8):=(m.find? fun p=>decide (p.1=k)).map (·.2)
structure vG (n:Nat) (m:PgM):Prop where
 rise:m.Pairwise (fun p q=>p.1<q.1)
 mem:∀p∈m,p.1<n/\p.2.length=512
def gH (d s:PgM):PgM:=s.foldl (fun D p=>cO D p.1 p.2) d
theorem aCP{x p:Nat×List UInt8}:∀ {m:PgM},p∈pT x m↔p=x∨p∈m
 | []=>by simp[pT]
 | y::r=>by
  unfold pT
  split
  ·simp
  ·rw[kB,aCP,kB]
   constructor
   ·rintro(h|h|h)<;>simp[h]
   ·rintro(h|h|h)<;>simp[h]
theorem aEx{x:Nat×List UInt8}:∀ {m:PgM},m.Pairwise (fun p q=>p.1<q.1)->(∀p∈m,p.1≠x.1)->(pT x m).Pairwise (fun p q=>p.1<q.1)
 | [],_,_=>by simp[pT]
 | y::r,h,hn=>by
  obtain⟨h1,h2⟩:=xE.1 h;unfold pT
  split
  ·rename_i c
   refine xE.2 ⟨fun p b=>?_,h⟩;rcases kB.1 b with rfl|b
   ·exact c
   ·have:=h1 p b;omega
  ·rename_i c
   refine xE.2 ⟨fun p b=>?_,aEx h2 (fun p b=>hn p (uC _ b))⟩;rcases aCP.1 b with rfl|b
   ·have:=hn y (sB ..);omega
   ·exact h1 p b
theorem vG.nil(n:Nat):vG n []:=⟨List.Pairwise.nil,by simp⟩
theorem vG.tail{n:Nat}{p:Nat×List UInt8}{m:PgM}(h:vG n (p::m)):vG n m:=⟨(xE.1 h.rise).2,fun q b=>h.mem q (uC _ b)⟩
theorem vG.put{n:Nat}{m:PgM}(h:vG n m){k:Nat}{b:List UInt8}(d:k<n)(g:b.length=512):vG n (cO m k b):=by
 refine⟨aEx (h.rise.filter _) (fun p c=>?_),fun p c=>?_⟩
 ·have:=(wI.1 c).2
  simpa using this
 ·rcases aCP.1 c with rfl|c
  ·exact⟨d,g⟩
  ·exact h.mem p (wI.1 c).1
theorem vG.merge{n:Nat}:∀ {s d:PgM},vG n d->(∀p∈s,p.1<n/\p.2.length=512)->vG n (gH d s)
 | [],_,h,_=>h
 | p::s,d,h,hs=>by
  have b:=hs p (sB ..);exact vG.merge (s:=s) (h.put b.1 b.2) (fun q c=>hs q (uC _ c))
theorem iY{x:Nat×List UInt8}{j:Nat}(c:x.1≠j):∀(m:PgM),(pT x m).find? (fun p=>decide (p.1=j))=m.find? (fun p=>decide (p.1=j))
 | []=>by simp[pT,c]
 | y::r=>by
  unfold pT
  split
  ·rw[uN (by simpa using c)]
  ·by_cases b:y.1=j
   ·rw[uT (by simpa using b),uT (by simpa using b)]
   ·rw[uN (by simpa using b),uN (by simpa using b),iY c r]
theorem jY{x:Nat×List UInt8}:∀(m:PgM),(∀p∈m,p.1≠x.1)->(pT x m).find? (fun p=>decide (p.1=x.1))=some x
 | [],_=>by simp[pT]
 | y::r,h=>by
  unfold pT
  split
  ·simp
  ·rw[uN (by simpa using h y (sB ..)),jY r (fun p b=>h p (uC _ b))]
theorem dO{k j:Nat}(d:j≠k):∀(m:PgM),(m.filter fun p=>!decide (p.1=k)).find? (fun p=>decide (p.1=j))=m.find? (fun p=>decide (p.1=j))
 | []=>rfl
 | y::r=>by
  by_cases c:y.1=k
  ·rw[List.filter_cons_of_neg (by simpa using c),dO d r,uN (by simp;omega)]
  ·rw[List.filter_cons_of_pos (by simpa using c)]
   by_cases b:y.1=j
   ·rw[uT (by simpa using b),uT (by simpa using b)]
   ·rw[uN (by simpa using b),uN (by simpa using b),dO d r]
theorem aHA(m:PgM)(k j:Nat)(b:List UInt8):rF (cO m k b) j=if j=k then some b else rF m j:=by
 unfold rF cO
 by_cases h:j=k
 ·subst h;rw[iA rfl,jY (x:=(j,b)) _ (fun p c=>by simpa using(wI.1 c).2)]
  rfl
 ·rw[eA h,iY (x:=(k,b)) (fun e=>h e.symm),dO h]
theorem aCQ(j:Nat):rF [] j=none:=rfl
theorem aAz(p:Nat×List UInt8)(m:PgM)(j:Nat):rF (p::m) j=if j=p.1 then some p.2 else rF m j:=by
 unfold rF
 by_cases h:j=p.1
 ·subst h;simp
 ·rw[eA h,uN (by simp;omega)]
theorem aOs{m:PgM}{j:Nat}(h:∀p∈m,p.1≠j):rF m j=none:=by
 unfold rF;rw[List.find?_eq_none.2 (fun p b=>by simpa using h p b)]
 rfl
theorem aHB{m:PgM}{j:Nat}{b:List UInt8}(h:rF m j=some b):(j,b)∈m:=by
 unfold rF at h;obtain⟨p,c,rfl⟩:=Option.map_eq_some_iff.1 h;have h1:=List.find?_some c;have h2:=List.mem_of_find?_eq_some c;have h3:p.1=j:=by simpa using h1
 subst h3;exact h2
theorem qM{n:Nat}{m:PgM}(h:vG n m){j:Nat}{b:List UInt8}(c:(j,b)∈m):rF m j=some b:=by
 induction m with
 | nil=>cases c
 | cons p m d=>
  rw[aAz];rcases kB.1 c with rfl|c
  ·rw[iA rfl]
  ·have:=(xE.1 h.rise).1 _ c;rw[eA (by simp only at this;omega),d h.tail c]
theorem gX{n:Nat}:∀(s d:PgM),vG n s->∀j,rF (gH d s) j=(rF s j).or (rF d j)
 | [],d,_,j=>by simp[gH,aCQ]
 | p::s,d,h,j=>by
  have c:=gX s (cO d p.1 p.2) h.tail j;have e:gH d (p::s)=gH (cO d p.1 p.2) s:=rfl;rw[e,c,aHA,aAz]
  by_cases b:j=p.1
  ·subst b;rw[iA rfl,iA rfl,aOs (fun q g=>by have:=(xE.1 h.rise).1 q g;omega)]
   rfl
  ·rw[eA b,eA b]
theorem aHC{n:Nat}{m:PgM}(h:vG n m){j:Nat}{b:List UInt8}(c:rF m j=some b):j<n/\b.length=512:=h.mem _ (aHB c)
theorem aHD{n:Nat}:∀(m:PgM) (lo:Nat),lo<=n->m.Pairwise (fun p q=>p.1<q.1)->(∀p∈m,lo<=p.1/\p.1<n)->lo+m.length<=n
 | [],lo,h,_,_=>by simpa using h
 | p::m,lo,_,hr,hm=>by
  obtain⟨h1,h2⟩:=xE.1 hr;have c:=hm p (sB ..);have:=aHD m (p.1+1) (by omega) h2 (fun q b=>⟨h1 q b,(hm q (uC _ b)).2⟩);simp only[gD];omega
theorem vG.few{n:Nat}{m:PgM}(h:vG n m):m.length<=n:=by
 have:=aHD m 0 (rB _) h.rise (fun p b=>⟨rB _,(h.mem p b).1⟩);omega
def be2 (k:Nat):List UInt8:=[wB k 1,wB k 0]
def bD (m:PgM):List UInt8:=m.flatMap fun p=>be2 p.1++p.2
theorem iQ(p:Nat×List UInt8)(m:PgM):bD (p::m)=be2 p.1++p.2++bD m:=by simp[bD]
theorem aMH(m:PgM)(p:Nat×List UInt8):bD (m++[p])=bD m++(be2 p.1++p.2):=by simp[bD]
theorem eO{n:Nat}:∀ {m:PgM},(∀p∈m,p.1<n/\p.2.length=512)->(bD m).length=514*m.length
 | [],_=>rfl
 | p::m,h=>by
  rw[iQ,lB,lB,eO (m:=m) (fun q b=>h q (uC _ b)),(h p (sB ..)).2];simp only[be2,gD,List.length_nil];omega
def kN (n:Nat):Nat->List UInt8->PgM->Option PgM
 | 0,_,h=>some h
 | k+1,b,h=>if b=[] then some h else if n<=zC (b.take 2) then none else kN n k (b.drop 514) (cO h (zC (b.take 2)) ((b.drop 2).take 512))
def aK (n:Nat) (b:List UInt8) (h:PgM):Option PgM:=if b.length%514≠0 then none else kN n (b.length / 514) b h
def iF (n:Nat):List (List UInt8)->PgM->Option PgM
 | [],h=>some h
 | b::W,h=>match aK n b h with
  | none=>none
  | some h=>iF n W h
theorem kY(n:Nat):∀(W:List (List UInt8)) (h d:PgM) (b:List UInt8),iF n W h=some d->iF n (W++[b]) h=aK n b d
 | [],h,d,b,e=>by
  injection e with e;subst e
  show(match aK n b h with|none=>none|some h=>iF n [] h)=_
  cases aK n b h<;>rfl
 | c::W,h,d,b,e=>by
  rw[zI];unfold iF at e⊢
  cases g:aK n c h with
  | none=>rw[g]at e;cases e
  | some h1=>
   rw[g]at e;exact kY n W h1 d b e
theorem aCR{n:Nat}(l:n<=65536):∀(m h:PgM),(∀p∈m,p.1<n/\p.2.length=512)->kN n m.length (bD m) h=some (gH h m)
 | [],h,_=>rfl
 | p::m,h,hm=>by
  have b:=hm p (sB ..);have c:(bD (p::m)).take 2=be2 p.1:=by rw[iQ,qF];exact List.take_left' rfl
  have d:((bD (p::m)).drop 2).take 512=p.2:=by
   rw[iQ,qF];exact List.take_left' b.2
  have g:(bD (p::m)).drop 514=bD m:=by
   rw[iQ];exact List.drop_left' (by simp[be2,b.2])
  have i:zC (be2 p.1)=p.1:=aOq p.1 (by omega);have j:bD (p::m)≠[]:=by rw[iQ];simp[be2]
  rw[gD,kN,eA j,c,d,g,i,eA (by omega),aCR l m _ (fun q k=>hm q (uC _ k))]
  rfl
theorem kU{n:Nat}(d:n<=65536)(m h:PgM)(c:∀p∈m,p.1<n/\p.2.length=512):aK n (bD m) h=some (gH h m):=by
 have b:=eO c;unfold aK;rw[eA (by rw[b];omega),b,Nat.mul_div_cancel_left _ (by omega:0<514),aCR d m h c]
theorem aEy{n:Nat}:∀(k:Nat) (b:List UInt8) (h c:PgM),b.length=514*k->vG n h->kN n k b h=some c->vG n c
 | 0,b,h,c,_,ho,e=>by injection e with e;subst e;exact ho
 | k+1,b,h,c,hl,ho,e=>by
  unfold kN at e
  split at e
  ·injection e with e;subst e;exact ho
  ·split at e
   ·cases e
   ·rename_i h1
    exact aEy k _ _ _ (by rw[mC];omega) (ho.put (by omega) (by rw[jC,mC];omega)) e
theorem aQs{n:Nat}{b:List UInt8}{h:PgM}(c:vG n h)(e:aK n b h=some O):vG n O:=by
 unfold aK at e
 split at e
 ·cases e
 ·exact aEy _ b h O (by omega) c e
theorem aCS{n:Nat}:∀(W:List (List UInt8)) (h c:PgM),vG n h->iF n W h=some c->vG n c
 | [],h,c,ho,e=>by injection e with e;subst e;exact ho
 | b::W,h,c,ho,e=>by
  unfold iF at e
  cases d:aK n b h with
  | none=>rw[d]at e;cases e
  | some h1=>rw[d]at e;exact aCS W h1 c (aQs ho d) e

def dJ:Option eC->List (eC×List UInt8)->Option eC
 | last,[]=>last
 | _,x::R=>dJ (some x.1) R
def sM (R:List (eC×List UInt8)):Nat:=(R.map (·.1.count)).sum
theorem aMI(x:eC×List UInt8)(R:List (eC×List UInt8)):sM (x::R)=x.1.count+sM R:=by simp[sM]
theorem aMJ(R:List (eC×List UInt8))(x:eC×List UInt8):sM (R++[x])=sM R+x.1.count:=by simp[sM]
theorem aCT:∀(R:List (eC×List UInt8)) (last:Option eC) (x:eC×List UInt8),dJ last (R++[x])=some x.1
 | [],_,_=>rfl
 | y::R,_,x=>aCT R (some y.1) x
theorem aCU:∀(R:List (eC×List UInt8)) (last:Option eC),dJ last R=(fH R).or last
 | [],last=>by simp[dJ,fH]
 | y::R,last=>by
  rw[dJ,aCU R];unfold fH;rw[List.getLast?_cons]
  cases R.getLast? with
  | none=>rfl
  | some z=>rfl
theorem lY:∀(k:Nat) (last:Option eC) (L X:List (List UInt8)) (j:Nat),
  rA ((rA k last L).length+j) last (L.take (sM (rA k last L))++X)=rA k last L++rA j (dJ last (rA k last L)) X
 | 0,last,L,X,j=>by simp[rA,dJ,sM]
 | k+1,last,L,X,j=>by
  cases c:bB L with
  | none=>rw[lH c];simp[dJ,sM]
  | some x=>
   obtain⟨st,b⟩:=x
   cases d:bO last st with
   | true=>rw[uL c d];simp[dJ,sM]
   | false=>
    have l:=pH c;rw[dM c d];have g:=lY k (some st) (L.drop st.count) X j;obtain⟨R,h⟩:=nm (rA k (some st) (L.drop st.count));rw[<- h]at g⊢;rw[aMI]
    have h1:bB (L.take (st.count+sM R)++X)=some (st,b):=fY c (fun i hi=>by
     rw[kM (by rw[jC];omega),xG,iA (by omega)])
    have h2:(L.take (st.count+sM R)++X).drop st.count=(L.drop st.count).take (sM R)++X:=by
     rw[List.drop_append_of_le_length (by rw[jC];omega),List.drop_take,Nat.add_sub_cancel_left]
    rw[gD,show R.length+1+j=R.length+j+1 by omega,dM h1 d,h2,g]
    rfl
theorem gV:∀(k d:Nat) (last:Option eC) (L:List (List UInt8)),L.length<=k->L.length<=d->rA k last L=rA d last L
 | 0,d,last,L,h,_=>by
  obtain rfl:L=[]:=tO.1 (by omega);rw[lH rfl,lH rfl]
 | k+1,0,last,L,_,h=>by
  obtain rfl:L=[]:=tO.1 (by omega);rw[lH rfl,lH rfl]
 | k+1,d+1,last,L,h,h'=>by
  cases c:bB L with
  | none=>rw[lH c,lH c]
  | some x=>
   obtain⟨st,b⟩:=x;have i:=pH c
   cases g:bO last st with
   | true=>rw[uL c g,uL c g]
   | false=>rw[dM c g,dM c g,gV k d _ _ (by rw[mC];omega) (by rw[mC];omega)]
def Ends (last:Option eC) (B:List (List UInt8)):Prop:=∀st b,bB B=some (st,b)->bO last st=true
theorem aAA{last:Option eC}{B:List (List UInt8)}(h:Ends last B)(j:Nat):rA j last B=[]:=by
 cases c:bB B with
 | none=>exact lH c
 | some x=>exact uL (b:=x.2) c (h x.1 x.2 c)
theorem aQt{k:Nat}{last:Option eC}{L:List (List UInt8)}(g:L.length<=k):Ends (dJ last (rA k last L)) (L.drop (sM (rA k last L))):=by
 intro st b c
 cases d:bO (dJ last (rA k last L)) st with
 | true=>rfl
 | false=>
  have h:=lY k last L (L.drop (sM (rA k last L))) (k+1);rw[bN,gV _ k last L (by omega) g,dM c d]at h;have:=congrArg List.length h
  simp at this
theorem aCV:∀(k:Nat) (last:Option eC) (L:List (List UInt8)),∀x∈rA k last L,∃s∈L,∃q,jB s=some q/\q.st=x.1
 | 0,_,_=>by simp[rA]
 | k+1,last,L=>by
  cases c:bB L with
  | none=>rw[lH c];simp
  | some y=>
   obtain⟨st,b⟩:=y;have h:=pH c
   cases g:bO last st with
   | true=>rw[uL c g];simp
   | false=>
    rw[dM c g];intro x d;rcases kB.1 d with rfl|d
    ·obtain⟨s,q,h1,h2,h3,_⟩:=gQ c (k:=0) (by omega);exact⟨s,rG h1,q,h2,h3⟩
    ·obtain⟨s,h1,h2⟩:=aCV k (some st) _ x d;exact⟨s,sK h1,h2⟩
theorem aMK:∀(R:List (eC×List UInt8)) (st:eC),dJ none R=some st->∃x∈R,x.1=st:=by
 intro R st h;rw[aCU,Option.or_none]at h;unfold fH at h;obtain⟨x,b,rfl⟩:=Option.map_eq_some_iff.1 h;exact⟨x,List.mem_of_getLast? b,rfl⟩
theorem aGn{B:List (List UInt8)}{st:eC}{b:List UInt8}(h:bB B=some (st,b)):∃s∈B,∃q,jB s=some q/\q.st=st:=by
 have c:=pH h;obtain⟨s,q,h1,h2,h3,_⟩:=gQ h (k:=0) (by omega);exact⟨s,rG h1,q,h2,h3⟩
theorem aLq{ses num:Nat}{b s:List UInt8}(d:aJS ses num b)(g:s∈nI ses num b):∃q,jB s=some q/\q.st=oF ses num b:=by
 obtain⟨k,c,rfl⟩:=cI.1 g;exact⟨_,vL d (vT.1 c),rfl⟩
structure gK (c n:Nat) (V:List (List UInt8)) (R:List (eC×List UInt8)):Prop where
 len:V.length=n
 recs:rA n none V=R
 cap:∀s∈V,∀q,jB s=some q->q.st.session<=c/\q.st.number<=c
 top:∀st,dJ none R=some st->∀s∈V,∀q,jB s=some q->q.st.number<=st.number+1
structure dL (c n:Nat) (V:List (List UInt8)) (R:List (eC×List UInt8)) (l:LG):Prop where
 len:V.length=n
 recs:rA n none V=R
 f:l.f=0
 n_:l.n=n
 br:l.br=false
 at_:l.at_=sM R
 low:∀s∈V,∀q,jB s=some q->q.st.session<=l.ses/\q.st.number<=l.num/\(q.st.session=l.ses->q.st.number<l.num)
 last:∀st,dJ none R=some st->st.number+1=l.num/\st.session<=l.ses
 num:l.num<=c
 ses:l.ses<=c
theorem gK.mono{c c' n:Nat}{R:List (eC×List UInt8)}(h:gK c n H R)(g:c<=c'):gK c' n H R:=
 ⟨h.len,h.recs,fun s b q d=>by have:=h.cap s b q d;omega,h.top⟩
theorem dL.mono{c c' n:Nat}{R:List (eC×List UInt8)}{l:LG}(h:dL c n H R l)(b:c<=c'):dL c' n H R l:=
 ⟨h.len,h.recs,h.f,h.n_,h.br,h.at_,h.low,h.last,by have:=h.num;omega,by have:=h.ses;omega⟩
theorem gK.zero{c n:Nat}:gK c n (List.replicate n aMD) []:=
 ⟨by simp,lH (aME (aHz n)),(fun s d q b=>by rw[aHz n s d,aCO]at b;cases b),(fun st h=>by cases h)⟩
theorem dL.closed{c n:Nat}{R:List (eC×List UInt8)}{l:LG}(h:dL c n H R l):gK c n H R:=
 ⟨h.len,h.recs,fun s b q d=>by have:=h.low s b q d;have:=h.num;have:=h.ses;omega,fun st g s b q d=>by have:=h.low s b q d;have:=h.last st g;omega⟩
theorem dL.few{c n:Nat}{R:List (eC×List UInt8)}{l:LG}(h:dL c n H R l):sM R<=n:=by
 have:=aCM n none H;rw[h.recs,h.len]at this;exact this
def mY (n:Nat) (V:List (List UInt8)):LG:={ f:=0,n:=n,at_:=sM (rA n none V),num:=fK (((tB V).2+1)%4294967296) (fH (rA n none V)),ses:=(tB V).1+1,br:=false }
theorem gK.newest{c n:Nat}{R:List (eC×List UInt8)}(h:gK c n H R):(tB H).1<=c/\(tB H).2<=c:=by
 rw[aBc];exact aJU H c c h.cap (0,0) (rB _) (rB _)
theorem gK.open_{c n:Nat}{R:List (eC×List UInt8)}(h:gK c n H R)(u:c+1<4294967296):dL (c+1) n H R (mY n H):=by
 have t:=h.newest;have k:=aJT H (0,0);rw[<- aBc]at k
 have j:(mY n H).num=fK ((tB H).2+1) (dJ none R):=by
  unfold mY
  simp only
  rw[h.recs,aCU,Option.or_none,pK (by omega)]
 have b:∀st,dJ none R=some st->st.session<=(tB H).1/\st.number<=c:=fun st g=>by
  obtain⟨x,p,rfl⟩:=aMK R st g;rw[<- h.recs]at p;obtain⟨s,m,q,o,r⟩:=aCV n none H x p;rw[<- r];exact⟨(k.2.2 s m q o).1,(h.cap s m q o).2⟩
 have d:∀st,dJ none R=some st->(mY n H).num=st.number+1:=fun st g=>by
  have:=(b st g).2;rw[j,g]
  show(st.number+1)%4294967296=_
  rw[pK (by omega)]
 have i:dJ none R=none->(mY n H).num=(tB H).2+1:=fun h0=>by rw[j,h0];rfl
 refine⟨h.len,h.recs,rfl,rfl,rfl,by show sM (rA n none H)=_;rw[h.recs],fun s m q o=>?_,fun st g=>?_,?_,by show(tB H).1+1<=_;omega⟩
 ·have h1:=k.2.2 s m q o;refine⟨by show _<=(tB H).1+1;omega,?_,fun e=>by have e:q.st.session=(tB H).1+1:=e;omega⟩
  cases l:dJ none R with
  | none=>rw[i l];omega
  | some st=>rw[d st l];exact h.top st l s m q o
 ·exact⟨(d st g).symm,by show _<=(tB H).1+1;have:=(b st g).1;omega⟩
 ·cases l:dJ none R with
  | none=>rw[i l];omega
  | some st=>rw[d st l];have:=(b st l).2;omega
section
variable {c n : Nat} {V : List (List UInt8)} {R : List (eC × List UInt8)} {l : LG} {b : List UInt8}
theorem dL.goes(h:dL c n V R l)(g:c+1<4294967296):bO (dJ none R) (oF l.ses l.num b)=false:=by
 cases d:dJ none R with
 | none=>rfl
 | some st=>
  have h1:=h.last st d;have h2:=h.num;unfold bO;refine vN ?_
  show ¬(l.num≠(st.number+1)%4294967296∨l.ses<st.session)
  rw[pK (by omega)];omega
theorem dL.behind(h:dL c n V R l)(k:c+1<4294967296){B:List (List UInt8)}(j:∀s∈B,s∈V):Ends (some (oF l.ses l.num b)) B:=by
 intro st b' i;obtain⟨s,d,q,g,rfl⟩:=aGn i;have h1:=h.low s (j s d) q g;have h2:=h.num;refine xP ?_
 show q.st.number≠(l.num+1)%4294967296∨_
 rw[pK (by omega)];omega
theorem dL.fits(h:dL c n V R l)(g:c+1<4294967296)(d:pA b.length<=65535):aJS l.ses l.num b:=⟨by have:=h.ses;omega,by have:=h.num;omega,d⟩
theorem dL.whole(h:dL c n V R l)(o:c+1<4294967296)(u:pA b.length<=65535)(y:l.at_+pA b.length<=n):
  dL (c+1) n (V.take l.at_++(nI l.ses l.num b++(V.drop l.at_).drop (pA b.length))) (R++[(oF l.ses l.num b,b)]) { l with at_:=l.at_+pA b.length,num:=(l.num+1)%4294967296 }:=by
 have p:=h.fits o u;have v:=h.len;have h2:=h.num
 have j:(V.take l.at_++(nI l.ses l.num b++(V.drop l.at_).drop (pA b.length))).length=n:=by
  simp only[lB,jC,mC,aI];omega
 have k:(l.num+1)%4294967296=l.num+1:=pK (by omega);refine⟨j,?_,h.f,h.n_,h.br,?_,fun s d q r=>?_,fun st i=>?_,by show(l.num+1)%4294967296<=_;omega,by show l.ses<=_;have:=h.ses;omega⟩
 ·have hcut:=lY n none V (nI l.ses l.num b++(V.drop l.at_).drop (pA b.length)) (n+1);rw[h.recs,<- h.at_]at hcut;rw[gV n (R.length+(n+1)) none _ (by omega) (by omega),hcut,aEw p _ n _ (h.goes o),aAA (h.behind o (fun s d=>sK (sK d)))]
 ·show l.at_+pA b.length=_
  rw[aMJ,h.at_]
  rfl
 ·rw[show({ l with at_:=l.at_+pA b.length,num:=(l.num+1)%4294967296 }:LG).num=l.num+1 from k,show({ l with at_:=l.at_+pA b.length,num:=(l.num+1)%4294967296 }:LG).ses=l.ses from rfl]
  have m:s∈V->q.st.session<=l.ses/\q.st.number<=l.num+1/\(q.st.session=l.ses->q.st.number<l.num+1):=fun d=>by
   have:=h.low s d q r;omega
  rcases pD.1 d with d|d
  ·exact m (rO d)
  ·rcases pD.1 d with d|d
   ·obtain⟨x,g,t⟩:=aLq p d;rw[r]at g;injection g with g;subst g;rw[t]
    show l.ses<=l.ses/\l.num<=l.num+1/\(_->l.num<l.num+1)
    omega
   ·exact m (sK (sK d))
 ·rw[aCT]at i;injection i with i;subst i
  show l.num+1=(l.num+1)%4294967296/\l.ses<=l.ses
  omega
theorem dL.torn(h:dL c n V R l)(D:c+1<4294967296)(E:pA b.length<=65535)(J:l.at_+pA b.length<=n){T:List (List UInt8)}(y:aMB (V.drop l.at_) T l.ses l.num b):
  gK (c+1) n (V.take l.at_++T) R∨gK (c+1) n (V.take l.at_++T) (R++[(oF l.ses l.num b,b)]):=by
 have z:=h.fits D E;have M:=h.len;have A:=h.num;have B:=h.ses
 have m:(V.take l.at_++T).length=n:=by
  rw[lB,y.1,jC,mC];omega
 have F:aOr (V.drop l.at_) l.ses l.num:=fun s d q g r=>by
  have:=h.low s (sK d) q g;omega
 have o:∀s∈V.take l.at_++T,∀q,jB s=some q->q.st.session<=l.ses/\q.st.number<=l.num:=fun s d q g=>by
  have p:s∈V->q.st.session<=l.ses/\q.st.number<=l.num:=fun d=>by have:=h.low s d q g;omega
  rcases pD.1 d with d|d
  ·exact p (rO d)
  ·obtain⟨j,C⟩:=List.mem_iff_getElem?.1 d;rcases y.2 j with e|⟨G,t⟩
   ·rw[C]at e;exact p (sK (rG e.symm))
   ·rw[C]at t;injection t with t;subst t;rw[vL z G]at g;injection g with g;subst g;exact⟨tA _,tA _⟩
 have stay:Ends (dJ none R) T->gK (c+1) n (V.take l.at_++T) R:=fun r=>by
  refine⟨m,?_,fun s d q g=>by have:=o s d q g;omega,fun st u s d q g=>?_⟩
  ·have hcut:=lY n none V T (n+1);rw[h.recs,<- h.at_]at hcut;rw[gV n (R.length+(n+1)) none _ (by omega) (by omega),hcut,aAA r,dI]
  ·have:=o s d q g;have:=h.last st u;omega
 cases v:bB T with
 | none=>exact .inl (stay fun st b' i=>by rw[v]at i;cases i)
 | some x=>
  obtain⟨st,b'⟩:=x;rcases aHx y z F v with ⟨h1,h2,h3⟩|h1
  ·right
   rw[h3];exact(h.whole D E J).closed
  ·left
   refine stay fun H I i=>?_;rw[v]at i;injection i with i;injection i with h2 h3;subst h2;have r:=aQt (k:=n) (last:=none) (L:=V) (by omega);rw[h.recs,<- h.at_]at r;exact r st b' h1
theorem dL.anew(h:dL c n V R l)(r:c+1<4294967296)(v:pA b.length<=65535)(z:pA b.length<=n):
  dL (c+1) n (nI l.ses l.num b++V.drop (pA b.length)) [(oF l.ses l.num b,b)] { l with at_:=pA b.length,num:=(l.num+1)%4294967296 }:=by
 have m:=h.fits r v;have x:=h.len;have h2:=h.num;have j:(l.num+1)%4294967296=l.num+1:=pK (by omega);have o:=aHw b.length;refine⟨by simp only[lB,mC,aI];omega,?_,h.f,h.n_,h.br,?_,fun s g q p=>?_,fun st i=>?_,by show(l.num+1)%4294967296<=_;omega,by show l.ses<=_;have:=h.ses;omega⟩
 ·obtain⟨t,rfl⟩:∃k,n=k+1:=⟨n-1,by omega⟩;rw[aEw m _ t none rfl,aAA (h.behind r (fun s g=>sK g))]
 ·show pA b.length=sM [_]
  simp[sM,oF]
 ·rw[show({ l with at_:=pA b.length,num:=(l.num+1)%4294967296 }:LG).num=l.num+1 from j,show({ l with at_:=pA b.length,num:=(l.num+1)%4294967296 }:LG).ses=l.ses from rfl];rcases pD.1 g with g|g
  ·obtain⟨y,d,u⟩:=aLq m g;rw[p]at d;injection d with d;subst d;rw[u]
   show l.ses<=l.ses/\l.num<=l.num+1/\(_->l.num<l.num+1)
   omega
  ·have:=h.low s (sK g) q p;omega
 ·injection i with i;subst i
  show l.num+1=(l.num+1)%4294967296/\l.ses<=l.ses
  omega
theorem aOt{L T:List (List UInt8)}{ses num:Nat}{b:List UInt8}(d:aMB L T ses num b)(m:pA b.length=1)(o:1<=L.length):T=L∨T=nI ses num b++L.drop (pA b.length):=by
 rcases d.2 0 with h0|⟨_,h0⟩
 ·left
  apply fT
  intro j
  by_cases g:j=0
  ·subst g;exact h0
  ·rcases d.2 j with h|h
   ·exact h
   ·omega
 ·right
  refine aMC d (fun k i _=>?_) (by omega);obtain rfl:k=0:=by omega
  exact h0
theorem dL.anewTorn(h:dL c n V R l)(d:c+1<4294967296)(g:pA b.length=1)(h1:1<=n){T:List (List UInt8)}(i:aMB V T l.ses l.num b):
  gK (c+1) n T R∨gK (c+1) n T [(oF l.ses l.num b,b)]:=by
 rcases aOt i g (by rw[h.len];exact h1) with rfl|rfl
 ·exact .inl (h.closed.mono (by omega))
 ·exact .inr (h.anew d (by omega) (by omega)).closed
end

structure cG (Q:Nat->Prop) (S0:List (List UInt8)) (D:DM):Prop where
 len:D.S.length=S0.length
 same:∀j,¬Q j->D.S[j]? = S0[j]?
 pend:∀p∈D.P,Q p.1
theorem lN:∀(P:List (Nat×List UInt8)) (S:List (List UInt8)) (j:Nat),(∀p∈P,p.1≠j)->(vB S P)[j]? = S[j]?
 | [],_,_,_=>rfl
 | p::P,S,j,h=>by
  show(vB (S.set p.1 p.2) P)[j]? = _
  rw[lN P _ j (fun q b=>h q (uC _ b)),List.getElem?_set_ne (h p (sB ..))]
theorem aEz{x:List UInt8}{j:Nat}:∀(P:List (Nat×List UInt8)) (S:List (List UInt8)),j<S.length->(∀p∈P,p.1=j->p.2=x)->(S[j]? = some x∨∃p∈P,p.1=j)->(vB S P)[j]? = some x
 | [],S,_,_,h=>by
  rcases h with h|⟨p,b,_⟩
  ·exact h
  ·cases b
 | p::P,S,hj,hx,h=>by
  show(vB (S.set p.1 p.2) P)[j]? = _
  refine aEz P _ (by simpa using hj) (fun q c=>hx q (uC _ c)) ?_
  by_cases b:p.1=j
  ·left
   rw[b,List.getElem?_set_self hj,hx p (sB ..) b]
  ·rcases h with h|⟨q,c,d⟩
   ·left;rw[List.getElem?_set_ne b];exact h
   ·rcases kB.1 c with rfl|c
    ·exact absurd d b
    ·exact .inr ⟨q,c,d⟩
section
variable {Q : Nat -> Prop} {S0 : List (List UInt8)} {D : DM}
theorem cG.refl(b:D.P=[]):cG Q D.S D:=⟨rfl,fun _ _=>rfl,by rw[b];simp⟩
theorem cG.died(h:cG Q S0 D):cG Q S0 D.died:=⟨h.len,h.same,h.pend⟩
theorem cG.write(h:cG Q S0 D)(k:Nat)(b:List UInt8)(d:Q k):cG Q S0 (D.write (k:Int) b):=by
 unfold DM.write
 split
 ·exact h
 ·split
  ·exact h
  ·split
   ·exact h.died
   ·refine⟨h.len,h.same,fun p c=>?_⟩;rcases pD.1 c with c|c
    ·exact h.pend p c
    ·simp only[aB]at c;subst c
     simpa using d
theorem cG.laid(h:cG Q S0 D){P:List (Nat×List UInt8)}(d:∀p∈P,p∈D.P)(j:Nat)(b:¬Q j):(vB D.S P)[j]? = S0[j]?:=by
 rw[lN _ _ _ (fun p c e=>b (by rw[<- e];exact h.pend p (d p c))),h.same j b]
theorem cG.sync(h:cG Q S0 D):cG Q S0 D.sync:=by
 unfold DM.sync
 split
 ·exact h
 ·split
  ·exact h.died
  ·exact⟨by show(vB D.S D.P).length=_;rw[yD];exact h.len,fun j b=>h.laid (fun _ c=>c) j b,by simp⟩
theorem cG.reopen(h:cG Q S0 D)(K:List Bool):cG Q S0 (D.reopen K):=
 ⟨by show(vB D.S _).length=_;rw[yD];exact h.len,fun j b=>h.laid (fun p c=>sL _ _ p c) j b,by simp[DM.reopen]⟩
theorem cG.lay:∀(b:List (List UInt8)) (D:DM) (pos:Nat),cG Q S0 D->(∀j,pos<=j->j<pos+b.length->Q j)->cG Q S0 (oT D pos b).1
 | [],D,pos,h,_=>h.sync
 | s::b,D,pos,h,hq=>by
  have h1:=h.write pos s (hq pos (tA _) (by simp))
  by_cases c:D.writeE (pos:Int) s=0
  ·rw[bY c];exact cG.lay b _ (pos+1) h1 (fun j h2 h3=>hq j (by omega) (by simp;omega))
  ·rw[fV c];exact h1
theorem cG.append(h:cG Q S0 D)(l:LG)(b:List UInt8)(c:∀j,l.f+l.at_<=j->j<l.f+l.at_+pA b.length->Q j):cG Q S0 (fB D l b):=by
 unfold fB
 split
 ·exact h
 ·split
  ·exact h
  ·split
   ·exact h
   ·exact cG.lay _ _ _ h (by rw[zD];exact c)
end
def wF:DM->List (Nat×List UInt8)->DM×Int
 | D,[]=>(D,0)
 | D,p::r=>if D.writeE (p.1:Int) p.2=0 then wF (D.write (p.1:Int) p.2) r else (D.write (p.1:Int) p.2,D.writeE (p.1:Int) p.2)
theorem aCW{Q:Nat->Prop}:∀(P:List (Nat×List UInt8)) (D:DM),cG Q H D->(∀p∈P,Q p.1)->cG Q H (wF D P).1
 | [],D,h,_=>h
 | p::P,D,h,hq=>by
  have h1:=h.write p.1 p.2 (hq p (sB ..));unfold wF
  split
  ·exact aCW P _ h1 (fun q b=>hq q (uC _ b))
  ·exact h1
theorem aOu:∀(P:List (Nat×List UInt8)) (D:DM),(wF D P).1.S=D.S
 | [],_=>rfl
 | p::P,D=>by
  unfold wF
  split
  ·rw[aOu P,vO]
  ·exact vO ..
theorem aEA:∀(P:List (Nat×List UInt8)) (D:DM),(wF D P).1.done<=D.done+P.length
 | [],_=>tA _
 | p::P,D=>by
  have h1:=uR D (p.1:Int) p.2;unfold wF
  split
  ·have:=aEA P (D.write (p.1:Int) p.2);simp only[gD];omega
  ·simp only[gD];omega
theorem aLr:∀(P:List (Nat×List UInt8)) (D:DM),D.ok->(wF D P).1.ok
 | [],_,h=>h
 | p::P,D,h=>by
  unfold wF
  split
  ·exact aLr P _ (DM.ok_write h _ _)
  ·exact DM.ok_write h _ _
theorem aCX:∀(P:List (Nat×List UInt8)) (D:DM),D.dead=false->(∀p∈P,p.1<D.S.length/\p.2.length=64) ->
  ((wF D P).2=0/\(wF D P).1.dead=false/\(wF D P).1.P=D.P++P/\(D.limit = -1->(wF D P).1.limit = -1))∨((wF D P).2=10/\(wF D P).1.dead=true/\D.limit≠-1)
 | [],D,hd,_=>.inl ⟨rfl,hd,by simp[wF],fun h=>h⟩
 | p::P,D,hd,hp=>by
  obtain⟨h1,h2⟩:=hp p (sB ..);have c:pad p.2=p.2:=by simp[pad,h2]
  by_cases i:D.limit=0
  ·right
   have g:D.writeE (p.1:Int) p.2=10:=by
    unfold DM.writeE;rw[eA (by rw[hd];decide),eA (by omega),iA i]
   have d:D.write (p.1:Int) p.2=D.died:=by
    unfold DM.write;rw[eA (by rw[hd];decide),eA (by omega),iA i]
   unfold wF;rw[eA (by rw[g];decide),g,d];exact⟨rfl,rfl,by omega⟩
  ·have g:D.writeE (p.1:Int) p.2=0:=by
    unfold DM.writeE;rw[eA (by rw[hd];decide),eA (by omega),eA i]
   have d:=gU hd h1 (by omega:p.2.length<=64) i;unfold wF;rw[iA g];have m:=aCX P (D.write (p.1:Int) p.2) (by rw[d];exact hd) (fun q r=>by rw[vO];exact hp q (uC _ r))
   have b:D.limit = -1↔(D.write (p.1:Int) p.2).limit = -1:=by
    rw[d]
    show _↔(if 0<D.limit then D.limit-1 else D.limit) = -1
    split<;>omega
   rcases m with ⟨j,k,l,o⟩|⟨j,k,l⟩
   ·refine .inl ⟨j,k,?_,fun h=>o (b.1 h)⟩;rw[l,d,c]
    simp
   ·exact .inr ⟨j,k,fun h=>l (b.1 h)⟩
end
variable {O:PgM}
end Go.Proofs.YtebjhcjbfaaejaaGreatDoor
