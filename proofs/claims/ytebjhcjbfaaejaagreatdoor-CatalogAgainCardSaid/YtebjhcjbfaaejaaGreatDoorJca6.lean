/-
  Joined: Pq Pt Lay Pu Gen Pv
-/
import Derived.Maps.OwnSet
import Derived.Lib.SlKeysI
import Derived.Lib.SlMapMerge
import Derived.Shelf.SlIterI.Nil
import Derived.Shelf.SortM.Plain
import Derived.Shelf.SortM.SortNone
import Derived.Test.YtebjhcjbfaaejaaGreatDoorProg
import Derived.Test.YtebjhcjbfaaejaaGreatDoorJca5
set_option maxRecDepth 100000
set_option maxHeartbeats 32000000
namespace Go.Proofs.YtebjhcjbfaaejaaGreatDoor
open Go.Proofs.Tryz
variable {m r:Nat}{W:World}{L:List Nat}{F:List Value}{H:List (List UInt8)}{O:PgM}
section
structure PS where
 D:DM
 l:LG
 n:Nat
 late:PgM
 held:PgM
 br:Bool
variable {S:PS}
def sG (S:List (List UInt8)) (log k:Nat):List UInt8:=((S.drop (log+8*k)).take 8).flatten
def cD (log:Nat) (m:PgM):List (Nat×List UInt8):=m.flatMap fun p=>(List.range 8).map fun i=>(log+8*p.1+i,(p.2.drop (64*i)).take 64)
def fC (s:PS):DM×LG×Int:=
 if (wF s.D (cD s.l.n s.held)).2≠0 then ((wF s.D (cD s.l.n s.held)).1,s.l,(wF s.D (cD s.l.n s.held)).2)
 else if (wF s.D (cD s.l.n s.held)).1.syncE≠0 then ((wF s.D (cD s.l.n s.held)).1.sync,s.l,(wF s.D (cD s.l.n s.held)).1.syncE)
 else (fB (wF s.D (cD s.l.n s.held)).1.sync { s.l with at_:=0 } [],oC (wF s.D (cD s.l.n s.held)).1.sync { s.l with at_:=0 } [],lC (wF s.D (cD s.l.n s.held)).1.sync { s.l with at_:=0 } [])
def PS.check (s:PS):PS×Int:=
 if s.br then (s,10) else if s.held=[] then (s,0)
 else if (fC s).2.2≠0 then ({ s with D:=(fC s).1,l:=(fC s).2.1,br:=true },(fC s).2.2)
 else ({ s with D:=(fC s).1,l:=(fC s).2.1,held:=[] },0)
def PS.laid (s:PS) (b:List UInt8):PS:={ s with D:=fB s.D s.l b,l:=oC s.D s.l b }
def PS.append (s:PS) (b:List UInt8):PS×Int:=
 if lC s.D s.l b≠5∨s.held=[] then (s.laid b,lC s.D s.l b)
 else if (s.laid b).check.2≠0 then (s.laid b).check
 else ((s.laid b).check.1.laid b,lC (s.laid b).check.1.D (s.laid b).check.1.l b)
def PS.commit (s:PS):PS×Int:=
 if s.br then (s,10) else if s.late=[] then (s,0)
 else if (s.append (bD s.late)).2≠0 then ({ (s.append (bD s.late)).1 with br:=(s.append (bD s.late)).1.br || ((s.append (bD s.late)).2 !=5&&(s.append (bD s.late)).2 !=4) },(s.append (bD s.late)).2)
 else ({ (s.append (bD s.late)).1 with held:=gH (s.append (bD s.late)).1.held s.late,late:=[] },0)
def aEq (C:Nat->List UInt8) (m:PgM) (k:Nat):List UInt8:=(rF m k).getD (C k)
theorem aAB(b:List UInt8):∀m,((List.range m).map fun i=>(b.drop (64*i)).take 64).flatten=b.take (64*m)
 | 0=>by simp
 | m+1=>by
  rw[List.range_succ,List.map_append,List.flatten_append,aAB b m];simp only[yJ,List.map_nil,bR,List.flatten_nil,dI];rw[show 64*(m+1)=64*m+64 by omega,List.take_add]
theorem aLs{S:List (List UInt8)}{log k:Nat}{b:List UInt8}(c:b.length=512)(h:∀i,i<8->S[log+8*k+i]? = some ((b.drop (64*i)).take 64)):sG S log k=b:=by
 have e:(S.drop (log+8*k)).take 8=(List.range 8).map fun i=>(b.drop (64*i)).take 64:=by
  apply fT
  intro i;rw[xG]
  by_cases hi:i<8
  ·rw[iA hi,xJ,h i hi,zH,List.getElem?_range hi]
   rfl
  ·rw[eA hi,fR (by simp;omega)]
 unfold sG;rw[e,aAB,zF (by omega)]
theorem iV{S:List (List UInt8)}{log k:Nat}(h:∀i,i<8->H[log+8*k+i]? = S[log+8*k+i]?):sG H log k=sG S log k:=by
 unfold sG
 congr 1
 apply fT
 intro i;rw[xG,xG]
 by_cases hi:i<8
 ·rw[iA hi,iA hi,xJ,xJ,h i hi]
 ·rw[eA hi,eA hi]
theorem jQ{log:Nat}{m:PgM}{p:Nat×List UInt8}:p∈cD log m↔∃q∈m,∃i,i<8/\p=(log+8*q.1+i,(q.2.drop (64*i)).take 64):=by
 unfold cD;rw[List.mem_flatMap]
 constructor
 ·rintro⟨q,b,h⟩;obtain⟨i,hi,rfl⟩:=cI.1 h;exact⟨q,b,i,vT.1 hi,rfl⟩
 ·rintro⟨q,b,i,hi,rfl⟩;exact⟨q,b,cI.2 ⟨i,vT.2 hi,rfl⟩⟩
theorem aAC{log:Nat}:∀(m:PgM),(cD log m).length=8*m.length
 | []=>rfl
 | p::m=>by
  have b:=aAC (log:=log) m;unfold cD at b⊢;rw[nH,lB,b]
  simp
  omega
def QM (log:Nat) (m:PgM) (j:Nat):Prop:=∃q∈m,log+8*q.1<=j/\j<log+8*q.1+8
theorem aLt{log:Nat}{m:PgM}:∀p∈cD log m,QM log m p.1:=fun p c=>by
 obtain⟨q,b,i,hi,rfl⟩:=jQ.1 c;exact⟨q,b,by simp only;omega,by simp only;omega⟩
theorem aOv{log:Nat}{m:PgM}{j:Nat}(h:QM log m j):log<=j:=by
 obtain⟨q,_,h1,_⟩:=h;omega
theorem aGo{n log:Nat}{m:PgM}{S:List (List UInt8)}(h:vG n m)(o:log+8*n<=S.length){k:Nat}:sG (vB S (cD log m)) log k=(rF m k).getD (sG S log k):=by
 cases c:rF m k with
 | none=>
  refine iV fun i hi=>lN _ _ _ fun p g e=>?_;obtain⟨q,f,j,s,rfl⟩:=jQ.1 g;have d:q.1=k:=by simp only at e;omega
  rw[qM h (j:=k) (b:=q.2) (by rw[<- d];exact f)]at c
  cases c
 | some b=>
  have r:=aHC h c;refine aLs r.2 fun i hi=>aEz _ _ (by omega) (fun p g e=>?_) (.inr ⟨_,jQ.2 ⟨(k,b),aHB c,i,hi,rfl⟩,rfl⟩);obtain⟨q,f,j,s,rfl⟩:=jQ.1 g;have d:q.1=k/\j=i:=by simp only at e;omega
  obtain⟨h1,rfl⟩:=d;have h2:=qM h (j:=k) (b:=q.2) (by rw[<- h1];exact f);rw[c]at h2;injection h2 with h2;rw[h2]
  rfl
structure eJ (c n log:Nat) (D:DM) (C:Nat->List UInt8):Prop where
 dead:D.dead=false
 pend:D.P=[]
 ok:D.ok
 fit:log+8*n<=D.S.length
 n1:1<=n
 n2:n<=4096
 log1:1<=log
 recs:∃R H,gK c log (D.S.take log) R/\iF n (R.map (·.2)) []=some H/\(H=[]->sM R<=1)/\∀k,k<n->C k=(rF H k).getD (sG D.S log k)
structure zE (c:Nat) (s:PS) (C:Nat->List UInt8):Prop where
 dead:s.D.dead=false
 pend:s.D.P=[]
 ok:s.D.ok
 fit:s.l.n+8*s.n<=s.D.S.length
 n1:1<=s.n
 n2:s.n<=4096
 log1:1<=s.l.n
 recs:∃R,dL c s.l.n (s.D.S.take s.l.n) R s.l/\iF s.n (R.map (·.2)) []=some s.held/\(s.held=[]->s.l.at_<=1)
 late:vG s.n s.late
 br:s.br=false
 cont:∀k,k<s.n->C k=(rF s.held k).getD (sG s.D.S s.l.n k)
theorem zE.held{c:Nat}{s:PS}{C:Nat->List UInt8}(h:zE c s C):vG s.n s.held:=by
 obtain⟨R,_,h2,_⟩:=h.recs;exact aCS _ _ _ (vG.nil _) h2
theorem zE.mono{c c':Nat}{s:PS}{C:Nat->List UInt8}(h:zE c s C)(b:c<=c'):zE c' s C:=by
 obtain⟨R,h1,h2,h3⟩:=h.recs;exact⟨h.dead,h.pend,h.ok,h.fit,h.n1,h.n2,h.log1,⟨R,h1.mono b,h2,h3⟩,h.late,h.br,h.cont⟩
theorem eJ.mono{c c' n log:Nat}{D:DM}{C:Nat->List UInt8}(h:eJ c n log D C)(d:c<=c'):eJ c' n log D C:=by
 obtain⟨R,H,h1,h2,h3,b⟩:=h.recs;exact⟨h.dead,h.pend,h.ok,h.fit,h.n1,h.n2,h.log1,⟨R,H,h1.mono d,h2,h3,b⟩⟩
theorem aGp{D:DM}(b:D.P=[])(K:List Bool):(D.reopen K).S=D.S:=by
 show vB D.S (bG D.P K)=_
 rw[b]
 rfl
theorem zE.closed{c:Nat}{s:PS}{C:Nat->List UInt8}(h:zE c s C)(K:List Bool):eJ c s.n s.l.n (s.D.reopen K) C:=by
 obtain⟨R,h1,h2,h3⟩:=h.recs;have b:=aGp h.pend K;refine⟨rfl,rfl,DM.ok_reopen h.ok K,by rw[b];exact h.fit,h.n1,h.n2,h.log1,⟨R,s.held,by rw[b];exact h1.closed,h2,fun e=>by rw[<- h1.at_];exact h3 e,by rw[b];exact h.cont⟩⟩
def gG (n log:Nat) (D:DM) (H:PgM):PS:={ D:=D,l:=mY log (D.S.take log),n:=n,late:=[],held:=H,br:=false }
theorem eJ.open_{c n log:Nat}{D:DM}{C:Nat->List UInt8}(h:eJ c n log D C)(f:c+1<4294967296):
  ∃H,iF n ((rA log none (D.S.take log)).map (·.2)) []=some H/\zE (c+1) (gG n log D H) C/\(tB (D.S.take log)).1<4294967295:=by
 obtain⟨R,H,h1,h2,h3,d⟩:=h.recs;have b:=h1.open_ f;refine⟨H,by rw[h1.recs];exact h2,⟨h.dead,h.pend,h.ok,h.fit,h.n1,h.n2,h.log1,⟨R,b,h2,fun e=>?_⟩,vG.nil _,rfl,d⟩,by have:=h1.newest;omega⟩
 show(mY log (D.S.take log)).at_<=1
 rw[b.at_];exact h3 e
theorem zE.wrote{c:Nat}{s:PS}{C:Nat->List UInt8}(h:zE c s C){k:Nat}{b:List UInt8}(d:k<s.n)(f:b.length=512):zE c { s with late:=cO s.late k b } C:=
 ⟨h.dead,h.pend,h.ok,h.fit,h.n1,h.n2,h.log1,h.recs,h.late.put d f,h.br,h.cont⟩
theorem zE.rolled{c:Nat}{s:PS}{C:Nat->List UInt8}(h:zE c s C):zE c { s with late:=[] } C:=
 ⟨h.dead,h.pend,h.ok,h.fit,h.n1,h.n2,h.log1,h.recs,vG.nil _,h.br,h.cont⟩
theorem eJ.new{n log N:Nat}(h1:1<=n)(h2:n<=4096)(h3:1<=log)(b:log+8*n<=N)(f:N<=65536):eJ 0 n log (DM.new N) (fun _=>List.replicate 512 0):=by
 have c:(DM.new N).S=List.replicate N aMD:=rfl;have d:(DM.new N).S.length=N:=by rw[c];simp
 refine⟨rfl,rfl,DM.ok_new N (by omega) f,by rw[d];exact b,h1,h2,h3,⟨[],[],?_,rfl,fun _=>by simp[sM],fun k g=>?_⟩⟩
 ·rw[c,List.take_replicate,iT (by omega)];exact gK.zero
 ·rw[aCQ]
  symm
  refine aLs zT fun i hi=>?_;rw[c,List.getElem?_replicate,iA (by omega),List.drop_replicate,List.take_replicate,show min 64 (512-64*i)=64 by omega]
  rfl

theorem aEB{S:List (List UInt8)}{log:Nat}(h:∀j,j<log->H[j]? = S[j]?):H.take log=S.take log:=by
 apply fT
 intro j;rw[xG,xG]
 by_cases b:j<log
 ·rw[iA b,iA b,h j b]
 ·rw[eA b,eA b]
theorem aHE:∀(b:List (List UInt8)) (D:DM) (pos:Nat),D.ok->(oT D pos b).1.ok
 | [],D,_,h=>DM.ok_sync h
 | s::b,D,pos,h=>by
  by_cases c:D.writeE (pos:Int) s=0
  ·rw[bY c];exact aHE b _ _ (DM.ok_write h _ _)
  ·rw[fV c];exact DM.ok_write h _ _
theorem wL{D:DM}{l:LG}{b:List UInt8}(h:D.ok):(fB D l b).ok:=by
 unfold fB
 split
 ·exact h
 ·split
  ·exact h
  ·split
   ·exact h
   ·exact aHE _ _ _ h
theorem mN(D:DM)(l:LG)(b:List UInt8):(fB D l b).done<=D.done+65536:=by
 unfold fB
 split
 ·omega
 ·split
  ·omega
  ·split
   ·omega
   ·have:=aMA (gC l.ses l.num b) D (l.f+l.at_);rw[zD]at this;omega
theorem aOw{D:DM}{log:Nat}(b:D.dead=false)(c:D.P=[]):St D 0 (D.S.take log):=⟨b,c,[],D.S.drop log,by rw[eH,bN],rfl⟩
theorem aBD{D:DM}{log:Nat}(h:St D 0 H)(f:H.length=log):D.S.take log=H:=by
 obtain⟨b,S1,c,d⟩:=h.part;obtain rfl:b=[]:=tO.1 d;rw[c,eH];exact List.take_left' f
section
variable {c : Nat} {s : PS} {C : Nat -> List UInt8}
theorem zE.lgAt(h:zE c s C):s.l.at_<=s.l.n/\(s.D.S.take s.l.n).length=s.l.n/\(s.D.S.take s.l.n).take s.l.at_++(s.D.S.take s.l.n).drop s.l.at_=s.D.S.take s.l.n/\LgAt s.l 0 ((s.D.S.take s.l.n).take s.l.at_++(s.D.S.take s.l.n).drop s.l.at_).length ((s.D.S.take s.l.n).take s.l.at_).length:=by
 obtain⟨R,h1,_,_⟩:=h.recs;have h2:=h1.few;rw[<- h1.at_]at h2;have h3:=h1.len;refine⟨h2,h3,bN ..,⟨h1.f,?_,?_,h1.br⟩⟩
 ·rw[bN,h3]
 ·rw[jC,h3];omega
theorem zE.app(h:zE c s C)(hc:c+1<4294967296){b:List UInt8}(hb:aK s.n b s.held=some O)(I:O≠[]):
  (65535<pA b.length/\lC s.D s.l b=4/\s.laid b=s) ∨
  (pA b.length<=65535/\s.l.n-s.l.at_<pA b.length/\lC s.D s.l b=5/\s.laid b=s) ∨
  (lC s.D s.l b=0/\zE (c+1) { s.laid b with held:=O,late:=[] } (fun k=>(rF O k).getD (sG s.D.S s.l.n k))/\(s.D.limit = -1->(s.laid b).D.limit = -1)/\(s.laid b).l.n=s.l.n) ∨
  (lC s.D s.l b=10/\(s.laid b).D.dead=true/\s.D.limit≠-1/\(s.laid b).l.n=s.l.n/\∀K,eJ (c+1) s.n s.l.n ((s.laid b).D.reopen K) C∨eJ (c+1) s.n s.l.n ((s.laid b).D.reopen K) (fun k=>(rF O k).getD (sG s.D.S s.l.n k))):=by
 obtain⟨ha,L,M,Z⟩:=h.lgAt;obtain⟨R,F,ht,h1⟩:=h.recs;have u:=h.fit;have z:St s.D 0 ((s.D.S.take s.l.n).take s.l.at_++(s.D.S.take s.l.n).drop s.l.at_):=by rw[M];exact aOw h.dead h.pend
 have p:¬s.l.br=true:=by rw[F.br];simp
 have A:((s.D.S.take s.l.n).take s.l.at_).length=s.l.at_:=by rw[jC,L];omega
 by_cases o:65535<pA b.length
 ·left
  refine⟨o,?_,?_⟩
  ·unfold lC;rw[eA p,iA o]
  ·unfold PS.laid fB oC;rw[eA p,iA o,eA p,iA o]
 ·right
  by_cases g:s.l.n-s.l.at_<pA b.length
  ·left
   refine⟨by omega,g,?_,?_⟩
   ·unfold lC;rw[eA p,eA o,iA g]
   ·unfold PS.laid fB oC;rw[eA p,eA o,iA g,eA p,eA o,iA g]
  ·right
   have W:pA b.length<=((s.D.S.take s.l.n).drop s.l.at_).length:=by rw[mC,L];omega
   have d:cG (fun j=>j<s.l.n) s.D.S (fB s.D s.l b):=(cG.refl h.pend).append s.l b (fun j _ h2=>by rw[F.f]at h2;omega);have m:∀D':DM,cG (fun j=>j<s.l.n) s.D.S D'->∀k,sG D'.S s.l.n k=sG s.D.S s.l.n k:=fun D' U k=>iV fun i hi=>U.same _ (by omega);have B:∀st:eC,O=[]->sM (R++[(st,b)])<=1:=fun st e=>absurd e I
   have E:iF s.n ((R++[(oF s.l.ses s.l.num b,b)]).map (·.2)) []=some O:=by
    rw[List.map_append,yJ,List.map_nil,kY _ _ _ _ _ ht];exact hb
   by_cases v:0<=s.D.limit/\s.D.limit<=pA b.length
   ·right
    have X:=fun K=>aBb (b:=b) z Z W (by omega) v.1 v.2 K;obtain⟨N,G,e3,_,e5⟩:=X [];refine⟨N,G,by omega,by show(oC s.D s.l b).n=_;rw[e5],fun K=>?_⟩;obtain⟨_,_,_,⟨T,P,H⟩,_⟩:=X K;have J:((s.D.S.take s.l.n).take s.l.at_++T).length=s.l.n:=by rw[lB,H.1,mC,A,L];omega
    have t:=aBD P J;have x:=d.reopen K;have q:s.l.n+8*s.n<=((fB s.D s.l b).reopen K).S.length:=by rw[x.len];exact u
    rcases F.torn hc (by omega) (by omega) H with Q|Q
    ·refine .inl ⟨rfl,rfl,DM.ok_reopen (wL h.ok) K,q,h.n1,h.n2,h.log1,⟨R,s.held,?_,ht,fun e=>by rw[<- F.at_];exact h1 e,fun k V=>?_⟩⟩
     ·show gK _ _ (((fB s.D s.l b).reopen K).S.take s.l.n) R
      rw[t];exact Q
     ·show C k=(rF s.held k).getD (sG ((fB s.D s.l b).reopen K).S s.l.n k)
      rw[m _ x];exact h.cont k V
    ·refine .inr ⟨rfl,rfl,DM.ok_reopen (wL h.ok) K,q,h.n1,h.n2,h.log1,⟨_,O,?_,E,B _,fun k V=>?_⟩⟩
     ·show gK _ _ (((fB s.D s.l b).reopen K).S.take s.l.n) _
      rw[t];exact Q
     ·show _=(rF O k).getD (sG ((fB s.D s.l b).reopen K).S s.l.n k)
      rw[m _ x]
   ·left
    have y:s.D.limit = -1∨(pA b.length:Int)<s.D.limit:=by have:=h.ok.lim;omega
    obtain⟨N,G,e3,e4,e5⟩:=gY (b:=b) z Z W (by omega) y;have Y:=F.whole hc (b:=b) (by omega) (by omega);have t:=aBD G Y.len;have r:oC s.D s.l b={ s.l with at_:=s.l.at_+pA b.length,num:=(s.l.num+1)%4294967296 }:=by rw[e3,A]
    refine⟨N,⟨G.dead,G.pend,wL h.ok,?_,h.n1,h.n2,?_,⟨_,?_,E,fun e=>absurd e I⟩,vG.nil _,h.br,fun k V=>?_⟩,fun hl=>?_,by show(oC s.D s.l b).n=_;rw[r]⟩
    ·show(oC s.D s.l b).n+8*s.n<=(fB s.D s.l b).S.length
     rw[r,d.len];exact u
    ·show 1<=(oC s.D s.l b).n
     rw[r];exact h.log1
    ·show dL _ (oC s.D s.l b).n ((fB s.D s.l b).S.take (oC s.D s.l b).n) _ (oC s.D s.l b)
     rw[r]
     show dL _ s.l.n ((fB s.D s.l b).S.take s.l.n) _ _
     rw[t];exact Y
    ·show _=(rF O k).getD (sG (fB s.D s.l b).S (oC s.D s.l b).n k)
     rw[r]
     show _=(rF O k).getD (sG (fB s.D s.l b).S s.l.n k)
     rw[m _ d]
    ·show(fB s.D s.l b).limit = -1
     rw[e4,iA hl]
theorem aCY(n:Nat):iF n [[]] []=some []:=rfl
theorem aML(a b:Nat):sM [(oF a b [],([]:List UInt8))]<=1:=by simp[sM,oF,pA]
theorem zE.torn_home(h:zE c s C){D':DM}(ht:cG (QM s.l.n s.held) s.D.S D')(K:List Bool):eJ c s.n s.l.n (D'.reopen K) C∨D'.ok=False:=by
 by_cases hok:D'.ok
 ·left
  have d:=ht.reopen K;obtain⟨R,m,o,h1⟩:=h.recs;have f:(D'.reopen K).S.take s.l.n=s.D.S.take s.l.n:=aEB fun j m=>d.same j (fun p=>by have:=aOv p;omega);refine⟨rfl,rfl,DM.ok_reopen hok K,by rw[d.len];exact h.fit,h.n1,h.n2,h.log1,⟨R,s.held,by rw[f];exact m.closed,o,fun e=>by rw[<- m.at_];exact h1 e,fun k g=>?_⟩⟩;rw[h.cont k g]
  cases r:rF s.held k with
  | some b=>rfl
  | none=>
   show sG s.D.S s.l.n k=sG (D'.reopen K).S s.l.n k
   refine(iV fun i hi=>d.same _ fun⟨q,p,h2,h3⟩=>?_).symm;have g:q.1=k:=by omega
   rw[qM h.held (j:=k) (b:=q.2) (by rw[<- g];exact p)]at r
   cases r
 ·right;exact eq_false hok
theorem zE.settle(h:zE c s C)(hc:c+1<4294967296)(_:s.held≠[]):
  ((fC s).2.2=0/\zE (c+1) { s with D:=(fC s).1,l:=(fC s).2.1,held:=[] } C/\(fC s).2.1.n=s.l.n/\(s.D.limit = -1->(fC s).1.limit = -1)) ∨
  ((fC s).2.2=10/\(fC s).1.dead=true/\s.D.limit≠-1/\(fC s).2.1.n=s.l.n/\∀K,eJ (c+1) s.n s.l.n ((fC s).1.reopen K) C):=by
 obtain⟨ha,hV,_,_⟩:=h.lgAt;obtain⟨R,Z,a',h1⟩:=h.recs;have y:=h.fit;have g:=h.log1;have z:=h.held
 have hp:∀p∈cD s.l.n s.held,p.1<s.D.S.length/\p.2.length=64:=fun p hp=>by
  obtain⟨q,hq,i,hi,rfl⟩:=jQ.1 hp;have:=z.mem q hq;refine⟨by simp only;omega,?_⟩;simp only[jC,mC];omega
 have H:cG (QM s.l.n s.held) s.D.S (wF s.D (cD s.l.n s.held)).1:=aCW _ _ (cG.refl h.pend) aLt;have r:=aLr (cD s.l.n s.held) s.D h.ok;have N:=aOu (cD s.l.n s.held) s.D;rcases aCX (cD s.l.n s.held) s.D h.dead hp with ⟨a1,M,a3,a4⟩|⟨a1,M,a3⟩
 ·have O:(wF s.D (cD s.l.n s.held)).1.P=cD s.l.n s.held:=by rw[a3,h.pend,eH]
  have e:fC s=if (wF s.D (cD s.l.n s.held)).1.syncE≠0 then ((wF s.D (cD s.l.n s.held)).1.sync,s.l,(wF s.D (cD s.l.n s.held)).1.syncE) else (fB (wF s.D (cD s.l.n s.held)).1.sync { s.l with at_:=0 } [],oC (wF s.D (cD s.l.n s.held)).1.sync { s.l with at_:=0 } [],lC (wF s.D (cD s.l.n s.held)).1.sync { s.l with at_:=0 } []):=by
   unfold fC;rw[eA (by rw[a1];decide)]
  obtain⟨o,a7⟩:=nm ((wF s.D (cD s.l.n s.held)).1);rw[<- a7]at e H r N M a4 O;clear a7 a1 a3
  by_cases Y:o.limit=0
  ·right
   have e1:o.syncE=10:=by unfold DM.syncE;rw[eA (by rw[M];decide),iA Y]
   have Q:o.sync.dead=true:=by unfold DM.sync;rw[eA (by rw[M];decide),iA Y];rfl
   rw[iA (by rw[e1];decide),e1]at e;rw[e];refine⟨rfl,Q,fun G=>by rw[a4 G]at Y;exact absurd Y (by decide),rfl,fun K=>?_⟩;rcases h.torn_home H.sync K with F|F
   ·exact F.mono (by omega)
   ·exact absurd (DM.ok_sync r) (by rw[F];exact id)
  ·have e1:o.syncE=0:=by unfold DM.syncE;rw[eA (by rw[M];decide),eA Y]
   have Q:o.sync={ o.spent with S:=vB o.S o.P,P:=[] }:=by unfold DM.sync;rw[eA (by rw[M];decide),eA Y]
   rw[eA (by rw[e1];decide)]at e;have t:=DM.ok_sync r;have a0:o.sync.dead=false:=by rw[Q];exact M
   have U:o.sync.P=[]:=by rw[Q]
   have I:o.sync.S=vB s.D.S (cD s.l.n s.held):=by rw[Q];show vB o.S o.P=_;rw[N,O]
   have V:s.D.limit = -1->o.sync.limit = -1:=fun G=>by
    rw[Q]
    show(if 0<o.limit then o.limit-1 else o.limit) = -1
    rw[a4 G,eA (by decide)]
   clear Q e1 Y M a4 O N H r;generalize o.sync=d at e t a0 U I V;have J:∀k,sG d.S s.l.n k=(rF s.held k).getD (sG s.D.S s.l.n k):=fun k=>by rw[I];exact aGo z y
   have a5:d.S.take s.l.n=s.D.S.take s.l.n:=aEB fun j b2=>by
    rw[I];refine lN _ _ _ fun p b0 e'=>?_;have:=aOv (aLt p b0);omega
   have A:d.S.length=s.D.S.length:=by rw[I,yD]
   have a6:St d 0 ([]++s.D.S.take s.l.n):=by rw[eH,<- a5];exact aOw a0 U
   have hL:LgAt { s.l with at_:=0 } 0 (([]:List (List UInt8))++s.D.S.take s.l.n).length ([]:List (List UInt8)).length:=⟨Z.f,by rw[eH,hV],rfl,Z.br⟩;have u:pA ([]:List UInt8).length=1:=rfl;have hm:pA ([]:List UInt8).length<=(s.D.S.take s.l.n).length:=by rw[hV,u];exact g
   have W:cG (fun j=>j<s.l.n) d.S (fB d { s.l with at_:=0 } []):=(cG.refl U).append _ _ (fun j _ h2=>by
    have h2:j<s.l.f+0+1:=h2;rw[Z.f]at h2;omega)
   have m:∀D':DM,cG (fun j=>j<s.l.n) d.S D'->∀k,sG D'.S s.l.n k=(rF s.held k).getD (sG s.D.S s.l.n k):=fun D' b1 k=>by
    rw[<- J k];exact iV fun i hi=>b1.same _ (by omega)
   rw[e]
   by_cases v:0<=d.limit/\d.limit<=pA ([]:List UInt8).length
   ·right
    have G:=fun K=>aBb (b:=[]) a6 hL hm (by rw[u];omega) v.1 v.2 K;obtain⟨f1,f2,_,_,f5⟩:=G [];refine⟨f1,f2,fun G=>by rw[V G]at v;exact absurd v.1 (by decide),by show(oC d { s.l with at_:=0 } []).n=_;rw[f5],fun K=>?_⟩;obtain⟨_,_,_,⟨T,a8,a9⟩,_⟩:=G K;rw[eH]at a8;have L:=aBD a8 (by rw[a9.1,hV]);have B:=W.reopen K;have E:s.l.n+8*s.n<=((fB d { s.l with at_:=0 } []).reopen K).S.length:=by rw[B.len,A];exact y
    rcases Z.anewTorn hc u g a9 with F|F
    ·refine⟨rfl,rfl,DM.ok_reopen (wL t) K,E,h.n1,h.n2,g,⟨R,s.held,?_,a',fun e=>by rw[<- Z.at_];exact h1 e,fun k hk=>?_⟩⟩
     ·show gK _ _ (((fB d { s.l with at_:=0 } []).reopen K).S.take s.l.n) R
      rw[L];exact F
     ·show C k=(rF s.held k).getD (sG ((fB d { s.l with at_:=0 } []).reopen K).S s.l.n k)
      rw[m _ B,h.cont k hk]
      cases rF s.held k<;>rfl
    ·refine⟨rfl,rfl,DM.ok_reopen (wL t) K,E,h.n1,h.n2,g,⟨[(oF s.l.ses s.l.num [],[])],[],?_,aCY _,fun _=>aML _ _,fun k hk=>?_⟩⟩
     ·show gK _ _ (((fB d { s.l with at_:=0 } []).reopen K).S.take s.l.n) _
      rw[L];exact F
     ·show C k=sG ((fB d { s.l with at_:=0 } []).reopen K).S s.l.n k
      rw[m _ B,h.cont k hk]
   ·left
    have X:d.limit = -1∨(pA ([]:List UInt8).length:Int)<d.limit:=by have:=t.lim;omega
    obtain⟨f1,f2,f3,f4,_⟩:=gY (b:=[]) a6 hL hm (by rw[u];omega) X;rw[eH]at f2;have hw:=Z.anew hc (b:=[]) (by rw[u];omega) (by rw[u];exact g);have L:=aBD f2 hw.len;have x:oC d { s.l with at_:=0 } []={ s.l with at_:=pA ([]:List UInt8).length,num:=(s.l.num+1)%4294967296 }:=by rw[f3];rfl
    refine⟨f1,⟨f2.dead,f2.pend,wL t,?_,h.n1,h.n2,?_,⟨[(oF s.l.ses s.l.num [],[])],?_,aCY _,fun _=>?_⟩,h.late,h.br,fun k hk=>?_⟩,by show(oC d { s.l with at_:=0 } []).n=_;rw[x],fun G=>by show(fB d { s.l with at_:=0 } []).limit = -1;rw[f4,iA (V G)]⟩
    ·show(oC d { s.l with at_:=0 } []).n+8*s.n<=(fB d { s.l with at_:=0 } []).S.length
     rw[x,W.len,A];exact y
    ·show 1<=(oC d { s.l with at_:=0 } []).n
     rw[x];exact g
    ·show dL _ (oC d { s.l with at_:=0 } []).n ((fB d { s.l with at_:=0 } []).S.take (oC d { s.l with at_:=0 } []).n) _ (oC d { s.l with at_:=0 } [])
     rw[x]
     show dL _ s.l.n ((fB d { s.l with at_:=0 } []).S.take s.l.n) _ _
     rw[L];exact hw
    ·show(oC d { s.l with at_:=0 } []).at_<=1
     rw[x];exact zP u
    ·show C k=sG (fB d { s.l with at_:=0 } []).S (oC d { s.l with at_:=0 } []).n k
     rw[x]
     show C k=sG (fB d { s.l with at_:=0 } []).S s.l.n k
     rw[m _ W,h.cont k hk]
 ·right
  have e:fC s=((wF s.D (cD s.l.n s.held)).1,s.l,10):=by
   unfold fC;rw[iA (by rw[a1];decide),a1]
  rw[e];refine⟨rfl,M,a3,rfl,fun K=>?_⟩;rcases h.torn_home H K with F|F
  ·exact F.mono (by omega)
  ·exact absurd r (by rw[F];exact id)
theorem zE.congr{d:Nat->List UInt8}(h:zE c s C)(f:∀k,k<s.n->C k=d k):zE c s d:=
 ⟨h.dead,h.pend,h.ok,h.fit,h.n1,h.n2,h.log1,h.recs,h.late,h.br,fun k b=>by rw[<- f k b];exact h.cont k b⟩
theorem eJ.congr{n log:Nat}{D:DM}{d:Nat->List UInt8}(h:eJ c n log D C)(g:∀k,k<n->C k=d k):eJ c n log D d:=by
 obtain⟨R,H,h1,h2,h3,f⟩:=h.recs;exact⟨h.dead,h.pend,h.ok,h.fit,h.n1,h.n2,h.log1,⟨R,H,h1,h2,h3,fun k b=>by rw[<- g k b];exact f k b⟩⟩
theorem zE.checked(h:zE c s C)(m:c+1<4294967296):
  (s.check.2=0/\zE (c+1) s.check.1 C/\s.check.1.held=[]/\s.check.1.late=s.late/\s.check.1.n=s.n/\s.check.1.l.n=s.l.n/\(s.D.limit = -1->s.check.1.D.limit = -1)) ∨
  (s.check.2=10/\s.check.1.D.dead=true/\s.D.limit≠-1/\∀K,eJ (c+1) s.n s.l.n (s.check.1.D.reopen K) C):=by
 have f:¬s.br=true:=by rw[h.br];decide
 unfold PS.check;rw[eA f]
 by_cases d:s.held=[]
 ·rw[iA d];exact .inl ⟨rfl,h.mono (by omega),d,rfl,rfl,rfl,fun h=>h⟩
 ·rw[eA d];rcases h.settle m d with ⟨b,g,i,j⟩|⟨b,g,i,j,k⟩
  ·rw[eA (by rw[b];decide)];exact .inl ⟨rfl,g,rfl,rfl,rfl,i,j⟩
  ·rw[iA (by rw[b];decide)];exact .inr ⟨b,g,i,k⟩
theorem xL{n:Nat}{d m:PgM}(f:vG n m)(b:m≠[]):gH d m≠[]:=by
 intro e
 cases m with
 | nil=>exact b rfl
 | cons p m=>
  have h1:=gX (p::m) d f p.1;rw[e,aCQ,aAz,iA rfl]at h1
  cases h1
theorem vR(h:zE c s C)(m:PgM)(b:vG s.n m){k:Nat}(d:k<s.n):(rF (gH s.held m) k).getD (sG s.D.S s.l.n k)=aEq C m k:=by
 unfold aEq;rw[gX m s.held b,h.cont k d]
 cases rF m k<;>rfl
theorem zE.committed(h:zE c s C)(L:c+4<4294967296):
  (s.commit.2=0/\zE (c+3) s.commit.1 (aEq C s.late)/\s.commit.1.late=[]/\s.commit.1.n=s.n/\s.commit.1.l.n=s.l.n/\(s.D.limit = -1->s.commit.1.D.limit = -1)) ∨
  ((s.commit.2=4∨s.commit.2=5)/\zE (c+3) s.commit.1 C/\s.commit.1.late=s.late/\s.commit.1.n=s.n/\s.commit.1.l.n=s.l.n/\(s.D.limit = -1->s.commit.1.D.limit = -1)/\(65535<pA (bD s.late).length∨s.l.n<pA (bD s.late).length+1)) ∨
  (s.commit.2=10/\s.commit.1.D.dead=true/\s.D.limit≠-1/\∀K,eJ (c+3) s.n s.l.n (s.commit.1.D.reopen K) C∨eJ (c+3) s.n s.l.n (s.commit.1.D.reopen K) (aEq C s.late)):=by
 have r:¬s.br=true:=by rw[h.br];decide
 by_cases q:s.late=[]
 ·have e:s.commit=(s,0):=by unfold PS.commit;rw[eA r,iA q]
  rw[e];exact .inl ⟨rfl,(h.mono (by omega)).congr fun k _=>by rw[q];rfl,q,rfl,rfl,fun h=>h⟩
 ·have b:s.commit=if (s.append (bD s.late)).2≠0 then ({ (s.append (bD s.late)).1 with br:=(s.append (bD s.late)).1.br || ((s.append (bD s.late)).2 !=5&&(s.append (bD s.late)).2 !=4) },(s.append (bD s.late)).2)
    else ({ (s.append (bD s.late)).1 with held:=gH (s.append (bD s.late)).1.held s.late,late:=[] },0):=by
   unfold PS.commit;rw[eA r,eA q]
  have J:=h.n2;have G:aK s.n (bD s.late) s.held=some (gH s.held s.late):=kU (by omega) s.late s.held h.late.mem;rcases h.app (by omega) G (xL h.late q) with ⟨g,m,i⟩|⟨g,m,i,t⟩|⟨g,m,i,t⟩|⟨g,m,i,t,H⟩
  ·have e:s.append (bD s.late)=(s,4):=by
    unfold PS.append;rw[iA (.inl (by rw[m];decide)),i,m]
   rw[e,iA (by simp)]at b;rw[b];exact .inr (.inl ⟨.inl rfl,⟨h.dead,h.pend,h.ok,h.fit,h.n1,h.n2,h.log1,(h.mono (by omega:c<=c+3)).recs,h.late,by rw[h.br];rfl,h.cont⟩,rfl,rfl,rfl,fun h=>h,.inl g⟩)
  ·by_cases F:s.held=[]
   ·have e:s.append (bD s.late)=(s,5):=by
     unfold PS.append;rw[iA (.inr F),t,i]
    rw[e,iA (by simp)]at b;rw[b];obtain⟨R,_,_,h1⟩:=h.recs;exact .inr (.inl ⟨.inr rfl,⟨h.dead,h.pend,h.ok,h.fit,h.n1,h.n2,h.log1,(h.mono (by omega:c<=c+3)).recs,h.late,by rw[h.br];rfl,h.cont⟩,rfl,rfl,rfl,fun h=>h,.inr (by have:=h1 F;omega)⟩)
   ·have e:s.append (bD s.late)=if s.check.2≠0 then s.check else (s.check.1.laid (bD s.late),lC s.check.1.D s.check.1.l (bD s.late)):=by
     unfold PS.append;rw[eA (by rintro(o|o);exact o i;exact F o),t]
    rcases h.checked (by omega) with ⟨u,f,A,B,v,y,E⟩|⟨u,f,A,B⟩
    ·rw[eA (by rw[u];decide)]at e;generalize s.check.1=x at *;have z:aK x.n (bD s.late) x.held=some (gH x.held s.late):=kU (by omega) s.late x.held (by rw[v];exact h.late.mem);have j:vG x.n s.late:=by rw[v];exact h.late
     rcases f.app (by omega) z (xL j q) with ⟨c1,_⟩|⟨c1,c2,c3,c4⟩|⟨c1,c2,c3,c4⟩|⟨c1,c2,c3,c4,I⟩
     ·omega
     ·rw[c3,c4]at e;rw[e,iA (by simp)]at b;rw[b];obtain⟨R,_,_,h1⟩:=f.recs;have:=h1 A;exact .inr (.inl ⟨.inr rfl,⟨f.dead,f.pend,f.ok,f.fit,f.n1,f.n2,f.log1,(f.mono (by omega:c+1<=c+3)).recs,f.late,by rw[f.br];rfl,f.cont⟩,B,v,y,E,.inr (by rw[<- y];omega)⟩)
     ·rw[c1]at e;rw[e,eA (by simp)]at b;rw[b];exact .inl ⟨rfl,(c2.mono (by omega)).congr fun k p=>vR f s.late j p,rfl,v,by rw[<- y];exact c4,fun o=>c3 (E o)⟩
     ·rw[c1]at e;rw[e,iA (by simp)]at b;rw[b];refine .inr (.inr ⟨rfl,c2,fun o=>c3 (E o),fun K=>?_⟩);rw[<- v,<- y];rcases I K with d|d
      ·exact .inl (d.mono (by omega))
      ·exact .inr ((d.mono (by omega)).congr fun k p=>vR f s.late j p)
    ·rw[iA (by rw[u];decide)]at e;rw[e,iA (by rw[u];decide)]at b;rw[b];exact .inr (.inr ⟨u,f,A,fun K=>.inl ((B K).mono (by omega))⟩)
  ·have e:s.append (bD s.late)=(s.laid (bD s.late),0):=by
    unfold PS.append;rw[iA (.inl (by rw[g];decide)),g]
   rw[e,eA (by simp)]at b;rw[b];exact .inl ⟨rfl,(m.mono (by omega)).congr fun k p=>vR h s.late h.late p,rfl,rfl,t,i⟩
  ·have e:s.append (bD s.late)=(s.laid (bD s.late),10):=by
    unfold PS.append;rw[iA (.inl (by rw[g];decide)),g]
   rw[e,iA (by simp)]at b;rw[b];refine .inr (.inr ⟨rfl,m,i,fun K=>?_⟩);rcases H K with d|d
   ·exact .inl (d.mono (by omega))
   ·exact .inr ((d.mono (by omega)).congr fun k p=>vR h s.late h.late p)
end
end
variable {S:PS}
section
open Go.RowKit Go.ChangeMaps Go.MapKept
open Go.WideElems (Fit rd rg)
def fI (b:List UInt8):Value:=.agg (fA b).toArray
theorem aCZ:∀ {a b:List UInt8},fA a=fA b->a=b
 | [],[],_=>rfl
 | [],_::_,h=>by simp[fA]at h
 | _::_,[],h=>by simp[fA]at h
 | x::a,y::b,h=>by
  simp only[fA,yJ,List.cons.injEq]at h;obtain⟨h1,h2⟩:=h;unfold B8 at h1;injection h1 with _ h1;rw[show x=y from UInt8.toNat.inj (by omega),aCZ h2]
theorem aEC{a b:List UInt8}(h:fI a=fI b):a=b:=by
 unfold fI at h;injection h with h;exact aCZ (List.toArray_inj h)
open Classical in
noncomputable def pgR (v:Value):Option (DataW Unit×List MemPlace):=if h:∃b,v=fI b/\b.length=512 then some (.lit (.string h.choose),[]) else none
theorem aJV{b:List UInt8}(c:b.length=512):pgR (fI b)=some (.lit (.string b),[]):=by
 have h:∃b',fI b=fI b'/\b'.length=512:=⟨b,rfl,c⟩;unfold pgR;rw[dif_pos h,<- aEC h.choose_spec.1]
theorem aBE{v:Value}{z:DataW Unit×List MemPlace}(h:pgR v=some z):∃b,v=fI b/\b.length=512/\z=(.lit (.string b),[]):=by
 unfold pgR at h
 split at h
 ·rename_i h1
  cases h
  exact⟨_,h1.choose_spec.1,h1.choose_spec.2,rfl⟩
 ·cases h
def aDa (p:Nat×List UInt8):Lit×DataW Unit:=(.int .i64 (p.1:Int),.lit (.string p.2))
def toD (m:PgM):DataW Unit:=.map (m.map aDa)
theorem aHF(x:Nat×List UInt8):∀m:PgM,DataW.insert (aDa x) (m.map aDa)=(pT x m).map aDa
 | []=>rfl
 | y::m=>by
  have e:(aDa x).1.before (aDa y).1=decide (x.1<y.1):=by
   show decide ((x.1:Int)<(y.1:Int))=_
   rw[jT,uO,uO];omega
  rw[yJ,DataW.insert,e,pT]
  by_cases h:x.1<y.1
  ·rw[iA (by simpa using h),iA h];rfl
  ·rw[eA (by simpa using h),eA h,yJ,aHF x m]
theorem aJW(p:Nat×List UInt8)(k:Nat):(aDa p).1.sameKey (.int .i64 (k:Int))=decide (p.1=k):=by
 show decide (IntKind.i64=IntKind.i64/\(p.1:Int)=(k:Int))=_
 rw[jT,uO,uO];exact⟨fun h=>by have:=h.2;omega,fun h=>⟨rfl,by omega⟩⟩
theorem aRp(m:PgM)(k:Nat)(b:List UInt8):(toD m).put (.int .i64 (k:Int)) (.lit (.string b))=toD (cO m k b):=by
 unfold toD cO DataW.put
 simp only
 rw[List.filter_map,show((fun p=>!p.1.sameKey (.int .i64 (k:Int))) ∘ aDa)=(fun p:Nat×List UInt8=>!decide (p.1=k)) from funext fun p=>by rw[Function.comp,aJW]];exact congrArg _ (aHF (k,b) _)
theorem aOx(k:Nat):∀m:PgM,(m.map aDa).find? (fun p=>p.1.sameKey (.int .i64 (k:Int)))=(m.find? fun p=>decide (p.1=k)).map aDa
 | []=>rfl
 | p::m=>by
  rw[yJ,List.find?_cons,List.find?_cons,aJW,aOx k m]
  cases decide (p.1=k)<;>rfl
theorem at_D(m:PgM)(k:Nat)(z:DataW Unit):(toD m).atKey (.int .i64 (k:Int)) z=match rF m k with|some b=>.lit (.string b)|none=>z:=by
 unfold toD DataW.atKey rF
 simp only
 rw[aOx]
 cases m.find? fun p=>decide (p.1=k)<;>rfl
theorem has_D(m:PgM)(k:Nat):Maps.has (toD m) (.int .i64 (k:Int))=(rF m k).isSome:=by
 unfold toD;rw[Maps.has_eq,List.any_map,show((fun p=>p.1.sameKey (.int .i64 (k:Int))) ∘ aDa)=(fun p:Nat×List UInt8=>decide (p.1=k)) from funext fun p=>aJW p k];unfold rF
 induction m with
 | nil=>rfl
 | cons p m b=>
  rw[List.any_cons,List.find?_cons]
  cases h:decide (p.1=k)
  ·simpa using b
  ·simp
theorem aGq(m:PgM):Maps.size (toD m)=m.length:=by unfold toD;rw[Go.Maps.size_eq,lI]
theorem aOy(m:PgM):intKeys (toD m)=m.map fun p=>(p.1:Int):=by
 unfold toD intKeys;simp only[List.map_map]
 rfl
theorem aLu:∀(s d:PgM),Lib.mergeD (toD d) (toD s)=toD (gH d s)
 | [],_=>rfl
 | p::s,d=>by
  have b:=aLu s (cO d p.1 p.2);unfold Lib.mergeD toD at b⊢;simp only[yJ,List.foldl_cons]at b⊢;rw[show gH d (p::s)=gH (cO d p.1 p.2) s from rfl,<- b]
  congr 1
  exact aRp d p.1 p.2
noncomputable def oE (w:World) (b:Nat) (m:PgM):Prop:=w.ownsMap prog 3 pgR b m.length (toD m)
section
variable {w w' : World} {b : Nat} {m : PgM}
theorem oE.of{n:Nat}(h:w.ownsMap prog 3 pgR b n (toD m)):oE w b m:=by
 obtain⟨f,c,g,F,_,d⟩:=h;refine⟨f,c,g,F,?_,d⟩;have:=congrArg Maps.size d;rw[aGq,Go.Maps.size_eq,length_read]at this;omega
theorem oE.lt(h:oE w b m):b<w.heap.size:=World.ownsMap.lt h
theorem oE.fr{S:List Nat}(h:oE w b m)(g:Fr S w w')(i:b∉S:=by simp):oE w' b m:=by
 have d:=h.lt;obtain⟨f,c,h1,h2⟩:=h;exact⟨f,c,by rw[g.block b d i];exact h1,h2⟩
theorem oE.ne_blk(h:oE w b m){g:Nat}{t:TypeId}{cs:List Value}(c:Blk w g t cs):b≠g:=by
 rintro rfl;obtain⟨f,d,h1,_⟩:=h;unfold Blk at c;rw[h1]at c;injection c with c
 cases c
theorem oE.new(w:World):oE (w.alloc (.map #[] 0)) w.heap.size []:=World.ownsMap_made w prog 3 pgR
def qD:List UInt8:=List.replicate 512 0
theorem vK:qD.length=512:=zT
theorem aBd:Maps.Keyed prog 3:=Maps.int_keyed Go.Proofs.Tryz.underlying3
theorem wR{k:Nat}(c:k<=9223372036854775807):keyOf prog 3 (.int .i64 (k:Int))=some (.int .i64 (k:Int)):=Maps.keyOf_int_mk Go.Proofs.Tryz.underlying3 (by
 have h:=wrap64_wf (k:Int)
 rwa [show wrap64 (k:Int)=(k:Int) by unfold wrap64;omega]at h)
theorem aLv{m:PgM}{k:Nat}{c:List UInt8}{ps:List MemPlace}(h:some ((toD m).atKey (.int .i64 (k:Int)) (.lit (.string qD)),ps)=some (DataW.lit (.string c),[])):c=(rF m k).getD qD:=by
 rw[at_D]at h;injection h with h;injection h with h _
 cases d:rF m k with
 | none=>
  rw[d]at h;injection h with h;injection h with h;rw[Option.getD_none];exact h.symm
 | some x=>
  rw[d]at h;injection h with h;injection h with h;rw[yT];exact h.symm
theorem aED(w:World):(zeroValue 127).run prog w=.ok (fI qD) w:=by kernel_rfl
theorem oE.look_ok(h:oE w b m){k:Nat}(d:k<=9223372036854775807):(Instr.lookup 83 (.map (some b)) (.int .i64 (k:Int)) true).run prog w=.ok (.tuple #[fI ((rF m k).getD qD),.bool (rF m k).isSome]) w:=by
 obtain⟨v,ps,h1,h2⟩:=World.ownsMap.look_ok h aBd Go.Proofs.Tryz.underlying83 (aED w) (aJV vK) (wR d);rw[h1,has_D];obtain⟨c,rfl,_,h3⟩:=aBE h2;rw[aLv (congrArg some h3)]
theorem oE.look(h:oE w b m){k:Nat}(d:k<=9223372036854775807):(Instr.lookup 83 (.map (some b)) (.int .i64 (k:Int)) false).run prog w=.ok (fI ((rF m k).getD qD)) w:=by
 obtain⟨v,ps,h1,h2⟩:=World.ownsMap.lookup h aBd Go.Proofs.Tryz.underlying83 (aED w) (aJV vK) (wR d);rw[h1];obtain⟨c,rfl,_,h3⟩:=aBE h2;rw[aLv (congrArg some h3)]
theorem oE.store(h:oE w b m){k:Nat}(j:k<=9223372036854775807)(o:m.length<9223372036854775807){x:List UInt8}(p:x.length=512):
  ∃w',(Instr.mapUpdate 83 (.map (some b)) (.int .i64 (k:Int)) (fI x)).run prog w=.ok () w'/\oE w' b (cO m k x)/\Fr [b] w w'/\w'.heap.size=w.heap.size:=by
 obtain⟨w',h1,h2,h3⟩:=World.ownsMap.store h aBd Go.Proofs.Tryz.underlying83 (by unfold maxLen;exact o) (wR j) (aJV p);rw[aRp]at h2;refine⟨w',h1,oE.of h2,(Fr.refl [b] w).grown h3.grown (fun g i=>by cases i;exact .inl (by simp)),?_⟩;obtain⟨q,d,f,c,_,rfl⟩:=h3
 simp[setBlock]
theorem oE.len(h:oE w b m)(ty:TypeId):(Builtin.len_ #[83] ty #[.map (some b)]).run prog w=.ok (.int .i64 (m.length:Int)) w:=by
 rw[World.ownsMap.len h Go.Proofs.Tryz.underlying83 ty,aGq]
theorem oE.clear(h:oE w b m)(ty:TypeId):∃w',(Builtin.clear_ #[83] ty #[.map (some b)]).run prog w=.ok (.tuple #[]) w'/\oE w' b []/\Fr [b] w w'/\w'.heap.size=w.heap.size:=by
 obtain⟨j,c,d,_⟩:=h;refine⟨setBlock w b (.map #[] c),?_,⟨#[],c,heap_setBlock_same d _,⟨by simp,stamped_empty c,by simp⟩,tA _,rfl⟩,?_,by simp[setBlock]⟩
 ·simp[Builtin.clear_,Go.run_underlying Go.Proofs.Tryz.underlying83,MapKept.run_getObj_map d,MapKept.run_setObj_map _ d,Result.andThen,setBlock]
 ·exact(Fr.refl [b] w).grown (row:=some b) ⟨rfl,rfl,rfl,by simp[setBlock],fun i _ hi=>heap_setBlock_other d _ (fun e=>hi (by rw[e]))⟩ (fun g f=>by cases f;exact .inl (by simp))
end
end
end Go.Proofs.YtebjhcjbfaaejaaGreatDoor
section
namespace Go.Proofs
open Go.Shelf
def Tryz.keysA_ren:Go.Shelf.Ren:=⟨fun|7=>66|10=>89|n=>n,fun|23=>83|26=>3|3=>127|28=>130|0=>0|27=>129|33=>112|4=>4|n=>n,fun|n=>n⟩
theorem Tryz.keysA:Go.Proofs.SlLaysZI.n7 Tryz.prog Tryz.keysA_ren:={
 mixed:=by kernel_rfl
 f7:=⟨Tryz.f66.name,by decide,Tryz.func66.trans (congrArg some (by kernel_rfl))⟩
 f10:=⟨Tryz.f89.name,by decide,Tryz.func89.trans (congrArg some (by kernel_rfl))⟩
 t0:=Go.Proofs.Tryz.underlying0
 a0:=Tryz.isAgg0
 z0:=Go.Proofs.Tryz.sizeOf0
 v0:=Go.Proofs.Tryz.zeroValue0
 t4:=Go.Proofs.Tryz.underlying4
 a4:=Tryz.isAgg4
 z4:=Go.Proofs.Tryz.sizeOf4
 v4:=Go.Proofs.Tryz.zeroValue4
 t23:=Go.Proofs.Tryz.underlying83
 a23:=Tryz.isAgg83
 z23:=Tryz.sizeOf83
 v23:=Tryz.zeroValue83
 t26:=Go.Proofs.Tryz.underlying3
 a26:=Go.Proofs.Tryz.isAgg3
 z26:=Go.Proofs.Tryz.sizeOf3
 v26:=Go.Proofs.Tryz.zeroValue3
 t27:=Tryz.underlying129
 a27:=Tryz.isAgg129
 z27:=Tryz.sizeOf129
 v27:=Tryz.zeroValue129
 t28:=Go.Proofs.Tryz.underlying130
 a28:=Tryz.isAgg130
 z28:=Tryz.sizeOf130
 v28:=Go.Proofs.Tryz.zeroValue130
 t33:=Go.Proofs.Tryz.underlying112
 a33:=Tryz.isAgg112
 z33:=Tryz.sizeOf112
 v33:=Go.Proofs.Tryz.zeroValue112 }
def Tryz.sortedA_ren:Go.Shelf.Ren:=⟨fun|6=>65|8=>87|9=>88|11=>125|13=>127|12=>126|23=>169|24=>170|14=>160|15=>161|16=>162|17=>163|18=>164|19=>165|20=>166|21=>167|22=>168|25=>191|26=>192|27=>193|28=>194|29=>195|30=>196|31=>216|n=>n,fun|26=>3|28=>130|24=>55|0=>0|3=>3|37=>170|48=>156|50=>254|4=>4|40=>247|39=>246|45=>193|5=>5|9=>9|51=>269|55=>273|57=>294|58=>295|33=>112|n=>n,fun|n=>n⟩
theorem Tryz.sortedA:Go.Proofs.SlLaysZI.n6 Tryz.prog Tryz.sortedA_ren:={
 mixed:=by kernel_rfl
 f6:=⟨Tryz.f65.name,by decide,Tryz.func65.trans (congrArg some (by kernel_rfl))⟩
 f8:=⟨Tryz.f87.name,by decide,Tryz.func87.trans (congrArg some (by kernel_rfl))⟩
 f11:=⟨Tryz.f125.name,by decide,Tryz.func125.trans (congrArg some (by kernel_rfl))⟩
 t0:=Go.Proofs.Tryz.underlying0
 a0:=Tryz.isAgg0
 z0:=Go.Proofs.Tryz.sizeOf0
 v0:=Go.Proofs.Tryz.zeroValue0
 t24:=Go.Proofs.Tryz.underlying55
 a24:=Tryz.isAgg55
 z24:=Tryz.sizeOf55
 v24:=Tryz.zeroValue55
 t26:=Go.Proofs.Tryz.underlying3
 a26:=Go.Proofs.Tryz.isAgg3
 z26:=Go.Proofs.Tryz.sizeOf3
 v26:=Go.Proofs.Tryz.zeroValue3
 t28:=Go.Proofs.Tryz.underlying130
 a28:=Tryz.isAgg130
 z28:=Tryz.sizeOf130
 v28:=Go.Proofs.Tryz.zeroValue130
 i26:=by kernel_rfl }
def Tryz.sortA_ren:Go.Shelf.Ren:=⟨fun|5=>88|8=>127|7=>126|19=>169|20=>170|10=>160|11=>161|12=>162|13=>163|14=>164|15=>165|16=>166|17=>167|18=>168|30=>191|31=>192|32=>193|33=>194|34=>195|35=>196|40=>216|n=>n,fun|23=>55|25=>3|3=>3|32=>170|22=>55|0=>0|44=>156|46=>254|4=>4|36=>247|35=>246|41=>193|5=>5|9=>9|53=>269|57=>273|63=>294|64=>295|n=>n,fun|n=>n⟩
theorem Tryz.sortA:Go.Proofs.SlLaysM.n5 Tryz.prog Tryz.sortA_ren:={
 mixed:=by kernel_rfl
 f5:=⟨Tryz.f88.name,by decide,Tryz.func88.trans (congrArg some (by kernel_rfl))⟩
 f7:=⟨Tryz.f126.name,by decide,Tryz.func126.trans (congrArg some (by kernel_rfl))⟩
 f8:=Tryz.func127.trans (congrArg some (by kernel_rfl))
 f10:=⟨Tryz.f160.name,by decide,Tryz.func160.trans (congrArg some (by kernel_rfl))⟩
 f11:=⟨Tryz.f161.name,by decide,Tryz.func161.trans (congrArg some (by kernel_rfl))⟩
 f12:=⟨Tryz.f162.name,by decide,Tryz.func162.trans (congrArg some (by kernel_rfl))⟩
 f13:=⟨Tryz.f163.name,by decide,Tryz.func163.trans (congrArg some (by kernel_rfl))⟩
 f14:=⟨Tryz.f164.name,by decide,Tryz.func164.trans (congrArg some (by kernel_rfl))⟩
 f15:=⟨Tryz.f165.name,by decide,Tryz.func165.trans (congrArg some (by kernel_rfl))⟩
 f16:=⟨Tryz.f166.name,by decide,Tryz.func166.trans (congrArg some (by kernel_rfl))⟩
 f17:=⟨Tryz.f167.name,by decide,Tryz.func167.trans (congrArg some (by kernel_rfl))⟩
 f18:=⟨Tryz.f168.name,by decide,Tryz.func168.trans (congrArg some (by kernel_rfl))⟩
 f19:=Tryz.func169.trans (congrArg some (by kernel_rfl))
 f20:=Tryz.func170.trans (congrArg some (by kernel_rfl))
 f30:=⟨Tryz.f191.name,by decide,Tryz.func191.trans (congrArg some (by kernel_rfl))⟩
 f31:=Tryz.func192.trans (congrArg some (by kernel_rfl))
 f32:=Tryz.func193.trans (congrArg some (by kernel_rfl))
 f33:=⟨Tryz.f194.name,by decide,Tryz.func194.trans (congrArg some (by kernel_rfl))⟩
 f34:=⟨Tryz.f195.name,by decide,Tryz.func195.trans (congrArg some (by kernel_rfl))⟩
 f35:=⟨Tryz.f196.name,by decide,Tryz.func196.trans (congrArg some (by kernel_rfl))⟩
 f40:=⟨Tryz.f216.name,by decide,Tryz.func216.trans (congrArg some (by kernel_rfl))⟩
 t0:=Go.Proofs.Tryz.underlying0
 a0:=Tryz.isAgg0
 z0:=Go.Proofs.Tryz.sizeOf0
 v0:=Go.Proofs.Tryz.zeroValue0
 t3:=Go.Proofs.Tryz.underlying3
 a3:=Go.Proofs.Tryz.isAgg3
 z3:=Go.Proofs.Tryz.sizeOf3
 v3:=Go.Proofs.Tryz.zeroValue3
 t4:=Go.Proofs.Tryz.underlying4
 a4:=Tryz.isAgg4
 z4:=Go.Proofs.Tryz.sizeOf4
 v4:=Go.Proofs.Tryz.zeroValue4
 t5:=Go.Proofs.Tryz.underlying5
 a5:=Tryz.isAgg5
 z5:=Tryz.sizeOf5
 v5:=Tryz.zeroValue5
 t9:=Go.Proofs.Tryz.underlying9
 a9:=Tryz.isAgg9
 z9:=Tryz.sizeOf9
 v9:=Tryz.zeroValue9
 t22:=Go.Proofs.Tryz.underlying55
 a22:=Tryz.isAgg55
 z22:=Tryz.sizeOf55
 v22:=Tryz.zeroValue55
 t23:=Go.Proofs.Tryz.underlying55
 a23:=Tryz.isAgg55
 z23:=Tryz.sizeOf55
 v23:=Tryz.zeroValue55
 t25:=Go.Proofs.Tryz.underlying3
 a25:=Go.Proofs.Tryz.isAgg3
 z25:=Go.Proofs.Tryz.sizeOf3
 v25:=Go.Proofs.Tryz.zeroValue3
 t32:=Tryz.underlying170
 a32:=Tryz.isAgg170
 z32:=Tryz.sizeOf170
 v32:=Tryz.zeroValue170
 t35:=Tryz.underlying246
 a35:=Tryz.isAgg246
 z35:=Tryz.sizeOf246
 v35:=Tryz.zeroValue246
 t36:=Tryz.underlying247
 a36:=Tryz.isAgg247
 z36:=Tryz.sizeOf247
 v36:=Tryz.zeroValue247
 t41:=Tryz.underlying193
 a41:=Tryz.isAgg193
 z41:=Tryz.sizeOf193
 v41:=Tryz.zeroValue193
 t44:=Tryz.underlying156
 a44:=Tryz.isAgg156
 z44:=Tryz.sizeOf156
 v44:=Tryz.zeroValue156
 t46:=Tryz.underlying254
 a46:=Tryz.isAgg254
 z46:=Tryz.sizeOf254
 v46:=Tryz.zeroValue254
 t53:=Tryz.underlying269
 a53:=Tryz.isAgg269
 z53:=Tryz.sizeOf269
 v53:=Tryz.zeroValue269
 t57:=Tryz.underlying273
 a57:=Tryz.isAgg273
 z57:=Tryz.sizeOf273
 v57:=Tryz.zeroValue273
 t63:=Tryz.underlying294
 a63:=Tryz.isAgg294
 z63:=Tryz.sizeOf294
 v63:=Tryz.zeroValue294
 t64:=Tryz.underlying295
 a64:=Tryz.isAgg295
 z64:=Tryz.sizeOf295
 v64:=Tryz.zeroValue295 }
end Go.Proofs
end
namespace Go.Proofs.YtebjhcjbfaaejaaGreatDoor
open Go.Proofs.Tryz
variable {m r:Nat}{W:World}{L:List Nat}{F:List Value}{H:List (List UInt8)}{O:PgM}{S:PS}
section
open Go.RowKit Go.Maps Go.Sort Go.Shelf
theorem aJX(m:Nat):AnyZI.SortsIn prog Tryz.sortedA_ren Fence.wide m:=
 ⟨fun blk off cap d W hH b c=>nM.2 (AnyM.slices_Sort_int Tryz.sortA blk off cap d W hH b c),
  fun p cap W=>nM.2 (AnyM.slices_Sort_int_none Tryz.sortA p cap W)⟩
theorem aHG(b:Nat)(w:World):Calls prog 66 #[.map (some b)] w fun e w'=>e=.returned (.func (.func 89) #[] #[.pointer (some ⟨w.heap.size,0,none⟩)])/\w'=w.alloc (.cells #[.map (some b)] 83):=
 (nM (n:=5)).1 (AnyZI.keys_in Tryz.keysA Fence.wide 5 trivial rfl (some b) w)
def kcells (m:PgM):List Value:=m.map fun p=>.int .i64 (p.1:Int)
theorem aMM{n:Nat}{m:PgM}(f:vG n m){c:List Int}(h:c.Perm (intKeys (toD m))):(c.mergeSort fun x y=>decide (x<=y)).map encZ=kcells m:=by
 rw[mergeSort_of_perm_i h,aOy]
 have e:(m.map fun p=>(p.1:Int)).mergeSort leI=m.map fun p=>(p.1:Int):=by
  refine List.mergeSort_of_pairwise ?_;rw[List.pairwise_map];exact f.rise.imp fun {a b} d=>by simp only[leI,yI];omega
 rw[e]
 simp[kcells,encZ]
theorem aDb{b n:Nat}{m:PgM}{w:World}(h:oE w b m)(q:vG n m)(x:n<=65536)(w1:World)(k:w1=w.alloc (.cells #[.map (some b)] 83)):
  Calls prog 65 #[.func (.func 89) #[] #[.pointer (some ⟨w.heap.size,0,none⟩)]] w1 fun e w'=>∃v,e=.returned v/\w'.ownsRow w1.heap.size 3 1 v m.length (kcells m)/\Fr [] w1 w':=by
 subst k;have o:=q.few;have r:=h.lt;have d:Maps.size (toD m)=m.length:=aGq m
 have g:SeqGives Fence.wide 2 prog 89 #[.pointer (some ⟨w.heap.size,0,none⟩)] encZ (fun j=>j.Perm (intKeys (toD m))) (Maps.size (toD m)) (w.alloc (.cells #[.map (some b)] 83)):=
  AnyZI.keys_gives (R:=pgR) (nn:=m.length) (ρ:=Tryz.keysA_ren) { Tryz.keysA with } Fence.wide _ trivial rfl (by omega) w.heap.size b (toD m) _ (by simp) (by simp) (h.fr ((Fr.refl [] w).alloc _))
 have s:=AnyZI.sorted_in Tryz.sortedA Fence.wide 5 trivial trivial trivial trivial rfl (by omega) (aJX _) (Go.Proofs.enters_of func88 (by kernel_rfl) rfl) 89 #[.pointer (some ⟨w.heap.size,0,none⟩)] trivial (Go.Proofs.enters_of func89 (by kernel_rfl) rfl) _ _ (by rw[d];unfold maxLen;omega) (by rw[d];omega) _ g;have i:=(nM (n:=5)).1 s;refine Calls.mono (P:=prog) (f:=65) i ?_;rintro e w' ⟨v,j,rfl,p,c,_,u⟩
 have t:j.length=m.length:=by
  have:=p.length_eq;rw[aOy,lI]at this;exact this
 rw[aMM q p,t]at c;exact⟨v,rfl,c,Fr.of_below u []⟩
end
section
open Go.RowKit
section
variable {P : Program} {o : Oper} {a : Act} {w : World} {K : Act -> World -> Prop} {Q : Exit -> Act -> World -> Prop}
end
theorem gA{P:Program}{f:FuncId}{args:Array Value}{w:World}{b:Ending->World->Prop}(h:∀R:Ending->World->Prop,Hid (∀e w',b e w'->R e w')->Calls P f args w R):Calls P f args w b:=h b (lh fun _ _ h=>h)
theorem yH{P:Program}{c:Func}{R:Ending->World->Prop}{tmps:Array Value}{w:World}{k:Tmp}{t t':TypeId}{g:Nat}{cs:List Value}{d:TypeDesc}(i:c.results=#[.cell k t])(j:tmps.getD k undef=.pointer (some ⟨g,0,none⟩))(m:Blk w g t' cs)
 (o:P.underlying t=some d)(p:d.isRow=true)(hi:(P.info? t).map (·.size)=some cs.length)(h:R (.returned (.agg cs.toArray)) w):bodyPost P c R .ret ⟨tmps,[]⟩ w:=by
 refine eF (v:=.agg cs.toArray) ?_ rfl h;have f:=Go.run_loadVar_row (P:=P) w g t' t cs.toArray (0,0) d m o (by cases d<;>simp_all) (by simpa using hi);have b:tmps[k]?.getD undef=.pointer (some ⟨g,0,none⟩):=by simpa using j
 simp[results,i,b,f,asAddr]
def iH (w:World) (v:Value) (n:Nat) (xs:List Value) (g:Nat):Prop:=
 ∃A c off,v=.slice A n c/\n<=c/\(0<n->A=some ⟨g,off,none⟩/\∀(j:Nat) (u:Value),xs[j]? = some u->w.cell? ⟨g,off+j,none⟩=some u)
theorem iH.fr{S:List Nat}{w w':World}{v:Value}{n:Nat}{g:Nat}(h:iH w v n F g)(k:Fr S w w')(m:0<n->g∉S:=by simp):iH w' v n F g:=by
 obtain⟨A,c,off,d,f,b⟩:=h;refine⟨A,c,off,d,f,fun h0=>⟨(b h0).1,fun j u i=>?_⟩⟩;have h1:=(b h0).2 j u i;rw[k.cell (cF w _ h1) (m h0)];exact h1
theorem iH.nil(w:World)(b:List Value)(g:Nat):iH w (.slice none 0 0) 0 b g:=⟨none,0,0,rfl,tA _,fun h=>by simp at h⟩
theorem iH.of_own{w:World}{e:TypeId}{size n b:Nat}{v:Value}(h:w.ownsRow b e size v n F)(g0:Nat):∃g,iH w v n F g/\(0<n->v.ownBlock=some g)/\(n=0->g=g0):=by
 obtain⟨A,c,rfl,d,_⟩:=sA h
 by_cases h0:0<n
 ·obtain⟨g,rfl,f⟩:=tE h h0;exact⟨g,⟨_,c,0,rfl,d,fun _=>⟨rfl,fun j u i=>by rw[cC];exact f j u i⟩⟩,fun _=>rfl,fun h1=>by omega⟩
 ·exact⟨g0,⟨A,c,0,rfl,d,fun h=>absurd h h0⟩,fun h=>absurd h h0,fun _=>rfl⟩
theorem iH.of_blk{w:World}{g:Nat}{t:TypeId}(h:Blk w g t F)(n c:Nat)(d:n<=c):iH w (.slice (some ⟨g,0,none⟩) n c) n F g:=
 ⟨_,c,0,rfl,d,fun _=>⟨rfl,fun j u b=>by rw[cC];exact h.at_ b⟩⟩
def uJ (d lg bl bh:Nat) (s:PS):List Value:=[.pointer (some ⟨d,0,none⟩),.pointer (some ⟨lg,0,none⟩),.int .i64 (s.n:Int),.int .i64 (s.l.n:Int),.map (some bl),.map (some bh),.bool s.br]
structure yE (w:World) (g d lg bl bh:Nat) (s:PS) (fp:List Nat):Prop where
 blk:Blk w g 85 (uJ d lg bl bh s)
 jn:Jn w lg d s.l s.D fp
 late:oE w bl s.late
 held:oE w bh s.held
 ne:bl≠bh
 gout:g∉fp
 lout:bl∉fp
 hout:bh∉fp
 lok:vG s.n s.late
 hok:vG s.n s.held
 few:s.n<=4096
def pfp (g lg bl bh:Nat) (fp:List Nat):List Nat:=g::lg::bl::bh::fp
def fD (w w':World) (g d lg bl bh:Nat) (s:PS) (fp:List Nat):Prop:=∃fp',yE w' g d lg bl bh s fp'/\Fr (pfp g lg bl bh fp) w w'/\∀k∈fp',k∈fp∨w.heap.size<=k
section
variable {w w' : World} {g d lg bl bh : Nat} {s : PS} {fp : List Nat}
theorem yE.ne1(h:yE w g d lg bl bh s fp):g≠lg:=h.blk.ne_ h.jn.log (by decide)
theorem yE.ne2(h:yE w g d lg bl bh s fp):bl≠g/\bh≠g/\bl≠lg/\bh≠lg:=⟨h.late.ne_blk h.blk,h.held.ne_blk h.blk,h.late.ne_blk h.jn.log,h.held.ne_blk h.jn.log⟩
theorem yE.fr{S:List Nat}(h:yE w g d lg bl bh s fp)(c:Fr S w w')(b:∀k∈pfp g lg bl bh fp,k∉S:=by simp):yE w' g d lg bl bh s fp:=by
 have h1:=b g (by simp[pfp]);have h2:=b lg (by simp[pfp]);have h3:=b bl (by simp[pfp]);have f:=b bh (by simp[pfp]);exact⟨h.blk.fr c h1,h.jn.fr c h2 (fun k i=>b k (by simp[pfp,i])),h.late.fr c h3,h.held.fr c f,h.ne,h.gout,h.lout,h.hout,h.lok,h.hok,h.few⟩
theorem yE.lt(h:yE w g d lg bl bh s fp):∀k∈pfp g lg bl bh fp,k<w.heap.size:=by
 intro k b;simp only[pfp,kB]at b;rcases b with rfl|rfl|rfl|rfl|b
 ·exact h.blk.lt
 ·exact h.jn.log.lt
 ·exact h.late.lt
 ·exact h.held.lt
 ·exact h.jn.disk.lt k b
theorem fD.same(h:yE w g d lg bl bh s fp):fD w w g d lg bl bh s fp:=⟨fp,h,Fr.refl _ _,fun _ b=>.inl b⟩
theorem fD.comp{w1:World}(f:Fr (pfp g lg bl bh fp) w w1)(i:∀k∈L,k∈fp∨w.heap.size<=k)(h2:fD w1 W g d lg bl bh S L):fD w W g d lg bl bh S fp:=by
 obtain⟨c,h3,j,m⟩:=h2;have p:=f.size;refine⟨c,h3,f.trans j (fun x b=>?_),fun k o=>?_⟩
 ·simp only[pfp,kB]at b⊢;rcases b with rfl|rfl|rfl|rfl|b
  ·simp
  ·simp
  ·simp
  ·simp
  ·rcases i x b with h|h
   ·simp[h]
   ·exact .inr h
 ·rcases m k o with h|h
  ·exact i k h
  ·exact .inr (by omega)
theorem yE.late_{m:PgM}(h:yE w g d lg bl bh s fp)(f:oE w' bl m)(b:Fr [bl] w w')(hok:vG s.n m):yE w' g d lg bl bh { s with late:=m } fp:=by
 have h2:=h.ne2;exact⟨h.blk.fr b (by simp only[aB];exact fun e=>h2.1 e.symm),h.jn.fr b (by simp only[aB];exact fun e=>h2.2.2.1 e.symm) (fun k c=>by simp only[aB];exact fun e=>h.lout (e▸c)),f,h.held.fr b (by simp only[aB];exact fun e=>h.ne e.symm),h.ne,h.gout,h.lout,h.hout,hok,h.hok,h.few⟩
theorem yE.held_{m:PgM}(h:yE w g d lg bl bh s fp)(f:oE w' bh m)(b:Fr [bh] w w')(hok:vG s.n m):yE w' g d lg bl bh { s with held:=m } fp:=by
 have h2:=h.ne2;exact⟨h.blk.fr b (by simp only[aB];exact fun e=>h2.2.1 e.symm),h.jn.fr b (by simp only[aB];exact fun e=>h2.2.2.2 e.symm) (fun k c=>by simp only[aB];exact fun e=>h.hout (e▸c)),h.late.fr b (by simp only[aB];exact h.ne),f,h.ne,h.gout,h.lout,h.hout,h.lok,hok,h.few⟩
end
section
variable {w : World} {g d lg bl bh : Nat} {s : PS} {fp : List Nat}
theorem aGr(h:yE w g d lg bl bh s fp):Calls prog 36 #[.pointer (some ⟨g,0,none⟩)] w fun e w'=>e=.returned (.bool s.br)/\w=w':=by
 refine gA fun R b=>?_;have c0:=h.blk.at_ (i:=0) rfl;have c:=h.blk.at_ (i:=6) rfl;clear h
 go_enter func36,ntmps36
 go_wp2_with fail;exact b.o _ _ ⟨rfl,rfl⟩
theorem aQu(h:yE w g d lg bl bh s fp):Calls prog 96 #[.pointer (some ⟨g,0,none⟩)] w fun e w'=>e=.returned (.int .i64 (s.n:Int))/\w=w':=by
 refine gA fun R b=>?_;have c2:=h.blk.at_ (i:=2) rfl;clear h
 go_enter func96,ntmps96
 go_wp2_with fail;exact b.o _ _ ⟨rfl,rfl⟩
theorem aJY(h:yE w g d lg bl bh s fp):Calls prog 33 #[.pointer (some ⟨g,0,none⟩)] w fun e w'=>e=.returned (.tuple #[])/\fD w w' g d lg bl bh { s with late:=[] } fp:=by
 refine gA fun R q=>?_;have c4:=h.blk.at_ (i:=4) rfl;obtain⟨w1,c,f,b,p⟩:=h.late.clear 0;have k:Hid (fD w w1 g d lg bl bh { s with late:=[] } fp):=lh ⟨fp,h.late_ f b (vG.nil _),b.mono (fun x j=>.inl (by simp only[aB]at j;simp[pfp,j])),fun _ r=>.inl r⟩;have m:∀ty,(Builtin.clear_ #[83] ty #[.map (some bl)]).run prog w=.ok (.tuple #[]) w1:=fun ty=>c;clear h c f b p
 go_enter func33,ntmps33
 go_wp2_with fail
 go_end0
 exact q.o _ _ ⟨rfl,k.o⟩
end

open Go.RowKit
def jH (b:List UInt8):List UInt8:=b++List.replicate (512-b.length) 0
theorem yL{b:List UInt8}(h:b.length<=512):(jH b).length=512:=by
 unfold jH;rw[lB,zT];omega
theorem nY:(prog.info? 127).map (·.zero)=some (some (fI qD)):=by kernel_rfl
theorem xR:(prog.info? 127).map (·.size)=some 512:=by kernel_rfl
theorem aHH(b:List UInt8):splice (fA qD) 0 (fA b)=fA (jH b):=by
 have e:(fA qD).drop b.length=fA (List.replicate (512-b.length) 0):=by
  rw[qD,<- bJ,List.drop_replicate]
 unfold splice jH;rw[sC,kA,xT,eH,cC,e]
def PS.write (s:PS) (k:Nat) (b:List UInt8):PS:={ s with late:=cO s.late k (jH b) }
theorem aQv{w:World}{g d lg:Nat}{s:PS}(h:yE w g d lg m r s L)(V:s.br=false)(k:Nat)(hk:k<s.n)(v:Value)(b:List UInt8)(X:Nat)(hv:cA w v b X)(hb:b.length<=512):
  Calls prog 150 #[.pointer (some ⟨g,0,none⟩),.int .i64 (k:Int),v] w fun e w'=>e=.returned (.int .i64 0)/\fD w w' g d lg m r (s.write k b) L:=by
 refine gA fun R HQ=>?_;obtain⟨A,c,off,rfl,hc,O⟩:=hv;have c2:=h.blk.at_ (i:=2) rfl;have hn:=h.few;have Y:=lh h;have HB:=lh O;have u:=aGr h;rw[V]at u;have H:=lh u;clear h O V u
 go_enter func150,ntmps150
 go_wp2_with fail;refine H.o.mono ?_;rintro e w' ⟨rfl,rfl⟩
 have t:∀o,cA (w.alloc o) (.slice A b.length c) b X:=fun o=>by
  by_cases h0:0<b.length
  ·have hB:cA w (.slice A b.length c) b X:=⟨A,c,off,rfl,hc,HB.o⟩;exact hB.fr ((Fr.refl [] w).alloc o)
  ·exact⟨A,c,off,rfl,hc,fun h=>absurd h h0⟩
 have HS:=lh t;clear t HB
 go_wp2_with (first
  | (with_reducible refine mA rfl 127 rfl (fI qD) (fA qD).toArray nY rfl ?_)
  | (with_reducible refine kH rfl (.tmp 27) (.tmp 28) 67 67 rfl 5 Go.Proofs.Tryz.underlying67 bL _ _ _ _ _ _ rfl rfl w.heap.size 0 (fA qD) 127 (Blk.new w 127 _) (fA b) ?cn ?cp ?cf (yC _) ?_))
 case cn=>rw[kA];exact(iT hb).symm
 case cp=>
  intro h0;obtain⟨A',c',P,a4,_,Q⟩:=HS.o (.cells (fA qD).toArray 127);injection a4 with hA _ _;obtain⟨a5,E⟩:=Q (by rw[kA]at h0;exact h0);refine⟨⟨X,P,none⟩,by rw[hA,a5],fun j v hj=>?_⟩;rw[Go.Addr.add_mid];exact E j v hj
 case cf=>rw[kA,kA,vK];omega
 intro S f U a6;rw[aHH b]at f;have y:Fr [] w S:=((Fr.refl [] w).alloc (.cells (fA qD).toArray 127)).trans U;have z:=Y.o.fr y;have c4:=z.blk.at_ (i:=4) rfl;have Z:=f.free;obtain⟨pg,p⟩:=nm (jH b);have B:pg.length=512:=by rw[p];exact yL hb
 rw[<- p]at f;have I:s.late.length<9223372036854775807:=by have:=Y.o.lok.few;omega
 have J:=fun w' (h:oE w' m s.late)=>h.store (k:=k) (by omega) I B;have a0:=lh p;have M:=lh f;have a1:=lh y;have N:=lh z;have a2:=lh B;have a3:=lh J;have hq:=f.lt;generalize w.heap.size=q at *;clear p f y z B J I U a6 Z HS H;go_wp2_with fail;refine lA (fun W=>W.cell? ⟨g,4,none⟩=some (.map (some m))/\Blk W q 127 (fA pg)) [0,1,2,3,4,5] (by kernel_rfl) ?_;refine tks [0,1,2,3,4] ?_
 iterate 5 (refine tk rfl rfl ⟨c4,M.o⟩ rfl (fun _ hW=>by(obtain⟨a7,Q⟩:=hW;go_simp)<;>with_reducible rfl) ?_;simp only[nrm])
 refine tke ?_;refine tv 5 (.agg (fA pg).toArray) rfl rfl ⟨c4,M.o⟩ (Go.yieldsIf_load_mid rfl 127 (.tmp 7) rfl q 0 rfl (fA pg) _ (fun W hW j v hj=>by rw[cC];exact hW.2.at_ hj) Go.Proofs.Tryz.underlying127 rfl (by rw[kA,a2.o];exact xR)) ?_;simp only[nrm];refine xA (j:=6) none rfl rfl (by kernel_rfl) rfl fun K hK=>?_;have C:Fr [] S S.drew:=(Fr.refl [] S).drew;obtain⟨w9,hr,F,G,_⟩:=a3.o S.drew (N.o.late.fr C);unfold fI at hr;refine pB (w':=w9) (by simp[execOp,Act.eval,hr,Result.andThen]) (hK _ _ (fun h=>absurd h (by decide +kernel)) ?_);simp only[Act.put];refine wd ?_ _;rw[a0.o]at F;have HX:Hid (fD w w9 g d lg m r (s.write k b) L):=lh ⟨L,(N.o.fr C).late_ F G (Y.o.lok.put hk (yL hb)),((a1.o.drew).mono (T:=pfp g lg m r L) (by simp)).trans G (fun x hx=>.inl (by simp only[aB]at hx;subst hx;simp[pfp])),fun _ hk=>.inl hk⟩;clear hr F G C hK;go_wp2_with fail;exact HQ.o _ _ ⟨rfl,HX.o⟩
end
end Go.Proofs.YtebjhcjbfaaejaaGreatDoor
