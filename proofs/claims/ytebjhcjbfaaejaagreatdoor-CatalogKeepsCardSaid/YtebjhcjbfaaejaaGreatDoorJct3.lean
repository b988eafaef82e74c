/-
  Joined: Pm Pq Pt Lay Pu Gen Pv Px
-/
import Derived.Maps.OwnSet
import Derived.Lib.SlKeysI
import Derived.Lib.SlMapMerge
import Derived.Shelf.SlIterI.Nil
import Derived.Shelf.SortM.Plain
import Derived.Shelf.SortM.SortNone
import Derived.Test.YtebjhcjbfaaejaaGreatDoorProg
import Derived.Test.YtebjhcjbfaaejaaGreatDoorJct2
set_option maxRecDepth 100000
set_option maxHeartbeats 32000000
open Go.Value renaming int->ii,slice->si,pointer->pi,tuple->tl,bool->ij,agg->il
open Go.IntKind renaming i64->ip,u8->ix,wrap->Wi
open Go.Obj renaming cells->iy
open Go.Ending renaming returned->iz
open Or renaming inl->Ii,inr->Ij
open List renaming length->li,replicate->ji,take_zero->yI,map_cons->xJ,mem_filter->cL,map_nil->aAX,drop_replicate->aKX
open Go.Proofs.Tryz renaming underlying3->sP,underlying83->lV
namespace Go.Proofs.YtebjhcjbfaaejaaGreatDoor
open Go.Proofs.Tryz
variable {i m r:Nat}{W:World}{L:List Nat}{F:List Value}{H:List (List UInt8)}
section
abbrev PgM:=List (Nat × List UInt8)
variable {O:PgM}
def bV (x:Nat×List UInt8):PgM->PgM
 | []=>[x]
 | y::r=>if x.1<y.1 then x::y::r else y::bV x r
def pR (m:PgM) (k:Nat) (b:List UInt8):PgM:=bV (k,b) (m.filter fun p=>!decide (p.1=k))
def kG (m:PgM) (k:Nat):Option (List UInt8):=(m.find? fun p=>decide (p.1=k)).map (·.2)
structure tH (n:Nat) (m:PgM):Prop where
 rise:m.Pairwise (fun p q=>p.1<q.1)
 mem:∀p∈m,p.1<n/\p.2.length=512
def rI (d s:PgM):PgM:=s.foldl (fun D p=>pR D p.1 p.2) d
theorem aDX{x p:Nat×List UInt8}:∀ {m:PgM},p∈bV x m↔p=x∨p∈m
 | []=>by simp[bV]
 | y::r=>by
  unfold bV;split;·simp
  rw[bB,aDX,bB];constructor;·rintro(b|b|b)<;>simp[b]
  rintro(b|b|b)<;>simp[b]
theorem aFL{x:Nat×List UInt8}:∀ {m:PgM},m.Pairwise (λb c=>b.1<c.1)->(∀b∈m,b.1≠x.1)->(bV x m).Pairwise (λb c=>b.1<c.1)
 | [],_,_=>by simp[bV]
 | y::r,h,hn=>by
  obtain⟨d,g⟩:=lF.1 h;unfold bV;split
  ·rename_i f;refine lF.2 ⟨λb c=>?_,h⟩;obtain rfl|c:=bB.1 c
   ·exact f
   have:=d b c;omega
  rename_i f;refine lF.2 ⟨λb c=>?_,aFL g (λb c=>hn b (jD _ c))⟩;obtain rfl|c:=aDX.1 c;·have:=hn y (eC ..);omega
  exact d b c
theorem tH.nil(n:Nat):tH n []:=⟨List.Pairwise.nil,by simp⟩
theorem tH.tail{n:Nat}{p:Nat×List UInt8}{m:PgM}(h:tH n (p::m)):tH n m:=⟨(lF.1 h.rise).2,λb c=>h.mem b (jD _ c)⟩
theorem tH.put{n:Nat}{m:PgM}(h:tH n m){k:Nat}{b:List UInt8}(d:k<n)(g:li b=512):tH n (pR m k b):=by
 refine⟨aFL (h.rise.filter _) (λf c=>?_),λf c=>?_⟩;·have:=(cL.1 c).2;simpa using this
 obtain rfl|c:=aDX.1 c;·exact⟨d,g⟩
 exact h.mem f (cL.1 c).1
theorem tH.merge{n:Nat}:∀ {s d:PgM},tH n d->(∀p∈s,p.1<n/\li p.2=512)->tH n (rI d s)
 | [],_,h,_=>h
 | p::s,d,h,hs=>by have b:=hs p (eC ..);exact tH.merge (s:=s) (h.put b.1 b.2) (λb c=>hs b (jD _ c))
theorem xZ{x:Nat×List UInt8}{j:Nat}(c:x.1≠j):∀(m:PgM),(bV x m).find? (λb=>decide (b.1=j))=m.find? (λb=>decide (b.1=j))
 | []=>by simp[bV,c]
 | y::r=>by
  unfold bV;split;·rw[rP (by simpa using c)]
  by_cases b:y.1=j;·rw[bQ (by simpa using b),bQ (by simpa using b)]
  rw[rP (by simpa using b),rP (by simpa using b),xZ c r]
theorem yZ{x:Nat×List UInt8}:∀(m:PgM),(∀b∈m,b.1≠x.1)->(bV x m).find? (λb=>decide (b.1=x.1))=some x
 | [],_=>by simp[bV]
 | y::r,h=>by
  unfold bV;split;·simp
  rw[rP (by simpa using h y (eC ..)),yZ r (λb c=>h b (jD _ c))]
theorem gQ{k j:Nat}(d:j≠k):∀(m:PgM),(m.filter λb=>!decide (b.1=k)).find? (λb=>decide (b.1=j))=m.find? (λb=>decide (b.1=j))
 | []=>rfl
 | y::r=>by
  by_cases b:y.1=k;·rw[List.filter_cons_of_neg (by simpa using b),gQ d r,rP (by simp;omega)]
  rw[List.filter_cons_of_pos (by simpa using b)];by_cases b:y.1=j;·rw[bQ (by simpa using b),bQ (by simpa using b)]
  rw[rP (by simpa using b),rP (by simpa using b),gQ d r]
theorem aJf(m:PgM)(k j:Nat)(b:List UInt8):kG (pR m k b) j=if j=k then some b else kG m j:=by
 unfold kG pR;by_cases c:j=k;·subst c;rw[iA rfl,yZ (x:=(j,b)) _ (λf d=>by simpa using(cL.1 d).2)];rfl
 rw[eA c,xZ (x:=(k,b)) (λe=>c e.symm),gQ c]
theorem aDY(j:Nat):kG [] j=none:=rfl
theorem aBx(p:Nat×List UInt8)(m:PgM)(j:Nat):kG (p::m) j=if j=p.1 then some p.2 else kG m j:=by
 unfold kG;by_cases b:j=p.1;·subst b;simp
 rw[eA b,rP (by simp;omega)]
theorem aQA{m:PgM}{j:Nat}(h:∀p∈m,p.1≠j):kG m j=none:=by unfold kG;rw[List.find?_eq_none.2 (λp b=>by simpa using h p b)];rfl
theorem aJg{m:PgM}{j:Nat}{b:List UInt8}(h:kG m j=some b):(j,b)∈m:=by
 unfold kG at h;obtain⟨g,c,rfl⟩:=Option.map_eq_some_iff.1 h;have d:=List.find?_some c;have f:=List.mem_of_find?_eq_some c;have c:g.1=j:=by simpa using d
 subst c;exact f
theorem wN{n:Nat}{m:PgM}(h:tH n m){j:Nat}{b:List UInt8}(c:(j,b)∈m):kG m j=some b:=by
 induction m with
 | nil=>cases c
 | cons f m d=>
  rw[aBx];obtain rfl|c:=bB.1 c;·rw[iA rfl]
  have:=(lF.1 h.rise).1 _ c;rw[eA (by simp only at this;omega),d h.tail c]
theorem wY{n:Nat}:∀(s d:PgM),tH n s->∀j,kG (rI d s) j=(kG s j).or (kG d j)
 | [],d,_,j=>by simp[rI,aDY]
 | p::s,d,h,j=>by
  have b:=wY s (pR d p.1 p.2) h.tail j;have e:rI d (p::s)=rI (pR d p.1 p.2) s:=rfl;rw[e,b,aJf,aBx];by_cases b:j=p.1;·subst b;rw[iA rfl,iA rfl,aQA (λc f=>by have:=(lF.1 h.rise).1 c f;omega)];rfl
  rw[eA b,eA b]
theorem aJh{n:Nat}{m:PgM}(h:tH n m){j:Nat}{b:List UInt8}(c:kG m j=some b):j<n/\li b=512:=h.mem _ (aJg c)
theorem aJi{n:Nat}:∀(m:PgM) (lo:Nat),lo<=n->m.Pairwise (λb c=>b.1<c.1)->(∀b∈m,lo<=b.1/\b.1<n)->lo+li m<=n
 | [],lo,h,_,_=>by simpa using h
 | b::m,lo,_,hr,hm=>by obtain⟨d,f⟩:=lF.1 hr;have g:=hm b (eC ..);have:=aJi m (b.1+1) (by omega) f (λc b=>⟨d c b,(hm c (jD _ b)).2⟩);simp only[bD];omega
theorem tH.few{n:Nat}{m:PgM}(h:tH n m):li m<=n:=by have:=aJi m 0 (uB _) h.rise (λb c=>⟨uB _,(h.mem b c).1⟩);omega
def be2 (k:Nat):List UInt8:=[jC k 1,jC k 0]
def nE (m:PgM):List UInt8:=m.flatMap fun p=>be2 p.1++p.2
theorem fS(p:Nat×List UInt8)(m:PgM):nE (p::m)=be2 p.1++p.2++nE m:=by simp[nE]
theorem aOI(m:PgM)(p:Nat×List UInt8):nE (m++[p])=nE m++(be2 p.1++p.2):=by simp[nE]
theorem gS{n:Nat}:∀ {m:PgM},(∀p∈m,p.1<n/\li p.2=512)->li (nE m)=514*li m
 | [],_=>rfl
 | p::m,h=>by rw[fS,iB,iB,gS (m:=m) (λb c=>h b (jD _ c)),(h p (eC ..)).2];simp only[be2,bD,List.length_nil];omega
def bP (n:Nat):Nat->List UInt8->PgM->Option PgM
 | 0,_,h=>some h
 | k+1,b,h=>if b=[] then some h else if n<=nD (b.take 2) then none else bP n k (b.drop 514) (pR h (nD (b.take 2)) ((b.drop 2).take 512))
def nL (n:Nat) (b:List UInt8) (h:PgM):Option PgM:=if b.length%514≠0 then none else bP n (b.length / 514) b h
def qG (n:Nat):List (List UInt8)->PgM->Option PgM
 | [],h=>some h
 | b::W,h=>match nL n b h with
  | none=>none
  | some h=>qG n W h
theorem zZ(n:Nat):∀(W:List (List UInt8)) (h d:PgM) (b:List UInt8),qG n W h=some d->qG n (W++[b]) h=nL n b d
 | [],h,d,b,e=>by injection e with e;subst e;show(match nL n b h with|none=>none|some h=>qG n [] h)=_;cases nL n b h<;>rfl
 | c::W,h,d,b,e=>by
  rw[lI];unfold qG at e⊢;cases f:nL n c h with
  | none=>rw[f]at e;cases e
  | some g=>rw[f]at e;exact zZ n W g d b e
theorem aDZ{n:Nat}(k:n<=65536):∀(m h:PgM),(∀p∈m,p.1<n/\li p.2=512)->bP n (li m) (nE m) h=some (rI h m)
 | [],h,_=>rfl
 | p::m,h,hm=>by
  have b:=hm p (eC ..);have c:(nE (p::m)).take 2=be2 p.1:=by rw[fS,uF];exact List.take_left' rfl
  have d:((nE (p::m)).drop 2).take 512=p.2:=by rw[fS,uF];exact List.take_left' b.2
  have f:(nE (p::m)).drop 514=nE m:=by rw[fS];exact List.drop_left' (by simp[be2,b.2])
  have b:nD (be2 p.1)=p.1:=aQy p.1 (by omega);have g:nE (p::m)≠[]:=by rw[fS];simp[be2]
  rw[bD,bP,eA g,c,d,f,b,eA (by omega),aDZ k m _ (λb c=>hm b (jD _ c))];rfl
theorem aAa{n:Nat}(d:n<=65536)(m h:PgM)(c:∀p∈m,p.1<n/\li p.2=512):nL n (nE m) h=some (rI h m):=by have b:=gS c;unfold nL;rw[eA (by rw[b];omega),b,Nat.mul_div_cancel_left _ (by omega:0<514),aDZ d m h c]
theorem aFM{n:Nat}:∀(k:Nat) (b:List UInt8) (h c:PgM),li b=514*k->tH n h->bP n k b h=some c->tH n c
 | 0,b,h,c,_,ho,e=>by injection e with e;subst e;exact ho
 | k+1,b,h,c,hl,ho,e=>by
  unfold bP at e;split at e;·injection e with e;subst e;exact ho
  split at e;·cases e
  rename_i d;exact aFM k _ _ _ (by rw[vB];omega) (ho.put (by omega) (by rw[pB,vB];omega)) e
theorem aSU{n:Nat}{b:List UInt8}{h:PgM}(c:tH n h)(e:nL n b h=some O):tH n O:=by
 unfold nL at e;split at e;·cases e
 exact aFM _ b h O (by omega) c e
theorem aEa{n:Nat}:∀(W:List (List UInt8)) (h c:PgM),tH n h->qG n W h=some c->tH n c
 | [],h,c,ho,e=>by injection e with e;subst e;exact ho
 | b::W,h,c,ho,e=>by
  unfold qG at e;cases d:nL n b h with
  | none=>rw[d]at e;cases e
  | some f=>rw[d]at e;exact aEa W f c (aSU ho d) e
def gK:Option pC->List (pC×List UInt8)->Option pC
 | last,[]=>last
 | _,x::R=>gK (some x.1) R
def xN (R:List (pC×List UInt8)):Nat:=(R.map (·.1.count)).sum
theorem aOJ(x:pC×List UInt8)(R:List (pC×List UInt8)):xN (x::R)=x.1.count+xN R:=by simp[xN]
theorem aOK(R:List (pC×List UInt8))(x:pC×List UInt8):xN (R++[x])=xN R+x.1.count:=by simp[xN]
theorem aEb:∀(R:List (pC×List UInt8)) (last:Option pC) (x:pC×List UInt8),gK last (R++[x])=some x.1
 | [],_,_=>rfl
 | y::R,_,x=>aEb R (some y.1) x
theorem aEc:∀(R:List (pC×List UInt8)) (last:Option pC),gK last R=(fI R).or last
 | [],last=>by simp[gK,fI]
 | y::R,last=>by
  rw[gK,aEc R];unfold fI;rw[List.getLast?_cons];cases R.getLast? with
  | none=>rfl
  | some b=>rfl
theorem aAb:∀(k:Nat) (last:Option pC) (L X:List (List UInt8)) (j:Nat),vA (li (vA k last L)+j) last (L.take (xN (vA k last L))++X)=vA k last L++vA j (gK last (vA k last L)) X
 | 0,last,L,X,j=>by simp[vA,gK,xN]
 | k+1,last,L,X,j=>by
  cases d:jB L with
  | none=>rw[jI d];simp[gK,xN]
  | some c=>
   obtain⟨b,l⟩:=c;cases f:fQ last b with
   | true=>rw[bN d f];simp[gK,xN]
   | false=>have h:=nI d;rw[nN d f];have g:=aAb k (some b) (L.drop b.count) X j;obtain⟨c,i⟩:=nm (vA k (some b) (L.drop b.count));rw[<- i]at g⊢;rw[aOJ];have i:jB (L.take (b.count+xN c)++X)=some (b,l):=vZ d (λh l=>by rw[yK (by rw[pB];omega),uH,iA (by omega)]);have d:(L.take (b.count+xN c)++X).drop b.count=(L.drop b.count).take (xN c)++X:=(by rw[List.drop_append_of_le_length (by rw[pB];omega),List.drop_take,aDe]);rw[bD,show li c+1+j=li c+j+1 by omega,nN i f,d,g];rfl
theorem xW:∀(k d:Nat) (last:Option pC) (L:List (List UInt8)),li L<=k->li L<=d->vA k last L=vA d last L
 | 0,d,last,L,h,_=>by obtain rfl:L=[]:=uO.1 (by omega);rw[jI rfl,jI rfl]
 | k+1,0,last,L,_,h=>by obtain rfl:L=[]:=uO.1 (by omega);rw[jI rfl,jI rfl]
 | k+1,d+1,last,L,h,h'=>by
  cases b:jB L with
  | none=>rw[jI b,jI b]
  | some c=>
   obtain⟨f,i⟩:=c;have g:=nI b;cases c:fQ last f with
   | true=>rw[bN b c,bN b c]
   | false=>rw[nN b c,nN b c,xW k d _ _ (by rw[vB];omega) (by rw[vB];omega)]
def Ends (last:Option pC) (B:List (List UInt8)):Prop:=∀st b,jB B=some (st,b)->fQ last st=true
theorem aBy{last:Option pC}{B:List (List UInt8)}(h:Ends last B)(j:Nat):vA j last B=[]:=by
 cases c:jB B with
 | none=>exact jI c
 | some d=>exact bN (b:=d.2) c (h d.1 d.2 c)
theorem aSV{k:Nat}{last:Option pC}{L:List (List UInt8)}(g:li L<=k):Ends (gK last (vA k last L)) (L.drop (xN (vA k last L))):=by
 intro b f c;cases d:fQ (gK last (vA k last L)) b with
 | true=>rfl
 | false=>have b:=aAb k last L (L.drop (xN (vA k last L))) (k+1);rw[bL,xW _ k last L (by omega) g,nN c d]at b;have:=congrArg List.length b;simp at this
theorem aEd:∀(k:Nat) (last:Option pC) (L:List (List UInt8)),∀x∈vA k last L,∃s∈L,∃q,mB s=some q/\q.st=x.1
 | 0,_,_=>by simp[vA]
 | k+1,last,L=>by
  cases b:jB L with
  | none=>rw[jI b];simp
  | some c=>
   obtain⟨g,j⟩:=c;have i:=nI b;cases c:fQ last g with
   | true=>rw[bN b c];simp
   | false=>
    rw[nN b c];intro x c;obtain rfl|c:=bB.1 c;·obtain⟨s,q,d,f,h,_⟩:=eS b (k:=0) (by omega);exact⟨s,kF d,q,f,h⟩
    obtain⟨s,d,f⟩:=aEd k (some g) _ x c;exact⟨s,pJ d,f⟩
theorem aOL:∀(R:List (pC×List UInt8)) (st:pC),gK none R=some st->∃x∈R,x.1=st:=by intro R st b;rw[aEc,Option.or_none]at b;unfold fI at b;obtain⟨x,c,rfl⟩:=Option.map_eq_some_iff.1 b;exact⟨x,List.mem_of_getLast? c,rfl⟩
theorem aHJ{B:List (List UInt8)}{st:pC}{b:List UInt8}(h:jB B=some (st,b)):∃s∈B,∃q,mB s=some q/\q.st=st:=by have g:=nI h;obtain⟨s,q,c,d,f,_⟩:=eS h (k:=0) (by omega);exact⟨s,kF c,q,d,f⟩
theorem aNi{ses num:Nat}{b s:List UInt8}(d:aLH ses num b)(g:s∈rJ ses num b):∃q,mB s=some q/\q.st=iG ses num b:=by obtain⟨f,c,rfl⟩:=kI.1 g;exact⟨_,dN d (kO.1 c),rfl⟩
structure oL (c n:Nat) (V:List (List UInt8)) (R:List (pC×List UInt8)):Prop where
 len:V.length=n
 recs:vA n none V=R
 cap:∀s∈V,∀q,mB s=some q->q.st.session<=c/\q.st.number<=c
 top:∀st,gK none R=some st->∀s∈V,∀q,mB s=some q->q.st.number<=st.number+1
structure kM (c n:Nat) (V:List (List UInt8)) (R:List (pC×List UInt8)) (l:LG):Prop where
 len:V.length=n
 recs:vA n none V=R
 f:l.f=0
 n_:l.n=n
 br:l.br=false
 at_:l.at_=xN R
 low:∀s∈V,∀q,mB s=some q->q.st.session<=l.ses/\q.st.number<=l.num/\(q.st.session=l.ses->q.st.number<l.num)
 last:∀st,gK none R=some st->st.number+1=l.num/\st.session<=l.ses
 num:l.num<=c
 ses:l.ses<=c
theorem oL.mono{c c' n:Nat}{R:List (pC×List UInt8)}(h:oL c n H R)(b:c<=c'):oL c' n H R:=⟨h.len,h.recs,λd f g i=>by have:=h.cap d f g i;omega,h.top⟩
theorem kM.mono{c c' n:Nat}{R:List (pC×List UInt8)}{l:LG}(h:kM c n H R l)(b:c<=c'):kM c' n H R l:=⟨h.len,h.recs,h.f,h.n_,h.br,h.at_,h.low,h.last,by have:=h.num;omega,by have:=h.ses;omega⟩
theorem oL.zero{c n:Nat}:oL c n (ji n aOE) []:=⟨by simp,jI (aOF (aJe n)),(λd f g b=>by rw[aJe n d f,aDW]at b;cases b),(λd b=>by cases b)⟩
theorem kM.closed{c n:Nat}{R:List (pC×List UInt8)}{l:LG}(h:kM c n H R l):oL c n H R:=⟨h.len,h.recs,λb d f g=>by have:=h.low b d f g;have:=h.num;have:=h.ses;omega,λi j b d f g=>by have:=h.low b d f g;have:=h.last i j;omega⟩
theorem kM.few{c n:Nat}{R:List (pC×List UInt8)}{l:LG}(h:kM c n H R l):xN R<=n:=by have:=aDU n none H;rw[h.recs,h.len]at this;exact this
def aAc (n:Nat) (V:List (List UInt8)):LG:={ f:=0,n:=n,at_:=xN (vA n none V),num:=mL (((lC V).2+1)%4294967296) (fI (vA n none V)),ses:=(lC V).1+1,br:=false }
theorem oL.newest{c n:Nat}{R:List (pC×List UInt8)}(h:oL c n H R):(lC H).1<=c/\(lC H).2<=c:=by rw[aCf];exact aLJ H c c h.cap (0,0) (uB _) (uB _)
theorem oL.open_{c n:Nat}{R:List (pC×List UInt8)}(h:oL c n H R)(u:c+1<4294967296):kM (c+1) n H R (aAc n H):=by
 have r:=h.newest;have d:=aLI H (0,0);rw[<- aCf]at d;have o:(aAc n H).num=mL ((lC H).2+1) (gK none R):=by unfold aAc;simp only;rw[h.recs,aEc,Option.or_none,aL (by omega)]
 have l:∀b,gK none R=some b->b.session<=(lC H).1/\b.number<=c:=λb f=>by obtain⟨p,m,rfl⟩:=aOL R b f;rw[<- h.recs]at m;obtain⟨i,j,g,k,q⟩:=aEd n none H p m;rw[<- q];exact⟨(d.2.2 i j g k).1,(h.cap i j g k).2⟩
 have m:∀b,gK none R=some b->(aAc n H).num=b.number+1:=λb f=>by have:=(l b f).2;rw[o,f];show(b.number+1)%4294967296=_;rw[aL (by omega)]
 have p:gK none R=none->(aAc n H).num=(lC H).2+1:=λq=>by rw[o,q];rfl
 refine⟨h.len,h.recs,rfl,rfl,rfl,by show xN (vA n none H)=_;rw[h.recs],λi j g k=>?_,λb f=>?_,?_,by show(lC H).1+1<=_;omega⟩
 ·have o:=d.2.2 i j g k;refine⟨by show _<=(lC H).1+1;omega,?_,λe=>by have e:g.st.session=(lC H).1+1:=e;omega⟩;cases d:gK none R with
  | none=>rw[p d];omega
  | some b=>rw[m b d];exact h.top b d i j g k
 ·exact⟨(m b f).symm,by show _<=(lC H).1+1;have:=(l b f).1;omega⟩
 cases d:gK none R with
 | none=>rw[p d];omega
 | some b=>rw[m b d];have:=(l b d).2;omega
section
variable {c n:Nat}{V:List (List UInt8)}{R:List (pC×List UInt8)}{l:LG}{b:List UInt8}
theorem kM.goes(h:kM c n V R l)(g:c+1<4294967296):fQ (gK none R) (iG l.ses l.num b)=false:=by
 cases f:gK none R with
 | none=>rfl
 | some d=>have i:=h.last d f;have f:=h.num;unfold fQ;refine vH ?_;show ¬(l.num≠(d.number+1)%4294967296∨l.ses<d.session);rw[aL (by omega)];omega
theorem kM.behind(h:kM c n V R l)(k:c+1<4294967296){B:List (List UInt8)}(j:∀s∈B,s∈V):Ends (some (iG l.ses l.num b)) B:=by intro m o i;obtain⟨s,f,d,g,rfl⟩:=aHJ i;have i:=h.low s (j s f) d g;have f:=h.num;refine yJ ?_;show d.st.number≠(l.num+1)%4294967296∨_;rw[aL (by omega)];omega
theorem kM.fits(h:kM c n V R l)(g:c+1<4294967296)(d:rA (li b)<=65535):aLH l.ses l.num b:=⟨by have:=h.ses;omega,by have:=h.num;omega,d⟩
theorem Z47{P:Prop} (h:P:=by
 obtain⟨q',hq',he⟩:=aNi hF hs;rw[hq] at hq';injection hq' with hq';subst hq';rw[he]
 show l.ses<=l.ses/\l.num<=l.num+1/\(_ -> l.num < l.num+1)
 omega):P:=h
theorem kM.whole(h:kM c n V R l)(k:c+1<4294967296)(m:rA (li b)<=65535)(p:l.at_+rA (li b)<=n): kM (c+1) n (V.take l.at_++(rJ l.ses l.num b++(V.drop l.at_).drop (rA (li b)))) (R++[(iG l.ses l.num b,b)]) { l with at_:=l.at_+rA (li b),num:=(l.num+1)%4294967296 }:=by
 have hF:=h.fits k m;have o:=h.len;have q:=h.num;have d:(V.take l.at_++(rJ l.ses l.num b++(V.drop l.at_).drop (rA (li b)))).length=n:=by simp only[iB,pB,vB,aJ];omega
 have j:(l.num+1)%4294967296=l.num+1:=aL (by omega);refine⟨d,?_,h.f,h.n_,h.br,?_,λi hs d hq=>?_,λr g=>?_,by show(l.num+1)%4294967296<=_;omega,by show l.ses<=_;have:=h.ses;omega⟩;·have hcut:=aAb n none V (rJ l.ses l.num b++(V.drop l.at_).drop (rA (li b))) (n+1);rw[h.recs,<- h.at_]at hcut;rw[xW n (li R+(n+1)) none _ (by omega) (by omega),hcut,aFK hF _ n _ (h.goes k),aBy (h.behind k (λi hs=>pJ (pJ hs)))]
 ·show l.at_+rA (li b)=_;rw[aOK,h.at_];rfl
 ·rw[show({ l with at_:=l.at_+rA (li b),num:=(l.num+1)%4294967296 }:LG).num=l.num+1 from j,show({ l with at_:=l.at_+rA (li b),num:=(l.num+1)%4294967296 }:LG).ses=l.ses from rfl];have j:i∈V->d.st.session<=l.ses/\d.st.number<=l.num+1/\(d.st.session=l.ses->d.st.number<l.num+1):=λhs=>by
   have:=h.low i hs d hq;omega
  obtain hs|hs:=sD.1 hs;·exact j (yM hs)
  obtain hs|hs:=sD.1 hs;·exact Z47
  exact j (pJ (pJ hs))
 rw[aEb]at g;injection g with g;subst g;show l.num+1=(l.num+1)%4294967296/\l.ses<=l.ses;omega
theorem kM.torn(h:kM c n V R l)(E:c+1<4294967296)(F:rA (li b)<=65535)(M:l.at_+rA (li b)<=n){T:List (List UInt8)}(y:aOC (V.drop l.at_) T l.ses l.num b): oL (c+1) n (V.take l.at_++T) R∨oL (c+1) n (V.take l.at_++T) (R++[(iG l.ses l.num b,b)]):=by
 have o:=h.fits E F;have v:=h.len;have x:=h.num;have z:=h.ses;have s:li (V.take l.at_++T)=n:=by rw[iB,y.1,pB,vB];omega
 have t:aQz (V.drop l.at_) l.ses l.num:=λi d f g j=>by have:=h.low i (pJ d) f g;omega
 have p:∀i∈V.take l.at_++T,∀f,mB i=some f->f.st.session<=l.ses/\f.st.number<=l.num:=λi d f g=>by
  have q:i∈V->f.st.session<=l.ses/\f.st.number<=l.num:=λd=>by have:=h.low i d f g;omega
  obtain d|d:=sD.1 d;·exact q (yM d)
  obtain⟨m,r⟩:=List.mem_iff_getElem?.1 d;obtain e|⟨u,m⟩:=y.2 m;·rw[r]at e;exact q (pJ (kF e.symm))
  rw[r]at m;injection m with m;subst m;rw[dN o u]at g;injection g with g;subst g;exact⟨tA _,tA _⟩
 have q:Ends (gK none R) T->oL (c+1) n (V.take l.at_++T) R:=λj=>by
  refine⟨s,?_,λi d f g=>by have:=p i d f g;omega,λm r i d f g=>?_⟩;·have hcut:=aAb n none V T (n+1);rw[h.recs,<- h.at_]at hcut;rw[xW n (li R+(n+1)) none _ (by omega) (by omega),hcut,aBy j,jH]
  have:=p i d f g;have:=h.last m r;omega
 cases f:jB T with
 | none=>exact Ii (q λm g d=>by rw[f]at d;cases d)
 | some i=>
  obtain⟨m,g⟩:=i;obtain⟨i,o,p⟩|i:=aJc y o t f;·right;rw[p];exact(h.whole E F M).closed
  left;refine q λq r d=>?_;rw[f]at d;injection d with d;injection d with o p;subst o;have j:=aSV (k:=n) (last:=none) (L:=V) (by omega);rw[h.recs,<- h.at_]at j;exact j m g i
theorem kM.anew(h:kM c n V R l)(j:c+1<4294967296)(d:rA (li b)<=65535)(r:rA (li b)<=n): kM (c+1) n (rJ l.ses l.num b++V.drop (rA (li b))) [(iG l.ses l.num b,b)] { l with at_:=rA (li b),num:=(l.num+1)%4294967296 }:=by
 have hF:=h.fits j d;have p:=h.len;have q:=h.num;have i:(l.num+1)%4294967296=l.num+1:=aL (by omega);have s:=aJb (li b);refine⟨by simp only[iB,vB,aJ];omega,?_,h.f,h.n_,h.br,?_,λg hs o hq=>?_,λt d=>?_,by show(l.num+1)%4294967296<=_;omega,by show l.ses<=_;have:=h.ses;omega⟩;·obtain⟨m,rfl⟩:∃k,n=k+1:=⟨n-1,by omega⟩;rw[aFK hF _ m none rfl,aBy (h.behind j (λg hs=>pJ hs))]
 ·show rA (li b)=xN [_];simp[xN,iG]
 ·rw[show({ l with at_:=rA (li b),num:=(l.num+1)%4294967296 }:LG).num=l.num+1 from i,show({ l with at_:=rA (li b),num:=(l.num+1)%4294967296 }:LG).ses=l.ses from rfl];obtain hs|hs:=sD.1 hs
  ·exact Z47
  have:=h.low g (pJ hs) o hq;omega
 injection d with d;subst d;show l.num+1=(l.num+1)%4294967296/\l.ses<=l.ses;omega
theorem aQB{L T:List (List UInt8)}{ses num:Nat}{b:List UInt8}(d:aOC L T ses num b)(i:rA (li b)=1)(m:1<=li L):T=L∨T=rJ ses num b++L.drop (rA (li b)):=by
 obtain c|⟨_,c⟩:=d.2 0
 ·left;apply vU;intro g;by_cases f:g=0
  ·subst f;exact c
  obtain f|f:=d.2 g;·exact f
  omega
 right;refine aOD d (λf g _=>?_) (by omega);obtain rfl:f=0:=by omega
 exact c
theorem kM.anewTorn(h:kM c n V R l)(d:c+1<4294967296)(g:rA (li b)=1)(h1:1<=n){T:List (List UInt8)}(i:aOC V T l.ses l.num b): oL (c+1) n T R∨oL (c+1) n T [(iG l.ses l.num b,b)]:=by
 rcases aQB i g (by rw[h.len];exact h1) with rfl|rfl;·exact Ii (h.closed.mono (by omega))
 exact Ij (h.anew d (by omega) (by omega)).closed
end
structure aH (Q:Nat->Prop) (S0:List (List UInt8)) (D:DM):Prop where
 len:D.S.length=S0.length
 same:∀j,¬Q j->D.S[j]? = S0[j]?
 pend:∀p∈D.P,Q p.1
theorem dP:∀(P:List (Nat×List UInt8)) (S:List (List UInt8)) (j:Nat),(∀p∈P,p.1≠j)->(iC S P)[j]? = S[j]?
 | [],_,_,_=>rfl
 | p::P,S,j,h=>by show(iC (S.set p.1 p.2) P)[j]? = _;rw[dP P _ j (λb c=>h b (jD _ c)),List.getElem?_set_ne (h p (eC ..))]
theorem aFN{x:List UInt8}{j:Nat}:∀(P:List (Nat×List UInt8)) (S:List (List UInt8)),j<li S->(∀p∈P,p.1=j->p.2=x)->(S[j]? = some x∨∃p∈P,p.1=j)->(iC S P)[j]? = some x
 | [],S,_,_,b=>by
  obtain b|⟨p,c,_⟩:=b;·exact b
  cases c
 | p::P,S,hj,hx,b=>by
  show(iC (S.set p.1 p.2) P)[j]? = _;refine aFN P _ (by simpa using hj) (λf d=>hx f (jD _ d)) ?_;by_cases c:p.1=j;·left;rw[c,List.getElem?_set_self hj,hx p (eC ..) c]
  obtain b|⟨f,d,g⟩:=b;·left;rw[List.getElem?_set_ne c];exact b
  obtain rfl|d:=bB.1 d;·exact absurd g c
  exact Ij ⟨f,d,g⟩
section
variable {Q:Nat->Prop}{S0:List (List UInt8)}{D:DM}
theorem aH.refl(b:D.P=[]):aH Q D.S D:=⟨rfl,λ_ _=>rfl,by rw[b];simp⟩
theorem aH.died(h:aH Q S0 D):aH Q S0 D.died:=⟨h.len,h.same,h.pend⟩
theorem aH.write(h:aH Q S0 D)(k:Nat)(b:List UInt8)(d:Q k):aH Q S0 (D.write (k:Int) b):=by
 unfold DM.write;split;·exact h
 split;·exact h
 split;·exact h.died
 refine⟨h.len,h.same,λf c=>?_⟩;obtain c|c:=sD.1 c;·exact h.pend f c
 simp only[xA]at c;subst c;simpa using d
theorem aH.laid(h:aH Q S0 D){P:List (Nat×List UInt8)}(c:∀p∈P,p∈D.P)(j:Nat)(b:¬Q j):(iC D.S P)[j]? = S0[j]?:=by rw[dP _ _ _ (λp d e=>b (by rw[<- e];exact h.pend p (c p d))),h.same j b]
theorem aH.sync(h:aH Q S0 D):aH Q S0 D.sync:=by
 unfold DM.sync;split;·exact h
 split;·exact h.died
 exact⟨by show(iC D.S D.P).length=_;rw[uE];exact h.len,λb c=>h.laid (λ_ d=>d) b c,by simp⟩
theorem aH.reopen(h:aH Q S0 D)(K:List Bool):aH Q S0 (D.reopen K):=⟨by show(iC D.S _).length=_;rw[uE];exact h.len,λb c=>h.laid (λd f=>zM _ _ d f) b c,by simp[DM.reopen]⟩
theorem aH.lay:∀(b:List (List UInt8)) (D:DM) (pos:Nat),aH Q S0 D->(∀j,pos<=j->j<pos+li b->Q j)->aH Q S0 (aV D pos b).1
 | [],D,pos,h,_=>h.sync
 | s::b,D,pos,h,hq=>by
  have c:=h.write pos s (hq pos (tA _) (by simp));by_cases d:D.writeE (pos:Int) s=0;·rw[rZ d];exact aH.lay b _ (pos+1) c (λj f g=>hq j (by omega) (by simp;omega))
  rw[wW d];exact c
theorem aH.append(h:aH Q S0 D)(l:LG)(b:List UInt8)(c:∀j,l.f+l.at_<=j->j<l.f+l.at_+rA (li b)->Q j):aH Q S0 (kB D l b):=by
 unfold kB;split;·exact h
 split;·exact h
 split;·exact h
 exact aH.lay _ _ _ h (by rw[xE];exact c)
end
def rG:DM->List (Nat×List UInt8)->DM×Int
 | D,[]=>(D,0)
 | D,p::r=>if D.writeE (p.1:Int) p.2=0 then rG (D.write (p.1:Int) p.2) r else (D.write (p.1:Int) p.2,D.writeE (p.1:Int) p.2)
theorem aEe{Q:Nat->Prop}:∀(P:List (Nat×List UInt8)) (D:DM),aH Q H D->(∀p∈P,Q p.1)->aH Q H (rG D P).1
 | [],D,h,_=>h
 | p::P,D,h,hq=>by
  have b:=h.write p.1 p.2 (hq p (eC ..));unfold rG;split;·exact aEe P _ b (λc d=>hq c (jD _ d))
  exact b
theorem aQC:∀(P:List (Nat×List UInt8)) (D:DM),(rG D P).1.S=D.S
 | [],_=>rfl
 | p::P,D=>by
  unfold rG;split;·rw[aQC P,yQ]
  exact yQ ..
theorem aFO:∀(P:List (Nat×List UInt8)) (D:DM),(rG D P).1.done<=D.done+li P
 | [],_=>tA _
 | p::P,D=>by
  have b:=qT D (p.1:Int) p.2;unfold rG;split;·have:=aFO P (D.write (p.1:Int) p.2);simp only[bD];omega
  simp only[bD];omega
theorem aNj:∀(P:List (Nat×List UInt8)) (D:DM),D.ok->(rG D P).1.ok
 | [],_,h=>h
 | p::P,D,h=>by
  unfold rG;split;·exact aNj P _ (DM.ok_write h _ _)
  exact DM.ok_write h _ _
theorem aEf:∀(P:List (Nat×List UInt8)) (D:DM),D.dead=false->(∀p∈P,p.1<li D.S/\li p.2=64) ->((rG D P).2=0/\(rG D P).1.dead=false/\(rG D P).1.P=D.P++P/\(D.limit = -1->(rG D P).1.limit = -1))∨((rG D P).2=10/\(rG D P).1.dead=true/\D.limit≠-1)
 | [],D,hd,_=>Ii ⟨rfl,hd,by simp[rG],λc=>c⟩
 | p::P,D,hd,hp=>by
  obtain⟨g,b⟩:=hp p (eC ..);have i:pad p.2=p.2:=by simp[pad,b]
  by_cases f:D.limit=0
  ·right;have d:D.writeE (p.1:Int) p.2=10:=by
    unfold DM.writeE;rw[eA (by rw[hd];decide),eA (by omega),iA f]
   have b:D.write (p.1:Int) p.2=D.died:=(by unfold DM.write;rw[eA (by rw[hd];decide),eA (by omega),iA f]);unfold rG;rw[eA (by rw[d];decide),d,b];exact⟨rfl,rfl,by omega⟩
  have d:D.writeE (p.1:Int) p.2=0:=by unfold DM.writeE;rw[eA (by rw[hd];decide),eA (by omega),eA f]
  have b:=tV hd g (by omega:li p.2<=64) f;unfold rG;rw[iA d];have j:=aEf P (D.write (p.1:Int) p.2) (by rw[b];exact hd) (λd f=>by rw[yQ];exact hp d (jD _ f));have h:D.limit = -1↔(D.write (p.1:Int) p.2).limit = -1:=by rw[b];show _↔(if 0<D.limit then D.limit-1 else D.limit) = -1;split<;>omega
  obtain⟨d,f,g,k⟩|⟨d,f,g⟩:=j;·refine Ii ⟨d,f,?_,λc=>k (h.1 c)⟩;rw[g,b,i];simp
  exact Ij ⟨d,f,λc=>g (h.1 c)⟩
end
variable {O:PgM}
section
structure PS where
 D:DM
 l:LG
 n:Nat
 late:PgM
 held:PgM
 br:Bool
variable {S:PS}
def pH (S:List (List UInt8)) (log k:Nat):List UInt8:=((S.drop (log+8*k)).take 8).flatten
def uD (log:Nat) (m:PgM):List (Nat×List UInt8):=m.flatMap fun p=>(List.range 8).map fun i=>(log+8*p.1+i,(p.2.drop (64*i)).take 64)
def rC (s:PS):DM×LG×Int:=
 if (rG s.D (uD s.l.n s.held)).2≠0 then ((rG s.D (uD s.l.n s.held)).1,s.l,(rG s.D (uD s.l.n s.held)).2)
 else if (rG s.D (uD s.l.n s.held)).1.syncE≠0 then ((rG s.D (uD s.l.n s.held)).1.sync,s.l,(rG s.D (uD s.l.n s.held)).1.syncE)
 else (kB (rG s.D (uD s.l.n s.held)).1.sync { s.l with at_:=0 } [],aD (rG s.D (uD s.l.n s.held)).1.sync { s.l with at_:=0 } [],rD (rG s.D (uD s.l.n s.held)).1.sync { s.l with at_:=0 } [])
def PS.check (s:PS):PS×Int:=
 if s.br then (s,10) else if s.held=[] then (s,0)
 else if (rC s).2.2≠0 then ({ s with D:=(rC s).1,l:=(rC s).2.1,br:=true },(rC s).2.2)
 else ({ s with D:=(rC s).1,l:=(rC s).2.1,held:=[] },0)
def PS.laid (s:PS) (b:List UInt8):PS:={ s with D:=kB s.D s.l b,l:=aD s.D s.l b }
def PS.append (s:PS) (b:List UInt8):PS×Int:=
 if rD s.D s.l b≠5∨s.held=[] then (s.laid b,rD s.D s.l b)
 else if (s.laid b).check.2≠0 then (s.laid b).check
 else ((s.laid b).check.1.laid b,rD (s.laid b).check.1.D (s.laid b).check.1.l b)
def PS.commit (s:PS):PS×Int:=
 if s.br then (s,10) else if s.late=[] then (s,0)
 else if (s.append (nE s.late)).2≠0 then ({ (s.append (nE s.late)).1 with br:=(s.append (nE s.late)).1.br || ((s.append (nE s.late)).2 !=5&&(s.append (nE s.late)).2 !=4) },(s.append (nE s.late)).2)
 else ({ (s.append (nE s.late)).1 with held:=rI (s.append (nE s.late)).1.held s.late,late:=[] },0)
def aLK (C:Nat->List UInt8) (m:PgM) (k:Nat):List UInt8:=(kG m k).getD (C k)
theorem aBz(b:List UInt8):∀m,((List.range m).map λc=>(b.drop (64*c)).take 64).flatten=b.take (64*m)
 | 0=>by simp
 | m+1=>by rw[List.range_succ,tQ,List.flatten_append,aBz b m];simp only[xJ,aAX,List.flatten_cons,List.flatten_nil,jH];rw[show 64*(m+1)=64*m+64 by omega,List.take_add]
theorem aNk{S:List (List UInt8)}{log k:Nat}{b:List UInt8}(c:li b=512)(h:∀i,i<8->S[log+8*k+i]? = some ((b.drop (64*i)).take 64)):pH S log k=b:=by
 have e:(S.drop (log+8*k)).take 8=(List.range 8).map λi=>(b.drop (64*i)).take 64:=by
  apply vU;intro i;rw[uH];by_cases d:i<8;·rw[iA d,zK,h i d,wI,List.getElem?_range d];rfl
  rw[eA d,gT (by simp;omega)]
 unfold pH;rw[e,aBz,zF (by omega)]
theorem yW{S:List (List UInt8)}{log k:Nat}(h:∀i,i<8->H[log+8*k+i]? = S[log+8*k+i]?):pH H log k=pH S log k:=by
 unfold pH;congr 1;apply vU;intro i;rw[uH,uH];by_cases b:i<8;·rw[iA b,iA b,zK,zK,h i b]
 rw[eA b,eA b]
theorem iS{log:Nat}{m:PgM}{p:Nat×List UInt8}:p∈uD log m↔∃q∈m,∃i,i<8/\p=(log+8*q.1+i,(q.2.drop (64*i)).take 64):=by
 unfold uD;rw[List.mem_flatMap];constructor;·rintro⟨q,b,d⟩;obtain⟨i,c,rfl⟩:=kI.1 d;exact⟨q,b,i,kO.1 c,rfl⟩
 rintro⟨q,b,i,c,rfl⟩;exact⟨q,b,kI.2 ⟨i,kO.2 c,rfl⟩⟩
theorem aBA{log:Nat}:∀(m:PgM),li (uD log m)=8*li m
 | []=>rfl
 | p::m=>by have b:=aBA (log:=log) m;unfold uD at b⊢;rw[xG,iB,b];simp;omega
def QM (log:Nat) (m:PgM) (j:Nat):Prop:=∃q∈m,log+8*q.1<=j/\j<log+8*q.1+8
theorem aNl{log:Nat}{m:PgM}:∀p∈uD log m,QM log m p.1:=λp d=>by obtain⟨b,c,f,g,rfl⟩:=iS.1 d;exact⟨b,c,by simp only;omega,by simp only;omega⟩
theorem aQD{log:Nat}{m:PgM}{j:Nat}(h:QM log m j):log<=j:=by obtain⟨b,_,c,_⟩:=h;omega
theorem aHK{n log:Nat}{m:PgM}{S:List (List UInt8)}(h:tH n m)(r:log+8*n<=li S){k:Nat}:pH (iC S (uD log m)) log k=(kG m k).getD (pH S log k):=by
 cases d:kG m k with
 | none=>
  refine yW λl p=>dP _ _ _ λg o e=>?_;obtain⟨c,i,j,q,rfl⟩:=iS.1 o;have f:c.1=k:=by simp only at e;omega
  rw[wN h (j:=k) (b:=c.2) (by rw[<- f];exact i)]at d;cases d
 | some b=>
  have g:=aJh h d;refine aNk g.2 λl p=>aFN _ _ (by omega) (λg o e=>?_) (Ij ⟨_,iS.2 ⟨(k,b),aJg d,l,p,rfl⟩,rfl⟩);obtain⟨c,i,j,q,rfl⟩:=iS.1 o;have f:c.1=k/\j=l:=by simp only at e;omega
  obtain⟨g,rfl⟩:=f;have f:=wN h (j:=k) (b:=c.2) (by rw[<- g];exact i);rw[d]at f;injection f with f;rw[f];rfl
structure zL (c n log:Nat) (D:DM) (C:Nat->List UInt8):Prop where
 dead:D.dead=false
 pend:D.P=[]
 ok:D.ok
 fit:log+8*n<=D.S.length
 n1:1<=n
 n2:n<=4096
 log1:1<=log
 recs:∃R H,oL c log (D.S.take log) R/\qG n (R.map (·.2)) []=some H/\(H=[]->xN R<=1)/\∀k,k<n->C k=(kG H k).getD (pH D.S log k)
structure fG (c:Nat) (s:PS) (C:Nat->List UInt8):Prop where
 dead:s.D.dead=false
 pend:s.D.P=[]
 ok:s.D.ok
 fit:s.l.n+8*s.n<=s.D.S.length
 n1:1<=s.n
 n2:s.n<=4096
 log1:1<=s.l.n
 recs:∃R,kM c s.l.n (s.D.S.take s.l.n) R s.l/\qG s.n (R.map (·.2)) []=some s.held/\(s.held=[]->s.l.at_<=1)
 late:tH s.n s.late
 br:s.br=false
 cont:∀k,k<s.n->C k=(kG s.held k).getD (pH s.D.S s.l.n k)
theorem fG.held{c:Nat}{s:PS}{C:Nat->List UInt8}(h:fG c s C):tH s.n s.held:=by obtain⟨d,_,b,_⟩:=h.recs;exact aEa _ _ _ (tH.nil _) b
theorem fG.mono{c c':Nat}{s:PS}{C:Nat->List UInt8}(h:fG c s C)(b:c<=c'):fG c' s C:=by obtain⟨d,f,g,i⟩:=h.recs;exact⟨h.dead,h.pend,h.ok,h.fit,h.n1,h.n2,h.log1,⟨d,f.mono b,g,i⟩,h.late,h.br,h.cont⟩
theorem zL.mono{c c' n log:Nat}{D:DM}{C:Nat->List UInt8}(h:zL c n log D C)(d:c<=c'):zL c' n log D C:=by obtain⟨b,f,g,i,j,k⟩:=h.recs;exact⟨h.dead,h.pend,h.ok,h.fit,h.n1,h.n2,h.log1,⟨b,f,g.mono d,i,j,k⟩⟩
def qH (n log:Nat) (D:DM) (H:PgM):PS:={ D:=D,l:=aAc log (D.S.take log),n:=n,late:=[],held:=H,br:=false }
theorem zL.open_{c n log:Nat}{D:DM}{C:Nat->List UInt8}(h:zL c n log D C)(g:c+1<4294967296): ∃H,qG n ((vA log none (D.S.take log)).map (·.2)) []=some H/\fG (c+1) (qH n log D H) C/\(lC (D.S.take log)).1<4294967295:=by obtain⟨i,H,b,f,j,k⟩:=h.recs;have d:=b.open_ g;refine⟨H,by rw[b.recs];exact f,⟨h.dead,h.pend,h.ok,h.fit,h.n1,h.n2,h.log1,⟨i,d,f,λe=>?_⟩,tH.nil _,rfl,k⟩,by have:=b.newest;omega⟩;show(aAc log (D.S.take log)).at_<=1;rw[d.at_];exact j e
theorem fG.wrote{c:Nat}{s:PS}{C:Nat->List UInt8}(h:fG c s C){k:Nat}{b:List UInt8}(d:k<s.n)(g:li b=512):fG c { s with late:=pR s.late k b } C:=⟨h.dead,h.pend,h.ok,h.fit,h.n1,h.n2,h.log1,h.recs,h.late.put d g,h.br,h.cont⟩
theorem fG.rolled{c:Nat}{s:PS}{C:Nat->List UInt8}(h:fG c s C):fG c { s with late:=[] } C:=⟨h.dead,h.pend,h.ok,h.fit,h.n1,h.n2,h.log1,h.recs,tH.nil _,h.br,h.cont⟩
theorem zL.new{n log N:Nat}(h1:1<=n)(h2:n<=4096)(h3:1<=log)(b:log+8*n<=N)(g:N<=65536):zL 0 n log (DM.new N) (λ_=>ji 512 0):=by
 have c:(DM.new N).S=ji N aOE:=rfl;have d:(DM.new N).S.length=N:=by rw[c];simp
 refine⟨rfl,rfl,DM.ok_new N (by omega) g,by rw[d];exact b,h1,h2,h3,⟨[],[],?_,rfl,λ_=>by simp[xN],λf h=>?_⟩⟩;·rw[c,List.take_replicate,gO (by omega)];exact oL.zero
 rw[aDY];symm;refine aNk kV λd i=>?_;rw[c,List.getElem?_replicate,iA (by omega),aKX,List.take_replicate,show min 64 (512-64*d)=64 by omega];rfl
theorem aFP{S:List (List UInt8)}{log:Nat}(h:∀j,j<log->H[j]? = S[j]?):H.take log=S.take log:=by
 apply vU;intro j;rw[uH,uH];by_cases b:j<log;·rw[iA b,iA b,h j b]
 rw[eA b,eA b]
theorem aJj:∀(b:List (List UInt8)) (D:DM) (pos:Nat),D.ok->(aV D pos b).1.ok
 | [],D,_,h=>DM.ok_sync h
 | s::b,D,pos,h=>by
  by_cases c:D.writeE (pos:Int) s=0;·rw[rZ c];exact aJj b _ _ (DM.ok_write h _ _)
  rw[wW c];exact DM.ok_write h _ _
theorem eN{D:DM}{l:LG}{b:List UInt8}(h:D.ok):(kB D l b).ok:=by
 unfold kB;split;·exact h
 split;·exact h
 split;·exact h
 exact aJj _ _ _ h
theorem fP(D:DM)(l:LG)(b:List UInt8):(kB D l b).done<=D.done+65536:=by
 unfold kB;split;·omega
 split;·omega
 split;·omega
 have:=aOB (tC l.ses l.num b) D (l.f+l.at_);rw[xE]at this;omega
theorem aQE{D:DM}{log:Nat}(b:D.dead=false)(c:D.P=[]):St D 0 (D.S.take log):=⟨b,c,[],D.S.drop log,by rw[nG,bL],rfl⟩
theorem aCJ{D:DM}{log:Nat}(h:St D 0 H)(g:li H=log):D.S.take log=H:=by obtain⟨b,f,c,d⟩:=h.part;obtain rfl:b=[]:=uO.1 d;rw[c,nG];exact List.take_left' g
section
variable {c:Nat}{s:PS}{C:Nat->List UInt8}
theorem fG.lgAt(h:fG c s C):s.l.at_<=s.l.n/\li (s.D.S.take s.l.n)=s.l.n/\(s.D.S.take s.l.n).take s.l.at_++(s.D.S.take s.l.n).drop s.l.at_=s.D.S.take s.l.n/\LgAt s.l 0 (li ((s.D.S.take s.l.n).take s.l.at_++(s.D.S.take s.l.n).drop s.l.at_)) (li ((s.D.S.take s.l.n).take s.l.at_)):=by
 obtain⟨i,b,_,_⟩:=h.recs;have g:=b.few;rw[<- b.at_]at g;have d:=b.len;refine⟨g,d,bL ..,⟨b.f,?_,?_,b.br⟩⟩;·rw[bL,d]
 rw[pB,d];omega
theorem fG.app(h:fG c s C)(I:c+1<4294967296){b:List UInt8}(q:nL s.n b s.held=some O)(H:O≠[]): (65535<rA (li b)/\rD s.D s.l b=4/\s.laid b=s) ∨(rA (li b)<=65535/\s.l.n-s.l.at_<rA (li b)/\rD s.D s.l b=5/\s.laid b=s) ∨(rD s.D s.l b=0/\fG (c+1) { s.laid b with held:=O,late:=[] } (λd=>(kG O d).getD (pH s.D.S s.l.n d))/\(s.D.limit = -1->(s.laid b).D.limit = -1)/\(s.laid b).l.n=s.l.n) ∨(rD s.D s.l b=10/\(s.laid b).D.dead=true/\s.D.limit≠-1/\(s.laid b).l.n=s.l.n/\∀K,zL (c+1) s.n s.l.n ((s.laid b).D.reopen K) C∨zL (c+1) s.n s.l.n ((s.laid b).D.reopen K) (λd=>(kG O d).getD (pH s.D.S s.l.n d))):=by
 obtain⟨M,m,g,B⟩:=h.lgAt;obtain⟨o,j,t,L⟩:=h.recs;have u:=h.fit;have v:St s.D 0 ((s.D.S.take s.l.n).take s.l.at_++(s.D.S.take s.l.n).drop s.l.at_):=by rw[g];exact aQE h.dead h.pend
 have i:¬s.l.br=true:=by rw[j.br];simp
 have x:li ((s.D.S.take s.l.n).take s.l.at_)=s.l.at_:=by rw[pB,m];omega
 by_cases g:65535<rA (li b)
 ·left;refine⟨g,?_,?_⟩
  ·unfold rD;rw[eA i,iA g]
  unfold PS.laid kB aD;rw[eA i,iA g,eA i,iA g]
 right;by_cases k:s.l.n-s.l.at_<rA (li b)
 ·left;refine⟨by omega,k,?_,?_⟩
  ·unfold rD;rw[eA i,eA g,iA k]
  unfold PS.laid kB aD;rw[eA i,eA g,iA k,eA i,eA g,iA k]
 right;have y:rA (li b)<=li ((s.D.S.take s.l.n).drop s.l.at_):=(by rw[vB,m];omega);have p:aH (λg=>g<s.l.n) s.D.S (kB s.D s.l b):=(aH.refl h.pend).append s.l b (λg _ i=>by rw[j.f]at i;omega);have k:∀i:DM,aH (λg=>g<s.l.n) s.D.S i->∀d,pH i.S s.l.n d=pH s.D.S s.l.n d:=λi g d=>yW λk N=>g.same _ (by omega);have J:∀g:pC,O=[]->xN (o++[(g,b)])<=1:=λg e=>absurd e H;have z:qG s.n ((o++[(iG s.l.ses s.l.num b,b)]).map (·.2)) []=some O:=by rw[tQ,xJ,aAX,zZ _ _ _ _ _ t];exact q
 by_cases i:0<=s.D.limit/\s.D.limit<=rA (li b)
 ·right;have g:=λK=>aCe (b:=b) v B y (by omega) i.1 i.2 K;obtain⟨q,i,E,_,F⟩:=g [];refine⟨q,i,by omega,by show(aD s.D s.l b).n=_;rw[F],λK=>?_⟩;obtain⟨_,_,_,⟨r,A,G⟩,_⟩:=g K;have g:li ((s.D.S.take s.l.n).take s.l.at_++r)=s.l.n:=(by rw[iB,G.1,vB,x,m];omega);have m:=aCJ A g;have g:=p.reopen K;have A:s.l.n+8*s.n<=((kB s.D s.l b).reopen K).S.length:=(by rw[g.len];exact u);obtain r|r:=j.torn I (by omega) (by omega) G
  ·refine Ii ⟨rfl,rfl,DM.ok_reopen (eN h.ok) K,A,h.n1,h.n2,h.log1,⟨o,s.held,?_,t,λe=>by rw[<- j.at_];exact L e,λd t=>?_⟩⟩
   ·show oL _ _ (((kB s.D s.l b).reopen K).S.take s.l.n) o;rw[m];exact r
   show C d=(kG s.held d).getD (pH ((kB s.D s.l b).reopen K).S s.l.n d);rw[k _ g];exact h.cont d t
  refine Ij ⟨rfl,rfl,DM.ok_reopen (eN h.ok) K,A,h.n1,h.n2,h.log1,⟨_,O,?_,z,J _,λd t=>?_⟩⟩;·show oL _ _ (((kB s.D s.l b).reopen K).S.take s.l.n) _;rw[m];exact r
  show _=(kG O d).getD (pH ((kB s.D s.l b).reopen K).S s.l.n d);rw[k _ g]
 left;have g:s.D.limit = -1∨(rA (li b):Int)<s.D.limit:=(by have:=h.ok.lim;omega);obtain⟨q,i,E,r,F⟩:=wZ (b:=b) v B y (by omega) g;have o:=j.whole I (b:=b) (by omega) (by omega);have m:=aCJ i o.len;have g:aD s.D s.l b={ s.l with at_:=s.l.at_+rA (li b),num:=(s.l.num+1)%4294967296 }:=(by rw[E,x]);refine⟨q,⟨i.dead,i.pend,eN h.ok,?_,h.n1,h.n2,?_,⟨_,?_,z,λe=>absurd e H⟩,tH.nil _,h.br,λd t=>?_⟩,λi=>?_,by show(aD s.D s.l b).n=_;rw[g]⟩;·show(aD s.D s.l b).n+8*s.n<=(kB s.D s.l b).S.length;rw[g,p.len];exact u
 ·show 1<=(aD s.D s.l b).n;rw[g];exact h.log1
 ·show kM _ (aD s.D s.l b).n ((kB s.D s.l b).S.take (aD s.D s.l b).n) _ (aD s.D s.l b);rw[g];show kM _ s.l.n ((kB s.D s.l b).S.take s.l.n) _ _;rw[m];exact o
 ·show _=(kG O d).getD (pH (kB s.D s.l b).S (aD s.D s.l b).n d);rw[g];show _=(kG O d).getD (pH (kB s.D s.l b).S s.l.n d);rw[k _ p]
 show(kB s.D s.l b).limit = -1;rw[r,iA i]
theorem aEg(n:Nat):qG n [[]] []=some []:=rfl
theorem aOM(a b:Nat):xN [(iG a b [],([]:List UInt8))]<=1:=by simp[xN,iG,rA]
theorem fG.torn_home(h:fG c s C){D':DM}(ht:aH (QM s.l.n s.held) s.D.S D')(K:List Bool):zL c s.n s.l.n (D'.reopen K) C∨D'.ok=False:=by
 by_cases k:D'.ok
 ·left;have g:=ht.reopen K;obtain⟨m,d,o,p⟩:=h.recs;have f:(D'.reopen K).S.take s.l.n=s.D.S.take s.l.n:=aFP λj d=>g.same j (λi=>by have:=aQD i;omega);refine⟨rfl,rfl,DM.ok_reopen k K,by rw[g.len];exact h.fit,h.n1,h.n2,h.log1,⟨m,s.held,by rw[f];exact d.closed,o,λe=>by rw[<- d.at_];exact p e,λd f=>?_⟩⟩;rw[h.cont d f];cases m:kG s.held d with
  | some b=>rfl
  | none=>show pH s.D.S s.l.n d=pH (D'.reopen K).S s.l.n d;refine(yW λf o=>g.same _ λ⟨g,i,p,q⟩=>?_).symm;have f:g.1=d:=(by omega);rw[wN h.held (j:=d) (b:=g.2) (by rw[<- f];exact i)]at m;cases m
 right;exact eq_false k
theorem fG.settle(h:fG c s C)(T:c+1<4294967296)(_:s.held≠[]): ((rC s).2.2=0/\fG (c+1) { s with D:=(rC s).1,l:=(rC s).2.1,held:=[] } C/\(rC s).2.1.n=s.l.n/\(s.D.limit = -1->(rC s).1.limit = -1)) ∨((rC s).2.2=10/\(rC s).1.dead=true/\s.D.limit≠-1/\(rC s).2.1.n=s.l.n/\∀K,zL (c+1) s.n s.l.n ((rC s).1.reopen K) C):=by
 obtain⟨W,F,_,_⟩:=h.lgAt;obtain⟨O,p,U,V⟩:=h.recs;have y:=h.fit;have o:=h.log1;have E:=h.held;have d:∀t∈uD s.l.n s.held,t.1<li s.D.S/\li t.2=64:=λt d=>by obtain⟨g,i,N,Q,rfl⟩:=iS.1 d;have:=E.mem g i;refine⟨by simp only;omega,?_⟩;simp only[pB,vB];omega
 have z:aH (QM s.l.n s.held) s.D.S (rG s.D (uD s.l.n s.held)).1:=aEe _ _ (aH.refl h.pend) aNl;have u:=aNj (uD s.l.n s.held) s.D h.ok;have A:=aQC (uD s.l.n s.held) s.D;obtain⟨x,k,G,B⟩|⟨x,k,G⟩:=aEf (uD s.l.n s.held) s.D h.dead d
 ·have H:(rG s.D (uD s.l.n s.held)).1.P=uD s.l.n s.held:=by rw[G,h.pend,nG]
  have e:rC s=if (rG s.D (uD s.l.n s.held)).1.syncE≠0 then ((rG s.D (uD s.l.n s.held)).1.sync,s.l,(rG s.D (uD s.l.n s.held)).1.syncE) else (kB (rG s.D (uD s.l.n s.held)).1.sync { s.l with at_:=0 } [],aD (rG s.D (uD s.l.n s.held)).1.sync { s.l with at_:=0 } [],rD (rG s.D (uD s.l.n s.held)).1.sync { s.l with at_:=0 } []):=by unfold rC;rw[eA (by rw[x];decide)]
  obtain⟨d,g⟩:=nm ((rG s.D (uD s.l.n s.held)).1);rw[<- g]at e z u A k B H;by_cases m:d.limit=0
  ·right;have q:d.syncE=10:=(by unfold DM.syncE;rw[eA (by rw[k];decide),iA m]);have g:d.sync.dead=true:=(by unfold DM.sync;rw[eA (by rw[k];decide),iA m];rfl);rw[iA (by rw[q];decide),q]at e;rw[e];refine⟨rfl,g,λj=>by rw[B j]at m;exact absurd m (by decide),rfl,λK=>?_⟩;obtain i|i:=h.torn_home z.sync K
   ·exact i.mono (by omega)
   exact absurd (DM.ok_sync u) (by rw[i];exact id)
  have q:d.syncE=0:=(by unfold DM.syncE;rw[eA (by rw[k];decide),eA m]);have g:d.sync={ d.spent with S:=iC d.S d.P,P:=[] }:=(by unfold DM.sync;rw[eA (by rw[k];decide),eA m]);rw[eA (by rw[q];decide)]at e;have r:=DM.ok_sync u;have I:d.sync.dead=false:=(by rw[g];exact k);have v:d.sync.P=[]:=(by rw[g]);have m:d.sync.S=iC s.D.S (uD s.l.n s.held):=(by rw[g];show iC d.S d.P=_;rw[A,H]);have A:s.D.limit = -1->d.sync.limit = -1:=λj=>by rw[g];show(if 0<d.limit then d.limit-1 else d.limit) = -1;rw[B j,eA (by decide)]
  generalize d.sync=d at e r I v m A;have H:∀g,pH d.S s.l.n g=(kG s.held g).getD (pH s.D.S s.l.n g):=λg=>(by rw[m];exact aHK E y);have B:d.S.take s.l.n=s.D.S.take s.l.n:=aFP λq Y=>(by rw[m];refine dP _ _ _ λt E Z=>?_;have:=aQD (aNl t E);omega);have J:li d.S=li s.D.S:=(by rw[m,uE]);have L:St d 0 ([]++s.D.S.take s.l.n):=(by rw[nG,<- B];exact aQE I v);have I:LgAt { s.l with at_:=0 } 0 (li (([]:List (List UInt8))++s.D.S.take s.l.n)) (li ([]:List (List UInt8))):=⟨p.f,by rw[nG,F],rfl,p.br⟩;have m:rA (li ([]:List UInt8))=1:=rfl;have M:rA (li ([]:List UInt8))<=li (s.D.S.take s.l.n):=(by rw[F,m];exact o);have B:aH (λq=>q<s.l.n) d.S (kB d { s.l with at_:=0 } []):=(aH.refl v).append _ _ (λq _ t=>by have t:q<s.l.f+0+1:=t;rw[p.f]at t;omega);have E:∀t:DM,aH (λq=>q<s.l.n) d.S t->∀g,pH t.S s.l.n g=(kG s.held g).getD (pH s.D.S s.l.n g):=λt q g=>(by rw[<- H g];exact yW λN Q=>q.same _ (by omega));rw[e];by_cases t:0<=d.limit/\d.limit<=rA (li ([]:List UInt8))
  ·right;have j:=λK=>aCe (b:=[]) L I M (by rw[m];omega) t.1 t.2 K;obtain⟨H,q,_,_,v⟩:=j [];refine⟨H,q,λj=>by rw[A j]at t;exact absurd t.1 (by decide),by show(aD d { s.l with at_:=0 } []).n=_;rw[v],λK=>?_⟩;obtain⟨_,_,_,⟨X,t,Q⟩,_⟩:=j K;rw[nG]at t;have v:=aCJ t (by rw[Q.1,F]);have F:=B.reopen K;have N:s.l.n+8*s.n<=((kB d { s.l with at_:=0 } []).reopen K).S.length:=(by rw[F.len,J];exact y);obtain i|i:=p.anewTorn T m o Q
   ·refine⟨rfl,rfl,DM.ok_reopen (eN r) K,N,h.n1,h.n2,o,⟨O,s.held,?_,U,λe=>by rw[<- p.at_];exact V e,λg t=>?_⟩⟩
    ·show oL _ _ (((kB d { s.l with at_:=0 } []).reopen K).S.take s.l.n) O;rw[v];exact i
    show C g=(kG s.held g).getD (pH ((kB d { s.l with at_:=0 } []).reopen K).S s.l.n g);rw[E _ F,h.cont g t];cases kG s.held g<;>rfl
   refine⟨rfl,rfl,DM.ok_reopen (eN r) K,N,h.n1,h.n2,o,⟨[(iG s.l.ses s.l.num [],[])],[],?_,aEg _,λ_=>aOM _ _,λg t=>?_⟩⟩;·show oL _ _ (((kB d { s.l with at_:=0 } []).reopen K).S.take s.l.n) _;rw[v];exact i
   show C g=pH ((kB d { s.l with at_:=0 } []).reopen K).S s.l.n g;rw[E _ F,h.cont g t]
  left;have F:d.limit = -1∨(rA (li ([]:List UInt8)):Int)<d.limit:=(by have:=r.lim;omega);obtain⟨H,q,N,O,_⟩:=wZ (b:=[]) L I M (by rw[m];omega) F;rw[nG]at q;have F:=p.anew T (b:=[]) (by rw[m];omega) (by rw[m];exact o);have v:=aCJ q F.len;have p:aD d { s.l with at_:=0 } []={ s.l with at_:=rA (li ([]:List UInt8)),num:=(s.l.num+1)%4294967296 }:=(by rw[N];rfl);refine⟨H,⟨q.dead,q.pend,eN r,?_,h.n1,h.n2,?_,⟨[(iG s.l.ses s.l.num [],[])],?_,aEg _,λ_=>?_⟩,h.late,h.br,λg t=>?_⟩,by show(aD d { s.l with at_:=0 } []).n=_;rw[p],λj=>by show(kB d { s.l with at_:=0 } []).limit = -1;rw[O,iA (A j)]⟩;·show(aD d { s.l with at_:=0 } []).n+8*s.n<=(kB d { s.l with at_:=0 } []).S.length;rw[p,B.len,J];exact y
  ·show 1<=(aD d { s.l with at_:=0 } []).n;rw[p];exact o
  ·show kM _ (aD d { s.l with at_:=0 } []).n ((kB d { s.l with at_:=0 } []).S.take (aD d { s.l with at_:=0 } []).n) _ (aD d { s.l with at_:=0 } []);rw[p];show kM _ s.l.n ((kB d { s.l with at_:=0 } []).S.take s.l.n) _ _;rw[v];exact F
  ·show(aD d { s.l with at_:=0 } []).at_<=1;rw[p];exact uQ m
  show C g=pH (kB d { s.l with at_:=0 } []).S (aD d { s.l with at_:=0 } []).n g;rw[p];show C g=pH (kB d { s.l with at_:=0 } []).S s.l.n g;rw[E _ B,h.cont g t]
 right;have e:rC s=((rG s.D (uD s.l.n s.held)).1,s.l,10):=by unfold rC;rw[iA (by rw[x];decide),x]
 rw[e];refine⟨rfl,k,G,rfl,λK=>?_⟩;obtain i|i:=h.torn_home z K;·exact i.mono (by omega)
 exact absurd u (by rw[i];exact id)
theorem fG.congr{b:Nat->List UInt8}(h:fG c s C)(d:∀k,k<s.n->C k=b k):fG c s b:=⟨h.dead,h.pend,h.ok,h.fit,h.n1,h.n2,h.log1,h.recs,h.late,h.br,λk f=>by rw[<- d k f];exact h.cont k f⟩
theorem zL.congr{n log:Nat}{D:DM}{b:Nat->List UInt8}(h:zL c n log D C)(g:∀k,k<n->C k=b k):zL c n log D b:=by obtain⟨d,f,i,j,l,m⟩:=h.recs;exact⟨h.dead,h.pend,h.ok,h.fit,h.n1,h.n2,h.log1,⟨d,f,i,j,l,λk d=>by rw[<- g k d];exact m k d⟩⟩
theorem fG.checked(h:fG c s C)(k:c+1<4294967296): (s.check.2=0/\fG (c+1) s.check.1 C/\s.check.1.held=[]/\s.check.1.late=s.late/\s.check.1.n=s.n/\s.check.1.l.n=s.l.n/\(s.D.limit = -1->s.check.1.D.limit = -1)) ∨(s.check.2=10/\s.check.1.D.dead=true/\s.D.limit≠-1/\∀K,zL (c+1) s.n s.l.n (s.check.1.D.reopen K) C):=by
 have b:¬s.br=true:=by rw[h.br];decide
 unfold PS.check;rw[eA b];by_cases d:s.held=[];·rw[iA d];exact Ii ⟨rfl,h.mono (by omega),d,rfl,rfl,rfl,λh=>h⟩
 rw[eA d];obtain⟨b,f,g,i⟩|⟨b,f,g,i,j⟩:=h.settle k d;·rw[eA (by rw[b];decide)];exact Ii ⟨rfl,f,rfl,rfl,rfl,g,i⟩
 rw[iA (by rw[b];decide)];exact Ij ⟨b,f,g,j⟩
theorem iQ{n:Nat}{d m:PgM}(g:tH n m)(b:m≠[]):rI d m≠[]:=by
 intro e;cases m with
 | nil=>exact b rfl
 | cons f m=>have c:=wY (f::m) d g f.1;rw[e,aDY,aBx,iA rfl]at c;cases c
theorem rT(h:fG c s C)(m:PgM)(b:tH s.n m){k:Nat}(d:k<s.n):(kG (rI s.held m) k).getD (pH s.D.S s.l.n k)=aLK C m k:=by unfold aLK;rw[wY m s.held b,h.cont k d];cases kG m k<;>rfl
theorem fG.committed(h:fG c s C)(M:c+4<4294967296): (s.commit.2=0/\fG (c+3) s.commit.1 (aLK C s.late)/\s.commit.1.late=[]/\s.commit.1.n=s.n/\s.commit.1.l.n=s.l.n/\(s.D.limit = -1->s.commit.1.D.limit = -1)) ∨((s.commit.2=4∨s.commit.2=5)/\fG (c+3) s.commit.1 C/\s.commit.1.late=s.late/\s.commit.1.n=s.n/\s.commit.1.l.n=s.l.n/\(s.D.limit = -1->s.commit.1.D.limit = -1)/\(65535<rA (li (nE s.late))∨s.l.n<rA (li (nE s.late))+1)) ∨(s.commit.2=10/\s.commit.1.D.dead=true/\s.D.limit≠-1/\∀K,zL (c+3) s.n s.l.n (s.commit.1.D.reopen K) C∨zL (c+3) s.n s.l.n (s.commit.1.D.reopen K) (aLK C s.late)):=by
 have b:¬s.br=true:=by rw[h.br];decide
 by_cases k:s.late=[]
 ·have e:s.commit=(s,0):=by unfold PS.commit;rw[eA b,iA k]
  rw[e];exact Ii ⟨rfl,(h.mono (by omega)).congr λx _=>by rw[k];rfl,k,rfl,rfl,λh=>h⟩
 have d:s.commit=if (s.append (nE s.late)).2≠0 then ({ (s.append (nE s.late)).1 with br:=(s.append (nE s.late)).1.br || ((s.append (nE s.late)).2 !=5&&(s.append (nE s.late)).2 !=4) },(s.append (nE s.late)).2)
   else ({ (s.append (nE s.late)).1 with held:=rI (s.append (nE s.late)).1.held s.late,late:=[] },0):=by
  unfold PS.commit;rw[eA b,eA k]
 have I:=h.n2;have b:nL s.n (nE s.late) s.held=some (rI s.held s.late):=aAa (by omega) s.late s.held h.late.mem;obtain⟨f,i,g⟩|⟨f,i,g,m⟩|⟨f,i,g,m⟩|⟨f,i,g,m,F⟩:=h.app (by omega) b (iQ h.late k)
 ·have e:s.append (nE s.late)=(s,4):=by
   unfold PS.append;rw[iA (Ii (by rw[i];decide)),g,i]
  rw[e,iA (by simp)]at d;rw[d];exact Ij (Ii ⟨Ii rfl,⟨h.dead,h.pend,h.ok,h.fit,h.n1,h.n2,h.log1,(h.mono (by omega:c<=c+3)).recs,h.late,by rw[h.br];rfl,h.cont⟩,rfl,rfl,rfl,λh=>h,Ii f⟩)
 ·by_cases b:s.held=[]
  ·have e:s.append (nE s.late)=(s,5):=by
    unfold PS.append;rw[iA (Ij b),m,g]
   rw[e,iA (by simp)]at d;rw[d];obtain⟨G,_,_,z⟩:=h.recs;exact Ij (Ii ⟨Ij rfl,⟨h.dead,h.pend,h.ok,h.fit,h.n1,h.n2,h.log1,(h.mono (by omega:c<=c+3)).recs,h.late,by rw[h.br];rfl,h.cont⟩,rfl,rfl,rfl,λh=>h,Ij (by have:=z b;omega)⟩)
  have e:s.append (nE s.late)=if s.check.2≠0 then s.check else (s.check.1.laid (nE s.late),rD s.check.1.D s.check.1.l (nE s.late)):=by unfold PS.append;rw[eA (by rintro(j|j);exact j g;exact b j),m]
  obtain⟨o,b,A,B,p,t,E⟩|⟨o,b,A,B⟩:=h.checked (by omega)
  ·rw[eA (by rw[o];decide)]at e;generalize s.check.1=q at *;have r:nL q.n (nE s.late) q.held=some (rI q.held s.late):=aAa (by omega) s.late q.held (by rw[p];exact h.late.mem);have y:tH q.n s.late:=(by rw[p];exact h.late);obtain⟨q,_⟩|⟨q,u,r,v⟩|⟨q,u,r,v⟩|⟨q,u,r,v,H⟩:=b.app (by omega) r (iQ y k)
   ·omega
   ·rw[r,v]at e;rw[e,iA (by simp)]at d;rw[d];obtain⟨G,_,_,z⟩:=b.recs;have:=z A;exact Ij (Ii ⟨Ij rfl,⟨b.dead,b.pend,b.ok,b.fit,b.n1,b.n2,b.log1,(b.mono (by omega:c+1<=c+3)).recs,b.late,by rw[b.br];rfl,b.cont⟩,B,p,t,E,Ij (by rw[<- t];omega)⟩)
   ·rw[q]at e;rw[e,eA (by simp)]at d;rw[d];exact Ii ⟨rfl,(u.mono (by omega)).congr λx k=>rT b s.late y k,rfl,p,by rw[<- t];exact v,λj=>r (E j)⟩
   rw[q]at e;rw[e,iA (by simp)]at d;rw[d];refine Ij (Ij ⟨rfl,u,λj=>r (E j),λK=>?_⟩);rw[<- p,<- t];obtain j|j:=H K;·exact Ii (j.mono (by omega))
   exact Ij ((j.mono (by omega)).congr λx k=>rT b s.late y k)
  rw[iA (by rw[o];decide)]at e;rw[e,iA (by rw[o];decide)]at d;rw[d];exact Ij (Ij ⟨o,b,A,λK=>Ii ((B K).mono (by omega))⟩)
 ·have e:s.append (nE s.late)=(s.laid (nE s.late),0):=by
   unfold PS.append;rw[iA (Ii (by rw[f];decide)),f]
  rw[e,eA (by simp)]at d;rw[d];exact Ii ⟨rfl,(i.mono (by omega)).congr λx k=>rT h s.late h.late k,rfl,rfl,m,g⟩
 have e:s.append (nE s.late)=(s.laid (nE s.late),10):=by unfold PS.append;rw[iA (Ii (by rw[f];decide)),f]
 rw[e,iA (by simp)]at d;rw[d];refine Ij (Ij ⟨rfl,i,g,λK=>?_⟩);obtain j|j:=F K;·exact Ii (j.mono (by omega))
 exact Ij ((j.mono (by omega)).congr λx k=>rT h s.late h.late k)
end
end
variable {S:PS}
section
open Go.RowKit Go.ChangeMaps Go.MapKept
open Go.WideElems (Fit rd rg)
def fJ (b:List UInt8):Value:=.agg (gA b).toArray
theorem aEh:∀ {a b:List UInt8},gA a=gA b->a=b
 | [],[],_=>rfl
 | [],_::_,h=>by simp[gA]at h
 | _::_,[],h=>by simp[gA]at h
 | x::a,y::b,h=>by simp only[gA,xJ,List.cons.injEq]at h;obtain⟨c,d⟩:=h;unfold B8 at c;injection c with _ c;rw[show x=y from UInt8.toNat.inj (by omega),aEh d]
theorem aFQ{a b:List UInt8}(h:fJ a=fJ b):a=b:=by unfold fJ at h;injection h with h;exact aEh (List.toArray_inj h)
open Classical in
noncomputable def pgR (v:Value):Option (DataW Unit×List MemPlace):=if h:∃b,v=fJ b/\b.length=512 then some (.lit (.string h.choose),[]) else none
theorem aLL{b:List UInt8}(c:li b=512):pgR (fJ b)=some (.lit (.string b),[]):=by have d:∃b',fJ b=fJ b'/\li b'=512:=⟨b,rfl,c⟩;unfold pgR;rw[dif_pos d,<- aFQ d.choose_spec.1]
theorem aCK{v:Value}{z:DataW Unit×List MemPlace}(h:pgR v=some z):∃b,v=fJ b/\li b=512/\z=(.lit (.string b),[]):=by
 unfold pgR at h;split at h;·rename_i c;cases h;exact⟨_,c.choose_spec.1,c.choose_spec.2,rfl⟩
 cases h
def aEi (p:Nat×List UInt8):Lit×DataW Unit:=(.int .i64 (p.1:Int),.lit (.string p.2))
def toD (m:PgM):DataW Unit:=.map (m.map aEi)
theorem aJk(x:Nat×List UInt8):∀m:PgM,DataW.insert (aEi x) (m.map aEi)=(bV x m).map aEi
 | []=>rfl
 | y::m=>by
  have e:(aEi x).1.before (aEi y).1=decide (x.1<y.1):=by show decide ((x.1:Int)<(y.1:Int))=_;rw[lO,vQ,vQ];omega
  rw[xJ,DataW.insert,e,bV];by_cases b:x.1<y.1;·rw[iA (by simpa using b),iA b];rfl
  rw[eA (by simpa using b),eA b,xJ,aJk x m]
theorem Z53{P:Prop} (h:P:=by
 show decide (IntKind.i64=IntKind.i64/\(p.1:Int)=(k:Int))=_
 rw[lO,vQ,vQ];exact⟨fun h=>by have:=h.2;omega,fun h=>⟨rfl,by omega⟩⟩):P:=h
theorem aLM(p:Nat×List UInt8)(k:Nat):(aEi p).1.sameKey (.int .i64 (k:Int))=decide (p.1=k):=by exact Z53
theorem aTV(m:PgM)(k:Nat)(b:List UInt8):(toD m).put (.int .i64 (k:Int)) (.lit (.string b))=toD (pR m k b):=by unfold toD pR DataW.put;simp only;rw[List.filter_map,show((λp=>!p.1.sameKey (.int .i64 (k:Int))) ∘ aEi)=(λp:Nat×List UInt8=>!decide (p.1=k)) from funext λp=>by rw[Function.comp,aLM]];exact congrArg _ (aJk (k,b) _)
theorem aQF(k:Nat):∀m:PgM,(m.map aEi).find? (λp=>p.1.sameKey (.int .i64 (k:Int)))=(m.find? λp=>decide (p.1=k)).map aEi
 | []=>rfl
 | p::m=>by rw[xJ,List.find?_cons,List.find?_cons,aLM,aQF k m];cases decide (p.1=k)<;>rfl
theorem at_D(m:PgM)(k:Nat)(z:DataW Unit):(toD m).atKey (.int .i64 (k:Int)) z=match kG m k with|some b=>.lit (.string b)|none=>z:=by unfold toD DataW.atKey kG;simp only;rw[aQF];cases m.find? λp=>decide (p.1=k)<;>rfl
theorem has_D(m:PgM)(k:Nat):Maps.has (toD m) (.int .i64 (k:Int))=(kG m k).isSome:=by
 unfold toD;rw[Maps.has_eq,List.any_map,show((λp=>p.1.sameKey (.int .i64 (k:Int))) ∘ aEi)=(λp:Nat×List UInt8=>decide (p.1=k)) from funext λp=>aLM p k];unfold kG;induction m with
 | nil=>rfl
 | cons p m b=>
  rw[List.any_cons,List.find?_cons];cases h:decide (p.1=k);·simpa using b
  simp
theorem aHL(m:PgM):Maps.size (toD m)=li m:=by unfold toD;rw[Go.Maps.size_eq,cH]
theorem aQG(m:PgM):intKeys (toD m)=m.map λb=>(b.1:Int):=by unfold toD intKeys;simp only[List.map_map];rfl
theorem aNm:∀(s d:PgM),Lib.mergeD (toD d) (toD s)=toD (rI d s)
 | [],_=>rfl
 | p::s,d=>by have b:=aNm s (pR d p.1 p.2);unfold Lib.mergeD toD at b⊢;simp only[xJ,List.foldl_cons]at b⊢;rw[show rI d (p::s)=rI (pR d p.1 p.2) s from rfl,<- b];congr 1;exact aTV d p.1 p.2
noncomputable def mF (w:World) (b:Nat) (m:PgM):Prop:=w.ownsMap prog 3 pgR b m.length (toD m)
section
variable {w w':World}{b:Nat}{m:PgM}
theorem mF.of{n:Nat}(h:w.ownsMap prog 3 pgR b n (toD m)):mF w b m:=by obtain⟨d,f,g,i,_,c⟩:=h;refine⟨d,f,g,i,?_,c⟩;have:=congrArg Maps.size c;rw[aHL,Go.Maps.size_eq,length_read]at this;omega
theorem mF.lt(h:mF w b m):b<w:=World.ownsMap.lt h
theorem mF.fr{S:List Nat}(h:mF w b m)(i:Fr S w w')(j:b∉S:=by simp):mF w' b m:=by have c:=h.lt;obtain⟨d,f,g,k⟩:=h;exact⟨d,f,by rw[i.block b c j];exact g,k⟩
theorem mF.ne_blk(h:mF w b m){g:Nat}{t:TypeId}{cs:List Value}(c:Blk w g t cs):b≠g:=by rintro rfl;obtain⟨f,i,d,_⟩:=h;unfold Blk at c;rw[d]at c;injection c with c;cases c
theorem mF.new(w:World):mF (w.alloc (.map #[] 0)) w []:=World.ownsMap_made w prog 3 pgR
def jE:List UInt8:=List.replicate 512 0
theorem aM:li jE=512:=kV
theorem aCg:Maps.Keyed prog 3:=Maps.int_keyed sP
theorem tT{k:Nat}(c:k<=9223372036854775807):keyOf prog 3 (.int .i64 (k:Int))=some (.int .i64 (k:Int)):=Maps.keyOf_int_mk sP (by have h:=wrap64_wf (k:Int);rwa [show wrap64 (k:Int)=(k:Int) by unfold wrap64;omega]at h)
theorem aNn{m:PgM}{k:Nat}{c:List UInt8}{ps:List MemPlace}(h:some ((toD m).atKey (.int .i64 (k:Int)) (.lit (.string jE)),ps)=some (DataW.lit (.string c),[])):c=(kG m k).getD jE:=by
 rw[at_D]at h;injection h with h;injection h with h _;cases d:kG m k with
 | none=>rw[d]at h;injection h with h;injection h with h;rw[Option.getD_none];exact h.symm
 | some x=>rw[d]at h;injection h with h;injection h with h;rw[fV];exact h.symm
theorem aFR(w:World):(zeroValue 127).run prog w=.ok (fJ jE) w:=by kernel_rfl
theorem mF.look_ok(h:mF w b m){k:Nat}(d:k<=9223372036854775807):(Instr.lookup 83 (.map (some b)) (.int .i64 (k:Int)) true).run prog w=.ok (.tuple #[fJ ((kG m k).getD jE),.bool (kG m k).isSome]) w:=by
 obtain⟨g,i,c,f⟩:=World.ownsMap.look_ok h aCg lV (aFR w) (aLL aM) (tT d);rw[c,has_D];obtain⟨j,rfl,_,c⟩:=aCK f;rw[aNn (congrArg some c)]
theorem mF.look(h:mF w b m){k:Nat}(d:k<=9223372036854775807):(Instr.lookup 83 (.map (some b)) (.int .i64 (k:Int)) false).run prog w=.ok (fJ ((kG m k).getD jE)) w:=by
 obtain⟨g,i,c,f⟩:=World.ownsMap.lookup h aCg lV (aFR w) (aLL aM) (tT d);rw[c];obtain⟨j,rfl,_,c⟩:=aCK f;rw[aNn (congrArg some c)]
theorem mF.store(h:mF w b m){k:Nat}(i:k<=9223372036854775807)(j:m.length<9223372036854775807){x:List UInt8}(g:x.length=512):
  ∃w',(Instr.mapUpdate 83 (.map (some b)) (ii ip (k:Int)) (fJ x)).run prog w=.ok () w'/\mF w' b (pR m k x)/\Fr [b] w w'/\w'.heap.size=w:=by
 obtain⟨w',f,c,d⟩:=World.ownsMap.store h aCg lV (by unfold maxLen;exact j) (tT i) (aLL g);rw[aTV]at c;refine⟨w',f,mF.of c,(jj [b] w).grown d.grown (λc f=>by cases f;exact .inl (by simp)),?_⟩;obtain⟨f,g,c,c,_,rfl⟩:=d
 simp[setBlock]
theorem mF.len(h:mF w b m)(ty:TypeId):(Builtin.len_ #[83] ty #[.map (some b)]).run prog w=.ok (ii ip (li m:Int)) w:=by rw[World.ownsMap.len h lV ty,aHL]
theorem mF.clear(h:mF w b m)(ty:TypeId):∃w',(Builtin.clear_ #[83] ty #[.map (some b)]).run prog w=.ok (tl #[]) w'/\mF w' b []/\Fr [b] w w'/\w'.heap.size=w:=by
 obtain⟨f,d,c,_⟩:=h;refine⟨setBlock w b (.map #[] d),?_,⟨#[],d,heap_setBlock_same c _,⟨by simp,stamped_empty d,by simp⟩,tA _,rfl⟩,?_,by simp[setBlock]⟩;·simp[Builtin.clear_,run_underlying lV,MapKept.run_getObj_map c,MapKept.run_setObj_map _ c,Result.andThen,setBlock]
 exact(jj [b] w).grown (row:=some b) ⟨rfl,rfl,rfl,by simp[setBlock],λg _ d=>heap_setBlock_other c _ (λe=>d (by rw[e]))⟩ (λf c=>by cases c;exact Ii (by simp))
end
end
end Go.Proofs.YtebjhcjbfaaejaaGreatDoor
section
namespace Go.Proofs
open Go.Shelf
def Tryz.keysA_ren:Go.Shelf.Ren:=⟨fun|7=>66|10=>89|n=>n,fun|23=>83|26=>3|3=>127|28=>130|0=>0|27=>129|33=>112|4=>4|n=>n,fun|n=>n⟩
theorem Tryz.keysA:Go.Proofs.SlLaysZI.n7 Tryz.prog Tryz.keysA_ren:={
 mixed:=by kernel_rfl
 f7:=⟨Tryz.f66.name,by decide,Tryz.func66.trans (congrArg some (by kernel_rfl))⟩
 f10:=⟨Tryz.f89.name,by decide,Tryz.func89.trans (congrArg some (by kernel_rfl))⟩
 t0:=Go.Proofs.Tryz.underlying0
 a0:=Tryz.isAgg0
 z0:=Go.Proofs.Tryz.sizeOf0
 v0:=Go.Proofs.Tryz.zeroValue0
 t4:=Go.Proofs.Tryz.underlying4
 a4:=Tryz.isAgg4
 z4:=Go.Proofs.Tryz.sizeOf4
 v4:=Go.Proofs.Tryz.zeroValue4
 t23:=Go.Proofs.Tryz.underlying83
 a23:=Tryz.isAgg83
 z23:=Tryz.sizeOf83
 v23:=Tryz.zeroValue83
 t26:=Go.Proofs.Tryz.underlying3
 a26:=Go.Proofs.Tryz.isAgg3
 z26:=Go.Proofs.Tryz.sizeOf3
 v26:=Go.Proofs.Tryz.zeroValue3
 t27:=Tryz.underlying129
 a27:=Tryz.isAgg129
 z27:=Tryz.sizeOf129
 v27:=Tryz.zeroValue129
 t28:=Go.Proofs.Tryz.underlying130
 a28:=Tryz.isAgg130
 z28:=Tryz.sizeOf130
 v28:=Go.Proofs.Tryz.zeroValue130
 t33:=Go.Proofs.Tryz.underlying112
 a33:=Tryz.isAgg112
 z33:=Tryz.sizeOf112
 v33:=Go.Proofs.Tryz.zeroValue112 }
def Tryz.sortedA_ren:Go.Shelf.Ren:=⟨fun|6=>65|8=>87|9=>88|11=>125|13=>127|12=>126|23=>169|24=>170|14=>160|15=>161|16=>162|17=>163|18=>164|19=>165|20=>166|21=>167|22=>168|25=>191|26=>192|27=>193|28=>194|29=>195|30=>196|31=>216|n=>n,fun|26=>3|28=>130|24=>55|0=>0|3=>3|37=>170|48=>156|50=>254|4=>4|40=>247|39=>246|45=>193|5=>5|9=>9|51=>269|55=>273|57=>294|58=>295|33=>112|n=>n,fun|n=>n⟩
theorem Tryz.sortedA:Go.Proofs.SlLaysZI.n6 Tryz.prog Tryz.sortedA_ren:={
 mixed:=by kernel_rfl
 f6:=⟨Tryz.f65.name,by decide,Tryz.func65.trans (congrArg some (by kernel_rfl))⟩
 f8:=⟨Tryz.f87.name,by decide,Tryz.func87.trans (congrArg some (by kernel_rfl))⟩
 f11:=⟨Tryz.f125.name,by decide,Tryz.func125.trans (congrArg some (by kernel_rfl))⟩
 t0:=Go.Proofs.Tryz.underlying0
 a0:=Tryz.isAgg0
 z0:=Go.Proofs.Tryz.sizeOf0
 v0:=Go.Proofs.Tryz.zeroValue0
 t24:=Go.Proofs.Tryz.underlying55
 a24:=Tryz.isAgg55
 z24:=Tryz.sizeOf55
 v24:=Tryz.zeroValue55
 t26:=Go.Proofs.Tryz.underlying3
 a26:=Go.Proofs.Tryz.isAgg3
 z26:=Go.Proofs.Tryz.sizeOf3
 v26:=Go.Proofs.Tryz.zeroValue3
 t28:=Go.Proofs.Tryz.underlying130
 a28:=Tryz.isAgg130
 z28:=Tryz.sizeOf130
 v28:=Go.Proofs.Tryz.zeroValue130
 i26:=by kernel_rfl }
def Tryz.sortA_ren:Go.Shelf.Ren:=⟨fun|5=>88|8=>127|7=>126|19=>169|20=>170|10=>160|11=>161|12=>162|13=>163|14=>164|15=>165|16=>166|17=>167|18=>168|30=>191|31=>192|32=>193|33=>194|34=>195|35=>196|40=>216|n=>n,fun|23=>55|25=>3|3=>3|32=>170|22=>55|0=>0|44=>156|46=>254|4=>4|36=>247|35=>246|41=>193|5=>5|9=>9|53=>269|57=>273|63=>294|64=>295|n=>n,fun|n=>n⟩
theorem Tryz.sortA:Go.Proofs.SlLaysM.n5 Tryz.prog Tryz.sortA_ren:={
 mixed:=by kernel_rfl
 f5:=⟨Tryz.f88.name,by decide,Tryz.func88.trans (congrArg some (by kernel_rfl))⟩
 f7:=⟨Tryz.f126.name,by decide,Tryz.func126.trans (congrArg some (by kernel_rfl))⟩
 f8:=Tryz.func127.trans (congrArg some (by kernel_rfl))
 f10:=⟨Tryz.f160.name,by decide,Tryz.func160.trans (congrArg some (by kernel_rfl))⟩
 f11:=⟨Tryz.f161.name,by decide,Tryz.func161.trans (congrArg some (by kernel_rfl))⟩
 f12:=⟨Tryz.f162.name,by decide,Tryz.func162.trans (congrArg some (by kernel_rfl))⟩
 f13:=⟨Tryz.f163.name,by decide,Tryz.func163.trans (congrArg some (by kernel_rfl))⟩
 f14:=⟨Tryz.f164.name,by decide,Tryz.func164.trans (congrArg some (by kernel_rfl))⟩
 f15:=⟨Tryz.f165.name,by decide,Tryz.func165.trans (congrArg some (by kernel_rfl))⟩
 f16:=⟨Tryz.f166.name,by decide,Tryz.func166.trans (congrArg some (by kernel_rfl))⟩
 f17:=⟨Tryz.f167.name,by decide,Tryz.func167.trans (congrArg some (by kernel_rfl))⟩
 f18:=⟨Tryz.f168.name,by decide,Tryz.func168.trans (congrArg some (by kernel_rfl))⟩
 f19:=Tryz.func169.trans (congrArg some (by kernel_rfl))
 f20:=Tryz.func170.trans (congrArg some (by kernel_rfl))
 f30:=⟨Tryz.f191.name,by decide,Tryz.func191.trans (congrArg some (by kernel_rfl))⟩
 f31:=Tryz.func192.trans (congrArg some (by kernel_rfl))
 f32:=Tryz.func193.trans (congrArg some (by kernel_rfl))
 f33:=⟨Tryz.f194.name,by decide,Tryz.func194.trans (congrArg some (by kernel_rfl))⟩
 f34:=⟨Tryz.f195.name,by decide,Tryz.func195.trans (congrArg some (by kernel_rfl))⟩
 f35:=⟨Tryz.f196.name,by decide,Tryz.func196.trans (congrArg some (by kernel_rfl))⟩
 f40:=⟨Tryz.f216.name,by decide,Tryz.func216.trans (congrArg some (by kernel_rfl))⟩
 t0:=Go.Proofs.Tryz.underlying0
 a0:=Tryz.isAgg0
 z0:=Go.Proofs.Tryz.sizeOf0
 v0:=Go.Proofs.Tryz.zeroValue0
 t3:=Go.Proofs.Tryz.underlying3
 a3:=Go.Proofs.Tryz.isAgg3
 z3:=Go.Proofs.Tryz.sizeOf3
 v3:=Go.Proofs.Tryz.zeroValue3
 t4:=Go.Proofs.Tryz.underlying4
 a4:=Tryz.isAgg4
 z4:=Go.Proofs.Tryz.sizeOf4
 v4:=Go.Proofs.Tryz.zeroValue4
 t5:=Go.Proofs.Tryz.underlying5
 a5:=Tryz.isAgg5
 z5:=Tryz.sizeOf5
 v5:=Tryz.zeroValue5
 t9:=Go.Proofs.Tryz.underlying9
 a9:=Tryz.isAgg9
 z9:=Tryz.sizeOf9
 v9:=Tryz.zeroValue9
 t22:=Go.Proofs.Tryz.underlying55
 a22:=Tryz.isAgg55
 z22:=Tryz.sizeOf55
 v22:=Tryz.zeroValue55
 t23:=Go.Proofs.Tryz.underlying55
 a23:=Tryz.isAgg55
 z23:=Tryz.sizeOf55
 v23:=Tryz.zeroValue55
 t25:=Go.Proofs.Tryz.underlying3
 a25:=Go.Proofs.Tryz.isAgg3
 z25:=Go.Proofs.Tryz.sizeOf3
 v25:=Go.Proofs.Tryz.zeroValue3
 t32:=Tryz.underlying170
 a32:=Tryz.isAgg170
 z32:=Tryz.sizeOf170
 v32:=Tryz.zeroValue170
 t35:=Tryz.underlying246
 a35:=Tryz.isAgg246
 z35:=Tryz.sizeOf246
 v35:=Tryz.zeroValue246
 t36:=Tryz.underlying247
 a36:=Tryz.isAgg247
 z36:=Tryz.sizeOf247
 v36:=Tryz.zeroValue247
 t41:=Tryz.underlying193
 a41:=Tryz.isAgg193
 z41:=Tryz.sizeOf193
 v41:=Tryz.zeroValue193
 t44:=Tryz.underlying156
 a44:=Tryz.isAgg156
 z44:=Tryz.sizeOf156
 v44:=Tryz.zeroValue156
 t46:=Tryz.underlying254
 a46:=Tryz.isAgg254
 z46:=Tryz.sizeOf254
 v46:=Tryz.zeroValue254
 t53:=Tryz.underlying269
 a53:=Tryz.isAgg269
 z53:=Tryz.sizeOf269
 v53:=Tryz.zeroValue269
 t57:=Tryz.underlying273
 a57:=Tryz.isAgg273
 z57:=Tryz.sizeOf273
 v57:=Tryz.zeroValue273
 t63:=Tryz.underlying294
 a63:=Tryz.isAgg294
 z63:=Tryz.sizeOf294
 v63:=Tryz.zeroValue294
 t64:=Tryz.underlying295
 a64:=Tryz.isAgg295
 z64:=Tryz.sizeOf295
 v64:=Tryz.zeroValue295 }
end Go.Proofs
end
namespace Go.Proofs.YtebjhcjbfaaejaaGreatDoor
open Go.Proofs.Tryz
variable {i m r:Nat}{W:World}{L:List Nat}{F:List Value}{H:List (List UInt8)}{O:PgM}{S:PS}
section
open Go.RowKit Go.Maps Go.Sort Go.Shelf
theorem aLN(m:Nat):AnyZI.SortsIn prog Tryz.sortedA_ren Fence.wide m:=⟨λd f b g c h i j=>uN.2 (AnyM.slices_Sort_int Tryz.sortA d f b g c h i j),λd b c=>uN.2 (AnyM.slices_Sort_int_none Tryz.sortA d b c)⟩
theorem aJl(b:Nat)(w:World):Calls prog 66 #[.map (some b)] w λe c=>e=iz (.func (.func 89) #[] #[pi w])/\c=w.alloc (iy #[.map (some b)] 83):=(uN (n:=5)).1 (AnyZI.keys_in Tryz.keysA Fence.wide 5 trivial rfl (some b) w)
def kcells (m:PgM):List Value:=m.map fun p=>.int .i64 (p.1:Int)
theorem aON{n:Nat}{m:PgM}(d:tH n m){c:List Int}(h:c.Perm (intKeys (toD m))):(c.mergeSort λb f=>decide (b<=f)).map encZ=kcells m:=by
 rw[mergeSort_of_perm_i h,aQG];have e:(m.map λb=>(b.1:Int)).mergeSort leI=m.map λb=>(b.1:Int):=by refine List.mergeSort_of_pairwise ?_;rw[List.pairwise_map];exact d.rise.imp λ{a b} f=>by simp only[leI,uG];omega
 rw[e];simp[kcells,encZ]
theorem aEj{b n:Nat}{m:PgM}{w:World}(h:mF w b m)(q:tH n m)(x:n<=65536)(w1:World)(k:w1=w.alloc (iy #[.map (some b)] 83)): Calls prog 65 #[.func (.func 89) #[] #[pi (some w)]] w1 λe c=>∃v,e=iz v/\c.ownsRow w1.heap.size 3 1 v (li m) (kcells m)/\Fr [] w1 c:=by
 subst k;have l:=q.few;have o:=h.lt;have g:Maps.size (toD m)=li m:=aHL m;have i:SeqGives Fence.wide 2 prog 89 #[pi w] encZ (λd=>d.Perm (intKeys (toD m))) (Maps.size (toD m)) (w.alloc (iy #[.map (some b)] 83)):=AnyZI.keys_gives (R:=pgR) (nn:=li m) (ρ:=Tryz.keysA_ren) { Tryz.keysA with } Fence.wide _ trivial rfl (by omega) w.heap.size b (toD m) _ (by simp) (by simp) (h.fr ((jj [] w).alloc _));have j:=AnyZI.sorted_in Tryz.sortedA Fence.wide 5 trivial trivial trivial trivial rfl (by omega) (aLN _) (enters_of func88 (by kernel_rfl) rfl) 89 #[pi w] trivial (enters_of func89 (by kernel_rfl) rfl) _ _ (by rw[g];unfold maxLen;omega) (by rw[g];omega) _ i;have g:=(uN (n:=5)).1 j;refine Calls.mono (P:=prog) (f:=65) g ?_;rintro e c ⟨v,d,rfl,c,g,_,j⟩;have i:li d=li m:=by have:=c.length_eq;rw[aQG,cH]at this;exact this
 rw[aON q c,i]at g;exact⟨v,rfl,g,Fr.of_below j []⟩
end
section
open Go.RowKit
theorem cA{P:Program}{f:FuncId}{args:Array Value}{w:World}{b:Ending->World->Prop}(h:∀R:Ending->World->Prop,Hid (∀e w',b e w'->R e w')->Calls P f args w R):Calls P f args w b:=h b (lh λ_ _ h=>h)
theorem Z16{P:Prop} (h:P:=by
 have hl:=Go.run_loadVar_row (P:=P) w g t' t cs.toArray (0,0) d hb hu (by cases d <;> simp_all) (by simpa using hi);have ha':tmps[k]?.getD undef=.pointer (some ⟨g,0,none⟩):=by simpa using ha
 simp[results,hr,ha',hl,asAddr]):P:=h
theorem cI{P:Program}{b:Func}{R:Ending->World->Prop}{tmps:Array Value}{w:World}{k:Tmp}{t t':TypeId}{g:Nat}{cs:List Value}{d:TypeDesc}(hr:b.results=#[.cell k t])(ha:tmps.getD k undef=pi g)(hb:Blk w g t' cs) (hu:P.underlying t=some d)(c:d.isRow=true)(hi:(P.info? t).map (·.size)=some (li cs))(h:R (iz (il cs.toArray)) w):bodyPost P b R .ret ⟨tmps,[]⟩ w:=by refine qD (v:=il cs.toArray) ?_ rfl h;exact Z16
def kH (w:World) (v:Value) (n:Nat) (xs:List Value) (g:Nat):Prop:=
 ∃A c off,v=.slice A n c/\n<=c/\(0<n->A=some ⟨g,off,none⟩/\∀(j:Nat) (u:Value),xs[j]? = some u->w.cell? ⟨g,off+j,none⟩=some u)
theorem kH.fr{S:List Nat}{w w':World}{v:Value}{n:Nat}{g:Nat}(h:kH w v n F g)(k:Fr S w w')(m:0<n->g∉S:=by simp):kH w' v n F g:=by obtain⟨b,c,f,i,j,d⟩:=h;refine⟨b,c,f,i,j,λb=>⟨(d b).1,λf i j=>?_⟩⟩;have c:=(d b).2 f i j;rw[k.cell (xF w _ c) (m b)];exact c
theorem kH.nil(w:World)(b:List Value)(g:Nat):kH w (si none 0 0) 0 b g:=⟨none,0,0,rfl,tA _,λc=>by simp at c⟩
theorem kH.of_own{w:World}{e:TypeId}{c n b:Nat}{v:Value}(h:w.ownsRow b e c v n F)(g0:Nat):∃g,kH w v n F g/\(0<n->v.ownBlock=some g)/\(n=0->g=g0):=by
 obtain⟨i,d,rfl,f,_⟩:=jA h;by_cases c:0<n;·obtain⟨g,rfl,j⟩:=tD h c;exact⟨g,⟨_,d,0,rfl,f,λ_=>⟨rfl,λk l m=>by rw[nB];exact j k l m⟩⟩,λ_=>rfl,λj=>by omega⟩
 exact⟨g0,⟨i,d,0,rfl,f,λh=>absurd h c⟩,λh=>absurd h c,λ_=>rfl⟩
theorem kH.of_blk{w:World}{g:Nat}{t:TypeId}(h:Blk w g t F)(n c:Nat)(b:n<=c):kH w (si g n c) n F g:=⟨_,c,0,rfl,b,λ_=>⟨rfl,λf i d=>by rw[nB];exact h.at_ d⟩⟩
def uK (d lg bl bh:Nat) (s:PS):List Value:=[.pointer (some ⟨d,0,none⟩),.pointer (some ⟨lg,0,none⟩),.int .i64 (s.n:Int),.int .i64 (s.l.n:Int),.map (some bl),.map (some bh),.bool s.br]
structure qF (w:World) (g d lg bl bh:Nat) (s:PS) (fp:List Nat):Prop where
 blk:Blk w g 85 (uK d lg bl bh s)
 jn:Jn w lg d s.l s.D fp
 late:mF w bl s.late
 held:mF w bh s.held
 ne:bl≠bh
 gout:g∉fp
 lout:bl∉fp
 hout:bh∉fp
 lok:tH s.n s.late
 hok:tH s.n s.held
 few:s.n<=4096
def pfp (g lg bl bh:Nat) (fp:List Nat):List Nat:=g::lg::bl::bh::fp
def wD (w w':World) (g d lg bl bh:Nat) (s:PS) (fp:List Nat):Prop:=∃fp',qF w' g d lg bl bh s fp'/\Fr (pfp g lg bl bh fp) w w'/\∀k∈fp',k∈fp∨w.heap.size<=k
section
variable {w w':World}{g d lg bl bh:Nat}{s:PS}{fp:List Nat}
theorem qF.ne1(h:qF w g d lg bl bh s fp):g≠lg:=h.blk.ne_ h.jn.log (by decide)
theorem qF.ne2(h:qF w g d lg bl bh s fp):bl≠g/\bh≠g/\bl≠lg/\bh≠lg:=⟨h.late.ne_blk h.blk,h.held.ne_blk h.blk,h.late.ne_blk h.jn.log,h.held.ne_blk h.jn.log⟩
theorem qF.fr{S:List Nat}(h:qF w g d lg bl bh s fp)(c:Fr S w w')(b:∀k∈pfp g lg bl bh fp,k∉S:=by simp):qF w' g d lg bl bh s fp:=by have f:=b g (by simp[pfp]);have i:=b lg (by simp[pfp]);have j:=b bl (by simp[pfp]);have l:=b bh (by simp[pfp]);exact⟨h.blk.fr c f,h.jn.fr c i (λk f=>b k (by simp[pfp,f])),h.late.fr c j,h.held.fr c l,h.ne,h.gout,h.lout,h.hout,h.lok,h.hok,h.few⟩
theorem qF.lt(h:qF w g d lg bl bh s fp):∀k∈pfp g lg bl bh fp,k<w:=by
 intro k b;simp only[pfp,bB]at b;obtain rfl|rfl|rfl|rfl|b:=b;·exact h.blk.lt
 ·exact h.jn.log.lt
 ·exact h.late.lt
 ·exact h.held.lt
 exact h.jn.disk.lt k b
theorem wD.same(h:qF w g d lg bl bh s fp):wD w w g d lg bl bh s fp:=⟨fp,h,jj _ _,λ_ b=>Ii b⟩
theorem wD.comp{w1:World}(i:Fr (pfp g lg bl bh fp) w w1)(j:∀k∈L,k∈fp∨w<=k)(h2:wD w1 W g d lg bl bh S L):wD w W g d lg bl bh S fp:=by
 obtain⟨b,c,f,h⟩:=h2;have m:=i.size;refine⟨b,c,i.trans f (λf c=>?_),λk l=>?_⟩
 ·simp only[pfp,bB]at c⊢;obtain rfl|rfl|rfl|rfl|c:=c
  ·simp
  ·simp
  ·simp
  ·simp
  obtain b|b:=j f c;·simp[b]
  exact Ij b
 obtain b|b:=h k l;·exact j k b
 exact Ij (by omega)
theorem qF.late_{m:PgM}(h:qF w g d lg bl bh s fp)(c:mF w' bl m)(b:Fr [bl] w w')(i:tH s.n m):qF w' g d lg bl bh { s with late:=m } fp:=by have f:=h.ne2;exact⟨h.blk.fr b (by simp only[xA];exact λe=>f.1 e.symm),h.jn.fr b (by simp only[xA];exact λe=>f.2.2.1 e.symm) (λj f=>by simp only[xA];exact λe=>h.lout (e▸f)),c,h.held.fr b (by simp only[xA];exact λe=>h.ne e.symm),h.ne,h.gout,h.lout,h.hout,i,h.hok,h.few⟩
theorem qF.held_{m:PgM}(h:qF w g d lg bl bh s fp)(c:mF w' bh m)(b:Fr [bh] w w')(i:tH s.n m):qF w' g d lg bl bh { s with held:=m } fp:=by have f:=h.ne2;exact⟨h.blk.fr b (by simp only[xA];exact λe=>f.2.1 e.symm),h.jn.fr b (by simp only[xA];exact λe=>f.2.2.2 e.symm) (λj f=>by simp only[xA];exact λe=>h.hout (e▸f)),h.late.fr b (by simp only[xA];exact h.ne),c,h.ne,h.gout,h.lout,h.hout,h.lok,i,h.few⟩
theorem aHM(h:qF w g d lg bl bh s fp):Calls prog 36 #[pi g] w λe b=>e=iz (ij s.br)/\w=b:=by refine cA λi b=>?_;have c:=h.blk.a 0;have f:=h.blk.a 6;go_enter func36,ntmps36;go_wp2_with fail;exact b.o _ _ ⟨rfl,rfl⟩
theorem aSW(h:qF w g d lg bl bh s fp):Calls prog 96 #[pi g] w λe b=>e=iz (ii ip (s.n:Int))/\w=b:=by refine cA λf b=>?_;have c:=h.blk.a 2;go_enter func96,ntmps96;go_wp2_with fail;exact b.o _ _ ⟨rfl,rfl⟩
theorem aLO(h:qF w g d lg bl bh s fp):Calls prog 33 #[pi g] w λe b=>e=iz (tl #[])/\wD w b g d lg bl bh { s with late:=[] } fp:=by refine cA λn k=>?_;have l:=h.blk.a 4;obtain⟨b,i,j,c,m⟩:=h.late.clear 0;have f:Hid (wD w b g d lg bl bh { s with late:=[] } fp):=lh ⟨fp,h.late_ j c (tH.nil _),c.mono (λp c=>Ii (by simp only[xA]at c;simp[pfp,c])),λ_ c=>Ii c⟩;have j:∀c,(Builtin.clear_ #[83] c #[.map (some bl)]).run prog w=.ok (tl #[]) b:=λc=>i;go_enter func33,ntmps33;go_wp2_with fail;go_end0;exact k.o _ _ ⟨rfl,f.o⟩
end
open Go.RowKit
def gI (b:List UInt8):List UInt8:=b++List.replicate (512-b.length) 0
theorem fN{b:List UInt8}(h:li b<=512):li (gI b)=512:=by unfold gI;rw[iB,kV];omega
theorem aAd:(prog.info? 127).map (·.zero)=some (some (fJ jE)):=by kernel_rfl
theorem uT:(prog.info? 127).map (·.size)=some 512:=by kernel_rfl
theorem aJm(b:List UInt8):splice (gA jE) 0 (gA b)=gA (gI b):=by
 have e:(gA jE).drop (li b)=gA (ji (512-li b) 0):=by rw[jE,<- dK,aKX]
 unfold splice gI;rw[fD,nA,yI,nG,nB,e]
def PS.write (s:PS) (k:Nat) (b:List UInt8):PS:={ s with late:=pR s.late k (gI b) }
theorem aSX{w:World}{g d lg:Nat}{s:PS}(h:qF w g d lg i m s L)(a4:s.br=false)(k:Nat)(hk:k<s.n)(v:Value)(b:List UInt8)(N:Nat)(hv:dA w v b N)(hb:li b<=512): Calls prog 150 #[pi (some g),k,v] w λe w'=>e=iz (ii ip 0)/\wD w w' g d lg i m (s.write k b) L:=by
 refine cA λR HQ=>?_;obtain⟨A,c,off,rfl,hc,Z⟩:=hv;have c2:=h.blk.a 2;have hn:=h.few;have O:=lh h;have HB:=lh Z;have u:=aHM h;rw[a4]at u;have P:=lh u;go_enter func150,ntmps150;go_wp2_with fail;refine P.o.mono ?_;rintro e w' ⟨rfl,rfl⟩;have y:∀o,dA (w.alloc o) (si A (li b) c) b N:=λo=>by
  by_cases h0:0<li b;·have hB:dA w (si A (li b) c) b N:=⟨A,c,off,rfl,hc,HB.o⟩;exact hB.fr ((jj [] w).alloc o)
  exact⟨A,c,off,rfl,hc,λh=>absurd h h0⟩
 have HS:=lh y;go_wp2_with (first
  | (with_reducible refine qA rfl 127 rfl (fJ jE) (gA jE).toArray aAd rfl ?_)
  | (with_reducible refine iI rfl (.tmp 27) (.tmp 28) 67 67 rfl 5 Go.Proofs.Tryz.underlying67 iM _ _ _ _ _ _ rfl rfl w.heap.size 0 (gA jE) 127 (jl w 127 _) (gA b) ?cn ?cp ?cf (mD _) ?_))
 case cn=>rw[nA];exact(gO hb).symm
 case cp=>intro h0;obtain⟨A',c',H,a0,_,a1⟩:=HS.o (iy (gA jE).toArray 127);injection a0 with hA _ _;obtain⟨a2,r⟩:=a1 (by rw[nA]at h0;exact h0);refine⟨⟨N,H,none⟩,by rw[hA,a2],λj v hj=>?_⟩;rw[Go.Addr.add_mid];exact r j v hj
 case cf=>rw[nA,nA,aM];omega
 intro M p a3 a6;rw[aJm b]at p;have z:Fr [] w M:=((jj [] w).alloc (iy (gA jE).toArray 127)).trans a3;have B:=O.o.fr z;have c4:=B.blk.a 4;have a5:=p.free;obtain⟨pg,t⟩:=nm (gI b);have C:li pg=512:=by rw[t];exact fN hb
 rw[<- t]at p;have Q:li s.late<9223372036854775807:=by have:=O.o.lok.few;omega
 have S:=λw' (h:mF w' i s.late)=>h.store (k:=k) (by omega) Q C;have U:=lh t;have E:=lh p;have V:=lh z;have F:=lh B;have X:=lh C;have Y:=lh S;have hq:=p.lt;generalize w.heap.size=q at *;go_wp2_with fail;refine aj (λW=>W.cell? ⟨g,4,none⟩=some (.map (some i))/\Blk W q 127 (gA pg)) [0,1,2,3,4,5] ?_;refine tks [0,1,2,3,4] ?_;iterate 5 (refine ac ⟨c4,E.o⟩ ?_)
 refine tke ?_;refine tv 5 (il (gA pg).toArray) rfl rfl ⟨c4,E.o⟩ (yieldsIf_load_mid rfl 127 (.tmp 7) rfl q 0 rfl (gA pg) _ (λW hW j v hj=>by rw[nB];exact hW.2.at_ hj) Tryz.underlying127 rfl (by rw[nA,X.o];exact uT)) ?_;simp only[nrm];refine ah 6 λK hK=>?_;have G:Fr [] M M.drew:=(jj [] M).drew;obtain⟨w9,hr,I,J,_⟩:=Y.o M.drew (F.o.late.fr G);unfold fJ at hr;refine rB (w':=w9) (by simp[execOp,Act.eval,hr,Result.andThen]) (hK _ _ (λh=>absurd h (by decide +kernel)) ?_);simp only[Act.put];refine wd ?_ _;rw[U.o]at I;have HX:Hid (wD w w9 g d lg i m (s.write k b) L):=lh ⟨L,(F.o.fr G).late_ I J (O.o.lok.put hk (fN hb)),((V.o.drew).mono (T:=pfp g lg i m L) (by simp)).trans J (λx hx=>Ii (by simp only[xA]at hx;subst hx;simp[pfp])),λ_ hk=>Ii hk⟩;go_wp2_with fail;exact HQ.o _ _ ⟨rfl,HX.o⟩
theorem aBB(a b:Int)(w:World):(Instr.buildSlice 67 2 #[(0,ii ix a),(1,ii ix b)]).run prog w=.ok (si w 2 2) (w.alloc (iy #[ii ix a,ii ix b] 5)):=by kernel_rfl
def aBC (w:World) (v:Value) (m:PgM) (b0:Nat):Prop:=∃A c,v=.slice A m.length c/\m.length<=c/\(0<m.length->∃g,A=some ⟨g,0,none⟩/\b0<=g/\g<w.heap.size/\∀(j:Nat) (u:Value),(kcells m)[j]? = some u->w.cell? ⟨g,j,none⟩=some u)
theorem aBC.of{w:World}{v:Value}{m:PgM}{b:Nat}(h:w.ownsRow b 3 1 v (li m) (kcells m)):aBC w v m b:=by
 obtain⟨c,d,rfl,f,_⟩:=jA h;refine⟨c,d,rfl,f,λf=>?_⟩;obtain⟨c,rfl,d⟩:=tD h f;refine⟨c,rfl,?_,aG h c rfl,d⟩;obtain⟨_,f⟩|⟨g,i,j,c,d,_⟩:=h.2;·omega
 injection c with c _ _;injection c with c;injection c with c _ _;rw[c];exact d
def aUs (w:World) (m:PgM) (e:Ending) (w':World):Prop:=∃v gb,e=.returned v/\dA w' v (nE m) gb/\w.heap.size<=gb/\Fr [] w w'
def RcRel (w2:World) (m:PgM) (v3 v14:Value) (wr:World):Prop:=
 ∃k:Nat,k<=m.length/\v14=.int .i64 (k:Int)/\wr.ownsRow 0 5 1 v3 (nE (m.take k)).length (gA (nE (m.take k)))/\(∀x,v3.ownBlock=some x->w2.heap.size<=x)/\Fr [] w2 wr
theorem aQH{w:World}{g d lg:Nat}{s:PS}(h:qF w g d lg i r s L): Calls prog 63 #[pi (some ⟨g,0,none⟩)] w (aUs w s.late):=by
 refine cA λc8 a1=>?_;have q:=h.blk.a 4;have b1:=h.few;have x:=h.lok.few;have l:=lh h;clear h;go_enter func63,ntmps63;go_wp2_with fail;refine(aJl i w).mono ?_;rintro e c ⟨rfl,f⟩;have m:Fr [] w c:=by rw[f];exact(jj [] w).alloc _
 have b2:c.heap.size=w.heap.size+1:=by rw[f];simp
 have⟨b6,b7⟩:=hh2 (aEj l.o.late l.o.lok (by omega) c f) m;clear f m;go_wp2_with fail;refine b6.o.mono ?_;rintro e y ⟨b',rfl,m,z⟩;have⟨HK,b8⟩:=hh2 (aBC.of m) (b7.o.trans z);obtain⟨c0,c1,c,C,_⟩:=aBC.of m;subst c;have b3:=z.size;obtain⟨c,B⟩:=nm (s.late);rw[<- B]at HK C x a1⊢;have u:=lh B;obtain⟨n,A⟩:=nm (li c);rw[<- A]at C x⊢;have x:=lh A;clear m z b6 b7 B A q;go_wp2_with fail;go_loopw [3,14] (λv3 v14 wr=>RcRel y c v3 v14 wr) (λ_ v _=>n-(intOf v).toNat);·exact⟨0,uB _,rfl,by rw[yI];exact gD _ _ _ _,by simp[Value.ownBlock],jj _ _⟩
 obtain⟨k,E,rfl,z,G,C⟩:=hrel;rw[<- x.o]at E;have⟨HF,b9,t⟩:=hh3 C (b8.o.trans C) z;obtain⟨R,a0,rfl,P,_⟩:=jA z;have A:=lh G;have D:li (nE (c.take k))=514*k:=by rw[gS (n:=s.n) (λp m=>l.o.lok.mem p (by rw[<- u.o];exact yM m)),pB,<- x.o,gO E]
 have F:=lh D;clear C z G D;by_cases z:k<n
 ·obtain⟨p,m⟩:∃p,c[k]? = some p:=gx (by rw[<- x.o];exact z);have z:p∈c:=kF m;have D:p.1<s.n/\li p.2=512:=l.o.lok.mem p (by rw[<- u.o];exact z);have C:=l.o.fr b9.o;have q:=C.blk.a 4;have E:=C.late.look (k:=p.1) (by omega);rw[wN l.o.lok (j:=p.1) (b:=p.2) (by rw[<- u.o];exact z),fV]at E;unfold fJ at E;obtain⟨c4,c5,H,_,l⟩:=HK.o;obtain⟨u,J,c6,M,G⟩:=l (by rw[<- x.o];omega);injection H with H _ N;subst H;subst N;subst J;have H:wr.cell? ⟨u,k,none⟩=some (ii ip (p.1:Int)):=by
   rw[HF.o.cell (p:=⟨u,k,none⟩) M (by simp)];exact G k _ (by simp[kcells,m])
  have⟨HP,S⟩:=hh2 m D;clear m z C G l D;go_wp2_with (first
   | (with_reducible refine qA rfl 127 rfl (fJ jE) (gA jE).toArray aAd rfl ?_)
   | (with_reducible refine zA (W:=wr) rfl 127 (.tmp 6) (.tmp 23) rfl (gA p.2) rfl rfl rfl ?zi ?zl ?z1 ?_))
  case zi=>have h:=uT;simpa[nA,S.o.2]using h
  case zl=>show(gA jE).length=li (gA p.2);rw[nA,nA,aM,S.o.2]
  case z1=>exact mD _
  intro l z m a';have⟨c2,c3⟩:=hh2 z m;have a7:wr.heap.size<l.heap.size:=(by omega);have u:=fB t.o m (by simp);have D:=lh u;clear z m u E q H;go_upto_region 6 with fail;refine sB ?_;iterate 6 (refine ab ?_)
  obtain⟨m,u⟩:=nm (jC p.1 1);obtain⟨q,z⟩:=nm (jC p.1 0);have f:IntKind.u8.wrap ((p.1:Int) / 256)=(m.toNat:Int):=(by rw[u,bI,jL];simp);have C:IntKind.u8.wrap (p.1:Int)=(q.toNat:Int):=(by rw[z,bI,jL];simp);rw[f,C];have⟨e3,e4⟩:=hh2 u z;clear f C u z;obtain⟨c7,J,M,N,O⟩:=info_parts nT;obtain⟨f,u⟩:=nm (nE (c.take k));rw[<- u]at P t D A F⊢;have b4:li f<=2105344:=(by rw[F.o];omega);have a8:=lh u;clear u;obtain⟨H,u⟩:=nm (si R (li f) a0);rw[<- u]at t D A⊢;have F:=lh u;clear u;refine lp λK hK=>tB (v:=si (some ⟨l.heap.size,0,none⟩) 2 2) (w':=l.alloc (iy #[ii ix (m.toNat:Int),ii ix (q.toNat:Int)] 5)) (by simp[execOp,Act.eval,aBB,Result.andThen]) (hK _ _ ?_);simp only[nrm];clear hK;have T:Blk (l.alloc (iy #[ii ix (m.toNat:Int),ii ix (q.toNat:Int)] 5)) l.heap.size 5 (gA [m,q]):=jl l 5 (gA [m,q]);have E:Fr [] l (l.alloc (iy #[ii ix (m.toNat:Int),ii ix (q.toNat:Int)] 5)):=(jj [] l).alloc _;have U:(l.alloc (iy #[ii ix (m.toNat:Int),ii ix (q.toNat:Int)] 5)).heap.size=l.heap.size+1:=(by simp);generalize l.alloc (iy #[ii ix (m.toNat:Int),ii ix (q.toNat:Int)] 5)=c9 at *;refine lp λK hK=>fC (.tmp 24) (.tmp 30) rfl 5 1 1 Go.Proofs.Tryz.underlying67 J M N O rfl (by omega) H (li f) (gA f) rfl (fB D.o E (by simp)) ⟨l.heap.size,0,none⟩ 2 2 (gA [m,q]) rfl rfl (λj b0 P=>by rw[Go.Addr.add_mid,nB];exact T.at_ P) (mD _) (by omega) (by unfold maxLen;omega) (by omega) (l.heap.size+1) U λC a2 z a3 a4 a6 Q=>hK _ _ ?_;simp only[nrm];clear hK;refine ab ?_;refine wB ?_;have a9:=F.o;have F:∀u,H.ownBlock=some u->u<wr.heap.size:=aG t.o;have G:Fr H.ownBlock.toList l z:=(E.mono (by simp)).trans a4 (λu l=>Ii l);have V:Blk z wr.heap.size 127 (gA p.2):=c2.o.fr G (λB=>by have:=F wr.heap.size (by simpa using B);omega);have X:y.heap.size<=C/\C<z.heap.size/\C≠wr.heap.size:=by
   have b5:=HF.o.size;obtain h|h:=a6;·have B:=A.o _ h;have H:=F _ h;exact⟨B,Q,by omega⟩
   exact⟨by omega,Q,by omega⟩
  have Y:Fr [] y z:=(HF.o.trans c3.o).trans G (λu l=>Ij (A.o u (by simpa using l)));have⟨d1,a5,I⟩:=hh3 V X Y;have Z:Hid (z.ownsRow 0 5 1 (si (some ⟨C,0,none⟩) (li f+2) a2) (li f+2) (gA (f++[m,q]))):=lh (by rw[fD];exact a3);clear V X Y G F a3 a4 a6 Q E T U a9 c2 c3 D a7 a';go_upto_region 7 with fail;refine sB ?_;iterate 2 (refine ab ?_)
  refine lp λK hK=>fC (.tmp 32) (.tmp 33) rfl 5 1 1 Go.Proofs.Tryz.underlying67 J M N O rfl (by omega) (si (some ⟨C,0,none⟩) (li f+2) a2) (li f+2) (gA (f++[m,q])) rfl Z.o ⟨wr.heap.size,0,none⟩ 512 512 (gA p.2) rfl (by rw[nA,S.o.2]) (λj b0 P=>by rw[Go.Addr.add_mid,nB];exact d1.o.at_ P) (mD _) (by omega) (by unfold maxLen;omega) (by omega) z.heap.size rfl λz C D E F G T=>hK _ _ ?_;simp only[nrm];clear hK;refine ab ?_;refine wB ?_;have P:Hid (Fr [] y D):=lh (I.o.trans F (λu l=>Ij (by simp[Value.ownBlock]at l;subst l;exact a5.o.1)));have Q:Hid (∀u,(si (some ⟨z,0,none⟩) (li f+2+512) C).ownBlock=some u->y.heap.size<=u):=lh (λu l=>by
   simp[Value.ownBlock]at l;subst l;obtain h|h:=G;·simp[Value.ownBlock]at h;subst h;exact a5.o.1
   have:=I.o.size;omega)
  have l:nE (c.take (k+1))=f++[m,q]++p.2:=by have e:c.take (k+1)=c.take k++[p]:=(by obtain⟨B,H⟩:=uC.1 HP.o;rw[jR B,H]);rw[e,aOI,<- a8.o,e3.o,e4.o,uF];rfl
  have u:Hid (D.ownsRow 0 5 1 (si (some ⟨z,0,none⟩) (li f+2+512) C) (li (nE (c.take (k+1)))) (gA (nE (c.take (k+1))))):=lh (by rw[l,fD];have:li (f++[m,q]++p.2)=li f+2+512:=(by simp[S.o.2]);rw[this];exact E);clear E F G T l J M N O Z d1 I a5;go_wp2_with fail;go_roundw
  case rel=>exact⟨k+1,by rw[<- x.o];omega,by go_num,u.o,Q.o,P.o⟩
  case measure=>simp[intOf];omega
 have l:Hid (c.take k=c):=lh (zF (by rw[<- x.o];omega));have m:Hid (∃f,dA wr (si R (li (nE (c.take k))) a0) (nE c) f/\y.heap.size<=f):=lh (by have h:=jM t.o A.o;rw[l.o]at h;rw[l.o];exact h);have c:=b8.o.size;go_wp2_with fail;obtain⟨f,B,H⟩:=m.o;exact a1.o _ _ ⟨_,f,rfl,B,by omega,b9.o⟩
open Go.RowKit
section
variable {w w':World}{g d lg bl bh:Nat}{s:PS}{fp:List Nat}
theorem qF.disk_{D':DM}(h:qF w g d lg bl bh s fp)(p:eK w w' d D' fp)(q:li D'.S=li s.D.S):wD w w' g d lg bl bh { s with D:=D' } fp:=by
 obtain⟨j,l,c,k⟩:=p;have f:=h.lt;have i:∀b,b<w.heap.size->b∉fp->b∉j:=λb o m n=>by
  obtain h|h:=k b n;·exact m h
  omega
 have b:=h.jn;exact⟨j,⟨h.blk.fr c h.gout,⟨b.log.fr c b.apart,l,i lg (f lg (by simp[pfp])) b.apart,b.at_,by show _<=li D'.S;rw[q];exact b.fit,b.num,b.ses⟩,h.late.fr c h.lout,h.held.fr c h.hout,h.ne,i g (f g (by simp[pfp])) h.gout,i bl (f bl (by simp[pfp])) h.lout,i bh (f bh (by simp[pfp])) h.hout,h.lok,h.hok,h.few⟩,c.mono (λc b=>Ii (by simp[pfp,b])),k⟩
theorem qF.log_{D':DM}{l':LG}(h:qF w g d lg bl bh s fp)(t:sZ w w' lg d l' D' fp)(u:l'.n=s.l.n):wD w w' g d lg bl bh { s with D:=D',l:=l' } fp:=by
 obtain⟨o,q,f,p⟩:=t;have i:=h.lt;have m:=h.ne2;have j:∀b,b<w.heap.size->b∉fp->b∉o:=λb x k c=>by
  obtain h|h:=p b c;·exact k h
  omega
 have k:∀b,b≠lg->b∉fp->b∉lg::fp:=λb r v c=>by
  obtain rfl|c:=bB.1 c;·exact r rfl
  exact v c
 refine⟨o,⟨?_,q,h.late.fr f (k bl m.2.2.1 h.lout),h.held.fr f (k bh m.2.2.2 h.hout),h.ne,j g (i g (by simp[pfp])) h.gout,j bl (i bl (by simp[pfp])) h.lout,j bh (i bh (by simp[pfp])) h.hout,h.lok,h.hok,h.few⟩,f.mono (λc b=>Ii (by rcases bB.1 b with rfl|b<;>simp_all [pfp])),p⟩;have:=h.blk.fr f (k g h.ne1 h.gout);unfold uK at this⊢;rw[show({ s with D:=D',l:=l' }:PS).l.n=s.l.n from u];exact this
end
theorem aFD(b:Array Value)(w:World):(callFunc 67 b).run prog w=.ok (.enter 67 b) w:=by kernel_rfl
theorem aFS{log:Nat}:∀(m:PgM) (k i:Nat) (p:Nat×List UInt8),m[k]? = some p->i<8->(uD log m)[8*k+i]? = some (log+8*p.1+i,(p.2.drop (64*i)).take 64)
 | [],_,_,_,h,_=>by simp at h
 | q::m,0,i,p,h,hi=>by simp at h;subst h;unfold uD;rw[xG,yK (by simp;omega),wI,List.getElem?_range (by omega)];simp
 | q::m,k+1,i,p,h,hi=>by have b:=aFS (log:=log) m k i p (by simpa using h) hi;unfold uD at b⊢;rw[xG,mJ (by simp;omega)];simp only[cH,List.length_range];rw[show 8*(k+1)+i-8=8*k+i by omega];exact b
theorem aLP(q:Nat)(W:World):(Instr.sliceAt 127 (pi q) (some (ii ip 0)) (some (ii ip 64)) none).run prog W=.ok (si q 64 512) W:=by kernel_rfl
theorem aLQ(q:Nat)(W:World):(Instr.sliceAt 127 (pi q) (some (ii ip 64)) (some (ii ip 128)) none).run prog W=.ok (si (some ⟨q,64,none⟩) 64 448) W:=by kernel_rfl
theorem aLR(q:Nat)(W:World):(Instr.sliceAt 127 (pi q) (some (ii ip 128)) (some (ii ip 192)) none).run prog W=.ok (si (some ⟨q,128,none⟩) 64 384) W:=by kernel_rfl
theorem aLS(q:Nat)(W:World):(Instr.sliceAt 127 (pi q) (some (ii ip 192)) (some (ii ip 256)) none).run prog W=.ok (si (some ⟨q,192,none⟩) 64 320) W:=by kernel_rfl
theorem aLT(q:Nat)(W:World):(Instr.sliceAt 127 (pi q) (some (ii ip 256)) (some (ii ip 320)) none).run prog W=.ok (si (some ⟨q,256,none⟩) 64 256) W:=by kernel_rfl
theorem aLU(q:Nat)(W:World):(Instr.sliceAt 127 (pi q) (some (ii ip 320)) (some (ii ip 384)) none).run prog W=.ok (si (some ⟨q,320,none⟩) 64 192) W:=by kernel_rfl
theorem aLV(q:Nat)(W:World):(Instr.sliceAt 127 (pi q) (some (ii ip 384)) (some (ii ip 448)) none).run prog W=.ok (si (some ⟨q,384,none⟩) 64 128) W:=by kernel_rfl
theorem aLW(q:Nat)(W:World):(Instr.sliceAt 127 (pi q) (some (ii ip 448)) (some (ii ip 512)) none).run prog W=.ok (si (some ⟨q,448,none⟩) 64 64) W:=by kernel_rfl
theorem aOO(q i:Nat)(hi:i<8)(W:World):(Instr.sliceAt 127 (pi q) (some (ii ip ((64*i:Nat):Int))) (some (ii ip ((64*(i+1):Nat):Int))) none).run prog W=.ok (si (some ⟨q,64*i,none⟩) 64 (512-64*i)) W:=by
 match i,hi with
 | 0,_=>exact aLP q W
 | 1,_=>exact aLQ q W
 | 2,_=>exact aLR q W
 | 3,_=>exact aLS q W
 | 4,_=>exact aLT q W
 | 5,_=>exact aLU q W
 | 6,_=>exact aLV q W
 | 7,_=>exact aLW q W
theorem aBD(D:DM)(l:LG)(b:List UInt8):(aD D l b).n=l.n:=by
 unfold aD;repeat' split
 all_goals rfl
def StOut (w2:World) (g d lg bl bh:Nat) (s:PS) (fp:List Nat) (k:Nat) (wr:World):Prop:=
 ∃D,rG s.D (uD s.l.n s.held)=rG D ((uD s.l.n s.held).drop k)/\wD w2 wr g d lg bl bh { s with D:=D } fp/\D.S.length=s.D.S.length/\D.done<=s.D.done+k
def aEk (w:World) (g d lg bl bh:Nat) (s:PS) (fp:List Nat) (e:Ending) (w':World):Prop:=
 e=.returned (.int .i64 (rC s).2.2)/\wD w w' g d lg bl bh { s with D:=(rC s).1,l:=(rC s).2.1 } fp
theorem aQI{w:World}{g d lg:Nat}{s:PS}(h:qF w g d lg m r s L)(d0:s.D.done+200000<1099511627776): Calls prog 37 #[pi (some ⟨g,0,none⟩)] w (aEk w g d lg m r s L):=by
 refine cA λc' U=>?_;have u:=h.blk.a 5;have a':=h.few;have t:=h.hok.few;have b0:s.l.n<=65536:=by have:=h.jn.fit;have:=h.jn.disk.ok.most;omega
 have c:=lh h;clear h;go_enter func37,ntmps37;go_wp2_with fail;refine(aJl r w).mono ?_;rintro e i ⟨rfl,f⟩;have n:Fr [] w i:=by rw[f];exact(jj [] w).alloc _
 have b1:i.heap.size=w.heap.size+1:=by rw[f];simp
 have⟨d1,d2⟩:=hh2 (aEj c.o.held c.o.hok (by omega) i f) n;clear f n;go_wp2_with fail;refine d1.o.mono ?_;rintro e Y ⟨c1,rfl,f,i⟩;have⟨HK,b2⟩:=hh2 (aBC.of f) (d2.o.trans i);obtain⟨c2,c3,n,x,_⟩:=aBC.of f;subst n;have b4:=i.size;have q:=c.o.fr b2.o;have v:=lh q;obtain⟨O,n⟩:=nm (li s.held);rw[<- n]at x t⊢;have T:=lh n;clear f i d1 d2 n u q;go_wp2_with fail;go_loopw [16] (λv16 wr=>∃k:Nat,k<=O/\v16=ii ip (k:Int)/\StOut Y g d lg m r s L (8*k) wr) (λy _=>O-(intOf y).toNat);·exact⟨0,uB _,rfl,s.D,by rw[Nat.mul_zero,List.drop_zero],wD.same v.o,rfl,tA _⟩
 obtain⟨i,rfl⟩:∃i:World,i=wr:=⟨_,rfl⟩;obtain⟨k,t,rfl,f,n,z,q,J⟩:=hrel;obtain⟨F,A,v,x⟩:=z;have⟨a7,I,a0,b3,g3⟩:=hh5 n A v x q;clear n v x q;by_cases q:k<O
 ·obtain⟨p,n⟩:∃p,s.held[k]? = some p:=gx (by rw[<- T.o];exact q);have v:p∈s.held:=kF n;have z:p.1<s.n/\li p.2=512:=c.o.hok.mem p v;have u:=A.blk.a 5;have x:=A.held.look (k:=p.1) (by omega);rw[wN c.o.hok (j:=p.1) (b:=p.2) v,fV]at x;unfold fJ at x;obtain⟨c4,c5,B,_,E⟩:=HK.o;obtain⟨q,C,c6,N,G⟩:=E (by rw[<- T.o];omega);injection B with B _ H;subst B;subst H;subst C;have C:q∉pfp g lg m r L:=λB=>(by have:=c.o.lt q B;omega);have H:i.cell? ⟨q,k,none⟩=some (ii ip (p.1:Int)):=by
   rw[a0.o.cell (p:=⟨q,k,none⟩) N C];exact G k _ (by simp[kcells,n])
  have⟨HP,a1⟩:=hh2 n z;have b5:p.1<4096:=(by omega);clear n v A G E z C;go_wp2_with (first
   | (with_reducible refine qA rfl 127 rfl (fJ jE) (gA jE).toArray aAd rfl ?_)
   | (with_reducible refine zA (W:=i) rfl 127 (.tmp 5) (.tmp 25) rfl (gA p.2) rfl rfl rfl ?zi ?zl ?z1 ?_))
  case zi=>have h:=uT;simpa[nA,a1.o.2]using h
  case zl=>show(gA jE).length=li (gA p.2);rw[nA,nA,aM,a1.o.2]
  case z1=>exact mD _
  intro E n c c9;have⟨g4,d5,g5⟩:=hh3 n c (I.o.fr c);have b8:i.heap.size<E.heap.size:=(by omega);clear n c x u H;go_wp2_with fail;go_loopw [26] (λv26 wr=>∃c:Nat,c<=8/\v26=ii ip (c:Int)/\∃D,rG s.D (uD s.l.n s.held)=rG D ((uD s.l.n s.held).drop (8*k+c))/\wD E wr g d lg m r { s with D:=D } F/\li D.S=li s.D.S/\D.done<=s.D.done+(8*k+c)) (λy _=>8-(intOf y).toNat)
  case atStart=>exact⟨0,by omega,rfl,f,a7.o,wD.same g5.o,g3.o,J⟩
  case round=>
   obtain⟨c,c7,rfl,n,u,z,v,c8⟩:=hrel;obtain⟨Z,q,x,y⟩:=z;have⟨M,a2,b6,b7,a8⟩:=hh5 u q x y v;have z:=q.blk.a 0;have H:=q.blk.a 3;clear u x y v q;by_cases N:c<8
   ·have u:i.heap.size∉pfp g lg m r F:=λB=>(by have:=I.o.lt _ B;omega);have q:=g4.o.fr b6.o u;have v:=aOO i.heap.size c N;have x:dA wr (si (some ⟨i.heap.size,64*c,none⟩) 64 (512-64*c)) ((p.2.drop (64*c)).take 64) i.heap.size:=by
     have y:=(dA.of_blk q 512 (by rw[a1.o.2];exact tA _)).sub (64*c) 64 (by rw[a1.o.2];omega);rw[show(if 512=64*c then some (⟨i.heap.size,0,none⟩:Addr) else (some (⟨i.heap.size,0,none⟩:Addr)).map (·.add (64*c)))=some ⟨i.heap.size,64*c,none⟩ by rw[eA (by omega)];simp[Go.Addr.add_mid]]at y;exact y
    have⟨g6,d9⟩:=hh2 x v;have b9:i.heap.size<wr.heap.size:=q.lt;have C:Hid (∀P∈F,P<i.heap.size):=lh (λP Q=>I.o.lt P (by simp[pfp,Q]));have G:n.done<1099511627776:=(by omega);generalize i.heap.size=y at *;clear q v x u;have R:Wi ip (8*(p.1:Int))=8*(p.1:Int):=ak;have a3:Wi ip ((s.l.n:Int)+8*(p.1:Int))=(s.l.n:Int)+8*(p.1:Int):=ak;have a4:Wi ip ((s.l.n:Int)+8*(p.1:Int)+(c:Int))=(s.l.n:Int)+8*(p.1:Int)+(c:Int):=ak;have a5:Wi ip (64*(c:Int))=((64*c:Nat):Int):=ak;have a6:=wi c (by omega);have a9:Wi ip (64*((c:Int)+1))=((64*(c+1):Nat):Int):=ak;go_wp2_with fail;refine aj (λW=>W.cell? ⟨g,0,none⟩=some (pi (some ⟨d,0,none⟩))/\W.cell? ⟨g,3,none⟩=some (ii ip (s.l.n:Int))) [0,1,2,3,4,5,6,7,8,9,10,11,12,13,14,15,16,17,18] ?_;refine tks [0,1,2,3,4,5,6,7,8,9,10,11,12,13,14,15,16,17] ?_;iterate 18 (refine ac ⟨z,H⟩ ?_)
    refine tke ?_;refine tv 18 (si (some ⟨y,64*c,none⟩) 64 (512-64*c)) rfl rfl ⟨z,H⟩ (Ii ⟨rfl,λW _=>gH rfl rfl rfl rfl (d9.o W)⟩) ?_;simp only[nrm];refine ag 19 λK hK=>?_;have q:Fr [] wr wr.drew:=(jj [] wr).drew;refine kA (l:=[.tmp 32,.tmp 41,.tmp 47]) rfl [pi (some ⟨d,0,none⟩),ii ip ((s.l.n:Int)+8*(p.1:Int)+(c:Int)),si (some ⟨y,64*c,none⟩) 64 (512-64*c)] rfl (aFD _) ((aIR (a2.o.jn.disk.fr q) _ _ _ _ (g6.o.fr q) (λe=>?ne) G).mono ?_)
    case ne=>
     have u:=a2.o.jn.disk.mem;obtain h|h:=b7.o _ u;·have:=C.o d h;omega
     omega
    rintro e y ⟨rfl,G⟩;have x:=(a2.o.fr q).disk_ G (by rw[yQ]);have v:y.cell? ⟨g,0,none⟩=some (pi (some ⟨d,0,none⟩))/\y.cell? ⟨g,3,none⟩=some (ii ip (s.l.n:Int)):=(by obtain⟨_,C,_⟩:=x;exact⟨C.blk.a 0,C.blk.a 3⟩);refine⟨_,rfl,hK _ _ (λ_=>v) ?_⟩;simp only[nrm];refine af 20 (λ_=>v) ?_;refine wd ?_ _;rw[show(s.l.n:Int)+8*(p.1:Int)+(c:Int)=((s.l.n+8*p.1+c:Nat):Int) by omega]at x⊢;have J:(uD s.l.n s.held).drop (8*k+c)=(s.l.n+8*p.1+c,(p.2.drop (64*c)).take 64)::(uD s.l.n s.held).drop (8*k+(c+1)):=(by have V:=aFS (log:=s.l.n) s.held k c p HP.o N;obtain⟨u,C⟩:=uC.1 V;rw[xM u,C];rfl);have u:=M.o;rw[J]at u;have V:=yQ n ((s.l.n+8*p.1+c:Nat):Int) ((p.2.drop (64*c)).take 64);have c0:=qT n ((s.l.n+8*p.1+c:Nat):Int) ((p.2.drop (64*c)).take 64);have X:wD E y g d lg m r { s with D:=n.write ((s.l.n+8*p.1+c:Nat):Int) ((p.2.drop (64*c)).take 64) } F:=(by have C:wD wr y g d lg m r { s with D:=n.write ((s.l.n+8*p.1+c:Nat):Int) ((p.2.drop (64*c)).take 64) } Z:=wD.comp (q.mono (by simp)) (λ_ t=>Ii t) x;exact wD.comp b6.o b7.o C);have⟨N,g9⟩:=hh2 X V;clear G x v hK q J X V R a3 a4 a5 a6 a9 z H;by_cases q:n.writeE ((s.l.n+8*p.1+c:Nat):Int) ((p.2.drop (64*c)).take 64)=0
    ·have C:rG s.D (uD s.l.n s.held)=rG (n.write ((s.l.n+8*p.1+c:Nat):Int) ((p.2.drop (64*c)).take 64)) ((uD s.l.n s.held).drop (8*k+(c+1))):=by
      rw[u,rG,iA q]
     have J:=lh C;rw[q];clear u C q;generalize n.write ((s.l.n+8*p.1+c:Nat):Int) ((p.2.drop (64*c)).take 64)=E at *;go_wp2_with fail;go_roundw
     case rel=>exact⟨c+1,by omega,by go_num,E,J.o,N.o,by rw[g9.o];exact a8.o,by omega⟩
     case measure=>simp[intOf];omega
    have C:rG s.D (uD s.l.n s.held)=(n.write ((s.l.n+8*p.1+c:Nat):Int) ((p.2.drop (64*c)).take 64),n.writeE ((s.l.n+8*p.1+c:Nat):Int) ((p.2.drop (64*c)).take 64)):=(by rw[u,rG,eA q]);generalize n.write ((s.l.n+8*p.1+c:Nat):Int) ((p.2.drop (64*c)).take 64)=E at *;generalize n.writeE ((s.l.n+8*p.1+c:Nat):Int) ((p.2.drop (64*c)).take 64)=V at *;have v:rC s=(E,s.l,V):=(by unfold rC;rw[C,iA q]);have E:Hid (aEk w g d lg m r s L (iz (ii ip V)) y):=lh (by unfold aEk;rw[v];exact⟨rfl,wD.comp (b2.o.mono (by simp)) (λ_ t=>Ii t) (wD.comp (a0.o.trans d5.o) b3.o N.o)⟩);have X:(V !=0)=true:=(by rw[nJ];exact q);clear q u C v;go_wp2_with fail;exact U.o _ _ E.o
   obtain rfl:c=8:=(by omega);have N:Hid (wD Y wr g d lg m r { s with D:=n } L):=lh (wD.comp (a0.o.trans d5.o) b3.o ⟨Z,a2.o,b6.o,b7.o⟩);clear z H;go_wp2_with fail;go_roundw
   case rel=>exact⟨k+1,by omega,by go_num,n,M.o,N.o,a8.o,by omega⟩
   case measure=>simp[intOf];omega
 obtain rfl:k=O:=(by omega);have c:(uD s.l.n s.held).drop (8*k)=[]:=sO (by rw[aBA,<- T.o];exact tA _);have u:rG s.D (uD s.l.n s.held)=(f,0):=(by rw[a7.o,c];rfl);have J:=lh u;have z:=A.blk.a 0;clear u c A;have C:Hid (Calls prog 68 #[pi (some ⟨d,0,none⟩)] i λe A=>e=iz (ii ip f.syncE)/\eK i A d f.sync F):=lh (aNb I.o.jn.disk (by show f.done<_;omega));go_wp2_with fail;refine C.o.mono ?_;rintro e n ⟨rfl,N⟩;have c:li f.sync.S=li f.S:=by
  unfold DM.sync;split;·rfl
  split;·rfl
  exact uE _ _
 have F:=I.o.disk_ N (by show li f.sync.S=li f.S;exact c);have c:wD w n g d lg m r { s with D:=f.sync } L:=wD.comp (b2.o.mono (by simp)) (λ_ t=>Ii t) (wD.comp a0.o b3.o F);obtain⟨u,i,O,T⟩:=id c;have⟨e2,b',h4,h5⟩:=hh4 c i O T;have H:=i.blk.a 1;have V:f.sync.done<=f.done+1:=by
  unfold DM.sync;split;·omega
  split;·show f.done<=_;omega
  exact tA _
 clear N F c i O T z C;by_cases q:f.syncE=0
 ·rw[q];have v:rC s=(kB f.sync { s.l with at_:=0 } [],aD f.sync { s.l with at_:=0 } [],rD f.sync { s.l with at_:=0 } []):=by
   unfold rC;rw[J.o,eA (by simp),eA (by simpa using q)]
  have⟨e4,e5⟩:=hh2 v (aQs b'.o.jn.log);clear v q;go_wp2_with fail;refine e5.o.mono ?_;rintro e i ⟨rfl,F,z⟩;have j:=b'.o.jn;have C:sZ n i lg d { s.l with at_:=0 } f.sync u:=⟨u,⟨F,j.disk.fr z (λk t B=>by simp only[xA]at B;subst B;exact j.apart t),j.apart,uB _,j.fit,j.num,j.ses⟩,z.mono (λP Q=>Ii (by simp only[xA]at Q;simp[Q])),λ_ t=>Ii t⟩;have t:wD n i g d lg m r { s with D:=f.sync,l:={ s.l with at_:=0 } } u:=b'.o.log_ C rfl;obtain⟨P,c,u,B⟩:=id t;have⟨j0,h6,h8,h9⟩:=hh4 t c u B;have N:=c.blk.a 1;have O:Hid (Calls prog 70 #[pi (some ⟨lg,0,none⟩),si none 0 0] i λe A=>e=iz (ii ip (rD f.sync { s.l with at_:=0 } []))/\sZ i A lg d (aD f.sync { s.l with at_:=0 } []) (kB f.sync { s.l with at_:=0 } []) P):=lh (aBw c.jn (dA.nil i g) c.gout c.blk.lt (by simp) (by show f.sync.done+65536<_;omega));clear j C t c u B F z e5 H;go_wp2_with fail;refine O.o.mono ?_;rintro e y ⟨rfl,G⟩;have x:=h6.o.log_ G (by show(aD f.sync { s.l with at_:=0 } []).n=s.l.n;rw[aBD]);have E:Hid (aEk w g d lg m r s L (iz (ii ip (rD f.sync { s.l with at_:=0 } []))) y):=lh (by unfold aEk;rw[e4.o];exact⟨rfl,wD.comp h4.o h5.o (wD.comp h8.o h9.o x)⟩);clear G x N;go_wp2_with fail;exact U.o _ _ E.o
 have v:rC s=(f.sync,s.l,f.syncE):=by unfold rC;rw[J.o,eA (by simp),iA (by simpa using q)]
 have E:Hid (aEk w g d lg m r s L (iz (ii ip f.syncE)) n):=lh (by unfold aEk;rw[v];exact⟨rfl,e2.o⟩);have X:(f.syncE !=0)=true:=(by rw[nJ];exact q);clear v q H;go_wp2_with fail;exact U.o _ _ E.o
end
end Go.Proofs.YtebjhcjbfaaejaaGreatDoor
