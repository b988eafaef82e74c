/-
  Joined: Oc Od Oe Of Og Oh Oi Oj
-/
import Derived.Test.YtebjhcjbfaaejaaGreatDoorJct5
set_option maxRecDepth 100000
set_option maxHeartbeats 32000000
open Go.Value renaming int->ii,slice->si,pointer->pi,tuple->tl,bool->ij,agg->il
open Go.IntKind renaming i64->ip,u8->ix,wrap->Wi
open Go.Obj renaming cells->iy
open Go.Ending renaming returned->iz
open Or renaming inl->Ii,inr->Ij
open List renaming length->li,takeWhile_cons_of_neg->aHr
open UInt8 renaming ofNat->Ot
open Option renaming map_eq_some_iff->mI
open Go.Proofs.Tryz renaming underlying182->qJ,underlying198->aDq
open Nat renaming le_of_lt->aDr
open Go.Calls renaming quiet_of_same->aHt
namespace Go.Proofs.YtebjhcjbfaaejaaGreatDoor
open Go.Proofs.Tryz
variable {n k i j m d s:Nat}{l:List UInt8}{v u:Value}{F:List Value}{T:TypeId}{y:Ky}
section
open Go.RowKit Go.Sort Go.Shelf
theorem dA.frD{S:List Nat}{w w':World}{v:Value}{bs:List UInt8}{g:Nat}(h:dA w v bs g)(m:Fr S w w')(n:g∈S->w<=g):dA w' v bs g:=by
 by_cases c:g∈S;·have l:=n c;obtain⟨b,d,f,i,j,k⟩:=h;refine⟨b,d,f,i,j,λd=>?_⟩;exfalso;obtain⟨_,f⟩:=k d;obtain⟨b,i⟩:∃b,(gA bs)[0]? = some b:=gx (by rw[nA];exact d);have:=xF w _ (f 0 b i);simp only at this;omega
 exact h.fr m c
def ItC (D:Nat->Prop) (w:World) (x:It) (kv vv av:Value):Prop:=(∃g,dA w kv x.key g/\D g)/\(∃g,dA w vv x.v g/\D g)/\av=.int .i64 (x.at_:Int)
def cG (D:Nat->Prop) (w:World):List It->List Value->Prop
 | [],[]=>True
 | x::l,kv::vv::av::cs=>ItC D w x kv vv av/\cG D w l cs
 | _,_=>False
def fA (n:Nd):Int:=if n.lf then 1 else 2
def NdV (D:Nat->Prop) (w:World) (base:Nat) (v:Value) (n:Nd):Prop:=
 ∃sv cs,v=.agg #[.int .i64 (fA n),.int .i64 (n.first:Int),sv]/\w.ownsRow base 198 3 sv n.l.length cs/\cG (fun q=>D q/\sv.ownBlock≠some q) w n.l cs/\∀g,sv.ownBlock=some g->D g
section
variable {D D':Nat->Prop}{w w':World}
theorem ItC.fr{S:List Nat}{x:It}{kv vv av:Value}(h:ItC D w x kv vv av)(i:Fr S w w')(j:∀g,D g->g∈S->w<=g:=by simp):ItC D w' x kv vv av:=by obtain⟨⟨b,k,c⟩,⟨d,l,f⟩,m⟩:=h;exact⟨⟨b,k.frD i (j b c),c⟩,⟨d,l.frD i (j d f),f⟩,m⟩
theorem ItC.weak{x:It}{kv vv av:Value}(h:ItC D w x kv vv av)(d:∀g,D g->D' g):ItC D' w x kv vv av:=by obtain⟨⟨b,f,i⟩,⟨c,j,k⟩,l⟩:=h;exact⟨⟨b,f,d b i⟩,⟨c,j,d c k⟩,l⟩
theorem ItC.one{x:It}{kv vv av:Value}(h:ItC D w x kv vv av):aCn [kv,vv,av]:=by obtain⟨⟨c,⟨_,_,_,rfl,_⟩,_⟩,⟨d,⟨_,_,_,rfl,_⟩,_⟩,rfl⟩:=h;intro f b;simp only[bB,kC,dC]at b;rcases b with rfl|rfl|rfl<;>rfl
theorem cG.fr{S:List Nat}(b:Fr S w w')(c:∀g,D g->g∈S->w<=g:=by simp):∀ {l:List It} {cs:List Value},cG D w l cs->cG D w' l cs
 | [],[],_=>trivial
 | _x::_l,_kv::_vv::_av::_cs,h=>⟨h.1.fr b c,cG.fr b c h.2⟩
 | [],_::_,h=>h.elim
 | _::_,[],h=>h.elim
 | _::_,[_],h=>h.elim
 | _::_,[_,_],h=>h.elim
theorem cG.weak(b:∀g,D g->D' g):∀ {l:List It} {cs:List Value},cG D w l cs->cG D' w l cs
 | [],[],_=>trivial
 | _x::_l,_kv::_vv::_av::_cs,h=>⟨h.1.weak b,cG.weak b h.2⟩
 | [],_::_,h=>h.elim
 | _::_,[],h=>h.elim
 | _::_,[_],h=>h.elim
 | _::_,[_,_],h=>h.elim
theorem cG.len:∀ {l:List It} {cs:List Value},cG D w l cs->li cs=li l*3
 | [],[],_=>rfl
 | x::l,kv::vv::av::cs,h=>by have:=cG.len h.2;simp only[bD];omega
 | [],_::_,h=>h.elim
 | _::_,[],h=>h.elim
 | _::_,[_],h=>h.elim
 | _::_,[_,_],h=>h.elim
theorem cG.one:∀ {l:List It} {cs:List Value},cG D w l cs->aCn cs
 | [],[],_=>λd b=>by cases b
 | x::l,kv::vv::av::cs,h=>λd b=>by
  have c:=h.1.one;have f:=cG.one h.2;obtain rfl|b:=bB.1 b;·exact c _ (by simp)
  obtain rfl|b:=bB.1 b;·exact c _ (by simp)
  obtain rfl|b:=bB.1 b;·exact c _ (by simp)
  exact f d b
 | [],_::_,h=>h.elim
 | _::_,[],h=>h.elim
 | _::_,[_],h=>h.elim
 | _::_,[_,_],h=>h.elim
theorem cG.append:∀ {l l2:List It} {cs cs2:List Value},cG D w l cs->cG D w l2 cs2->cG D w (l++l2) (cs++cs2)
 | [],_,[],_,_,h2=>h2
 | _x::_l,_,_kv::_vv::_av::_cs,_,h,h2=>⟨h.1,cG.append h.2 h2⟩
 | [],_,_::_,_,h,_=>h.elim
 | _::_,_,[],_,h,_=>h.elim
 | _::_,_,[_],_,h,_=>h.elim
 | _::_,_,[_,_],_,h,_=>h.elim
theorem cG.take:∀(k:Nat) {l:List It} {cs:List Value},cG D w l cs->cG D w (l.take k) (cs.take (3*k))/\cG D w (l.drop k) (cs.drop (3*k))
 | 0,_,_,h=>⟨by simp[cG],h⟩
 | k+1,[],[],_=>by simp[cG]
 | k+1,x::l,kv::vv::av::cs,h=>by obtain⟨b,c⟩:=cG.take k h.2;rw[show 3*(k+1)=3*k+1+1+1 by omega];simp only[List.take_succ_cons,List.drop_succ_cons];exact⟨⟨h.1,b⟩,c⟩
 | _,[],_::_,h=>h.elim
 | _,_::_,[],h=>h.elim
 | _,_::_,[_],h=>h.elim
 | _,_::_,[_,_],h=>h.elim
theorem cG.at_:∀ {l:List It} {cs:List Value} {k:Nat} {x:It},cG D w l cs->l[k]? = some x->∃kv vv av,cs[k*3]? = some kv/\cs[k*3+1]? = some vv/\cs[k*3+2]? = some av/\ItC D w x kv vv av
 | x::l,kv::vv::av::cs,0,y,h,hk=>by simp only[zP,yG]at hk;subst hk;exact⟨kv,vv,av,rfl,rfl,rfl,h.1⟩
 | x::l,kv::vv::av::cs,k+1,y,h,hk=>by
  obtain⟨a,b,c,d,f,g,i⟩:=cG.at_ (k:=k) h.2 (by simpa using hk);refine⟨a,b,c,?_,?_,?_,i⟩;·rw[show(k+1)*3=k*3+1+1+1 by omega];simpa using d
  ·rw[show(k+1)*3+1=k*3+1+1+1+1 by omega];simpa using f
  rw[show(k+1)*3+2=k*3+2+1+1+1 by omega];simpa using g
 | [],[],_,_,_,hk=>by simp at hk
 | [],_::_,_,_,h,_=>h.elim
 | _::_,[],_,_,h,_=>h.elim
 | _::_,[_],_,_,h,_=>h.elim
 | _::_,[_,_],_,_,h,_=>h.elim
theorem NdV.fr{S:List Nat}{v:Value}{n:Nd}(h:NdV D w k v n)(c:Fr S w w')(d:∀g,D g->g∈S->w<=g:=by simp):NdV D w' k v n:=by obtain⟨b,j,l,f,m,i⟩:=h;refine⟨b,j,l,fB f c (λg b j=>?_),m.fr c (λg b=>d g b.1),i⟩;have:=aG f g b;have:=d g (i g b) j;omega
theorem NdV.weak{v:Value}{n:Nd}(h:NdV D w k v n)(b:∀g,D g->D' g):NdV D' w k v n:=by obtain⟨c,d,f,i,j,l⟩:=h;exact⟨c,d,f,i,j.weak (λg c=>⟨b g c.1,c.2⟩),λg c=>b g (l g c)⟩
theorem dA.re{v:Value}{bs:List UInt8}(h:∃g,dA w v bs g/\D g)(p:∀q,D q->q<w.heap.size->D' q)(h0:∃q,D' q):∃g,dA w v bs g/\D' g:=by
 obtain⟨g,d,f⟩:=h;obtain⟨i,j,k,l,m,b⟩:=id d;by_cases c:0<li bs;·obtain⟨_,n⟩:=b c;obtain⟨b,o⟩:∃b,(gA bs)[0]? = some b:=gx (by rw[nA];exact c);have:=xF w _ (n 0 b o);exact⟨g,d,p g f this⟩
 obtain⟨q,b⟩:=h0;exact⟨q,⟨i,j,k,l,m,λh=>absurd h c⟩,b⟩
theorem ItC.re{x:It}{kv vv av:Value}(h:ItC D w x kv vv av)(b:∀q,D q->q<w.heap.size->D' q)(h0:∃q,D' q):ItC D' w x kv vv av:=⟨dA.re h.1 b h0,dA.re h.2.1 b h0,h.2.2⟩
theorem cG.re(b:∀q,D q->q<w.heap.size->D' q)(h0:∃q,D' q):∀ {l:List It} {cs:List Value},cG D w l cs->cG D' w l cs
 | [],[],_=>trivial
 | _x::_l,_kv::_vv::_av::_cs,h=>⟨h.1.re b h0,cG.re b h0 h.2⟩
 | [],_::_,h=>h.elim
 | _::_,[],h=>h.elim
 | _::_,[_],h=>h.elim
 | _::_,[_,_],h=>h.elim
theorem kD{b b':Nat}{e:TypeId}{d n:Nat}{v:Value}(h:w.ownsRow b e d v n F)(c:∀g,v.ownBlock=some g->b'<=g):w.ownsRow b' e d v n F:=by
 refine⟨h.1,?_⟩;obtain d|⟨g,f,i,rfl,_,j⟩:=h.2;·exact Ii d
 exact Ij ⟨g,f,i,rfl,c g rfl,j⟩
end
theorem nK{w:World}{v:Value}{bs:List UInt8}{g:Nat}(h:dA w v bs g)(h2:2<=li bs): Calls prog 105 #[v] w λe w'=>e=iz (ii ip ((r16 bs:Nat):Int))/\∃m,w'=w.drewN m:=by
 obtain⟨A,c,off,rfl,s,k⟩:=h;obtain⟨rfl,b⟩:=k (by omega);match bs,h2 with
 | u::v::r,_=>
  have c0:w.cell? ⟨g,off,none⟩=some (ii ix (u.toNat:Int)):=b 0 (B8 u) rfl;have c1:w.cell? ⟨g,off+1,none⟩=some (ii ix (v.toNat:Int)):=b 1 (B8 v) rfl;have f:u.toNat<256:=u.toNat_lt;have i:v.toNat<256:=v.toNat_lt;have d:=aLB u.toNat v.toNat f i;have j:=lh d;have l:2<=li (u::v::r):=by simp
  generalize li (u::v::r)=n at l s⊢;have p:(0:Int)<(n:Int):=by omega
  have q:(1:Int)<(n:Int):=by omega
  clear d k b;go_enter func105,ntmps105;go_wp2;go_quiet (fail);go_wp2;go_ret;refine⟨?_,_,rfl⟩;show iz (ii ip (bits .or ip ((u.toNat:Int)*256) (v.toNat:Int)))=_;rw[j.o];rfl
def RdI (w:World) (rb g:Nat) (rest:List UInt8):Prop:=
 ∃off c,Blk w rb 257 [.slice (some ⟨g,off,none⟩) rest.length c,.bool false]/\rest.length<=c/\∀(j:Nat) (u:Value),(gA rest)[j]? = some u->w.cell? ⟨g,off+j,none⟩=some u
theorem zT{w:World}{g k:Nat}{rest:List UInt8}(h:RdI w i g rest)(j:k<=li rest)(H:g≠i): Calls prog 172 #[pi (some i),k] w λe b=>∃v,e=iz v/\dA b v (rest.take k) g/\RdI b i g (rest.drop k)/\Fr [i] w b/\b.heap.size=w.heap.size:=by
 obtain⟨m,n,b,f,c⟩:=h;have d:=b.a 0;have x:=b.a 1;have y:=b.free;have z:=b.lt;have⟨A,t⟩:=hh2 b c;obtain⟨c,p⟩:=nm (li rest);rw[<- p]at f j d;have q:∀j l,(c=k∨j=m+k)->c-k<=l->dA (w.setCell i (si (some ⟨g,j,none⟩) (c-k) l)) (si (some ⟨g,m,none⟩) k n) (rest.take k) g/\RdI (w.setCell i (si (some ⟨g,j,none⟩) (c-k) l)) i g (rest.drop k):=λj l s B=>by
  have u:Fr [i] w (w.setCell i (si (some ⟨g,j,none⟩) (c-k) l)):=(jj [i] w).setCell (Ii (by simp)) _;have r:∀(d:Nat) (f:Value),(gA rest)[d]? = some f->(w.setCell i (si (some ⟨g,j,none⟩) (c-k) l)).cell? ⟨g,m+d,none⟩=some f:=λd f b=>by rw[u.cell (xF w _ (t.o d f b)) (by simpa using H)];exact t.o d f b
  refine⟨⟨_,n,m,by rw[pB,gO (by omega)],by rw[pB];omega,λ_=>⟨rfl,λd f b=>r d f ?_⟩⟩,j,l,?_,by rw[vB];omega,λd f b=>?_⟩
  ·rw[gA,List.map_take]at b;rw[uH]at b;split at b
   ·exact b
   cases b
  ·have:=A.o.set_ 0 (si (some ⟨g,j,none⟩) (c-k) l);rw[vB,<- p];exact this
  obtain s|rfl:=s;·rw[sO (by omega)]at b;cases b
  rw[gA,List.map_drop,zK]at b;rw[yP];exact r (k+d) f b
 have d:=lh q;have f:¬ ((c:Int)<(k:Int)):=by omega
 have j:(k:Int)<=(n:Int):=by omega
 have l:(k:Int)<=(c:Int):=by omega
 clear q;by_cases b:n=k
 ·obtain rfl:c=k:=by omega
  subst b;go_enter func172,ntmps172;go_wp2;go_ret;obtain⟨b,c⟩:=d.o m 0 (Ii (by first|rfl|trivial)) (by omega);rw[mY]at b c;subst p;exact⟨_,rfl,by simpa using b,by simpa using c,(jj [i] w).setCell (Ii (by simp)) _,by simp[World.setCell]⟩
 go_enter func172,ntmps172;go_wp2;go_ret;obtain⟨b,c⟩:=d.o (m+k) (n-k) (Ij rfl) (by omega);subst p;exact⟨_,rfl,b,c,(jj [i] w).setCell (Ii (by simp)) _,by simp[World.setCell]⟩
theorem RdI.fr{S:List Nat}{w w':World}{g:Nat}{rest:List UInt8}(h:RdI w n g rest)(d:Fr S w w')(h1:n∉S)(h2:g∉S):RdI w' n g rest:=by obtain⟨c,f,i,j,b⟩:=h;exact⟨c,f,i.fr d h1,j,λc f i=>by rw[d.cell (xF w _ (b c f i)) h2];exact b c f i⟩
theorem aHY{w:World}{g:Nat}{x:UInt8}{rest:List UInt8}(h:RdI w n g (x::rest))(s:g≠n): Calls prog 171 #[pi n] w λe w'=>e=iz (ii ip (x.toNat:Int))/\RdI w' n g rest/\Fr [n] w w'/\w'.heap.size=w:=by have j:=lh (zT (k:=1) h (by simp) s);refine cA λR HQ=>?_;go_enter func171,ntmps171;go_wp2_with fail;refine j.o.mono ?_;rintro e w1 ⟨v,rfl,l,m,p,q⟩;obtain⟨A,c,off,rfl,r,b⟩:=l;obtain⟨rfl,f⟩:=b (by simp);have i:=f 0 (B8 x) rfl;rw[gV]at i;have d:Hid (R (iz (ii ip (x.toNat:Int))) w1):=lh (HQ.o _ _ ⟨rfl,m,p,q⟩);have t:x.toNat<256:=x.toNat_lt;unfold B8 at i;rw[show(List.take 1 (x::rest)).length=1 from rfl]at r⊢;go_wp2;exact d.o
section
variable {P:Program}{ops:Array Oper}{rest:List Oper}{o:Oper}{a:Act}{w:World}{Q:Exit->Act->World->Prop}
theorem lQ{g:Nat}{t':TypeId}{cs:List Value}{d:TypeDesc}(b:o.guard=none)(t:TypeId)(x:Operand)(f:o.op=.load t x)(i:a.eval x=pi g)(j:Blk w g t' cs) (k:P.underlying t=some d)(l:d.isRow=true)(hi:(P.info? t).map (·.size)=some (li cs))(h:wpList P ops Q rest (a.put o.dst (il cs.toArray)) w):wpList P ops Q (o::rest) a w:=by have c:=Go.run_loadVar_row (P:=P) w g t' t cs.toArray (0,0) d j k (by cases d<;>simp_all) (by simpa using hi);refine wpList_plain b λK hK=>?_;unfold Oper.wp;simp[execOp,f,i,Instr.loadAt,Instr.sureAddr,c,Result.andThen];exact hK _ _ h
theorem gE{g:Nat}{t':TypeId}(b:o.guard=none)(t:TypeId)(x y:Operand)(d:o.op=.store t x y)(cs:List Value) (f:a.eval x=pi g)(i:a.eval y=il cs.toArray)(c:Blk w g t' F) (hi:(P.info? t).map (·.size)=some (li cs))(j:li F=li cs)(h1:∀v∈cs,v.oneCell'=true) (h:∀w1,Blk w1 g t' cs->Fr [g] w w1->w1.heap.size=w.heap.size->wpList P ops Q rest (a.put o.dst undef) w1):wpList P ops Q (o::rest) a w:=by refine wpList_plain b λK hK=>nZ t x y d cs f i c hi j h1 (hK _ _ (h _ (c.row_ cs) ((jj _ _).setRow (by simp) _) (by simp[World.setRow])))
end
theorem aSZ{w:World}{g:Nat}{lf:Bool}{x:It}{rest:List UInt8}(h:RdI w n g (ib lf x++rest))(c:x.ok lf)(X:g≠n)(f':g<w.heap.size): Calls prog 173 #[pi (some ⟨n,0,none⟩),ii ip (if lf then 1 else 2)] w λe b=>∃kv vv,e=iz (il #[kv,vv,ii ip (x.at_:Int)])/\ItC (λi=>w.heap.size<=i) b x kv vv (ii ip (x.at_:Int))/\RdI b n g rest/\Fr [n] w b:=by
 have f5:n<w.heap.size:=by obtain⟨_,_,b,_⟩:=h;exact b.lt
 obtain⟨b1,b2⟩:=nm (Ot (li x.key));have b9:b1.toNat=li x.key:=by rw[b2,cQ];have:=c.k2;omega
 refine cA λf9 e7=>?_;have Z:Fr [] w ((w.alloc (iy zit.toArray 198)).alloc (iy zit.toArray 198)):=((jj [] w).alloc _).alloc _;have c4:Blk ((w.alloc (iy zit.toArray 198)).alloc (iy zit.toArray 198)) w.heap.size 198 zit:=(jl w _ zit).alloc _;have c7:Blk ((w.alloc (iy zit.toArray 198)).alloc (iy zit.toArray 198)) (w.heap.size+1) 198 zit:=by have:=jl (w.alloc (iy zit.toArray 198)) 198 zit;rwa [show(w.alloc (iy zit.toArray 198)).heap.size=w.heap.size+1 by simp]at this
 have c':((w.alloc (iy zit.toArray 198)).alloc (iy zit.toArray 198)).heap.size=w.heap.size+2:=by simp
 have Y:=h.fr Z (by simp) (by simp);have H:=lh c;clear h c;cases lf with
 | true=>
  have R:ib true x++rest=b1::(Ot (li x.v)::(x.key++(x.v++rest))):=by rw[b2];simp[ib]
  obtain⟨u2,b⟩:=nm (Ot (li x.v));have c:u2.toNat=li x.v:=by rw[b,cQ];have:=H.o.v;omega
  rw[R,<- b]at Y;have⟨b',c0,c1,c2,T,E,c3⟩:=hh7 (aHY Y X) Z c4 c7 c' b9 c;clear Z c4 c7 c' Y R b2 b b9 c;go_enter func173,ntmps173;go_wp2_with (with_reducible refine qA rfl 198 rfl (il #[si none 0 0,si none 0 0,ii ip 0]) zit.toArray aR rfl ?_);refine b'.o.mono ?_;rintro e f7 ⟨rfl,b,c,f⟩;have⟨f1,f2,f3⟩:=hh3 (aHY b X) c f;clear b c f;go_wp2_with fail;refine f1.o.mono ?_;rintro e e' ⟨rfl,b3,b4,b5⟩;have⟨c5,c6,c8⟩:=hh3 (zT (k:=b1.toNat) b3 (by rw[E.o,iB];omega) X) (f2.o.trans b4) (b5.trans f3.o);clear b3 b4 b5;go_wp2_with fail;refine c5.o.mono ?_;rintro e f0 ⟨v3,rfl,M,N,b6,b7⟩;rw[E.o,xL]at M;rw[E.o,rO]at N;have⟨c9,U,V,W⟩:=hh4 (rH M (by have:=H.o.k2;omega)) (c6.o.trans b6) (b7.trans c8.o) N;clear M N b6 b7;go_wp2_with fail;refine c9.o.mono ?_;rintro e l ⟨_,rfl,⟨B,O,e2⟩,F⟩;obtain⟨b,c,f4,rfl,e3,e4⟩:=id O;clear e3 e4;have u:Fr [n] ((w.alloc (iy zit.toArray 198)).alloc (iy zit.toArray 198)) l:=U.o.trans F;have a2:Fr [n] w l:=(c0.o.mono (by simp)).trans u;have f:=c2.o.fr u (by simp;omega);have a6:=c1.o.fr u (by simp;omega);have d1:=f.a 0;have I:=f.free;have J:=f.lt;have d2:=F.size;have L:w.heap.size+2<=l.heap.size:=by have:=V.o;have:=T.o;omega
  have y:∀vv:Value,Fr [w.heap.size+1] l (l.setCell ⟨w.heap.size+1,0,none⟩ vv):=λvv=>(jj _ _).setCell (Ii (by simp)) _;have a7:=(W.o.fr F (by simp) (by simp)).fr (y (si b (li x.key) c)) (by simp;omega) (by simp;omega);have e8:w.heap.size+2<=B:=by have:=V.o;have:=T.o;omega
  have a8:Hid (dA (l.setCell ⟨w.heap.size+1,0,none⟩ (si b (li x.key) c)) (si b (li x.key) c) x.key B):=lh (O.fr (y (si b (li x.key) c)) (by simp;omega));have⟨z,A,a0,a1⟩:=hh4 (f.set_ 0 (si b (li x.key) c)) (a6.fr (y (si b (li x.key) c))) (a2.setCell (p:=⟨w.heap.size+1,0,none⟩) (Ij (by simp)) (si b (li x.key) c)) (zT (k:=u2.toNat) a7 (by rw[c3.o,iB];omega) X);have a9:Hid (w.heap.size+2<=(l.setCell ⟨w.heap.size+1,0,none⟩ (si b (li x.key) c)).heap.size):=lh (by simpa[World.setCell]using L);clear u a2 f a6 d2 L y a7 O e2 F W U;go_wp2_with fail;clear d1 I J;refine a1.o.mono ?_;rintro e d0 ⟨v6,rfl,P,Q,r,e5⟩;rw[c3.o,xL]at P;rw[c3.o,rO]at Q;have d3:=lh (rH P (by have:=H.o.v;omega));have a':B∉[n]:=by simp;omega
  have⟨a3,a4,a5,C,D⟩:=hh5 (a8.o.fr r a') (a0.o.trans r) Q (z.o.fr r (by simp;omega)) (A.o.fr r (by simp;omega));have d6:Hid (w.heap.size+2<=d0.heap.size):=lh (by have:=a9.o;omega);clear P Q r e5 a8 a0 z A a9 a1 a';go_wp2_with fail;refine d3.o.mono ?_;rintro e t ⟨_,rfl,⟨G,S,b8⟩,j⟩;obtain⟨m,q,f8,rfl,s,b0⟩:=id S;clear s b0;have f:=C.o.fr j;have d7:=f.a 1;have I:=f.free;have J:=f.lt;have s:Fr [w.heap.size+1] t (t.setCell ⟨w.heap.size+1,1,none⟩ (si m (li x.v) q)):=(jj _ _).setCell (Ii (by simp)) _;have L:=d6.o;have f6:w.heap.size+2<=G:=by omega
  have e9:=j.size;have d8:Hid (Blk (t.setCell ⟨w.heap.size+1,1,none⟩ (si m (li x.v) q)) (w.heap.size+1) 198 [si b (li x.key) c,si m (li x.v) q,ii ip 0]):=lh (f.set_ 1 (si m (li x.v) q));have d9:=lh ((D.o.fr j).fr s);have b0:Hid (ItC (λi=>w.heap.size+2<=i) (t.setCell ⟨w.heap.size+1,1,none⟩ (si m (li x.v) q)) x (si b (li x.key) c) (si m (li x.v) q) (ii ip (x.at_:Int))):=lh ⟨⟨B,(a3.o.fr j).fr s (by simp;omega),by omega⟩,⟨G,S.fr s (by simp;omega),by omega⟩,rfl⟩;have⟨d4,d5⟩:=hh2 ((a5.o.fr j (by simp) (by simp)).fr s (by simp;omega) (by simp;omega)) ((a4.o.trans j).setCell (p:=⟨w.heap.size+1,1,none⟩) (Ij (by simp)) (si m (li x.v) q));have G:x.at_=0:=by have:=H.o.bare;simpa using this
  have d':Hid (aCn [si b (li x.key) c,si m (li x.v) q,ii ip 0]):=lh (by have:=b0.o.one;rw[G]at this;exact this);have e1:=lh G;clear S j s f a3 a4 a5 C D b8 G;go_upto_region 9 with fail;clear d7 I J;go_wp2_with (first
   | (refine lQ rfl 198 (.tmp 5) rfl rfl d8.o aDq rfl mH ?_)
   | (refine gE rfl 198 (.tmp 4) (.tmp 32) rfl [si b (li x.key) c,si m (li x.v) q,ii ip 0] rfl rfl d9.o mH rfl d'.o ?_))
  intro S b8 G e6;have e0:Hid (∃kv vv,iz (il #[si b (li x.key) c,si m (li x.v) q,ii ip 0])=iz (il #[kv,vv,ii ip (x.at_:Int)])/\ItC (λi=>w.heap.size<=i) S x kv vv (ii ip (x.at_:Int))/\RdI S n g rest/\Fr [n] w S):=lh ⟨(si b (li x.key) c),si m (li x.v) q,by rw[e1.o];rfl,(b0.o.fr G (λi (hq:w.heap.size+2<=i) hm=>by have:=xA.1 hm;omega)).weak (λi (hq:w.heap.size+2<=i)=>by show w.heap.size<=i;omega),d4.o.fr G (by simp;omega) (by simp;omega),d5.o.trans G⟩;have e1:=lh b8;clear b8 G e6;go_wp2_with fail;refine cI (g:=w.heap.size) (t':=198) (cs:=[si b (li x.key) c,si m (li x.v) q,ii ip 0]) (d:=_) rfl rfl e1.o aDq rfl mH (e7.o _ _ e0.o)
 | false=>
  have R:ib false x++rest=b1::(x.key++(b16 x.at_++rest)):=by rw[b2];simp[ib]
  rw[R]at Y;have⟨b',c0,c1,c2,T,E⟩:=hh6 (aHY Y X) Z c4 c7 c' b9;clear Z c4 c7 c' Y R b2 b9;go_enter func173,ntmps173;go_wp2_with (with_reducible refine qA rfl 198 rfl (il #[si none 0 0,si none 0 0,ii ip 0]) zit.toArray aR rfl ?_);refine b'.o.mono ?_;rintro e e' ⟨rfl,b3,b4,b5⟩;have⟨c5,c6,c8⟩:=hh3 (zT (k:=b1.toNat) b3 (by rw[E.o,iB];omega) X) b4 b5;clear b3 b4 b5;go_wp2_with fail;refine c5.o.mono ?_;rintro e f0 ⟨v3,rfl,M,N,b6,b7⟩;rw[E.o,xL]at M;rw[E.o,rO]at N;have⟨c9,U,V,W⟩:=hh4 (rH M (by have:=H.o.k2;omega)) (c6.o.trans b6) (b7.trans c8.o) N;clear M N b6 b7;go_wp2_with fail;refine c9.o.mono ?_;rintro e l ⟨_,rfl,⟨B,O,e2⟩,F⟩;obtain⟨b,c,f4,rfl,e3,e4⟩:=id O;clear e3 e4;have u:Fr [n] ((w.alloc (iy zit.toArray 198)).alloc (iy zit.toArray 198)) l:=U.o.trans F;have a2:Fr [n] w l:=(c0.o.mono (by simp)).trans u;have f:=c2.o.fr u (by simp;omega);have a6:=c1.o.fr u (by simp;omega);have d1:=f.a 0;have I:=f.free;have J:=f.lt;have d2:=F.size;have L:w.heap.size+2<=l.heap.size:=by have:=V.o;have:=T.o;omega
  have y:∀vv:Value,Fr [w.heap.size+1] l (l.setCell ⟨w.heap.size+1,0,none⟩ vv):=λvv=>(jj _ _).setCell (Ii (by simp)) _;have a7:=(W.o.fr F (by simp) (by simp)).fr (y (si b (li x.key) c)) (by simp;omega) (by simp;omega);have e8:w.heap.size+2<=B:=by have:=V.o;have:=T.o;omega
  have a8:Hid (dA (l.setCell ⟨w.heap.size+1,0,none⟩ (si b (li x.key) c)) (si b (li x.key) c) x.key B):=lh (O.fr (y (si b (li x.key) c)) (by simp;omega));have⟨z,A,a0,a1⟩:=hh4 (f.set_ 0 (si b (li x.key) c)) (a6.fr (y (si b (li x.key) c))) (a2.setCell (p:=⟨w.heap.size+1,0,none⟩) (Ij (by simp)) (si b (li x.key) c)) (zT (k:=2) a7 (by rw[iB];show 2<=2+_;omega) X);have a9:Hid (w.heap.size+2<=(l.setCell ⟨w.heap.size+1,0,none⟩ (si b (li x.key) c)).heap.size):=lh (by simpa[World.setCell]using L);clear u a2 f a6 d2 L y a7 O e2 F W U;go_wp2_with fail;clear d1 I J;refine a1.o.mono ?_;rintro e d0 ⟨v6,rfl,P,Q,r,e5⟩;have m:(b16 x.at_++rest).take 2=b16 x.at_:=rfl;have q:(b16 x.at_++rest).drop 2=rest:=rfl;rw[m]at P;rw[q]at Q;have u:r16 (b16 x.at_)=x.at_:=by have:=lH H.o.at_ [];rwa [jH]at this
  have l:=nK P (by show 2<=2;omega);rw[u]at l;have d3:=lh l;have a':B∉[n]:=by simp;omega
  have⟨a3,a4,a5,C,D⟩:=hh5 (a8.o.fr r a') (a0.o.trans r) Q (z.o.fr r (by simp;omega)) (A.o.fr r (by simp;omega));have d6:Hid (w.heap.size+2<=d0.heap.size):=lh (by have:=a9.o;omega);clear P Q r e5 a8 a0 z A a9 a1 a' m q u l;go_wp2_with fail;refine d3.o.mono ?_;rintro e t ⟨rfl,q,m⟩;have j:Fr [] d0 t:=by rw[m];exact(jj _ _).drewN _
  have f:=C.o.fr j;have d7:=f.a 2;have I:=f.free;have J:=f.lt;have s:Fr [w.heap.size+1] t (t.setCell ⟨w.heap.size+1,2,none⟩ (ii ip (x.at_:Int))):=(jj _ _).setCell (Ii (by simp)) _;have L:=d6.o;have e9:=j.size;have l:x.v=[]:=by have:=H.o.bare;simpa using this
  have d8:Hid (Blk (t.setCell ⟨w.heap.size+1,2,none⟩ (ii ip (x.at_:Int))) (w.heap.size+1) 198 [si b (li x.key) c,si none 0 0,ii ip (x.at_:Int)]):=lh (f.set_ 2 (ii ip (x.at_:Int)));have d9:=lh ((D.o.fr j).fr s);have b0:Hid (ItC (λi=>w.heap.size+2<=i) (t.setCell ⟨w.heap.size+1,2,none⟩ (ii ip (x.at_:Int))) x (si b (li x.key) c) (si none 0 0) (ii ip (x.at_:Int))):=lh ⟨⟨B,(a3.o.fr j).fr s (by simp;omega),by omega⟩,⟨w.heap.size+2,by rw[l];exact dA.nil _ _,by omega⟩,rfl⟩;have⟨d4,d5⟩:=hh2 ((a5.o.fr j (by simp) (by simp)).fr s (by simp;omega) (by simp;omega)) ((a4.o.trans j).setCell (p:=⟨w.heap.size+1,2,none⟩) (Ij (by simp)) (ii ip (x.at_:Int)));have d':Hid (aCn [si b (li x.key) c,si none 0 0,ii ip (x.at_:Int)]):=lh b0.o.one;clear j s f a3 a4 a5 C D l m;go_upto_region 9 with fail;clear d7 I J;go_wp2_with (first
   | (refine lQ rfl 198 (.tmp 5) rfl rfl d8.o aDq rfl mH ?_)
   | (refine gE rfl 198 (.tmp 4) (.tmp 32) rfl [si b (li x.key) c,si none 0 0,ii ip (x.at_:Int)] rfl rfl d9.o mH rfl d'.o ?_))
  intro S b8 G e6;have e0:Hid (∃kv vv,iz (il #[si b (li x.key) c,si none 0 0,ii ip (x.at_:Int)])=iz (il #[kv,vv,ii ip (x.at_:Int)])/\ItC (λi=>w.heap.size<=i) S x kv vv (ii ip (x.at_:Int))/\RdI S n g rest/\Fr [n] w S):=lh ⟨_,_,rfl,(b0.o.fr G (λi (hq:w.heap.size+2<=i) hm=>by have:=xA.1 hm;omega)).weak (λi (hq:w.heap.size+2<=i)=>by show w.heap.size<=i;omega),d4.o.fr G (by simp;omega) (by simp;omega),d5.o.trans G⟩;have e1:=lh b8;clear b8 G e6;go_wp2_with fail;refine cI (g:=w.heap.size) (t':=198) (cs:=[si b (li x.key) c,si none 0 0,ii ip (x.at_:Int)]) (d:=_) rfl rfl e1.o aDq rfl mH (e7.o _ _ e0.o)
def znd:List Value:=[.int .i64 0,.int .i64 0,.slice none 0 0]
theorem zD:(prog.info? 184).map (·.zero)=some (some (il #[ii ip 0,ii ip 0,si none 0 0])):=by kernel_rfl
theorem xB:(prog.info? 184).map (·.size)=some 3:=by kernel_rfl
theorem aMg(b:Array Value)(w:World):(callFunc 173 b).run prog w=.ok (.enter 173 b) w:=by kernel_rfl
theorem vC{P:Program}{b:Func}{tmps:Array Value}{w:World}{k c:Tmp}{t t':TypeId}{g:Nat}{cs:List Value}{d:TypeDesc}(hr:b.results=#[.cell k t,.tmp c])(ha:tmps.getD k undef=pi g)(hb:Blk w g t' cs) (hu:P.underlying t=some d)(f:d.isRow=true)(hi:(P.info? t).map (·.size)=some (li cs)):(results b tmps).run P w=.ok (tl #[il cs.toArray,tmps.getD c undef]) w:=by exact Z16
theorem pI(w:World)(k:Int)(a b:Value):Calls prog 99 #[il #[k,a,b]] w λe c=>e=iz (ij (k==1))/\c=w.alloc (iy #[k,a,b] 184):=by go_enter func99,ntmps99;go_wp2;go_ret;exact⟨rfl,rfl⟩
theorem aQT(n:Nd):(fA n==1)=n.lf:=by unfold fA;cases n.lf<;>rfl
theorem aAv{w:World}{a b:Value}(n:Nd):RV 99 #[il #[fA n,a,b]] w (ij n.lf):=(pI w (fA n) a b).mono λe f ⟨c,d⟩=>⟨by rw[c,aQT],by rw[d];exact(jj [] w).alloc _⟩
def aNx (W:World) (B2 rb B5 g:Nat) (n:Nd) (r:List UInt8) (iv:Value) (wr:World):Prop:=
 ∃(k:Nat) (sv:Value) (cs:List Value),k<=n.l.length/\iv=.int .i64 (k:Int)/\Blk wr B2 184 znd/\Blk wr B5 184 [.int .i64 (fA n),.int .i64 (n.first:Int),sv] /\
  wr.ownsRow (W.heap.size+3) 198 3 sv k cs/\cG (fun q=>W.heap.size+3<=q/\sv.ownBlock≠some q) wr (n.l.take k) cs/\RdI wr rb g ((n.l.drop k).flatMap (ib n.lf)++r)/\Fr [] W wr/\W.heap.size+3<=wr.heap.size
theorem aQU{w:World}{v:Value}{n:Nd}{r:List UInt8}{g:Nat}(f:dA w v (n.written++r) g)(s:li (n.written++r)=512)(t:n.ok): Calls prog 132 #[v] w λe w'=>∃nv,e=iz (tl #[nv,ij true])/\NdV (λb=>w.heap.size<=b) w' w.heap.size nv n/\Fr [] w w':=by
 obtain⟨c0,i,j,rfl,d,c⟩:=f;obtain⟨rfl,q⟩:=c (by omega);clear c;have b':g<w.heap.size:=by have:=xF w _ (q 0 _ (kE (by rw[nA];omega)));exact this
 refine cA λc3 b9=>?_;rw[s]at d⊢;obtain⟨d,c⟩:=nm ((w.alloc (iy znd.toArray 184)).alloc (iy #[si (some ⟨g,j,none⟩) 512 i,ij false] 257));have f:Fr [] w d:=by rw[c];exact((jj [] w).alloc _).alloc _
 have I:Blk d w.heap.size 184 znd:=by rw[c];exact(jl w _ znd).alloc _
 have C:RdI d (w.heap.size+1) g (n.written++r):=by refine⟨j,i,?_,by omega,λb5 F u=>aA f (q b5 F u)⟩;rw[s,c];have:=jl (w.alloc (iy znd.toArray 184)) 257 [si (some ⟨g,j,none⟩) 512 i,ij false];rwa [show(w.alloc (iy znd.toArray 184)).heap.size=w.heap.size+1 by simp]at this
 have i:d.heap.size=w.heap.size+2:=by rw[c];simp
 have Z:g≠w.heap.size+1:=by omega
 obtain⟨F,M⟩:∃F:UInt8,F=if n.lf then 1 else 2:=⟨_,rfl⟩
 have d:((F.toNat:Nat):Int)=fA n:=by rw[M];unfold fA;cases n.lf<;>rfl
 have j:n.written++r=F::(b16 (li n.l)++((if n.lf then [] else b16 n.first)++(n.l.flatMap (ib n.lf)++r))):=by rw[M];unfold Nd.written Nd.head;simp
 rw[j]at C;have⟨g5,j2,j3,j4,a1,j5,j6⟩:=hh7 (aHY C Z) f I i t d c;clear q f I C i t j d M c;go_enter func132,ntmps132;go_wp2_with (with_reducible refine qA rfl 184 rfl (il #[ii ip 0,ii ip 0,si none 0 0]) znd.toArray zD rfl ?_);rw[<- j6.o];refine g5.o.mono ?_;rintro e d ⟨rfl,f,c,a2⟩;rw[j5.o];have⟨g6,g7,d'⟩:=hh3 f ((j2.o.mono (S:=[]) (T:=[w.heap.size+1]) (by simp)).trans c) (j3.o.fr c);have y:Hid (d.heap.size=w.heap.size+2):=lh (by have:=j4.o;omega);clear f c a2 g5;go_wp2_with (first
  | (with_reducible refine qA rfl 184 rfl (il #[ii ip 0,ii ip 0,si none 0 0]) znd.toArray zD rfl ?_)
  | (refine zA (W:=d) rfl 184 (.tmp 5) (.tmp 13) rfl [ii ip (fA n),ii ip 0,si none 0 0] rfl rfl rfl xB rfl ?z1 ?_))
 case z1=>intro i s;simp at s;rcases s with rfl|rfl|rfl<;>rfl
 intro b3 f c j;have⟨c7,c8,f1,O⟩:=hh4 f (g7.o.trans c) (g6.o.fr c (by simp) (by simp)) (d'.o.fr c);have R:Hid (b3.heap.size=w.heap.size+3):=lh (by have:=y.o;omega);have q:=f.a 0;have a0:=lh (zT (k:=2) f1.o (by rw[iB];show 2<=2+_;omega) Z);clear f c j g7 g6 d';cases B:n.lf
 case' true=>
  have z:fA n=1:=by unfold fA;rw[B];rfl
  rw[z]at q;go_wp2_with fail;refine a0.o.mono ?_;rintro e N ⟨v4,rfl,Q,U,V,X⟩;have J:r16 ((b16 (li n.l)++((if n.lf then [] else b16 n.first)++(n.l.flatMap (ib n.lf)++r))).take 2)=li n.l:=by have:=lH a1.o.few [];rwa [jH]at this
  have t:=nK Q (by rw[pB,iB];show 2<=min 2 (2+_);omega);rw[J]at t;have⟨HH,a6,f2,a7⟩:=hh4 t V X U;clear Q U V X J t q;go_wp2_with fail;refine HH.o.mono ?_;rintro e j ⟨rfl,b8,H⟩;have x:Fr [w.heap.size+1] b3 j:=by rw[H];exact a6.o.drewN _
  have c:=c7.o.fr x (by have:=y.o;simp;omega);have q:=c.a 0;rw[z]at q;have a3:=c.a 1;have a4:=c.a 2;have⟨a8,E,a9⟩:=hh3 c x H;clear c x H HH;go_wp2_with fail;refine(pI j 1 _ _).mono ?_;rintro e A ⟨rfl,Y⟩;have f:Fr [] j A:=by rw[Y];exact(jj [] j).alloc _
  have b6:=f.size;have b4:n.first=0:=a1.o.bare B;have a5:=lh ((O.o.fr E.o).fr f);have a':Hid (Blk A d.heap.size 184 [ii ip (fA n),ii ip (n.first:Int),si none 0 0]):=lh (by rw[b4];exact a8.o.fr f);have b0:Hid (RdI A (w.heap.size+1) g ((n.l.drop 0).flatMap (ib n.lf)++r)):=lh (by have L:(b16 (li n.l)++((if n.lf then [] else b16 n.first)++(n.l.flatMap (ib n.lf)++r))).drop 2=n.l.flatMap (ib n.lf)++r:=(by rw[B];rfl);have u:=a7.o;rw[L]at u;have D:Fr [] N j:=(by rw[a9.o];exact(jj [] N).drewN _);exact(u.fr D (by simp) (by simp)).fr f (by simp) (by simp));have b1:Hid (Fr [] w A):=lh (((c8.o.trans E.o).trans f).mono (λi s=>Ij (by simp at s;omega)));have b2:Hid (w.heap.size+3<=A.heap.size):=lh (by have:=R.o;have:=E.o.size;omega);have b7:=lh B;clear f b6 b4 Y q a3 a4 a8 E a9 a6 f2 a7 c7 f1 O R c8 a0 z B;go_wp2_with fail
 case' false=>
  have z:fA n=2:=by unfold fA;rw[B];rfl
  rw[z]at q;go_wp2_with fail;refine a0.o.mono ?_;rintro e N ⟨v4,rfl,Q,U,V,X⟩;have J:r16 ((b16 (li n.l)++((if n.lf then [] else b16 n.first)++(n.l.flatMap (ib n.lf)++r))).take 2)=li n.l:=by have:=lH a1.o.few [];rwa [jH]at this
  have t:=nK Q (by rw[pB,iB];show 2<=min 2 (2+_);omega);rw[J]at t;have⟨HH,a6,f2,a7⟩:=hh4 t V X U;clear Q U V X J t q;go_wp2_with fail;refine HH.o.mono ?_;rintro e j ⟨rfl,b8,H⟩;have x:Fr [w.heap.size+1] b3 j:=by rw[H];exact a6.o.drewN _
  have c:=c7.o.fr x (by have:=y.o;simp;omega);have q:=c.a 0;rw[z]at q;have a3:=c.a 1;have a4:=c.a 2;have⟨a8,E,a9⟩:=hh3 c x H;clear c x H HH;go_wp2_with fail;refine(pI j 2 _ _).mono ?_;rintro e A ⟨rfl,Y⟩;have f:Fr [] j A:=by rw[Y];exact(jj [] j).alloc _
  have t:=a8.o.fr f;have x:Hid (RdI A (w.heap.size+1) g (b16 n.first++(n.l.flatMap (ib n.lf)++r))):=lh (by have L:(b16 (li n.l)++((if n.lf then [] else b16 n.first)++(n.l.flatMap (ib n.lf)++r))).drop 2=b16 n.first++(n.l.flatMap (ib n.lf)++r):=(by rw[B];rfl);have u:=a7.o;rw[L]at u;have D:Fr [] N j:=(by rw[a9.o];exact(jj [] N).drewN _);exact(u.fr D (by simp) (by simp)).fr f (by simp) (by simp));have⟨e2,e3,g'⟩:=hh3 ((O.o.fr E.o).fr f) t ((c8.o.trans E.o).trans f);have j:Hid (w.heap.size+3<=A.heap.size):=lh (by have:=R.o;have:=E.o.size;have:=f.size;omega);have N:=lh (zT (k:=2) x.o (by rw[iB];show 2<=2+_;omega) Z);clear q a3 a4 f t Y a8 E a9 a6 f2 a7 c7 f1 O R c8 a0 x;go_wp2_with fail;refine N.o.mono ?_;rintro e t ⟨v7,rfl,x,H,J,Q⟩;have q:r16 ((b16 n.first++(n.l.flatMap (ib n.lf)++r)).take 2)=n.first:=by have:=lH a1.o.first [];rwa [jH]at this
  have f:=nK x (by rw[pB,iB];show 2<=min 2 (2+_);omega);rw[q]at f;have⟨h5,d4,d5⟩:=hh3 f J H;have q:w.heap.size+3<=t.heap.size:=by have:=j.o;omega
  have U:=lh q;clear x H J Q f q N j;go_wp2_with fail;refine h5.o.mono ?_;rintro e x ⟨rfl,b4,N⟩;have j:Fr [] t x:=by rw[N];exact(jj [] t).drewN _
  have q:Fr [w.heap.size+1] A x:=d4.o.trans j;have b3:=j.size;have Q:=U.o;have f:=e3.o.fr q (by have:=y.o;simp;omega);have V:=f.a 1;have X:=f.free;have Y:=f.lt;have A:Fr [d.heap.size] x (x.setCell ⟨d.heap.size,1,none⟩ (ii ip (n.first:Int))):=(jj _ _).setCell (Ii (by simp)) _;have a5:=lh ((e2.o.fr q).fr A (by have:=y.o;simp;omega));have a':Hid (Blk (x.setCell ⟨d.heap.size,1,none⟩ (ii ip (n.first:Int))) d.heap.size 184 [ii ip (fA n),ii ip (n.first:Int),si none 0 0]):=lh (f.set_ 1 (ii ip (n.first:Int)));have b0:Hid (RdI (x.setCell ⟨d.heap.size,1,none⟩ (ii ip (n.first:Int))) (w.heap.size+1) g ((n.l.drop 0).flatMap (ib n.lf)++r)):=lh (by have L:(b16 n.first++(n.l.flatMap (ib n.lf)++r)).drop 2=n.l.flatMap (ib n.lf)++r:=rfl;have u:=d5.o;rw[L]at u;exact(u.fr j (by simp) (by simp)).fr A (by have:=y.o;simp;omega) (by have:=y.o;simp;omega));have b1:Hid (Fr [] w (x.setCell ⟨d.heap.size,1,none⟩ (ii ip (n.first:Int)))):=lh (((g'.o.trans q).mono (λi s=>Ij (by simp at s;omega))).trans A (λi s=>Ij (by have:=y.o;simp at s;omega)));have b2:Hid (w.heap.size+3<=(x.setCell ⟨d.heap.size,1,none⟩ (ii ip (n.first:Int))).heap.size):=lh (by simp[World.setCell];omega);have b7:=lh B;clear j q f A e2 e3 g' d5 d4 U h5 N z B;go_wp2_with fail;clear V X Y;generalize x.setCell ⟨d.heap.size,1,none⟩ (ii ip (n.first:Int))=c4 at *
 all_goals
  go_loopw [7] (λv wr=>aNx w w.heap.size (w.heap.size+1) d.heap.size g n r v wr) (λv _=>li n.l-(intOf v).toNat);·exact⟨0,si none 0 0,[],uB _,rfl,a5.o,a'.o,gD _ _ _ _,trivial,b0.o,b1.o,b2.o⟩
  obtain⟨k,b6,N,b7,rfl,I,c,f,A,C,B,b8⟩:=hrel;clear a5 a' b0 b1 b2;have V:=c.a 0;have a0:=c.a 1;have X:=c.a 2;have a':wr.cell? ⟨w.heap.size+1,1,none⟩=some (ij false):=(by obtain⟨_,_,j,_⟩:=id C;exact j.a 1);obtain⟨j,q,rfl,U,c1⟩:=jA f;have⟨p,h7,m,e5,k5,h8⟩:=hh6 I c f A C B;have b0:=a1.o.few;have b1:(((k:Nat):Int)<(li n.l:Int))↔k<li n.l:=(by omega);clear I c f A C B;by_cases z:k<li n.l
  ·obtain⟨i,s⟩:=gx (l:=n.l) z;have f:=a1.o.item i (kF s);have A:n.l.drop k=i::n.l.drop (k+1):=by
    obtain⟨u,D⟩:=uC.1 s;rw[xM u,D]
   have B:n.l.take (k+1)=n.l.take k++[i]:=(by obtain⟨u,D⟩:=uC.1 s;rw[jR u,D]);have c:=k5.o.fr ((jj [] wr).drew) (by simp) (by simp);rw[A,xG,uF]at c;have⟨HI,k6⟩:=hh2 (aSZ c f Z (by show g<wr.heap.size;omega)) B;clear s A B c f;go_wp2_with fail;refine aj (λW=>W.cell? ⟨d.heap.size,0,none⟩=some (ii ip (fA n))/\W.cell? ⟨d.heap.size,2,none⟩=some (si j k q)) [0,1,2,3,4,8] ?_;refine tks [0,1,2,3,4] ?_;iterate 5 (refine ac ⟨V,X⟩ ?_)
   refine tke ?_;refine ag 5 λK hK=>?_;refine kA (l:=[.tmp 47,.tmp 49]) rfl [pi (some ⟨w.heap.size+1,0,none⟩),ii ip (fA n)] rfl (aMg _) (HI.o.mono ?_);rintro e t ⟨A,B,rfl,D,H,J⟩;have u:Fr [w.heap.size+1] wr t:=((jj [w.heap.size+1] wr).drew).trans J;have Z:=m.o;have a3:=aG m.o;have L:∀b,(si j k q).ownBlock=some b->w.heap.size+3<=b:=λb c=>(m.o.lt b c).1;have a2:w.heap.size+1<d.heap.size/\d.heap.size<w.heap.size+3:=(by have:=y.o;omega);have C:=h7.o.fr u (by simp;omega);have I:=p.o.fr u;have⟨f7,f8,d5,d4⟩:=hh4 (fB m.o u (λb c=>by have:=L b c;simp;omega)) (e5.o.fr u (λb c f=>by have:=c.1;have:=xA.1 f;omega)) H (h8.o.trans u (λi s=>Ij (by simp at s;omega)));have Q:=u.size;have⟨k9,G,h'⟩:=hh3 D C I;have Y:=D.one;refine⟨_,rfl,hK _ _ (λ_=>⟨C.a 0,C.a 2⟩) ?_⟩;simp only[nrm];clear H J u C I hK D Z;refine ag 6 λK hK=>?_;obtain⟨c2,s,C,D,H⟩:=fF vK;refine qC (.tmp 50) rfl qJ s C [A,B,ii ip (i.at_:Int)] rfl D rfl (by simp) (by simp) (hK _ _ (λ_=>⟨(G.o.alloc _).a 0,(G.o.alloc _).a 2⟩) ?_);simp only[nrm];clear hK;have Z:=jl t 198 [A,B,ii ip (i.at_:Int)];have u:Fr [] t (t.alloc (iy [A,B,ii ip (i.at_:Int)].toArray 198)):=(jj [] t).alloc _;have U:(t.alloc (iy [A,B,ii ip (i.at_:Int)].toArray 198)).heap.size=t.heap.size+1:=(by simp);generalize t.alloc (iy [A,B,ii ip (i.at_:Int)].toArray 198)=x at *;have Q:(si j k q).ownBlock≠some d.heap.size:=λe=>(by have:=L _ e;omega);refine ag 7 λK hK=>?_;refine fC (.tmp 46) (.tmp 51) rfl 198 3 56 qJ s C D H rfl (by omega) (si j k q) k N rfl (kD (fB f7.o u (by simp)) (λ_ _=>uB _)) ⟨t.heap.size,0,none⟩ 1 1 [A,B,ii ip (i.at_:Int)] rfl rfl (λb5 F M=>by rw[Go.Addr.add_mid,nB];exact Z.at_ M) Y (by omega) (by unfold maxLen;omega) (by omega) (t.heap.size+1) U λs H I R C J a5=>hK _ _ (λ_=>⟨((G.o.fr u).fr C (by simpa using Q)).a 0,((G.o.fr u).fr C (by simpa using Q)).a 2⟩) ?_;simp only[nrm];clear hK;have D:∀b,b∈(si j k q).ownBlock.toList->w.heap.size+3<=b:=λb c=>L b (by simpa using c);have F:=(G.o.fr u).fr C (λf=>by have:=D _ f;omega);have a4:w.heap.size+3<=s:=by
    obtain h|h:=J;·exact L _ h
    omega
   have t:∀b,(si j k q).ownBlock=some b->b<wr.heap.size:=a3;have L:cG (λb=>w.heap.size+3<=b/\(si j k q).ownBlock≠some b/\b≠s) x (n.l.take k) N:=(f8.o.fr u (λb c f=>by cases f)).re (λb c a3=>⟨c.1,c.2,λe=>by
    obtain h|h:=J;·exact c.2 (by rw[e];exact h)
    omega⟩) ⟨w.heap.size+3+s+wr.heap.size,by omega,λe=>by have:=t _ e;omega,by omega⟩
   have M:ItC (λb=>w.heap.size+3<=b/\(si j k q).ownBlock≠some b/\b≠s) x i A B (ii ip (i.at_:Int)):=(k9.o.re (D':=λb=>w.heap.size+3<=b/\(si j k q).ownBlock≠some b/\b≠s) (λb (c:wr.heap.size<=b) a3=>⟨by omega,λe=>by have:=t _ e;omega,λe=>by
    obtain h|h:=J;·have:=t _ h;omega
    omega⟩) ⟨w.heap.size+3+s+wr.heap.size,by omega,λe=>by have:=t _ e;omega,by omega⟩).fr u (λb c f=>by cases f)
   refine tks [8] ?_;refine ac ⟨F.a 0,F.a 2⟩ ?_;refine tke ?_;refine ah 9 λK hK=>?_;refine rB (w':=I.setCell ⟨d.heap.size,2,none⟩ (si (some ⟨s,0,none⟩) (k+1) H)) (by have x:=F.a 2;have a3:=F.free 2;go_simp) (hK _ _ (λh=>absurd h (by decide +kernel)) ?_);simp only[Act.put];refine wd ?_ _;have t:Fr [d.heap.size] I (I.setCell ⟨d.heap.size,2,none⟩ (si (some ⟨s,0,none⟩) (k+1) H)):=(jj _ _).setCell (Ii (by simp)) _;have b2:=C.size;have HX:Hid (aNx w w.heap.size (w.heap.size+1) d.heap.size g n r (ii ip ((k:Int)+1)) (I.setCell ⟨d.heap.size,2,none⟩ (si (some ⟨s,0,none⟩) (k+1) H))):=lh ⟨k+1,si (some ⟨s,0,none⟩) (k+1) H,N++[A,B,ii ip (i.at_:Int)],z,by go_num,(((h'.o.fr u).fr C (λf=>by have:=D _ f;omega)).fr t (by simp;omega)),F.set_ 2 (si (some ⟨s,0,none⟩) (k+1) H),fB (kD R (λb c=>by have:s=b:=tE c;omega)) t (λb c f=>by have:s=b:=tE c;have:=xA.1 f;omega),by
     rw[k6.o];exact(((cG.append (l2:=[i]) (cs2:=[A,B,ii ip (i.at_:Int)]) L ⟨M,trivial⟩).fr C (λb c f=>absurd (by simpa using f) c.2.1)).fr t (λb c f=>by have:=c.1;have:=xA.1 f;omega)).weak (λb c=>⟨c.1,λe=>c.2.2 (tE e).symm⟩),
    ((d5.o.fr u (by simp) (by simp)).fr C (λf=>by have:=D _ f;omega) (λf=>by have:=D _ f;omega)).fr t (by simp;omega) (by simp;omega),
    ((d4.o.trans u).trans C (λb c=>Ij (by have:=D b c;omega))).trans t (λb c=>Ij (by simp at c;omega)),by simp[World.setCell];omega⟩
   clear hK t F C D R a4 Z u U Q Y L M J a5;generalize I.setCell ⟨d.heap.size,2,none⟩ (si (some ⟨s,0,none⟩) (k+1) H)=B at *;exact Z7
  obtain rfl:k=li n.l:=(by omega);have a2:=y.o;rw[a2]at V a0 X;have s:=p.o.a 0;have u:=p.o.a 1;have y:=p.o.a 2;have z:=p.o.free;have A:=p.o.lt;have t:Fr [w.heap.size] wr ((((wr.setCell ⟨w.heap.size,0,none⟩ (ii ip (fA n))).setCell ⟨w.heap.size,1,none⟩ (ii ip (n.first:Int))).setCell ⟨w.heap.size,2,none⟩ (si j (li n.l) q)).drew):=((((jj [w.heap.size] wr).setCell (Ii (by simp)) _).setCell (Ii (by simp)) _).setCell (Ii (by simp)) _).drew;have d:Hid (Blk ((((wr.setCell ⟨w.heap.size,0,none⟩ (ii ip (fA n))).setCell ⟨w.heap.size,1,none⟩ (ii ip (n.first:Int))).setCell ⟨w.heap.size,2,none⟩ (si j (li n.l) q)).drew) w.heap.size 184 [ii ip (fA n),ii ip (n.first:Int),si j (li n.l) q]):=lh (((p.o.set_ 0 (ii ip (fA n))).set_ 1 (ii ip (n.first:Int))).set_ 2 (si j (li n.l) q)).drew;have i:Hid (∃nv,iz (tl #[il #[ii ip (fA n),ii ip (n.first:Int),si j (li n.l) q],ij true])=iz (tl #[nv,ij true])/\NdV (λb=>w.heap.size<=b) ((((wr.setCell ⟨w.heap.size,0,none⟩ (ii ip (fA n))).setCell ⟨w.heap.size,1,none⟩ (ii ip (n.first:Int))).setCell ⟨w.heap.size,2,none⟩ (si j (li n.l) q)).drew) w.heap.size nv n/\Fr [] w ((((wr.setCell ⟨w.heap.size,0,none⟩ (ii ip (fA n))).setCell ⟨w.heap.size,1,none⟩ (ii ip (n.first:Int))).setCell ⟨w.heap.size,2,none⟩ (si j (li n.l) q)).drew)):=lh ⟨_,rfl,⟨si j (li n.l) q,N,rfl,kD (fB m.o t (λb c f=>by have:=(m.o.lt b c).1;have:=xA.1 f;omega)) (λb c=>by have:=(m.o.lt b c).1;omega),by have h:=e5.o;rw[zF (tA _)]at h;exact(h.fr t (λb c f=>by have:=c.1;have:=xA.1 f;omega)).weak (λb c=>⟨by have:=c.1;show w.heap.size<=b;omega,c.2⟩),λb c=>by have:=(m.o.lt b c).1;show w.heap.size<=b;omega⟩,h8.o.trans t (λb c=>Ij (by have:=xA.1 c;omega))⟩;clear t;go_wp2_with fail;go_region;all_goals go_wp2_with fail
  all_goals exact qD (vC rfl rfl d.o Go.Proofs.Tryz.underlying184 rfl xB) rfl (b9.o _ _ i.o)
theorem NdV.parts{D:Nat->Prop}{w:World}{v:Value}{n:Nd}(h:NdV D w k v n): ∃A c cs,v=il #[fA n,n.first,si A (li n.l) c]/\li n.l<=c/\w.ownsRow k 198 3 (si A (li n.l) c) (li n.l) cs/\cG D w n.l cs/\(0<li n.l->∃g,A=some ⟨g,0,none⟩/\∀(j:Nat) (u:Value),cs[j]? = some u->w.cell? ⟨g,j,none⟩=some u):=by obtain⟨i,cs,rfl,b,d,m⟩:=h;obtain⟨A,c,rfl,f,_⟩:=jA b;exact⟨A,c,cs,rfl,f,b,d.weak λf d=>d.1,λd=>tD b d⟩
theorem aBH(c:Nat):∀(A:List It) (y:It),qO c (A++[y])=y.at_
 | [],_=>rfl
 | x::A,y=>aBH x.at_ A y
theorem zN{D:Nat->Prop}{w:World}{k:Nat}{v:Value}{n:Nd}(h:NdV D w i v n)(C:k<=li n.l)(r:li n.l<=65536): RV 102 #[v,k] w (ii ip ((n.child k:Nat):Int)):=by
 obtain⟨A,c,cs,rfl,B,f,d,b⟩:=h.parts;by_cases h0:k=0;·subst h0;have e:n.child 0=n.first:=rfl;rw[e];go_enter func102,ntmps102;go_wp2;go_ret;exact⟨rfl,(jj [] w).alloc _⟩
 obtain⟨m,rfl⟩:∃m,k=m+1:=⟨k-1,by omega⟩;obtain⟨x,q⟩:∃x,n.l[m]? = some x:=gx (by omega);obtain⟨kv,vv,av,c0,c1,c2,j⟩:=d.at_ q;obtain⟨g,rfl,o⟩:=b (by omega);have p:=j.2.2;subst p;have y:=aA ((jj [] w).alloc (iy #[fA n,n.first,si g (li n.l) c] 184)) (o _ _ c2);have e:n.child (m+1)=x.at_:=by unfold Nd.child;obtain⟨h1,h2⟩:=uC.1 q;rw[jR h1,h2,aBH]
 rw[e];have s:(m:Int)+1-1=(m:Int):=by omega
 have t:(m:Int)<(li n.l:Int):=by omega
 have u:¬ ((m:Int)+1=0):=by omega
 have z:Wi ip ((m:Int)+1-1)=(m:Int):=ak;clear f d b o c0 c1 c2 j q e;go_enter func102,ntmps102;go_wp2;go_ret;exact⟨rfl,(jj [] w).alloc _⟩
theorem dW{f:It->Bool}:∀ {l:List It},l.Pairwise (λb d=>f b=true->f d=true)->(List.range (li l)).countP (λc=>!((l[c]?).map f).getD false)=li (l.takeWhile λb=>!f b)
 | [],_=>rfl
 | b::l,h=>by
  obtain⟨i,j⟩:=lF.1 h;have g:=dW j;rw[bD,List.range_succ_eq_map,List.countP_cons,List.countP_map];have e:((λc=>!(((b::l)[c]?).map f).getD false) ∘ Nat.succ)=λc=>!((l[c]?).map f).getD false:=rfl;rw[e,g];cases c:f b with
  | false=>rw[List.takeWhile_cons_of_pos (by simp[c])];simp[c]
  | true=>
   rw[aHr (by simp[c])];have g:l.takeWhile (λb=>!f b)=[]:=by
    cases l with
    | nil=>rfl
    | cons d l=>rw[aHr (by simp[i d (eC ..) c])]
   rw[g];simp[c]
theorem aTa(a b:Ky):(decide (0<Lib.compareBytes a b))=decide (klt b a):=by
 have e:klt b a↔0<Lib.compareBytes a b:=by have:=aEp a b;unfold klt;omega
 rw[lO,vQ,vQ];exact e.symm
theorem aEA(a b:Ky):(decide (0<=Lib.compareBytes a b)) = !decide (klt a b):=by
 have e:klt a b↔¬ 0<=Lib.compareBytes a b:=by unfold klt;omega
 rw[lO,vQ,lT,eI,e,Classical.not_not]
theorem aQV{w:World}{g i n c:Nat}{kv:Value}{key:Ky}(h2:w.cell? ⟨k,2,none⟩=some (si (some ⟨g,0,none⟩) n c))(D:w.cell? ⟨j,0,none⟩=some kv)(f:dA w kv key d) (hi:w.cell? ⟨g,i*3,none⟩=some v)(l:dA w v y s)(t:i<n)(_E:n<=65536): Calls prog 135 (#[ii ip (i:Int)]++#[pi (some ⟨k,0,none⟩),pi (some ⟨j,0,none⟩)]) w λe b=>e=iz (ij (decide (klt key y)))/\∃q,b=w.drewN q:=by
 have h:Hid (∀nq,Calls prog 133 #[v,kv] (w.drewN nq) λe b=>e=iz (ii ip (Lib.compareBytes y key))/\∃m,b=w.drewN m):=lh λnq=>aHt (by have p:=qN (l.fr ((jj [] w).drewN nq)) (f.fr ((jj [] w).drewN nq));exact p.mono λe b ⟨p,h2⟩=>⟨p,h2.symm⟩);have b:=aTa y key;have p:=lh b;obtain⟨u,x,z,rfl,_,_⟩:=f;obtain⟨A,B,C,rfl,_,_⟩:=l;generalize Lib.compareBytes y key=E at *;have r:(i:Int)<(n:Int):=by omega
 clear b;go_enter func135,ntmps135;go_wp2;go_quiet (first|with_reducible exact h.out _);go_wp2;go_ret;exact⟨by rw[<- p.o];rfl,_,rfl⟩
def aCp (l:List It):Prop:=l.Pairwise fun x y=>klt x.key y.key
theorem aMh(b:Array Value)(w:World):(callFunc 135 b).run prog w=.ok (.enter 135 b) w:=by kernel_rfl
theorem aHZ(b:Array Value)(w:World):(callFunc 140 b).run prog w=.ok (.enter 140 b) w:=by kernel_rfl
theorem aNy{f:It->Bool}{l:List It}(h:l.Pairwise (λc d=>f c=true->f d=true)):∀a b,a<=b->b<li l->((l[a]?).map f).getD false=true->((l[b]?).map f).getD false=true:=by
 intro a b g d c;obtain i|rfl:=Nat.lt_or_eq_of_le g;·have g:=List.pairwise_iff_getElem.1 h a b (by omega) d i;rw[kE (by omega)]at c;rw[kE d];exact g c
 exact c
theorem Z52{P:Prop} (h:P:=by
 rw[hwb];have:=Blk.new (w.alloc (.cells #[.int .i64 (fA n),.int .i64 (n.first:Int),.slice A n.l.length c] 184)) 67 [kv]
 rwa [qB] at this):P:=h
theorem aIa{D:Nat->Prop}{w:World}{v kv:Value}{n:Nd}{key:Ky}(h:NdV D w k v n)(u:dA w kv key j)(H:aCp n.l)(m:li n.l<=65536): RV 101 #[v,kv] w (ii ip ((n.way key:Nat):Int)):=by
 obtain⟨A,c,E,rfl,F,G,x,y⟩:=h.parts;obtain⟨b,hwb⟩:=nm ((w.alloc (iy #[fA n,n.first,si A (li n.l) c] 184)).alloc (iy #[kv] 67));have p:Fr [] w b:=by rw[hwb];exact((jj [] w).alloc _).alloc _
 have s:Blk b w.heap.size 184 [fA n,n.first,si A (li n.l) c]:=by rw[hwb];exact(jl w _ [fA n,n.first,si A (li n.l) c]).alloc _
 have t:Blk b (w.heap.size+1) 67 [kv]:=by exact Z52
 have r:=aFZ (w:=b) (g:=135) (cb:=#[pi w,pi (some (w.heap.size+1:Nat))]) (n:=li n.l) (λd=>((n.l[d]?).map λb=>decide (klt key b.key)).getD false) aMh m (λC i d q=>by
   obtain⟨b,d⟩:=gx (l:=n.l) q;obtain⟨I,J,N,z,O,Q,B⟩:=x.at_ d;obtain⟨g,rfl,x⟩:=y (by omega);obtain⟨S,y,_⟩:=B.1;rw[d];exact aQV (s.fr i (by simp) |>.a 2) ((t.fr i).a 0) ((u.fr p).fr i) (aA (p.trans i) (x _ _ z)) ((y.fr p).fr i) q m)
  (aNy (H.imp λ{b s} q d=>by rw[vQ]at d⊢;exact qE d q))
 rw[dW (f:=λb=>decide (klt key b.key)) (H.imp λ{b s} q d=>by rw[vQ]at d⊢;exact qE d q)]at r;have⟨L,M⟩:=hh2 r p;have e:li (n.l.takeWhile λb=>!decide (klt key b.key))=n.way key:=rfl;rw[<- e];obtain⟨d,p,q,rfl,_,_⟩:=u;go_enter func101,ntmps101;go_wp2_with fail;rw[<- hwb];refine L.o.mono ?_;rintro e C ⟨rfl,i⟩;have b:=lh (M.o.trans i);go_wp2;go_ret;exact⟨rfl,b.o⟩
theorem aMi{w:World}{g i n c:Nat}{kv:Value}{key:Ky}(h2:w.cell? ⟨k,2,none⟩=some (si (some ⟨g,0,none⟩) n c))(C:w.cell? ⟨j,0,none⟩=some kv)(b:dA w kv key d) (hi:w.cell? ⟨g,i*3,none⟩=some v)(f:dA w v y s)(r:i<n)(_D:n<=65536): Calls prog 140 (#[ii ip (i:Int)]++#[pi (some ⟨k,0,none⟩),pi (some ⟨j,0,none⟩)]) w λe h=>e=iz (ij (!decide (klt y key)))/\∃q,h=w.drewN q:=by
 have l:Hid (∀nq,Calls prog 133 #[v,kv] (w.drewN nq) λe h=>e=iz (ii ip (Lib.compareBytes y key))/\∃m,h=w.drewN m):=lh λnq=>aHt (by have p:=qN (f.fr ((jj [] w).drewN nq)) (b.fr ((jj [] w).drewN nq));exact p.mono λe h ⟨p,h2⟩=>⟨p,h2.symm⟩);have h:=lh (aEA y key);obtain⟨t,u,x,rfl,_,_⟩:=b;obtain⟨z,A,B,rfl,_,_⟩:=f;generalize Lib.compareBytes y key=D at *;have p:(i:Int)<(n:Int):=by omega
 go_enter func140,ntmps140;go_wp2;go_quiet (first|with_reducible exact l.out _);go_wp2;go_ret;exact⟨by rw[<- h.o];rfl,_,rfl⟩
theorem aEB{l:List It}{key:Ky}:lB l key<li l/\(∃x,l[lB l key]? = some x/\gP l key=decide (x.key=key))∨lB l key=li l/\gP l key=false:=by
 unfold lB gP;have d:=xR (p:=λb=>decide (klt b.key key)) (l:=l);generalize l.takeWhile (λb=>decide (klt b.key key))=f at *;generalize l.dropWhile (λb=>decide (klt b.key key))=c at *;subst d;cases c with
 | nil=>exact Ij ⟨by simp,rfl⟩
 | cons b c=>exact Ii ⟨by simp,b,by simp,rfl⟩
theorem aEC{D:Nat->Prop}{w:World}{v kv:Value}{n:Nd}{key:Ky}(h:NdV D w j v n)(F:dA w kv key d)(hs:aCp n.l)(u:li n.l<=65536): RV 109 #[v,kv] w (tl #[ii ip ((lB n.l key:Nat):Int),ij (gP n.l key)]):=by
 obtain⟨A,c,cs,rfl,hc,a0,t,p⟩:=h.parts;obtain⟨J,hwb⟩:=nm ((w.alloc (iy #[fA n,n.first,si A (li n.l) c] 184)).alloc (iy #[kv] 67));have b:Fr [] w J:=by rw[hwb];exact((jj [] w).alloc _).alloc _
 have b1:Blk J w.heap.size 184 [fA n,n.first,si A (li n.l) c]:=by rw[hwb];exact(jl w _ [fA n,n.first,si A (li n.l) c]).alloc _
 have b2:Blk J (w.heap.size+1) 67 [kv]:=by exact Z52
 have G:n.l.Pairwise λx y=>(!decide (klt x.key key))=true->(!decide (klt y.key key))=true:=hs.imp λ{x y} Y B=>by rw[lT,eI]at B⊢;exact λhy=>B (qE Y hy)
 have z:=aFZ (w:=J) (g:=140) (cb:=#[pi w,pi (some (w.heap.size+1:Nat))]) (n:=li n.l) (λi=>((n.l[i]?).map λx=>!decide (klt x.key key)).getD false) aHZ u (λw' q i hi=>by
   obtain⟨x,B⟩:=gx (l:=n.l) hi;obtain⟨I,W,X,c0,c1,c2,C⟩:=t.at_ B;obtain⟨g,rfl,E⟩:=p (by omega);obtain⟨gi,s,_⟩:=C.1;rw[B];exact aMi (b1.fr q (by simp) |>.a 2) ((b2.fr q).a 0) ((F.fr b).fr q) (aA (b.trans q) (E _ _ c0)) ((s.fr b).fr q) hi u)
  (aNy G)
 rw[dW (f:=λx=>!decide (klt x.key key)) G]at z;have e:li (n.l.takeWhile λx=>!!decide (klt x.key key))=lB n.l key:=by unfold lB;simp only[Bool.not_not]
 rw[e]at z;have HS:=lh z;have HF:=lh b;have L:=lh b1;have M:=lh b2;have HC:=lh p;have HI:=lh t;have N:=lh (F.fr b);have O:=aEB (l:=n.l) (key:=key);have Q:=lh O;generalize lB n.l key=k at *;generalize gP n.l key=is at *;obtain⟨Ak,ck,ok,rfl,_,_⟩:=F;go_enter func109,ntmps109;go_wp2_with fail;rw[<- hwb];refine HS.o.mono ?_;rintro e w' ⟨rfl,q⟩;have r:=lh (HF.o.trans q);have S:=L.o.fr q;have T:=M.o.fr q;have k2:=S.a 2;have kk:=T.a 0;have H:=lh (N.o.fr q);obtain⟨a1,x,B,rfl⟩|⟨rfl,rfl⟩:=Q.o
 ·obtain⟨I,W,X,c0,c1,c2,C⟩:=HI.o.at_ B;obtain⟨g,rfl,E⟩:=HC.o (by omega);obtain⟨gi,s,_⟩:=C.1;have ki:=aA r.o (E _ _ c0);have r1:Hid (∀nq,Calls prog 130 #[I,si Ak (li key) ck] (w'.drewN nq) λe Z=>e=iz (ij (decide (x.key=key)))/\∃m,Z=w'.drewN m):=lh λnq=>aHt (by
   have h:=aCm ((s.fr r.o).fr ((jj [] w').drewN nq)) (H.o.fr ((jj [] w').drewN nq));exact h.mono λe w' ⟨h1,h2⟩=>⟨h1,h2.symm⟩)
  have U:(k:Int)<(li n.l:Int):=by omega
  obtain⟨Ai,ci,oi,rfl,_,_⟩:=s;generalize hdd:decide (x.key=key)=is at *;have V:=lh hdd;go_wp2_with fail;go_quiet (first|with_reducible exact r1.out _);go_wp2;go_ret2;exact⟨by rw[V.o];rfl,r.o.drewN _⟩
 have U:¬ ((li n.l:Int)<(li n.l:Int)):=by omega
 go_wp2_with fail;go_quiet (first|fail);go_wp2;go_ret2;exact⟨rfl,r.o.drewN _⟩
theorem Z39{P:Prop} (h:P:=by
 rw[hlf];rfl
 rw[hkn] at HF HL;rw[hkn];clear hkn hlf
 go_enter func213,ntmps213
 go_wp2_with fail;refine HL.o.mono ?_;rintro e w' ⟨rfl,rfl⟩
 go_wp2
 go_ret
 exact⟨by unfold ibn;simp,HF.o⟩):P:=h
theorem aJH{w:World}{a b:Value}(n:Nd){kv vv av:Value}{x:It}(t:dA w kv x.key k)(u:dA w vv x.v i)(h1:li x.key<=65536)(h2:li x.v<=65536)(y:av=ii ip (x.at_:Int)): RV 213 #[il #[ii ip (fA n),a,b],il #[kv,vv,av]] w (ii ip ((ibn n.lf x:Nat):Int)):=by
 obtain⟨g,h,r,rfl,_,_⟩:=t;obtain⟨j,l,s,rfl,_,_⟩:=u;subst y;have m:Wi ip (2+(li x.key:Int))=2+(li x.key:Int):=by rw[yB];omega
 have p:Wi ip (2+(li x.key:Int)+(li x.v:Int))=2+(li x.key:Int)+(li x.v:Int):=by rw[yB];omega
 have q:Wi ip (3+(li x.key:Int))=3+(li x.key:Int):=by rw[yB];omega
 have c:Fr [] w ((((w.alloc (iy #[ii ip (fA n),a,b] 184)).alloc (iy #[si g (li x.key) h,si j (li x.v) l,ii ip (x.at_:Int)] 198))).alloc (iy #[ii ip (fA n),a,b] 184)):=(((jj [] w).alloc _).alloc _).alloc _;have d:=lh c;have f:=lh (pI ((w.alloc (iy #[ii ip (fA n),a,b] 184)).alloc (iy #[si g (li x.key) h,si j (li x.v) l,ii ip (x.at_:Int)] 198)) (fA n) a b);clear c h1 h2;cases g:n.lf with
 | true=>
  have c:fA n=1:=by unfold fA;rw[g];rfl
  rw[c]at d f;rw[c];clear c g;go_enter func213,ntmps213;go_wp2_with fail;refine f.o.mono ?_;rintro e h ⟨rfl,rfl⟩;go_wp2;go_ret;exact⟨by unfold ibn;simp,d.o⟩
 | false=>
  have c:fA n=2:=by unfold fA;rw[g];rfl
  rw[c]at d f;rw[c];clear c g;go_enter func213,ntmps213;go_wp2_with fail;refine f.o.mono ?_;rintro e h ⟨rfl,rfl⟩;go_wp2;go_ret;exact⟨by unfold ibn;simp,d.o⟩
def aNz (wb:World) (n:Nd) (b0:Nat) (v3 v14:Value) (wr:World):Prop:=∃k S:Nat,k<=n.l.length/\v14=.int .i64 (k:Int)/\v3=.int .i64 (S:Int)/\S=b0+aF n.lf (n.l.take k)/\Fr [] wb wr
theorem aTb(n:Nd):(3:Int)+2*(fA n-1)=((if n.lf then 3 else 5:Nat):Int):=by unfold fA;cases n.lf<;>rfl
theorem aGa{n:Nd}(h:n.ok){x:It}(b:x∈n.l):ibn n.lf x<=162:=by have:=aHT (h.item x b);split at this<;>omega
theorem aBI{l:List It}{k:Nat}{x:It}(b:l[k]? = some x):l.take (k+1)=l.take k++[x]:=by obtain⟨c,d⟩:=uC.1 b;rw[jR c,d]
theorem aGb{lf:Bool}{l:List It}{k:Nat}{x:It}(b:l[k]? = some x):aF lf (l.take (k+1))=aF lf (l.take k)+ibn lf x:=by rw[aBI b,gC];rfl
theorem aCN{D:Nat->Prop}{w:World}{v:Value}{n:Nd}(h:NdV D w i v n)(a0:n.ok)(a1:n.size<=65536): RV 188 #[v] w (ii ip ((n.size:Nat):Int)):=by
 obtain⟨A,c,cs,rfl,hc,Q,t,j⟩:=h.parts;clear h;obtain⟨wb,p⟩:=nm (w.alloc (iy #[ii ip (fA n),ii ip (n.first:Int),si A (li n.l) c] 184));have E:Fr [] w wb:=by rw[p];exact(jj [] w).alloc _
 have d:Blk wb w.heap.size 184 [ii ip (fA n),ii ip (n.first:Int),si A (li n.l) c]:=by rw[p];exact jl w _ [ii ip (fA n),ii ip (n.first:Int),si A (li n.l) c]
 have a7:Wi ip (fA n-1)=fA n-1:=by rw[yB];unfold fA;split<;>omega
 have a8:Wi ip (2*(fA n-1))=2*(fA n-1):=by rw[yB];unfold fA;split<;>omega
 have a9:Wi ip (3+2*(fA n-1))=((if n.lf then 3 else 5:Nat):Int):=by rw[yB,aTb];split<;>omega
 generalize hb0:(if n.lf then 3 else 5:Nat)=b0 at *;have a':=lh hb0;have HS:Hid (n.size=b0+aF n.lf n.l):=lh (by rw[cF,hb0]);have a2:=lh a1;have k0:=d.a 0;have k1:=d.a 1;have k2:=d.a 2;have HB:=lh d;have F:=lh E;have HC:=lh j;have HI:=lh t;have u:=lh a0;have b1:=lh p;clear hb0 d E j t Q a0 a1;go_enter func188,ntmps188;go_wp2_with fail;rw[<- p];go_loopw [3,14] (aNz wb n b0) (λ_ v _=>li n.l-(intOf v).toNat);·exact⟨0,b0,uB _,rfl,rfl,by simp[aF],jj _ _⟩
 obtain⟨k,S,hk,rfl,rfl,hS,B⟩:=hrel;have y:=lh hS;clear hS;clear k0 k1 k2;have d:=HB.o.fr B;have k0:=d.a 0;have k1:=d.a 1;have k2:=d.a 2;have m:=lh B;have a3:=lh d;have a6:((k:Int)<(li n.l:Int))↔k<li n.l:=by omega
 clear d B;by_cases Z:k<li n.l
 ·obtain⟨x,hx⟩:=gx (l:=n.l) Z;have z:=kF hx;obtain⟨kv,vv,av,c0,c1,c2,C⟩:=HI.o.at_ hx;obtain⟨g,rfl,q⟩:=HC.o (by omega);have f:=F.o.trans m.o;have i0:=aA f (q _ _ c0);have i1:=aA f (q _ _ c1);have i2:=aA f (q _ _ c2);have G:=lh (C.fr f);have H:=lh C.one;have b2:=lh (aGa u.o z);have I:=lh (u.o.item x z);have J:=lh (aGb (lf:=n.lf) hx);have a4:Hid (aF n.lf (n.l.take (k+1))<=aF n.lf n.l):=lh (by have:=pP n.lf n.l (k+1);omega);clear hx z q C f c0 c1 c2;go_wp2_with (first
   | (with_reducible refine qA rfl 198 rfl (il #[si none 0 0,si none 0 0,ii ip 0]) zit.toArray aR rfl ?_)
   | (refine zA (W:=wr) rfl 198 (.tmp 5) (.tmp 17) rfl [kv,vv,av] rfl rfl rfl mH rfl H.o ?_))
  intro w3 Y r a5;have L:=a3.o.fr r;have s:=lh (G.o.fr r);have M:=lh (m.o.trans r);have N:=lh L;have O:=lh Y;obtain⟨⟨gk,T,_⟩,⟨gv,U,_⟩,V⟩:=s.o;have HR:=lh (aJH (w:=w3) (a:=ii ip (n.first:Int)) (b:=si (some ⟨g,0,none⟩) (li n.l) c) n T U (by have:=I.o.k2;omega) (by have:=I.o.v;omega) V);clear L Y r a5 i0 i1 i2 G s m T U V;clear k0 k1 k2;go_wp2_with (first
   | (refine lQ rfl 184 (.tmp 1) rfl rfl N.o Go.Proofs.Tryz.underlying184 rfl xB ?_)
   | (refine lQ rfl 198 (.tmp 5) rfl rfl O.o aDq rfl mH ?_))
  refine HR.o.mono ?_;rintro e w4 ⟨rfl,X⟩;have hw:Wi ip ((S:Int)+((ibn n.lf x:Nat):Int))=(S:Int)+((ibn n.lf x:Nat):Int):=(by have h1:=J.o;have h2:=a4.o;have h3:=HS.o;have h4:=a2.o;have h5:=y.o;rw[yB];omega);have b3:Wi ip ((k:Int)+1)=(k:Int)+1:=(by have h1:=u.o.few;rw[yB];omega);have HX:Hid (aNz wb n b0 (ii ip ((S:Int)+((ibn n.lf x:Nat):Int))) (ii ip ((k:Int)+1)) w4):=lh ⟨k+1,S+ibn n.lf x,Z,rfl,rfl,by rw[J.o,y.o];omega,M.o.trans X⟩;clear X M N O HR H hk;generalize ibn n.lf x=s1 at *;exact Z7
 obtain rfl:k=li n.l:=(by omega);have e:S=n.size:=(by rw[y.o,zF (tA _),HS.o]);subst e;have HX:Hid (Fr [] w wr):=lh (F.o.trans m.o);clear k0 k1 k2;go_wp2;go_ret;exact⟨rfl,HX.o⟩
theorem aJI(b:Array Value)(w:World):(callFunc 213 b).run prog w=.ok (.enter 213 b) w:=by kernel_rfl
def aNA (wb:World) (n:Nd) (v4 v5:Value) (wr:World):Prop:=∃k S:Nat,k<=n.l.length-1/\v4=.int .i64 (k:Int)/\v5=.int .i64 (S:Int)/\S=aF n.lf (n.l.take k)/\kQ n.lf (n.size-3) n.l 0 0=kQ n.lf (n.size-3) (n.l.drop k) k S/\Fr [] wb wr
theorem aTc{D:Nat->Prop}{w:World}{v:Value}{n:Nd}(h:NdV D w i v n)(u:n.ok)(O:n.size<=65536): RV 214 #[v] w (ii ip ((n.half:Nat):Int)):=by
 obtain⟨A,c,cs,rfl,hc,a3,z,p⟩:=h.parts;obtain⟨wb,J⟩:=nm (w.alloc (iy #[ii ip (fA n),ii ip (n.first:Int),si A (li n.l) c] 184));have B:Fr [] w wb:=by rw[J];exact(jj [] w).alloc _
 have d:Blk wb w.heap.size 184 [ii ip (fA n),ii ip (n.first:Int),si A (li n.l) c]:=by rw[J];exact jl w _ [ii ip (fA n),ii ip (n.first:Int),si A (li n.l) c]
 have P:=lh (aCN (h.fr B) u O);have h3:3<=n.size:=by rw[cF];split<;>omega
 have C:=lh (And.intro O h3);have a':Hid (aF n.lf n.l<=n.size):=lh (by rw[cF];omega);have Q:=d.a 0;have T:=d.a 1;have U:=d.a 2;have HB:=lh d;have V:=lh B;have HC:=lh p;have HI:=lh z;have E:=lh u;have b5:Wi ip ((n.size:Int)-3)=(n.size:Int)-3:=ak;have b6:Wi ip ((li n.l:Int)-1)=(li n.l:Int)-1:=by have:=u.few;rw[yB];omega
 clear d B p z a3 u O h h3;go_enter func214,ntmps214;go_wp2_with fail;rw[<- J];refine P.o.mono ?_;rintro e w1 ⟨rfl,L⟩;have X:=lh (V.o.trans L);have b0:=lh (HB.o.fr L);clear L P V HB Q T U;go_wp2_with fail;go_loopw [4,5] (aNA w1 n) (λv _ _=>li n.l-(intOf v).toNat);·exact⟨0,0,uB _,rfl,rfl,by simp[aF],rfl,jj _ _⟩
 obtain⟨k,S,hk,rfl,rfl,hS,a4,M⟩:=hrel;have d:=b0.o.fr M;have Q:=d.a 0;have T:=d.a 1;have U:=d.a 2;have F:=lh M;have b7:=lh d;have Y:=lh a4;have b4:S<=65536:=by have h1:=pP n.lf n.l k;have h2:=a'.o;have h3:=C.o;omega
 have b1:=lh hS;have b8:Wi ip (2*(S:Int))=2*(S:Int):=ak;clear d M hS a4;by_cases r:k<li n.l-1/\2*S<n.size-3
 ·obtain⟨s,m⟩:=r;obtain⟨x,N⟩:∃x,n.l[k]? = some x:=gx (by omega);have G:=kF N;obtain⟨kv,vv,av,c0,c1,c2,a5⟩:=HI.o.at_ N;obtain⟨g,rfl,t⟩:=HC.o (by omega);have f:=X.o.trans F.o;have i0:=aA f (t _ _ c0);have i1:=aA f (t _ _ c1);have i2:=aA f (t _ _ c2);have b2:=aGa E.o G;have H:=E.o.item x G;have Z:=aGb (lf:=n.lf) N;have a0:kQ n.lf (n.size-3) (n.l.drop k) k S=kQ n.lf (n.size-3) (n.l.drop (k+1)) (k+1) (S+ibn n.lf x):=by
   obtain⟨h1,h2⟩:=uC.1 N;have h3:n.l.drop k=x::n.l.drop (k+1):=(by rw[xM h1,h2]);have h4:n.l.drop (k+1)≠[]:=(by intro e;have:=List.drop_eq_nil_iff.1 e;omega);rw[h3];generalize n.l.drop (k+1)=q at *;cases q with
   | nil=>exact absurd rfl h4
   | cons y q=>rw[kQ,iA m]
  have a1:=a5.fr f;obtain⟨⟨gk,a6,_⟩,⟨gv,a7,_⟩,a8⟩:=a1;have r1:Hid (∀nq,Calls prog 213 #[il #[ii ip (fA n),ii ip (n.first:Int),si (some ⟨g,0,none⟩) (li n.l) c],il #[kv,vv,av]] (wr.drewN nq) λe a9=>e=iz (ii ip ((ibn n.lf x:Nat):Int))/\Fr [] wr a9):=lh λnq=>(aJH n (a6.fr ((jj [] wr).drewN nq)) (a7.fr ((jj [] wr).drewN nq)) (by have:=H.k2;omega) (by have:=H.v;omega) a8).mono λe a9 ⟨h1,h2⟩=>⟨h1,((jj [] wr).drewN nq).trans h2⟩;have hw:Wi ip ((S:Int)+((ibn n.lf x:Nat):Int))=(S:Int)+((ibn n.lf x:Nat):Int):=ak;have b9:Wi ip ((k:Int)+1)=(k:Int)+1:=(by have h1:=E.o.few;rw[yB];omega);have g1:(k:Int)<(li n.l:Int)-1:=(by omega);have g2:2*(S:Int)<(n.size:Int)-3:=(by have:=C.o.2;omega);have g3:(k:Int)<(li n.l:Int):=(by omega);have HX:Hid (∀w4,Fr [] wr w4->aNA w1 n (ii ip ((k:Int)+1)) (ii ip ((S:Int)+((ibn n.lf x:Nat):Int))) w4):=lh λw4 b=>⟨k+1,S+ibn n.lf x,by omega,rfl,rfl,by rw[Z,b1.o],by rw[Y.o,a0],F.o.trans b⟩;have b':li n.l-k > 0:=(by omega);obtain⟨Ak,ck,ok,rfl,_,_⟩:=a6;obtain⟨Av,cv,ov,rfl,_,_⟩:=a7;subst a8;have c3:=lh g3;clear N G t a5 f c0 c1 c2 a0 Z b2 H m;generalize ibn n.lf x=s1 at *;go_wp2_with fail;refine aj (λW=>W.cell? ⟨w.heap.size,0,none⟩=some (ii ip (fA n))/\W.cell? ⟨w.heap.size,1,none⟩=some (ii ip (n.first:Int))/\W.cell? ⟨w.heap.size,2,none⟩=some (si (some ⟨g,0,none⟩) (li n.l) c)/\W.cell? ⟨g,k*3,none⟩=some (si Ak (li x.key) ck)/\W.cell? ⟨g,k*3+1,none⟩=some (si Av (li x.v) cv)/\W.cell? ⟨g,k*3+2,none⟩=some (ii ip (x.at_:Int))) [0,1,2,3,4,5,6,8] ?_;refine tks [0,1,2,3,4,5,6] ?_;iterate 7 (refine ac ⟨Q,T,U,i0,i1,i2⟩ ?_)
  refine tke ?_;refine ag 7 λK hK=>kA (l:=[.tmp 22,.tmp 27]) rfl [il #[ii ip (fA n),ii ip (n.first:Int),si (some ⟨g,0,none⟩) (li n.l) c],il #[si Ak (li x.key) ck,si Av (li x.v) cv,ii ip (x.at_:Int)]] rfl (aJI _) ((r1.out 1).mono ?_);rintro e w4 ⟨rfl,b⟩;refine⟨_,rfl,hK _ _ (λ_=>⟨aA b Q,aA b T,aA b U,aA b i0,aA b i1,aA b i2⟩) ?_⟩;simp only[nrm];clear hK;refine tks [8] (ac ⟨aA b Q,aA b T,aA b U,aA b i0,aA b i1,aA b i2⟩ ?_);refine tke ?_;refine af 9 (λh=>absurd h (by decide +kernel)) ?_;refine wd ?_ _;have b3:=lh (HX.o w4 b);clear b r1 HX;go_wp2_with fail;go_roundw
  case rel=>exact b3.o
  case measure=>simp[intOf];omega
 have j:n.half=max k 1:=by
  unfold Nd.half;rw[Y.o];congr 1;by_cases s:k<li n.l-1
  ·have m:¬ 2*S<n.size-3:=λh=>r ⟨s,h⟩;obtain⟨x,N⟩:∃x,n.l[k]? = some x:=gx (by omega);obtain⟨h1,h2⟩:=uC.1 N;have h3:n.l.drop k=x::n.l.drop (k+1):=(by rw[xM h1,h2]);rw[h3];generalize n.l.drop (k+1)=q;cases q with
   | nil=>rfl
   | cons y q=>rw[kQ,eA m]
  have h3:li (n.l.drop k)<=1:=(by rw[vB];omega);generalize n.l.drop k=q at *;match q,h3 with
  | [],_=>rfl
  | [_],_=>rfl
  | _::_::_,h=>simp at h
 have HX:Hid (Fr [] w wr):=lh (X.o.trans F.o);have I:¬ ((k:Int)<(li n.l:Int)-1/\2*(S:Int)<(n.size:Int)-3):=λ⟨h1,h2⟩=>r ⟨by omega,by have:=C.o.2;omega⟩;have a2:((max k 1:Nat):Int)=max (k:Int) 1:=(by omega);have HH:Hid (((n.half:Nat):Int)=max (k:Int) 1):=lh (by rw[j,a2]);clear j a2;by_cases s:(k:Int)<(li n.l:Int)-1;·have m:¬ 2*(S:Int)<(n.size:Int)-3:=λh=>I ⟨s,h⟩;clear I r;go_wp2;go_ret;exact⟨by rw[HH.o];rfl,HX.o⟩
 clear I r;go_wp2;go_ret;exact⟨by rw[HH.o];rfl,HX.o⟩
theorem aB{S:List Nat}{w w':World}(h:Fr S w w'){p:Addr}{v:Value}(c:p.block∉S)(b:w.cell? p=some v):w'.cell? p=some v:=by rw[h.cell (xF w _ b) c];exact b
theorem aGc(A:Option Addr)(n c hi:Nat)(h:hi<=c):∀w,(Instr.sliceAt 182 (si A n c) none (some (ii ip (hi:Int))) none).run prog w=.ok (si A hi c) w:=by
 intro w;have ht:prog.underlying 182=some (.slice 198):=qJ;have hel:prog.elem 182=198:=by simp[Program.elem,ht]
 obtain⟨f,b,d⟩:=mI.1 mH;have h5:∀w,(sizeOf 198).run prog w=.ok 3 w:=λw=>by simp[sizeOf,typeInfo,go_sem,b,d]
 exact Z36
theorem aCq(g n c lo:Nat)(x:Int)(k:x=(lo:Int))(h1:lo<=n)(h2:lo<c):∀w,(Instr.sliceAt 182 (si g n c) (some (ii ip x)) none none).run prog w=.ok (si (some ⟨g,lo*3,none⟩) (n-lo) (c-lo)) w:=by
 intro w;subst k;have ht:prog.underlying 182=some (.slice 198):=qJ;have b:prog.elem 182=198:=by simp[Program.elem,ht]
 obtain⟨j,f,i⟩:=mI.1 mH;have d:∀w,(sizeOf 198).run prog w=.ok 3 w:=λw=>by simp[sizeOf,typeInfo,go_sem,f,i]
 rw[Go.run_sliceAt_slice (h:=by rw[b];exact ht),run_slice_l (ht:=by rw[b];exact ht) (h0:=by omega) (h1:=by omega),b,d];simp[Result.andThen,sliced,Addr.add,show ¬ c=lo by omega];exact λh=>h.symm
theorem NdV.make{D:Nat->Prop}{w0 w':World}{d:Value}{n:Nd}{cs:List Value}(c:cG D w0 n.l cs)(b:w'.ownsRow w0.heap.size 198 3 d (li n.l) cs)(k:Fr [] w0 w')(f:∀q,w0.heap.size<=q->D q): NdV D w' w0.heap.size (il #[fA n,n.first,d]) n:=by refine⟨d,cs,rfl,b,(c.re (D':=λq=>D q/\d.ownBlock≠some q) (λq d h=>⟨d,λe=>by have:=(b.lt q e).1;omega⟩) ⟨w0.heap.size+w'.heap.size,f _ (by omega),λe=>by have:=aG b _ e;omega⟩).fr k (λq d g=>by cases g),λd g=>f d (b.lt d g).1⟩
theorem aCr{P:Program}{m:Func}{tmps:Array Value}{w:World}{k b h:Tmp}{t t':TypeId}{g:Nat}{cs:List Value}{d:TypeDesc}(r:m.results=#[.cell k t,.tmp b,.cell h t])(s:tmps.getD k undef=pi g)(i:tmps.getD h undef=pi n)(u:Blk w g t' cs)(j:Blk w n T F) (p:P.underlying t=some d)(v:d.isRow=true)(hi:(P.info? t).map (·.size)=some (li cs))(l:li F=li cs):(results m tmps).run P w=.ok (tl #[il cs.toArray,tmps.getD b undef,il F.toArray]) w:=by
 have b:=Go.run_loadVar_row (P:=P) w g t' t cs.toArray (0,0) d u p (by cases d<;>simp_all) (by simpa using hi);have c:=Go.run_loadVar_row (P:=P) w n T t F.toArray (0,0) d j p (by cases d<;>simp_all) (by simpa[l]using hi);have f:tmps[k]?.getD undef=pi g:=by simpa using s
 have o:tmps[h]?.getD undef=pi n:=by simpa using i
 simp[results,r,f,b,o,c,asAddr]
theorem iJ(b:Array Value)(w:World):(callFunc 131 b).run prog w=.ok (.enter 131 b) w:=by kernel_rfl
theorem aUa{w:World}{g c k:Nat}{l:List It}{cs:List Value}(d:li cs=li l*3)(b:∀(j:Nat) (u:Value),cs[j]? = some u->w.cell? ⟨g,j,none⟩=some u)(f:k<=li l)(h:li l<=c): kH w (si g k c) k (cs.take (3*k)) g/\li (cs.take (3*k))=k*3:=⟨⟨_,c,0,rfl,by omega,λ_=>⟨rfl,λj u i=>by rw[nB];have m:=(uC.1 i).1;rw[List.getElem?_take_of_lt (by rw[pB]at m;omega)]at i;exact b j u i⟩⟩,by rw[pB];omega⟩
theorem aNB{w:World}{g c k:Nat}{l:List It}{cs:List Value}(d:li cs=li l*3)(b:∀(j:Nat) (u:Value),cs[j]? = some u->w.cell? ⟨g,j,none⟩=some u)(f:k<=li l)(h:li l<=c): kH w (si (some ⟨g,k*3,none⟩) (li l-k) (c-k)) (li l-k) (cs.drop (3*k)) g/\li (cs.drop (3*k))=(li l-k)*3:=⟨⟨_,c-k,k*3,rfl,by omega,λ_=>⟨rfl,λj u i=>by rw[zK,Nat.mul_comm]at i;exact b _ u i⟩⟩,by rw[vB];omega⟩
def aQW (D:Nat->Prop) (w:World) (n:Nd) (e:Ending) (w':World):Prop:=∃lv kv rv,e=.returned (.tuple #[lv,kv,rv])/\NdV D w' w.heap.size lv n.left/\(∃g,dA w' kv n.key g/\D g)/\NdV D w' w.heap.size rv n.right/\Fr [] w w'
theorem Z54{P:Prop} (h:P:=by
 clear hf5' hf57 hfw ho7 ho7' el er hown5 hf5 hf6 hf7 hf4';go_wp2_with fail;exact qD (aCr rfl rfl rfl hb27 hb7 Go.Proofs.Tryz.underlying184 rfl xB rfl) rfl HE.o):P:=h
theorem aJJ{D:Nat->Prop}{w:World}{v:Value}{n:Nd}(h:NdV D w i v n)(s:n.ok)(W:n.size<=65536)(M:1<=n.cutAt)(u:n.cutAt<li n.l)(N:∀q,w.heap.size<=q->D q): Calls prog 189 #[v] w (aQW D w n):=by
 obtain⟨f9,c,e1,rfl,c2,E,f,H⟩:=h.parts;obtain⟨g,rfl,I⟩:=H (by omega);obtain⟨B,m⟩:∃B,n.l[n.cutAt]? = some B:=⟨_,kE u⟩;obtain⟨f',g0,g1,r,U,A,L⟩:=f.at_ m;obtain⟨b,j⟩:∃b,b=((w.alloc (iy #[ii ip (fA n),ii ip (n.first:Int),si (some ⟨g,0,none⟩) (li n.l) c] 184)).alloc (iy znd.toArray 184)).alloc (iy znd.toArray 184):=⟨_,rfl⟩;have t:Fr [] w b:=by rw[j];exact(((jj [] w).alloc _).alloc _).alloc _
 have x:Blk b w.heap.size 184 [ii ip (fA n),ii ip (n.first:Int),si (some ⟨g,0,none⟩) (li n.l) c]:=by rw[j];exact((jl w _ [ii ip (fA n),ii ip (n.first:Int),si (some ⟨g,0,none⟩) (li n.l) c]).alloc _).alloc _
 have y:Blk b (w.heap.size+1) 184 znd:=by rw[j];have:=jl (w.alloc (iy #[ii ip (fA n),ii ip (n.first:Int),si (some ⟨g,0,none⟩) (li n.l) c] 184)) 184 znd;rw[qB]at this;exact this.alloc _
 have C:Blk b (w.heap.size+2) 184 znd:=by rw[j];have:=jl ((w.alloc (iy #[ii ip (fA n),ii ip (n.first:Int),si (some ⟨g,0,none⟩) (li n.l) c] 184)).alloc (iy znd.toArray 184)) 184 znd;rwa [qB,qB]at this
 have⟨c9,c',d0,d1,d2,J,HI,e2,HD⟩:=hh9 (aTc (h.fr t) s W) x y C t I f s N;have⟨HX,d3,O,a9⟩:=hh4 m L f.len f.one;have d8:Hid (g<w.heap.size):=lh (aG E g rfl);have⟨d4,e3⟩:=hh2 r A;have d9:Hid (n.key=B.key):=lh (by unfold Nd.key;rw[m];rfl);have f7:=s.few;clear x y C t I f s E H h N m L r U A;refine cA λe4 e6=>?_;have⟨d5,p⟩:=hh2 M u;clear M u;go_enter func189,ntmps189;go_wp2_with (with_reducible refine qA rfl 184 rfl (il #[ii ip 0,ii ip 0,si none 0 0]) znd.toArray zD rfl ?_);rw[<- j];refine c9.o.mono ?_;rintro e a2 ⟨rfl,b⟩;have⟨a',d,Q,T⟩:=hh4 (d2.o.trans b) (c'.o.fr b) (d0.o.fr b) (d1.o.fr b);clear b c9 d2 c' d0 d1;cases L:n.lf with
 | true=>
  have c3:fA n=1:=by unfold fA;rw[L];rfl
  have c1:n.half=n.cutAt:=by unfold Nd.cutAt;rw[iA L]
  rw[c1];rw[c3]at d;generalize x:n.cutAt=b at *;have a3:=lh x;have c4:=d.o.a 0;have j:=d.o.a 1;have m:=d.o.a 2;clear x c1;go_wp2_with fail;refine(pI a2 1 _ _).mono ?_;rintro e s ⟨rfl,a7⟩;clear c4 j m;have C:Fr [] a2 s:=by rw[a7];exact(jj [] a2).alloc _
  have⟨z,F,V,G⟩:=hh4 (a'.o.trans C) (d.o.fr C) (Q.o.fr C) (T.o.fr C);have j:=F.o.a 1;have m:=F.o.a 2;have r:=aA z.o (J.o _ _ d4.o);have a4:=aUa (c:=c) O.o (λW t R=>aA z.o (J.o W t R)) (aDr p.o) c2;have a5:=aNB (c:=c) O.o (λW t R=>aA z.o (J.o W t R)) (aDr p.o) c2;have⟨X,Y,Z,a0⟩:=hh4 a4 a5 (aGc (some ⟨g,0,none⟩) (li n.l) c b (by have:=p.o;omega)) (aCq g (li n.l) c b (b:Int) rfl (by have:=p.o;omega) (by have:=p.o;omega));have e7:(b:Int)<(li n.l:Int):=by have:=p.o;omega
  have a6:Hid (w.heap.size+3<=s.heap.size):=lh (by have:=G.o.lt;omega);obtain⟨⟨c7,a8,b0⟩,_,_⟩:=d3.o;have⟨b6,b7⟩:=hh2 a8 b0;obtain⟨b1,b2,f1,rfl,_,_⟩:=a8;clear C a7 a4 a5 d Q T a' b0;go_wp2_with fail;refine aj (λy=>y.cell? ⟨w.heap.size,1,none⟩=some (ii ip (n.first:Int))/\y.cell? ⟨w.heap.size,2,none⟩=some (si (some ⟨g,0,none⟩) (li n.l) c)/\y.cell? ⟨g,b*3,none⟩=some (si b1 (li B.key) b2)) [0,1,2,3,5,6,7,8,9,10,11,12,13,14,15,16,18] ?_;refine tks [0,1,2] ?_;iterate 3 (refine ac ⟨j,m,r⟩ ?_)
  refine tke ?_;refine tv 3 (si (some ⟨g,0,none⟩) b c) rfl rfl ⟨j,m,r⟩ (Ii ⟨rfl,λy _=>gH rfl rfl rfl rfl (Z.o y)⟩) ?_;simp only[nrm];refine tks [6,7,8,9,10,11,12,13,14,15] ?_;iterate 10 (refine ac ⟨j,m,r⟩ ?_)
  refine tke ?_;refine tv 16 (si (some ⟨g,b*3,none⟩) (li n.l-b) (c-b)) rfl rfl ⟨j,m,r⟩ (Ii ⟨rfl,λy _=>gH rfl rfl rfl rfl (a0.o y)⟩) ?_;simp only[nrm];refine ag 4 λK hK=>kA (l:=[.tmp 13]) rfl [si (some ⟨g,0,none⟩) b c] rfl (iJ _) ((mK (X.o.1.fr (S:=[]) (jj [] s).drew (by simp)) X.o.2 ?tt (by omega)).mono ?_)
  case tt=>exact λt u=>a9.o t (yM u)
  rintro e b3 ⟨f2,rfl,E,b4⟩;obtain⟨H,I,rfl,c8,_⟩:=jA E;have hf4':Fr [] s b3:=((jj [] s).drew).trans b4;have c5:Hid (b3.ownsRow w.heap.size 198 3 (si H b I) b (e1.take (3*b))):=lh (kD E (λq f=>by have:=(E.lt q f).1;have:=a6.o;have e8:s.drew.heap.size=s.heap.size:=rfl;omega));have c6:Hid (∀q,(si H b I).ownBlock=some q->s.heap.size<=q):=lh λq f=>(E.lt q f).1;refine⟨_,rfl,hK _ _ (λ_=>⟨aA hf4' j,aA hf4' m,aA hf4' r⟩) ?_⟩;simp only[nrm];clear hK E b4 c8;refine tks [5] (ac ⟨aA hf4' j,aA hf4' m,aA hf4' r⟩ ?_);refine tke ?_;refine ag 17 λK hK=>kA (l:=[.tmp 26]) rfl [si (some ⟨g,b*3,none⟩) (li n.l-b) (c-b)] rfl (iJ _) ((mK (Y.o.1.fr hf4') Y.o.2 ?tt (by omega)).mono ?_)
  case tt=>exact λt u=>a9.o t (pJ u)
  rintro e b5 ⟨f3,rfl,hown5,hf5⟩;obtain⟨b8,b9,rfl,d6,_⟩:=jA hown5;have hf5':Fr [] s b5:=hf4'.trans hf5;refine⟨_,rfl,hK _ _ (λ_=>⟨aA hf5' j,aA hf5' m,aA hf5' r⟩) ?_⟩;simp only[nrm];clear hK d6;refine tks [18] (ac ⟨aA hf5' j,aA hf5' m,aA hf5' r⟩ ?_);refine tke ?_;have e9:w.heap.size+2<s.heap.size:=by have:=a6.o;omega
  have e':=hf4'.size;have f0:=d8.o;have M:=aA hf5' j;have N:=aA hf5' m;have U:=aA hf5' r;refine ah 19 λK hK=>pA 184 (.tmp 2) (.tmp 15) rfl [ii ip 1,ii ip 0,si H b I] rfl rfl (V.o.fr hf5') xB rfl ?tt λf4 d7 hf6 f5=>hK _ _ (λ_=>⟨aB hf6 (by simp) M,aB hf6 (by simp) N,aB hf6 (by simp;omega) U⟩) ?_
  case tt=>intro t u;simp at u;rcases u with rfl|rfl|rfl<;>rfl
  simp only[Act.put];clear hK;refine af 20 (λ_=>⟨aB hf6 (by simp) M,aB hf6 (by simp) N,aB hf6 (by simp;omega) U⟩) ?_;refine ah 21 λK hK=>?_;refine pA 184 (.tmp 4) (.tmp 28) rfl [ii ip 1,ii ip 0,si b8 (li n.l-b) b9] rfl rfl ((G.o.fr hf5').fr hf6) xB rfl ?tt λa1 hb7 hf7 f6=>hK _ _ (λ_=>⟨aB hf7 (by simp<;>omega) (aB hf6 (by simp) M),aB hf7 (by simp<;>omega) (aB hf6 (by simp) N),aB hf7 (by simp<;>omega) (aB hf6 (by simp;omega) U)⟩) ?_
  case tt=>intro t u;simp at u;rcases u with rfl|rfl|rfl<;>rfl
  simp only[Act.put];refine wd ?_ _;clear hK;have hb27:=d7.fr hf7;have hf57:Fr [w.heap.size+1,w.heap.size+2] b5 a1:=(hf6.mono (λq f=>Ii (by simp at f⊢;omega))).trans hf7 (λq f=>Ii (by simp at f⊢;omega));have hfw:Fr [] w a1:=((z.o.trans hf5').trans hf57 (λq f=>Ij (by simp at f;omega)));have ho7:=fB (fB c5.o hf5 (λq f x=>by cases x)) hf57 (λq f x=>by have:=c6.o q f;simp at x;omega);have ho7':=kD (b':=w.heap.size) (fB hown5 hf57 (λq f x=>by have:=(hown5.lt q f).1;simp at x;omega)) (λq f=>by have:=(hown5.lt q f).1;omega);have el:n.left=⟨true,0,n.l.take b⟩:=by unfold Nd.left;rw[a3.o,L,e2.o.bare L]
  have er:n.right=⟨true,0,n.l.drop b⟩:=by unfold Nd.right;rw[iA L,a3.o]
  have HE:Hid (e4 (iz (tl #[il #[ii ip 1,ii ip 0,si H b I],si b1 (li B.key) b2,il #[ii ip 1,ii ip 0,si b8 (li n.l-b) b9]])) a1):=lh (e6.o _ _ ⟨_,_,_,rfl,by rw[el];exact NdV.make (n:=⟨true,0,n.l.take b⟩) (HI.o.take b).1 (by rw[show(n.l.take b).length=b by rw[pB];have:=p.o;omega];exact ho7) hfw HD.o,⟨c7,by rw[d9.o];exact b6.o.fr hfw,b7.o⟩,by rw[er];exact NdV.make (n:=⟨true,0,n.l.drop b⟩) (HI.o.take b).2 (by rw[show(n.l.drop b).length=li n.l-b by rw[vB]];exact ho7') hfw HD.o,hfw⟩);exact Z54
 | false=>
  have c3:fA n=2:=by unfold fA;rw[L];rfl
  have c1:n.cutAt=min n.half (li n.l-2):=by unfold Nd.cutAt;rw[eA (by rw[L];decide)]
  have d':min ((n.half:Nat):Int) ((li n.l:Int)-2)=(n.cutAt:Int):=by have:=d5.o;omega
  have f8:Wi ip ((li n.l:Int)-2)=(li n.l:Int)-2:=ak;have e0:n.cutAt+1<li n.l:=by have:=d5.o;omega
  rw[c3]at d;generalize x:n.cutAt=b at *;have a3:=lh x;have c4:=d.o.a 0;have j:=d.o.a 1;have m:=d.o.a 2;have⟨e5,c0⟩:=hh2 d' e0;have c3:=wi b (by omega);clear x c1 d' e0;go_wp2_with fail;refine(pI a2 2 _ _).mono ?_;rintro e s ⟨rfl,a7⟩;clear c4 j m;have C:Fr [] a2 s:=by rw[a7];exact(jj [] a2).alloc _
  have⟨z,F,V,G⟩:=hh4 (a'.o.trans C) (d.o.fr C) (Q.o.fr C) (T.o.fr C);have j:=F.o.a 1;have m:=F.o.a 2;have r:=aA z.o (J.o _ _ d4.o);have A:=aA z.o (J.o _ _ e3.o);have a4:=aUa (c:=c) O.o (λW t R=>aA z.o (J.o W t R)) (aDr p.o) c2;have a5:=aNB (c:=c) (k:=b+1) O.o (λW t R=>aA z.o (J.o W t R)) (aDr c0.o) c2;have⟨X,Y,Z,a0⟩:=hh4 a4 a5 (aGc (some ⟨g,0,none⟩) (li n.l) c b (by have:=p.o;omega)) (aCq g (li n.l) c (b+1) ((b:Int)+1) (by omega) (by have:=c0.o;omega) (by have:=c0.o;omega));have e7:(b:Int)<(li n.l:Int):=by have:=p.o;omega
  have a6:Hid (w.heap.size+3<=s.heap.size):=lh (by have:=G.o.lt;omega);obtain⟨⟨c7,a8,b0⟩,_,W⟩:=d3.o;subst W;have⟨b6,b7⟩:=hh2 a8 b0;obtain⟨b1,b2,f1,rfl,_,_⟩:=a8;clear C a7 a4 a5 d Q T a' b0;go_wp2_with fail;rw[e5.o];refine aj (λy=>y.cell? ⟨w.heap.size,1,none⟩=some (ii ip (n.first:Int))/\y.cell? ⟨w.heap.size,2,none⟩=some (si (some ⟨g,0,none⟩) (li n.l) c)/\y.cell? ⟨g,b*3,none⟩=some (si b1 (li B.key) b2)/\y.cell? ⟨g,b*3+2,none⟩=some (ii ip (B.at_:Int))) [0,1,2,3,4,5,7,8,9,10,11,12,13,14,15,16,17,18,19,20,21,22,23,24,25,27] ?_;refine tks [0,1,2,3,4] ?_;iterate 5 (refine ac ⟨j,m,r,A⟩ ?_)
  refine tke ?_;refine tv 5 (si (some ⟨g,0,none⟩) b c) rfl rfl ⟨j,m,r,A⟩ (Ii ⟨rfl,λy _=>gH rfl rfl rfl rfl (Z.o y)⟩) ?_;simp only[nrm];refine tks [8,9,10,11,12,13,14,15,16,17,18,19,20,21,22,23,24] ?_;iterate 17 (refine ac ⟨j,m,r,A⟩ ?_)
  refine tke ?_;refine tv 25 (si (some ⟨g,(b+1)*3,none⟩) (li n.l-(b+1)) (c-(b+1))) rfl rfl ⟨j,m,r,A⟩ (Ii ⟨rfl,λy _=>gH rfl rfl rfl rfl (a0.o y)⟩) ?_;simp only[nrm];refine ag 6 λK hK=>kA (l:=[.tmp 40]) rfl [si (some ⟨g,0,none⟩) b c] rfl (iJ _) ((mK (X.o.1.fr (S:=[]) (jj [] s).drew (by simp)) X.o.2 ?tt (by omega)).mono ?_)
  case tt=>exact λt u=>a9.o t (yM u)
  rintro e b3 ⟨f2,rfl,E,b4⟩;obtain⟨H,I,rfl,c8,_⟩:=jA E;have hf4':Fr [] s b3:=((jj [] s).drew).trans b4;have c5:Hid (b3.ownsRow w.heap.size 198 3 (si H b I) b (e1.take (3*b))):=lh (kD E (λq f=>by have:=(E.lt q f).1;have:=a6.o;have e8:s.drew.heap.size=s.heap.size:=rfl;omega));have c6:Hid (∀q,(si H b I).ownBlock=some q->s.heap.size<=q):=lh λq f=>(E.lt q f).1;refine⟨_,rfl,hK _ _ (λ_=>⟨aA hf4' j,aA hf4' m,aA hf4' r,aA hf4' A⟩) ?_⟩;simp only[nrm];clear hK E b4 c8;refine tks [7] (ac ⟨aA hf4' j,aA hf4' m,aA hf4' r,aA hf4' A⟩ ?_);refine tke ?_;refine ag 26 λK hK=>kA (l:=[.tmp 60]) rfl [si (some ⟨g,(b+1)*3,none⟩) (li n.l-(b+1)) (c-(b+1))] rfl (iJ _) ((mK (Y.o.1.fr hf4') Y.o.2 ?tt (by omega)).mono ?_)
  case tt=>exact λt u=>a9.o t (pJ u)
  rintro e b5 ⟨f3,rfl,hown5,hf5⟩;obtain⟨b8,b9,rfl,d6,_⟩:=jA hown5;have hf5':Fr [] s b5:=hf4'.trans hf5;refine⟨_,rfl,hK _ _ (λ_=>⟨aA hf5' j,aA hf5' m,aA hf5' r,aA hf5' A⟩) ?_⟩;simp only[nrm];clear hK d6;refine tks [27] (ac ⟨aA hf5' j,aA hf5' m,aA hf5' r,aA hf5' A⟩ ?_);refine tke ?_;have e9:w.heap.size+2<s.heap.size:=by have:=a6.o;omega
  have e':=hf4'.size;have f0:=d8.o;have M:=aA hf5' j;have N:=aA hf5' m;have U:=aA hf5' r;have g:=aA hf5' A;refine ah 28 λK hK=>pA 184 (.tmp 2) (.tmp 42) rfl [ii ip 2,ii ip (n.first:Int),si H b I] rfl rfl (V.o.fr hf5') xB rfl ?tt λf4 d7 hf6 f5=>hK _ _ (λ_=>⟨aB hf6 (by simp) M,aB hf6 (by simp) N,aB hf6 (by simp;omega) U,aB hf6 (by simp;omega) g⟩) ?_
  case tt=>intro t u;simp at u;rcases u with rfl|rfl|rfl<;>rfl
  simp only[Act.put];clear hK;refine af 29 (λ_=>⟨aB hf6 (by simp) M,aB hf6 (by simp) N,aB hf6 (by simp;omega) U,aB hf6 (by simp;omega) g⟩) ?_;refine ah 30 λK hK=>?_;refine pA 184 (.tmp 4) (.tmp 62) rfl [ii ip 2,ii ip (B.at_:Int),si b8 (li n.l-(b+1)) b9] rfl rfl ((G.o.fr hf5').fr hf6) xB rfl ?tt λa1 hb7 hf7 f6=>hK _ _ (λ_=>⟨aB hf7 (by simp<;>omega) (aB hf6 (by simp) M),aB hf7 (by simp<;>omega) (aB hf6 (by simp) N),aB hf7 (by simp<;>omega) (aB hf6 (by simp;omega) U),aB hf7 (by simp<;>omega) (aB hf6 (by simp;omega) g)⟩) ?_
  case tt=>intro t u;simp at u;rcases u with rfl|rfl|rfl<;>rfl
  simp only[Act.put];refine wd ?_ _;clear hK;have hb27:=d7.fr hf7;have hf57:Fr [w.heap.size+1,w.heap.size+2] b5 a1:=(hf6.mono (λq f=>Ii (by simp at f⊢;omega))).trans hf7 (λq f=>Ii (by simp at f⊢;omega));have hfw:Fr [] w a1:=((z.o.trans hf5').trans hf57 (λq f=>Ij (by simp at f;omega)));have ho7:=fB (fB c5.o hf5 (λq f x=>by cases x)) hf57 (λq f x=>by have:=c6.o q f;simp at x;omega);have ho7':=kD (b':=w.heap.size) (fB hown5 hf57 (λq f x=>by have:=(hown5.lt q f).1;simp at x;omega)) (λq f=>by have:=(hown5.lt q f).1;omega);have el:n.left=⟨false,n.first,n.l.take b⟩:=by unfold Nd.left;rw[a3.o,L]
  have er:n.right=⟨false,B.at_,n.l.drop (b+1)⟩:=by unfold Nd.right;rw[eA (by rw[L];decide),a3.o,HX.o];rfl
  have HE:Hid (e4 (iz (tl #[il #[ii ip 2,ii ip (n.first:Int),si H b I],si b1 (li B.key) b2,il #[ii ip 2,ii ip (B.at_:Int),si b8 (li n.l-(b+1)) b9]])) a1):=lh (e6.o _ _ ⟨_,_,_,rfl,by rw[el];exact NdV.make (n:=⟨false,n.first,n.l.take b⟩) (HI.o.take b).1 (by rw[show(n.l.take b).length=b by rw[pB];have:=p.o;omega];exact ho7) hfw HD.o,⟨c7,by rw[d9.o];exact b6.o.fr hfw,b7.o⟩,by rw[er];exact NdV.make (n:=⟨false,B.at_,n.l.drop (b+1)⟩) (HI.o.take (b+1)).2 (by rw[show(n.l.drop (b+1)).length=li n.l-(b+1) by rw[vB]];exact ho7') hfw HD.o,hfw⟩);exact Z54
section
variable {P:Program}{ops:Array Oper}{Q:Exit->Act->World->Prop}{md:Region.Mode}{S:World->Prop}{I:List Nat}{o:Oper}{a:Act}{w:World}{K:Act->World->Prop}
theorem jJ{i j:Nat}(r s:Option Tmp){c d:Oper}{b:Array Bool}(g:ops[i]? = some c)(h:ops[j]? = some d)(l:c.dst=r)(m:d.dst=s)(t:Region.ready md ops b=[i,j])(p:c.guard=none)(q:d.guard=none) (h1:∀K:Act->World->Prop,(∀v w',(aP md ops I i=true->S w')->lG P md ops Q S I n (b.setIfInBounds i true) (a.put r v) w'->K (a.put c.dst v) w')->Oper.wp P c a w K Q) (h2:∀K:Act->World->Prop,(∀v w',(aP md ops I j=true->S w')->lG P md ops Q S I n (b.setIfInBounds j true) (a.put s v) w'->K (a.put d.dst v) w')->Oper.wp P d a w K Q): lG P md ops Q S I (n+1) b a w:=by
 subst l m;refine⟨λf=>absurd (t▸f) (by simp),λk f=>?_⟩;rw[t]at f;obtain rfl|f:=bB.1 f;·refine wpOp_step g λK hK=>?_;rw[iA (by simp[Region.wanted,p])];exact h1 K (λv w' h1 h2=>hK _ w' ⟨h1,h2⟩)
 obtain rfl:k=j:=by simpa using f
 refine wpOp_step h λK hK=>?_;rw[iA (by simp[Region.wanted,q])];exact h2 K (λv w' h1 h2=>hK _ w' ⟨h1,h2⟩)
theorem aAw{t e g ty:TypeId}{q:Nat}(ht:P.underlying t=some (.slice e))(h2:P.underlying T=some (.slice g))(hi:(P.info? e).map (·.size)=some q)(A:Option Addr)(B:Option Addr)(n c d:Nat)(k:n<=c): (Builtin.append_ #[t,T] ty #[si A n c,si B 0 d]).run P w=.ok (si A n c) w:=by
 obtain⟨l,i,j⟩:=mI.1 hi;have b:∀w,(underlying T).run P w=.ok (.slice g) w:=λw=>by simp[underlying,go_sem,h2]
 have f:∀w,(underlying t).run P w=.ok (.slice e) w:=λw=>by simp[underlying,go_sem,ht]
 have h:∀w,(sizeOf e).run P w=.ok q w:=λw=>by simp[sizeOf,typeInfo,go_sem,i,j]
 unfold Builtin.append_;cases A<;>cases B<;>simp[go_sem,b,f,h,k,loadCellsFrom]
theorem iE{t:TypeId}(s x:Operand)(M:o.op=.call { callee:=.builtin .append,args:=#[s,x],argTypes:=#[t,t] }) (e:TypeId){i:TypeInfo}{z:Value}(g r:Nat)(ht:P.underlying t=some (.slice e))(hi:P.info? e=some i)(J:i.zero=some z)(f:i.size=g)(D:i.bytes=r)(E:z.cells.size=g)(h0:0<g) (A:Option Addr)(n b:Nat)(F:List Value)(N:a.eval s=si A n b)(k:w.ownsRow 0 e g (si A n b) n F) (B:Option Addr)(m c:Nat)(d:List Value)(G:a.eval x=si B m c)(W:li d=m*g)(p:0<m->∃y,B=some y/\∀j u,d[j]? = some u->w.cell? (y.add j)=some u)(h1:∀u∈d,u.oneCell'=true) (L:n+m<=maxLen)(l:(n+m)*r<=140737488355328)(H:Nat)(O:w=H) (h:∀A' cap w',w'.ownsRow 0 e g (si A' (n+m) cap) (n+m) (F++d)->Fr (si A n b).ownBlock.toList w w'->(∀q,(si A' (n+m) cap).ownBlock=some q->(si A n b).ownBlock=some q∨q=H)->K (a.put o.dst (si A' (n+m) cap)) w'):Oper.wp P o a w K Q:=by
 by_cases C:0<m;·obtain⟨y,rfl,I⟩:=p C;exact fC s x M e g r ht hi J f D E h0 _ n F N k y m c d G W I h1 C L l H O λC cap w' r I J L=>h _ cap w' r I (λq r=>by obtain rfl:C=q:=tE r;exact J)
 obtain rfl:m=0:=by omega
 obtain rfl:d=[]:=uO.1 (by omega);obtain⟨_,_,C,I,_⟩:=jA k;injection C with _ _ J;have C:=aAw (P:=P) (w:=w) (ty:=o.type) ht ht (q:=g) (by rw[hi];simp[f]) A B n b c (by omega);refine lA (v:=si A n b) ?_ (h A b w (by simpa using k) (jj _ _) (λq r=>Ii r));simp only[execOp,M,resolve,invoke,builtin,Sem.run_bind,Sem.run_pure,Result.andThen_ok,List.map_toArray,List.map_cons,List.map_nil,N,G,C]
end
theorem aNC{D:Nat->Prop}{w:World}{v b kv:Value}{n r:Nd}{key:Ky}(h:NdV D w k v n)(B:NdV D w m b r)(C:dA w kv key s)(E:D s)(G:n.lf=r.lf)(f8:li n.l<=600)(f9:li r.l<=600)(L:∀q,w.heap.size<=q->D q): Calls prog 215 #[v,kv,b] w λe w'=>∃ov,e=iz ov/\NdV D w' w.heap.size ov (n.with_ key r)/\Fr [] w w':=by
 obtain⟨F,H,cs,rfl,f2,y,b,M⟩:=h.parts;obtain⟨a6,a7,b',rfl,f5,N,c,z⟩:=B.parts;obtain⟨f,O⟩:=nm (((w.alloc (iy #[ii ip (fA n),ii ip (n.first:Int),si F (li n.l) H] 184)).alloc (iy #[ii ip (fA r),ii ip (r.first:Int),si a6 (li r.l) a7] 184)).alloc (iy znd.toArray 184));have p:Fr [] w f:=by rw[O];exact(((jj [] w).alloc _).alloc _).alloc _
 have t:Blk f w.heap.size 184 [ii ip (fA n),ii ip (n.first:Int),si F (li n.l) H]:=by rw[O];exact((jl w _ [ii ip (fA n),ii ip (n.first:Int),si F (li n.l) H]).alloc _).alloc _
 have u:Blk f (w.heap.size+1) 184 [ii ip (fA r),ii ip (r.first:Int),si a6 (li r.l) a7]:=by rw[O];have:=jl (w.alloc (iy #[ii ip (fA n),ii ip (n.first:Int),si F (li n.l) H] 184)) 184 [ii ip (fA r),ii ip (r.first:Int),si a6 (li r.l) a7];rw[qB]at this;exact this.alloc _
 have x:Blk f (w.heap.size+2) 184 znd:=by rw[O];have:=jl ((w.alloc (iy #[ii ip (fA n),ii ip (n.first:Int),si F (li n.l) H] 184)).alloc (iy #[ii ip (fA r),ii ip (r.first:Int),si a6 (li r.l) a7] 184)) 184 znd;rwa [qB,qB]at this
 have c2:Hid (f.heap.size=w.heap.size+3):=lh (by rw[O,qB,qB,qB]);obtain⟨f6,A,_,_⟩:=kH.of_own y w.heap.size;have⟨h2,d8,f1,h4,d',HI,h5,HD,h6⟩:=hh9 (A.fr p) t u x p b c L z;have⟨b3,b8,h7,e4,i8,h8,j1⟩:=hh7 b.len c.len b.one c.one C E G;obtain⟨I,J,f7,rfl,_,_⟩:=C;clear t u x p b c y N M z h B L A E G;refine cA λe6 e7=>?_;go_enter func215,ntmps215;go_wp2_with (with_reducible refine qA rfl 184 rfl (il #[ii ip 0,ii ip 0,si none 0 0]) znd.toArray zD rfl ?_);rw[<- O];have G:=d8.o.a 0;have C:=d8.o.a 1;have E:=d8.o.a 2;simp only[nrm];go_cut [7] (λv7 L=>∃c p t,v7=pi (some ⟨c,0,none⟩)/\Blk L c 184 [ii ip (fA n),ii ip (n.first:Int),si p (li n.l) t]/\L.ownsRow f.heap.size 198 3 (si p (li n.l) t) (li n.l) cs/\(si p (li n.l) t).ownBlock≠some c/\f.heap.size<=c/\Fr [] f L)
 ·refine aj (λL=>L.cell? ⟨w.heap.size,0,none⟩=some (ii ip (fA n))/\L.cell? ⟨w.heap.size,1,none⟩=some (ii ip (n.first:Int))/\L.cell? ⟨w.heap.size,2,none⟩=some (si F (li n.l) H)) [0,1,2,3,4,5,7] ?_;refine tks [0,1,2,3,4,5] ?_;iterate 6 (refine ac ⟨G,C,E⟩ ?_)
  refine tke ?_;refine jJ (i:=6) (j:=8) (some 14) (some 7) rfl rfl rfl rfl (by kernel_rfl) rfl rfl (λK hK=>?_) (λK hK=>?_)
  ·refine kA (l:=[.tmp 13]) rfl [si F (li n.l) H] rfl (iJ _) ((mK (h2.o.fr (S:=[]) (jj [] f).drew (by simp)) b3.o h7.o (by omega)).mono ?_);rintro e V ⟨a2,rfl,B,A⟩;obtain⟨p,t,rfl,_,_⟩:=jA B;have x:Fr [] f V:=((jj [] f).drew).trans A;have Y:f.drew.heap.size=f.heap.size:=rfl;rw[Y]at B;refine⟨_,rfl,hK _ _ (λ_=>⟨aA x G,aA x C,aA x E⟩) ?_⟩;simp only[nrm];clear hK;refine tv 7 (il #[ii ip (fA n),ii ip (n.first:Int),si p (li n.l) t]) rfl rfl ⟨aA x G,aA x C,aA x E⟩ (Ii ⟨rfl,λL a3=>by go_simp⟩) ?_;simp only[nrm];have M:=aG B;refine ag 8 λK hK=>gB 184 rfl (il #[ii ip 0,ii ip 0,si none 0 0]) znd zD rfl λa0 T u W=>hK _ _ (λ_=>⟨aA u (aA x G),aA u (aA x C),aA u (aA x E)⟩) ?_;simp only[nrm];clear hK;refine ah 9 λK hK=>pA 184 (.tmp 7) (.tmp 15) rfl [ii ip (fA n),ii ip (n.first:Int),si p (li n.l) t] rfl rfl T xB rfl ?tt λP U Q R=>hK _ _ (λh=>absurd h (by decide +kernel)) ?_
   case tt=>intro N z;simp at z;rcases z with rfl|rfl|rfl<;>rfl
   simp only[Act.put];refine wd ?_ _;have a1:=x.size;have Z:Hid (∃c p t,pi (some ⟨V.heap.size,0,none⟩)=pi (some ⟨c,0,none⟩)/\Blk P c 184 [ii ip (fA n),ii ip (n.first:Int),si p (li n.l) t]/\P.ownsRow f.heap.size 198 3 (si p (li n.l) t) (li n.l) cs/\(si p (li n.l) t).ownBlock≠some c/\f.heap.size<=c/\Fr [] f P):=lh ⟨V.heap.size,p,t,rfl,U,fB (fB B u (λq b y=>by cases y)) Q (λq b y=>by have:=M q b;have:=xA.1 y;omega),λe=>by have:=M _ e;omega,a1,(x.trans u).trans Q (λq b=>Ij (by have:=xA.1 b;omega))⟩;clear hK T u W U Q R B A x M;go_wp2_with fail;go_meet;exact Z.o
  refine gB 184 rfl (il #[ii ip 0,ii ip 0,si none 0 0]) znd zD rfl λa0 T u W=>hK _ _ (λ_=>⟨aA u G,aA u C,aA u E⟩) ?_;simp only[Act.put];clear hK;have Y:f.drew.heap.size=f.heap.size:=rfl;rw[Y]at T W;have x:Fr [] f a0:=((jj [] f).drew).trans u;refine ag 6 λK hK=>kA (l:=[.tmp 13]) rfl [si F (li n.l) H] rfl (iJ _) ((mK (h2.o.fr (S:=[]) x (by simp)) b3.o h7.o (by omega)).mono ?_);rintro e V ⟨a2,rfl,B,A⟩;obtain⟨p,t,rfl,_,_⟩:=jA B;refine⟨_,rfl,hK _ _ (λ_=>⟨aA A (aA u G),aA A (aA u C),aA A (aA u E)⟩) ?_⟩;simp only[nrm];clear hK;refine tv 7 (il #[ii ip (fA n),ii ip (n.first:Int),si p (li n.l) t]) rfl rfl ⟨aA A (aA u G),aA A (aA u C),aA A (aA u E)⟩ (Ii ⟨rfl,λL a3=>by go_simp⟩) ?_;simp only[nrm];have M:=B.lt;refine ah 9 λK hK=>pA 184 (.tmp 7) (.tmp 15) rfl [ii ip (fA n),ii ip (n.first:Int),si p (li n.l) t] rfl rfl (T.fr A) xB rfl ?tt2 λP U Q R=>hK _ _ (λh=>absurd h (by decide +kernel)) ?_
  case tt2=>intro N z;simp at z;rcases z with rfl|rfl|rfl<;>rfl
  simp only[Act.put];refine wd ?_ _;have Z:Hid (∃c p t,pi (some ⟨f.heap.size,0,none⟩)=pi (some ⟨c,0,none⟩)/\Blk P c 184 [ii ip (fA n),ii ip (n.first:Int),si p (li n.l) t]/\P.ownsRow f.heap.size 198 3 (si p (li n.l) t) (li n.l) cs/\(si p (li n.l) t).ownBlock≠some c/\f.heap.size<=c/\Fr [] f P):=lh ⟨f.heap.size,p,t,rfl,U,kD (fB B Q (λq b y=>by have:=(M q b).1;have:=xA.1 y;omega)) (λq b=>by have:=(M q b).1;omega),λe=>by have:=(M _ e).1;omega,tA _,(x.trans A).trans Q (λq b=>Ij (by have:=xA.1 b;omega))⟩;clear hK T u W U Q R B A x M;go_wp2_with fail;go_meet;exact Z.o
 obtain⟨c,p,t,rfl,u,B,L,M,A⟩:=hcut;clear G C E;have⟨h9,e5,f3,h',f4⟩:=hh5 u B L A M;have G:=u.a 0;have C:=u.a 1;have E:=u.a 2;have x:=lh (d8.o.fr A);have b9:=x.o.a 0;have e2:=x.o.a 1;have e3:=x.o.a 2;clear u B L M A;have u:((w.alloc (iy #[ii ip (fA n),ii ip (n.first:Int),si F (li n.l) H] 184)).alloc (iy #[ii ip (fA r),ii ip (r.first:Int),si a6 (li r.l) a7] 184)).heap.size=w.heap.size+2:=by rw[qB,qB]
 rw[u];clear u O;cases c0:n.lf with
 | true=>
  have b0:fA n=1:=(by unfold fA;rw[c0];rfl);rw[b0]at b9 G;go_wp2_with fail;refine(pI wc 1 _ _).mono ?_;rintro e H ⟨rfl,b5⟩;clear G C E b9 e2 e3;have T:Fr [] wc H:=(by rw[b5];exact(jj [] wc).alloc _);have⟨V,c1,X⟩:=hh3 (h9.o.fr T) (fB e5.o T (λq b y=>by cases y)) (h'.o.trans T);have b1:=f3;have e8:Hid (li cs=li n.l*3):=b3;have c3:Hid (cG D w n.l cs):=HI;have c4:Hid (n.with_ key r=⟨n.lf,n.first,n.l++r.l⟩):=lh (by unfold Nd.with_;rw[iA c0]);clear b5 T;clear b0;have c5:=lh ((f1.o.fr X.o));have C:=V.o.a 1;have E:=V.o.a 2;have c6:=c5.o.a 2;go_upto_region 4 with fail;refine sB ?_;iterate 4 (refine ab ?_)
  refine lp λK hK=>?_;obtain⟨e',a',W,Y,a3⟩:=fF vK;refine iE (.tmp 30) (.tmp 32) rfl 198 3 56 qJ a' W Y a3 rfl (by omega) p (li n.l) t cs rfl (kD c1.o (λ_ _=>uB _)) a6 (li r.l) a7 b' rfl b8.o (λe1=>by obtain⟨g,rfl,d7⟩:=h6.o e1;exact⟨_,rfl,λj N z=>by rw[Go.Addr.add_mid,nB];exact aA (d'.o.trans X.o) (d7 j N z)⟩) e4.o (by unfold maxLen;omega) (by omega) H.heap.size rfl λu x B a4 O P=>hK _ _ ?_;clear hK;simp only[nrm];have L:∀q,(si p (li n.l) t).ownBlock=some q->f.heap.size<=q:=λq b=>(c1.o.lt q b).1;have Z:∀q,q∈(si p (li n.l) t).ownBlock.toList->f.heap.size<=q:=λq b=>L q (by simpa using b);have R:c∉(si p (li n.l) t).ownBlock.toList:=λy=>b1.o (by simpa using y);have c8:=c2.o;have c9:=f4.o;have c':=V.o.lt;have d0:=X.o.size;have F:=V.o.fr O R;have b2:=F.a 2;have b4:=F.free 2;refine ab ?_;refine lp λK hK=>rB (w':=B.setCell ⟨c,2,none⟩ (si u (li n.l+li r.l) x)) (by go_simp) (hK _ _ ?_);clear hK;simp only[Act.put];refine wB ?_;have M:Fr [c] B (B.setCell ⟨c,2,none⟩ (si u (li n.l+li r.l) x)):=(jj _ _).setCell (Ii (by simp)) _;have a0:=F.set_ 2 (si u (li n.l+li r.l) x);have a1:Fr [] f B:=X.o.trans O (λq b=>Ij (Z q b));have Q:Fr [] f (B.setCell ⟨c,2,none⟩ (si u (li n.l+li r.l) x)):=a1.trans M (λq b=>Ij (by have:=xA.1 b;omega));have U:(si u (li n.l+li r.l) x).ownBlock≠some c:=λe=>by
   obtain A|A:=P c e;·exact b1.o A
   omega
  have a2:(B.setCell ⟨c,2,none⟩ (si u (li n.l+li r.l) x)).ownsRow f.heap.size 198 3 (si u (li n.l+li r.l) x) (li n.l+li r.l) (cs++b'):=fB (kD a4 (λq b=>by
   obtain A|A:=P q b;·have:=L q A;omega
   omega)) M (λq b y=>by have:=xA.1 y;exact U (by rw[<- this];exact b))
  have d2:Hid (Blk (B.setCell ⟨c,2,none⟩ (si u (li n.l+li r.l) x)) c 184 [ii ip (fA n),ii ip (n.first:Int),si u (li n.l+li r.l) x]):=lh a0;have⟨g0,a8,c7⟩:=hh3 Q a2 (h4.o.fr Q);have e9:c≠w.heap.size+2:=(by omega);clear M a0 a1 Q U a2 P F b2 b4 a4 O Z R L C E c6 a' W Y a3;generalize B.setCell ⟨c,2,none⟩ (si u (li n.l+li r.l) x)=f0 at *;go_wp2_with (first
   | (refine lQ rfl 184 (.tmp 7) rfl rfl d2.o Go.Proofs.Tryz.underlying184 rfl xB ?_)
   | (refine gE rfl 184 (.tmp 6) (.tmp 35) rfl [ii ip (fA n),ii ip (n.first:Int),si u (li n.l+li r.l) x] rfl rfl c7.o xB rfl ?tt ?_))
  case tt=>intro N z;simp at z;rcases z with rfl|rfl|rfl<;>rfl
  intro b6 b7 a9 d9;have a5:Fr [] w b6:=(d'.o.trans g0.o).trans a9 (λq b=>Ij (by have:=xA.1 b;omega));have d3:Hid (e6 (iz (il #[ii ip (fA n),ii ip (n.first:Int),si u (li n.l+li r.l) x])) b6):=lh (e7.o _ _ ⟨_,rfl,by
   rw[c4.o];have d4:fA n=fA ⟨n.lf,n.first,n.l++r.l⟩:=rfl;rw[d4];refine NdV.make (n:=⟨n.lf,n.first,n.l++r.l⟩) (cG.append c3.o h5.o) ?_ a5 HD.o;have d5:li (n.l++r.l)=li n.l+li r.l:=by first|(simp;done)|(simp;omega)
   rw[show(⟨n.lf,n.first,n.l++r.l⟩:Nd).l.length=li n.l+li r.l from d5];exact kD (fB a8.o a9 (λq b y=>by have:=(a8.o.lt q b).1;have:=xA.1 y;omega)) (λq b=>by have:=(a8.o.lt q b).1;omega),a5⟩)
  have d6:=lh b7;clear b7 a9 d9 a5;go_wp2_with fail;exact cI (g:=w.heap.size+2) (t':=184) (cs:=[ii ip (fA n),ii ip (n.first:Int),si u (li n.l+li r.l) x]) (d:=_) rfl rfl d6.o Go.Proofs.Tryz.underlying184 rfl xB d3.o
 | false=>
  have b0:fA n=2:=(by unfold fA;rw[c0];rfl);rw[b0]at b9 G;go_wp2_with fail;refine(pI wc 2 _ _).mono ?_;rintro e H ⟨rfl,b5⟩;clear G C E b9 e2 e3;have T:Fr [] wc H:=(by rw[b5];exact(jj [] wc).alloc _);have⟨d1,g2,e0⟩:=hh3 (h9.o.fr T) (fB e5.o T (λq b y=>by cases y)) (h'.o.trans T);have b9:=lh (f1.o.fr e0.o);have u1:=d1.o.a 1;have u2:=d1.o.a 2;have e2:=b9.o.a 1;clear b5 T b0;go_upto_region 3 with fail;refine sB ?_;iterate 7 (refine ab ?_)
  refine lp λK hK=>?_;obtain⟨e',a',W,Y,a3⟩:=fF vK;refine qC (.tmp 25) rfl qJ a' W [si I (li key) J,si none 0 0,ii ip (r.first:Int)] rfl Y rfl (by simp) (by simp) (hK _ _ ?_);clear hK;simp only[nrm];have T:=jl H 198 [si I (li key) J,si none 0 0,ii ip (r.first:Int)];have G:Fr [] H (H.alloc (iy [si I (li key) J,si none 0 0,ii ip (r.first:Int)].toArray 198)):=(jj [] H).alloc _;have b0:(H.alloc (iy [si I (li key) J,si none 0 0,ii ip (r.first:Int)].toArray 198)).heap.size=H.heap.size+1:=(by simp);generalize H.alloc (iy [si I (li key) J,si none 0 0,ii ip (r.first:Int)].toArray 198)=e3 at *;have b5:∀N∈[si I (li key) J,si none 0 0,ii ip (r.first:Int)],N.oneCell'=true:=(by intro N z;simp at z;rcases z with rfl|rfl|rfl<;>rfl);refine lp λK hK=>iE (.tmp 20) (.tmp 26) rfl 198 3 56 qJ a' W Y a3 rfl (by omega) p (li n.l) t cs rfl (kD (fB g2.o G (by simp)) (λ_ _=>uB _)) (some ⟨H.heap.size,0,none⟩) 1 1 [si I (li key) J,si none 0 0,ii ip (r.first:Int)] rfl rfl (λ_=>⟨_,rfl,λj N z=>by rw[Go.Addr.add_mid,nB];exact T.at_ z⟩) b5 (by unfold maxLen;omega) (by omega) (H.heap.size+1) b0 λu x B a4 O P=>hK _ _ ?_;clear hK;simp only[nrm];have L:∀q,(si p (li n.l) t).ownBlock=some q->f.heap.size<=q:=λq b=>(g2.o.lt q b).1;have Z:∀q,q∈(si p (li n.l) t).ownBlock.toList->f.heap.size<=q:=λq b=>L q (by simpa using b);have R:c∉(si p (li n.l) t).ownBlock.toList:=λy=>f3.o (by simpa using y);have c8:=c2.o;have c9:=f4.o;have c':=d1.o.lt;have d0:=e0.o.size;have F:=(d1.o.fr G).fr O R;have b2:=F.a 2;have b4:=F.free 2;refine ab ?_;refine lp λK hK=>rB (w':=B.setCell ⟨c,2,none⟩ (si u (li n.l+1) x)) (by go_simp) (hK _ _ ?_);clear hK;simp only[Act.put];refine wB ?_;have M:Fr [c] B (B.setCell ⟨c,2,none⟩ (si u (li n.l+1) x)):=(jj _ _).setCell (Ii (by simp)) _;have a0:=F.set_ 2 (si u (li n.l+1) x);have a1:Fr [] f B:=(e0.o.trans G).trans O (λq b=>Ij (Z q b));have Q:Fr [] f (B.setCell ⟨c,2,none⟩ (si u (li n.l+1) x)):=a1.trans M (λq b=>Ij (by have:=xA.1 b;omega));have U:(si u (li n.l+1) x).ownBlock≠some c:=λe=>by
   obtain A|A:=P c e;·exact f3.o A
   omega
  have a2:(B.setCell ⟨c,2,none⟩ (si u (li n.l+1) x)).ownsRow f.heap.size 198 3 (si u (li n.l+1) x) (li n.l+1) (cs++[si I (li key) J,si none 0 0,ii ip (r.first:Int)]):=fB (kD a4 (λq b=>by
   obtain A|A:=P q b;·have:=L q A;omega
   omega)) M (λq b y=>by have:=xA.1 y;exact U (by rw[<- this];exact b))
  have V:Hid (Blk (B.setCell ⟨c,2,none⟩ (si u (li n.l+1) x)) c 184 [ii ip (fA n),ii ip (n.first:Int),si u (li n.l+1) x]):=lh a0;have⟨X,c1,b1⟩:=hh3 Q a2 U;have e8:Hid ((cs++[si I (li key) J,si none 0 0,ii ip (r.first:Int)]).length=(li n.l+1)*3):=lh (by have:=b3.o;simp;omega);have c3:Hid (cG D w (n.l++[(⟨key,[],r.first⟩:It)]) (cs++[si I (li key) J,si none 0 0,ii ip (r.first:Int)])):=lh (cG.append HI.o ⟨⟨⟨s,i8.o,h8.o⟩,⟨s,dA.nil _ _,h8.o⟩,rfl⟩,trivial⟩);have c4:Hid (n.with_ key r=⟨n.lf,n.first,(n.l++[(⟨key,[],r.first⟩:It)])++r.l⟩):=lh (by unfold Nd.with_;rw[eA (by rw[c0];decide)]);clear M a0 a1 Q U a2 P F b2 b4 a4 O Z R L T G b0 b5 u1 u2 e2 a' W Y a3 c' d0 c8 c9 d1 g2 e0 b9;generalize B.setCell ⟨c,2,none⟩ (si u (li n.l+1) x)=p at *;have c5:=lh ((f1.o.fr X.o));have C:=V.o.a 1;have E:=V.o.a 2;have c6:=c5.o.a 2;go_upto_region 4 with fail;refine sB ?_;iterate 4 (refine ab ?_)
  refine lp λK hK=>?_;obtain⟨H,G,W,Y,a3⟩:=fF vK;refine iE (.tmp 30) (.tmp 32) rfl 198 3 56 qJ G W Y a3 rfl (by omega) u (li n.l+1) x (cs++[si I (li key) J,si none 0 0,ii ip (r.first:Int)]) rfl (kD c1.o (λ_ _=>uB _)) a6 (li r.l) a7 b' rfl b8.o (λe1=>by obtain⟨g,rfl,d7⟩:=h6.o e1;exact⟨_,rfl,λj N z=>by rw[Go.Addr.add_mid,nB];exact aA (d'.o.trans X.o) (d7 j N z)⟩) e4.o (by unfold maxLen;omega) (by omega) p.heap.size rfl λp t B a4 O P=>hK _ _ ?_;clear hK;simp only[nrm];have L:∀q,(si u (li n.l+1) x).ownBlock=some q->f.heap.size<=q:=λq b=>(c1.o.lt q b).1;have Z:∀q,q∈(si u (li n.l+1) x).ownBlock.toList->f.heap.size<=q:=λq b=>L q (by simpa using b);have R:c∉(si u (li n.l+1) x).ownBlock.toList:=λy=>b1.o (by simpa using y);have c8:=c2.o;have c9:=f4.o;have c':=V.o.lt;have d0:=X.o.size;have F:=V.o.fr O R;have b2:=F.a 2;have b4:=F.free 2;refine ab ?_;refine lp λK hK=>rB (w':=B.setCell ⟨c,2,none⟩ (si p (li n.l+1+li r.l) t)) (by go_simp) (hK _ _ ?_);clear hK;simp only[Act.put];refine wB ?_;have M:Fr [c] B (B.setCell ⟨c,2,none⟩ (si p (li n.l+1+li r.l) t)):=(jj _ _).setCell (Ii (by simp)) _;have a0:=F.set_ 2 (si p (li n.l+1+li r.l) t);have a1:Fr [] f B:=X.o.trans O (λq b=>Ij (Z q b));have Q:Fr [] f (B.setCell ⟨c,2,none⟩ (si p (li n.l+1+li r.l) t)):=a1.trans M (λq b=>Ij (by have:=xA.1 b;omega));have U:(si p (li n.l+1+li r.l) t).ownBlock≠some c:=λe=>by
   obtain A|A:=P c e;·exact b1.o A
   omega
  have a2:(B.setCell ⟨c,2,none⟩ (si p (li n.l+1+li r.l) t)).ownsRow f.heap.size 198 3 (si p (li n.l+1+li r.l) t) (li n.l+1+li r.l) ((cs++[si I (li key) J,si none 0 0,ii ip (r.first:Int)])++b'):=fB (kD a4 (λq b=>by
   obtain A|A:=P q b;·have:=L q A;omega
   omega)) M (λq b y=>by have:=xA.1 y;exact U (by rw[<- this];exact b))
  have d2:Hid (Blk (B.setCell ⟨c,2,none⟩ (si p (li n.l+1+li r.l) t)) c 184 [ii ip (fA n),ii ip (n.first:Int),si p (li n.l+1+li r.l) t]):=lh a0;have⟨g0,a8,c7⟩:=hh3 Q a2 (h4.o.fr Q);have e9:c≠w.heap.size+2:=(by omega);clear M a0 a1 Q U a2 P F b2 b4 a4 O Z R L C E c6 G W Y a3;generalize B.setCell ⟨c,2,none⟩ (si p (li n.l+1+li r.l) t)=f0 at *;go_wp2_with (first
   | (refine lQ rfl 184 (.tmp 7) rfl rfl d2.o Go.Proofs.Tryz.underlying184 rfl xB ?_)
   | (refine gE rfl 184 (.tmp 6) (.tmp 35) rfl [ii ip (fA n),ii ip (n.first:Int),si p (li n.l+1+li r.l) t] rfl rfl c7.o xB rfl ?tt ?_))
  case tt=>intro N z;simp at z;rcases z with rfl|rfl|rfl<;>rfl
  intro b6 b7 a9 d9;have a5:Fr [] w b6:=(d'.o.trans g0.o).trans a9 (λq b=>Ij (by have:=xA.1 b;omega));have d3:Hid (e6 (iz (il #[ii ip (fA n),ii ip (n.first:Int),si p (li n.l+1+li r.l) t])) b6):=lh (e7.o _ _ ⟨_,rfl,by
   rw[c4.o];have d4:fA n=fA ⟨n.lf,n.first,(n.l++[(⟨key,[],r.first⟩:It)])++r.l⟩:=rfl;rw[d4];refine NdV.make (n:=⟨n.lf,n.first,(n.l++[(⟨key,[],r.first⟩:It)])++r.l⟩) (cG.append c3.o h5.o) ?_ a5 HD.o;have d5:li ((n.l++[(⟨key,[],r.first⟩:It)])++r.l)=li n.l+1+li r.l:=by first|(simp;done)|(simp;omega)
   rw[show(⟨n.lf,n.first,(n.l++[(⟨key,[],r.first⟩:It)])++r.l⟩:Nd).l.length=li n.l+1+li r.l from d5];exact kD (fB a8.o a9 (λq b y=>by have:=(a8.o.lt q b).1;have:=xA.1 y;omega)) (λq b=>by have:=(a8.o.lt q b).1;omega),a5⟩)
  have d6:=lh b7;clear b7 a9 d9 a5;go_wp2_with fail;exact cI (g:=w.heap.size+2) (t':=184) (cs:=[ii ip (fA n),ii ip (n.first:Int),si p (li n.l+1+li r.l) t]) (d:=_) rfl rfl d6.o Go.Proofs.Tryz.underlying184 rfl xB d3.o
def Buf (w:World) (H:Nat) (v:Value) (bs:List UInt8):Prop:=w.ownsRow H 5 1 v bs.length (gA bs)
structure App (w:World) (H:Nat) (v:Value) (bs:List UInt8) (w':World) (v':Value):Prop where
 buf:Buf w' H v' bs
 fr:Fr v.ownBlock.toList w w'
 row:∀q,v'.ownBlock=some q->v.ownBlock=some q∨w.heap.size<=q
theorem Buf.shape{w:World}{H:Nat}{v:Value}{bs:List UInt8}(h:Buf w H v bs):∃A c,v=si A (li bs) c:=by obtain⟨A,c,e,_⟩:=jA h;exact⟨A,c,e⟩
theorem Buf.fr{S:List Nat}{w w':World}{H:Nat}{v:Value}{bs:List UInt8}(h:Buf w H v bs)(b:Fr S w w')(c:∀q,v.ownBlock=some q->q∉S:=by simp):Buf w' H v bs:=fB h b c
theorem App.fr0{w0 w w':World}{H:Nat}{v:Value}{bs:List UInt8}(h:App w H v l w' u)(b:Buf w H v bs)(h0:w0<=H)(c:Fr [] w0 w):Fr [] w0 w':=c.trans h.fr λd f=>Ij (by have:=(b.lt d (by simpa using f)).1;omega)
theorem tG{c:Oper}{a:Act}{w:World}{K:Act->World->Prop}{Q:Exit->Act->World->Prop}(s x:Operand)(r:c.op=.call { callee:=.builtin .append,args:=#[s,x],argTypes:=#[67,67] }) {H:Nat}{v:Value}{bs b:List UInt8}(t:a.eval s=v)(m:Buf w H v bs)(A:H<=w){g:Nat}(y:dA w (a.eval x) b g)(z:li bs<=1048576)(C:li b<=1048576) (h:∀v' w',App w H v (bs++b) w' v'->K (a.put c.dst v') w'):Oper.wp prog c a w K Q:=by
 obtain⟨q,c,d,f,i⟩:=fF yN;obtain⟨j,k,rfl,_⟩:=jA m;obtain⟨l,n,u,o,_,p⟩:=y;refine iE s x r 5 1 1 Go.Proofs.Tryz.underlying67 c d f i rfl (by omega) j (li bs) k (gA bs) t (kD m (λ_ _=>uB _)) l (li b) n (gA b) o (by rw[nA];omega) (λf=>by obtain⟨c,d⟩:=p f;exact⟨_,c,λc f i=>by rw[Go.Addr.add_mid];exact d c f i⟩) (mD _) (by unfold maxLen;omega) (by omega) w rfl λj k w' d c f=>?_;have e:li bs+li b=li (bs++b):=by simp
 rw[e]at d f⊢;refine h _ w' ⟨?_,c,λc i=>by
  obtain b|b:=f c i;·exact Ii b
  exact Ij (by omega)⟩
 rw[<- fD]at d;exact kD d λc i=>by
  obtain b|b:=f c i;·exact(m.lt c b).1
  omega
theorem eH{w:World}{H:Nat}{v:Value}{bs:List UInt8}(h:Buf w H v bs)(n:Nat)(_s:n<65536)(t:li bs<=1000000)(l:H<=w): Calls prog 153 #[v,n] w λe w'=>∃v',e=iz v'/\App w H v (bs++b16 n) w' v':=by
 go_enter func153,ntmps153;go_upto_region 1 with fail;refine sB ?_;iterate 6 (refine ab ?_)
 obtain⟨b,d⟩:=nm (Ot (n / 256));obtain⟨c,f⟩:=nm (Ot n);have g:IntKind.u8.wrap ((n:Int) / 256)=(b.toNat:Int):=by rw[d,cQ,jL];omega
 have i:IntKind.u8.wrap (n:Int)=(c.toNat:Int):=by rw[f,cQ,jL];omega
 rw[g,i];have g:Hid (b16 n=[b,c]):=lh (by rw[d,f];rfl);refine lp λK hK=>tB (v:=si w 2 2) (w':=w.alloc (iy #[ii ix (b.toNat:Int),ii ix (c.toNat:Int)] 5)) (by simp[execOp,Act.eval,aBB,Result.andThen]) (hK _ _ ?_);simp only[nrm];have f:Blk (w.alloc (iy #[ii ix (b.toNat:Int),ii ix (c.toNat:Int)] 5)) w 5 (gA [b,c]):=jl w 5 (gA [b,c]);have d:Fr [] w (w.alloc (iy #[ii ix (b.toNat:Int),ii ix (c.toNat:Int)] 5)):=(jj [] w).alloc _;have j:(w.alloc (iy #[ii ix (b.toNat:Int),ii ix (c.toNat:Int)] 5)).heap.size=w.heap.size+1:=by simp
 generalize w.alloc (iy #[ii ix (b.toNat:Int),ii ix (c.toNat:Int)] 5)=k at *;refine lp λK hK=>tG (.tmp 5) (.tmp 11) rfl rfl (h.fr d) (by omega) (dA.of_blk f 2 (tA _)) (by omega) (by simp) λv' w' b=>hK _ _ ?_;simp only[nrm];refine ab ?_;refine wB ?_;have i:Hid (App w H v (bs++b16 n) w' v'):=lh (by
  rw[g.o];exact⟨b.buf,(d.mono (by simp)).trans b.fr (λf c=>Ii c),λf c=>by
   obtain d|d:=b.row f c;·exact Ii d
   exact Ij (by omega)⟩)
 go_wp2_with fail;go_ret;exact⟨_,rfl,i.o⟩
end
end Go.Proofs.YtebjhcjbfaaejaaGreatDoor
