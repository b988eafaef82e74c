/-
  Joined: Qk Ql Qm Qn
-/
import Derived.Test.YtebjhcjbfaaejaaGreatDoorJca17
set_option maxRecDepth 100000
set_option maxHeartbeats 32000000
namespace Go.Proofs.YtebjhcjbfaaejaaGreatDoor
open Go.Proofs.Tryz
variable {k i j m c d:Nat}{W:World}{u:Value}{S:PS}{α:Type}
section
open Go.RowKit Go.ChangeMaps Go.MapKept Go.Maps Go.Sort Go.Shelf
def vV (s:PS) (m:List (Nat×Nd)):PS:=m.foldl (fun s p=>s.write p.1 p.2.written) s
def pX (s:PS) (m:List (Nat×Nat)):PS:=m.foldl (fun s p=>s.write p.1 (b16 p.2)) s
def endS (s:PS) (c:CD):PS:=(pX (vV s c.M) c.S).write 0 (iJ c)
structure bK (s s':PS):Prop where
 br:s'.br=s.br
 n:s'.n=s.n
 D:s'.D=s.D
 l:s'.l=s.l
 held:s'.held=s.held
theorem bK.refl(s:PS):bK s s:=⟨rfl,rfl,rfl,rfl,rfl⟩
theorem bK.write{s:PS}(h:bK s S)(k:Nat)(b:List UInt8):bK s (S.write k b):=⟨h.br,h.n,h.D,h.l,h.held⟩
theorem bK.calm{s:PS}(h:bK s S)(b:aAG s):aAG S:=⟨by rw[h.D];exact b.dead,by rw[h.D];exact b.pend,by have:=b.fit;rw[h.D,h.n,h.l]<;>exact this⟩
theorem jO(s:PS)(k j:Nat)(b:List UInt8):(s.write k b).page j=if j=k then jH b else s.page j:=by
 unfold PS.page PS.write;simp only[aHA]
 split<;>simp
theorem aAQ:∀(m:List (Nat×Nd)) {s b:PS},bK s b->bK s (vV b m)
 | [],_,_,h=>h
 | _::m,_,_,h=>aAQ m (h.write _ _)
theorem aAR:∀(m:List (Nat×Nat)) {s b:PS},bK s b->bK s (pX b m)
 | [],_,_,h=>h
 | _::m,_,_,h=>aAR m (h.write _ _)
theorem iS{p:Nat×α}{m:List (Nat×α)}(j:Nat):xF (p::m) j=if j=p.1 then some p.2 else xF m j:=by
 unfold xF;rw[List.find?_cons]
 by_cases h:j=p.1
 ·rw[iA h,h];simp
 ·rw[eA h];have:¬ p.1=j:=fun e=>h e.symm
  simp[this]
theorem aES{m:List (Nat×α)}{j:Nat}(h:∀p∈m,j<p.1):xF m j=none:=by
 cases c:xF m j with
 | none=>rfl
 | some b=>exact absurd (h _ (xY c)) (dR _)
theorem aET:∀ {m:List (Nat×Nd)} (s:PS) (j:Nat),gI m->(vV s m).page j=match xF m j with|some n=>jH n.written|none=>s.page j
 | [],_,_,_=>rfl
 | p::m,s,j,h=>by
  obtain⟨h1,h2⟩:=xE.1 h
  show(vV (s.write p.1 p.2.written) m).page j=_
  rw[aET _ j h2,iS,jO]
  by_cases b:j=p.1
  ·rw[iA b,aES (fun q c=>by rw[b];exact h1 q c),iA b]
  ·rw[eA b,eA b]
theorem aEU:∀ {m:List (Nat×Nat)} (s:PS) (j:Nat),gI m->(pX s m).page j=match xF m j with|some n=>jH (b16 n)|none=>s.page j
 | [],_,_,_=>rfl
 | p::m,s,j,h=>by
  obtain⟨h1,h2⟩:=xE.1 h
  show(pX (s.write p.1 (b16 p.2)) m).page j=_
  rw[aEU _ j h2,iS,jO]
  by_cases b:j=p.1
  ·rw[iA b,aES (fun q c=>by rw[b];exact h1 q c),iA b]
  ·rw[eA b,eA b]
theorem aNh{s:PS}{c:CD}(b:gI c.M)(d:gI c.S)(f:c.pg=s.page)(j:Nat):(endS s c).page j=gN c j:=by
 unfold endS gN;rw[jO]
 split
 ·rfl
 ·rw[aEU _ j d,aET _ j b,f]
  cases xF c.S j<;>rfl
theorem aDC{l:List α}{k:Nat}{x:α}(b:l[k]? = some x):l.take (k+1)=l.take k++[x]:=by rw[oM,b];rfl
theorem aNi{m:List (Nat×Nd)}{k:Nat}{p:Nat×Nd}(s:PS)(h:m[k]? = some p):vV s (m.take (k+1))=(vV s (m.take k)).write p.1 p.2.written:=by
 rw[aDC h];unfold vV;rw[gT]
 rfl
theorem aNj{m:List (Nat×Nat)}{k:Nat}{p:Nat×Nat}(s:PS)(h:m[k]? = some p):pX s (m.take (k+1))=(pX s (m.take k)).write p.1 (b16 p.2):=by
 rw[aDC h];unfold pX;rw[gT]
 rfl
theorem aGK:∀ {m:List (Nat×α)} {k:Nat} {p:Nat×α},gI m->m[k]? = some p->xF m p.1=some p.2
 | [],k,p,_,h=>by simp at h
 | q::m,0,p,_,h=>by
  simp only[iR,vI]at h;rw[iS,h,iA rfl]
 | q::m,k+1,p,hr,h=>by
  obtain⟨h1,h2⟩:=xE.1 hr;simp only[List.getElem?_cons_succ]at h;have b:=h1 p (rG h);rw[iS,eA (by omega),aGK h2 h]
theorem aEV{o:Oper}{a:Act}{w:World}{t:TypeId}{x y:Operand}{v b:Value}(c:o.op=.lookup t x y false)(d:a.eval x=u)(f:a.eval y=b)(h:(Instr.lookup t u b false).run prog w=.ok v w):(execOp a.eval o).run prog w=.ok (.value v) w:=by
 subst d f
 simp[execOp,c,h,Result.andThen]
theorem aBy(b:Array Value)(w:World):(callFunc 151 b).run prog w=.ok (.enter 151 b) w:=by kernel_rfl
theorem aBz(b:Array Value)(w:World):(callFunc 154 b).run prog w=.ok (.enter 154 b) w:=by kernel_rfl
theorem sP(b:Array Value)(w:World):(callFunc 150 b).run prog w=.ok (.enter 150 b) w:=by kernel_rfl
theorem Kp.more{Y:Nat->Prop}{a b d:World}(h:Kp Y a b)(i:Kp Y b d):Kp Y a d:=by
 obtain⟨S,h1,h2⟩:=h;obtain⟨T,h3,g⟩:=i;refine⟨S++T,(h1.mono fun q f=>.inl (aE _ f)).trans h3 fun q f=>.inl (rE _ f),fun x c=>?_⟩;rcases pD.1 c with c|c
 ·exact h2 x c
 ·exact g x c
theorem Kp.less{X Y:Nat->Prop}{a b:World}(h:Kp Y a b)(f:∀q,X q->Y q):Kp X a b:=by
 obtain⟨S,h1,h2⟩:=h;exact⟨S,h1,fun x c d=>h2 x c (f x d)⟩
theorem Kp.cell{Y:Nat->Prop}{a b:World}(h:Kp Y a b){q j:Nat}{v:Value}(d:a.cell? ⟨q,j,none⟩=some v)(f:Y q):b.cell? ⟨q,j,none⟩=some v:=by
 obtain⟨S,h1,h2⟩:=h;exact wA h1 (fun c=>h2 _ c f) d
def kC (Y:Nat->Prop) (w w':World):Nat->Prop:=fun q=>Y q∨w.heap.size<=q/\q<w'.heap.size
structure wV (w0:World) (g bc bn bs dk:Nat) (c:CD) (vs ss:List (Nat×Value)) (Y:Nat->Prop) (s:PS) (w:World):Prop where
 px:PgX w0 w dk g s Y
 blk:Blk w bc 142 (chC c g bn bs)
 nodes:VAt w bn vs
 spare:VAt w bs ss
 vals:wH (fun v n=>NdV (fun q=>Y q∨w.heap.size<=q) w 0 v n) vs c.M
 yc:Y bc
 yn:Y bn
 ys:Y bs
section
variable {w0 wS w w1 w2 : World} {g bc bn bs dk : Nat} {Y D X : Nat -> Prop} {c : CD} {vs ss : List (Nat × Value)} {s s' : PS}
theorem wV.keep(h:wV w0 g bc bn bs dk c vs ss Y s w1)(r:PgX w0 w2 dk g s' Y)(t:Kp Y w1 w2):wV w0 g bc bn bs dk c vs ss Y s' w2:=by
 obtain⟨S,b,m⟩:=t;have f:∀q,Y q->q∉S:=fun q d j=>m q j d;have o:=b.size;refine⟨r,h.blk.fr b (f _ h.yc),h.nodes.fr b (f _ h.yn),h.spare.fr b (f _ h.ys),h.vals.mono fun v n k _ p=>?_,h.yc,h.yn,h.ys⟩;have h1:NdV (fun q=>Y q∨w2.heap.size<=q) w1 0 v n:=p.re (fun q d i=>.inl (by rcases d with h|h;exact h;omega)) ⟨w2.heap.size,.inr (tA _),o⟩
 exact h1.fr b fun q d j=>by
  rcases d with i|i
  ·exact absurd i (m q j)
  ·omega
theorem wV.quiet(h:wV w0 g bc bn bs dk c vs ss Y s w1)(b:Fr [] w1 w2):wV w0 g bc bn bs dk c vs ss Y s w2:=h.keep (h.px.stay b) (Kp.of b)
theorem wV.more(h:wV w0 g bc bn bs dk c vs ss Y s w1)(d:Fr [] w1 w2):wV w0 g bc bn bs dk c vs ss (kC Y w1 w2) s w2:=by
 refine⟨h.px.fr d,h.blk.fr d,h.nodes.fr d,h.spare.fr d,h.vals.mono fun v n k _ i=>?_,.inl h.yc,.inl h.yn,.inl h.ys⟩;refine(i.fr d).weak fun q b=>?_;rcases b with b|b
 ·exact .inl (.inl b)
 ·rcases iP q w2.heap.size with f|f
  ·exact .inl (.inr ⟨b,f⟩)
  ·exact .inr f
theorem wV.start(m:PgC w0 wS dk g s X c)(h:kE wS w g bc bn bs D c)(o:∀q,D q->X q∨wS.heap.size<=q):∃vs ss,wV w0 g bc bn bs dk c vs ss (kC X wS w) s w/\wH (fun v n=>v=.int .i64 ((n:Nat):Int)) ss c.S:=by
 obtain⟨vs,v1,v2⟩:=h.nodes;obtain⟨ss,b,d⟩:=h.spare;refine⟨vs,ss,⟨m.px.fr h.fr,h.blk,v1,b,v2.mono fun v n k _ f=>?_,.inr ⟨h.l1,h.blk.lt⟩,.inr ⟨h.l2,v1.lt⟩,.inr ⟨h.l3,b.lt⟩⟩,d⟩;refine f.re (fun q i j=>.inl ?_) ⟨w.heap.size,.inr (tA _),tA _⟩;rcases o q i with h1|h1
 ·exact .inl h1
 ·exact .inr ⟨h1,j⟩
theorem aEW{R:Value->α->Prop}{vs:List (Nat×Value)}{m:List (Nat×α)}(h:wH R vs m)(b:gI m):gI vs:=by
 have e:=h.keys;have h1:(m.map fun p=>p.1).Pairwise (· < ·):=List.pairwise_map.2 b;rw[<- e]at h1;exact List.pairwise_map.1 h1
theorem aRQ(c:CD)(g bn bs:Nat){j:Nat}{v:Value}(h:(spC c)[j]? = some v):(chC c g bn bs)[j]? = some v:=by
 have b:j<10:=by
  have:=(tD.1 h).1;exact this
 match j,b with
 | 0,_|1,_|2,_|3,_|4,_|5,_|6,_|7,_|8,_|9,_=>exact h
theorem aGL(h:kE wS w g bc bn bs D c)(b:c.e≠0):Calls prog 120 #[.pointer (some ⟨bc,0,none⟩)] w fun e w'=>e=.returned (.int .i64 (c.e:Int))/\w=w':=by
 have d:=h.blk.at_ (i:=13) rfl;have f:¬ ((c.e:Nat):Int)=0:=by omega
 refine gA fun R k=>?_;have j:=lh (k.o _ _ ⟨rfl,rfl⟩);have m:=lh b;clear b h
 go_enter func120,ntmps120
 go_wp2_with fail;exact j.o
theorem aKB(hp:PgC w0 wS dk g s X c)(h:kE wS w g bc bn bs D c)(hD:∀q,D q->X q∨wS.heap.size<=q)(he:c.e=0)(h0:0<c.n):
  Calls prog 120 #[.pointer (some ⟨bc,0,none⟩)] w fun e w'=>e=.returned (.int .i64 0)/\PgX w0 w' dk g (endS s c) X/\Kp X w w':=by
 obtain⟨vs,ss,hE,a9⟩:=wV.start hp h hD;have G:=h.wf;have c9:=hp.n;have c':=G.fewM;have d0:=G.fewS;have d1:=hE.vals.len;have d2:=a9.len;have d3:=aEW hE.vals G.rM;have d4:=aEW a9 G.rS;have d5:=hp.br;have N:=hE.blk.at_ (i:=11) rfl;have d6:=hE.blk.at_ (i:=13) rfl;rw[he]at d6;have H:=lh G;have b1:=lh c9;have b2:=lh hE;have d7:=lh a9;have d8:=lh d1;have d9:=lh d2;have e8:=lh d3;have e9:=lh d4;have b3:=lh d5;have H0:=lh h0;have O:=lh G.n;have d':=lh c';have e0:=lh d0;clear G c9 hE a9 d1 d2 d3 d4 d5 h0 he h hp hD c' d0;refine gA fun R HQ=>?_
 go_enter func120,ntmps120
 go_wp2_with fail;refine(aNf bn _).mono ?_;rintro e w1 ⟨rfl,Z⟩;have P:=lh (aIg b2.o.nodes e8.o (by have:=d8.o;have:=d'.o;omega) w1 Z);have b4:Hid (Fr [] w w1):=lh (by rw[Z];exact(Fr.refl [] w).alloc _);clear Z N d6;go_wp2_with fail;refine P.o.mono ?_;rintro e wE ⟨rv,rfl,z,c2⟩;obtain⟨A,ca,rfl,g0⟩:=sA z;have t:=lh z;have I:=lh (b2.o.more (b4.o.trans c2));have e':=lh (b4.o.trans c2);clear z c2 P b2;obtain⟨Y1,c3⟩:=nm (kC (kC X wS w) w wE);rw[<- c3]at I;have a7:=lh c3;clear c3;have e1:vs.length=c.M.length:=d8.o;have a8:=lh e1;clear e1;go_wp2_with fail
 go_loopw [25] (fun v wr=>∃k:Nat,k<=vs.length/\v=.int .i64 (k:Int)/\wV w0 g bc bn bs dk c vs ss Y1 (vV s (c.M.take k)) wr/\Kp Y1 wE wr) (fun v _=>vs.length-(intOf v).toNat)
 case atStart=>exact⟨0,rB _,rfl,I.o,Kp.of (Fr.refl _ _)⟩
 case round=>
  obtain⟨k,hk,rfl,L,a3⟩:=hrel;have C:=lh a3;have Q:=lh L;have b:=lh (L.quiet ((Fr.refl [] wr).drew));clear L a3
  by_cases c8:k<vs.length
  ·have T:k<c.M.length:=by have:=a8.o;omega
   obtain⟨p,r⟩:=gx (l:=c.M) T;obtain⟨a4,a5,e7⟩:=H.o.mM p (rG r);have J:=aGK H.o.rM r
   obtain⟨nv,a2,hN⟩:∃nv,xF vs p.1=some nv/\NdV (fun q=>Y1 q∨wr.drew.heap.size<=q) wr.drew 0 nv p.2:=by
    rcases wH.get p.1 b.o.vals with ⟨h1,_⟩|⟨n',v,h1,h2,h3⟩
    ·rw[J]at h1;cases h1
    ·rw[J]at h1;obtain rfl:=fG h1;exact⟨v,h2,h3⟩
   obtain⟨gr,hA,B⟩:=tE t.o (show 0<vs.length by omega);have U:Y1 gr:=by rw[a7.o];exact .inr ⟨by have:=(t.o.lt gr (by rw[hA];rfl)).1;have:=b4.o.size;omega,sF t.o _ (by rw[hA];rfl)⟩
   have cr:=C.o.cell (B k (.int .i64 (p.1:Int)) (by
    have:=I.o.vals.kcells;unfold zO at this⊢;rw[this,zH,r];rfl)) U
   subst hA;have y:=b.o.blk.at_ (i:=10) rfl;have N:=b.o.blk.at_ (i:=11) rfl;have b5:=lh a2;have f0:=lh r;have b6:=lh a4;have b7:=lh (aKt hN a5 (by omega));have f1:=lh e7;have b8:=lh (aNi s r);have b9:p.1<=9223372036854775807:=by have:=O.o;omega
   clear B U J hN a5 e7 r T a2 a4;go_upto_region 6 with fail
   refine lA (fun W=>W.cell? ⟨bc,10,none⟩=some (.pointer (some ⟨g,0,none⟩))/\W.cell? ⟨bc,11,none⟩=some (.map (some bn))/\VAt W bn vs) [0,1,2,3,4,5,6,7,8,9,10] (by kernel_rfl) ?_;refine tks [0,1,2,3,4,5,6,7,8,9] ?_
   iterate 10 (refine tk rfl rfl ⟨y,N,b.o.nodes⟩ rfl (fun _ hW=>by(obtain⟨q0,q1,_⟩:=hW;go_simp)<;>with_reducible rfl) ?_;simp only[nrm])
   refine tke ?_;refine tv 10 (nv) rfl rfl ⟨y,N,b.o.nodes⟩ (.inl ⟨rfl,fun W hW=>aEV rfl rfl rfl (by have:=hW.2.2.look Go.Proofs.Tryz.underlying139 (aEO W) (k:=p.1) b9;rw[b5.o]at this;exact this)⟩) ?_;simp only[nrm];refine sp 11 rfl rfl rfl fun K hK=>?_;refine jA (l:=[.tmp 39]) rfl [nv] rfl (aBy _) (b7.o.mono ?_);rintro e w5 ⟨v5,rfl,⟨g5,F,a6⟩,x⟩;have f:=lh (b.o.quiet x);refine⟨_,rfl,hK _ _ (fun _=>⟨f.o.blk.at_ (i:=10) rfl,f.o.blk.at_ (i:=11) rfl,f.o.nodes⟩) ?_⟩;simp only[nrm];clear hK;have E:Hid (bK s (vV s (c.M.take k))):=lh (aAQ _ (bK.refl s));have V:=lh (aGv f.o.px (by rw[E.o.br];exact b3.o) p.1 (by rw[E.o.n,<- b1.o];exact b6.o) v5 p.2.written g5 F (by rw[Nd.written_len];exact f1.o));refine sp 12 rfl rfl rfl fun K hK=>?_;refine jA (l:=[.tmp 32,.tmp 33,.tmp 40]) rfl [.pointer (some ⟨g,0,none⟩),.int .i64 (p.1:Int),v5] rfl (sP _) (V.o.mono ?_);rintro e w6 ⟨rfl,u,m⟩;have d:=lh (f.o.keep u m);refine⟨_,rfl,hK _ _ (fun _=>⟨d.o.blk.at_ (i:=10) rfl,d.o.blk.at_ (i:=11) rfl,d.o.nodes⟩) ?_⟩;simp only[nrm];clear hK;refine sp 13 rfl rfl rfl fun K hK=>?_;refine nA (v:=?aq1_13) ?yq1_13 (hK _ _ (fun _=>⟨d.o.blk.at_ (i:=10) rfl,d.o.blk.at_ (i:=11) rfl,d.o.nodes⟩) ?_)
   case yq1_13=>go_simp<;>with_reducible rfl
   simp only[nrm];refine wd ?_ _;have HX:Hid (∃j:Nat,j<=vs.length/\Value.int .i64 ((k:Int)+1)=.int .i64 (j:Int)/\wV w0 g bc bn bs dk c vs ss Y1 (vV s (c.M.take j)) w6/\Kp Y1 wE w6):=lh ⟨k+1,c8,rfl,by rw[b8.o];exact d.o,((C.o.more (Kp.of ((Fr.refl [] wr).drew))).more (Kp.of x)).more m⟩;clear y N cr f d u m F a6 x;have Z:=wi k (by have:=d'.o;have:=a8.o;have:=O.o;omega)
   go_wp2_with fail
   go_roundw
   case rel=>exact HX.o
   case measure=>simp[intOf];omega
  ·obtain rfl:k=vs.length:=by omega
   have f2:Hid (c.M.take vs.length=c.M):=lh (by rw[a8.o];exact List.take_length);clear b;have b:=Q;clear Q;rw[f2.o]at b;have a0:Hid (bK s (vV s c.M)):=lh (aAQ _ (bK.refl s));obtain⟨s1,c4⟩:=nm (vV s c.M);rw[<- c4]at b a0;have f3:=lh c4;have b0:Kp (kC X wS w) w wr:=(Kp.of e'.o).more (C.o.less fun q hq=>by rw[a7.o];exact .inl hq);have e2:=lh b0;have e3:Hid (∀q,kC X wS w q->Y1 q):=lh (by rw[a7.o];exact fun q hq=>.inl hq);clear b0 c4 C I t;have a1:=b.o.blk.at_ (i:=12) rfl;go_wp2_with fail;refine(aNg bs _).mono ?_;rintro e w2 ⟨rfl,c5⟩;have P:=lh (aIh b.o.spare e9.o (by have:=d9.o;have:=e0.o;omega) w2 c5);have b':Hid (Fr [] wr w2):=lh (by rw[c5];exact(Fr.refl [] wr).alloc _);clear c5 a1;go_wp2_with fail;refine P.o.mono ?_;rintro e wG ⟨g1,rfl,z,c6⟩;obtain⟨A2,g2,rfl,f8⟩:=sA z;have t:=lh z;have I:=lh (b.o.more (b'.o.trans c6));have f4:Hid (Kp (kC X wS w) w wG):=lh (e2.o.more (Kp.of (b'.o.trans c6)));clear z c6 P e2;obtain⟨Y2,a'⟩:=nm (kC Y1 wr wG);rw[<- a']at I;have f5:=lh a';have c0:Hid (∀q,kC X wS w q->Y2 q):=lh (by rw[a'];exact fun q hq=>.inl (e3.o q hq));clear a' e3;have e4:ss.length=c.S.length:=d9.o;have c1:=lh e4;clear e4 b a7 a8;go_wp2_with fail
   go_loopw [53] (fun v wr=>∃k:Nat,k<=ss.length/\v=.int .i64 (k:Int)/\wV w0 g bc bn bs dk c vs ss Y2 (pX s1 (c.S.take k)) wr/\Kp Y2 wG wr) (fun v _=>ss.length-(intOf v).toNat)
   case atStart=>exact⟨0,rB _,rfl,I.o,Kp.of (Fr.refl _ _)⟩
   case round=>
    obtain⟨k,hk,rfl,L,a3⟩:=hrel;have C:=lh a3;have Q:=lh L;have b:=lh (L.quiet ((Fr.refl [] wr).drew));clear L a3
    by_cases c8:k<ss.length
    ·have T:k<c.S.length:=by have:=c1.o;omega
     obtain⟨p,r⟩:=gx (l:=c.S) T;obtain⟨a4,a5⟩:=H.o.mS p (rG r);have J:=aGK H.o.rS r
     have a2:xF ss p.1=some (.int .i64 (p.2:Int)):=by
      rcases wH.get p.1 d7.o with ⟨h1,_⟩|⟨n',v,h1,h2,h3⟩
      ·rw[J]at h1;cases h1
      ·rw[J]at h1;obtain rfl:=fG h1;rw[h2,h3]
     obtain⟨gr,hA,B⟩:=tE t.o (show 0<ss.length by omega);have U:Y2 gr:=by rw[f5.o];exact .inr ⟨by have:=(t.o.lt gr (by rw[hA];rfl)).1;have:=b'.o.size;omega,sF t.o _ (by rw[hA];rfl)⟩
     have cr:=C.o.cell (B k (.int .i64 (p.1:Int)) (by
      have:=d7.o.kcells;unfold zO at this⊢;rw[this,zH,r];rfl)) U
     subst hA;have y:=b.o.blk.at_ (i:=10) rfl;have a1:=b.o.blk.at_ (i:=12) rfl;have b5:=lh a2;have f0:=lh r;have b6:=lh a4;have e5:Buf wr.drew wr.drew.heap.size (.slice none 0 0) []:=vF _ _ _ _;have b7:=lh (jG e5 p.2 a5 (by simp) (tA _));have b8:=lh (aNj s1 r);have b9:p.1<=9223372036854775807:=by have:=O.o;omega
     clear B U J a5 r T a2 a4;go_upto_region 13 with fail
     refine lA (fun W=>W.cell? ⟨bc,10,none⟩=some (.pointer (some ⟨g,0,none⟩))/\W.cell? ⟨bc,12,none⟩=some (.map (some bs))/\VAt W bs ss) [0,1,2,3,4,5,6,7,8,9,10] (by kernel_rfl) ?_;refine tks [0,1,2,3,4,5,6,7,8,9] ?_
     iterate 10 (refine tk rfl rfl ⟨y,a1,b.o.spare⟩ rfl (fun _ hW=>by(obtain⟨q0,q1,_⟩:=hW;go_simp)<;>with_reducible rfl) ?_;simp only[nrm])
     refine tke ?_;refine tv 10 (.int .i64 (p.2:Int)) rfl rfl ⟨y,a1,b.o.spare⟩ (.inl ⟨rfl,fun W hW=>aEV rfl rfl rfl (by have:=hW.2.2.look Go.Proofs.Tryz.underlying140 (aIi W) (k:=p.1) b9;rw[b5.o]at this;exact this)⟩) ?_;simp only[nrm];refine sp 11 rfl rfl rfl fun K hK=>?_;refine jA (l:=[.const (.slice none 0 0),.tmp 67]) rfl [.slice none 0 0,.int .i64 (p.2:Int)] rfl (yO _) (b7.o.mono ?_);rintro e w5 ⟨v5,rfl,c7⟩;have x:Fr [] wr.drew w5:=c7.fr;obtain⟨g5,F,a6⟩:=cA.of_row rfl c7.buf x.size;have f:=lh (b.o.quiet x);refine⟨_,rfl,hK _ _ (fun _=>⟨f.o.blk.at_ (i:=10) rfl,f.o.blk.at_ (i:=12) rfl,f.o.spare⟩) ?_⟩;simp only[nrm];clear hK;have E:Hid (bK s (pX s1 (c.S.take k))):=lh (aAR _ a0.o);have V:=lh (aGv f.o.px (by rw[E.o.br];exact b3.o) p.1 (by rw[E.o.n,<- b1.o];exact b6.o) v5 (b16 p.2) g5 F (by show 2<=512;omega));refine sp 12 rfl rfl rfl fun K hK=>?_;refine jA (l:=[.tmp 60,.tmp 61,.tmp 68]) rfl [.pointer (some ⟨g,0,none⟩),.int .i64 (p.1:Int),v5] rfl (sP _) (V.o.mono ?_);rintro e w6 ⟨rfl,u,m⟩;have d:=lh (f.o.keep u m);refine⟨_,rfl,hK _ _ (fun _=>⟨d.o.blk.at_ (i:=10) rfl,d.o.blk.at_ (i:=12) rfl,d.o.spare⟩) ?_⟩;simp only[nrm];clear hK;refine sp 13 rfl rfl rfl fun K hK=>?_;refine nA (v:=?aq2_13) ?yq2_13 (hK _ _ (fun _=>⟨d.o.blk.at_ (i:=10) rfl,d.o.blk.at_ (i:=12) rfl,d.o.spare⟩) ?_)
     case yq2_13=>go_simp<;>with_reducible rfl
     simp only[nrm];refine wd ?_ _;have HX:Hid (∃j:Nat,j<=ss.length/\Value.int .i64 ((k:Int)+1)=.int .i64 (j:Int)/\wV w0 g bc bn bs dk c vs ss Y2 (pX s1 (c.S.take j)) w6/\Kp Y2 wG w6):=lh ⟨k+1,c8,rfl,by rw[b8.o];exact d.o,((C.o.more (Kp.of ((Fr.refl [] _).drew))).more (Kp.of x)).more m⟩;clear y a1 cr f d u m F a6 x c7;have Z:=wi k (by have:=e0.o;have:=c1.o;have:=O.o;omega)
     go_wp2_with fail
     go_roundw
     case rel=>exact HX.o
     case measure=>simp[intOf];omega
    ·obtain rfl:k=ss.length:=by omega
     have e6:Hid (c.S.take ss.length=c.S):=lh (by rw[c1.o];exact List.take_length);rw[e6.o]at b;have E:Hid (bK s (pX s1 c.S)):=lh (aAR _ a0.o);have f6:=lh ((f4.o.more (C.o.less c0.o)).more (Kp.of ((Fr.refl [] _).drew)));have y:=b.o.blk.at_ (i:=10) rfl;have f9:=H.o.next;have f':=O.o;have f7:=fun W=>aKA c (w:=W) (by omega) H.o.head H.o.roots;go_upto_region 17 with fail
     refine lA (fun W=>W.cell? ⟨bc,10,none⟩=some (.pointer (some ⟨g,0,none⟩))/\Blk W bc 142 (chC c g bn bs)) [0,1,2,3,4,5,6,7] (by kernel_rfl) ?_;refine tks [0,1,2,3,4,5,6] ?_
     iterate 7 (refine tk rfl rfl ⟨y,b.o.blk⟩ rfl (fun _ hW=>by(obtain⟨q0,_⟩:=hW;go_simp)<;>with_reducible rfl) ?_;simp only[nrm])
     refine tke ?_;refine tv 7 (.agg (spC c).toArray) rfl rfl ⟨y,b.o.blk⟩ (Go.yieldsIf_load_mid rfl 138 (.tmp 80) rfl bc 0 rfl (spC c) _ (fun W hW j v hj=>by rw[cC];exact hW.2.at_ (aRQ c g bn bs hj)) underlying138 rfl (by kernel_rfl)) ?_;simp only[nrm];refine sp 8 rfl rfl rfl fun K hK=>?_;refine jA (l:=[.tmp 81]) rfl [.agg (spC c).toArray] rfl (aBz _) ((f7 _).mono ?_);rintro e w5 ⟨v5,rfl,⟨g5,F,a6⟩,x⟩;have f:=lh (b.o.quiet x);refine⟨_,rfl,hK _ _ (fun _=>⟨f.o.blk.at_ (i:=10) rfl,f.o.blk⟩) ?_⟩;simp only[nrm];clear hK;have V:=lh (aGv f.o.px (by rw[E.o.br];exact b3.o) 0 (by rw[E.o.n,<- b1.o];exact H0.o) v5 (iJ c) g5 F (by rw[mX];omega));refine sp 9 rfl rfl rfl fun K hK=>?_;refine jA (l:=[.tmp 77,.const (.int .i64 0),.tmp 82]) rfl [.pointer (some ⟨g,0,none⟩),.int .i64 0,v5] rfl (sP _) (V.o.mono ?_);rintro e w6 ⟨rfl,u,m⟩;have d:=lh (f.o.keep u m);refine⟨_,rfl,hK _ _ (fun _=>⟨d.o.blk.at_ (i:=10) rfl,d.o.blk⟩) ?_⟩;simp only[nrm];clear hK;refine sp 10 rfl rfl rfl fun K hK=>?_;refine nA (v:=?aq3_10) ?yq3_10 (hK _ _ (fun _=>⟨d.o.blk.at_ (i:=10) rfl,d.o.blk⟩) ?_)
     case yq3_10=>go_simp<;>with_reducible rfl
     simp only[nrm];refine wd ?_ _
     have HX:=lh (HQ.o _ _ ⟨rfl,(show PgX w0 w6 dk g (endS s c) X by
      unfold endS;rw[<- f3.o];exact d.o.px.weak fun q hq=>c0.o q (.inl hq)),((f6.o.more (Kp.of x)).more (m.less c0.o)).less fun q hq=>.inl hq⟩)
     clear y f d u m F a6 x;go_wp2_with fail;exact HX.o
end
def rdZ (pg:Nat->List UInt8) (n:Nat):CD:={ pg:=pg,n:=n,next:=0,head:=0,roots:=fun _=>0,M:=[],S:=[],e:=0 }
def rdK (pg:Nat->List UInt8) (n:Nat) (b:List UInt8) (k:Nat):CD:={ pg:=pg,n:=n,next:=r16 (b.drop 2),head:=r16 (b.drop 4),roots:=fun t=>if t<k then r16 (b.drop (6+2*t)) else 0,M:=[],S:=[],e:=0 }
def rdC (pg:Nat->List UInt8) (n:Nat) (b:List UInt8):CD:=
 if b=qD then { pg:=pg,n:=n,next:=1,head:=0,roots:=fun _=>0,M:=[],S:=[],e:=0 }
 else { pg:=pg,n:=n,next:=r16 (b.drop 2),head:=r16 (b.drop 4),roots:=fun t=>r16 (b.drop (6+2*t)),M:=[],S:=[],e:=0 }
theorem aEX(pg:Nat->List UInt8)(n:Nat):rdC pg n (pg 0)=aC pg n:=rfl
theorem aPg(pg:Nat->List UInt8)(n:Nat)(b:List UInt8)(k:Nat):(rdK pg n b k).root k (r16 (b.drop (6+2*k)))=rdK pg n b (k+1):=by
 unfold rdK CD.root;simp only[CD.mk.injEq,true_and,and_true]
 funext j
 unfold sD
 by_cases c:j=k
 ·rw[iA c,c,iA (by omega)]
 ·rw[eA c]
  by_cases h2:j<k
  ·show(if j<k then _ else _)=_
   rw[iA h2,iA (by omega)]
  ·show(if j<k then _ else _)=_
   rw[eA h2,eA (by omega)]
theorem aPh(w:World):(Instr.makeSlice 67 (.int .i64 512) (.int .i64 512)).run prog w=.ok (.slice (some ⟨w.heap.size,0,none⟩) 512 512) (w.alloc (.cells (fA qD).toArray 5)):=by
 obtain⟨i,hi,d,b,f⟩:=Go.info_parts tM;have h:=run_makeSlice (P:=prog) w 67 5 i _ Go.Proofs.Tryz.underlying67 hi d .i64 .i64 512 512 (by omega) (by omega) (by rw[b];decide) (by rw[f];decide) (by omega)
 have e:madeCells #[Value.int .u8 0] 512=(fA qD).toArray:=by
  have:=bV 8;have c:(DM.new 8).S.flatten=List.replicate (8*64) 0:=List.flatten_replicate_replicate;rw[c]at this;rw[show qD=List.replicate (8*64) 0 from rfl,<- this]
 rw[b]at h;exact h.trans (by rw[<- e];rfl)
theorem aAS(b:Array Value)(w:World):(callFunc 105 b).run prog w=.ok (.enter 105 b) w:=by kernel_rfl
theorem aLT{b:List UInt8}{j:Nat}{x:UInt8}(h:b.getD j 0=x)(c:j<b.length):b[j]? = some x:=by
 rw[wP,xD c]at h;rw[xD c];exact congrArg some h
theorem aDD:qD.length=512:=by unfold qD;rw[zT]
theorem aQD{w:World}{g bs n:Nat}{pg:Nat->List UInt8}{v:Value}{b:List UInt8}(hb:Blk w m 142 (chC (rdZ pg n) g c bs))(hv:cA w v b d)(hg:d≠m)(hl:b.length=512)
 (hm:b=qD∨(b≠qD/\b.getD 0 0=79/\b.getD 1 0=82))(h1:1<=(rdC pg n b).next):
  Calls prog 95 #[.pointer (some ⟨m,0,none⟩),v] w fun e w'=>e=.returned (.bool true)/\Blk w' m 142 (chC (rdC pg n b) g c bs)/\Fr [m] w w':=by
 obtain⟨w1,J⟩:=nm (w.alloc (.cells (fA qD).toArray 5));have E:Fr [] w w1:=by rw[J];exact(Fr.refl [] w).alloc _
 have a2:cA w1 (.slice (some ⟨w.heap.size,0,none⟩) 512 512) qD w.heap.size:=by
  rw[J];have h:=cA.of_blk (Blk.new w 5 (fA qD)) 512 (by rw[aDD];exact tA _);rw[aDD]at h;exact h
 have a3:=lh (aBk (hv.fr E) a2);have b7:=aPh w;rw[<- J]at b7;obtain⟨A,s,off,rfl,c9,f⟩:=hv;obtain⟨rfl,c'⟩:=f (by omega);clear c';rw[hl]at c9 a3⊢;have a4:cA w (.slice (some ⟨d,off,none⟩) 512 s) b d:=⟨_,s,off,by rw[hl],by omega,f⟩;have HV:=lh a4;have HB:=lh (hb.fr E);have C:=lh hl;have HM:=lh hm;have H1:=lh h1;have u:=lh E;have HG:=lh hg;have N:=lh f;clear a2 hb hl hm h1 hg E J a4 f;refine gA fun R HQ=>?_
 go_enter func95,ntmps95
 go_wp2_with fail;refine a3.o.mono ?_;rintro e w2 ⟨rfl,rfl⟩
 by_cases L:b=qD
 ·rw[xP L];have p:=HB.o.free 0;have r:=HB.o.lt;have a5:=HB.o.at_ (i:=0) rfl
  have HX:Hid (R (.returned (.bool true)) (w1.setCell ⟨m,0,none⟩ (.int .i64 1))):=lh (HQ.o _ _ ⟨rfl,by
   have h:=HB.o.set_ 0 (.int .i64 1);unfold rdC;rw[iA L];exact h,(u.o.mono (by simp)).trans ((Fr.refl [m] w1).setCell (.inl (by simp)) _) (fun q hq=>.inl hq)⟩)
  have HZ:=lh L;clear L;go_wp2_with fail;exact HX.o
 ·rw[vN L]
  obtain⟨b4,Z⟩:b.getD 0 0=79/\b.getD 1 0=82:=by
   rcases HM.o with h|⟨_,h1,h2⟩
   ·exact absurd h L
   ·exact⟨h1,h2⟩
  have en:rdC pg n b={ pg:=pg,n:=n,next:=r16 (b.drop 2),head:=r16 (b.drop 4),roots:=fun t=>r16 (b.drop (6+2*t)),M:=[],S:=[],e:=0 }:=eA L;have a6:1<=r16 (b.drop 2):=by have:=H1.o;rw[en]at this;exact this
  have b8:=lh en;have O:=(N.o (by have:=C.o;omega)).2;have b9:=C.o;have x0:=aA u.o (O 0 (.int .u8 79) (by rw[uG,aLT b4 (by omega)];rfl));have x1:=aA u.o (O 1 (.int .u8 82) (by rw[uG,aLT Z (by omega)];rfl));rw[aAa]at x0;have b':=lh x0;have c1:=lh x1;have HZ:=lh L;have a7:=lh a6;have Q:=lh (HV.o.fr u.o);clear b4 Z en a6 O x0 x1 L b9;have T:∀w,_:=fun w=>aH (P:=prog) Go.Proofs.Tryz.underlying67 rfl (some ⟨d,off,none⟩) 512 s 2 .i64 (by omega) w;have U:∀w,_:=fun w=>aH (P:=prog) Go.Proofs.Tryz.underlying67 rfl (some ⟨d,off,none⟩) 512 s 4 .i64 (by omega) w;rw[eA (by omega)]at T U;simp only[yP,Go.Addr.add_mid]at T U;have F:=Q.o.from_ 2 (by have:=C.o;omega);have G:=Q.o.from_ 4 (by have:=C.o;omega);rw[eA (by omega),C.o]at F G;simp only[yP,Go.Addr.add_mid]at F G;have a8:=lh (lJ (F.fr (w':=w1.drew) ((Fr.refl [] w1).drew) (by simp)) (by rw[mC];have:=C.o;omega));have c2:=lh G;have c3:=lh (HB.o.fr ((Fr.refl [] w1).drew));clear F G;go_upto_region 4 with fail
  refine lA (fun _=>True) [0,1,2,3,5,6,8,9,11,12] (by kernel_rfl) ?_;refine tks [0,1,2] ?_
  iterate 3 (refine tk rfl rfl trivial rfl (fun _ _=>by go_simp<;>with_reducible rfl) ?_;simp only[nrm])
  refine tke ?_;refine tv 3 (.slice (some ⟨d,off+2,none⟩) 510 (s-2)) rfl rfl trivial (.inl ⟨rfl,fun W _=>mG rfl rfl rfl rfl (T W)⟩) ?_;simp only[nrm];refine tks [5] ?_;refine tk rfl rfl trivial rfl (fun _ _=>by go_simp<;>with_reducible rfl) ?_;simp only[nrm];refine tke ?_;refine tv 6 (.slice (some ⟨d,off+4,none⟩) 508 (s-4)) rfl rfl trivial (.inl ⟨rfl,fun W _=>mG rfl rfl rfl rfl (U W)⟩) ?_;simp only[nrm];refine sp 4 rfl rfl rfl fun K hK=>?_;refine jA (l:=[.tmp 15]) rfl [.slice (some ⟨d,off+2,none⟩) 510 (s-2)] rfl (aAS _) (a8.o.mono ?_);rintro e w3 ⟨rfl,q3,rfl⟩;refine⟨_,rfl,hK _ _ (fun _=>trivial) ?_⟩;simp only[nrm];clear hK a8;have V:Fr [] w1 (w1.drew.drewN q3):=((Fr.refl [] w1).drew).drewN q3;generalize w1.drew.drewN q3=w3 at *;have a9:=lh (lJ (c2.o.fr V) (by rw[mC];have:=C.o;omega));refine sp 7 rfl rfl rfl fun K hK=>?_;refine jA (l:=[.tmp 18]) rfl [.slice (some ⟨d,off+4,none⟩) 508 (s-4)] rfl (aAS _) (a9.o.mono ?_);rintro e w4 ⟨rfl,q4,rfl⟩;refine⟨_,rfl,hK _ _ (fun _=>trivial) ?_⟩;simp only[nrm];clear hK a9;have X:Fr [] w1 (w3.drewN q4):=V.drewN q4;generalize w3.drewN q4=w4 at *;have x:=lh (HB.o.fr X);have a':=lh X;clear X V c3;have p:=x.o.free 0;have r:=x.o.lt;have a5:=x.o.at_ (i:=0) rfl;refine tks [8,9] ?_
  iterate 2 (refine tk rfl rfl trivial rfl (fun _ _=>by go_simp<;>with_reducible rfl) ?_;simp only[nrm])
  refine tke ?_;refine xA (j:=10) none rfl rfl (by kernel_rfl) rfl fun K hK=>?_;refine pB (w':=w4.setCell ⟨m,0,none⟩ (.int .i64 ((r16 (b.drop 2):Nat):Int))) (by go_simp) (hK _ _ (fun _=>trivial) ?_);simp only[Act.put];clear hK;have y:=lh (x.o.set_ 0 (.int .i64 ((r16 (b.drop 2):Nat):Int)));have b0:Hid (Fr [m] w1 (w4.setCell ⟨m,0,none⟩ (.int .i64 ((r16 (b.drop 2):Nat):Int)))):=lh ((a'.o.mono (by simp)).setCell (.inl (by simp)) _);clear p r a5;generalize w4.setCell ⟨m,0,none⟩ (.int .i64 ((r16 (b.drop 2):Nat):Int))=w5 at *;have p:=y.o.free 1;have r:=y.o.lt;have c4:=y.o.at_ (i:=1) (v:=.int .i64 0) rfl;refine tks [11,12] ?_
  iterate 2 (refine tk rfl rfl trivial rfl (fun _ _=>by go_simp<;>with_reducible rfl) ?_;simp only[nrm])
  refine tke ?_;refine xA (j:=13) none rfl rfl (by kernel_rfl) rfl fun K hK=>?_;refine pB (w':=w5.setCell ⟨m,1,none⟩ (.int .i64 ((r16 (b.drop 4):Nat):Int))) (by go_simp) (hK _ _ (fun _=>trivial) ?_);simp only[Act.put];clear hK;refine wd ?_ _;have c5:Hid (Blk (w5.setCell ⟨m,1,none⟩ (.int .i64 ((r16 (b.drop 4):Nat):Int))) m 142 (chC (rdK pg n b 0) g c bs)):=lh (y.o.set_ 1 (.int .i64 ((r16 (b.drop 4):Nat):Int)));have c6:Hid (Fr [m] w1 (w5.setCell ⟨m,1,none⟩ (.int .i64 ((r16 (b.drop 4):Nat):Int)))):=lh (b0.o.setCell (.inl (by simp)) _);clear p r c4 y b0 x a';generalize w5.setCell ⟨m,1,none⟩ (.int .i64 ((r16 (b.drop 4):Nat):Int))=w6 at *;go_wp2_with fail
  go_loopw [24] (fun v wr=>∃k:Nat,k<=8/\v=.int .i64 (k:Int)/\Blk wr m 142 (chC (rdK pg n b k) g c bs)/\Fr [m] w1 wr) (fun v _=>8-(intOf v).toNat)
  case atStart=>exact⟨0,by omega,rfl,c5.o,c6.o⟩
  case round=>
   obtain⟨k,hk,rfl,b5,b6⟩:=hrel;have Y:=lh b5;have z:=lh b6;clear b5 b6
   by_cases a1:k<8
   ·have Z:IntKind.i64.wrap (2*(k:Int))=2*(k:Int):=by rw[iD];omega
    have d1:IntKind.i64.wrap (6+2*(k:Int))=6+2*(k:Int):=by rw[iD];omega
    have d2:=wi k (by omega)
    have a0:∀w,_:=fun w=>aH (P:=prog) Go.Proofs.Tryz.underlying67 rfl (some ⟨d,off,none⟩) 512 s (6+2*k) .i64 (by omega) w;have H:((6+2*k:Nat):Int)=6+2*(k:Int):=by omega
    rw[eA (by omega),H]at a0;simp only[yP,Go.Addr.add_mid]at a0;clear H;have c7:Hid (∀w,(Instr.sliceAt 67 (.slice (some ⟨d,off,none⟩) 512 s) (some (.int .i64 (6+2*(k:Int)))) none none).run prog w=.ok (.slice (some ⟨d,off+(6+2*k),none⟩) (512-(6+2*k)) (s-(6+2*k))) w):=lh a0;have I:=Q.o.from_ (6+2*k) (by have:=C.o;omega);rw[eA (by omega),C.o]at I;simp only[yP,Go.Addr.add_mid]at I;have b1:Fr [m] w1 wr.drew:=z.o.drew;have b2:=lh (lJ (I.fr b1 (by have:=HG.o;simpa using this)) (by rw[mC];have:=C.o;omega));clear I b1;go_upto_region 8 with fail
    refine lA (fun _=>True) [0,1,2,3,4,5,6,8,9,10] (by kernel_rfl) ?_;refine tks [0,1,2,3,4,5] ?_
    iterate 6 (refine tk rfl rfl trivial rfl (fun _ _=>by go_simp<;>with_reducible rfl) ?_;simp only[nrm])
    refine tke ?_;refine tv 6 (.slice (some ⟨d,off+(6+2*k),none⟩) (512-(6+2*k)) (s-(6+2*k))) rfl rfl trivial (.inl ⟨rfl,fun W _=>mG rfl rfl rfl rfl (c7.o W)⟩) ?_;simp only[nrm];refine tks [8,9] ?_
    iterate 2 (refine tk rfl rfl trivial rfl (fun _ _=>by go_simp<;>with_reducible rfl) ?_;simp only[nrm])
    refine tke ?_;refine sp 7 rfl rfl rfl fun K hK=>?_;refine jA (l:=[.tmp 33]) rfl [.slice (some ⟨d,off+(6+2*k),none⟩) (512-(6+2*k)) (s-(6+2*k))] rfl (aAS _) (b2.o.mono ?_);rintro e w7 ⟨rfl,q7,rfl⟩;refine⟨_,rfl,hK _ _ (fun _=>trivial) ?_⟩;simp only[nrm];clear hK b2;have B:=lh (Y.o.fr (((Fr.refl [] wr).drew).drewN q7));have b3:=lh (z.o.drew.drewN q7);generalize wr.drew.drewN q7=w7 at *;have p:=B.o.free (2+k);have r:=B.o.lt;have H:=B.o.at_ (dG _ g c bs a1);refine tks [10] ?_;refine tk rfl rfl trivial rfl (fun _ _=>by go_simp<;>with_reducible rfl) ?_;simp only[nrm];refine tke ?_;refine xA (j:=11) none rfl rfl (by kernel_rfl) rfl fun K hK=>?_;refine pB (w':=w7.setCell ⟨m,2+k,none⟩ (.int .i64 ((r16 (b.drop (6+2*k)):Nat):Int))) (by go_simp) (hK _ _ (fun _=>trivial) ?_);simp only[Act.put];clear hK;refine wd ?_ _
    have HX:Hid (∃j:Nat,j<=8/\Value.int .i64 ((k:Int)+1)=.int .i64 (j:Int)/\Blk (w7.setCell ⟨m,2+k,none⟩ (.int .i64 ((r16 (b.drop (6+2*k)):Nat):Int))) m 142 (chC (rdK pg n b j) g c bs)/\Fr [m] w1 (w7.setCell ⟨m,2+k,none⟩ (.int .i64 ((r16 (b.drop (6+2*k)):Nat):Int)))):=lh ⟨k+1,a1,rfl,by
     have h:=B.o.set_ (2+k) (.int .i64 ((r16 (b.drop (6+2*k)):Nat):Int));rw[aLS _ g c bs a1,aPg]at h;exact h,b3.o.setCell (.inl (by simp)) _⟩
    clear p r H B b3;go_wp2_with fail
    go_roundw
    case rel=>exact HX.o
    case measure=>simp[intOf];omega
   ·obtain rfl:k=8:=by omega
    have y0:=wA z.o (by have:=HG.o;simpa using this) b'.o;have y1:=wA z.o (by have:=HG.o;simpa using this) c1.o;have c0:=Y.o.at_ (i:=0) (v:=.int .i64 ((r16 (b.drop 2):Nat):Int)) rfl;have d0:(0:Int)<((r16 (b.drop 2):Nat):Int):=by have:=a7.o;omega
    have c8:0<r16 (b.drop 2):=by have:=a7.o;omega
    have HX:Hid (R (.returned (.bool true)) wr):=lh (HQ.o _ _ ⟨rfl,by
     rw[b8.o];exact Y.o,(u.o.mono (by simp)).trans z.o (fun q hq=>.inl hq)⟩)
    go_wp2_with fail;exact HX.o
section
variable {P : Program} {md : Region.Mode} {ops : Array Oper} {Q : Exit -> Act -> World -> Prop} {S1 S2 : World -> Prop} {I : List Nat}
theorem iW(f:∀W,S1 W->S2 W):∀(b:Nat) {c:Array Bool} {a:Act} {w:World},tF P md ops Q S1 I b c a w->tF P md ops Q S2 I b c a w
 | 0,_,_,_,h=>h
 | b+1,_listed,_a,_w,h=>⟨h.1,fun i hi=>wpOp_mono (fun _ _ d=>⟨fun g=>f _ (d.1 g),iW f b d.2⟩) (h.2 i hi)⟩
end
theorem aP{w:World}{g j:Nat}{v:Value}(h:w.cell? ⟨g,j,none⟩=some v):g<w.heap.size:=by
 rcases iP g w.heap.size with h1|h1
 ·exact h1
 ·have:w.cell? ⟨g,j,none⟩=none:=by simp[World.cell?,Array.getElem?_eq_none h1]
  rw[h]at this;cases this
theorem aNk{w:World}{v:Value}{bs:List UInt8}{g:Nat}(h:cA w v bs g)(h0:0<bs.length):g<w.heap.size:=by
 obtain⟨A,c,off,_,_,b⟩:=h;exact aP ((b h0).2 0 (B8 bs[0]) (by rw[uG,xD h0];rfl))
def Dm_ (X:Nat->Prop) (w:World) (bc bn bs:Nat):Nat->Prop:=fun q=>(X q∨w.heap.size<=q)/\q≠bc/\q≠bn/\q≠bs
theorem aIm{pg:Nat->List UInt8}{n:Nat}{E:Nat->En}(h:oI pg n E):WfW (aC pg n):=by
 obtain⟨_,c,P,F,b⟩:=h;obtain⟨d,f,g,i,j⟩:=nG pg n;refine⟨b.acc.few,b.acc.next2,b.acc.head,?_,b.acc.wf.rM,b.acc.wf.rS,?_,?_,fun t=>?_⟩
 ·rw[d,f];exact c
 ·rw[g];simp
 ·rw[i];simp
 ·unfold aC
  split
  ·show 0<65536;omega
  ·exact aOT _
theorem aGM(b:Array Value)(w:World):(callFunc 95 b).run prog w=.ok (.enter 95 b) w:=by kernel_rfl
theorem aIn(b:Array Value)(w:World):(callFunc 96 b).run prog w=.ok (.enter 96 b) w:=by kernel_rfl
section
variable {w0 w : World} {dk g st : Nat} {s : PS} {X : Nat -> Prop} {E : Nat -> En}
theorem aIo(hp:PgX w0 w dk g s X)(a1:s.br=false)(r:aAG s)(a2:w.cell? ⟨st,0,none⟩=some (.pointer (some ⟨g,0,none⟩)))(hS:oI s.page s.n E):
  Calls prog 71 #[.pointer (some ⟨st,0,none⟩)] w fun e w'=>∃bc t bs,e=.returned (.tuple #[.pointer (some ⟨bc,0,none⟩),.int .i64 0])/\kE w w' g bc t bs (Dm_ X w bc t bs) (aC s.page s.n):=by
 have I:=aIm hS;obtain⟨Y,Z,P,F,hF⟩:=hS;have J:1<=s.n:=by have:=hF.acc.next1;have:=hF.acc.next2;have:=(nG s.page s.n).2.1;omega
 have A:=hF.acc.next1;have d:=hF.acc.next2;rw[(nG s.page s.n).2.1]at d;have a3:=lh (aKl hp a1 r 0 J);have S:=lh (Z 0 J);have a4:=lh Y;have a5:=lh I;have HP:=lh hp;have a6:=lh A;have a7:=lh d;have b3:=lh I.n;clear hp a1 r I Y Z hF J A d;have a8:=@run_makeMap prog;refine gA fun R HQ=>?_
 go_enter func71,ntmps71
 go_wp2_with fail;refine a3.o.mono ?_;rintro e w1 ⟨v,gb,rfl,hv,a0,O⟩;have f:=aA O a2;have HV:=lh hv;have T:=lh O;have a9:=lh a0;clear hv O a0 a2;go_upto_region 7 with fail
 have u:Fr [] w1 (((w1.alloc (.map #[] 0)).alloc (.map #[] 0)).alloc (.cells (chC (rdZ s.page s.n) g w1.heap.size (w1.heap.size+1)).toArray 142)):=(((Fr.refl [] w1).alloc _).alloc _).alloc _;have L:VAt (((w1.alloc (.map #[] 0)).alloc (.map #[] 0)).alloc (.cells (chC (rdZ s.page s.n) g w1.heap.size (w1.heap.size+1)).toArray 142)) w1.heap.size []:=(VAt.new w1).fr (((Fr.refl [] _).alloc _).alloc _)
 have M:VAt (((w1.alloc (.map #[] 0)).alloc (.map #[] 0)).alloc (.cells (chC (rdZ s.page s.n) g w1.heap.size (w1.heap.size+1)).toArray 142)) (w1.heap.size+1) []:=by
  have:=(VAt.new (w1.alloc (.map #[] 0))).fr ((Fr.refl [] _).alloc (.cells (chC (rdZ s.page s.n) g w1.heap.size (w1.heap.size+1)).toArray 142))
  rwa [xC]at this
 have x:Blk (((w1.alloc (.map #[] 0)).alloc (.map #[] 0)).alloc (.cells (chC (rdZ s.page s.n) g w1.heap.size (w1.heap.size+1)).toArray 142)) (w1.heap.size+1+1) 142 (chC (rdZ s.page s.n) g w1.heap.size (w1.heap.size+1)):=by
  have:=Blk.new ((w1.alloc (.map #[] 0)).alloc (.map #[] 0)) 142 (chC (rdZ s.page s.n) g w1.heap.size (w1.heap.size+1))
  rwa [xC,xC]at this
 have N:=T.o.size
 show Code.wp _ _ _ _ (((w1.alloc (.map #[] 0)).alloc (.map #[] 0)).alloc (.cells (chC (rdZ s.page s.n) g w1.heap.size (w1.heap.size+1)).toArray 142))
 generalize ((w1.alloc (.map #[] 0)).alloc (.map #[] 0)).alloc (.cells (chC (rdZ s.page s.n) g w1.heap.size (w1.heap.size+1)).toArray 142)=w2 at *;obtain⟨t,Q⟩:=nm (w1.heap.size);rw[<- Q]at L M x N⊢;have B:=x.lt
 have C:gb≠t+1+1:=fun e=>by
  have:=aNk HV.o (by rw[S.o];omega);omega
 have a':=a9.o;have b4:=lh B;have y:=lh N;have b0:=lh L;have b1:=lh M;have b2:=lh u;have G:=x.fr (w':=w2.drew) ((Fr.refl [] w2).drew) (by simp)
 have U:=lh (aQD G (HV.o.fr (u.trans ((Fr.refl [] w2).drew))) C S.o (by
  rcases a4.o with h|h
  ·exact .inl h
  ·exact .inr h) (by rw[aEX];exact a6.o))
 have k:w2.drew.cell? ⟨st,0,none⟩=some (.pointer (some ⟨g,0,none⟩)):=aA ((Fr.refl [] w2).drew) (aA u f)
 have H:st≠t+1+1:=fun e=>by
  have h1:st<w1.heap.size:=aP f;omega
 have V:=lh H;have b5:=lh Q;clear L M x u C a' f H B N G Q a8;refine lA (fun W=>W.cell? ⟨st,0,none⟩=some (.pointer (some ⟨g,0,none⟩))/\True) [0,1,2,3,5,6,7,8,9,10,11,12,13,14,15,17,18] (by kernel_rfl) ?_;refine tks [0,1,2,3] ?_
 iterate 4 (refine tk rfl rfl ⟨k,trivial⟩ rfl (fun _ hW=>by(obtain⟨q0,_⟩:=hW;go_simp)<;>with_reducible rfl) ?_;simp only[nrm])
 refine tke ?_;refine iW (S1:=fun W=>W.cell? ⟨st,0,none⟩=some (.pointer (some ⟨g,0,none⟩))/\W.cell? ⟨t+1+1,0,none⟩=some (.int .i64 (((aC s.page s.n).next:Nat):Int))) (fun W h=>⟨h.1,trivial⟩) _ ?_;refine sp 4 rfl rfl rfl fun K hK=>?_;refine jA (l:=[.tmp 37,.tmp 38]) rfl [.pointer (some ⟨t+1+1,0,none⟩),v] rfl (aGM _) (U.o.mono ?_);rintro e w3 ⟨rfl,z,c⟩;rw[aEX]at z;have b:=wA c (by simpa using V.o) k;have m:=z.at_ (i:=0) (v:=.int .i64 (((aC s.page s.n).next:Nat):Int)) rfl;refine⟨_,rfl,hK _ _ (fun _=>⟨b,m⟩) ?_⟩;simp only[nrm];clear hK U;refine tks [5,6,7,8,9,10,11,12,13,14,15] ?_
 iterate 11 (refine tk rfl rfl ⟨b,m⟩ rfl (fun _ hW=>by(obtain⟨q0,q1⟩:=hW;go_simp)<;>with_reducible rfl) ?_;simp only[nrm])
 refine tke ?_
 have p:Fr [] w w3:=by
  have h1:=(T.o.trans b2.o).drew;refine h1.trans c fun q hq=>.inr ?_;obtain rfl:=aB.1 hq;have:=y.o;omega
 refine vJ (j:=16) (some 51) rfl rfl (by kernel_rfl) rfl fun K hK=>?_;refine jA (l:=[.tmp 50]) rfl [.pointer (some ⟨g,0,none⟩)] rfl (aIn _) ((aGF (HP.o.stay p)).mono ?_);rintro e w4 ⟨rfl,rfl⟩;refine⟨_,rfl,hK _ _ (fun _=>⟨b,m⟩) ?_⟩;simp only[nrm];clear hK;have b6:¬ ((s.n:Nat):Int)<(((aC s.page s.n).next:Nat):Int):=by have:=a7.o;omega
 refine tks [17,18] ?_
 iterate 2 (refine tk rfl rfl ⟨b,m⟩ rfl (fun _ hW=>by(obtain⟨q0,q1⟩:=hW;go_simp)<;>with_reducible rfl) ?_;simp only[nrm])
 refine tke ?_;refine wd ?_ _;have b7:=c.size;have HX:=lh (HQ.o _ _ ⟨t+1+1,t,t+1,rfl,⟨p,by have:=y.o;omega,y.o,by have:=y.o;omega,by omega,z,⟨[],(b0.o.fr ((Fr.refl [] _).drew)).fr c (by simp;omega),by rw[(nG s.page s.n).2.2.1];trivial⟩,⟨[],(b1.o.fr ((Fr.refl [] _).drew)).fr c,by rw[(nG s.page s.n).2.2.2.1];trivial⟩,fun q hq=>hq.2,a5.o⟩⟩);clear b m z c p k;go_wp2_with fail;exact HX.o
end
theorem aIp{c c':CD}{m h k:Nat}{lo hi:Option Ky}{E:En}{u:Ky×Nat}{R:List Nat}(p:aHV c c' m h k lo hi E u R):
  u.2≠0->1<=u.1.length/\u.1.length<=96/\u.2<65536/\c'.e=0/\0<c'.n/\(c'.head≠0->c'.head<c'.n/\∃j,c'.nx c'.head=some j):=fun f=>by
 obtain⟨_,⟨i,P,F,b,_,d⟩|⟨_,u0,_⟩⟩:=p
 ·rcases d with ⟨u0,_⟩|⟨_,u1,u2,_,_,E1,P1,E2,P2,q,o,rfl,rfl⟩
  ·exact absurd u0 f
  ·have g:=(b.mem (k:=u.2) (.inl (aE _ (rE _ o.head)))).2;have:=b.next2;have:=b.few;have:=b.next1;exact⟨u1,u2,by omega,i,by omega,aGG b⟩
 ·exact absurd u0 f
def aEY (E:Nat->En) (t:Nat):En:=((List.range 8).erase t).flatMap E
theorem aKC{N:Nat->Option Nd}{r:Nat}{E:En}{P:List Nat}(h:aMY N r E P):P.length<=2*E.length:=by
 rcases h with ⟨_,rfl,rfl⟩|⟨_,h,b⟩
 ·simp
 ·have:=b.count.1;omega
theorem aLU{P:Nat->List Nat}{E:Nat->En}:∀ {l:List Nat},(∀s∈l,(P s).length<=2*(E s).length)->(l.flatMap P).length<=2*(l.flatMap E).length
 | [],_=>by simp
 | s::l,h=>by
  have h1:=h s (sB ..);have h2:=aLU (l:=l) fun q b=>h q (uC _ b);rw[nH,nH,lB,lB];omega
theorem qX{c:CD}{E:Nat->En}{P:Nat->List Nat}{F:List Nat}(h:vH c E P F)(t:Nat):(xK P t).length<=2*(aEY E t).length:=
 aLU fun s b=>aKC (h.tree s (vT.1 (List.mem_of_mem_erase b)))
def Wr (s s':PS):Prop:=∃l:List (Nat×List UInt8),(∀p∈l,p.1<s.n/\p.2.length<=512)/\s'=l.foldl (fun s p=>s.write p.1 p.2) s
theorem Wr.refl(s:PS):Wr s s:=⟨[],fun _ h=>(by cases h),rfl⟩
theorem aDE:∀(l:List (Nat×List UInt8)) {s b:PS},bK s b->bK s (l.foldl (fun s p=>s.write p.1 p.2) b)
 | [],_,_,h=>h
 | _::l,_,_,h=>aDE l (h.write _ _)
theorem Wr.same{s:PS}(h:Wr s S):bK s S:=by
 obtain⟨l,_,rfl⟩:=h;exact aDE l (bK.refl s)
theorem Wr.trans{s c:PS}(h:Wr s S)(f:Wr S c):Wr s c:=by
 have d:=h.same.n;obtain⟨l,h1,rfl⟩:=h;obtain⟨l',h2,rfl⟩:=f;refine⟨l++l',fun p b=>?_,by rw[gT]⟩;rcases pD.1 b with b|b
 ·exact h1 p b
 ·have:=h2 p b
  rwa [d]at this
theorem Wr.end_{s:PS}{c:CD}(g:WfW c)(i:c.n=s.n)(h0:0<c.n):Wr s (endS s c):=by
 refine⟨(c.M.map fun p=>(p.1,p.2.written))++(c.S.map fun p=>(p.1,b16 p.2))++[(0,iJ c)],fun p f=>?_,?_⟩
 ·rcases pD.1 f with f|f
  ·rcases pD.1 f with f|f
   ·obtain⟨q,h,rfl⟩:=cI.1 f;obtain⟨a,b,d⟩:=g.mM q h;exact⟨by show q.1<s.n;omega,by show q.2.written.length<=512;rw[Nd.written_len];exact d⟩
   ·obtain⟨q,h,rfl⟩:=cI.1 f;obtain⟨a,b⟩:=g.mS q h;exact⟨by show q.1<s.n;omega,by show 2<=512;omega⟩
  ·obtain rfl:=aB.1 f;exact⟨by show 0<s.n;omega,by show(iJ c).length<=512;rw[mX];omega⟩
 ·unfold endS pX vV;rw[gT,gT,List.foldl_map,List.foldl_map]
  rfl
theorem lZ{s:PS}{c:CD}{E:Nat->En}{P:Nat->List Nat}{F:List Nat}(d:vH c E P F)(f:c.pg=s.page)(g:c.n=s.n)(b:WfW c):oI (endS s c).page s.n E:=by
 have h1:=aNb d (by exact b.pg)
 have e:(endS s c).page=gN c:=by
  funext j
  exact aNh b.rM b.rS f j
 rw[e,<- g];exact h1
structure StX (w0 w:World) (dk g st:Nat) (s:PS) (X:Nat->Prop) (E:Nat->En):Prop where
 px:PgX w0 w dk g s X
 blk:Blk w st 172 [.pointer (some ⟨g,0,none⟩)]
 xs:X st
 br:s.br=false
 calm:aAG s
 store:oI s.page s.n E
section
variable {w0 w w' : World} {dk g st : Nat} {s s' : PS} {X : Nat -> Prop} {E E' : Nat -> En}
theorem StX.fr(h:StX w0 w dk g st s X E)(b:Fr [] w w'):StX w0 w' dk g st s (kC X w w') E:=⟨h.px.fr b,h.blk.fr b,.inl h.xs,h.br,h.calm,h.store⟩
theorem StX.stay(h:StX w0 w dk g st s X E)(b:Fr [] w w'):StX w0 w' dk g st s X E:=⟨h.px.stay b,h.blk.fr b,h.xs,h.br,h.calm,h.store⟩
theorem StX.kept(h:StX w0 w dk g st s X E)(c:PgX w0 w' dk g s' X)(d:Kp X w w')(b:bK s s')(f:oI s'.page s.n E'):StX w0 w' dk g st s' X E':=⟨c,d.blk h.blk h.xs,h.xs,by rw[b.br];exact h.br,b.calm h.calm,by rw[b.n];exact f⟩
theorem StX.pgc(h:StX w0 w dk g st s X E):PgC w0 w dk g s X (aC s.page s.n):=⟨h.px,h.br,h.calm,(nG _ _).1,(nG _ _).2.1⟩
theorem StX.begin(h:StX w0 w dk g st s X E):
  Calls prog 71 #[.pointer (some ⟨st,0,none⟩)] w fun e w'=>∃bc bn bs,e=.returned (.tuple #[.pointer (some ⟨bc,0,none⟩),.int .i64 0])/\kE w w' g bc bn bs (Dm_ X w bc bn bs) (aC s.page s.n):=
 aIo h.px h.br h.calm (h.blk.at_ (i:=0) rfl) h.store
theorem kE.top{bs:Nat}{c:CD}(h:kE W w g k i bs (Dm_ X W k i bs) c):∀q,w.heap.size<=q->Dm_ X W k i bs q:=fun q m=>by
 have h1:=h.blk.lt;obtain⟨f,v1,_⟩:=h.nodes;obtain⟨j,b,_⟩:=h.spare;have h2:=v1.lt;have h3:=b.lt;have d:=h.fr.size;exact⟨.inr (by omega),by omega,by omega,by omega⟩
theorem StX.key{bs:Nat}{kv:Value}{key:Ky}(h:StX w0 w dk g st s X E)(f:cA w kv key j)(b:X j)(h1:w.heap.size<=k)(h2:w.heap.size<=i)(h3:w.heap.size<=bs)(m:Fr [] w w'):∃q,cA w' kv key q/\Dm_ X w k i bs q:=by
 have c:j<w.heap.size:=by obtain⟨_,_,_,_,_,_,_,d⟩:=h.px;exact d j b
 exact⟨j,f.fr m,.inl b,by omega,by omega,by omega⟩
theorem aRR(r:PgX w0 w dk g s X)(h:s.br=false)(b:aAG s)(t:oI s.page s.n E):
  Calls prog 52 #[.pointer (some ⟨g,0,none⟩)] w fun e w'=>∃st,e=.returned (.tuple #[.pointer (some ⟨st,0,none⟩),.int .i64 0])/\StX w0 w' dk g st s (kC X w w') E/\Fr [] w w':=by
 obtain⟨v,c⟩:=nm (w.alloc (.cells #[.pointer (some ⟨g,0,none⟩)] 172));have k:Fr [] w v:=by rw[c];exact(Fr.refl [] w).alloc _
 have m:Blk v w.heap.size 172 [.pointer (some ⟨g,0,none⟩)]:=by rw[c];exact Blk.new w _ [.pointer (some ⟨g,0,none⟩)]
 have j:=aIo (r.stay k) h b (m.at_ (i:=0) rfl) t;refine gA fun R F=>?_;have u:=lh m;have x:=lh k;have p:=lh j;have y:=lh r;have z:=lh t;have A:=lh b;have q:=lh h;clear m k j r t b h
 go_enter func52,ntmps52
 go_upto_region 2 with fail
 rw[<- c];clear c;go_wp2_with fail;refine p.o.mono ?_;rintro e C ⟨G,H,bs,rfl,d⟩;have f:Fr [] w C:=x.o.trans d.fr;have B:=lh (F.o _ _ ⟨w.heap.size,rfl,⟨y.o.fr f,u.o.fr d.fr,.inr ⟨tA _,by have:=u.o.lt;have:=d.fr.size;omega⟩,q.o,A.o,z.o⟩,f⟩);clear f d;go_wp2_with fail;exact B.o
end
end
end Go.Proofs.YtebjhcjbfaaejaaGreatDoor
