/-
  Joined: Ok Ol Om On Op Oq Or Qa Qb Qc Qd
-/
import Derived.Test.YtebjhcjbfaaejaaGreatDoorJct6
set_option maxRecDepth 100000
set_option maxHeartbeats 32000000
open Go.Value renaming int->ii,slice->si,pointer->pi,tuple->tl,bool->ij,agg->il
open Go.IntKind renaming i64->ip,u8->ix,wrap->Wi
open Go.Obj renaming cells->iy
open Go.Ending renaming returned->iz
open Or renaming inl->Ii,inr->Ij
open List renaming length->li,replicate->ji,map_cons->xJ,flatMap_append->vO,map_map->jV,pairwise_map->mV,takeWhile_sublist->aBl,filter_cons->aHu,filter_map->aLi
open UInt8 renaming ofNat->Ot
namespace Go.Proofs.YtebjhcjbfaaejaaGreatDoor
open Go.Proofs.Tryz
variable {i:Nat}{u:Value}{α:Type}
section
open Go.RowKit Go.Sort Go.Shelf
structure WSt (w0 wc:World) (H:Nat) (vb:Value) (bb:List UInt8) (wx:Nat) (X:List Value):Prop where
 buf:Buf wc H vb bb
 blk:Blk wc wx 198 X
 ne:vb.ownBlock≠some wx
 fr:Fr [] w0 wc
 hz:w0.heap.size=H
section
variable {w0 wc w':World}{H wx:Nat}{vb v':Value}{bb b':List UInt8}{X:List Value}
theorem WSt.hH(h:WSt w0 wc H vb bb wx X):H<=wc:=by have:=h.fr.size;have:=h.hz;omega
theorem WSt.frame(h:WSt w0 wc H vb bb wx X)(b:Fr [] wc w'):WSt w0 w' H vb bb wx X:=⟨h.buf.fr b,h.blk.fr b,h.ne,h.fr.trans b,h.hz⟩
theorem WSt.app(h:WSt w0 wc H vb bb wx X)(b:App wc H vb b' w' v'):WSt w0 w' H v' b' wx X:=⟨b.buf,h.blk.fr b.fr (λc=>h.ne (by simpa using c)),λe=>by
 obtain c|c:=b.row _ e;·exact h.ne c
 have:=h.blk.lt;omega,h.fr.trans b.fr (λc d=>Ij (by have:=(h.buf.lt c (by simpa using d)).1;have:=h.hz;omega)),h.hz⟩
end
theorem aED{w:World}{g H n:Nat}{e:TypeId}{cs:List Value}(h:Blk w g e cs)(b:li cs=n)(d:H<=g)(c:n<=1048576):w.ownsRow H e 1 (si g n n) n cs:=⟨by omega,Ij ⟨g,n,cs.toArray,rfl,d,h,tA _,by unfold maxLen;omega,by simp[b],by simp[<- b]⟩⟩
def WRel (wb:World) (n:Nd) (v3 v24:Value) (wr:World):Prop:=∃k:Nat,k<=n.l.length/\v24=.int .i64 (k:Int)/\Buf wr wb.heap.size v3 (n.head++(n.l.take k).flatMap (ib n.lf))/\Fr [] wb wr
theorem part_len(n:Nd)(k:Nat):li (n.head++(n.l.take k).flatMap (ib n.lf))<=n.size:=by rw[iB,n.head_len,cF,aHR];have:=pP n.lf n.l k;unfold aF at this⊢;omega
theorem bR(b:Array Value)(w:World):(callFunc 153 b).run prog w=.ok (.enter 153 b) w:=by kernel_rfl
theorem aCO(m:Nat)(_b:m<256):IntKind.u8.wrap (m:Int)=((Ot m).toNat:Int):=by rw[cQ,jL];omega
theorem Z63{P:Prop} (h:P:=by
 obtain rfl:k=n.l.length:=by omega
 obtain⟨gb,hgb,hgg⟩:=jM (kD HBUF.o (fun _ _=>uB _)) (fun q hq=>(HBUF.o.lt q hq).1)
 have HE:Hid (R (.returned u3) wr):=lh (HQ.o _ _ ⟨_,rfl,⟨gb,by
  have e:n.head ++ (n.l.take n.l.length).flatMap (ib n.lf)=n.written:=by rw[zF (tA _)];rfl
  rw[e] at hgb;obtain⟨_,_,hsh⟩:=HBUF.o.shape;rw[e] at hsh;exact hgb,by have:=HZB.o;omega⟩,HF0.o.trans HFR.o⟩)
 clear hgb hgg;go_wp2_with fail

 exact HE.o):P:=h
theorem aMj{D:Nat->Prop}{w:World}{v:Value}{n:Nd}(h:NdV D w i v n)(r:n.ok)(u:n.size<=65536): Calls prog 151 #[v] w λe b=>∃v',e=iz v'/\(∃g,dA b v' n.written g/\w.heap.size<=g)/\Fr [] w b:=by
 obtain⟨m,p,f4,rfl,f5,y,s,t⟩:=h.parts;clear h;obtain⟨d,c⟩:=nm (w.alloc (iy #[ii ip (fA n),ii ip (n.first:Int),si m (li n.l) p] 184));have f:Fr [] w d:=by rw[c];exact(jj [] w).alloc _
 have b:Blk d w.heap.size 184 [ii ip (fA n),ii ip (n.first:Int),si m (li n.l) p]:=by rw[c];exact jl w _ [ii ip (fA n),ii ip (n.first:Int),si m (li n.l) p]
 have HZB:Hid (w.heap.size<=d.heap.size):=lh f.size;have⟨j,HF0,HC,HI,a9,c7⟩:=hh6 b f t s r u;have x:=b.a 0;have B:=b.a 1;have m:=b.a 2;have C:=r.few;clear b f t s y r u;refine cA λR HQ=>?_;go_enter func151,ntmps151;go_upto_region 1 with fail;rw[<- c];obtain⟨I,b⟩:∃I:UInt8,I=if n.lf then 1 else 2:=⟨_,rfl⟩
 have r:IntKind.u8.wrap (fA n)=(I.toNat:Int):=by rw[b];unfold fA;cases n.lf<;>decide
 have d':=lh b;clear b;refine sB ?_;iterate 3 (refine ab ?_)
 obtain⟨d5,y,z,A,Q⟩:=fF yN;refine lp λK hK=>uJ (.tmp 8) rfl Go.Proofs.Tryz.underlying67 y z A rfl (ii ix (I.toNat:Int)) rfl rfl d.heap.size rfl λs p f t=>hK _ _ ?_;simp only[nrm];clear hK x B m r c;have m:=(j.o.fr f).a 2;have b:Hid (Buf s d.heap.size (si (some ⟨d.heap.size,0,none⟩) 1 1) [I]):=lh (aED p rfl (tA _) (by omega));have⟨c9,HP⟩:=hh2 f (eH b.o (li n.l) C (by simp) (by omega));clear p f t y z A Q;iterate 3 (refine ab ?_)
 refine lp λK hK=>kA (l:=[.tmp 9,.tmp 12]) rfl [si (some ⟨d.heap.size,0,none⟩) 1 1,ii ip (li n.l:Int)] rfl (bR _) (HP.o.mono ?_);rintro e J ⟨v2,rfl,c⟩;refine⟨_,rfl,hK _ _ ?_⟩;simp only[nrm];clear hK;refine ab ?_;refine wB ?_;have H:Hid (Fr [] d J):=lh (c9.o.trans c.fr (λq hq=>Ij (by have:=(b.o.lt q (by simpa using hq)).1;omega)));have e0:Hid (Buf J d.heap.size v2 (I::b16 (li n.l))):=lh c.buf;clear c HP b c9 m;cases a2:n.lf with
 | true=>
  have M:fA n=1:=by unfold fA;rw[a2];rfl
  have c5:Hid (n.head=I::b16 (li n.l)):=lh (by unfold Nd.head;rw[d'.o,a2];simp);have f:=(j.o.fr H.o).a 0;have m:=(j.o.fr H.o).a 1;have s:=(j.o.fr H.o).a 2;rw[M]at f;go_wp2_with fail;refine(pI J 1 _ _).mono ?_;rintro e c2 ⟨rfl,p⟩;have N:Fr [] J c2:=by rw[p];exact(jj [] J).alloc _
  have t:=lh (H.o.trans N);have O:Hid (Buf c2 d.heap.size v2 (n.head++(n.l.take 0).flatMap (ib n.lf))):=lh (by rw[c5.o];simpa using e0.o.fr N);clear p f m s N;have m:=(j.o.fr t.o).a 1;have s:=(j.o.fr t.o).a 2;go_wp2_with fail;go_loopw [3,24] (WRel d n) (λ_ v _=>li n.l-(intOf v).toNat);·exact⟨0,uB _,rfl,O.o,t.o⟩
  obtain⟨k,e5,rfl,a4,a5⟩:=hrel;have⟨HBUF,HFR⟩:=hh2 a4 a5;clear a4 a5 m s;by_cases c1:k<li n.l
  ·obtain⟨r,E⟩:=gx (l:=n.l) c1;have a3:=kF E;obtain⟨a6,a7,a8,a',b0,b4,S⟩:=HI.o.at_ E;obtain⟨g,rfl,F⟩:=HC.o (by omega);have C:=HF0.o.trans HFR.o;have c6:=aA C (F _ _ a');have c8:=aA C (F _ _ b0);have d0:=aA C (F _ _ b4);have⟨b1,b2,T,b3⟩:=hh4 S S.one (a9.o.item r a3) (aBI E);clear E a3 F S C a' b0 b4;go_wp2_with (first
    | (with_reducible refine qA rfl 198 rfl (il #[si none 0 0,si none 0 0,ii ip 0]) zit.toArray aR rfl ?_)
    | (refine zA (W:=wr) rfl 198 (.tmp 5) (.tmp 27) rfl [a6,a7,a8] rfl rfl rfl mH rfl b2.o ?_))
   intro b9 b' Z d9;obtain⟨U,G⟩:=nm (n.head++(n.l.take k).flatMap (ib n.lf));have e1:li U<=65536:=(by rw[G];exact vD (part_len n k) c7.o);have d1:=lh G;have b:Hid (WSt d b9 d.heap.size u3 U wr.heap.size [a6,a7,a8]):=lh ⟨by rw[G];exact HBUF.o.fr Z,b',λe=>by have:=aG HBUF.o _ e;omega,HFR.o.trans Z,rfl⟩;obtain⟨⟨e6,b6,_⟩,⟨e7,b7,_⟩,d6⟩:=b1.o;have⟨b5,c'⟩:=hh2 b6 b7;obtain⟨e8,e9,e',rfl,_,_⟩:=b6;obtain⟨f0,f1,f2,rfl,_,_⟩:=b7;subst d6;have e2:=T.o.k2;have e3:=T.o.v;have d2:=aCO (li r.key) (by omega);have d4:=aCO (li r.v) (by omega);obtain⟨V,X⟩:=nm (Ot (li r.key));obtain⟨c3,Y⟩:=nm (Ot (li r.v));rw[<- X]at d2;rw[<- Y]at d4;have⟨b8,d3⟩:=hh2 X Y;clear b' Z d9 c6 c8 d0 G X Y;have e4:=wi k (by omega);have u:=b.o.blk.a 0;have x:=b.o.blk.a 1;go_upto_region 7 with fail;refine sB ?_;iterate 6 (refine ab ?_)
   obtain⟨d5,y,z,A,Q⟩:=fF yN;refine lp λK hK=>uJ (.tmp 33) rfl Go.Proofs.Tryz.underlying67 y z A rfl (ii ix (V.toNat:Int)) rfl rfl b9.heap.size rfl λf3 L B c0=>hK _ _ ?_;simp only[nrm];clear hK;refine lp λK hK=>tG (.tmp 28) (.tmp 34) rfl rfl (b.o.buf.fr B) (by have:=b.o.hH;omega) (dA.of_blk (bs:=[V]) L 1 (tA _)) (by first|omega|(simp only[LN];omega)) (by simp) λv5 a0 c=>hK _ _ ?_;simp only[nrm];clear hK;refine ab ?_;refine wB ?_;have b:=lh ((b.o.frame B).app c);clear c L B c0 u x y z A Q;have f:=(j.o.fr b.o.fr).a 0;have m:=(j.o.fr b.o.fr).a 1;have s:=(j.o.fr b.o.fr).a 2;rw[M]at f;go_wp2_with fail;refine(pI a0 1 _ _).mono ?_;rintro e c4 ⟨rfl,p⟩;have b:=lh (b.o.frame (show Fr [] a0 c4 by rw[p];exact(jj [] a0).alloc _));clear p f m s;have u:=b.o.blk.a 0;have x:=b.o.blk.a 1;go_upto_region 9 with fail;refine sB ?_;iterate 6 (refine ab ?_)
   obtain⟨d5,y,z,A,Q⟩:=fF yN;refine lp λK hK=>uJ (.tmp 43) rfl Go.Proofs.Tryz.underlying67 y z A rfl (ii ix (c3.toNat:Int)) rfl rfl c4.heap.size rfl λf6 L B c0=>hK _ _ ?_;simp only[nrm];clear hK;refine lp λK hK=>tG (.tmp 38) (.tmp 44) rfl rfl (b.o.buf.fr B) (by have:=b.o.hH;omega) (dA.of_blk (bs:=[c3]) L 1 (tA _)) (by first|omega|(simp only[LN];omega)) (by simp) λv7 f7 c=>hK _ _ ?_;simp only[nrm];clear hK;refine ab ?_;refine wB ?_;have b:=lh ((b.o.frame B).app c);clear c L B c0 u x y z A Q;have u:=b.o.blk.a 0;have x:=b.o.blk.a 1;go_upto_region 10 with fail;refine sB ?_;iterate 4 (refine ab ?_)
   refine lp λK hK=>tG (.tmp 46) (.tmp 49) rfl rfl b.o.buf b.o.hH (b5.o.fr (HF0.o.trans b.o.fr)) (by first|omega|(simp only[LN];omega)) (by omega) λv8 a1 c=>hK _ _ ?_;simp only[nrm];clear hK;refine ab ?_;refine wB ?_;have b:=lh (b.o.app c);clear c u x;have f:=(j.o.fr b.o.fr).a 0;have m:=(j.o.fr b.o.fr).a 1;have s:=(j.o.fr b.o.fr).a 2;rw[M]at f;go_wp2_with fail;refine(pI a1 1 _ _).mono ?_;rintro e d7 ⟨rfl,p⟩;have b:=lh (b.o.frame (show Fr [] a1 d7 by rw[p];exact(jj [] a1).alloc _));clear p f m s;have u:=b.o.blk.a 0;have x:=b.o.blk.a 1;go_upto_region 12 with fail;refine sB ?_;iterate 4 (refine ab ?_)
   refine lp λK hK=>tG (.tmp 53) (.tmp 56) rfl rfl b.o.buf b.o.hH (c'.o.fr (HF0.o.trans b.o.fr)) (by first|omega|(simp only[LN];omega)) (by omega) λv10 d8 c=>hK _ _ ?_;simp only[nrm];clear hK;refine ab ?_;refine wB ?_;have b:=lh (b.o.app c);clear c u x;have HX:Hid (WRel d n v10 (ii ip ((k:Int)+1)) d8):=lh ⟨k+1,c1,rfl,by have e:n.head++(n.l.take (k+1)).flatMap (ib n.lf)=(((U++[V])++[c3])++r.key)++r.v:=(by rw[b3.o,vO,<- uF,<- d1.o];simp[ib,a2,b8.o,d3.o]);rw[e];exact b.o.buf,b.o.fr⟩;clear b;exact Z7
  exact Z63
 | false=>
  have M:fA n=2:=by unfold fA;rw[a2];rfl
  have c5:Hid (n.head=(I::b16 (li n.l))++b16 n.first):=lh (by unfold Nd.head;rw[d'.o,a2];simp);have I:=a9.o.first;have f:=(j.o.fr H.o).a 0;have m:=(j.o.fr H.o).a 1;have s:=(j.o.fr H.o).a 2;rw[M]at f;go_wp2_with fail;refine(pI J 2 _ _).mono ?_;rintro e c2 ⟨rfl,p⟩;have N:Fr [] J c2:=by rw[p];exact(jj [] J).alloc _
  have⟨t,O⟩:=hh2 (H.o.trans N) (e0.o.fr N);clear p f m s N;have m:=(j.o.fr t.o).a 1;have H:=lh (eH O.o n.first I (by simp[b16]) (by have:=t.o.size;omega));go_wp2_with fail;refine H.o.mono ?_;rintro e I ⟨v3,rfl,c⟩;have J:Hid (Fr [] d I):=lh (c.fr0 O.o (tA _) t.o);have N:Hid (Buf I d.heap.size v3 (n.head++(n.l.take 0).flatMap (ib n.lf))):=lh (by rw[c5.o];simpa using c.buf);clear c H m O t;have t:=J;have O:=N;have m:=(j.o.fr t.o).a 1;have s:=(j.o.fr t.o).a 2;go_wp2_with fail;go_loopw [3,24] (WRel d n) (λ_ v _=>li n.l-(intOf v).toNat);·exact⟨0,uB _,rfl,O.o,t.o⟩
  obtain⟨k,e5,rfl,a4,a5⟩:=hrel;have⟨HBUF,HFR⟩:=hh2 a4 a5;clear a4 a5 m s;by_cases c1:k<li n.l
  ·obtain⟨r,E⟩:=gx (l:=n.l) c1;have a3:=kF E;obtain⟨a6,a7,a8,a',b0,b4,S⟩:=HI.o.at_ E;obtain⟨g,rfl,F⟩:=HC.o (by omega);have C:=HF0.o.trans HFR.o;have c6:=aA C (F _ _ a');have c8:=aA C (F _ _ b0);have d0:=aA C (F _ _ b4);have⟨b1,b2,T,b3⟩:=hh4 S S.one (a9.o.item r a3) (aBI E);clear E a3 F S C a' b0 b4;go_wp2_with (first
    | (with_reducible refine qA rfl 198 rfl (il #[si none 0 0,si none 0 0,ii ip 0]) zit.toArray aR rfl ?_)
    | (refine zA (W:=wr) rfl 198 (.tmp 5) (.tmp 27) rfl [a6,a7,a8] rfl rfl rfl mH rfl b2.o ?_))
   intro b9 b' Z d9;obtain⟨U,G⟩:=nm (n.head++(n.l.take k).flatMap (ib n.lf));have e1:li U<=65536:=(by rw[G];exact vD (part_len n k) c7.o);have d1:=lh G;have b:Hid (WSt d b9 d.heap.size u3 U wr.heap.size [a6,a7,a8]):=lh ⟨by rw[G];exact HBUF.o.fr Z,b',λe=>by have:=aG HBUF.o _ e;omega,HFR.o.trans Z,rfl⟩;obtain⟨⟨e6,b6,_⟩,⟨e7,b7,_⟩,d6⟩:=b1.o;have⟨b5,c'⟩:=hh2 b6 b7;obtain⟨e8,e9,e',rfl,_,_⟩:=b6;obtain⟨f0,f1,f2,rfl,_,_⟩:=b7;subst d6;have e2:=T.o.k2;have e3:=T.o.v;have d2:=aCO (li r.key) (by omega);have d4:=aCO (li r.v) (by omega);obtain⟨V,X⟩:=nm (Ot (li r.key));obtain⟨c3,Y⟩:=nm (Ot (li r.v));rw[<- X]at d2;rw[<- Y]at d4;have⟨b8,d3⟩:=hh2 X Y;clear b' Z d9 c6 c8 d0 G X Y;have e4:=wi k (by omega);have u:=b.o.blk.a 0;have x:=b.o.blk.a 1;go_upto_region 7 with fail;refine sB ?_;iterate 6 (refine ab ?_)
   obtain⟨d5,y,z,A,Q⟩:=fF yN;refine lp λK hK=>uJ (.tmp 33) rfl Go.Proofs.Tryz.underlying67 y z A rfl (ii ix (V.toNat:Int)) rfl rfl b9.heap.size rfl λf3 L B c0=>hK _ _ ?_;simp only[nrm];clear hK;refine lp λK hK=>tG (.tmp 28) (.tmp 34) rfl rfl (b.o.buf.fr B) (by have:=b.o.hH;omega) (dA.of_blk (bs:=[V]) L 1 (tA _)) (by first|omega|(simp only[LN];omega)) (by simp) λv5 a0 c=>hK _ _ ?_;simp only[nrm];clear hK;refine ab ?_;refine wB ?_;have b:=lh ((b.o.frame B).app c);clear c L B c0 u x y z A Q;have f:=(j.o.fr b.o.fr).a 0;have m:=(j.o.fr b.o.fr).a 1;have s:=(j.o.fr b.o.fr).a 2;rw[M]at f;go_wp2_with fail;refine(pI a0 2 _ _).mono ?_;rintro e c4 ⟨rfl,p⟩;have b:=lh (b.o.frame (show Fr [] a0 c4 by rw[p];exact(jj [] a0).alloc _));clear p f m s;have u:=b.o.blk.a 0;have x:=b.o.blk.a 1;go_upto_region 10 with fail;refine sB ?_;iterate 4 (refine ab ?_)
   refine lp λK hK=>tG (.tmp 46) (.tmp 49) rfl rfl b.o.buf b.o.hH (b5.o.fr (HF0.o.trans b.o.fr)) (by first|omega|(simp only[LN];omega)) (by omega) λv8 a1 c=>hK _ _ ?_;simp only[nrm];clear hK;refine ab ?_;refine wB ?_;have b:=lh (b.o.app c);clear c u x;have f:=(j.o.fr b.o.fr).a 0;have m:=(j.o.fr b.o.fr).a 1;have s:=(j.o.fr b.o.fr).a 2;rw[M]at f;go_wp2_with fail;refine(pI a1 2 _ _).mono ?_;rintro e d7 ⟨rfl,p⟩;have b:=lh (b.o.frame (show Fr [] a1 d7 by rw[p];exact(jj [] a1).alloc _));clear p f m s;have m:=b.o.blk.a 2;have f:=lh (eH b.o.buf r.at_ T.o.at_ (by simp only[LN];omega) b.o.hH);go_wp2_with fail;refine f.o.mono ?_;rintro e d8 ⟨v10,rfl,c⟩;have b:=lh (b.o.app c);clear c m f;have HX:Hid (WRel d n v10 (ii ip ((k:Int)+1)) d8):=lh ⟨k+1,c1,rfl,by have e:n.head++(n.l.take (k+1)).flatMap (ib n.lf)=((U++[V])++r.key)++b16 r.at_:=(by rw[b3.o,vO,<- uF,<- d1.o];simp[ib,a2,b8.o]);rw[e];exact b.o.buf,b.o.fr⟩;clear b;exact Z7
  exact Z63
end
section
open Go.RowKit Go.ChangeMaps Go.MapKept Go.Maps Go.Sort Go.Shelf
def aEE (v:Value):Option (DataW Value×List MemPlace):=some (.held v,[])
def aCB (p:Nat×Value):Lit×DataW Value:=(.int .i64 (p.1:Int),.held p.2)
def toV (m:List (Nat×Value)):DataW Value:=.map (m.map aCB)
theorem aJK(x:Nat×Value):∀m:List (Nat×Value),DataW.insert (aCB x) (m.map aCB)=(nX x m).map aCB
 | []=>rfl
 | y::m=>by
  have e:(aCB x).1.before (aCB y).1=decide (x.1<y.1):=by show decide ((x.1:Int)<(y.1:Int))=_;rw[lO,vQ,vQ];omega
  rw[xJ,DataW.insert,e,nX];by_cases b:x.1<y.1;·rw[iA (by simpa using b),iA b];rfl
  rw[eA (by simpa using b),eA b,xJ,aJK x m]
theorem aIb(p:Nat×Value)(k:Nat):(aCB p).1.sameKey (.int .i64 (k:Int))=decide (p.1=k):=by exact Z53
theorem del_V(m:List (Nat×Value))(k:Nat):(toV m).del (.int .i64 (k:Int))=toV (aBF m k):=by unfold toV aBF DataW.del;simp only;rw[aLi,show((λp=>!p.1.sameKey (.int .i64 (k:Int))) ∘ aCB)=(λp:Nat×Value=>!decide (p.1=k)) from funext λp=>by rw[Function.comp,aIb]]
theorem put_V(m:List (Nat×Value))(k:Nat)(b:Value):(toV m).put (.int .i64 (k:Int)) (.held b)=toV (aAm m k b):=by unfold toV aAm DataW.put;simp only;rw[aLi,show((λp=>!p.1.sameKey (.int .i64 (k:Int))) ∘ aCB)=(λp:Nat×Value=>!decide (p.1=k)) from funext λp=>by rw[Function.comp,aIb]];exact congrArg _ (aJK (k,b) _)
theorem aQX(k:Nat):∀m:List (Nat×Value),(m.map aCB).find? (λp=>p.1.sameKey (.int .i64 (k:Int)))=(m.find? λp=>decide (p.1=k)).map aCB
 | []=>rfl
 | p::m=>by rw[xJ,List.find?_cons,List.find?_cons,aIb,aQX k m];cases decide (p.1=k)<;>rfl
theorem at_V(m:List (Nat×Value))(k:Nat)(z:Value):(toV m).atKey (.int .i64 (k:Int)) (.held z)=.held ((sG m k).getD z):=by unfold toV DataW.atKey sG;simp only;rw[aQX];cases m.find? λp=>decide (p.1=k)<;>rfl
theorem has_V(m:List (Nat×Value))(k:Nat):Maps.has (toV m) (.int .i64 (k:Int))=(sG m k).isSome:=by
 unfold toV;rw[Maps.has_eq,List.any_map,show((λp=>p.1.sameKey (.int .i64 (k:Int))) ∘ aCB)=(λp:Nat×Value=>decide (p.1=k)) from funext λp=>aIb p k];unfold sG;induction m with
 | nil=>rfl
 | cons p m b=>
  rw[List.any_cons,List.find?_cons];cases h:decide (p.1=k);·simpa using b
  simp
theorem aMk(m:List (Nat×Value)):Maps.size (toV m)=li m:=by unfold toV;rw[size_eq,cH]
theorem aMl(m:List (Nat×Value)):intKeys (toV m)=m.map λb=>(b.1:Int):=by unfold toV intKeys;simp only[jV];rfl
def VAt (w:World) (b:Nat) (m:List (Nat×Value)):Prop:=w.ownsMap prog 3 aEE b m.length (toV m)
section
variable {w w':World}{b:Nat}{m:List (Nat×Value)}
theorem VAt.of{n:Nat}(h:w.ownsMap prog 3 aEE b n (toV m)):VAt w b m:=by obtain⟨d,f,g,i,_,c⟩:=h;refine⟨d,f,g,i,?_,c⟩;have:=congrArg Maps.size c;rw[aMk,size_eq,length_read]at this;omega
theorem VAt.lt(h:VAt w b m):b<w:=World.ownsMap.lt h
theorem VAt.fr{S:List Nat}(h:VAt w b m)(i:Fr S w w')(j:b∉S:=by simp):VAt w' b m:=by have c:=h.lt;obtain⟨d,f,g,k⟩:=h;exact⟨d,f,by rw[i.block b c j];exact g,k⟩
theorem VAt.ne_blk(h:VAt w b m){g:Nat}{t:TypeId}{cs:List Value}(c:Blk w g t cs):b≠g:=by rintro rfl;obtain⟨f,i,d,_⟩:=h;unfold Blk at c;rw[d]at c;injection c with c;cases c
theorem VAt.new(w:World):VAt (w.alloc (.map #[] 0)) w []:=World.ownsMap_made w prog 3 aEE
theorem aJL{v u:Value}{ps:List MemPlace}(h:aEE v=some (.held u,ps)):v=u:=by unfold aEE at h;injection h with h;injection h with h _;injection h
theorem VAt.look_ok{t e:TypeId}{z:Value}(h:VAt w b m)(ht:prog.underlying t=some (.map 3 e))(g:(zeroValue e).run prog w=.ok z w){k:Nat}(c:k<=9223372036854775807): (Instr.lookup t (.map (some b)) (ii ip (k:Int)) true).run prog w=.ok (tl #[(sG m k).getD z,ij (sG m k).isSome]) w:=by obtain⟨i,j,f,d⟩:=World.ownsMap.look_ok h aCg ht g (zd:=.held z) (zp:=[]) rfl (tT c);rw[f,has_V];rw[at_V]at d;rw[aJL d]
theorem VAt.look{t e:TypeId}{z:Value}(h:VAt w b m)(ht:prog.underlying t=some (.map 3 e))(g:(zeroValue e).run prog w=.ok z w){k:Nat}(c:k<=9223372036854775807): (Instr.lookup t (.map (some b)) (ii ip (k:Int)) false).run prog w=.ok ((sG m k).getD z) w:=by obtain⟨i,j,f,d⟩:=World.ownsMap.lookup h aCg ht g (zd:=.held z) (zp:=[]) rfl (tT c);rw[f];rw[at_V]at d;rw[aJL d]
theorem Z43{P:Prop} (h:P:=by
 refine⟨w',h1,VAt.of h2,(Fr.refl [b] w).grown h3.grown (fun g hg=>by cases hg;exact .inl (by simp)),?_⟩;obtain⟨es,clock,es',clock',_,rfl⟩:=h3
 simp[setBlock]):P:=h
theorem VAt.store{t e:TypeId}(h:VAt w b m)(ht:prog.underlying t=some (.map 3 e)){k:Nat}(c:k<=9223372036854775807)(f:li m<9223372036854775807)(x:Value): ∃w',(Instr.mapUpdate t (.map (some b)) (ii ip (k:Int)) x).run prog w=.ok () w'/\VAt w' b (aAm m k x)/\Fr [b] w w'/\w'.heap.size=w:=by obtain⟨w',h1,h2,h3⟩:=World.ownsMap.store h aCg ht (by unfold maxLen;exact f) (tT c) (val:=x) (d:=.held x) (ps:=[]) rfl;rw[put_V]at h2;exact Z43
theorem VAt.drop{t e:TypeId}(h:VAt w b m)(ht:prog.underlying t=some (.map 3 e)){k:Nat}(c:k<=9223372036854775807)(ty:TypeId): ∃w',(Builtin.delete_ #[t,3] ty #[.map (some b),k]).run prog w=.ok (tl #[]) w'/\VAt w' b (aBF m k)/\Fr [b] w w'/\w'.heap.size=w:=by obtain⟨w',h1,h2,h3⟩:=World.ownsMap.drop h aCg ht (tT c) ty;rw[del_V]at h2;exact Z43
def vI (R:Value->α->Prop):List (Nat×Value)->List (Nat×α)->Prop
 | [],[]=>True
 | p::vs,q::m=>p.1=q.1/\R p.2 q.2/\vI R vs m
 | _,_=>False
theorem vI.mono{R c:Value->α->Prop}:∀ {b:List (Nat×Value)} {m:List (Nat×α)},vI R b m->(∀v a k,(k,a)∈m->R v a->c v a)->vI c b m
 | [],[],_,_=>trivial
 | _p::_vs,q::_m,h,hR=>⟨h.1,hR _ _ q.1 (eC ..) h.2.1,vI.mono h.2.2 λv a k d=>hR v a k (jD _ d)⟩
 | [],_::_,h,_=>h.elim
 | _::_,[],h,_=>h.elim
theorem vI.len{R:Value->α->Prop}:∀ {b:List (Nat×Value)} {m:List (Nat×α)},vI R b m->li b=li m
 | [],[],_=>rfl
 | p::b,q::m,h=>by rw[bD,bD,vI.len h.2.2]
 | [],_::_,h=>h.elim
 | _::_,[],h=>h.elim
theorem vI.keys{R:Value->α->Prop}:∀ {b:List (Nat×Value)} {m:List (Nat×α)},vI R b m->(b.map λc=>c.1)=m.map λc=>c.1
 | [],[],_=>rfl
 | c::b,q::m,h=>by rw[xJ,xJ,vI.keys h.2.2,h.1]
 | [],_::_,h=>h.elim
 | _::_,[],h=>h.elim
theorem vI.get{R:Value->α->Prop}(k:Nat):∀ {b:List (Nat×Value)} {m:List (Nat×α)},vI R b m->(sG m k=none/\sG b k=none)∨∃a v,sG m k=some a/\sG b k=some v/\R v a
 | [],[],_=>Ii ⟨rfl,rfl⟩
 | p::b,q::m,h=>by
  have c:=vI.get k h.2.2;unfold sG at c⊢;rw[List.find?_cons,List.find?_cons,h.1];cases d:decide (q.1=k);·exact c
  exact Ij ⟨q.2,p.2,rfl,rfl,h.2.1⟩
 | [],_::_,h=>h.elim
 | _::_,[],h=>h.elim
theorem vI.del{R:Value->α->Prop}(k:Nat):∀ {c:List (Nat×Value)} {m:List (Nat×α)},vI R c m->vI R (aBF c k) (aBF m k)
 | [],[],_=>trivial
 | p::c,q::m,h=>by
  have b:=vI.del k h.2.2;unfold aBF at b⊢;rw[aHu,aHu,h.1];cases d:!decide (q.1=k);·simpa[d]using b
  simpa[d] using⟨h.1,h.2.1,b⟩
 | [],_::_,h=>h.elim
 | _::_,[],h=>h.elim
theorem vI.ins{R:Value->α->Prop}{k:Nat}{v:Value}{a:α}(c:R v a):∀ {b:List (Nat×Value)} {m:List (Nat×α)},vI R b m->vI R (nX (k,v) b) (nX (k,a) m)
 | [],[],_=>⟨rfl,c,trivial⟩
 | p::b,q::m,h=>by
  unfold nX;rw[h.1];by_cases d:k<q.1;·simp only[d,vG];exact⟨rfl,c,h⟩
  simp only[d,eF];exact⟨h.1,h.2.1,vI.ins c h.2.2⟩
 | [],_::_,h=>h.elim
 | _::_,[],h=>h.elim
theorem vI.put{R:Value->α->Prop}{k:Nat}{v:Value}{a:α}(c:R v a){b:List (Nat×Value)}{m:List (Nat×α)}(h:vI R b m):vI R (aAm b k v) (aAm m k a):=by unfold aAm;exact vI.ins c (vI.del k h)
end
def cR {α:Type} (m:List (Nat×α)):List Value:=m.map fun p=>.int .i64 (p.1:Int)
theorem vI.kcells{R:Value->α->Prop}{b:List (Nat×Value)}{m:List (Nat×α)}(h:vI R b m):cR b=cR m:=by have:=congrArg (List.map λc:Nat=>ii ip (c:Int)) h.keys;rw[jV,jV]at this;exact this
theorem aEF{m:List (Nat×Value)}(f:gJ m){c:List Int}(h:c.Perm (intKeys (toV m))):(c.mergeSort λb d=>decide (b<=d)).map encZ=cR m:=by
 rw[mergeSort_of_perm_i h,aMl];have e:(m.map λb=>(b.1:Int)).mergeSort leI=m.map λb=>(b.1:Int):=by refine List.mergeSort_of_pairwise ?_;rw[mV];exact f.imp λ{a b} d=>by simp only[leI,uG];omega
 rw[e];simp[cR,encZ]
theorem aPg(b:Nat)(w:World):Calls prog 149 #[.map (some b)] w λe c=>e=iz (.func (.func 184) #[] #[pi w])/\c=w.alloc (iy #[.map (some b)] 139):=(uN (n:=5)).1 (AnyZI.keys_in Tryz.keysN Fence.wide 5 trivial rfl (some b) w)
theorem aPh(b:Nat)(w:World):Calls prog 152 #[.map (some b)] w λe c=>e=iz (.func (.func 185) #[] #[pi w])/\c=w.alloc (iy #[.map (some b)] 140):=(uN (n:=5)).1 (AnyZI.keys_in Tryz.keysI Fence.wide 5 trivial rfl (some b) w)
theorem Z26{P:Prop} (h:P:=by
 have cS':=(uN (n:=5)).1 cS;refine Calls.mono (P:=prog) (f:=65) cS' ?_;rintro e w' ⟨v,ss,rfl,hS,hrow,_,hb⟩
 have hl:ss.length=m.length:=by
  have:=hS.length_eq;rw[aMl,cH] at this;exact this
 rw[aEF hm hS,hl] at hrow;exact⟨v,rfl,hrow,Fr.of_below hb []⟩):P:=h
theorem aJM{b:Nat}{m:List (Nat×Value)}{w:World}(h:VAt w b m)(hm:gJ m)(j:li m<=65536)(w1:World)(i:w1=w.alloc (iy #[.map (some b)] 139)): Calls prog 65 #[.func (.func 184) #[] #[pi w]] w1 λe w'=>∃v,e=iz v/\w'.ownsRow w1 3 1 v (li m) (cR m)/\Fr [] w1 w':=by subst i;have g:=h.lt;have c:Maps.size (toV m)=li m:=aMk m;have d:SeqGives Fence.wide 2 prog 184 #[pi w] encZ (λss=>ss.Perm (intKeys (toV m))) (Maps.size (toV m)) (w.alloc (iy #[.map (some b)] 139)):=AnyZI.keys_gives (R:=aEE) (nn:=li m) (ρ:=Tryz.keysN_ren) { Tryz.keysN with } Fence.wide _ trivial rfl (by omega) w b (toV m) _ (by simp) (by simp) (h.fr ((jj [] w).alloc _));have cS:=AnyZI.sorted_in Tryz.sortedA Fence.wide 5 trivial trivial trivial trivial rfl (by omega) (aLN _) (enters_of func88 (by kernel_rfl) rfl) 184 #[pi w] trivial (enters_of func184 (by kernel_rfl) rfl) _ _ (by rw[c];unfold maxLen;omega) (by rw[c];omega) _ d;exact Z26
theorem aJN{b:Nat}{m:List (Nat×Value)}{w:World}(h:VAt w b m)(hm:gJ m)(j:li m<=65536)(w1:World)(i:w1=w.alloc (iy #[.map (some b)] 140)): Calls prog 65 #[.func (.func 185) #[] #[pi w]] w1 λe w'=>∃v,e=iz v/\w'.ownsRow w1 3 1 v (li m) (cR m)/\Fr [] w1 w':=by subst i;have g:=h.lt;have c:Maps.size (toV m)=li m:=aMk m;have d:SeqGives Fence.wide 2 prog 185 #[pi w] encZ (λss=>ss.Perm (intKeys (toV m))) (Maps.size (toV m)) (w.alloc (iy #[.map (some b)] 140)):=AnyZI.keys_gives (R:=aEE) (nn:=li m) (ρ:=Tryz.keysI_ren) { Tryz.keysI with } Fence.wide _ trivial rfl (by omega) w b (toV m) _ (by simp) (by simp) (h.fr ((jj [] w).alloc _));have cS:=AnyZI.sorted_in Tryz.sortedA Fence.wide 5 trivial trivial trivial trivial rfl (by omega) (aLN _) (enters_of func88 (by kernel_rfl) rfl) 185 #[pi w] trivial (enters_of func185 (by kernel_rfl) rfl) _ _ (by rw[c];unfold maxLen;omega) (by rw[c];omega) _ d;exact Z26
def chC (c:CD) (g bn bs:Nat):List Value:=
 [.int .i64 (c.next:Int),.int .i64 (c.head:Int),.int .i64 (c.roots 0:Int),.int .i64 (c.roots 1:Int),.int .i64 (c.roots 2:Int),.int .i64 (c.roots 3:Int),.int .i64 (c.roots 4:Int),.int .i64 (c.roots 5:Int),.int .i64 (c.roots 6:Int),.int .i64 (c.roots 7:Int),
  .pointer (some ⟨g,0,none⟩),.map (some bn),.map (some bs),.int .i64 (c.e:Int)]
structure WfW (c:CD):Prop where
 n:c.n<=4096
 next:c.next<=c.n
 head:c.head<65536
 pg:∀k,k<c.n->(c.pg k).length=512
 rM:gJ c.M
 rS:gJ c.S
 mM:∀p∈c.M,p.1<c.n/\p.2.ok/\p.2.size<=512
 mS:∀p∈c.S,p.1<c.n/\p.2<65536
 roots:∀t,c.roots t<65536
structure jF (wS w:World) (g bc bn bs:Nat) (D:Nat->Prop) (c:CD):Prop where
 fr:Fr [] wS w
 l1:wS.heap.size<=bc
 l2:wS.heap.size<=bn
 l3:wS.heap.size<=bs
 ne:bn≠bs
 blk:Blk w bc 142 (chC c g bn bs)
 nodes:∃vs,VAt w bn vs/\vI (fun v n=>NdV D w 0 v n) vs c.M
 spare:∃vs,VAt w bs vs/\vI (fun v n=>v=.int .i64 ((n:Nat):Int)) vs c.S
 dom:∀q,D q->q≠bc/\q≠bn/\q≠bs
 wf:WfW c
theorem aEG{n:Nat}:∀ {m:List (Nat×α)} {lo:Nat},gJ m->(∀p∈m,lo<=p.1/\p.1<n)->li m<=n-lo
 | [],_,_,_=>uB _
 | p::m,lo,h,hm=>by obtain⟨d,b⟩:=lF.1 h;have f:=aEG (lo:=p.1+1) b λb c=>⟨d b c,(hm b (jD _ c)).2⟩;have:=hm p (eC ..);rw[bD];omega
theorem WfW.fewM{c:CD}(h:WfW c):li c.M<=4096:=by have:=aEG (lo:=0) h.rM λb d=>⟨uB _,(h.mM b d).1⟩;have:=h.n;omega
theorem WfW.fewS{c:CD}(h:WfW c):li c.S<=4096:=by have:=aEG (lo:=0) h.rS λb d=>⟨uB _,(h.mS b d).1⟩;have:=h.n;omega
theorem WfW.write{c:CD}(h:WfW c){k:Nat}{n:Nd}(h1:k<c.n)(h2:n.ok)(h3:n.size<=512):WfW (c.write k n):=⟨h.n,h.next,h.head,h.pg,h.rM.put k n,h.rS.del k,λd b=>by
 obtain rfl|b:=aAq b;·exact⟨h1,h2,h3⟩
 exact h.mM d b,λd b=>h.mS d (aAp b),h.roots⟩
theorem WfW.free{c:CD}(h:WfW c){k:Nat}(h1:k<c.n):WfW (c.free k):=⟨h.n,h.next,by have:=h.n;show k<65536;omega,h.pg,h.rM.del k,h.rS.put k _,λd b=>h.mM d (aAp b),λd b=>by
 obtain rfl|b:=aAq b;·exact⟨h1,h.head⟩
 exact h.mS d b,h.roots⟩
section
variable {wS w w':World}{g bc bn bs:Nat}{D D':Nat->Prop}{c:CD}
theorem jF.ne2(h:jF wS w g bc bn bs D c):bn≠bc/\bs≠bc:=by obtain⟨_,b,_⟩:=h.nodes;obtain⟨_,d,_⟩:=h.spare;exact⟨b.ne_blk h.blk,d.ne_blk h.blk⟩
theorem jF.frS{S:List Nat}(h:jF wS w g bc bn bs D c)(b:Fr S w w')(h0:∀q∈S,w.heap.size<=q∨(wS.heap.size<=q/\¬ D q/\q≠bc/\q≠bn/\q≠bs)):jF wS w' g bc bn bs D c:=by
 obtain⟨m,j,n⟩:=h.nodes;obtain⟨o,k,p⟩:=h.spare;have l:∀q,D q->q∈S->w.heap.size<=q:=λq d i=>by
  obtain h|h:=h0 q i;·exact h
  exact absurd d h.2.1
 have f:∀q,q<w.heap.size->(q=bc∨q=bn∨q=bs)->q∉S:=λq r d i=>by
  obtain h|h:=h0 q i;·omega
  omega
 refine⟨h.fr.trans b λq d=>Ij ?_,h.l1,h.l2,h.l3,h.ne,h.blk.fr b (f _ h.blk.lt (Ii rfl)),⟨m,j.fr b (f _ j.lt (Ij (Ii rfl))),n.mono λj a m _ i=>i.fr b l⟩,⟨o,k.fr b (f _ k.lt (Ij (Ij rfl))),p⟩,h.dom,h.wf⟩;have:=h.fr.size;rcases h0 q d with h|h<;>omega
theorem jF.frame(h:jF wS w g bc bn bs D c)(b:Fr [] w w'):jF wS w' g bc bn bs D c:=h.frS b (λf d=>by cases d)
theorem jF.re(h:jF wS w g bc bn bs D c)(i:∀q,D q->q<w.heap.size->D' q)(h0:∃q,D' q/\w<=q)(b:∀q,D' q->q≠bc/\q≠bn/\q≠bs):jF wS w g bc bn bs D' c:=by obtain⟨d,f,j⟩:=h.nodes;obtain⟨k,l,r⟩:=h0;refine⟨h.fr,h.l1,h.l2,h.l3,h.ne,h.blk,⟨d,f,j.mono λs a t _ p=>?_⟩,h.spare,b,h.wf⟩;obtain⟨d,j,m,f,n,o⟩:=p;refine⟨d,j,m,f,n.re (λq d j=>⟨i q d.1 j,d.2⟩) ⟨k,l,λe=>by have:=aG f _ e;omega⟩,λq d=>i q (o q d) (aG f q d)⟩
theorem jF.weak(h:jF wS w g bc bn bs D c)(j:∀q,D q->D' q)(b:∀q,D' q->q≠bc/\q≠bn/\q≠bs):jF wS w g bc bn bs D' c:=by obtain⟨d,f,i⟩:=h.nodes;exact⟨h.fr,h.l1,h.l2,h.l3,h.ne,h.blk,⟨d,f,i.mono λf a i _ d=>d.weak j⟩,h.spare,b,h.wf⟩
theorem jF.lts(h:jF wS w g bc bn bs D c):bc<w/\bn<w/\bs<w:=by obtain⟨_,b,_⟩:=h.nodes;obtain⟨_,d,_⟩:=h.spare;exact⟨h.blk.lt,b.lt,d.lt⟩
theorem jF.set(h:jF wS w g bc bn bs D c){c':CD}(l:Blk w' bc 142 (chC c' g bn bs))(b:Fr [bc] w w')(m:c'.M=c.M)(r:c'.S=c.S)(p:WfW c'):jF wS w' g bc bn bs D c':=by obtain⟨i,j,k⟩:=h.nodes;obtain⟨n,o,q⟩:=h.spare;have s:=h.fr.size;refine⟨h.fr.trans b λf d=>Ij (by have:=xA.1 d;have:=h.l1;omega),h.l1,h.l2,h.l3,h.ne,l,⟨i,j.fr b (by simpa using h.ne2.1),by rw[m];exact k.mono λj a k _ i=>i.fr b (λf d i=>absurd (xA.1 i) (h.dom f d).1)⟩,⟨n,o.fr b (by simpa using h.ne2.2),by rw[r];exact q⟩,h.dom,p⟩
theorem aQY(k:Nat):decide (k≠0)=((k:Int)!=0):=by rw[lO,vQ,nJ];omega
def CD.fail (c:CD) (e:Nat):CD:=if c.e=0 then { c with e:=e } else c
theorem rN(h:jF wS w g bc bn bs D c)(k:Nat): Calls prog 98 #[pi bc,k] w λe b=>e=iz (ij (decide ((c.fail k).e≠0)))/\jF wS b g bc bn bs D (c.fail k)/\Fr [bc] w b/\b.heap.size=w:=by
 have j:=h.blk.a 13;have p:=h.blk.free 13;have q:=h.blk.lt;by_cases d:c.e=0
 ·have b:c.fail k={ c with e:=k }:=by unfold CD.fail;rw[iA d]
  have i:Fr [bc] w (w.setCell ⟨bc,13,none⟩ (ii ip (k:Int))):=(jj [bc] w).setCell (Ii (by simp)) _;have l:jF wS (w.setCell ⟨bc,13,none⟩ (ii ip (k:Int))) g bc bn bs D (c.fail k):=by rw[b];exact h.set (c':={ c with e:=k }) (h.blk.set_ 13 (ii ip (k:Int))) i rfl rfl ⟨h.wf.n,h.wf.next,h.wf.head,h.wf.pg,h.wf.rM,h.wf.rS,h.wf.mM,h.wf.mS,h.wf.roots⟩
  have m:(c.fail k).e=k:=by rw[b]
  have f:=lh l;rw[m];rw[d]at j;go_enter func98,ntmps98;go_wp2;go_ret;exact⟨by rw[aQY];rfl,f.o,i,by simp[World.setCell]⟩
 have b:c.fail k=c:=by unfold CD.fail;rw[eA d]
 rw[b];have f:=lh h;have i:¬ ((c.e:Nat):Int)=0:=by omega
 clear h b d;go_enter func98,ntmps98;go_wp2;go_ret;exact⟨by rw[aQY];rfl,f.o,jj _ _,rfl⟩
theorem aJO(w:World):(zeroValue 3).run prog w=.ok (ii ip 0) w:=by kernel_rfl
theorem aGd(w:World):(zeroValue 184).run prog w=.ok (il #[ii ip 0,ii ip 0,si none 0 0]) w:=by kernel_rfl
theorem Z32{P:Prop} (h:P:=by
 have hr:=HR2.o;refine rB (w':=w2) (by simp[execOp,Act.eval,hr,Result.andThen]) (hK _ _ (fun h=>absurd h (by decide +kernel)) ?_);simp only[Act.put];refine wd ?_ _;clear hK hr;go_wp2_with fail
 go_end0
 exact⟨rfl,HX.o.1,HX.o.2⟩):P:=h
theorem pM(h:jF wS w g bc bn bs D c){v:Value}{n:Nd}{k:Nat}(Y:NdV D w i v n)(Z:k<c.n)(R:n.ok)(a0:n.size<=512): Calls prog 119 #[pi (some ⟨bc,0,none⟩),ii ip (k:Int),v] w λe w'=>e=iz (tl #[])/\jF wS w' g bc bn bs D (c.write k n)/\Fr [bn,bs] w w':=by
 have B:NdV D w 0 v n:=by obtain⟨d,b,f,j,m⟩:=Y;exact⟨d,b,f,kD j (λ_ _=>uB _),m⟩
 obtain⟨q,r,b,rfl,_,_,_,_⟩:=Y.parts;have a1:=h.wf.n;have a2:=h.wf.fewS;have a3:=h.wf.fewM;have a4:=h.lts;obtain⟨b,u⟩:=nm (w.alloc (iy #[ii ip (fA n),ii ip (n.first:Int),si q (li n.l) r] 184));have z:Fr [] w b:=by rw[u];exact(jj [] w).alloc _
 have C:Blk b w.heap.size 184 [ii ip (fA n),ii ip (n.first:Int),si q (li n.l) r]:=by rw[u];exact jl w _ [ii ip (fA n),ii ip (n.first:Int),si q (li n.l) r]
 have m:=h.frame z;obtain⟨a9,G,H⟩:=m.spare;obtain⟨x,I,J,j,V⟩:=G.drop Tryz.underlying140 (k:=k) (by omega) 0;have a5:∀d,(Builtin.delete_ #[140,3] d #[.map (some bs),ii ip (k:Int)]).run prog b=.ok (tl #[]) x:=λd=>I;have a6:=m.blk.a 12;obtain⟨a',L,A⟩:=m.nodes;have E:=L.fr j (by have:=h.ne;simpa using this);have F:=m.blk.fr j (by have:=h.ne2.2;simp;omega);have O:=F.a 11;have s:=C.fr j (by simp;omega);have Q:=s.a 0;have S:=s.a 1;have U:=s.a 2;obtain⟨w2,M,N,y,W⟩:=(E.fr ((jj [] x).drew)).store Tryz.underlying139 (k:=k) (by omega) (by have:=A.len;omega) (il #[ii ip (fA n),ii ip (n.first:Int),si q (li n.l) r]);have p:Fr [bn,bs] w w2:=(((z.mono (T:=[bn,bs]) (by simp)).trans (j.mono (T:=[bn,bs]) (by simp)) (λd b=>Ii b)).drew).trans y (λd b=>Ii (by simp at b⊢;omega));have t:∀d,D d->d∉[bn,bs]:=λd b f=>by have:=h.dom d b;simp at f;omega
 have HX:Hid (jF wS w2 g bc bn bs D (c.write k n)/\Fr [bn,bs] w w2):=lh ⟨⟨h.fr.trans p (λd b=>Ij (by have a7:=h.l2;have a8:=h.l3;simp at b;omega)),h.l1,h.l2,h.l3,h.ne,h.blk.fr p (by have:=h.ne2;simp;omega),⟨_,N,vI.put (B.fr p (λd b f=>absurd f (t d b))) (A.mono λv a b0 _ X=>(X.fr j (λd b f=>absurd (jD _ f) (t d b))).fr (((jj [bn] x).drew).trans y (λd b=>Ii b)) (λd b f=>absurd (bB.2 (Ii (xA.1 f))) (t d b)))⟩,⟨_,J.fr (((jj [bn] x).drew).trans y (λd b=>Ii b)) (by have:=h.ne;simp;omega),vI.del k H⟩,h.dom,h.wf.write Z R a0⟩,p⟩;have HR2:=lh M;clear Y B G H J L A E N j y V W z C s F m p t h I M;go_enter func119,ntmps119;go_upto_region 1 with fail;rw[<- u];clear u;go_wp2_with fail;refine aj (λb=>b.cell? ⟨bc,11,none⟩=some (.map (some bn))/\b.cell? ⟨w.heap.size,0,none⟩=some (ii ip (fA n))/\b.cell? ⟨w.heap.size,1,none⟩=some (ii ip (n.first:Int))/\b.cell? ⟨w.heap.size,2,none⟩=some (si q (li n.l) r)) [0,1,2,3,4,5] ?_;refine tks [0,1,2,3,4,5] ?_;iterate 6 (refine ac ⟨O,Q,S,U⟩ ?_)
 refine tke ?_;refine ah 6 λK hK=>?_;exact Z32
theorem aND(h:jF wS w g bc bn bs D c){k:Nat}(x:k<c.n): Calls prog 159 #[pi (some bc),k] w λe w'=>e=iz (tl #[])/\jF wS w' g bc bn bs D (c.free k)/\Fr [bc,bn,bs] w w':=by
 have y:=h.wf.n;have z:=h.wf.fewS;have A:=h.wf.fewM;obtain⟨L,d,s⟩:=h.nodes;obtain⟨b,f,t,m,M⟩:=d.drop Tryz.underlying139 (k:=k) (by omega) 0;have B:∀d,(Builtin.delete_ #[139,3] d #[.map (some bn),k]).run prog w=.ok (tl #[]) b:=λd=>f;have C:=h.blk.a 11;obtain⟨N,f,n⟩:=h.spare;have d:=f.fr m (by have:=h.ne;simp;omega);have i:=h.blk.fr m (by have:=h.ne2.1;simp;omega);have p:=i.a 12;have q:=i.a 1;obtain⟨w2,u,v,f,O⟩:=(d.fr ((jj [] b).drew)).store Tryz.underlying140 (k:=k) (by omega) (by have:=n.len;omega) (ii ip ((c.head:Nat):Int));have j:Fr [bs] b w2:=((jj [bs] b).drew).trans f (λd b=>Ii b);have f:=i.fr j (by have:=h.ne2.2;simp;omega);have E:=f.free 1;have F:=f.lt;have G:=f.a 1;have i:Fr [bc] w2 (w2.setCell ⟨bc,1,none⟩ (ii ip (k:Int))):=(jj [bc] w2).setCell (Ii (by simp)) _;have l:Fr [bc,bn,bs] w (w2.setCell ⟨bc,1,none⟩ (ii ip (k:Int))):=((m.mono (T:=[bc,bn,bs]) (λd b=>Ii (by simp at b⊢;omega))).trans j (λd b=>Ii (by simp at b⊢;omega))).trans i (λd b=>Ii (by simp at b⊢;omega));have r:∀d,D d->d∉[bc,bn,bs]:=λd b m=>by have:=h.dom d b;simp at m;omega
 have HX:Hid (jF wS (w2.setCell ⟨bc,1,none⟩ (ii ip (k:Int))) g bc bn bs D (c.free k)/\Fr [bc,bn,bs] w (w2.setCell ⟨bc,1,none⟩ (ii ip (k:Int)))):=lh ⟨⟨h.fr.trans l (λd b=>Ij (by have H:=h.l1;have I:=h.l2;have J:=h.l3;simp at b;omega)),h.l1,h.l2,h.l3,h.ne,f.set_ 1 (ii ip (k:Int)),⟨_,(t.fr j (by have:=h.ne;simp;omega)).fr i (by have:=h.ne2.1;simp;omega),(vI.del k s).mono λf a s _ j=>j.fr l (λd b m=>absurd m (r d b))⟩,⟨_,v.fr i (by have:=h.ne2.2;simp;omega),vI.put (R:=λf b=>f=ii ip ((b:Nat):Int)) (a:=c.head) rfl n⟩,h.dom,h.wf.free x⟩,l⟩;have HR2:=lh u;go_enter func159,ntmps159;go_wp2_with fail;refine aj (λb=>b.cell? ⟨bc,12,none⟩=some (.map (some bs))/\b.cell? ⟨bc,1,none⟩=some (ii ip ((c.head:Nat):Int))) [0,1,2,3,4,5,6,7,8,9] ?_;refine tks [0,1,2,3,4,5,6,7,8,9] ?_;iterate 10 (refine ac ⟨p,q⟩ ?_)
 refine tke ?_;refine ah 10 λK hK=>?_;exact Z32
end
structure PgC (w0 wS:World) (dk g:Nat) (s:PS) (X:Nat->Prop) (c:CD):Prop where
 px:PgX w0 wS dk g s X
 br:s.br=false
 calm:aCA s
 pg:c.pg=s.page
 n:c.n=s.n
theorem aIc{w0 w:World}{d g:Nat}{s:PS}{X:Nat->Prop}(h:PgX w0 w d g s X):Calls prog 96 #[pi g] w λe b=>e=iz (ii ip (s.n:Int))/\w=b:=by obtain⟨c,f,i,j,b,_⟩:=h;exact aSW b
theorem aC{a b:Int}{A:Option Addr}{n c:Nat}:∀u∈[ii ip a,b,si A n c],u.oneCell'=true:=by intro u d;simp at d;rcases d with rfl|rfl|rfl<;>rfl
theorem NdV.low{D:Nat->Prop}{w:World}{b b':Nat}{v:Value}{n:Nd}(h:NdV D w b v n)(i:b'<=b):NdV D w b' v n:=by obtain⟨d,f,g,c,j⟩:=h;exact⟨d,f,g,kD c (λd f=>by have:=(c.lt d f).1;omega),j⟩
section
variable {w0 wS w:World}{dk g bc bn bs:Nat}{s:PS}{X D:Nat->Prop}{c:CD}
theorem aNE{k:Nat}{n:Nd}(h:c.N k=some n):sG c.M k=some n∨(sG c.M k=none/\1<=k/\k<c.n/\aOX (c.pg k)=some n):=by
 unfold CD.N at h;split at h;·cases h
 cases b:sG c.M k with
 | some d=>rw[b]at h;simp only[yG]at h;exact Ii (by rw[h])
 | none=>
  rw[b]at h;simp only at h;split at h;·rename_i b;exact Ij ⟨rfl,b.1,b.2,h⟩
  cases h
theorem WfW.getM(h:WfW c){k:Nat}{n:Nd}(b:sG c.M k=some n):k<c.n/\n.ok/\n.size<=512:=h.mM _ (aAo b)
theorem WfW.N_ok(h:WfW c){k:Nat}{n:Nd}(i:c.N k=some n):k<c.n/\n.ok/\n.size<=512:=by
 obtain b|⟨_,_,d,f⟩:=aNE i;·exact h.getM b
 obtain⟨a,_,b⟩:=aJw f;exact⟨d,a,b⟩
theorem jP(G:PgC w0 wS dk g s X c)(h:jF wS w g bc bn bs D c){k:Nat}{n:Nd}(T:c.N k=some n)(Z:∀q,w.heap.size<=q->D q): Calls prog 97 #[pi (some ⟨bc,0,none⟩),ii ip (k:Int)] w λe b=>∃nv,e=iz (tl #[nv,ii ip 0])/\NdV D b w.heap.size nv n/\Fr [] w b:=by
 obtain⟨d2,a3,a4⟩:=h.wf.N_ok T;have c3:=h.wf.n;obtain⟨i,t⟩:=nm (w.alloc (iy znd.toArray 184));have p:Fr [] w i:=by rw[t];exact(jj [] w).alloc _
 have L:Blk i w.heap.size 184 znd:=by rw[t];exact jl w _ znd
 have M:=h.frame p;obtain⟨b0,a5,P⟩:=h.nodes;have R:=a5.fr p;have C:=R.look_ok Tryz.underlying139 (aGd i) (k:=k) (by omega);have a8:=M.blk.a 11;have O:Hid (i.heap.size=w.heap.size+1):=lh (by rw[t,qB]);have c4:=pF a4;refine cA λb5 b8=>?_;obtain j|⟨j,d3,d4,b1⟩:=aNE T
 ·obtain⟨d,_⟩|⟨b2,b9,d,r,f⟩:=vI.get k P
  ·rw[j]at d;cases d
  rw[j]at d;injection d with d;subst d;obtain⟨u,v,b',rfl,c0,Q,b,x⟩:=f.parts;rw[r]at C;simp only[fV,Option.isSome_some]at C;obtain⟨d5,m,_,_⟩:=kH.of_own Q w.heap.size;have⟨c1,B,c2,HI,U,V,HD⟩:=hh7 (m.fr p) b.len b.one b p L Z;clear f m b Q x p L a5 R P M h G T j a3 a4 r Z;go_enter func97,ntmps97;go_upto_region 1 with (with_reducible refine qA rfl 184 rfl (il #[ii ip 0,ii ip 0,si none 0 0]) znd.toArray zD rfl ?_);rw[<- t];clear t;go_wp2_with (first
   | (with_reducible refine qA rfl 184 rfl (il #[ii ip 0,ii ip 0,si none 0 0]) znd.toArray zD rfl ?_)
   | (refine zA (W:=i) rfl 184 (.tmp 6) (.tmp 19) rfl [ii ip (fA n),ii ip (n.first:Int),si u (li n.l) v] rfl rfl rfl xB rfl aC ?_))
  intro x b z I;have f:=b.a 0;have A:=b.a 1;have E:=b.a 2;have⟨y,Y,a9⟩:=hh3 z I (V.o.fr z);clear b z I C a8;go_wp2_with fail;refine aj (λW=>W.cell? ⟨i.heap.size,0,none⟩=some (ii ip (fA n))/\W.cell? ⟨i.heap.size,1,none⟩=some (ii ip (n.first:Int))/\W.cell? ⟨i.heap.size,2,none⟩=some (si u (li n.l) v)) [0,1,2,3,4,5,7] ?_;refine tks [0,1,2,3,4,5] ?_;iterate 6 (refine ac ⟨f,A,E⟩ ?_)
  refine tke ?_;refine ag 6 λK hK=>kA (l:=[.tmp 27]) rfl [si u (li n.l) v] rfl (iJ _) ((mK (c1.o.fr (S:=[]) (y.o.drew) (by simp)) B.o c2.o (by omega)).mono ?_);rintro e a6 ⟨d6,rfl,F,H⟩;obtain⟨a2,a',rfl,_,_⟩:=jA F;have m:x.drew.heap.size=x.heap.size:=rfl;rw[m]at F;have m:Fr [] x a6:=((jj [] x).drew).trans H;refine⟨_,rfl,hK _ _ (λ_=>⟨aA m f,aA m A,aA m E⟩) ?_⟩;simp only[nrm];clear hK;refine tks [7] (ac ⟨aA m f,aA m A,aA m E⟩ ?_);refine tke ?_;refine ah 8 λK hK=>pA 184 (.tmp 4) (.tmp 29) rfl [ii ip (fA n),ii ip (n.first:Int),si a2 (li n.l) a'] rfl rfl (a9.o.fr m) xB rfl aC λJ b A a7=>hK _ _ (λh=>absurd h (by decide +kernel)) ?_;simp only[Act.put];clear hK;refine af 9 (λh=>absurd h (by decide +kernel)) ?_;refine wd ?_ _;have E:Fr [] w J:=(((U.o.trans y.o).trans m)).trans A (λq f=>Ij (by have:=xA.1 f;omega));have a1:Hid (b5 (iz (tl #[il #[ii ip (fA n),ii ip (n.first:Int),si a2 (li n.l) a'],ii ip 0])) J):=lh (b8.o _ _ ⟨_,rfl,NdV.make HI.o (kD (fB F A (λq f j=>by have:=(F.lt q f).1;have:=xA.1 j;have:=Y.o;have:=O.o;omega)) (λq f=>by have:=(F.lt q f).1;have:=Y.o;have:=O.o;omega)) E HD.o,E⟩);have a2:=lh b;clear b A a7 E F H m;go_wp2_with fail;exact qD (vC rfl rfl a2.o Go.Proofs.Tryz.underlying184 rfl xB) rfl a1.o
 have r:sG b0 k=none:=by
  obtain⟨_,r⟩|⟨b2,b9,d,_⟩:=vI.get k P;·exact r
  rw[j]at d;cases d
 rw[r]at C;simp only[Option.getD_none,Option.isSome_none]at C;obtain⟨_,b2,_⟩:=aJw b1;have m:s.page k=n.written++ji (512-li n.written) 0:=by rw[<- G.pg,b2];rfl
 have F:(n.written++ji (512-li n.written) (0:UInt8)).length=512:=by rw[iB,kV,n.written_len];omega
 have a':Hid (∀W,Fr [] i W->PgX w0 W dk g s X):=lh λW b0=>G.px.stay ((h.fr.trans p).trans b0);have b0:=lh G;have c8:(k:Int)<(s.n:Int):=by have:=G.n;omega
 have c':¬ (k:Int)<1:=by omega
 have b9:Hid (k<s.n):=lh (by omega);have⟨c5,U,V,HD,c6,B,c7⟩:=hh7 M.blk p L Z m F a3;clear p L a5 R P M h G T j a3 a4 r Z m F b2 b1;go_enter func97,ntmps97;go_upto_region 1 with (with_reducible refine qA rfl 184 rfl (il #[ii ip 0,ii ip 0,si none 0 0]) znd.toArray zD rfl ?_);rw[<- t];clear t;go_wp2_with (first
  | (with_reducible refine qA rfl 184 rfl (il #[ii ip 0,ii ip 0,si none 0 0]) znd.toArray zD rfl ?_)
  | (refine zA (W:=i) rfl 184 (.tmp 6) (.tmp 19) rfl [ii ip 0,ii ip 0,si none 0 0] rfl rfl rfl xB rfl aC ?_))
 intro x b z I;have⟨y,Y⟩:=hh2 z I;have t:=(c5.o.fr z).a 10;clear b z I C a8;go_wp2_with fail;refine(aIc (a'.o x y.o)).mono ?_;rintro e z ⟨rfl,rfl⟩;go_wp2_with fail;refine(aMb (a'.o x y.o) b0.o.br b0.o.calm k b9.o).mono ?_;rintro e p ⟨C,F,rfl,i,x,m⟩;rw[c6.o]at i;have⟨b3,a0⟩:=hh2 (aQU i B.o c7.o) (y.o.trans m);clear i x m t;go_wp2_with fail;refine b3.o.mono ?_;rintro e a6 ⟨nv,rfl,i,H⟩;obtain⟨u,v,b',rfl,c0,Q,_,_⟩:=i.parts;have⟨b4,c9⟩:=hh2 (a0.o.trans H) i;have m:Hid (w.heap.size<=p.heap.size):=lh (by have:=a0.o.size;have:=O.o;omega);clear H i Q b3;go_wp2_with (first
  | (with_reducible refine qA rfl 184 rfl (il #[ii ip 0,ii ip 0,si none 0 0]) znd.toArray zD rfl ?_)
  | (refine zA (W:=a6) rfl 184 (.tmp 10) (.tmp 58) rfl [ii ip (fA n),ii ip (n.first:Int),si u (li n.l) v] rfl rfl rfl xB rfl aC ?_))
 intro G t i x;have⟨d0,b6,d1,b7⟩:=hh4 t ((V.o.fr b4.o).fr i) (b4.o.trans i) (c9.o.fr i);clear t i x;go_wp2_with (first
  | (refine lQ rfl 184 (.tmp 10) rfl rfl d0.o Go.Proofs.Tryz.underlying184 rfl xB ?_)
  | (refine gE rfl 184 (.tmp 4) (.tmp 63) rfl [ii ip (fA n),ii ip (n.first:Int),si u (li n.l) v] rfl rfl b6.o xB rfl aC ?_))
 intro J b A a7;have E:Fr [] w J:=(U.o.trans d1.o).trans A (λq f=>Ij (by have:=xA.1 f;omega));have a1:Hid (b5 (iz (tl #[il #[ii ip (fA n),ii ip (n.first:Int),si u (li n.l) v],ii ip 0])) J):=lh (b8.o _ _ ⟨_,rfl,((b7.o.fr A (λq f j=>by have d:=xA.1 j;have r:=O.o;have d:=a0.o.size;have i:p.heap.size<=q:=f;omega)).weak (λq f=>HD.o q (vD m.o f))).low m.o,E⟩);have a2:=lh b;clear b A a7 E;go_wp2_with fail;exact qD (vC rfl rfl a2.o Go.Proofs.Tryz.underlying184 rfl xB) rfl a1.o
def CD.nxC (c:CD) (k:Nat):Nat:=match sG c.S k with|some j=>j|none=>r16 (c.pg k)
theorem aUy{k j:Nat}(h:c.nx k=some j):c.nxC k=j:=by
 unfold CD.nx at h;unfold CD.nxC;cases b:sG c.S k with
 | some d=>rw[b]at h;simp only[yG]at h;exact h
 | none=>
  rw[b]at h;simp only at h;split at h;·cases h
  simpa using h
theorem aQZ(b:List UInt8):r16 b<65536:=by unfold r16;have:=(b.getD 0 0).toNat_lt;have:=(b.getD 1 0).toNat_lt;omega
theorem aUz(h:WfW c)(k:Nat):c.nxC k<65536:=by
 unfold CD.nxC;cases b:sG c.S k with
 | some d=>exact(h.mS _ (aAo b)).2
 | none=>exact aQZ _
theorem tS(b:c.e=0):c.fail 0=c:=by unfold CD.fail;rw[iA b];cases c;simp only at b;rw[b]
theorem aPi(i:PgC w0 wS dk g s X c)(h:jF wS w g bc bn bs D c){k:Nat}(H:k<c.n)(p:c.e=0): Calls prog 74 #[pi bc,k] w λe b=>e=iz (ii ip ((c.nxC k:Nat):Int))/\jF wS b g bc bn bs D c/\Fr [bc] w b:=by
 have F:=h.wf.n;obtain⟨J,d,f⟩:=h.spare;have b:=d.look_ok Tryz.underlying140 (aJO w) (k:=k) (by omega);have G:=h.blk.a 12;refine cA λv y=>?_;obtain⟨j,l⟩|⟨q,L,j,l,B⟩:=vI.get k f
 ·rw[l]at b;simp only[Option.getD_none,Option.isSome_none]at b;have d:c.nxC k=r16 (s.page k):=by unfold CD.nxC;rw[j,<- i.pg]
  have z:li (s.page k)=512:=by rw[<- i.pg];exact h.wf.pg k H
  have f:Hid (k<s.n):=lh (by rw[<- i.n];exact H);have I:=h.blk.a 10;go_enter func74,ntmps74;go_wp2_with fail;refine(aMb (i.px.stay h.fr) i.br i.calm k f.o).mono ?_;rintro e M ⟨N,O,rfl,C,E,r⟩;have f:=lh (rN (h.frame r) 0);go_wp2_with fail;refine f.o.mono ?_;rintro e t ⟨rfl,f,m,P⟩;rw[tS p]at f⊢;have A:decide (c.e≠0)=false:=by rw[p];rfl
  rw[A];have⟨u,x⟩:=hh2 f (nK (C.fr m (λf=>by have:=xA.1 f;have:=E;have:=h.lts.1;omega)) (by rw[z];omega));go_wp2_with fail;refine x.o.mono ?_;rintro e z ⟨rfl,p,rfl⟩;have f:Hid (v (iz (ii ip ((r16 (s.page k):Nat):Int))) (t.drewN p)):=lh (y.o _ _ ⟨by rw[d],u.o.frame ((jj [] t).drewN p),((r.mono (T:=[bc]) (by simp)).trans m (λm r=>Ii r)).drewN p⟩);go_wp2_with fail;exact f.o
 rw[l,B]at b;simp only[fV,Option.isSome_some]at b;have d:c.nxC k=q:=by unfold CD.nxC;rw[j]
 have f:Hid (v (iz (ii ip ((q:Nat):Int))) w):=lh (y.o _ _ ⟨by rw[d],h,jj _ _⟩);go_enter func74,ntmps74;go_wp2_with fail;exact f.o
theorem WfW.with_head(h:WfW c){j:Nat}(b:j<65536):WfW { c with head:=j }:=⟨h.n,h.next,b,h.pg,h.rM,h.rS,h.mM,h.mS,h.roots⟩
theorem WfW.with_next(h:WfW c){j:Nat}(b:j<=c.n):WfW { c with next:=j }:=⟨h.n,b,h.head,h.pg,h.rM,h.rS,h.mM,h.mS,h.roots⟩
theorem aEH(r:PgC w0 wS dk g s X c)(h:jF wS w g bc bn bs D c)(u:c.e=0)(B:c.head≠0->c.head<c.n/\∃j,c.nx c.head=some j): Calls prog 118 #[pi (some bc)] w λe l=>e=iz (ii ip ((c.alloc.2:Nat):Int))/\jF wS l g bc bn bs D c.alloc.1/\Fr [bc] w l:=by
 have F:=h.wf.n;have G:=h.wf.next;have v:=h.blk.a 0;have y:=h.blk.a 1;have z:=h.blk.a 10;have A:=h.blk.free;have H:=h.blk.lt;refine cA λt f=>?_;by_cases i:c.head≠0
 ·obtain⟨q,j,p⟩:=B i;have b:c.alloc=({ c with head:=j },c.head):=by unfold CD.alloc;rw[iA i,p];rfl
  rw[b]at f;have d:=aUy p;have k:=aPi r h q u;rw[d]at k;have C:=lh k;have q:j<65536:=by rw[<- d];exact aUz h.wf _
  have E:=lh q;have u:¬ ((c.head:Nat):Int)=0:=by omega
  clear h r p b d k q B A z v;go_enter func118,ntmps118;go_wp2_with fail;refine C.o.mono ?_;rintro e p ⟨rfl,d,v⟩;have A:=d.blk.a 1;have C:=d.blk.free 1;have I:=d.blk.lt;have k:Fr [bc] p (p.setCell ⟨bc,1,none⟩ (ii ip (j:Int))):=(jj [bc] p).setCell (Ii (by simp)) _;have q:Hid (t (iz (ii ip ((c.head:Nat):Int))) (p.setCell ⟨bc,1,none⟩ (ii ip (j:Int)))):=lh (f.o _ _ ⟨rfl,d.set (c':={ c with head:=j }) (d.blk.set_ 1 (ii ip (j:Int))) k rfl rfl (d.wf.with_head E.o),v.trans k (λz p=>Ii p)⟩);go_wp2_with fail;exact q.o
 have d:c.head=0:=by omega
 have⟨x,Y⟩:=hh2 h r;have E:=r.n;rw[d]at y;have v:Hid (∀nq,Calls prog 96 #[pi g] (w.drewN nq) λe l=>e=iz (ii ip (s.n:Int))/\∃m,l=w.drewN m):=lh λnq=>Calls.quiet_of_same (by have h:=aIc ((Y.o.px.stay x.o.fr).stay ((jj [] w).drewN nq));exact h.mono λe l ⟨d,y⟩=>⟨d,y.symm⟩);by_cases d:c.next<c.n
 ·have b:c.alloc=({ c with next:=c.next+1 },c.next):=(by unfold CD.alloc;rw[eA i,iA d]);rw[b]at f;have u:((c.next:Nat):Int)<(s.n:Int):=(by omega);have y:Wi ip (((c.next:Nat):Int)+1)=((c.next:Nat):Int)+1:=ak;have l:Hid (∀nq,t (iz (ii ip ((c.next:Nat):Int))) ((w.drewN nq).setCell bc (ii ip (((c.next:Nat):Int)+1)))):=lh λnq=>f.o _ _ ⟨rfl,by
   have k:Fr [bc] w ((w.drewN nq).setCell bc (ii ip (((c.next:Nat):Int)+1))):=((jj [bc] w).drewN nq).setCell (Ii (by simp)) _;exact⟨x.o.set (c':={ c with next:=c.next+1 }) ((x.o.blk.drewN nq).set_ 0 (ii ip (((c.next:Nat):Int)+1))) k rfl rfl (x.o.wf.with_next d),k⟩⟩
  clear h r B d b i;go_enter func118,ntmps118;go_wp2_with fail;go_quiet (first|with_reducible exact v.out _);go_wp2_with fail;exact l.o _
 have b:c.alloc=(c.fail 5,0):=(by unfold CD.alloc;rw[eA i,eA d];rfl);rw[b]at f;have u:¬ ((c.next:Nat):Int)<(s.n:Int):=(by omega);clear h r B d b i;go_enter func118,ntmps118;go_wp2_with fail;go_quiet (first|with_reducible exact v.out _);go_wp2_with fail;refine(rN (x.o.frame ((jj [] w).drewN _)) 5).mono ?_;rintro e b ⟨rfl,d,i,k⟩;have q:Hid (t (iz (ii ip 0)) b):=lh (f.o _ _ ⟨rfl,d,((jj [bc] w).drewN _).trans i (λz p=>Ii p)⟩);go_wp2_with fail;exact q.o
end
def zup:List Value:=[.slice none 0 0,.int .i64 0]
theorem qM:(prog.info? 212).map (·.zero)=some (some (il #[si none 0 0,ii ip 0])):=by kernel_rfl
theorem dD:(prog.info? 212).map (·.size)=some 2:=by kernel_rfl
theorem rE{a:Int}{A:Option Addr}{n c:Nat}:∀u∈[si A n c,a],u.oneCell'=true:=by intro u b;simp at b;rcases b with rfl|rfl<;>rfl
def UpV (D:Nat->Prop) (w:World) (v:Value) (u:Ky×Nat):Prop:=∃kv,v=.agg #[kv,.int .i64 ((u.2:Nat):Int)]/\∃g,dA w kv u.1 g/\D g
theorem aCs(b:Array Value)(w:World):(callFunc 189 b).run prog w=.ok (.enter 189 b) w:=by kernel_rfl
section
variable {w0 wS w:World}{dk g bc bn bs:Nat}{s:PS}{X D D':Nat->Prop}{c:CD}
theorem NdV.re{v:Value}{n:Nd}(h:NdV D w i v n)(d:∀q,D q->q<w.heap.size->D' q)(h0:∃q,D' q/\w<=q):NdV D' w i v n:=by obtain⟨f,g,o⟩:=h0;obtain⟨b,j,k,c,l,m⟩:=h;exact⟨b,j,k,c,l.re (λq b j=>⟨d q b.1 j,b.2⟩) ⟨f,g,λe=>by have:=aG c _ e;omega⟩,λq b=>d q (m q b) (aG c q b)⟩
theorem aCP(c:CD):c.alloc.1.n=c.n:=by
 unfold CD.alloc;split;·rfl
 split;·rfl
 unfold CD.full;split<;>rfl
theorem aId{U F:List Nat}(h:Acc c U F):c.head≠0->c.head<c.n/\∃j,c.nx c.head=some j:=λb=>by
 cases F with
 | nil=>exact absurd h.chain b
 | cons a F=>obtain⟨b,j,d,_⟩:=h.chain;have:=(h.mem (k:=a) (Ij (eC ..))).2;have:=h.next2;exact⟨by omega,j,by rw[b];exact d⟩
theorem aBJ(S:PgC w0 wS dk g s X c)(h:jF wS w g bc bn bs D c){v:Value}{n:Nd}{k:Nat}(m:NdV D w i v n)(U:k<c.n)(J:n.ok)(N:n.size<=if n.lf then 680 else 780)(V:c.e=0) (W:c.head≠0->c.head<c.n/\∃j,c.nx c.head=some j)(O:∀q,w.heap.size<=q->D q): Calls prog 156 #[pi (some ⟨bc,0,none⟩),ii ip (k:Int),v] w λe b=>∃uv,e=iz uv/\UpV D b uv (c.lay k n).2/\jF wS b g bc bn bs D (c.lay k n).1/\Fr [bc,bn,bs] w b:=by
 have E:n.size<=65536:=by split at N<;>omega
 obtain⟨r,t,cs,rfl,_,_,_,_⟩:=m.parts;obtain⟨b,B⟩:=nm ((w.alloc (iy #[ii ip (fA n),ii ip (n.first:Int),si r (li n.l) t] 184)).alloc (iy zup.toArray 212));have x:Fr [] w b:=by rw[B];exact((jj [] w).alloc _).alloc _
 have P:Blk b w.heap.size 184 [ii ip (fA n),ii ip (n.first:Int),si r (li n.l) t]:=by rw[B];exact(jl w _ [ii ip (fA n),ii ip (n.first:Int),si r (li n.l) t]).alloc _
 have Q:Blk b (w.heap.size+1) 212 zup:=by rw[B];have:=jl (w.alloc (iy #[ii ip (fA n),ii ip (n.first:Int),si r (li n.l) t] 184)) 212 zup;rwa [qB]at this
 have c3:=h.lts;obtain⟨p,C⟩:∃p:Nat->Prop,p=λq=>D q/\q≠w.heap.size+1:=⟨_,rfl⟩;have A:∀q,w.heap.size+2<=q->p q:=λq b=>by rw[C];exact⟨O q (by omega),by omega⟩
 have F:∀q,D q->q<w.heap.size->p q:=λq b e8=>by rw[C];exact⟨b,by omega⟩
 have G:∀q,p q->D q/\q≠w.heap.size+1:=λq b=>by rw[C]at b;exact b
 have H:=h;have h:=h.re F ⟨w.heap.size+2,A _ (tA _),by omega⟩ (λq b=>h.dom q (G q b).1);have m:=m.re F ⟨w.heap.size+2,A _ (tA _),by omega⟩;have⟨g8,f⟩:=hh2 A G;clear C A F G;have⟨c',HH,HV,d3,I,d4,HP,b6,HD⟩:=hh9 (aCN (m.fr x) J E) (h.frame x) (m.fr x) x P Q S J O;have⟨d5,HE,HS,g9,b7⟩:=hh5 W V N E U;have c4:((n.size:Int)<=512)↔n.size<=512:=by omega
 have R:Hid (wS.heap.size<=w.heap.size):=lh H.fr.size;have A:Hid (∀q,D q->q≠bc/\q≠bn/\q≠bs):=lh H.dom;clear x P Q h H m S J O W V N E U;refine cA λb0 J=>?_;go_enter func156,ntmps156;go_upto_region 1 with (with_reducible refine qA rfl 212 rfl (il #[si none 0 0,ii ip 0]) zup.toArray qM rfl ?_);rw[<- B];have C:(w.alloc (iy #[ii ip (fA n),ii ip (n.first:Int),si r (li n.l) t] 184)).heap.size=w.heap.size+1:=by rw[qB]
 rw[C];clear B C;have E:=I.o.a 0;have F:=I.o.a 1;have G:=I.o.a 2;go_wp2_with fail;refine c'.o.mono ?_;rintro e c8 ⟨rfl,m⟩;have⟨d7,d8,d9,L,u⟩:=hh5 (d3.o.trans m) (HH.o.frame m) (HV.o.fr m) (I.o.fr m) (d4.o.fr m);clear E F G m c' d3 HH HV I d4;have E:=L.o.a 0;have F:=L.o.a 1;have G:=L.o.a 2;by_cases Q:n.size<=512
 ·have B:c.lay k n=(c.write k n,([],0)):=by unfold CD.lay;rw[iA Q]
  rw[B]at J;have x:=lh (pM d8.o d9.o b7.o b6.o Q);clear B;go_wp2_with fail;refine x.o.mono ?_;rintro e P ⟨rfl,H,m⟩;have⟨d',g',e0⟩:=hh3 H m (u.o.fr m (by simp;omega));clear H m x E F G;go_wp2_with (refine gE rfl 212 (.tmp 6) (.tmp 18) rfl [si none 0 0,ii ip 0] rfl rfl e0.o dD rfl rE ?_);intro H V x U;have S:Fr [bc,bn,bs] w H:=((d7.o.mono (T:=[bc,bn,bs]) (by simp)).trans g'.o (λq b=>Ii (by simp at b⊢;omega))).trans x (λq b=>Ij (by have:=xA.1 b;omega));have N:Hid (b0 (iz (il #[si none 0 0,ii ip 0])) H):=lh (J.o _ _ ⟨_,rfl,⟨_,rfl,w.heap.size,dA.nil _ _,HD.o _ (tA _)⟩,(d'.o.frS x (λq b=>Ij (by have O:=xA.1 b;have c5:=d'.o.fr.size;have b5:=R.o;exact⟨by omega,λb=>(f.o q b).2 O,by omega⟩))).weak (λq b=>(f.o q b).1) A.o,S⟩);have W:=lh V;clear V x U S;go_wp2_with fail;exact cI (g:=w.heap.size+1) (t':=212) (cs:=[si none 0 0,ii ip 0]) (d:=_) rfl rfl W.o Go.Proofs.Tryz.underlying212 rfl dD N.o
 obtain⟨V,W,a7,a8,b1,b2,a9,a'⟩:=Nd.split_ok b6.o (by omega) HS.o;have B:c.lay k n=((c.alloc.1.write k n.left).write c.alloc.2 n.right,(n.key,c.alloc.2)):=by unfold CD.lay;rw[eA Q]
 rw[B]at J;have⟨e1,h6,h7,h8,h9⟩:=hh5 (aJJ d9.o b6.o g9.o W V (λq b=>g8.o q (by have:=u.o.lt;omega))) a7 a8 a9 a';have Q:c.alloc.1.n=c.n:=aCP c;have S:c.alloc.2<c.n:=by
  unfold CD.alloc;split;·rename_i h;exact(d5.o h).1
  split;·assumption
  have:=b7.o;show 0<c.n;omega
 have⟨e3,h'⟩:=hh2 Q S;clear B V W a7 a8 b1 b2 a9 a' Q S;go_upto_region 4 with fail;refine sB ?_;refine ab ?_;refine lp λK hK=>kA (l:=[.tmp 20]) rfl [il #[ii ip (fA n),ii ip (n.first:Int),si r (li n.l) t]] rfl (aCs _) (e1.o.mono ?_);rintro e P ⟨c9,d0,d1,rfl,Q,⟨t,a7,a8⟩,S,m⟩;obtain⟨r,B,d2,rfl,_,_,_,_⟩:=Q.parts;obtain⟨W,a9,d6,rfl,_,_,_,_⟩:=S.parts;refine⟨_,rfl,hK _ _ ?_⟩;simp only[nrm];clear hK E F G;iterate 4 (refine ab ?_)
 refine lp λK hK=>gB 184 rfl (il #[ii ip 0,ii ip 0,si none 0 0]) znd zD rfl λH a' x U=>hK _ _ ?_;simp only[nrm];clear hK;refine lp λK hK=>gB 184 rfl (il #[ii ip 0,ii ip 0,si none 0 0]) znd zD rfl λe9 b1 E c0=>hK _ _ ?_;simp only[nrm];clear hK;refine lp λK hK=>pA 184 (.tmp 7) (.tmp 22) rfl [ii ip (fA n.left),ii ip (n.left.first:Int),si r (li n.left.l) B] rfl rfl (a'.fr E) xB rfl aC λe' b2 V c1=>hK _ _ ?_;simp only[Act.put];clear hK;refine ab ?_;refine lp λK hK=>pA 184 (.tmp 9) (.tmp 24) rfl [ii ip (fA n.right),ii ip (n.right.first:Int),si W (li n.right.l) a9] rfl rfl (b1.fr V (by simp;omega)) xB rfl aC λb3 b4 W c2=>hK _ _ ?_;simp only[Act.put];clear hK;refine wB ?_;have C:=m.size;have b8:=u.o.lt;have r:Fr [] P b3:=(((x.trans E).trans V (λq b=>Ij (by have:=xA.1 b;omega))).trans W (λq b=>Ij (by have:=xA.1 b;omega)));have B:=m.trans r;have⟨i0,b9,b',Y,e4,e5,e6,M,e7⟩:=hh9 (d8.o.frame B) (b2.fr W (by simp;omega)) b4 (u.o.fr B) (Q.fr r) (S.fr r) (a7.fr r) a8 (d7.o.trans B);obtain⟨F,a9⟩:=nm (P.heap.size);obtain⟨G,P⟩:=nm (H.heap.size);have c6:w.heap.size+2<=F:=by omega
 have c7:F<G:=by omega
 rw[<- a9]at b9⊢;rw[<- P]at b'⊢;have H:=lh (aEH HP.o i0.o HE.o d5.o);obtain⟨F,G,e2,rfl,_,_⟩:=a7;clear a' x U b1 E c0 b2 V c1 b4 W c2 r B Q S a8 m C a9 P e1 b8;go_wp2_with fail;refine H.o.mono ?_;rintro e S ⟨rfl,U,r⟩;have⟨i2,y,Z,a0⟩:=hh4 U (b9.o.fr r (by simp;omega)) (b'.o.fr r (by simp;omega)) (Y.o.fr r (by simp;omega));have x:∀q,p q->q∈[bc]->b3.heap.size<=q:=λq b m=>absurd (xA.1 m) (A.o q (f.o q b).1).1;have⟨a1,a2,a3⟩:=hh3 (e4.o.fr r x) (e5.o.fr r x) (e6.o.frD r (λm=>x t M.o m));have P:Hid (Fr [bc,bn,bs] w S):=lh ((e7.o.mono (T:=[bc,bn,bs]) (by simp)).trans r (λq b=>Ii (by simp at b⊢;omega)));have Q:=lh (pM i2.o a1.o (by rw[e3.o];exact b7.o) h8.o h6.o);have B:=y.o.a 0;have C:=y.o.a 1;have E:=y.o.a 2;clear U r x H e4 e5 e6 b9 b' Y e7;go_wp2_with fail;refine Q.o.mono ?_;rintro e U ⟨rfl,V,r⟩;have⟨i3,z,a4⟩:=hh3 V (Z.o.fr r (by simp;omega)) (a0.o.fr r (by simp;omega));have x:∀q,p q->q∈[bn,bs]->S.heap.size<=q:=λq b m=>by have:=A.o q (f.o q b).1;simp at m;omega
 have⟨a5,a6⟩:=hh2 (a2.o.fr r x) (a3.o.frD r (λm=>x t M.o m));have H:Hid (Fr [bc,bn,bs] w U):=lh (P.o.trans r (λq b=>Ii (by simp at b⊢;omega)));have S:=lh (pM i3.o a5.o (by show c.alloc.2<c.alloc.1.n;rw[e3.o];exact h'.o) h9.o h7.o);clear V r x Q B C E a2 a3 y Z a0 P a1;have B:=z.o.a 0;have C:=z.o.a 1;have E:=z.o.a 2;go_wp2_with fail;refine S.o.mono ?_;rintro e P ⟨rfl,Q,r⟩;have⟨i4,f2⟩:=hh2 Q (a4.o.fr r (by simp;omega));have x:∀q,p q->q∈[bn,bs]->U.heap.size<=q:=λq b m=>by have:=A.o q (f.o q b).1;simp at m;omega
 have U:=lh (a6.o.frD r (λm=>x t M.o m));have V:Hid (Fr [bc,bn,bs] w P):=lh (H.o.trans r (λq b=>Ii (by simp at b⊢;omega)));clear Q r x S B C E a5 a6 z a4 H;go_wp2_with (refine gE rfl 212 (.tmp 6) (.tmp 37) rfl [si F (li n.key) G,ii ip ((c.alloc.2:Nat):Int)] rfl rfl f2.o dD rfl rE ?_);intro B C r E;have x:∀q,p q->q∈[w.heap.size+1]->P.heap.size<=q:=λq b m=>absurd (xA.1 m) (f.o q b).2;have p:Fr [bc,bn,bs] w B:=V.o.trans r (λq b=>Ij (by have:=xA.1 b;omega));have N:Hid (b0 (iz (il #[si F (li n.key) G,ii ip ((c.alloc.2:Nat):Int)])) B):=lh (J.o _ _ ⟨_,rfl,⟨_,rfl,t,U.o.frD r (λm=>x t M.o m),(f.o t M.o).1⟩,(i4.o.frS r (λq b=>Ij (by have O:=xA.1 b;have b5:=R.o;exact⟨by omega,λb=>(f.o q b).2 O,by omega⟩))).weak (λq b=>(f.o q b).1) A.o,p⟩);have b:=lh C;clear C r E p x;go_wp2_with fail;exact cI (g:=w.heap.size+1) (t':=212) (cs:=[si F (li n.key) G,ii ip ((c.alloc.2:Nat):Int)]) (d:=_) rfl rfl b.o Go.Proofs.Tryz.underlying212 rfl dD N.o
end
end
section
variable {c c':CD}{U F R P:List Nat}{k h:Nat}{n:Nd}{lo hi:Option Ky}{E:En}
structure aEI (c:CD) (k:Nat) (n:Nd):Prop where
 k:k<c.n
 ok:n.ok
 size:n.size<=if n.lf then 680 else 780
 e:c.e=0
 head:c.head≠0->c.head<c.n/\∃j,c.nx c.head=some j
def aMm:Nat->CD->Nat->It->CD->(Ky×Nat)->Prop
 | 0,_,_,_,_,_=>False
 | f+1,c,k,x,c',u=>∃n,c.N k=some n/\aCp n.l/\c.e=0 /\
  ((n.lf=true/\aEI c k { n with l:=nF n.l x }/\(c',u)=c.lay k { n with l:=nF n.l x }) ∨
   (n.lf=false/\∃c1 u1,aMm f c (n.child (n.way x.key)) x c1 u1 /\
    ((u1.2=0/\c'=c1/\u=([],0))∨(u1.2≠0/\aEI c1 k { n with l:=xI n.l (n.way x.key) ⟨u1.1,[],u1.2⟩ }/\(c',u)=c1.lay k { n with l:=xI n.l (n.way x.key) ⟨u1.1,[],u1.2⟩ }))))
def aJP (c:CD) (k:Nat) (n:Nd) (i:Nat) (c':CD) (u':Ky×Nat):Prop:=
 ∃a b y m,n.l[i]? = some y/\c.N (n.child i)=some a/\c.N (n.child (i+1))=some b/\a.lf=b.lf/\m=a.with_ y.key b/\m.ok /\
  ((m.size<=512/\aEI ((c.write (n.child i) m).free (n.child (i+1))) k { n with l:=dH n.l i }/\(c',u')=((c.write (n.child i) m).free (n.child (i+1))).lay k { n with l:=dH n.l i }) ∨
   (512<m.size/\m.size<=(if m.lf then 680 else 780)/\aEI ((c.write (n.child i) m.left).write (n.child (i+1)) m.right) k { n with l:=xO n.l i m.key }/\(c',u')=((c.write (n.child i) m.left).write (n.child (i+1)) m.right).lay k { n with l:=xO n.l i m.key }))
def aNF (c:CD) (k:Nat) (n:Nd) (i:Nat) (u:Ky×Nat) (c':CD) (u':Ky×Nat):Prop:=
 n.ok/\n.size<=512/\i<=n.l.length /\
  ((u.2≠0/\aEI c k { n with l:=xI n.l i ⟨u.1,[],u.2⟩ }/\(c',u')=c.lay k { n with l:=xI n.l i ⟨u.1,[],u.2⟩ }) ∨
   (u.2=0/\∃x,c.N (n.child i)=some x/\(((c.e≠0∨170<=x.size∨n.l=[])/\c'=c/\u'=([],0))∨(c.e=0/\x.size<170/\n.l≠[]/\aJP c k n (i-1) c' u'))))
def aMn:Nat->CD->Nat->Ky->CD->Bool->(Ky×Nat)->Prop
 | 0,_,_,_,_,_,_=>False
 | f+1,c,k,key,c',is,u=>∃n,c.N k=some n/\aCp n.l/\c.e=0 /\
  ((n.lf=true/\u=([],0)/\is=gP n.l key/\((gP n.l key=true/\c'=c.write k { n with l:=dH n.l (lB n.l key) }/\Nd.ok { n with l:=dH n.l (lB n.l key) }/\Nd.size { n with l:=dH n.l (lB n.l key) }<=512)∨(gP n.l key=false/\c'=c))) ∨
   (n.lf=false/\∃c1 is1 u1,aMn f c (n.child (n.way key)) key c1 is1 u1 /\
    ((is1=false/\is=false/\c'=c1/\u=([],0))∨(is1=true/\is=true/\aNF c1 k n (n.way key) u1 c' u))))
theorem cZ(n:Nd)(key:Ky):n.way key<=li n.l:=by unfold Nd.way;exact(aBl _).length_le
theorem aRa(l:List It)(key:Ky):lB l key<=li l:=by unfold lB;exact(aBl _).length_le
theorem aX{l:List It}(h:sI (mC l)):aCp l:=by unfold sI mC at h;rw[mV]at h;exact h
theorem aAx(b:Acc c (k::U) F)(g:c.e=0)(f:n.ok)(i:n.size<=if n.lf then 680 else 780):aEI c k n:=⟨by have:=(b.mem (k:=k) (Ii (eC ..))).2;have:=b.next2;omega,f,i,g,aId b⟩
theorem aNG{A B:List It}{u:Ky×Nat}(j:n.l=A++B)(g:n.lf=false)(b:n.ok)(m:n.size<=512)(u1:1<=li u.1)(u2:li u.1<=96)(p:u.2<65536)(q:Acc c (k::U) F)(r:c.e=0): aEI c k { n with l:=A++⟨u.1,[],u.2⟩::B }:=by
 have h:Nd.size { n with l:=A++⟨u.1,[],u.2⟩::B }=n.size+(3+li u.1):=by rw[cF,cF,j,gC,gC,cD];simp only[ibn,g,eF,nH];omega
 have i:=pF m;refine aAx q r ⟨?_,λf d=>?_,b.first,b.bare⟩ (by show _<=if n.lf=true then 680 else 780;rw[eA (by rw[g];decide),h];omega)
 ·show(A++⟨u.1,[],u.2⟩::B).length<65536;have:li n.l=li A+li B:=by rw[j,iB]
  rw[iB,bD];omega
 show f.ok n.lf;obtain d|d:=sD.1 d;·exact b.item f (by rw[j];exact yE _ d)
 obtain rfl|d:=bB.1 d;·exact⟨u1,u2,uB _,p,by rw[g];rfl⟩
 exact b.item f (by rw[j];exact tF _ d)
theorem Z88{P:Prop} (h:P:=by
 refine aNG (U:=(P1 ++ P2) ++ (PA ++ PB ++ R)) (F:=Fn) hl hlf hok hsz u1 u2 hu (ha'.swap ?_) e0;rw[gM];intro a;simp only[dL,lL];omega):P:=h
theorem aNH:∀(h:Nat) {f:Nat} {c:CD} {k:Nat} {lo hi:Option Ky} {E:En} {P R F:List Nat} {x:It},h<f->Sub c.N 1 h k lo hi E P->Acc c (P++R) F->c.e=0->x.ok true->wT lo x.key->kS hi x.key ->∀c' u,aHU f c k x=some (c',u)->aMm f c k x c' u
 | 0,f,c,k,lo,hi,E,P,R,F,x,hf,hs,ha,he,hx,h1,h2=>by
  intro c' u b;obtain⟨f,rfl⟩:∃g,f=g+1:=⟨f-1,by omega⟩;obtain⟨n,j,d,hok,hsz,m,rfl,hlf,rfl,rfl,o,J⟩:=hs;have hi':∀y∈n.l,y.ok true:=λy hy=>by have:=hok.item y hy;rwa [hlf]at this
  obtain⟨L,M,O⟩:=aAs hx hi';have H:n.size=3+aF true n.l:=by rw[cF,hlf];rfl
  have i:Nd.size { n with l:=nF n.l x }=3+aF true (nF n.l x):=by rw[cF];simp only[hlf];rfl
  have I:=pF hsz;unfold aHU at b;rw[d]at b;simp only at b;rw[iA hlf]at b;injection b with b;refine⟨n,d,aX o,he,Ii ⟨hlf,?_,b.symm⟩⟩;refine aAx (U:=R) (F:=F) (by simpa using ha) he ⟨?_,λy hy=>?_,hok.first,hok.bare⟩ (by rw[i];simp only[hlf,vG];omega);·show(nF n.l x).length<65536;omega
  exact Z75
 | h+1,f,c,k,lo,hi,E,P,R,F,x,hf,hs,ha,he,hx,h1,h2=>by
  intro Z u2 b;obtain⟨f,rfl⟩:∃g,f=g+1:=⟨f-1,by omega⟩;obtain⟨n,j,d,hok,hsz,m,rfl,hlf,hK⟩:=hs;obtain⟨o,D,hl,Q,p,G,r,s⟩:=oS (n:=n) h1 h2;have i:=(fE.keys Sub.fine hK).1;have B:=i;rw[hl]at hK i;obtain⟨S,PA,T,i,V,PB,W,t,X,rfl,rfl⟩:=fE.focus.1 hK;have j:n.child (n.way x.key)=qO n.first o:=by unfold Nd.child;rw[p]
  have m:Acc c (i++(k::(PA++PB)++R)) F:=ha.swap (by rw[gM];intro a;simp only[dL,lL];omega);obtain⟨c',u,A,Y,i⟩:=aHV h (f:=f) (by omega) t m he hx r s;have C:=aNH h (f:=f) (by omega) t m he hx r s c' u A;unfold aHU at b;rw[d]at b;simp only at b;rw[eA (by rw[hlf];decide),j,A]at b;simp only at b;refine⟨n,d,B,he,Ij ⟨hlf,c',u,by rw[j];exact C,?_⟩⟩;by_cases d:u.2=0;·rw[iA d]at b;injection b with b;injection b with j m;exact Ii ⟨d,j.symm,m.symm⟩
  rw[eA d]at b;injection b with b;refine Ij ⟨d,?_,b.symm⟩;have b:xI n.l (n.way x.key) ⟨u.1,[],u.2⟩=o++⟨u.1,[],u.2⟩::D:=(by unfold xI;rw[p,G]);rw[b];obtain⟨e0,b,Fn,ha',j,i⟩|⟨_,u0,_⟩:=i
  ·obtain⟨u0,_⟩|⟨_,u1,u2,_,_,m,P1,o,P2,p,s2,r,rfl⟩:=i
   ·exact absurd u0 d
   have hu:u.2<65536:=(by exact Z28);exact Z88
  exact absurd u0 d
theorem aJQ{A B:List It}{y:It}{E1 E2:En}{PA P1 P2 PB:List Nat}{a b:Nd}(hl:n.l=A++y::B)(D:n.lf=false)(f:n.ok)(t:n.size<=512) (Y:c.N (qO n.first A)=some a)(E:a.ok)(G:a.size<=512)(j:NF c.N h a (lS lo A) (some y.key) E1 P1) (x:c.N y.at_=some b)(H:b.ok)(I:b.size<=512)(p:NF c.N h b (some y.key) (oX hi B) E2 P2) (W:a.size+b.size<=512+169)(J:wT (lS lo A) y.key)(L:kS (oX hi B) y.key) (S:Acc c (k::(PA++((qO n.first A::P1)++(y.at_::P2))++PB)++R) F)(C:c.e=0): ∀c' u,aJD c k n (li A)=some (c',u)->aJP c k n (li A) c' u:=by
 intro V u2 i;have o:n.child (li A)=qO n.first A:=by unfold Nd.child;rw[hl,xL]
 have q:n.child (li A+1)=y.at_:=by exact Z80
 have z:n.l[li A]? = some y:=by rw[hl,mJ (tA _),mY];rfl
 have m:=f.item y (by rw[hl];exact tF _ (eC ..));have s:a.lf=b.lf:=by rw[j.kind,p.kind]
 obtain⟨d,g⟩:=nm (a.with_ y.key b);have r:d.ok:=by rw[g];exact aNq E H s ⟨m.k1,m.k2⟩ (by have:=pF G;have:=pF I;omega)
 have E:d.size=if a.lf then a.size+b.size-3 else a.size+b.size+li y.key-2:=by rw[g];exact aFW s _
 have G:d.lf=a.lf:=by rw[g];rfl
 have M:NF c.N h d (lS lo A) (oX hi B) (E1++E2) (P1++P2):=by rw[g];exact j.with_ p L J
 have L:=m.k2;obtain⟨j,H⟩:=nm (qO n.first A);obtain⟨p,I⟩:=nm (y.at_);rw[<- H]at o S Y;rw[<- I]at q S x;unfold aJD at i;rw[o,q,Y,x,z]at i;simp only at i;rw[<- g]at i;refine⟨a,b,y,d,z,by rw[o];exact Y,by rw[q];exact x,s,g,r,?_⟩;rw[o,q];by_cases q:d.size<=512
 ·rw[iA q]at i;injection i with i;refine Ii ⟨q,?_,i.symm⟩;have g:dH n.l (li A)=A++B:=by
   exact Z38
  rw[g];have H:Nd.size { n with l:=A++B }<=512:=by rw[cF,hl,gC,cD]at t;rw[cF,gC];simp only;omega
  have s:Acc ((c.write j d).free p) (k::(PA++(j::(P1++P2))++PB)++R) (p::F):=by refine Acc.free ((S.write (k:=j) (by simp) r q).swap ?_);rw[gM];intro o;simp only[dL,lL];omega
  refine aAx (U:=(PA++(j::(P1++P2))++PB)++R) s C ⟨?_,λo g=>f.item o (by rw[hl];obtain g|g:=sD.1 g;exact yE _ g;exact tF _ (jD _ g)),f.first,f.bare⟩ (by show _<=if n.lf=true then 680 else 780;rw[eA (by rw[D];decide)];omega);show(A++B).length<65536;have:=f.few;rw[hl,iB,bD]at this;rw[iB];omega
 rw[eA q]at i;injection i with i;have q:d.size<=if d.lf then 680 else 780:=by rw[G,E];split<;>omega
 refine Ij ⟨by omega,q,?_,i.symm⟩;obtain⟨x,O,E,G,Q,T,I,J⟩:=Nd.split_ok r (by omega) q;obtain⟨i,z⟩:∃i,d.l[d.cutAt]? = some i:=⟨_,kE x⟩;have q:d.key=i.key:=by unfold Nd.key;rw[z];rfl
 have x:=r.item i (kF z);have s:Acc ((c.write j d.left).write p d.right) (k::(PA++((j::P1)++(p::P2))++PB)++R) F:=(S.write (by simp) I E).write (by simp) J G;have i:xO n.l (li A) d.key=A++{ y with key:=d.key }::B:=by unfold xO;rw[hl,xL,rO]
 rw[i];have i:li d.key<=96:=by rw[q];exact x.k2
 have r:1<=li d.key:=by rw[q];exact x.k1
 have H:Nd.size { n with l:=A++{ y with key:=d.key }::B }<=620:=by rw[cF,hl,gC,cD]at t;rw[cF,gC,cD];simp only[D,ibn,eF,nH]at t⊢;omega
 refine aAx (U:=(PA++((j::P1)++(p::P2))++PB)++R) s C ⟨?_,λo g=>?_,f.first,f.bare⟩ (by show _<=if n.lf=true then 680 else 780;rw[eA (by rw[D];decide)];omega);·show(A++{ y with key:=d.key }::B).length<65536;have:=f.few;rw[hl,iB,bD]at this;rw[iB,bD];exact this
 show o.ok n.lf;obtain g|g:=sD.1 g;·exact f.item o (by rw[hl];exact yE _ g)
 obtain rfl|g:=bB.1 g;·exact⟨r,i,m.v,m.at_,m.bare⟩
 exact f.item o (by rw[hl];exact tF _ (jD _ g))
theorem aNI:∀(h:Nat) {f:Nat} {c:CD} {k:Nat} {lo hi:Option Ky} {E:En} {P R F:List Nat} {key:Ky},h<f->Sub c.N 1 h k lo hi E P->Acc c (P++R) F->c.e=0->wT lo key->kS hi key ->∀c' L u,aEt f c k key=some (c',L,u)->aMn f c k key c' L u
 | 0,f,c,k,lo,hi,E,P,R,F,key,hf,hs,ha,he,h1,h2=>by
  intro c2 b1 u2 j;obtain⟨f,rfl⟩:∃g,f=g+1:=⟨f-1,by omega⟩;obtain⟨n,T,Z,hok,hsz,hm,rfl,hlf,rfl,rfl,hr,hw⟩:=hs;obtain⟨q1,q2⟩:=aNv (key:=key) hr;unfold aEt at j;rw[Z]at j;simp only at j;rw[iA hlf]at j;refine⟨n,Z,aX hr,he,Ii ⟨hlf,?_⟩⟩;cases H:gP n.l key with
  | false=>rw[eA (by rw[H];decide)]at j;injection j with j;injection j with s m;injection m with m t;exact⟨t.symm,m.symm,Ij ⟨rfl,s.symm⟩⟩
  | true=>
   rw[iA H]at j;injection j with j;injection j with s m;injection m with m t;obtain⟨d1,d2,d3,d4⟩:=q2 H;refine⟨t.symm,m.symm,Ii ⟨rfl,s.symm,⟨?_,λx hx=>hok.item x (d4 x hx),hok.first,hok.bare⟩,?_⟩⟩;·show(dH n.l (lB n.l key)).length<65536;have:=hok.few;omega
   rw[cF]at hsz⊢;simp only[hlf,vG]at hsz⊢;omega
 | h+1,f,c,k,lo,hi,E,P,R,F,key,hf,hs,ha,he,h1,h2=>by
  intro c2 b1 u2 j;obtain⟨f,rfl⟩:∃g,f=g+1:=⟨f-1,by omega⟩;obtain⟨n,T,Z,hok,hsz,hm,rfl,hlf,hK⟩:=hs;obtain⟨A,B,hl,a0,a1,a7,g1,g2⟩:=oS (n:=n) h1 h2;have o:=(fE.keys Sub.fine hK).1;have I:∀ {S B':List It} {y:It},n.l=S++y::B'->wT (lS lo S) y.key/\kS (oX hi B') y.key:=λe=>by rw[e]at hK;exact aNt Sub.fine hK
  have G:=o;rw[hl]at hK o;obtain⟨EA,PA,E0,P0,EB,PB,kL,k0,kR,rfl,rfl⟩:=fE.focus.1 hK;have q:n.child (n.way key)=qO n.first A:=by unfold Nd.child;rw[a1]
  have V:Acc c (P0++(k::(PA++PB)++R)) F:=ha.swap (by rw[gM];intro a;simp only[dL,lL];omega);obtain⟨c',L,u,ep,H,b5,a2⟩:=aHW h (f:=f) (by omega) k0 V he g1 g2;have hW:=aNI h (f:=f) (by omega) k0 V he g1 g2 c' L u ep;have a5:aEt (f+1) c k key=if L then (aFX c' k n (n.way key) u).map λr=>(r.1,true,r.2) else some (c',false,([],0)):=by unfold aEt;rw[Z];simp only;rw[eA (by rw[hlf];decide),q,ep]
  rw[a5]at j;refine⟨n,Z,G,he,Ij ⟨hlf,c',L,u,by rw[q];exact hW,?_⟩⟩;cases L with
  | false=>rw[eA (by decide)]at j;injection j with j;injection j with s m;injection m with m t;exact Ii ⟨rfl,m.symm,s.symm,t.symm⟩
  | true=>
   rw[iA rfl]at j;obtain⟨r,i,M⟩:=Option.map_eq_some_iff.1 j;injection M with M O;injection O with O a8;refine Ij ⟨rfl,O.symm,hok,hsz,cZ n key,?_⟩;rw[<- M,<- a8];obtain⟨sm,C⟩:=a2 rfl;unfold aFX at i;rw[q]at i;obtain⟨e0,Pn,Fn,ha',hR,C⟩|⟨e5,u0,hR,⟨n0,a3⟩,b4⟩:=C
   ·have mono:∀ {Q:List Nat},(∀p∈Q,p∈PA∨p∈PB)->∀cc lo hi E T,(∀p∈T,p∈Q)->Sub c.N 1 h cc lo hi E T->Sub c'.N 1 h cc lo hi E T:=λhQ cc lo hi E T hP D=>
     D.congr λp j=>hR p (yE _ (jD _ (sD.2 (hQ p (hP p j)))))
    have W:=yH.mono (mono (Q:=PA) (λp j=>Ii j)) (λp j=>j) kL;have a6:=nM.mono (mono (Q:=PB) (λp j=>Ij j)) (λp j=>j) kR;obtain⟨u0,D⟩|⟨u0,u1,u2,u3,u4,E1,P1,E2,P2,s1,s2,eE,rfl⟩:=C
    ·rw[eA (λh=>h u0)]at i;obtain⟨x,Px,x1,x2,x3,_,rfl,x6⟩:=id D;rw[x1]at i;simp only at i;refine Ij ⟨u0,x,by rw[q];exact x1,?_⟩;by_cases hx:170<=x.size
     ·rw[iA (Ij (Ii hx))]at i;injection i with i;exact Ii ⟨Ij (Ii hx),by rw[<- i],by rw[<- i]⟩
     have J:n.l≠[]:=λe=>(by rw[e]at hm;cases hm);rw[eA (by rintro(h|h|h);exact h e0;exact hx h;exact J h),<- a0]at i;refine Ij ⟨e0,by omega,J,?_⟩;rw[<- a0];obtain a9|⟨S,y,a4⟩:=List.eq_nil_or_concat A
     ·subst a9;obtain⟨rfl,rfl⟩:=W;cases B with
      | nil=>exact absurd hl J
      | cons y B=>obtain⟨_,_,E2,P2,b6,a',⟨rfl,rfl⟩,b2,b3,rfl,rfl⟩:=(fE.focus (A:=[])).1 (show fE (Sub c'.N 1 h) (some y.key) y.at_ ([]++B) hi EB PB from a6);obtain⟨z,Pz,z1,z2,z3,z4,rfl,z6⟩:=b2;obtain⟨m1,m2⟩:=I hl;exact aJQ (A:=[]) (B:=B) (k:=k) (F:=Fn) (R:=R) (P1:=Px) (P2:=Pz) (PA:=[]) (PB:=a') (lo:=lo) (hi:=hi) (a:=x) (b:=z) hl hlf hok hsz x1 x2 x3 x6 z1 z2 z3 z6 (by omega) m1 m2 (ha'.swap (by rw[gM];intro a;simp only[dL,lL,qO,nG];omega)) e0 r.1 r.2 i
     rw[List.concat_eq_append]at a4;subst a4;obtain⟨b7,b0,E1,P1,l1,l2,rfl,rfl⟩:=yH.snoc.1 W;obtain⟨z,Pz,z1,z2,z3,z4,rfl,z6⟩:=l2;rw[pS]at x1 ha';rw[aBG]at x6;have X:n.l=S++y::B:=(by rw[hl];simp);obtain⟨m1,m2⟩:=I X;have el:li (S++[y])-1=li S:=(by simp);rw[el]at i⊢;exact aJQ (A:=S) (B:=B) (y:=y) (k:=k) (F:=Fn) (R:=R) (P1:=Pz) (P2:=Px) (PA:=b0) (PB:=PB) (lo:=lo) (hi:=hi) (a:=z) (b:=x) X hlf hok hsz z1 z2 z3 z6 x1 x2 x3 x6 (by omega) m1 m2 (ha'.swap (by rw[gM];intro a;simp only[dL,lL];omega)) e0 r.1 r.2 i
    rw[iA u0]at i;injection i with i;have hu:u.2<65536:=(by exact Z28);have Y:xI n.l (n.way key) ⟨u.1,[],u.2⟩=A++⟨u.1,[],u.2⟩::B:=(by unfold xI;rw[a1,a7]);refine Ii ⟨u0,?_,i.symm⟩;rw[Y];exact Z88
   rw[eA (λh=>h u0),a3]at i;simp only at i;rw[iA (Ii (by rw[e5];decide))]at i;injection i with i;exact Ij ⟨u0,n0,by rw[q];exact a3,Ii ⟨Ii (by rw[e5];decide),by rw[<- i],by rw[<- i]⟩⟩
end
section
open Go.RowKit Go.ChangeMaps Go.MapKept Go.Maps Go.Sort Go.Shelf
def setV (l:List It) (k:Nat) (v:List UInt8):List It:=l.take k++match l.drop k with|y::B=>{ y with v:=v }::B | []=>[]
theorem aEJ(l:List It)(key:Ky):l.take (lB l key)=(l.takeWhile λb=>decide (klt b.key key))/\l.drop (lB l key)=l.dropWhile λb=>decide (klt b.key key):=by
 have e:=xR (p:=λb:It=>decide (klt b.key key)) (l:=l);have c:l.take (lB l key)=((l.takeWhile λb=>decide (klt b.key key))++l.dropWhile λb=>decide (klt b.key key)).take (li (l.takeWhile λb=>decide (klt b.key key))):=by rw[e];rfl
 have d:l.drop (lB l key)=((l.takeWhile λb=>decide (klt b.key key))++l.dropWhile λb=>decide (klt b.key key)).drop (li (l.takeWhile λb=>decide (klt b.key key))):=by rw[e];rfl
 rw[c,d,xL,rO];exact⟨rfl,rfl⟩
theorem aMo{l:List It}{x:It}(h:gP l x.key=true):nF l x=setV l (lB l x.key) x.v:=by
 obtain⟨b,c⟩:=aEJ l x.key;unfold gP at h;unfold nF setV;rw[b,c];cases c:l.dropWhile λb=>decide (klt b.key x.key) with
 | nil=>rw[c]at h;cases h
 | cons b d=>
  rw[c]at h;have c:b.key=x.key:=by simpa[aZ]using h
  simp only;rw[iA c]
theorem aMp{l:List It}{x:It}(h:gP l x.key=false):nF l x=xI l (lB l x.key) x:=by
 obtain⟨b,c⟩:=aEJ l x.key;unfold gP at h;unfold nF xI;rw[b,c];cases c:l.dropWhile λb=>decide (klt b.key x.key) with
 | nil=>rfl
 | cons b d=>
  rw[c]at h;have c:¬ b.key=x.key:=by simpa[aZ]using h
  simp only;rw[eA c]
theorem aIe{l:List It}{key:Ky}(h:gP l key=true):lB l key<li l:=by
 obtain b|b:=aEB (l:=l) (key:=key);·exact b.1
 rw[b.2]at h;cases h
theorem aJR(l:List It)(k:Nat)(v:List UInt8):li (setV l k v)=li l:=by
 unfold setV;have b:li (l.take k)+li (l.drop k)=li l:=by rw[<- iB,bL]
 cases c:l.drop k with
 | nil=>rw[c]at b;simpa using b
 | cons d f=>rw[c]at b;simpa using b
theorem aGe(l:List It)(k:Nat)(v:Ky):li (xO l k v)=li l:=by
 unfold xO;have b:li (l.take k)+li (l.drop k)=li l:=by rw[<- iB,bL]
 cases c:l.drop k with
 | nil=>rw[c]at b;simpa using b
 | cons d f=>rw[c]at b;simpa using b
theorem bX(l:List It){k:Nat}(x:It)(h:k<=li l):li (xI l k x)=li l+1:=by unfold xI;rw[iB,bD,pB,vB];omega
theorem aBK(l:List It){k:Nat}(h:k<li l):li (dH l k)=li l-1:=by unfold dH;rw[iB,pB,vB];omega
theorem aRb(c:CD)(k:Nat)(n:Nd):(c.lay k n).1.pg=c.pg/\(c.lay k n).1.n=c.n:=by
 unfold CD.lay;have b:c.alloc.1.pg=c.pg:=by
  unfold CD.alloc;split;·rfl
  split;·rfl
  unfold CD.full;split<;>rfl
 split;·exact⟨rfl,rfl⟩
 exact⟨b,aCP c⟩
theorem aBL{c c':CD}{k:Nat}{n:Nd}{u:Ky×Nat}(h:(c',u)=c.lay k n):c'.pg=c.pg/\c'.n=c.n:=by have b:c'=(c.lay k n).1:=congrArg Prod.fst h;rw[b];exact aRb c k n
theorem aMm.same:∀ {f:Nat} {c:CD} {k:Nat} {x:It} {c':CD} {u:Ky×Nat},aMm f c k x c' u->c'.pg=c.pg/\c'.n=c.n
 | 0,_,_,_,_,_,b=>b.elim
 | f+1,c,k,x,c',u,⟨n,_,_,_,b⟩=>by
  obtain⟨_,_,b⟩|⟨_,h,u1,g,b⟩:=b;·exact aBL b
  obtain⟨a,d⟩:=aMm.same g;obtain⟨_,rfl,_⟩|⟨_,_,b⟩:=b;·exact⟨a,d⟩
  exact⟨(aBL b).1.trans a,(aBL b).2.trans d⟩
theorem aJP.same{c:CD}{k:Nat}{n:Nd}{i:Nat}{c':CD}{j:Ky×Nat}(h:aJP c k n i c' j):c'.pg=c.pg/\c'.n=c.n:=by
 obtain⟨a,f,g,l,_,_,_,_,_,_,h⟩:=h;obtain⟨_,_,h⟩|⟨_,_,_,h⟩:=h;·obtain⟨b,d⟩:=aBL h;exact⟨b,d⟩
 obtain⟨b,d⟩:=aBL h;exact⟨b,d⟩
theorem aNF.same{c:CD}{k:Nat}{n:Nd}{i:Nat}{u:Ky×Nat}{c':CD}{b:Ky×Nat}(h:aNF c k n i u c' b):c'.pg=c.pg/\c'.n=c.n:=by
 obtain⟨_,_,_,h⟩:=h;obtain⟨_,_,h⟩|⟨_,d,_,h⟩:=h;·exact aBL h
 obtain⟨_,h,_⟩|⟨_,_,_,h⟩:=h;·rw[h];exact⟨rfl,rfl⟩
 exact h.same
theorem aMn.same:∀ {f:Nat} {c:CD} {k:Nat} {key:Ky} {c':CD} {g:Bool} {u:Ky×Nat},aMn f c k key c' g u->c'.pg=c.pg/\c'.n=c.n
 | 0,_,_,_,_,_,_,b=>b.elim
 | f+1,c,k,key,c',g,u,⟨n,_,_,_,b⟩=>by
  obtain⟨_,_,_,b⟩|⟨_,j,l,u1,h,b⟩:=b
  ·obtain⟨_,b,_⟩|⟨_,b⟩:=b
   ·rw[b];exact⟨rfl,rfl⟩
   rw[b];exact⟨rfl,rfl⟩
  obtain⟨a,d⟩:=aMn.same h;obtain⟨_,_,b,_⟩|⟨_,_,b⟩:=b;·rw[b];exact⟨a,d⟩
  obtain⟨h,i⟩:=b.same;exact⟨h.trans a,i.trans d⟩
section
variable {w0 wS w:World}{dk g:Nat}{s:PS}{X D:Nat->Prop}{c:CD}
theorem PgC.to{c':CD}(h:PgC w0 wS dk g s X c)(b:c'.pg=c.pg/\c'.n=c.n):PgC w0 wS dk g s X c':=⟨h.px,h.br,h.calm,b.1.trans h.pg,b.2.trans h.n⟩
theorem cG.setV{y:It}{kv vv av:Value}:∀ {l:List It} {cs:List Value} {k:Nat} {v:List UInt8},cG D w l cs->l[k]? = some y->(∃g,dA w vv v g/\D g)->cG D w (Go.Proofs.YtebjhcjbfaaejaaGreatDoor.setV l k v) (cs.set (k*3+1) vv)
 | z::l,a::b::d::cs,0,v,h,hk,hv=>by have e:Go.Proofs.YtebjhcjbfaaejaaGreatDoor.setV (z::l) 0 v={ z with v:=v }::l:=rfl;rw[e];exact⟨⟨h.1.1,hv,h.1.2.2⟩,h.2⟩
 | z::l,a::b::d::cs,k+1,v,h,hk,hv=>by have c:=cG.setV (kv:=kv) (av:=av) (k:=k) (v:=v) h.2 (by simpa using hk) hv;have e:Go.Proofs.YtebjhcjbfaaejaaGreatDoor.setV (z::l) (k+1) v=z::Go.Proofs.YtebjhcjbfaaejaaGreatDoor.setV l k v:=rfl;rw[e,show(k+1)*3+1=k*3+1+1+1+1 by omega];exact⟨h.1,c⟩
 | [],[],_,_,_,hk,_=>by simp at hk
 | [],_::_,_,_,h,_,_=>h.elim
 | _::_,[],_,_,h,_,_=>h.elim
 | _::_,[_],_,_,h,_,_=>h.elim
 | _::_,[_,_],_,_,h,_,_=>h.elim
theorem cG.setK{y:It}{kv vv av:Value}:∀ {l:List It} {cs:List Value} {k:Nat} {v:Ky},cG D w l cs->l[k]? = some y->(∃g,dA w kv v g/\D g)->cG D w (xO l k v) (cs.set (k*3) kv)
 | z::l,a::b::d::cs,0,v,h,hk,hv=>by have e:xO (z::l) 0 v={ z with key:=v }::l:=rfl;rw[e];exact⟨⟨hv,h.1.2.1,h.1.2.2⟩,h.2⟩
 | z::l,a::b::d::cs,k+1,v,h,hk,hv=>by have c:=cG.setK (vv:=vv) (av:=av) (k:=k) (v:=v) h.2 (by simpa using hk) hv;have e:xO (z::l) (k+1) v=z::xO l k v:=rfl;rw[e,show(k+1)*3=k*3+1+1+1 by omega];exact⟨h.1,c⟩
 | [],[],_,_,_,hk,_=>by simp at hk
 | [],_::_,_,_,h,_,_=>h.elim
 | _::_,[],_,_,h,_,_=>h.elim
 | _::_,[_],_,_,h,_,_=>h.elim
 | _::_,[_,_],_,_,h,_,_=>h.elim
structure aRc (D:Nat->Prop) (w:World) (base:Nat) (A:Option Addr) (ca:Nat) (n:Nd) (cs:List Value):Prop where
 own:w.ownsRow base 198 3 (.slice A n.l.length ca) n.l.length cs
 its:cG (fun q=>D q/\(Value.slice A n.l.length ca).ownBlock≠some q) w n.l cs
 dom:∀q,(Value.slice A n.l.length ca).ownBlock=some q->D q
 cap:n.l.length<=ca
theorem NdV.open_{v:Value}{n:Nd}(h:NdV D w i v n):∃A ca cs,v=il #[fA n,n.first,si A (li n.l) ca]/\aRc D w i A ca n cs:=by obtain⟨j,cs,rfl,b,c,d⟩:=h;obtain⟨A,f,rfl,g,_⟩:=jA b;exact⟨A,f,cs,rfl,b,c,d,g⟩
section
variable {base ca:Nat}{A:Option Addr}{n:Nd}{cs:List Value}
theorem aRc.ge(h:aRc D w base A ca n cs):∀q,(si A (li n.l) ca).ownBlock=some q->base<=q/\q<w:=λq b=>⟨by have:=(h.own.lt q b).1;omega,aG h.own q b⟩
end
end
abbrev LB:=Nat × TypeId × List Value
structure NP where
 A:Option Addr
 ca:Nat
 n:Nd
 cs:List Value
def NP.sv (p:NP):Value:=.slice p.A p.n.l.length p.ca
def NP.v (p:NP):Value:=.agg #[.int .i64 (fA p.n),.int .i64 (p.n.first:Int),p.sv]
def Off (D:Nat->Prop) (L:List LB) (N:List NP):Nat->Prop:=fun q=>D q/\(∀l∈L,q≠l.1)/\∀p∈N,p.sv.ownBlock≠some q
inductive Kq where
 | by_ (v:Value) (bs:List UInt8)
 | nd (v:Value) (n:Nd)
def Kq.ok (D:Nat->Prop) (w:World):Kq->Prop
 | .by_ v bs=>∃q,dA w v bs q/\D q
 | .nd v n=>NdV D w 0 v n
theorem Kq.ok.weak{D D':Nat->Prop}{w:World}{k:Kq}(h:k.ok D w)(c:∀q,D q->D' q):k.ok D' w:=by
 cases k with
 | by_ v bs=>exact Exists.imp (λq b=>⟨b.1,c q b.2⟩) h
 | nd v n=>exact NdV.weak h c
theorem Kq.ok.re{D D':Nat->Prop}{w:World}{k:Kq}(h:k.ok D w)(b:∀q,D q->q<w.heap.size->D' q)(h0:∃q,D' q/\w<=q):k.ok D' w:=by
 cases k with
 | by_ v bs=>exact dA.re h b (h0.imp λq c=>c.1)
 | nd v n=>exact NdV.re h b h0
theorem Kq.ok.fr{D:Nat->Prop}{S:List Nat}{w w':World}{k:Kq}(h:k.ok D w)(b:Fr S w w')(c:∀q,D q->q∈S->w<=q:=by simp):k.ok D w':=by
 cases k with
 | by_ v bs=>exact Exists.imp (λq d=>⟨d.1.frD b (c q d.2),d.2⟩) h
 | nd v n=>exact NdV.fr h b c
structure Sx (wS w:World) (g bc bn bs:Nat) (D:Nat->Prop) (L:List LB) (N:List NP) (K:List Kq) (c:CD) (w':World):Prop where
 fr:Fr [bc,bn,bs] w w'
 ch:jF wS w' g bc bn bs (Off D L N) c
 loc:∀l∈L,Blk w' l.1 l.2.1 l.2.2/\w.heap.size<=l.1
 lap:(L.map fun l=>l.1).Nodup
 row:∀p∈N,w'.ownsRow w.heap.size 198 3 p.sv p.n.l.length p.cs
 its:∀p∈N,cG (Off D L N) w' p.n.l p.cs
 nap:N.Pairwise fun p p'=>∀q,p.sv.ownBlock=some q->p'.sv.ownBlock≠some q
 rl:∀p∈N,∀l∈L,p.sv.ownBlock≠some l.1
 ks:∀k∈K,k.ok (Off D L N) w'
 hD:∀q,w.heap.size<=q->D q
 dom:∀q,D q->q≠bc/\q≠bn/\q≠bs
 low:bc<w.heap.size/\bn<w.heap.size/\bs<w.heap.size/\wS.heap.size<=w.heap.size
theorem Off.mono{D:Nat->Prop}{L L':List LB}{N N':List NP}(b:∀l∈L',l∈L)(c:∀p∈N',p∈N):∀q,Off D L N q->Off D L' N' q:=λ_ d=>⟨d.1,λl f=>d.2.1 l (b l f),λp f=>d.2.2 p (c p f)⟩
theorem Off.d{D:Nat->Prop}{L:List LB}{N:List NP}:∀q,Off D L N q->D q:=λ_ b=>b.1
section
variable {wS w w1 w2:World}{g bc bn bs:Nat}{D:Nat->Prop}{L L':List LB}{N N':List NP}{K K':List Kq}{c c':CD}
theorem Sx.start(h:jF wS w g bc bn bs D c)(d:∀q,w.heap.size<=q->D q):Sx wS w g bc bn bs D [] [] [] c w:=by have:=h.lts;exact⟨jj _ _,h.weak (λq b=>⟨b,λ_ h=>by simp at h,λ_ h=>by simp at h⟩) λq b=>h.dom q b.1,λ_ h=>by simp at h,List.nodup_nil,λ_ h=>by simp at h,λ_ h=>by simp at h,List.Pairwise.nil,λ_ h=>by simp at h,λ_ h=>by simp at h,d,h.dom,this.1,this.2.1,this.2.2,h.fr.size⟩
theorem Sx.less(h:Sx wS w g bc bn bs D L N K c w1)(f:L'.Sublist L)(b:N'.Sublist N)(hK:∀k∈K',k∈K):Sx wS w g bc bn bs D L' N' K' c w1:=by have m:=Off.mono (D:=D) (λl j=>f.mem j) (λi d=>b.mem d);exact⟨h.fr,h.ch.weak m λn o=>h.dom n o.1,λl j=>h.loc l (f.mem j),h.lap.sublist (f.map _),λi d=>h.row i (b.mem d),λi d=>(h.its i (b.mem d)).weak m,h.nap.sublist b,λi d l j=>h.rl i (b.mem d) l (f.mem j),λk d=>(h.ks k (hK k d)).weak m,h.hD,h.dom,h.low⟩
theorem Sx.own(h:Sx wS w g bc bn bs D L N K c w1){p:NP}(b:p∈N):∀q,p.sv.ownBlock=some q->w<=q/\q<w1:=λq d=>⟨((h.row p b).lt q d).1,aG (h.row p b) q d⟩
theorem Sx.offD(h:Sx wS w g bc bn bs D L N K c w1):∀q,w1.heap.size<=q->Off D L N q:=λq f=>⟨h.hD q (by have:=h.fr.size;omega),λb d e=>by have:=(h.loc b d).1.lt;omega,λd b e=>by have:=(h.own b q e).2;omega⟩
theorem Sx.new(h:Sx wS w g bc bn bs D L N K c w1)(m:Fr [] w1 w2)(l:∀b∈L',Blk w2 b.1 b.2.1 b.2.2/\w1<=b.1)(y:(L'.map λb=>b.1).Nodup):Sx wS w g bc bn bs D (L'++L) N K c w2:=by
 have u:=m.size;have v:=h.fr.size;have o:∀f,Off D L N f->f<w1.heap.size->Off D (L'++L) N f:=λf n i=>⟨n.1,λb j=>by
  obtain d|d:=sD.1 j;·have:=(l b d).2;omega
  exact n.2.1 b d,n.2.2⟩
 have r:∃f,Off D (L'++L) N f/\w2<=f:=⟨w2,⟨h.hD _ (by omega),λb i e=>by
  obtain d|d:=sD.1 i;·have:=(l b d).1.lt;omega
  have:=(h.loc b d).1.lt;omega,λk j e=>by have:=(h.own j _ e).2;omega⟩,tA _⟩
 obtain⟨p,q,x⟩:=r;refine⟨h.fr.trans m,(h.ch.re o ⟨p,q,by omega⟩ λf n=>h.dom f n.1).frame m,λb i=>?_,?_,λk j=>fB (h.row k j) m (by simp),λk j=>((h.its k j).re o ⟨p,q⟩).fr m,h.nap,λk j b i e=>?_,λr s=>?_,h.hD,h.dom,h.low⟩
 ·obtain d|d:=sD.1 i
  ·exact⟨(l b d).1,by have:=(l b d).2;omega⟩
  exact⟨(h.loc b d).1.fr m,(h.loc b d).2⟩
 ·rw[tQ];refine List.nodup_append.2 ⟨y,h.lap,λa f z t e=>?_⟩;obtain⟨b,i,rfl⟩:=kI.1 f;obtain⟨f,n,rfl⟩:=kI.1 t;have:=(l b i).2;have:=(h.loc f n).1.lt;omega
 ·obtain d|d:=sD.1 i
  ·have:=(l b d).2;have:=(h.own j _ e).2;omega
  exact h.rl k j b d e
 exact((h.ks r s).re o ⟨p,q,by omega⟩).fr m
theorem Sx.new1(h:Sx wS w g bc bn bs D L N K c w1)(b:Fr [] w1 w2){p:Nat}{t:TypeId}{cs:List Value}(f:Blk w2 p t cs)(i:w1<=p):Sx wS w g bc bn bs D ((p,t,cs)::L) N K c w2:=h.new (L':=[(p,t,cs)]) b (λj d=>by obtain rfl:=xA.1 d;exact⟨f,i⟩) (by simp)
theorem Sx.quiet(h:Sx wS w g bc bn bs D L N K c w1)(b:Fr [] w1 w2):Sx wS w g bc bn bs D L N K c w2:=h.new (L':=[]) b (by simp) (by simp)
theorem Sx.node(h:Sx wS w g bc bn bs D L N K c w1)(r:Fr [] w1 w2){n:Nd}{b:Nat}(B:w1<=b)(x:NdV (Off D L N) w2 b u n): ∃A ca cs,u=il #[fA n,n.first,si A (li n.l) ca]/\li n.l<=ca/\Sx wS w g bc bn bs D L (⟨A,ca,n,cs⟩::N) K c w2:=by
 obtain⟨A,ca,cs,rfl,o⟩:=x.open_;refine⟨A,ca,cs,rfl,o.cap,?_⟩;have y:=r.size;have z:=h.fr.size;have m:∀f,(si A (li n.l) ca).ownBlock=some f->w1<=f/\f<w2:=λf i=>by have:=o.ge f i;omega
 have p:∀f,Off D L N f->f<w1.heap.size->Off D L (⟨A,ca,n,cs⟩::N) f:=λf i k=>⟨i.1,i.2.1,λj d=>by
  obtain rfl|d:=bB.1 d;·exact λe=>by have:=(m f e).1;omega
  exact i.2.2 j d⟩
 have t:∃f,Off D L (⟨A,ca,n,cs⟩::N) f/\w2<=f:=⟨w2,⟨h.hD _ (by omega),λl k e=>by have:=(h.loc l k).1.lt;omega,λj d e=>by
  obtain rfl|d:=bB.1 d;·have:=(m _ e).2;omega
  have:=(h.own d _ e).2;omega⟩,tA _⟩
 obtain⟨q,s,C⟩:=t;refine⟨h.fr.trans r,(h.ch.re p ⟨q,s,by omega⟩ λf i=>h.dom f i.1).frame r,λl k=>⟨(h.loc l k).1.fr r,(h.loc l k).2⟩,h.lap,λj d=>?_,λj d=>?_,?_,λj d l k e=>?_,λt v=>?_,h.hD,h.dom,h.low⟩
 ·obtain rfl|d:=bB.1 d
  ·exact kD o.own λf i=>by have:=(m f i).1;omega
  exact fB (h.row j d) r (by simp)
 ·obtain rfl|d:=bB.1 d
  ·exact o.its.weak λf i=>⟨i.1.1,i.1.2.1,λj d=>by
    obtain rfl|d:=bB.1 d;·exact i.2
    exact i.1.2.2 j d⟩
  exact((h.its j d).re p ⟨q,s⟩).fr r
 ·refine lF.2 ⟨λj d f i e=>?_,h.nap⟩;have:=(m f i).1;have:=(h.own d f e).2;omega
 ·obtain rfl|d:=bB.1 d
  ·have:=(m _ e).1;have:=(h.loc l k).1.lt;omega
  exact h.rl j d l k e
 exact((h.ks t v).re p ⟨q,s,by omega⟩).fr r
theorem Sx.kp(h:Sx wS w g bc bn bs D L N K c w1){k:Kq}(f:k.ok (Off D L N) w1):Sx wS w g bc bn bs D L N (k::K) c w1:=
 ⟨h.fr,h.ch,h.loc,h.lap,h.row,h.its,h.nap,h.rl,λk b=>by
  obtain rfl|b:=bB.1 b;·exact f
  exact h.ks k b,h.hD,h.dom,h.low⟩
theorem Sx.key(h:Sx wS w g bc bn bs D L N K c w1){v:Value}{b:List UInt8}(f:∃q,dA w1 v b q/\Off D L N q):Sx wS w g bc bn bs D L N (.by_ v b::K) c w1:=h.kp (k:=.by_ v b) f
theorem Sx.nd(h:Sx wS w g bc bn bs D L N K c w1){v:Value}{n:Nd}{b:Nat}(f:NdV (Off D L N) w1 b v n):Sx wS w g bc bn bs D L N (.nd v n::K) c w1:=h.kp (k:=.nd v n) (f.low (uB _))
theorem Sx.kb(h:Sx wS w g bc bn bs D L N K c w1){v:Value}{b:List UInt8}(f:Kq.by_ v b∈K):∃q,dA w1 v b q/\Off D L N q:=h.ks _ f
theorem Sx.kn(h:Sx wS w g bc bn bs D L N K c w1){v:Value}{n:Nd}(b:Kq.nd v n∈K):NdV (Off D L N) w1 0 v n:=h.ks _ b
theorem Sx.nil_key(h:Sx wS w g bc bn bs D L N K c w1):∃q,dA w1 (si none 0 0) [] q/\Off D L N q:=⟨w1,dA.nil _ _,h.offD _ (tA _)⟩
theorem Sx.give0{p:NP}(h:Sx wS w g bc bn bs D L (p::N) K c w1):jF wS w1 g bc bn bs (Off D L N) c/\NdV (Off D L N) w1 w.heap.size p.v p.n/\∀q,w1.heap.size<=q->Off D L N q:=by
 refine⟨h.ch.weak (Off.mono (λ_ h=>h) λp b=>jD _ b) λq b=>h.dom q b.1,⟨p.sv,p.cs,rfl,h.row p (eC ..),(h.its p (eC ..)).weak λq b=>⟨⟨b.1,b.2.1,λd f=>b.2.2 d (jD _ f)⟩,b.2.2 p (eC ..)⟩,λq b=>?_⟩,?_⟩;·exact⟨h.hD q (h.own (eC ..) q b).1,λi j e=>h.rl p (eC ..) i j (by rw[<- e];exact b),λd f=>(lF.1 h.nap).1 d f q b⟩
 exact(h.less (N':=N) (oC _) (List.sublist_cons_self ..) λ_ h=>h).offD
theorem Sx.give{A:Option Addr}{b:Nat}{n:Nd}{cs:List Value}(h:Sx wS w g bc bn bs D L (⟨A,b,n,cs⟩::N) K c w1):jF wS w1 g bc bn bs (Off D L N) c/\NdV (Off D L N) w1 w.heap.size (il #[fA n,n.first,si A (li n.l) b]) n/\∀q,w1.heap.size<=q->Off D L N q:=h.give0
theorem Sx.bytes(h:Sx wS w g bc bn bs D L N K c w1){A:Option Addr}{f:Nat}{n:Nd}{cs:List Value}(b:(⟨A,f,n,cs⟩:NP)∈N):NdV (λd=>D d) w1 w (il #[fA n,n.first,si A (li n.l) f]) n:=⟨si A (li n.l) f,cs,rfl,h.row _ b,(h.its _ b).weak λ_q f=>⟨f.1,f.2.2 _ b⟩,λd f=>h.hD d (h.own b d f).1⟩
theorem Sx.row'(h:Sx wS w g bc bn bs D L N K c w1){A:Option Addr}{d:Nat}{n:Nd}{cs:List Value}(b:(⟨A,d,n,cs⟩:NP)∈N):w1.ownsRow w 198 3 (si A (li n.l) d) (li n.l) cs:=h.row _ b
theorem Sx.its'(h:Sx wS w g bc bn bs D L N K c w1){A:Option Addr}{d:Nat}{n:Nd}{cs:List Value}(b:(⟨A,d,n,cs⟩:NP)∈N):cG (Off D L N) w1 n.l cs:=h.its _ b
theorem Sx.own'(h:Sx wS w g bc bn bs D L N K c w1){A:Option Addr}{d:Nat}{n:Nd}{cs:List Value}(b:(⟨A,d,n,cs⟩:NP)∈N):∀q,(si A (li n.l) d).ownBlock=some q->w<=q/\q<w1:=h.own b
theorem Sx.call(h:Sx wS w g bc bn bs D L N K c w1){S:List Nat}(j:Fr S w1 w2)(s:∀q∈S,q=bc∨q=bn∨q=bs)(x:jF wS w2 g bc bn bs (Off D L N) c'):Sx wS w g bc bn bs D L N K c' w2:=by
 have l:=h.low;have i:∀q,Off D L N q->q∈S->w1.heap.size<=q:=λq b d=>by have:=h.dom q b.1;have:=s q d;omega
 have k:∀q,w.heap.size<=q->q∉S:=λq b d=>by have:=s q d;omega
 exact⟨h.fr.trans j λq b=>Ii (by have:=s q b;simp;omega),x,λd f=>⟨(h.loc d f).1.fr j (k _ (h.loc d f).2),(h.loc d f).2⟩,h.lap,λf d=>fB (h.row f d) j λq b=>k q (h.own d q b).1,λf d=>(h.its f d).fr j i,h.nap,h.rl,λb d=>(h.ks b d).fr j i,h.hD,h.dom,h.low⟩
theorem Sx.set_{l:LB}(h:Sx wS w g bc bn bs D (l::L) N K c w1){cs:List Value}(i:Fr [l.1] w1 w2)(s:Blk w2 l.1 l.2.1 cs):Sx wS w g bc bn bs D ((l.1,l.2.1,cs)::L) N K c w2:=by
 have u:=h.low;have q:=(h.loc l (eC ..)).2;have o:∀f,Off D (l::L) N f->Off D ((l.1,l.2.1,cs)::L) N f:=λf b=>⟨b.1,λj d=>by
  obtain rfl|d:=bB.1 d;·exact b.2.1 l (eC ..)
  exact b.2.1 j (jD _ d),b.2.2⟩
 have p:∀f,Off D (l::L) N f->f∈[l.1]->w1<=f:=λf b n=>absurd (xA.1 n) (b.2.1 l (eC ..));have r:=List.nodup_cons.1 h.lap;refine⟨h.fr.trans i λf b=>Ij (by have:=xA.1 b;omega),(h.ch.frS i λf b=>Ij ?_).weak o λf b=>h.dom f b.1,λj d=>?_,h.lap,λk m=>fB (h.row k m) i λf b n=>h.rl k m l (eC ..) (by rw[<- xA.1 n];exact b),λk m=>((h.its k m).fr i p).weak o,h.nap,λk m j d=>?_,λf t=>((h.ks f t).fr i p).weak o,h.hD,h.dom,h.low⟩;·have:=xA.1 b;exact⟨by omega,λb=>b.2.1 l (eC ..) this,by omega⟩
 ·obtain rfl|d:=bB.1 d
  ·exact⟨s,q⟩
  refine⟨(h.loc j (jD _ d)).1.fr i λn=>r.1 ?_,(h.loc j (jD _ d)).2⟩;exact kI.2 ⟨j,d,xA.1 n⟩
 obtain rfl|d:=bB.1 d;·exact h.rl k m l (eC ..)
 exact h.rl k m j (jD _ d)
theorem Sx.perm(h:Sx wS w g bc bn bs D L N K c w1)(f:L'.Perm L):Sx wS w g bc bn bs D L' N K c w1:=by have j:∀i,Off D L N i->Off D L' N i:=Off.mono (λd b=>f.mem_iff.1 b) λ_ h=>h;exact⟨h.fr,h.ch.weak j λi k=>h.dom i k.1,λd b=>h.loc d (f.mem_iff.1 b),(f.map _).nodup_iff.2 h.lap,h.row,λi f=>(h.its i f).weak j,h.nap,λi k d b=>h.rl i k d (f.mem_iff.1 b),λb d=>(h.ks b d).weak j,h.hD,h.dom,h.low⟩
theorem Sx.rows{p p':NP}(h:Sx wS w g bc bn bs D L (p::N) K c w1)(t:Fr p.sv.ownBlock.toList w1 w2)(f:∀q,p'.sv.ownBlock=some q->p.sv.ownBlock=some q∨w1<=q) (u:w2.ownsRow w 198 3 p'.sv (li p'.n.l) p'.cs)(hi:cG (Off D L (p::N)) w1 p'.n.l p'.cs):Sx wS w g bc bn bs D L (p'::N) K c w2:=by
 have C:=h.low;have z:=t.size;have E:=h.fr.size;have x:=h.own (eC ..);have m:∀q,q∈p.sv.ownBlock.toList->p.sv.ownBlock=some q:=λq d=>by simpa using d
 have F:∀q,Off D L (p::N) q->q∈p.sv.ownBlock.toList->w1<=q:=λq f d=>absurd (m q d) (f.2.2 p (eC ..));have r:∀q,Off D L (p::N) q->q<w1.heap.size->Off D L (p::p'::N) q:=λq o j=>⟨o.1,o.2.1,λi b=>by
  obtain rfl|b:=bB.1 b;·exact o.2.2 _ (eC ..)
  obtain rfl|b:=bB.1 b
  ·intro e;obtain k|k:=f q e
   ·exact o.2.2 p (eC ..) k
   omega
  exact o.2.2 i (jD _ b)⟩
 have v:=aG u;have s:Off D L (p::p'::N) w2:=⟨h.hD _ (by omega),λl j e=>by have:=(h.loc l j).1.lt;omega,λi b e=>by
  obtain rfl|b:=bB.1 b;·have:=(x _ e).2;omega
  obtain rfl|b:=bB.1 b;·have:=v _ e;omega
  have:=(h.own (jD _ b) _ e).2;omega⟩
 have v:∀q,Off D L (p::p'::N) q->Off D L (p'::N) q:=λq f=>⟨f.1,f.2.1,λi b=>f.2.2 i (jD _ b)⟩;have y:∀q,Off D L (p::p'::N) q->q∈p.sv.ownBlock.toList->w1<=q:=λq f d=>absurd (m q d) (f.2.2 p (eC ..));refine⟨h.fr.trans t λq d=>Ij (x q (m q d)).1,((h.ch.re r ⟨w2,s,z⟩ λq f=>h.dom q f.1).frS t λq d=>Ij ?_).weak v λq f=>h.dom q f.1,λl j=>⟨(h.loc l j).1.fr t λd=>h.rl p (eC ..) l j (m _ d),(h.loc l j).2⟩,h.lap,λi b=>?_,λi b=>?_,?_,λi b l j e=>?_,λA B=>?_,h.hD,h.dom,h.low⟩;·have k:=x q (m q d);exact⟨by omega,λo=>o.2.2 p (eC ..) (m q d),by omega⟩
 ·obtain rfl|b:=bB.1 b
  ·exact u
  exact fB (h.row i (jD _ b)) t λq f d=>(lF.1 h.nap).1 i b q (m q d) f
 ·obtain rfl|b:=bB.1 b
  ·exact((hi.re r ⟨_,s⟩).fr t y).weak v
  exact(((h.its i (jD _ b)).re r ⟨_,s⟩).fr t y).weak v
 ·refine lF.2 ⟨λi b q d e=>?_,(lF.1 h.nap).2⟩;obtain k|k:=f q d
  ·exact(lF.1 h.nap).1 i b q k e
  have:=(h.own (jD _ b) q e).2;omega
 ·obtain rfl|b:=bB.1 b
  ·obtain k|k:=f _ e
   ·exact h.rl p (eC ..) l j k
   have:=(h.loc l j).1.lt;omega
  exact h.rl i (jD _ b) l j e
 exact(((h.ks A B).re r ⟨_,s,z⟩).fr t y).weak v
theorem Sx.ins{A:Option Addr}{d:Nat}{n:Nd}{cs:List Value}(h:Sx wS w g bc bn bs D L (⟨A,d,n,cs⟩::N) K c w1){i:Nat}(hi:i<=li n.l){x:It}{kv vv av:Value}(s:∃q,dA w1 kv x.key q/\Off D L (⟨A,d,n,cs⟩::N) q)(t:∃q,dA w1 vv x.v q/\Off D L (⟨A,d,n,cs⟩::N) q)(m:av=ii ip (x.at_:Int)) (k:w2.ownsRow w 198 3 u (li n.l+1) (cs.take (3*i)++([kv,vv,av]++cs.drop (3*i))))(y:Fr (si A (li n.l) d).ownBlock.toList w1 w2) (z:∀q,u.ownBlock=some q->(si A (li n.l) d).ownBlock=some q∨w1<=q): ∃f b,u=si f (li n.l+1) b/\Sx wS w g bc bn bs D L (⟨f,b,{ n with l:=xI n.l i x },cs.take (3*i)++([kv,vv,av]++cs.drop (3*i))⟩::N) K c w2:=by
 obtain⟨f,b,rfl,o,_⟩:=jA k;have j:li (xI n.l i x)=li n.l+1:=bX _ _ hi;refine⟨f,b,rfl,h.rows (p':=⟨f,b,{ n with l:=xI n.l i x },_⟩) y (λq d=>z q ?_) ?_ ?_⟩;·unfold NP.sv at d;simp only at d;rw[j]at d;exact d
 ·show w2.ownsRow w _ 3 (si f (li (xI n.l i x)) b) (li (xI n.l i x)) _;rw[j];exact k
 obtain⟨d,j⟩:=(h.its _ (eC ..)).take i;exact d.append (show cG _ _ (x::n.l.drop i) (kv::vv::av::cs.drop (3*i)) from⟨⟨s,t,m⟩,j⟩)
theorem Sx.del{A:Option Addr}{d:Nat}{n:Nd}{cs:List Value}(h:Sx wS w g bc bn bs D L (⟨A,d,n,cs⟩::N) K c w1){i:Nat}(hi:i<li n.l) (p:w2.ownsRow w.heap.size 198 3 u (li n.l-1) (cs.take (3*i)++cs.drop (3*i+3)))(s:u.ownBlock=(si A (li n.l) d).ownBlock)(t:Fr (si A (li n.l) d).ownBlock.toList w1 w2): ∃j b,u=si j (li n.l-1) b/\Sx wS w g bc bn bs D L (⟨j,b,{ n with l:=dH n.l i },cs.take (3*i)++cs.drop (3*i+3)⟩::N) K c w2:=by
 obtain⟨j,b,rfl,k,_⟩:=jA p;have f:li (dH n.l i)=li n.l-1:=aBK _ hi;refine⟨j,b,rfl,h.rows (p':=⟨j,b,{ n with l:=dH n.l i },_⟩) t (λm d=>Ii ?_) ?_ ?_⟩;·unfold NP.sv at d;simp only at d;rw[f,s]at d;exact d
 ·show w2.ownsRow w.heap.size _ 3 (si j (li (dH n.l i)) b) (li (dH n.l i)) _;rw[f];exact p
 have f:=((h.its _ (eC ..)).take i).1;have d:=((h.its _ (eC ..)).take (i+1)).2;rw[show 3*(i+1)=3*i+3 by omega]at d;exact f.append d
theorem Sx.cell{q b:Nat}{n:Nd}{cs:List Value}(h:Sx wS w g bc bn bs D L (⟨some ⟨q,0,none⟩,b,n,cs⟩::N) K c w1){j:Nat}{u:Value}{l':List It}(f:li l'=li n.l)(hi:cG (Off D L (⟨some ⟨q,0,none⟩,b,n,cs⟩::N)) w1 l' (cs.set j u)): Sx wS w g bc bn bs D L (⟨some ⟨q,0,none⟩,b,{ n with l:=l' },cs.set j u⟩::N) K c (w1.setCell ⟨q,j,none⟩ u):=by have d:w1.ownsRow w 198 3 (si q (li n.l) b) (li n.l) cs:=h.row _ (eC ..);refine h.rows (p:=⟨some ⟨q,0,none⟩,b,n,cs⟩) (p':=⟨some ⟨q,0,none⟩,b,{ n with l:=l' },cs.set j u⟩) ((jj _ w1).setCell (Ii (show q∈[q] by simp)) _) (λk i=>Ii i) ?_ hi;show World.ownsRow _ _ _ 3 (si _ (li l') b) (li l') _;rw[f];exact(d.stored j u).1
theorem UpV.open_{v:Value}{u:Ky×Nat}(h:UpV D w v u):∃A ca,v=il #[si A (li u.1) ca,ii ip ((u.2:Nat):Int)]/\∃q,dA w (si A (li u.1) ca) u.1 q/\D q:=by obtain⟨d,rfl,q,b,c⟩:=h;obtain⟨A,ca,f,rfl,_⟩:=id b;exact⟨A,ca,rfl,q,b,c⟩
theorem Sx.fin(h:Sx wS w g bc bn bs D L N K c w1):jF wS w1 g bc bn bs D c/\Fr [bc,bn,bs] w w1:=⟨h.ch.weak Off.d h.dom,h.fr⟩
theorem Sx.upv{A:Option Addr}{b:Nat}{u:Ky×Nat}(h:Sx wS w g bc bn bs D L N (.by_ (si A (li u.1) b) u.1::K) c w1):UpV D w1 (il #[si A (li u.1) b,ii ip ((u.2:Nat):Int)]) u/\jF wS w1 g bc bn bs D c/\Fr [bc,bn,bs] w w1:=⟨⟨_,rfl,(h.kb (eC ..)).imp λ_q b=>⟨b.1,b.2.1⟩⟩,h.fin⟩
theorem Sx.upv0(h:Sx wS w g bc bn bs D L N K c w1):UpV D w1 (il #[si none 0 0,ii ip 0]) ([],0)/\jF wS w1 g bc bn bs D c/\Fr [bc,bn,bs] w w1:=⟨⟨_,rfl,w1,dA.nil _ _,h.hD _ h.fr.size⟩,h.fin⟩
theorem Sx.node_r(h:Sx wS w g bc bn bs D L N K c w1)(i:Fr [] w1 w2){n:Nd}{b:Nat}(f:NdV (Off D L N) w2 b u n): ∃A ca,u=il #[fA n,n.first,si A (li n.l) ca]/\Sx wS w g bc bn bs D L N (.nd (il #[fA n,n.first,si A (li n.l) ca]) n::K) c w2:=by obtain⟨A,ca,d,rfl,_⟩:=f.open_;exact⟨A,ca,rfl,(h.quiet i).nd f⟩
end
end
end Go.Proofs.YtebjhcjbfaaejaaGreatDoor
