/-
  Joined: Ok Ol Om On Op Oq
-/
import Derived.Test.YtebjhcjbfaaejaaGreatDoorJca13
set_option maxRecDepth 100000
set_option maxHeartbeats 32000000
namespace Go.Proofs.YtebjhcjbfaaejaaGreatDoor
open Go.Proofs.Tryz
variable {α:Type}
section
open Go.RowKit Go.Sort Go.Shelf
structure WSt (w0 wc:World) (H:Nat) (vb:Value) (bb:List UInt8) (wx:Nat) (X:List Value):Prop where
 buf:Buf wc H vb bb
 blk:Blk wc wx 198 X
 ne:vb.ownBlock≠some wx
 fr:Fr [] w0 wc
 hz:w0.heap.size=H
section
variable {w0 wc w' : World} {H wx : Nat} {vb v' : Value} {bb b' : List UInt8} {X : List Value}
theorem WSt.hH(h:WSt w0 wc H vb bb wx X):H<=wc.heap.size:=by have:=h.fr.size;have:=h.hz;omega
theorem WSt.frame(h:WSt w0 wc H vb bb wx X)(b:Fr [] wc w'):WSt w0 w' H vb bb wx X:=⟨h.buf.fr b,h.blk.fr b,h.ne,h.fr.trans b,h.hz⟩
theorem WSt.app(h:WSt w0 wc H vb bb wx X)(b:App wc H vb b' w' v'):WSt w0 w' H v' b' wx X:=⟨b.buf,h.blk.fr b.fr (fun c=>h.ne (by simpa using c)),fun e=>by
 rcases b.row _ e with h1|h1
 ·exact h.ne h1
 ·have:=h.blk.lt;omega,h.fr.trans b.fr (fun q d=>.inr (by have:=(h.buf.lt q (by simpa using d)).1;have:=h.hz;omega)),h.hz⟩
end
theorem aDu{w:World}{g H n:Nat}{e:TypeId}{cs:List Value}(h:Blk w g e cs)(b:cs.length=n)(hH:H<=g)(c:n<=1048576):w.ownsRow H e 1 (.slice (some ⟨g,0,none⟩) n n) n cs:=
 ⟨by omega,.inr ⟨g,n,cs.toArray,rfl,hH,h,tA _,by unfold maxLen;omega,by simp[b],by simp[<- b]⟩⟩
def WRel (wb:World) (n:Nd) (v3 v24:Value) (wr:World):Prop:=∃k:Nat,k<=n.l.length/\v24=.int .i64 (k:Int)/\Buf wr wb.heap.size v3 (n.head++(n.l.take k).flatMap (ib n.lf))/\Fr [] wb wr
theorem part_len(n:Nd)(k:Nat):(n.head++(n.l.take k).flatMap (ib n.lf)).length<=n.size:=by
 rw[lB,n.head_len,jE,aGw];have:=sN n.lf n.l k;unfold iE at this⊢;omega
theorem yO(b:Array Value)(w:World):(callFunc 153 b).run prog w=.ok (.enter 153 b) w:=by kernel_rfl
theorem aBH(m:Nat)(_b:m<256):IntKind.u8.wrap (m:Int)=((UInt8.ofNat m).toNat:Int):=by rw[yN,wT];omega
theorem aKt{D:Nat->Prop}{w:World}{base:Nat}{v:Value}{n:Nd}(h:NdV D w base v n)(c9:n.ok)(e5:n.size<=65536):
  Calls prog 151 #[v] w fun e w'=>∃v',e=.returned v'/\(∃g,cA w' v' n.written g/\w.heap.size<=g)/\Fr [] w w':=by
 obtain⟨A,c,cs,rfl,hc,e2,a8,a0⟩:=h.parts;clear h;obtain⟨B,a6⟩:=nm (w.alloc (.cells #[.int .i64 (dA n),.int .i64 (n.first:Int),.slice A n.l.length c] 184));have a9:Fr [] w B:=by rw[a6];exact(Fr.refl [] w).alloc _
 have hb:Blk B w.heap.size 184 [.int .i64 (dA n),.int .i64 (n.first:Int),.slice A n.l.length c]:=by rw[a6];exact Blk.new w _ [.int .i64 (dA n),.int .i64 (n.first:Int),.slice A n.l.length c]
 have c':Hid (w.heap.size<=B.heap.size):=lh a9.size;have f:=lh hb;have J:=lh a9;have HC:=lh a0;have HI:=lh a8;have a':=lh c9;have d3:=lh e5;have k0:=hb.at_ (i:=0) rfl;have k1:=hb.at_ (i:=1) rfl;have k2:=hb.at_ (i:=2) rfl;have d4:=c9.few;clear hb a9 a0 a8 e2 c9 e5;refine gA fun R HQ=>?_
 go_enter func151,ntmps151
 go_upto_region 1 with fail
 rw[<- a6];obtain⟨u,hu⟩:∃u:UInt8,u=if n.lf then 1 else 2:=⟨_,rfl⟩
 have e6:IntKind.u8.wrap (dA n)=(u.toNat:Int):=by rw[hu];unfold dA;cases n.lf<;>decide
 have HU:=lh hu;clear hu;refine fE ?_
 iterate 3 (refine rn rfl (by go_simp<;>with_reducible rfl) ?_;simp only[nrm])
 obtain⟨iu,hi,y,m,O⟩:=mE tM;refine lp fun K hK=>?_;refine rI (.tmp 8) rfl Go.Proofs.Tryz.underlying67 hi y m rfl (.int .u8 (u.toNat:Int)) rfl rfl B.heap.size rfl fun wy e4 c8 e'=>hK _ _ ?_;simp only[nrm];clear hK k0 k1 k2 e6 a6;have k2:=(f.o.fr c8).at_ (i:=2) rfl;have b0:Hid (Buf wy B.heap.size (.slice (some ⟨B.heap.size,0,none⟩) 1 1) [u]):=lh (aDu e4 rfl (tA _) (by omega));have d5:=lh c8;have HP:=lh (jG b0.o n.l.length d4 (by simp) (by omega));clear e4 c8 e' hi y m O
 iterate 3 (refine rn rfl (by go_simp<;>with_reducible rfl) ?_;simp only[nrm])
 refine lp fun K hK=>?_;refine jA (l:=[.tmp 9,.tmp 12]) rfl [.slice (some ⟨B.heap.size,0,none⟩) 1 1,.int .i64 (n.l.length:Int)] rfl (yO _) (HP.o.mono ?_);rintro e w2 ⟨v2,rfl,d⟩;refine⟨_,rfl,hK _ _ ?_⟩;simp only[nrm];clear hK;refine rn rfl (by go_simp<;>with_reducible rfl) ?_;simp only[nrm];refine sE ?_;have G:Hid (Fr [] B w2):=lh (d5.o.trans d.fr (fun q hq=>.inr (by have:=(b0.o.lt q (by simpa using hq)).1;omega)));have a7:Hid (Buf w2 B.heap.size v2 (u::b16 n.l.length)):=lh d.buf;clear d HP b0 d5 k2
 cases X:n.lf with
 | true=>
  have L:dA n=1:=by unfold dA;rw[X];rfl
  have b1:Hid (n.head=u::b16 n.l.length):=lh (by unfold Nd.head;rw[HU.o,X];simp);have c0:=(f.o.fr G.o).at_ (i:=0) rfl;have c1:=(f.o.fr G.o).at_ (i:=1) rfl;have c2:=(f.o.fr G.o).at_ (i:=2) rfl;rw[L]at c0;go_wp2_with fail;refine(qH w2 1 _ _).mono ?_;rintro e w3 ⟨rfl,p⟩;have M:Fr [] w2 w3:=by rw[p];exact(Fr.refl [] w2).alloc _
  have s:=lh (G.o.trans M);have t:Hid (Buf w3 B.heap.size v2 (n.head++(n.l.take 0).flatMap (ib n.lf))):=lh (by rw[b1.o];simpa using a7.o.fr M);clear p c0 c1 c2 M;have c1:=(f.o.fr s.o).at_ (i:=1) rfl;have c2:=(f.o.fr s.o).at_ (i:=2) rfl;go_wp2_with fail
  go_loopw [3,24] (WRel B n) (fun _ v _=>n.l.length-(intOf v).toNat)
  case atStart=>exact⟨0,rB _,rfl,t.o,s.o⟩
  case round=>
   obtain⟨k,hk,rfl,H,a1⟩:=hrel;have j:=lh H;have N:=lh a1;clear H a1 c1 c2
   by_cases I:k<n.l.length
   ·obtain⟨x,hx⟩:=gx (l:=n.l) I;have Y:=rG hx;obtain⟨kv,vv,av,d0,d1,d2,P⟩:=HI.o.at_ hx;obtain⟨g,rfl,E⟩:=HC.o (by omega);have C:=J.o.trans N.o;have i0:=aA C (E _ _ d0);have i1:=aA C (E _ _ d1);have i2:=aA C (E _ _ d2);have b2:=lh P;have b3:=lh P.one;have V:=lh (a'.o.item x Y);have b4:=lh (aAL hx);clear hx Y E P C d0 d1 d2
    go_wp2_with (first
     | (with_reducible refine mA rfl 198 rfl (.agg #[.slice none 0 0,.slice none 0 0,.int .i64 0]) zit.toArray xO rfl ?_)
     | (refine vA (W:=wr) rfl 198 (.tmp 5) (.tmp 27) rfl [kv,vv,av] rfl rfl rfl pG rfl b3.o ?_))
    intro w4 a4 U c7;obtain⟨bb,F⟩:=nm (n.head++(n.l.take k).flatMap (ib n.lf));have e7:bb.length<=65536:=by rw[F];exact aF (part_len n k) d3.o
    have b5:=lh F;have b:Hid (WSt B w4 B.heap.size u3 bb wr.heap.size [kv,vv,av]):=lh ⟨by rw[F];exact j.o.fr U,a4,fun e=>by have:=sF j.o _ e;omega,N.o.trans U,rfl⟩;obtain⟨⟨gk,a2,_⟩,⟨gv,a3,_⟩,c3⟩:=b2.o;have b6:=lh a2;have d6:=lh a3;obtain⟨Ak,ck,ok,rfl,_,_⟩:=a2;obtain⟨Av,cv,ov,rfl,_,_⟩:=a3;subst c3;have e8:=V.o.k2;have e9:=V.o.v;have b7:=aBH x.key.length (by omega);have b8:=aBH x.v.length (by omega);obtain⟨uk,Q⟩:=nm (UInt8.ofNat x.key.length);obtain⟨uv,S⟩:=nm (UInt8.ofNat x.v.length);rw[<- Q]at b7;rw[<- S]at b8;have b9:=lh Q;have d7:=lh S;clear a4 U c7 i0 i1 i2 F Q S;have d8:=wi k (by omega)
    have Z:=b.o.blk.at_ (i:=0) rfl;have x1:=b.o.blk.at_ (i:=1) rfl;go_upto_region 7 with fail
    refine fE ?_
    iterate 6 (refine rn rfl (by go_simp<;>with_reducible rfl) ?_;simp only[nrm])
    obtain⟨iu,hi,y,m,O⟩:=mE tM;refine lp fun K hK=>?_;refine rI (.tmp 33) rfl Go.Proofs.Tryz.underlying67 hi y m rfl (.int .u8 (uk.toNat:Int)) rfl rfl w4.heap.size rfl fun f0 r z a5=>hK _ _ ?_;simp only[nrm];clear hK;refine lp fun K hK=>?_;refine yF (.tmp 28) (.tmp 34) rfl rfl (b.o.buf.fr z) (by have:=b.o.hH;omega) (cA.of_blk (bs:=[uk]) r 1 (tA _)) (by first|omega|(simp only[LN];omega)) (by simp) fun v5 w5 d=>hK _ _ ?_;simp only[nrm];clear hK;refine rn rfl (by go_simp<;>with_reducible rfl) ?_;simp only[nrm];refine sE ?_;have b:=lh ((b.o.frame z).app d);clear d r z a5 Z x1 hi y m O;have c0:=(f.o.fr b.o.fr).at_ (i:=0) rfl;have c1:=(f.o.fr b.o.fr).at_ (i:=1) rfl;have c2:=(f.o.fr b.o.fr).at_ (i:=2) rfl;rw[L]at c0;go_wp2_with fail;refine(qH w5 1 _ _).mono ?_;rintro e w6 ⟨rfl,p⟩;have b:=lh (b.o.frame (show Fr [] w5 w6 by rw[p];exact(Fr.refl [] w5).alloc _));clear p c0 c1 c2;have Z:=b.o.blk.at_ (i:=0) rfl;have x1:=b.o.blk.at_ (i:=1) rfl;go_upto_region 9 with fail
    refine fE ?_
    iterate 6 (refine rn rfl (by go_simp<;>with_reducible rfl) ?_;simp only[nrm])
    obtain⟨iu,hi,y,m,O⟩:=mE tM;refine lp fun K hK=>?_;refine rI (.tmp 43) rfl Go.Proofs.Tryz.underlying67 hi y m rfl (.int .u8 (uv.toNat:Int)) rfl rfl w6.heap.size rfl fun f1 r z a5=>hK _ _ ?_;simp only[nrm];clear hK;refine lp fun K hK=>?_;refine yF (.tmp 38) (.tmp 44) rfl rfl (b.o.buf.fr z) (by have:=b.o.hH;omega) (cA.of_blk (bs:=[uv]) r 1 (tA _)) (by first|omega|(simp only[LN];omega)) (by simp) fun v7 w7 d=>hK _ _ ?_;simp only[nrm];clear hK;refine rn rfl (by go_simp<;>with_reducible rfl) ?_;simp only[nrm];refine sE ?_;have b:=lh ((b.o.frame z).app d);clear d r z a5 Z x1 hi y m O;have Z:=b.o.blk.at_ (i:=0) rfl;have x1:=b.o.blk.at_ (i:=1) rfl;go_upto_region 10 with fail
    refine fE ?_
    iterate 4 (refine rn rfl (by go_simp<;>with_reducible rfl) ?_;simp only[nrm])
    refine lp fun K hK=>?_;refine yF (.tmp 46) (.tmp 49) rfl rfl b.o.buf b.o.hH (b6.o.fr (J.o.trans b.o.fr)) (by first|omega|(simp only[LN];omega)) (by omega) fun v8 w8 d=>hK _ _ ?_;simp only[nrm];clear hK;refine rn rfl (by go_simp<;>with_reducible rfl) ?_;simp only[nrm];refine sE ?_;have b:=lh (b.o.app d);clear d Z x1;have c0:=(f.o.fr b.o.fr).at_ (i:=0) rfl;have c1:=(f.o.fr b.o.fr).at_ (i:=1) rfl;have c2:=(f.o.fr b.o.fr).at_ (i:=2) rfl;rw[L]at c0;go_wp2_with fail;refine(qH w8 1 _ _).mono ?_;rintro e w9 ⟨rfl,p⟩;have b:=lh (b.o.frame (show Fr [] w8 w9 by rw[p];exact(Fr.refl [] w8).alloc _));clear p c0 c1 c2;have Z:=b.o.blk.at_ (i:=0) rfl;have x1:=b.o.blk.at_ (i:=1) rfl;go_upto_region 12 with fail
    refine fE ?_
    iterate 4 (refine rn rfl (by go_simp<;>with_reducible rfl) ?_;simp only[nrm])
    refine lp fun K hK=>?_;refine yF (.tmp 53) (.tmp 56) rfl rfl b.o.buf b.o.hH (d6.o.fr (J.o.trans b.o.fr)) (by first|omega|(simp only[LN];omega)) (by omega) fun v10 c6 d=>hK _ _ ?_;simp only[nrm];clear hK;refine rn rfl (by go_simp<;>with_reducible rfl) ?_;simp only[nrm];refine sE ?_;have b:=lh (b.o.app d);clear d Z x1
    have HX:Hid (WRel B n v10 (.int .i64 ((k:Int)+1)) c6):=lh ⟨k+1,I,rfl,by
     have e:n.head++(n.l.take (k+1)).flatMap (ib n.lf)=(((bb++[uk])++[uv])++x.key)++x.v:=by
      rw[b4.o,qP,<- qF,<- b5.o]
      simp[ib,X,b9.o,d7.o]
     rw[e];exact b.o.buf,b.o.fr⟩
    clear b;go_wp2_with fail
    go_roundw
    case rel=>exact HX.o
    case measure=>simp[intOf];omega
   ·obtain rfl:k=n.l.length:=by omega
    obtain⟨gb,T,c4⟩:=cL (wC j.o (fun _ _=>rB _)) (fun q hq=>(j.o.lt q hq).1)
    have HE:Hid (R (.returned u3) wr):=lh (HQ.o _ _ ⟨_,rfl,⟨gb,by
     have e:n.head++(n.l.take n.l.length).flatMap (ib n.lf)=n.written:=by rw[zF (tA _)];rfl
     rw[e]at T;obtain⟨_,_,c5⟩:=j.o.shape;rw[e]at c5;exact T,by have:=c'.o;omega⟩,J.o.trans N.o⟩)
    clear T c4;go_wp2_with fail

    exact HE.o
 | false=>
  have L:dA n=2:=by unfold dA;rw[X];rfl
  have b1:Hid (n.head=(u::b16 n.l.length)++b16 n.first):=lh (by unfold Nd.head;rw[HU.o,X];simp);have d9:=a'.o.first;have c0:=(f.o.fr G.o).at_ (i:=0) rfl;have c1:=(f.o.fr G.o).at_ (i:=1) rfl;have c2:=(f.o.fr G.o).at_ (i:=2) rfl;rw[L]at c0;go_wp2_with fail;refine(qH w2 2 _ _).mono ?_;rintro e w3 ⟨rfl,p⟩;have M:Fr [] w2 w3:=by rw[p];exact(Fr.refl [] w2).alloc _
  have s:=lh (G.o.trans M);have t:=lh (a7.o.fr M);clear p c0 c1 c2 M;have c1:=(f.o.fr s.o).at_ (i:=1) rfl;have d':=lh (jG t.o n.first d9 (by simp[b16]) (by have:=s.o.size;omega));go_wp2_with fail;refine d'.o.mono ?_;rintro e e3 ⟨v3,rfl,d⟩;have e0:Hid (Fr [] B e3):=lh (d.fr0 t.o (tA _) s.o);have b':Hid (Buf e3 B.heap.size v3 (n.head++(n.l.take 0).flatMap (ib n.lf))):=lh (by rw[b1.o];simpa using d.buf);clear d d' c1 t s;have s:=e0;have t:=b';have c1:=(f.o.fr s.o).at_ (i:=1) rfl;have c2:=(f.o.fr s.o).at_ (i:=2) rfl;go_wp2_with fail
  go_loopw [3,24] (WRel B n) (fun _ v _=>n.l.length-(intOf v).toNat)
  case atStart=>exact⟨0,rB _,rfl,t.o,s.o⟩
  case round=>
   obtain⟨k,hk,rfl,H,a1⟩:=hrel;have j:=lh H;have N:=lh a1;clear H a1 c1 c2
   by_cases I:k<n.l.length
   ·obtain⟨x,hx⟩:=gx (l:=n.l) I;have Y:=rG hx;obtain⟨kv,vv,av,d0,d1,d2,P⟩:=HI.o.at_ hx;obtain⟨g,rfl,E⟩:=HC.o (by omega);have C:=J.o.trans N.o;have i0:=aA C (E _ _ d0);have i1:=aA C (E _ _ d1);have i2:=aA C (E _ _ d2);have b2:=lh P;have b3:=lh P.one;have V:=lh (a'.o.item x Y);have b4:=lh (aAL hx);clear hx Y E P C d0 d1 d2
    go_wp2_with (first
     | (with_reducible refine mA rfl 198 rfl (.agg #[.slice none 0 0,.slice none 0 0,.int .i64 0]) zit.toArray xO rfl ?_)
     | (refine vA (W:=wr) rfl 198 (.tmp 5) (.tmp 27) rfl [kv,vv,av] rfl rfl rfl pG rfl b3.o ?_))
    intro w4 a4 U c7;obtain⟨bb,F⟩:=nm (n.head++(n.l.take k).flatMap (ib n.lf));have e7:bb.length<=65536:=by rw[F];exact aF (part_len n k) d3.o
    have b5:=lh F;have b:Hid (WSt B w4 B.heap.size u3 bb wr.heap.size [kv,vv,av]):=lh ⟨by rw[F];exact j.o.fr U,a4,fun e=>by have:=sF j.o _ e;omega,N.o.trans U,rfl⟩;obtain⟨⟨gk,a2,_⟩,⟨gv,a3,_⟩,c3⟩:=b2.o;have b6:=lh a2;have d6:=lh a3;obtain⟨Ak,ck,ok,rfl,_,_⟩:=a2;obtain⟨Av,cv,ov,rfl,_,_⟩:=a3;subst c3;have e8:=V.o.k2;have e9:=V.o.v;have b7:=aBH x.key.length (by omega);have b8:=aBH x.v.length (by omega);obtain⟨uk,Q⟩:=nm (UInt8.ofNat x.key.length);obtain⟨uv,S⟩:=nm (UInt8.ofNat x.v.length);rw[<- Q]at b7;rw[<- S]at b8;have b9:=lh Q;have d7:=lh S;clear a4 U c7 i0 i1 i2 F Q S;have d8:=wi k (by omega)
    have Z:=b.o.blk.at_ (i:=0) rfl;have x1:=b.o.blk.at_ (i:=1) rfl;go_upto_region 7 with fail
    refine fE ?_
    iterate 6 (refine rn rfl (by go_simp<;>with_reducible rfl) ?_;simp only[nrm])
    obtain⟨iu,hi,y,m,O⟩:=mE tM;refine lp fun K hK=>?_;refine rI (.tmp 33) rfl Go.Proofs.Tryz.underlying67 hi y m rfl (.int .u8 (uk.toNat:Int)) rfl rfl w4.heap.size rfl fun f0 r z a5=>hK _ _ ?_;simp only[nrm];clear hK;refine lp fun K hK=>?_;refine yF (.tmp 28) (.tmp 34) rfl rfl (b.o.buf.fr z) (by have:=b.o.hH;omega) (cA.of_blk (bs:=[uk]) r 1 (tA _)) (by first|omega|(simp only[LN];omega)) (by simp) fun v5 w5 d=>hK _ _ ?_;simp only[nrm];clear hK;refine rn rfl (by go_simp<;>with_reducible rfl) ?_;simp only[nrm];refine sE ?_;have b:=lh ((b.o.frame z).app d);clear d r z a5 Z x1 hi y m O;have c0:=(f.o.fr b.o.fr).at_ (i:=0) rfl;have c1:=(f.o.fr b.o.fr).at_ (i:=1) rfl;have c2:=(f.o.fr b.o.fr).at_ (i:=2) rfl;rw[L]at c0;go_wp2_with fail;refine(qH w5 2 _ _).mono ?_;rintro e w6 ⟨rfl,p⟩;have b:=lh (b.o.frame (show Fr [] w5 w6 by rw[p];exact(Fr.refl [] w5).alloc _));clear p c0 c1 c2;have Z:=b.o.blk.at_ (i:=0) rfl;have x1:=b.o.blk.at_ (i:=1) rfl;go_upto_region 10 with fail
    refine fE ?_
    iterate 4 (refine rn rfl (by go_simp<;>with_reducible rfl) ?_;simp only[nrm])
    refine lp fun K hK=>?_;refine yF (.tmp 46) (.tmp 49) rfl rfl b.o.buf b.o.hH (b6.o.fr (J.o.trans b.o.fr)) (by first|omega|(simp only[LN];omega)) (by omega) fun v8 w8 d=>hK _ _ ?_;simp only[nrm];clear hK;refine rn rfl (by go_simp<;>with_reducible rfl) ?_;simp only[nrm];refine sE ?_;have b:=lh (b.o.app d);clear d Z x1;have c0:=(f.o.fr b.o.fr).at_ (i:=0) rfl;have c1:=(f.o.fr b.o.fr).at_ (i:=1) rfl;have c2:=(f.o.fr b.o.fr).at_ (i:=2) rfl;rw[L]at c0;go_wp2_with fail;refine(qH w8 2 _ _).mono ?_;rintro e w9 ⟨rfl,p⟩;have b:=lh (b.o.frame (show Fr [] w8 w9 by rw[p];exact(Fr.refl [] w8).alloc _));clear p c0 c1 c2;have x2:=b.o.blk.at_ (i:=2) rfl;have e1:=lh (jG b.o.buf x.at_ V.o.at_ (by simp only[LN];omega) b.o.hH);go_wp2_with fail;refine e1.o.mono ?_;rintro e c6 ⟨v10,rfl,d⟩;have b:=lh (b.o.app d);clear d x2 e1
    have HX:Hid (WRel B n v10 (.int .i64 ((k:Int)+1)) c6):=lh ⟨k+1,I,rfl,by
     have e:n.head++(n.l.take (k+1)).flatMap (ib n.lf)=((bb++[uk])++x.key)++b16 x.at_:=by
      rw[b4.o,qP,<- qF,<- b5.o]
      simp[ib,X,b9.o]
     rw[e];exact b.o.buf,b.o.fr⟩
    clear b;go_wp2_with fail
    go_roundw
    case rel=>exact HX.o
    case measure=>simp[intOf];omega
   ·obtain rfl:k=n.l.length:=by omega
    obtain⟨gb,T,c4⟩:=cL (wC j.o (fun _ _=>rB _)) (fun q hq=>(j.o.lt q hq).1)
    have HE:Hid (R (.returned u3) wr):=lh (HQ.o _ _ ⟨_,rfl,⟨gb,by
     have e:n.head++(n.l.take n.l.length).flatMap (ib n.lf)=n.written:=by rw[zF (tA _)];rfl
     rw[e]at T;obtain⟨_,_,c5⟩:=j.o.shape;rw[e]at c5;exact T,by have:=c'.o;omega⟩,J.o.trans N.o⟩)
    clear T c4;go_wp2_with fail

    exact HE.o
end
section
open Go.RowKit Go.ChangeMaps Go.MapKept Go.Maps Go.Sort Go.Shelf
def aDv (v:Value):Option (DataW Value×List MemPlace):=some (.held v,[])
def aBx (p:Nat×Value):Lit×DataW Value:=(.int .i64 (p.1:Int),.held p.2)
def toV (m:List (Nat×Value)):DataW Value:=.map (m.map aBx)
theorem aIe(x:Nat×Value):∀m:List (Nat×Value),DataW.insert (aBx x) (m.map aBx)=(tV x m).map aBx
 | []=>rfl
 | y::m=>by
  have e:(aBx x).1.before (aBx y).1=decide (x.1<y.1):=by
   show decide ((x.1:Int)<(y.1:Int))=_
   rw[jT,uO,uO];omega
  rw[yJ,DataW.insert,e,tV]
  by_cases h:x.1<y.1
  ·rw[iA (by simpa using h),iA h];rfl
  ·rw[eA (by simpa using h),eA h,yJ,aIe x m]
theorem aGE(p:Nat×Value)(k:Nat):(aBx p).1.sameKey (.int .i64 (k:Int))=decide (p.1=k):=by
 show decide (IntKind.i64=IntKind.i64/\(p.1:Int)=(k:Int))=_
 rw[jT,uO,uO];exact⟨fun h=>by have:=h.2;omega,fun h=>⟨rfl,by omega⟩⟩
theorem del_V(m:List (Nat×Value))(k:Nat):(toV m).del (.int .i64 (k:Int))=toV (aAI m k):=by
 unfold toV aAI DataW.del
 simp only
 rw[List.filter_map,show((fun p=>!p.1.sameKey (.int .i64 (k:Int))) ∘ aBx)=(fun p:Nat×Value=>!decide (p.1=k)) from funext fun p=>by rw[Function.comp,aGE]]
theorem put_V(m:List (Nat×Value))(k:Nat)(b:Value):(toV m).put (.int .i64 (k:Int)) (.held b)=toV (vY m k b):=by
 unfold toV vY DataW.put
 simp only
 rw[List.filter_map,show((fun p=>!p.1.sameKey (.int .i64 (k:Int))) ∘ aBx)=(fun p:Nat×Value=>!decide (p.1=k)) from funext fun p=>by rw[Function.comp,aGE]];exact congrArg _ (aIe (k,b) _)
theorem aOQ(k:Nat):∀m:List (Nat×Value),(m.map aBx).find? (fun p=>p.1.sameKey (.int .i64 (k:Int)))=(m.find? fun p=>decide (p.1=k)).map aBx
 | []=>rfl
 | p::m=>by
  rw[yJ,List.find?_cons,List.find?_cons,aGE,aOQ k m]
  cases decide (p.1=k)<;>rfl
theorem at_V(m:List (Nat×Value))(k:Nat)(z:Value):(toV m).atKey (.int .i64 (k:Int)) (.held z)=.held ((xF m k).getD z):=by
 unfold toV DataW.atKey xF
 simp only
 rw[aOQ]
 cases m.find? fun p=>decide (p.1=k)<;>rfl
theorem has_V(m:List (Nat×Value))(k:Nat):Maps.has (toV m) (.int .i64 (k:Int))=(xF m k).isSome:=by
 unfold toV;rw[Maps.has_eq,List.any_map,show((fun p=>p.1.sameKey (.int .i64 (k:Int))) ∘ aBx)=(fun p:Nat×Value=>decide (p.1=k)) from funext fun p=>aGE p k];unfold xF
 induction m with
 | nil=>rfl
 | cons p m b=>
  rw[List.any_cons,List.find?_cons]
  cases h:decide (p.1=k)
  ·simpa using b
  ·simp
theorem aKu(m:List (Nat×Value)):Maps.size (toV m)=m.length:=by unfold toV;rw[Go.Maps.size_eq,lI]
theorem aKv(m:List (Nat×Value)):intKeys (toV m)=m.map fun p=>(p.1:Int):=by
 unfold toV intKeys;simp only[List.map_map]
 rfl
def VAt (w:World) (b:Nat) (m:List (Nat×Value)):Prop:=w.ownsMap prog 3 aDv b m.length (toV m)
section
variable {w w' : World} {b : Nat} {m : List (Nat × Value)}
theorem VAt.of{n:Nat}(h:w.ownsMap prog 3 aDv b n (toV m)):VAt w b m:=by
 obtain⟨f,c,g,F,_,d⟩:=h;refine⟨f,c,g,F,?_,d⟩;have:=congrArg Maps.size d;rw[aKu,Go.Maps.size_eq,length_read]at this;omega
theorem VAt.lt(h:VAt w b m):b<w.heap.size:=World.ownsMap.lt h
theorem VAt.fr{S:List Nat}(h:VAt w b m)(g:Fr S w w')(i:b∉S:=by simp):VAt w' b m:=by
 have d:=h.lt;obtain⟨f,c,h1,h2⟩:=h;exact⟨f,c,by rw[g.block b d i];exact h1,h2⟩
theorem VAt.ne_blk(h:VAt w b m){g:Nat}{t:TypeId}{cs:List Value}(c:Blk w g t cs):b≠g:=by
 rintro rfl;obtain⟨f,d,h1,_⟩:=h;unfold Blk at c;rw[h1]at c;injection c with c
 cases c
theorem VAt.new(w:World):VAt (w.alloc (.map #[] 0)) w.heap.size []:=World.ownsMap_made w prog 3 aDv
theorem aIf{v u:Value}{ps:List MemPlace}(h:aDv v=some (.held u,ps)):v=u:=by
 unfold aDv at h;injection h with h;injection h with h _;injection h
theorem VAt.look_ok{t e:TypeId}{z:Value}(h:VAt w b m)(ht:prog.underlying t=some (.map 3 e))(hz:(zeroValue e).run prog w=.ok z w){k:Nat}(c:k<=9223372036854775807):
  (Instr.lookup t (.map (some b)) (.int .i64 (k:Int)) true).run prog w=.ok (.tuple #[(xF m k).getD z,.bool (xF m k).isSome]) w:=by
 obtain⟨v,ps,h1,h2⟩:=World.ownsMap.look_ok h aBd ht hz (zd:=.held z) (zp:=[]) rfl (wR c);rw[h1,has_V];rw[at_V]at h2;rw[aIf h2]
theorem VAt.look{t e:TypeId}{z:Value}(h:VAt w b m)(ht:prog.underlying t=some (.map 3 e))(hz:(zeroValue e).run prog w=.ok z w){k:Nat}(c:k<=9223372036854775807):
  (Instr.lookup t (.map (some b)) (.int .i64 (k:Int)) false).run prog w=.ok ((xF m k).getD z) w:=by
 obtain⟨v,ps,h1,h2⟩:=World.ownsMap.lookup h aBd ht hz (zd:=.held z) (zp:=[]) rfl (wR c);rw[h1];rw[at_V]at h2;rw[aIf h2]
theorem VAt.store{t e:TypeId}(h:VAt w b m)(ht:prog.underlying t=some (.map 3 e)){k:Nat}(l:k<=9223372036854775807)(o:m.length<9223372036854775807)(x:Value):
  ∃w',(Instr.mapUpdate t (.map (some b)) (.int .i64 (k:Int)) x).run prog w=.ok () w'/\VAt w' b (vY m k x)/\Fr [b] w w'/\w'.heap.size=w.heap.size:=by
 obtain⟨w',h1,h2,h3⟩:=World.ownsMap.store h aBd ht (by unfold maxLen;exact o) (wR l) (val:=x) (d:=.held x) (ps:=[]) rfl;rw[put_V]at h2;refine⟨w',h1,VAt.of h2,(Fr.refl [b] w).grown h3.grown (fun g j=>by cases j;exact .inl (by simp)),?_⟩;obtain⟨p,f,i,c,_,rfl⟩:=h3
 simp[setBlock]
theorem VAt.drop{t e:TypeId}(h:VAt w b m)(ht:prog.underlying t=some (.map 3 e)){k:Nat}(j:k<=9223372036854775807)(ty:TypeId):
  ∃w',(Builtin.delete_ #[t,3] ty #[.map (some b),.int .i64 (k:Int)]).run prog w=.ok (.tuple #[]) w'/\VAt w' b (aAI m k)/\Fr [b] w w'/\w'.heap.size=w.heap.size:=by
 obtain⟨w',h1,h2,h3⟩:=World.ownsMap.drop h aBd ht (wR j) ty;rw[del_V]at h2;refine⟨w',h1,VAt.of h2,(Fr.refl [b] w).grown h3.grown (fun g i=>by cases i;exact .inl (by simp)),?_⟩;obtain⟨l,d,f,c,_,rfl⟩:=h3
 simp[setBlock]
end
section
variable {α : Type}
def wH (R:Value->α->Prop):List (Nat×Value)->List (Nat×α)->Prop
 | [],[]=>True
 | p::vs,q::m=>p.1=q.1/\R p.2 q.2/\wH R vs m
 | _,_=>False
theorem wH.mono{R c:Value->α->Prop}:∀ {b:List (Nat×Value)} {m:List (Nat×α)},wH R b m->(∀v a k,(k,a)∈m->R v a->c v a)->wH c b m
 | [],[],_,_=>trivial
 | _p::_vs,q::_m,h,hR=>⟨h.1,hR _ _ q.1 (sB ..) h.2.1,wH.mono h.2.2 fun v a k d=>hR v a k (uC _ d)⟩
 | [],_::_,h,_=>h.elim
 | _::_,[],h,_=>h.elim
theorem wH.len{R:Value->α->Prop}:∀ {b:List (Nat×Value)} {m:List (Nat×α)},wH R b m->b.length=m.length
 | [],[],_=>rfl
 | p::b,q::m,h=>by rw[gD,gD,wH.len h.2.2]
 | [],_::_,h=>h.elim
 | _::_,[],h=>h.elim
theorem wH.keys{R:Value->α->Prop}:∀ {b:List (Nat×Value)} {m:List (Nat×α)},wH R b m->(b.map fun p=>p.1)=m.map fun p=>p.1
 | [],[],_=>rfl
 | p::b,q::m,h=>by rw[yJ,yJ,wH.keys h.2.2,h.1]
 | [],_::_,h=>h.elim
 | _::_,[],h=>h.elim
theorem wH.get{R:Value->α->Prop}(k:Nat):∀ {b:List (Nat×Value)} {m:List (Nat×α)},wH R b m->(xF m k=none/\xF b k=none)∨∃a v,xF m k=some a/\xF b k=some v/\R v a
 | [],[],_=>.inl ⟨rfl,rfl⟩
 | p::b,q::m,h=>by
  have c:=wH.get k h.2.2;unfold xF at c⊢;rw[List.find?_cons,List.find?_cons,h.1]
  cases d:decide (q.1=k)
  ·exact c
  ·exact .inr ⟨q.2,p.2,rfl,rfl,h.2.1⟩
 | [],_::_,h=>h.elim
 | _::_,[],h=>h.elim
theorem wH.del{R:Value->α->Prop}(k:Nat):∀ {c:List (Nat×Value)} {m:List (Nat×α)},wH R c m->wH R (aAI c k) (aAI m k)
 | [],[],_=>trivial
 | p::c,q::m,h=>by
  have b:=wH.del k h.2.2;unfold aAI at b⊢;rw[List.filter_cons,List.filter_cons,h.1]
  cases d:!decide (q.1=k)
  ·simpa[d]using b
  ·simpa[d] using⟨h.1,h.2.1,b⟩
 | [],_::_,h=>h.elim
 | _::_,[],h=>h.elim
theorem wH.ins{R:Value->α->Prop}{k:Nat}{v:Value}{a:α}(c:R v a):∀ {b:List (Nat×Value)} {m:List (Nat×α)},wH R b m->wH R (tV (k,v) b) (tV (k,a) m)
 | [],[],_=>⟨rfl,c,trivial⟩
 | p::b,q::m,h=>by
  unfold tV;rw[h.1]
  by_cases d:k<q.1
  ·simp only[d,mH];exact⟨rfl,c,h⟩
  ·simp only[d,dE];exact⟨h.1,h.2.1,wH.ins c h.2.2⟩
 | [],_::_,h=>h.elim
 | _::_,[],h=>h.elim
theorem wH.put{R:Value->α->Prop}{k:Nat}{v:Value}{a:α}(c:R v a){b:List (Nat×Value)}{m:List (Nat×α)}(h:wH R b m):wH R (vY b k v) (vY m k a):=by
 unfold vY;exact wH.ins c (wH.del k h)
end
def zO {α:Type} (m:List (Nat×α)):List Value:=m.map fun p=>.int .i64 (p.1:Int)
theorem wH.kcells{R:Value->α->Prop}{b:List (Nat×Value)}{m:List (Nat×α)}(h:wH R b m):zO b=zO m:=by
 have:=congrArg (List.map fun k:Nat=>Value.int .i64 (k:Int)) h.keys;rw[List.map_map,List.map_map]at this;exact this
theorem aDw{m:List (Nat×Value)}(f:gI m){c:List Int}(h:c.Perm (intKeys (toV m))):(c.mergeSort fun x y=>decide (x<=y)).map encZ=zO m:=by
 rw[mergeSort_of_perm_i h,aKv]
 have e:(m.map fun p=>(p.1:Int)).mergeSort leI=m.map fun p=>(p.1:Int):=by
  refine List.mergeSort_of_pairwise ?_;rw[List.pairwise_map];exact f.imp fun {a b} d=>by simp only[leI,yI];omega
 rw[e]
 simp[zO,encZ]
theorem aNf(b:Nat)(w:World):Calls prog 149 #[.map (some b)] w fun e w'=>e=.returned (.func (.func 184) #[] #[.pointer (some ⟨w.heap.size,0,none⟩)])/\w'=w.alloc (.cells #[.map (some b)] 139):=
 (nM (n:=5)).1 (AnyZI.keys_in Tryz.keysN Fence.wide 5 trivial rfl (some b) w)
theorem aNg(b:Nat)(w:World):Calls prog 152 #[.map (some b)] w fun e w'=>e=.returned (.func (.func 185) #[] #[.pointer (some ⟨w.heap.size,0,none⟩)])/\w'=w.alloc (.cells #[.map (some b)] 140):=
 (nM (n:=5)).1 (AnyZI.keys_in Tryz.keysI Fence.wide 5 trivial rfl (some b) w)
theorem aIg{b:Nat}{m:List (Nat×Value)}{w:World}(h:VAt w b m)(t:gI m)(o:m.length<=65536)(w1:World)(k:w1=w.alloc (.cells #[.map (some b)] 139)):
  Calls prog 65 #[.func (.func 184) #[] #[.pointer (some ⟨w.heap.size,0,none⟩)]] w1 fun e w'=>∃v,e=.returned v/\w'.ownsRow w1.heap.size 3 1 v m.length (zO m)/\Fr [] w1 w':=by
 subst k;have p:=h.lt;have d:Maps.size (toV m)=m.length:=aKu m
 have g:SeqGives Fence.wide 2 prog 184 #[.pointer (some ⟨w.heap.size,0,none⟩)] encZ (fun j=>j.Perm (intKeys (toV m))) (Maps.size (toV m)) (w.alloc (.cells #[.map (some b)] 139)):=
  AnyZI.keys_gives (R:=aDv) (nn:=m.length) (ρ:=Tryz.keysN_ren) { Tryz.keysN with } Fence.wide _ trivial rfl (by omega) w.heap.size b (toV m) _ (by simp) (by simp) (h.fr ((Fr.refl [] w).alloc _))
 have q:=AnyZI.sorted_in Tryz.sortedA Fence.wide 5 trivial trivial trivial trivial rfl (by omega) (aJX _) (Go.Proofs.enters_of func88 (by kernel_rfl) rfl) 184 #[.pointer (some ⟨w.heap.size,0,none⟩)] trivial (Go.Proofs.enters_of func184 (by kernel_rfl) rfl) _ _ (by rw[d];unfold maxLen;omega) (by rw[d];omega) _ g;have i:=(nM (n:=5)).1 q;refine Calls.mono (P:=prog) (f:=65) i ?_;rintro e w' ⟨v,j,rfl,l,c,_,s⟩
 have r:j.length=m.length:=by
  have:=l.length_eq;rw[aKv,lI]at this;exact this
 rw[aDw t l,r]at c;exact⟨v,rfl,c,Fr.of_below s []⟩
theorem aIh{b:Nat}{m:List (Nat×Value)}{w:World}(h:VAt w b m)(t:gI m)(o:m.length<=65536)(w1:World)(k:w1=w.alloc (.cells #[.map (some b)] 140)):
  Calls prog 65 #[.func (.func 185) #[] #[.pointer (some ⟨w.heap.size,0,none⟩)]] w1 fun e w'=>∃v,e=.returned v/\w'.ownsRow w1.heap.size 3 1 v m.length (zO m)/\Fr [] w1 w':=by
 subst k;have p:=h.lt;have d:Maps.size (toV m)=m.length:=aKu m
 have g:SeqGives Fence.wide 2 prog 185 #[.pointer (some ⟨w.heap.size,0,none⟩)] encZ (fun j=>j.Perm (intKeys (toV m))) (Maps.size (toV m)) (w.alloc (.cells #[.map (some b)] 140)):=
  AnyZI.keys_gives (R:=aDv) (nn:=m.length) (ρ:=Tryz.keysI_ren) { Tryz.keysI with } Fence.wide _ trivial rfl (by omega) w.heap.size b (toV m) _ (by simp) (by simp) (h.fr ((Fr.refl [] w).alloc _))
 have q:=AnyZI.sorted_in Tryz.sortedA Fence.wide 5 trivial trivial trivial trivial rfl (by omega) (aJX _) (Go.Proofs.enters_of func88 (by kernel_rfl) rfl) 185 #[.pointer (some ⟨w.heap.size,0,none⟩)] trivial (Go.Proofs.enters_of func185 (by kernel_rfl) rfl) _ _ (by rw[d];unfold maxLen;omega) (by rw[d];omega) _ g;have i:=(nM (n:=5)).1 q;refine Calls.mono (P:=prog) (f:=65) i ?_;rintro e w' ⟨v,j,rfl,l,c,_,s⟩
 have r:j.length=m.length:=by
  have:=l.length_eq;rw[aKv,lI]at this;exact this
 rw[aDw t l,r]at c;exact⟨v,rfl,c,Fr.of_below s []⟩
def chC (c:CD) (g bn bs:Nat):List Value:=
 [.int .i64 (c.next:Int),.int .i64 (c.head:Int),.int .i64 (c.roots 0:Int),.int .i64 (c.roots 1:Int),.int .i64 (c.roots 2:Int),.int .i64 (c.roots 3:Int),.int .i64 (c.roots 4:Int),.int .i64 (c.roots 5:Int),.int .i64 (c.roots 6:Int),.int .i64 (c.roots 7:Int),
  .pointer (some ⟨g,0,none⟩),.map (some bn),.map (some bs),.int .i64 (c.e:Int)]
structure WfW (c:CD):Prop where
 n:c.n<=4096
 next:c.next<=c.n
 head:c.head<65536
 pg:∀k,k<c.n->(c.pg k).length=512
 rM:gI c.M
 rS:gI c.S
 mM:∀p∈c.M,p.1<c.n/\p.2.ok/\p.2.size<=512
 mS:∀p∈c.S,p.1<c.n/\p.2<65536
 roots:∀t,c.roots t<65536
structure kE (wS w:World) (g bc bn bs:Nat) (D:Nat->Prop) (c:CD):Prop where
 fr:Fr [] wS w
 l1:wS.heap.size<=bc
 l2:wS.heap.size<=bn
 l3:wS.heap.size<=bs
 ne:bn≠bs
 blk:Blk w bc 142 (chC c g bn bs)
 nodes:∃vs,VAt w bn vs/\wH (fun v n=>NdV D w 0 v n) vs c.M
 spare:∃vs,VAt w bs vs/\wH (fun v n=>v=.int .i64 ((n:Nat):Int)) vs c.S
 dom:∀q,D q->q≠bc/\q≠bn/\q≠bs
 wf:WfW c
theorem aDx{n:Nat}:∀ {m:List (Nat×α)} {lo:Nat},gI m->(∀p∈m,lo<=p.1/\p.1<n)->m.length<=n-lo
 | [],_,_,_=>rB _
 | p::m,lo,h,hm=>by
  obtain⟨h1,h2⟩:=xE.1 h;have c:=aDx (lo:=p.1+1) h2 fun q b=>⟨h1 q b,(hm q (uC _ b)).2⟩;have:=hm p (sB ..);rw[gD];omega
theorem WfW.fewM{c:CD}(h:WfW c):c.M.length<=4096:=by
 have:=aDx (lo:=0) h.rM fun p b=>⟨rB _,(h.mM p b).1⟩;have:=h.n;omega
theorem WfW.fewS{c:CD}(h:WfW c):c.S.length<=4096:=by
 have:=aDx (lo:=0) h.rS fun p b=>⟨rB _,(h.mS p b).1⟩;have:=h.n;omega
theorem WfW.write{c:CD}(h:WfW c){k:Nat}{n:Nd}(h1:k<c.n)(h2:n.ok)(h3:n.size<=512):WfW (c.write k n):=⟨h.n,h.next,h.head,h.pg,h.rM.put k n,h.rS.del k,fun p b=>by
 rcases zY b with rfl|b
 ·exact⟨h1,h2,h3⟩
 ·exact h.mM p b,fun p b=>h.mS p (yY b),h.roots⟩
theorem WfW.free{c:CD}(h:WfW c){k:Nat}(h1:k<c.n):WfW (c.free k):=⟨h.n,h.next,by have:=h.n;show k<65536;omega,h.pg,h.rM.del k,h.rS.put k _,fun p b=>h.mM p (yY b),fun p b=>by
 rcases zY b with rfl|b
 ·exact⟨h1,h.head⟩
 ·exact h.mS p b,h.roots⟩
section
variable {wS w w' : World} {g bc bn bs : Nat} {D D' : Nat -> Prop} {c : CD}
theorem kE.ne2(h:kE wS w g bc bn bs D c):bn≠bc/\bs≠bc:=by
 obtain⟨_,h1,_⟩:=h.nodes;obtain⟨_,h2,_⟩:=h.spare;exact⟨h1.ne_blk h.blk,h2.ne_blk h.blk⟩
theorem kE.frS{S:List Nat}(h:kE wS w g bc bn bs D c)(b:Fr S w w')(h0:∀q∈S,w.heap.size<=q∨(wS.heap.size<=q/\¬ D q/\q≠bc/\q≠bn/\q≠bs)):kE wS w' g bc bn bs D c:=by
 obtain⟨j,h1,h2⟩:=h.nodes;obtain⟨l,h3,m⟩:=h.spare
 have i:∀q,D q->q∈S->w.heap.size<=q:=fun q d f=>by
  rcases h0 q f with h|h
  ·exact h
  ·exact absurd d h.2.1
 have no:∀q,q<w.heap.size->(q=bc∨q=bn∨q=bs)->q∉S:=fun q p d f=>by
  rcases h0 q f with h|h
  ·omega
  ·omega
 refine⟨h.fr.trans b fun q d=>.inr ?_,h.l1,h.l2,h.l3,h.ne,h.blk.fr b (no _ h.blk.lt (.inl rfl)),⟨j,h1.fr b (no _ h1.lt (.inr (.inl rfl))),h2.mono fun v a k _ o=>o.fr b i⟩,⟨l,h3.fr b (no _ h3.lt (.inr (.inr rfl))),m⟩,h.dom,h.wf⟩;have:=h.fr.size;rcases h0 q d with h|h<;>omega
theorem kE.frame(h:kE wS w g bc bn bs D c)(d:Fr [] w w'):kE wS w' g bc bn bs D c:=h.frS d (fun q b=>by cases b)
theorem kE.re(h:kE wS w g bc bn bs D c)(j:∀q,D q->q<w.heap.size->D' q)(h0:∃q,D' q/\w.heap.size<=q)(d:∀q,D' q->q≠bc/\q≠bn/\q≠bs):kE wS w g bc bn bs D' c:=by
 obtain⟨l,h1,h2⟩:=h.nodes;obtain⟨m,f,o⟩:=h0;refine⟨h.fr,h.l1,h.l2,h.l3,h.ne,h.blk,⟨l,h1,h2.mono fun v a k _ t=>?_⟩,h.spare,d,h.wf⟩;obtain⟨sv,cs,p,i,r,s⟩:=t;refine⟨sv,cs,p,i,r.re (fun q b u=>⟨j q b.1 u,b.2⟩) ⟨m,f,fun e=>by have:=sF i _ e;omega⟩,fun q b=>j q (s q b) (sF i q b)⟩
theorem kE.weak(h:kE wS w g bc bn bs D c)(i:∀q,D q->D' q)(b:∀q,D' q->q≠bc/\q≠bn/\q≠bs):kE wS w g bc bn bs D' c:=by
 obtain⟨d,h1,h2⟩:=h.nodes;exact⟨h.fr,h.l1,h.l2,h.l3,h.ne,h.blk,⟨d,h1,h2.mono fun v a k _ f=>f.weak i⟩,h.spare,b,h.wf⟩
theorem kE.lts(h:kE wS w g bc bn bs D c):bc<w.heap.size/\bn<w.heap.size/\bs<w.heap.size:=by
 obtain⟨_,h1,_⟩:=h.nodes;obtain⟨_,h2,_⟩:=h.spare;exact⟨h.blk.lt,h1.lt,h2.lt⟩
theorem kE.set(h:kE wS w g bc bn bs D c){c':CD}(o:Blk w' bc 142 (chC c' g bn bs))(b:Fr [bc] w w')(p:c'.M=c.M)(r:c'.S=c.S)(s:WfW c'):kE wS w' g bc bn bs D c':=by
 obtain⟨f,h1,h2⟩:=h.nodes;obtain⟨i,h3,j⟩:=h.spare;have hz:=h.fr.size;refine⟨h.fr.trans b fun q d=>.inr (by have:=aB.1 d;have:=h.l1;omega),h.l1,h.l2,h.l3,h.ne,o,⟨f,h1.fr b (by simpa using h.ne2.1),by rw[p];exact h2.mono fun v a k _ l=>l.fr b (fun q d m=>absurd (aB.1 m) (h.dom q d).1)⟩,⟨i,h3.fr b (by simpa using h.ne2.2),by rw[r];exact j⟩,h.dom,s⟩
theorem aOR(k:Nat):decide (k≠0)=((k:Int)!=0):=by
 rw[jT,uO,aJ];omega
def CD.fail (c:CD) (e:Nat):CD:=if c.e=0 then { c with e:=e } else c
theorem iM(h:kE wS w g bc bn bs D c)(k:Nat):
  Calls prog 98 #[.pointer (some ⟨bc,0,none⟩),.int .i64 (k:Int)] w fun e w'=>e=.returned (.bool (decide ((c.fail k).e≠0)))/\kE wS w' g bc bn bs D (c.fail k)/\Fr [bc] w w'/\w'.heap.size=w.heap.size:=by
 have f:=h.blk.at_ (i:=13) rfl;have q:=h.blk.free 13;have r:=h.blk.lt
 by_cases h0:c.e=0
 ·have d:c.fail k={ c with e:=k }:=by unfold CD.fail;rw[iA h0]
  have b:Fr [bc] w (w.setCell ⟨bc,13,none⟩ (.int .i64 (k:Int))):=(Fr.refl [bc] w).setCell (.inl (by simp)) _
  have m:kE wS (w.setCell ⟨bc,13,none⟩ (.int .i64 (k:Int))) g bc bn bs D (c.fail k):=by
   rw[d];exact h.set (c':={ c with e:=k }) (h.blk.set_ 13 (.int .i64 (k:Int))) b rfl rfl ⟨h.wf.n,h.wf.next,h.wf.head,h.wf.pg,h.wf.rM,h.wf.rS,h.wf.mM,h.wf.mS,h.wf.roots⟩
  have p:(c.fail k).e=k:=by rw[d]
  have j:=lh m;have l:=lh b;rw[p];clear m b h d p;rw[h0]at f;clear h0
  go_enter func98,ntmps98
  go_wp2
  go_ret
  exact⟨by rw[aOR];rfl,j.o,l.o,by simp[World.setCell]⟩
 ·have d:c.fail k=c:=by unfold CD.fail;rw[eA h0]
  rw[d];have j:=lh h;have s:¬ ((c.e:Nat):Int)=0:=by omega
  clear h d h0
  go_enter func98,ntmps98
  go_wp2
  go_ret
  exact⟨by rw[aOR];rfl,j.o,Fr.refl _ _,rfl⟩
end
section
variable {wS w w' : World} {g bc bn bs : Nat} {D D' : Nat -> Prop} {c : CD}
theorem aIi(w:World):(zeroValue 3).run prog w=.ok (.int .i64 0) w:=by kernel_rfl
theorem aEO(w:World):(zeroValue 184).run prog w=.ok (.agg #[.int .i64 0,.int .i64 0,.slice none 0 0]) w:=by kernel_rfl
theorem iL(h:kE wS w g bc bn bs D c){v:Value}{n:Nd}{k base:Nat}(Z:NdV D w base v n)(hk:k<c.n)(a0:n.ok)(a1:n.size<=512):
  Calls prog 119 #[.pointer (some ⟨bc,0,none⟩),.int .i64 (k:Int),v] w fun e w'=>e=.returned (.tuple #[])/\kE wS w' g bc bn bs D (c.write k n)/\Fr [bn,bs] w w':=by
 have B:NdV D w 0 v n:=by
  obtain⟨sv,cs,e1,e2,e3⟩:=Z;exact⟨sv,cs,e1,wC e2 (fun _ _=>rB _),e3⟩
 obtain⟨A,G,cs,rfl,_,_,_,_⟩:=Z.parts;have a4:=h.wf.n;have P:=h.wf.fewS;have Q:=h.wf.fewM;have a2:=h.lts;obtain⟨V,s⟩:=nm (w.alloc (.cells #[.int .i64 (dA n),.int .i64 (n.first:Int),.slice A n.l.length G] 184));have x:Fr [] w V:=by rw[s];exact(Fr.refl [] w).alloc _
 have C:Blk V w.heap.size 184 [.int .i64 (dA n),.int .i64 (n.first:Int),.slice A n.l.length G]:=by rw[s];exact Blk.new w _ [.int .i64 (dA n),.int .i64 (n.first:Int),.slice A n.l.length G]
 have p:=h.frame x;obtain⟨ss,H,I⟩:=p.spare;obtain⟨w1,J,L,m,X⟩:=H.drop Go.Proofs.Tryz.underlying140 (k:=k) (by omega) 0;have a3:∀ty,(Builtin.delete_ #[140,3] ty #[.map (some bs),.int .i64 (k:Int)]).run prog V=.ok (.tuple #[]) w1:=fun ty=>J;have a5:=p.blk.at_ (i:=12) rfl;obtain⟨vs,M,y⟩:=p.nodes;have E:=M.fr m (by have:=h.ne;simpa using this);have F:=p.blk.fr m (by have:=h.ne2.2;simp;omega);have S:=F.at_ (i:=11) rfl;have r:=C.fr m (by simp;omega);have b0:=r.at_ (i:=0) rfl;have b1:=r.at_ (i:=1) rfl;have b2:=r.at_ (i:=2) rfl;obtain⟨O,N,u,t,Y⟩:=(E.fr ((Fr.refl [] w1).drew)).store Go.Proofs.Tryz.underlying139 (k:=k) (by omega) (by have:=y.len;omega) (.agg #[.int .i64 (dA n),.int .i64 (n.first:Int),.slice A n.l.length G]);have b:Fr [bn,bs] w O:=(((x.mono (T:=[bn,bs]) (by simp)).trans (m.mono (T:=[bn,bs]) (by simp)) (fun q d=>.inl d)).drew).trans t (fun q d=>.inl (by simp at d⊢;omega));have f:∀q,D q->q∉[bn,bs]:=fun q d z=>by have:=h.dom q d;simp at z;omega
 have HX:Hid (kE wS O g bc bn bs D (c.write k n)/\Fr [bn,bs] w O):=lh ⟨⟨h.fr.trans b (fun q d=>.inr (by have h1:=h.l2;have h2:=h.l3;simp at d;omega)),h.l1,h.l2,h.l3,h.ne,h.blk.fr b (by have:=h.ne2;simp;omega),
  ⟨_,u,wH.put (B.fr b (fun q d z=>absurd z (f q d))) (y.mono fun v a j _ hw=>(hw.fr m (fun q d z=>absurd (uC _ z) (f q d))).fr (((Fr.refl [bn] w1).drew).trans t (fun q d=>.inl d)) (fun q d z=>absurd (kB.2 (.inl (aB.1 z))) (f q d)))⟩,
  ⟨_,L.fr (((Fr.refl [bn] w1).drew).trans t (fun q d=>.inl d)) (by have:=h.ne;simp;omega),wH.del k I⟩,h.dom,h.wf.write hk a0 a1⟩,b⟩
 have U:=lh N;clear Z B H I L M y E u m t X Y x C r F p b f h J N
 go_enter func119,ntmps119
 go_upto_region 1 with fail
 rw[<- s];clear s;go_wp2_with fail;refine lA (fun W=>W.cell? ⟨bc,11,none⟩=some (.map (some bn))/\W.cell? ⟨w.heap.size,0,none⟩=some (.int .i64 (dA n))/\W.cell? ⟨w.heap.size,1,none⟩=some (.int .i64 (n.first:Int))/\W.cell? ⟨w.heap.size,2,none⟩=some (.slice A n.l.length G)) [0,1,2,3,4,5] (by kernel_rfl) ?_;refine tks [0,1,2,3,4,5] ?_
 iterate 6 (refine tk rfl rfl ⟨S,b0,b1,b2⟩ rfl (fun _ hW=>by(obtain⟨q1,q2,q3,q4⟩:=hW;go_simp)<;>with_reducible rfl) ?_;simp only[nrm])
 refine tke ?_;refine xA (j:=6) none rfl rfl (by kernel_rfl) rfl fun K hK=>?_;have hr:=U.o;refine pB (w':=O) (by simp[execOp,Act.eval,hr,Result.andThen]) (hK _ _ (fun h=>absurd h (by decide +kernel)) ?_);simp only[Act.put];refine wd ?_ _;clear hK hr;go_wp2_with fail
 go_end0
 exact⟨rfl,HX.o.1,HX.o.2⟩
theorem aLM(h:kE wS w g bc bn bs D c){k:Nat}(hk:k<c.n):
  Calls prog 159 #[.pointer (some ⟨bc,0,none⟩),.int .i64 (k:Int)] w fun e w'=>e=.returned (.tuple #[])/\kE wS w' g bc bn bs D (c.free k)/\Fr [bc,bn,bs] w w':=by
 have U:=h.wf.n;have H:=h.wf.fewS;have I:=h.wf.fewM;obtain⟨vs,y,z⟩:=h.nodes;obtain⟨w1,A,B,r,M⟩:=y.drop Go.Proofs.Tryz.underlying139 (k:=k) (by omega) 0;have P:∀ty,(Builtin.delete_ #[139,3] ty #[.map (some bn),.int .i64 (k:Int)]).run prog w=.ok (.tuple #[]) w1:=fun ty=>A;have V:=h.blk.at_ (i:=11) rfl;obtain⟨ss,C,u⟩:=h.spare;have x:=C.fr r (by have:=h.ne;simp;omega);have l:=h.blk.fr r (by have:=h.ne2.1;simp;omega);have J:=l.at_ (i:=12) rfl;have X:=l.at_ (i:=1) rfl;obtain⟨t,E,F,G,N⟩:=(x.fr ((Fr.refl [] w1).drew)).store Go.Proofs.Tryz.underlying140 (k:=k) (by omega) (by have:=u.len;omega) (.int .i64 ((c.head:Nat):Int));have b:Fr [bs] w1 t:=((Fr.refl [bs] w1).drew).trans G (fun q d=>.inl d);have f:=l.fr b (by have:=h.ne2.2;simp;omega);have Y:=f.free 1;have Z:=f.lt;have e1:=f.at_ (i:=1) rfl;have m:Fr [bc] t (t.setCell ⟨bc,1,none⟩ (.int .i64 (k:Int))):=(Fr.refl [bc] t).setCell (.inl (by simp)) _;have p:Fr [bc,bn,bs] w (t.setCell ⟨bc,1,none⟩ (.int .i64 (k:Int))):=((r.mono (T:=[bc,bn,bs]) (fun q d=>.inl (by simp at d⊢;omega))).trans b (fun q d=>.inl (by simp at d⊢;omega))).trans m (fun q d=>.inl (by simp at d⊢;omega));have s:∀q,D q->q∉[bc,bn,bs]:=fun q d O=>by have:=h.dom q d;simp at O;omega
 have Q:Hid (kE wS (t.setCell ⟨bc,1,none⟩ (.int .i64 (k:Int))) g bc bn bs D (c.free k)/\Fr [bc,bn,bs] w (t.setCell ⟨bc,1,none⟩ (.int .i64 (k:Int)))):=lh ⟨⟨h.fr.trans p (fun q d=>.inr (by have h0:=h.l1;have h1:=h.l2;have h2:=h.l3;simp at d;omega)),h.l1,h.l2,h.l3,h.ne,f.set_ 1 (.int .i64 (k:Int)),
  ⟨_,(B.fr b (by have:=h.ne;simp;omega)).fr m (by have:=h.ne2.1;simp;omega),(wH.del k z).mono fun v a j _ hw=>hw.fr p (fun q d O=>absurd O (s q d))⟩,
  ⟨_,F.fr m (by have:=h.ne2.2;simp;omega),wH.put (R:=fun v n=>v=.int .i64 ((n:Nat):Int)) (a:=c.head) rfl u⟩,h.dom,h.wf.free hk⟩,p⟩
 have L:=lh E;clear C u x F y z B r G b M N m l f p s h A E
 go_enter func159,ntmps159
 go_wp2_with fail;refine lA (fun W=>W.cell? ⟨bc,12,none⟩=some (.map (some bs))/\W.cell? ⟨bc,1,none⟩=some (.int .i64 ((c.head:Nat):Int))) [0,1,2,3,4,5,6,7,8,9] (by kernel_rfl) ?_;refine tks [0,1,2,3,4,5,6,7,8,9] ?_
 iterate 10 (refine tk rfl rfl ⟨J,X⟩ rfl (fun _ hW=>by(obtain⟨q1,q2⟩:=hW;go_simp)<;>with_reducible rfl) ?_;simp only[nrm])
 refine tke ?_;refine xA (j:=10) none rfl rfl (by kernel_rfl) rfl fun K hK=>?_;have S:=L.o;refine pB (w':=t) (by simp[execOp,Act.eval,S,Result.andThen]) (hK _ _ (fun h=>absurd h (by decide +kernel)) ?_);simp only[Act.put];refine wd ?_ _;clear hK S;go_wp2_with fail
 go_end0
 exact⟨rfl,Q.o.1,Q.o.2⟩
end
structure PgC (w0 wS:World) (dk g:Nat) (s:PS) (X:Nat->Prop) (c:CD):Prop where
 px:PgX w0 wS dk g s X
 br:s.br=false
 calm:aAG s
 pg:c.pg=s.page
 n:c.n=s.n
theorem aGF{w0 w:World}{d g:Nat}{s:PS}{X:Nat->Prop}(h:PgX w0 w d g s X):Calls prog 96 #[.pointer (some ⟨g,0,none⟩)] w fun e w'=>e=.returned (.int .i64 (s.n:Int))/\w=w':=by
 obtain⟨lg,b,c,f,h1,_⟩:=h;exact aQu h1
theorem qB{a b:Int}{A:Option Addr}{n c:Nat}:∀u∈[Value.int .i64 a,.int .i64 b,.slice A n c],u.oneCell'=true:=by
 intro u d
 simp at d
 rcases d with rfl|rfl|rfl<;>rfl
theorem NdV.low{D:Nat->Prop}{w:World}{b b':Nat}{v:Value}{n:Nd}(h:NdV D w b v n)(i:b'<=b):NdV D w b' v n:=by
 obtain⟨sv,cs,d,c,f⟩:=h;exact⟨sv,cs,d,wC c (fun q g=>by have:=(c.lt q g).1;omega),f⟩
section
variable {w0 wS w w' : World} {dk g bc bn bs : Nat} {s : PS} {X D D' : Nat -> Prop} {c : CD}
theorem aLN{k:Nat}{n:Nd}(h:c.N k=some n):xF c.M k=some n∨(xF c.M k=none/\1<=k/\k<c.n/\aMW (c.pg k)=some n):=by
 unfold CD.N at h
 split at h
 ·cases h
 ·cases b:xF c.M k with
  | some m=>
   rw[b]at h;simp only[vI]at h;exact .inl (by rw[h])
  | none=>
   rw[b]at h
   simp only at h
   split at h
   ·rename_i h1
    exact .inr ⟨rfl,h1.1,h1.2,h⟩
   ·cases h
theorem WfW.getM(h:WfW c){k:Nat}{n:Nd}(b:xF c.M k=some n):k<c.n/\n.ok/\n.size<=512:=h.mM _ (xY b)
theorem WfW.N_ok(h:WfW c){k:Nat}{n:Nd}(f:c.N k=some n):k<c.n/\n.ok/\n.size<=512:=by
 rcases aLN f with d|⟨_,_,h2,h3⟩
 ·exact h.getM d
 ·obtain⟨a,_,b⟩:=aHR h3;exact⟨h2,a,b⟩
theorem pN(hp:PgC w0 wS dk g s X c)(h:kE wS w g bc bn bs D c){k:Nat}{n:Nd}(hN:c.N k=some n)(hD:∀q,w.heap.size<=q->D q):
  Calls prog 97 #[.pointer (some ⟨bc,0,none⟩),.int .i64 (k:Int)] w fun e w'=>∃nv,e=.returned (.tuple #[nv,.int .i64 0])/\NdV D w' w.heap.size nv n/\Fr [] w w':=by
 obtain⟨d',a2,a3⟩:=h.wf.N_ok hN;have d7:=h.wf.n;obtain⟨w1,p⟩:=nm (w.alloc (.cells znd.toArray 184));have m:Fr [] w w1:=by rw[p];exact(Fr.refl [] w).alloc _
 have I:Blk w1 w.heap.size 184 znd:=by rw[p];exact Blk.new w _ znd
 have J:=h.frame m;obtain⟨vs,a4,M⟩:=h.nodes;have U:=a4.fr m;have y:=U.look_ok Go.Proofs.Tryz.underlying139 (aEO w1) (k:=k) (by omega);have a9:=J.blk.at_ (i:=11) rfl;have L:Hid (w1.heap.size=w.heap.size+1):=lh (by rw[p,xC]);have d6:=qE a3;refine gA fun R HQ=>?_;rcases aLN hN with H|⟨H,e0,e1,T⟩
 ·rcases wH.get k M with ⟨h1,_⟩|⟨n',v,h1,h2,hv⟩
  ·rw[H]at h1;cases h1
  ·rw[H]at h1;injection h1 with h1;subst h1;obtain⟨A,ca,cs,rfl,d3,u,x,a5⟩:=hv.parts;rw[h2]at y;simp only[yT,Option.isSome_some]at y;obtain⟨gs,b9,_,_⟩:=iH.of_own u w.heap.size;have c2:=lh (b9.fr m);have C:=lh x.len;have c3:=lh x.one;have HI:=lh x;have V:=lh m;have Y:=lh I;have HD:=lh hD;clear hv b9 x u a5 m I a4 U M J h hp hN H a2 a3 h2 hD
   go_enter func97,ntmps97
   go_upto_region 1 with (with_reducible refine mA rfl 184 rfl (.agg #[.int .i64 0,.int .i64 0,.slice none 0 0]) znd.toArray kD rfl ?_)
   rw[<- p];clear p
   go_wp2_with (first
    | (with_reducible refine mA rfl 184 rfl (.agg #[.int .i64 0,.int .i64 0,.slice none 0 0]) znd.toArray kD rfl ?_)
    | (refine vA (W:=w1) rfl 184 (.tmp 6) (.tmp 19) rfl [.int .i64 (dA n),.int .i64 (n.first:Int),.slice A n.l.length ca] rfl rfl rfl oB rfl qB ?_))
   intro w2 f r F;have b0:=f.at_ (i:=0) rfl;have b1:=f.at_ (i:=1) rfl;have b2:=f.at_ (i:=2) rfl;have z:=lh r;have Z:=lh F;have a':=lh (Y.o.fr r);clear f r F y a9;go_wp2_with fail;refine lA (fun W=>W.cell? ⟨w1.heap.size,0,none⟩=some (.int .i64 (dA n))/\W.cell? ⟨w1.heap.size,1,none⟩=some (.int .i64 (n.first:Int))/\W.cell? ⟨w1.heap.size,2,none⟩=some (.slice A n.l.length ca)) [0,1,2,3,4,5,7] (by kernel_rfl) ?_;refine tks [0,1,2,3,4,5] ?_
   iterate 6 (refine tk rfl rfl ⟨b0,b1,b2⟩ rfl (fun _ hW=>by(obtain⟨q0,q1,q2⟩:=hW;go_simp)<;>with_reducible rfl) ?_;simp only[nrm])
   refine tke ?_;refine sp 6 rfl rfl rfl fun K hK=>?_;refine jA (l:=[.tmp 27]) rfl [.slice A n.l.length ca] rfl (iI _) ((kJ (c2.o.fr (S:=[]) (z.o.drew) (by simp)) C.o c3.o (by omega)).mono ?_);rintro e w4 ⟨sl,rfl,d,E⟩;obtain⟨A',c',rfl,_,_⟩:=sA d;have c4:w2.drew.heap.size=w2.heap.size:=rfl;rw[c4]at d;have b:Fr [] w2 w4:=((Fr.refl [] w2).drew).trans E;refine⟨_,rfl,hK _ _ (fun _=>⟨aA b b0,aA b b1,aA b b2⟩) ?_⟩;simp only[nrm];clear hK;refine tks [7] ?_;refine tk rfl rfl ⟨aA b b0,aA b b1,aA b b2⟩ rfl (fun _ _=>by go_simp<;>with_reducible rfl) ?_;simp only[nrm];refine tke ?_;refine xA (j:=8) none rfl rfl (by kernel_rfl) rfl fun K hK=>?_;refine yA 184 (.tmp 4) (.tmp 29) rfl [.int .i64 (dA n),.int .i64 (n.first:Int),.slice A' n.l.length c'] rfl rfl (a'.o.fr b) oB rfl qB fun w6 f t a8=>hK _ _ (fun h=>absurd h (by decide +kernel)) ?_;simp only[Act.put];clear hK;refine sp 9 rfl rfl rfl fun K hK=>?_;refine nA (v:=?aq1_9) ?yq1_9 (hK _ _ (fun h=>absurd h (by decide +kernel)) ?_)
   case yq1_9=>go_simp<;>with_reducible rfl
   simp only[nrm];refine wd ?_ _;have B:Fr [] w w6:=(((V.o.trans z.o).trans b)).trans t (fun q G=>.inr (by have:=aB.1 G;omega));have HE:Hid (R (.returned (.tuple #[.agg #[.int .i64 (dA n),.int .i64 (n.first:Int),.slice A' n.l.length c'],.int .i64 0])) w6):=lh (HQ.o _ _ ⟨_,rfl,NdV.make HI.o (wC (iB d t (fun q G H=>by have:=(d.lt q G).1;have:=aB.1 H;have:=Z.o;have:=L.o;omega)) (fun q G=>by have:=(d.lt q G).1;have:=Z.o;have:=L.o;omega)) B HD.o,B⟩);have a0:=lh f;clear f t a8 B d E b;go_wp2_with fail;exact eF (mJ rfl rfl a0.o Go.Proofs.Tryz.underlying184 rfl oB) rfl HE.o
 ·have h2:xF vs k=none:=by
   rcases wH.get k M with ⟨_,h2⟩|⟨n',v,h1,_⟩
   ·exact h2
   ·rw[H]at h1;cases h1
  rw[h2]at y;simp only[Option.getD_none,Option.isSome_none]at y;obtain⟨_,b',_⟩:=aHR T;have P:s.page k=n.written++List.replicate (512-n.written.length) 0:=by rw[<- hp.pg,b'];rfl
  have Q:(n.written++List.replicate (512-n.written.length) (0:UInt8)).length=512:=by rw[lB,zT,n.written_len];omega
  have b3:Hid (∀W,Fr [] w1 W->PgX w0 W dk g s X):=lh fun W hW=>hp.px.stay ((h.fr.trans m).trans hW);have HP:=lh hp;have d8:(k:Int)<(s.n:Int):=by have:=hp.n;omega
  have d9:¬ (k:Int)<1:=by omega
  have c5:Hid (k<s.n):=lh (by omega);have c6:=lh J.blk;have V:=lh m;have Y:=lh I;have HD:=lh hD;have c7:=lh P;have C:=lh Q;have c8:=lh a2;clear m I a4 U M J h hp hN H a2 a3 h2 hD P Q b' T
  go_enter func97,ntmps97
  go_upto_region 1 with (with_reducible refine mA rfl 184 rfl (.agg #[.int .i64 0,.int .i64 0,.slice none 0 0]) znd.toArray kD rfl ?_)
  rw[<- p];clear p
  go_wp2_with (first
   | (with_reducible refine mA rfl 184 rfl (.agg #[.int .i64 0,.int .i64 0,.slice none 0 0]) znd.toArray kD rfl ?_)
   | (refine vA (W:=w1) rfl 184 (.tmp 6) (.tmp 19) rfl [.int .i64 0,.int .i64 0,.slice none 0 0] rfl rfl rfl oB rfl qB ?_))
  intro w2 f r F;have z:=lh r;have Z:=lh F;have c9:=(c6.o.fr r).at_ (i:=10) rfl;clear f r F y a9;go_wp2_with fail;refine(aGF (b3.o w2 z.o)).mono ?_;rintro e e2 ⟨rfl,rfl⟩;go_wp2_with fail;refine(aKl (b3.o w2 z.o) HP.o.br HP.o.calm k c5.o).mono ?_;rintro e w3 ⟨rv,gb,rfl,a6,d4,c0⟩;rw[c7.o]at a6;have b4:=lh (aON a6 C.o c8.o);have a1:=lh (z.o.trans c0);clear a6 d4 c0 c9;go_wp2_with fail;refine b4.o.mono ?_;rintro e w4 ⟨nv,rfl,a7,E⟩;obtain⟨A,ca,cs,rfl,d3,u,_,_⟩:=a7.parts;have b5:=lh (a1.o.trans E);have d0:=lh a7;have b6:Hid (w.heap.size<=w3.heap.size):=lh (by have:=a1.o.size;have:=L.o;omega);clear E a7 u b4
  go_wp2_with (first
   | (with_reducible refine mA rfl 184 rfl (.agg #[.int .i64 0,.int .i64 0,.slice none 0 0]) znd.toArray kD rfl ?_)
   | (refine vA (W:=w4) rfl 184 (.tmp 10) (.tmp 58) rfl [.int .i64 (dA n),.int .i64 (n.first:Int),.slice A n.l.length ca] rfl rfl rfl oB rfl qB ?_))
  intro w5 c1 O d5;have d1:=lh c1;have b7:=lh ((Y.o.fr b5.o).fr O);have d2:=lh (b5.o.trans O);have b8:=lh (d0.o.fr O);clear c1 O d5
  go_wp2_with (first
   | (refine iO rfl 184 (.tmp 10) rfl rfl d1.o Go.Proofs.Tryz.underlying184 rfl oB ?_)
   | (refine oD rfl 184 (.tmp 4) (.tmp 63) rfl [.int .i64 (dA n),.int .i64 (n.first:Int),.slice A n.l.length ca] rfl rfl b7.o oB rfl qB ?_))
  intro w6 f t a8;have B:Fr [] w w6:=(V.o.trans d2.o).trans t (fun q G=>.inr (by have:=aB.1 G;omega))
  have HE:Hid (R (.returned (.tuple #[.agg #[.int .i64 (dA n),.int .i64 (n.first:Int),.slice A n.l.length ca],.int .i64 0])) w6):=lh (HQ.o _ _ ⟨_,rfl,((b8.o.fr t (fun q G H=>by
   have h1:=aB.1 H;have h2:=L.o;have h3:=a1.o.size;have h4:w3.heap.size<=q:=G;omega)).weak (fun q G=>HD.o q (aF b6.o G))).low b6.o,B⟩)
  have a0:=lh f;clear f t a8 B;go_wp2_with fail;exact eF (mJ rfl rfl a0.o Go.Proofs.Tryz.underlying184 rfl oB) rfl HE.o
end
section
variable {w0 wS w w' : World} {dk g bc bn bs : Nat} {s : PS} {X D D' : Nat -> Prop} {c : CD}
def CD.nxC (c:CD) (k:Nat):Nat:=match xF c.S k with|some j=>j|none=>r16 (c.pg k)
theorem aOS{k j:Nat}(h:c.nx k=some j):c.nxC k=j:=by
 unfold CD.nx at h;unfold CD.nxC
 cases b:xF c.S k with
 | some i=>rw[b]at h;simp only[vI]at h;exact h
 | none=>
  rw[b]at h
  simp only at h
  split at h
  ·cases h
  ·simpa using h
theorem aOT(b:List UInt8):r16 b<65536:=by
 unfold r16;have:=(b.getD 0 0).toNat_lt;have:=(b.getD 1 0).toNat_lt;omega
theorem aRP(h:WfW c)(k:Nat):c.nxC k<65536:=by
 unfold CD.nxC
 cases b:xF c.S k with
 | some i=>exact(h.mS _ (xY b)).2
 | none=>exact aOT _
theorem rQ(b:c.e=0):c.fail 0=c:=by
 unfold CD.fail;rw[iA b]
 cases c
 simp only at b
 rw[b]
theorem aEP(u:PgC w0 wS dk g s X c)(h:kE wS w g bc bn bs D c){k:Nat}(Y:k<c.n)(Q:c.e=0):
  Calls prog 74 #[.pointer (some ⟨bc,0,none⟩),.int .i64 (k:Int)] w fun e w'=>e=.returned (.int .i64 ((c.nxC k:Nat):Int))/\kE wS w' g bc bn bs D c/\Fr [bc] w w':=by
 have Z:=h.wf.n;obtain⟨ss,l,m⟩:=h.spare;have b:=l.look_ok Go.Proofs.Tryz.underlying140 (aIi w) (k:=k) (by omega);have B:=h.blk.at_ (i:=12) rfl;refine gA fun R W=>?_;rcases wH.get k m with ⟨h1,h2⟩|⟨j,v,h1,h2,hv⟩
 ·rw[h2]at b;simp only[Option.getD_none,Option.isSome_none]at b;have d:c.nxC k=r16 (s.page k):=by unfold CD.nxC;rw[h1,<- u.pg]
  have f:(s.page k).length=512:=by rw[<- u.pg];exact h.wf.pg k Y
  have C:=lh h;have E:=lh u;have HN:=lh d;have HL:=lh f;have S:=lh Q;have F:Hid (k<s.n):=lh (by rw[<- u.n];exact Y);have G:=h.blk.at_ (i:=10) rfl;clear l m h u d h1 h2 f Q
  go_enter func74,ntmps74
  go_wp2_with fail;refine(aKl (E.o.px.stay C.o.fr) E.o.br E.o.calm k F.o).mono ?_;rintro e w3 ⟨rv,gb,rfl,z,A,p⟩;have H:=lh p;have I:=lh z;have J:=lh A;have x:=lh (iM (C.o.frame p) 0);clear p z A G B b;go_wp2_with fail;refine x.o.mono ?_;rintro e V ⟨rfl,r,t,O⟩;rw[rQ S.o]at r⊢;have U:decide (c.e≠0)=false:=by rw[S.o];rfl
  rw[U];have L:=lh r;have M:=lh t;have y:=lh (lJ (I.o.fr t (fun hm=>by have:=aB.1 hm;have:=J.o;have:=C.o.lts.1;omega)) (by rw[HL.o];omega));clear r t O x U;go_wp2_with fail;refine y.o.mono ?_;rintro e w5 ⟨rfl,P,rfl⟩;have N:Hid (R (.returned (.int .i64 ((r16 (s.page k):Nat):Int))) (V.drewN P)):=lh (W.o _ _ ⟨by rw[HN.o],L.o.frame ((Fr.refl [] V).drewN P),((H.o.mono (T:=[bc]) (by simp)).trans M.o (fun q hq=>.inl hq)).drewN P⟩);clear y;go_wp2_with fail;exact N.o
 ·rw[h2,hv]at b;simp only[yT,Option.isSome_some]at b;have d:c.nxC k=j:=by unfold CD.nxC;rw[h1]
  have N:Hid (R (.returned (.int .i64 ((j:Nat):Int))) w):=lh (W.o _ _ ⟨by rw[d],h,Fr.refl _ _⟩);clear l m h u d h1 h2 Q
  go_enter func74,ntmps74
  go_wp2_with fail;exact N.o
theorem WfW.with_head(h:WfW c){j:Nat}(b:j<65536):WfW { c with head:=j }:=⟨h.n,h.next,b,h.pg,h.rM,h.rS,h.mM,h.mS,h.roots⟩
theorem WfW.with_next(h:WfW c){j:Nat}(b:j<=c.n):WfW { c with next:=j }:=⟨h.n,b,h.head,h.pg,h.rM,h.rS,h.mM,h.mS,h.roots⟩
theorem aDy(p:PgC w0 wS dk g s X c)(h:kE wS w g bc bn bs D c)(he:c.e=0)(C:c.head≠0->c.head<c.n/\∃j,c.nx c.head=some j):
  Calls prog 118 #[.pointer (some ⟨bc,0,none⟩)] w fun e w'=>e=.returned (.int .i64 ((c.alloc.2:Nat):Int))/\kE wS w' g bc bn bs D c.alloc.1/\Fr [bc] w w':=by
 have Q:=h.wf.n;have O:=h.wf.next;have c0:=h.blk.at_ (i:=0) rfl;have c1:=h.blk.at_ (i:=1) rfl;have E:=h.blk.at_ (i:=10) rfl;have F:=h.blk.free;have S:=h.blk.lt;refine gA fun R l=>?_
 by_cases h0:c.head≠0
 ·obtain⟨hk,j,L⟩:=C h0;have f:c.alloc=({ c with head:=j },c.head):=by unfold CD.alloc;rw[iA h0,L];rfl
  rw[f]at l;have k:=aOS L;have G:=aEP p h hk he;rw[k]at G;have r:=lh G;have t:j<65536:=by rw[<- k];exact aRP h.wf _
  have H:=lh t;have u:¬ ((c.head:Nat):Int)=0:=by omega
  clear h p L f k G t C F E c0
  go_enter func118,ntmps118
  go_wp2_with fail;refine r.o.mono ?_;rintro e B ⟨rfl,b,x⟩;have d1:=b.blk.at_ (i:=1) rfl;have T:=b.blk.free 1;have U:=b.blk.lt;have d:Fr [bc] B (B.setCell ⟨bc,1,none⟩ (.int .i64 (j:Int))):=(Fr.refl [bc] B).setCell (.inl (by simp)) _;have I:Hid (R (.returned (.int .i64 ((c.head:Nat):Int))) (B.setCell ⟨bc,1,none⟩ (.int .i64 (j:Int)))):=lh (l.o _ _ ⟨rfl,b.set (c':={ c with head:=j }) (b.blk.set_ 1 (.int .i64 (j:Int))) d rfl rfl (b.wf.with_head H.o),x.trans d (fun q N=>.inl N)⟩);clear b x d r;go_wp2_with fail;exact I.o
 ·have J:c.head=0:=by omega
  have v:=lh h;have V:=lh p;have W:=p.n;rw[J]at c1
  have P:Hid (∀nq,Calls prog 96 #[.pointer (some ⟨g,0,none⟩)] (w.drewN nq) fun e w'=>e=.returned (.int .i64 (s.n:Int))/\∃m,w'=w.drewN m):=lh fun nq=>Go.Calls.quiet_of_same (by
   have h:=aGF ((V.o.px.stay v.o.fr).stay ((Fr.refl [] w).drewN nq));exact h.mono fun e w' ⟨h1,h2⟩=>⟨h1,h2.symm⟩)
  by_cases A:c.next<c.n
  ·have f:c.alloc=({ c with next:=c.next+1 },c.next):=by unfold CD.alloc;rw[eA h0,iA A]
   rw[f]at l;have u:((c.next:Nat):Int)<(s.n:Int):=by omega
   have Y:IntKind.i64.wrap (((c.next:Nat):Int)+1)=((c.next:Nat):Int)+1:=by rw[iD];omega
   have Z:Hid (∀nq,R (.returned (.int .i64 ((c.next:Nat):Int))) ((w.drewN nq).setCell ⟨bc,0,none⟩ (.int .i64 (((c.next:Nat):Int)+1)))):=lh fun nq=>l.o _ _ ⟨rfl,by
    have d:Fr [bc] w ((w.drewN nq).setCell ⟨bc,0,none⟩ (.int .i64 (((c.next:Nat):Int)+1))):=((Fr.refl [bc] w).drewN nq).setCell (.inl (by simp)) _;exact⟨v.o.set (c':={ c with next:=c.next+1 }) ((v.o.blk.drewN nq).set_ 0 (.int .i64 (((c.next:Nat):Int)+1))) d rfl rfl (v.o.wf.with_next A),d⟩⟩
   clear h p C A f h0
   go_enter func118,ntmps118
   go_wp2_with fail
   go_quiet (first|with_reducible exact P.o _)
   go_wp2_with fail;exact Z.o _
  ·have f:c.alloc=(c.fail 5,0):=by unfold CD.alloc;rw[eA h0,eA A];rfl
   rw[f]at l;have u:¬ ((c.next:Nat):Int)<(s.n:Int):=by omega
   clear h p C A f h0
   go_enter func118,ntmps118
   go_wp2_with fail
   go_quiet (first|with_reducible exact P.o _)
   go_wp2_with fail;refine(iM (v.o.frame ((Fr.refl [] w).drewN _)) 5).mono ?_;rintro e w4 ⟨rfl,y,z,M⟩;have I:Hid (R (.returned (.int .i64 0)) w4):=lh (l.o _ _ ⟨rfl,y,((Fr.refl [bc] w).drewN _).trans z (fun q N=>.inl N)⟩);clear y z M;go_wp2_with fail;exact I.o
end
end
end Go.Proofs.YtebjhcjbfaaejaaGreatDoor
