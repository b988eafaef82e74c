/-
  Joined: Or Qa Qb Qc Qd
-/
import Derived.Test.YtebjhcjbfaaejaaGreatDoorJca14
set_option maxRecDepth 100000
set_option maxHeartbeats 32000000
namespace Go.Proofs.YtebjhcjbfaaejaaGreatDoor
open Go.Proofs.Tryz
variable {u:Value}
section
open Go.RowKit Go.ChangeMaps Go.MapKept Go.Maps Go.Sort Go.Shelf
def zup:List Value:=[.slice none 0 0,.int .i64 0]
theorem jL:(prog.info? 212).map (·.zero)=some (some (.agg #[.slice none 0 0,.int .i64 0])):=by kernel_rfl
theorem qC:(prog.info? 212).map (·.size)=some 2:=by kernel_rfl
theorem wD{a:Int}{A:Option Addr}{n c:Nat}:∀u∈[Value.slice A n c,.int .i64 a],u.oneCell'=true:=by
 intro u b
 simp at b
 rcases b with rfl|rfl<;>rfl
def UpV (D:Nat->Prop) (w:World) (v:Value) (u:Ky×Nat):Prop:=∃kv,v=.agg #[kv,.int .i64 ((u.2:Nat):Int)]/\∃g,cA w kv u.1 g/\D g
theorem aBq(b:Array Value)(w:World):(callFunc 189 b).run prog w=.ok (.enter 189 b) w:=by kernel_rfl
section
variable {w0 wS w w' : World} {dk g bc bn bs : Nat} {s : PS} {X D D' : Nat -> Prop} {c : CD}
theorem NdV.re{base:Nat}{v:Value}{n:Nd}(h:NdV D w base v n)(hD:∀q,D q->q<w.heap.size->D' q)(h0:∃q,D' q/\w.heap.size<=q):NdV D' w base v n:=by
 obtain⟨j,f,l⟩:=h0;obtain⟨sv,cs,m,i,o,p⟩:=h;exact⟨sv,cs,m,i,o.re (fun q b r=>⟨hD q b.1 r,b.2⟩) ⟨j,f,fun e=>by have:=sF i _ e;omega⟩,fun q b=>hD q (p q b) (sF i q b)⟩
theorem aBI(c:CD):c.alloc.1.n=c.n:=by
 unfold CD.alloc
 split
 ·rfl
 ·split
  ·rfl
  ·unfold CD.full;split<;>rfl
theorem aGG{U F:List Nat}(h:Acc c U F):c.head≠0->c.head<c.n/\∃j,c.nx c.head=some j:=fun h0=>by
 cases F with
 | nil=>exact absurd h.chain h0
 | cons a F=>
  obtain⟨h1,j,h2,_⟩:=h.chain;have:=(h.mem (k:=a) (.inr (sB ..))).2;have:=h.next2;exact⟨by omega,j,by rw[h1];exact h2⟩
theorem aAM(hp:PgC w0 wS dk g s X c)(h:kE wS w g bc bn bs D c){v:Value}{n:Nd}{k base:Nat}(hv:NdV D w base v n)(hk:k<c.n)(c7:n.ok)(hs:n.size<=if n.lf then 680 else 780)(he:c.e=0)
 (hh:c.head≠0->c.head<c.n/\∃j,c.nx c.head=some j)(hD:∀q,w.heap.size<=q->D q):
  Calls prog 156 #[.pointer (some ⟨bc,0,none⟩),.int .i64 (k:Int),v] w fun e w'=>∃uv,e=.returned uv/\UpV D w' uv (c.lay k n).2/\kE wS w' g bc bn bs D (c.lay k n).1/\Fr [bc,bn,bs] w w':=by
 have b3:n.size<=65536:=by split at hs<;>omega
 obtain⟨A,ca,cs,rfl,_,_,_,_⟩:=hv.parts;obtain⟨wb,O⟩:=nm ((w.alloc (.cells #[.int .i64 (dA n),.int .i64 (n.first:Int),.slice A n.l.length ca] 184)).alloc (.cells zup.toArray 212));have H:Fr [] w wb:=by rw[O];exact((Fr.refl [] w).alloc _).alloc _
 have c8:Blk wb w.heap.size 184 [.int .i64 (dA n),.int .i64 (n.first:Int),.slice A n.l.length ca]:=by rw[O];exact(Blk.new w _ [.int .i64 (dA n),.int .i64 (n.first:Int),.slice A n.l.length ca]).alloc _
 have c9:Blk wb (w.heap.size+1) 212 zup:=by
  rw[O];have:=Blk.new (w.alloc (.cells #[.int .i64 (dA n),.int .i64 (n.first:Int),.slice A n.l.length ca] 184)) 212 zup
  rwa [xC]at this
 have i9:=h.lts;obtain⟨E,hE⟩:∃E:Nat->Prop,E=fun q=>D q/\q≠w.heap.size+1:=⟨_,rfl⟩;have P:∀q,w.heap.size+2<=q->E q:=fun q b=>by rw[hE];exact⟨hD q (by omega),by omega⟩
 have b4:∀q,D q->q<w.heap.size->E q:=fun q b hl=>by rw[hE];exact⟨b,by omega⟩
 have b5:∀q,E q->D q/\q≠w.heap.size+1:=fun q b=>by rw[hE]at b;exact b
 have h0:=h;have h:=h.re b4 ⟨w.heap.size+2,P _ (tA _),by omega⟩ (fun q b=>h.dom q (b5 q b).1);have hv:=hv.re b4 ⟨w.heap.size+2,P _ (tA _),by omega⟩;have g8:=lh P;have f:=lh b5;clear hE P b4 b5;have c':=lh (aBG (hv.fr H) c7 b3);have HH:=lh (h.frame H);have HV:=lh (hv.fr H);have d3:=lh H;have I:=lh c8;have d4:=lh c9;have HP:=lh hp;have b6:=lh c7;have HD:=lh hD;have d5:=lh hh;have HE:=lh he;have HS:=lh hs;have g9:=lh b3;have b7:=lh hk;have j0:((n.size:Int)<=512)↔n.size<=512:=by omega
 have d6:Hid (wS.heap.size<=w.heap.size):=lh h0.fr.size;have J:Hid (∀q,D q->q≠bc/\q≠bn/\q≠bs):=lh h0.dom;clear H c8 c9 h h0 hv hp c7 hD hh he hs b3 hk;refine gA fun R HQ=>?_
 go_enter func156,ntmps156
 go_upto_region 1 with (with_reducible refine mA rfl 212 rfl (.agg #[.slice none 0 0,.int .i64 0]) zup.toArray jL rfl ?_)
 rw[<- O];have Q:(w.alloc (.cells #[.int .i64 (dA n),.int .i64 (n.first:Int),.slice A n.l.length ca] 184)).heap.size=w.heap.size+1:=by rw[xC]
 rw[Q];clear O Q;have b0:=I.o.at_ (i:=0) rfl;have b1:=I.o.at_ (i:=1) rfl;have b2:=I.o.at_ (i:=2) rfl;go_wp2_with fail;refine c'.o.mono ?_;rintro e w1 ⟨rfl,C⟩;have d7:=lh (d3.o.trans C);have d8:=lh (HH.o.frame C);have d9:=lh (HV.o.fr C);have L:=lh (I.o.fr C);have u:=lh (d4.o.fr C);clear b0 b1 b2 C c' d3 HH HV I d4;have b0:=L.o.at_ (i:=0) rfl;have b1:=L.o.at_ (i:=1) rfl;have b2:=L.o.at_ (i:=2) rfl
 by_cases h5:n.size<=512
 ·have el:c.lay k n=(c.write k n,([],0)):=by unfold CD.lay;rw[iA h5]
  rw[el]at HQ;have HW:=lh (iL d8.o d9.o b7.o b6.o h5);clear el;go_wp2_with fail;refine HW.o.mono ?_;rintro e w2 ⟨rfl,f6,r⟩;have d':=lh f6;have g':=lh r;have e0:=lh (u.o.fr r (by simp;omega));clear f6 r HW b0 b1 b2
  go_wp2_with (refine oD rfl 212 (.tmp 6) (.tmp 18) rfl [.slice none 0 0,.int .i64 0] rfl rfl e0.o qC rfl wD ?_)
  intro w3 g3 G c3;have V:Fr [bc,bn,bs] w w3:=((d7.o.mono (T:=[bc,bn,bs]) (by simp)).trans g'.o (fun q b=>.inl (by simp at b⊢;omega))).trans G (fun q b=>.inr (by have:=aB.1 b;omega))
  have HX:Hid (R (.returned (.agg #[.slice none 0 0,.int .i64 0])) w3):=lh (HQ.o _ _ ⟨_,rfl,⟨_,rfl,w.heap.size,cA.nil _ _,HD.o _ (tA _)⟩,(d'.o.frS G (fun q b=>.inr (by
   have h1:=aB.1 b;have h2:=d'.o.fr.size;have h3:=d6.o;exact⟨by omega,fun b=>(f.o q b).2 h1,by omega⟩))).weak (fun q b=>(f.o q b).1) J.o,V⟩)
  have h4:=lh g3;clear g3 G c3 V;go_wp2_with fail;exact yH (g:=w.heap.size+1) (t':=212) (cs:=[.slice none 0 0,.int .i64 0]) (d:=_) rfl rfl h4.o Go.Proofs.Tryz.underlying212 rfl qC HX.o
 ·obtain⟨s1,s2,s3,s4,s5,s6,s7,s8⟩:=Nd.split_ok b6.o (by omega) HS.o;have el:c.lay k n=((c.alloc.1.write k n.left).write c.alloc.2 n.right,(n.key,c.alloc.2)):=by unfold CD.lay;rw[eA h5]
  rw[el]at HQ;have e1:=lh (aId d9.o b6.o g9.o s2 s1 (fun q b=>g8.o q (by have:=u.o.lt;omega)));have h6:=lh s3;have h7:=lh s4;have h8:=lh s7;have h9:=lh s8;have W:c.alloc.1.n=c.n:=aBI c
  have e2:c.alloc.2<c.n:=by
   unfold CD.alloc
   split
   ·rename_i h;exact(d5.o h).1
   ·split
    ·assumption
    ·have:=b7.o;show 0<c.n;omega
  have e3:=lh W;have h':=lh e2;clear el s1 s2 s3 s4 s5 s6 s7 s8 W e2;go_upto_region 4 with fail
  refine fE ?_;refine rn rfl (by go_simp<;>with_reducible rfl) ?_;simp only[nrm];refine lp fun K hK=>?_;refine jA (l:=[.tmp 20]) rfl [.agg #[.int .i64 (dA n),.int .i64 (n.first:Int),.slice A n.l.length ca]] rfl (aBq _) (e1.o.mono ?_);rintro e w2 ⟨lv,kv,rv,rfl,c1,⟨gk,f7,f8⟩,c2,r⟩;obtain⟨Al,cl,j1,rfl,_,_,_,_⟩:=c1.parts;obtain⟨Ar,cr,j2,rfl,_,_,_,_⟩:=c2.parts;refine⟨_,rfl,hK _ _ ?_⟩;simp only[nrm];clear hK b0 b1 b2
  iterate 4 (refine rn rfl (by go_simp<;>with_reducible rfl) ?_;simp only[nrm])
  refine lp fun K hK=>?_;refine yB 184 rfl (.agg #[.int .i64 0,.int .i64 0,.slice none 0 0]) znd kD rfl fun w3 g6 G c3=>hK _ _ ?_;simp only[nrm];clear hK;refine lp fun K hK=>?_;refine yB 184 rfl (.agg #[.int .i64 0,.int .i64 0,.slice none 0 0]) znd kD rfl fun w4 g7 c4 i6=>hK _ _ ?_;simp only[nrm];clear hK;refine lp fun K hK=>?_;refine yA 184 (.tmp 7) (.tmp 22) rfl [.int .i64 (dA n.left),.int .i64 (n.left.first:Int),.slice Al n.left.l.length cl] rfl rfl (g6.fr c4) oB rfl qB fun w5 a9 c5 i7=>hK _ _ ?_;simp only[Act.put];clear hK;refine rn rfl (by go_simp<;>with_reducible rfl) ?_;simp only[nrm];refine lp fun K hK=>?_;refine yA 184 (.tmp 9) (.tmp 24) rfl [.int .i64 (dA n.right),.int .i64 (n.right.first:Int),.slice Ar n.right.l.length cr] rfl rfl (g7.fr c5 (by simp;omega)) oB rfl qB fun w6 a' c6 i8=>hK _ _ ?_;simp only[Act.put];clear hK;refine sE ?_;have Q:=r.size;have b8:=u.o.lt;have m:Fr [] w2 w6:=(((G.trans c4).trans c5 (fun q b=>.inr (by have:=aB.1 b;omega))).trans c6 (fun q b=>.inr (by have:=aB.1 b;omega)));have x:=r.trans m;have i0:=lh (d8.o.frame x);have b9:=lh (a9.fr c6 (by simp;omega));have b':=lh a';have Y:=lh (u.o.fr x);have e4:=lh (c1.fr m);have e5:=lh (c2.fr m);have e6:=lh (f7.fr m);have M:=lh f8;have e7:=lh (d7.o.trans x);obtain⟨kl,f9⟩:=nm (w2.heap.size);obtain⟨kr,f'⟩:=nm (w3.heap.size);have i':w.heap.size+2<=kl:=by omega
  have i1:kl<kr:=by omega
  rw[<- f9]at b9⊢;rw[<- f']at b'⊢;have e8:=lh (aDy HP.o i0.o HE.o d5.o);obtain⟨Ak,ck,ok,rfl,_,_⟩:=f7;clear g6 G c3 g7 c4 i6 a9 c5 i7 a' c6 i8 m x c1 c2 f8 r Q f9 f' e1 b8;go_wp2_with fail;refine e8.o.mono ?_;rintro e w7 ⟨rfl,g0,p⟩;have i2:=lh g0;have y:=lh (b9.o.fr p (by simp;omega));have Z:=lh (b'.o.fr p (by simp;omega));have a0:=lh (Y.o.fr p (by simp;omega));have S:∀q,E q->q∈[bc]->w6.heap.size<=q:=fun q b t=>absurd (aB.1 t) (J.o q (f.o q b).1).1;have a1:=lh (e4.o.fr p S);have a2:=lh (e5.o.fr p S);have a3:=lh (e6.o.frD p (fun t=>S gk M.o t));have e9:Hid (Fr [bc,bn,bs] w w7):=lh ((e7.o.mono (T:=[bc,bn,bs]) (by simp)).trans p (fun q b=>.inl (by simp at b⊢;omega)));have e':=lh (iL i2.o a1.o (by rw[e3.o];exact b7.o) h8.o h6.o);have d0:=y.o.at_ (i:=0) rfl;have d1:=y.o.at_ (i:=1) rfl;have d2:=y.o.at_ (i:=2) rfl;clear g0 p S e8 e4 e5 e6 b9 b' Y e7;go_wp2_with fail;refine e'.o.mono ?_;rintro e w8 ⟨rfl,g1,F⟩;have i3:=lh g1;have z:=lh (Z.o.fr F (by simp;omega));have a4:=lh (a0.o.fr F (by simp;omega));have c0:∀q,E q->q∈[bn,bs]->w7.heap.size<=q:=fun q b t=>by have:=J.o q (f.o q b).1;simp at t;omega
  have a5:=lh (a2.o.fr F c0);have a6:=lh (a3.o.frD F (fun t=>c0 gk M.o t));have f0:Hid (Fr [bc,bn,bs] w w8):=lh (e9.o.trans F (fun q b=>.inl (by simp at b⊢;omega)));have f1:=lh (iL i3.o a5.o (by show c.alloc.2<c.alloc.1.n;rw[e3.o];exact h'.o) h9.o h7.o);clear g1 F c0 e' d0 d1 d2 a2 a3 y Z a0 e9 a1;have d0:=z.o.at_ (i:=0) rfl;have d1:=z.o.at_ (i:=1) rfl;have d2:=z.o.at_ (i:=2) rfl;go_wp2_with fail;refine f1.o.mono ?_;rintro e w9 ⟨rfl,g2,U⟩;have i4:=lh g2;have f2:=lh (a4.o.fr U (by simp;omega));have f3:∀q,E q->q∈[bn,bs]->w8.heap.size<=q:=fun q b t=>by have:=J.o q (f.o q b).1;simp at t;omega
  have f4:=lh (a6.o.frD U (fun t=>f3 gk M.o t));have i5:Hid (Fr [bc,bn,bs] w w9):=lh (f0.o.trans U (fun q b=>.inl (by simp at b⊢;omega)));clear g2 U f3 f1 d0 d1 d2 a5 a6 z a4 f0
  go_wp2_with (refine oD rfl 212 (.tmp 6) (.tmp 37) rfl [.slice Ak n.key.length ck,.int .i64 ((c.alloc.2:Nat):Int)] rfl rfl f2.o qC rfl wD ?_)
  intro g4 a8 B g5;have a7:∀q,E q->q∈[w.heap.size+1]->w9.heap.size<=q:=fun q b t=>absurd (aB.1 t) (f.o q b).2;have N:Fr [bc,bn,bs] w g4:=i5.o.trans B (fun q b=>.inr (by have:=aB.1 b;omega))
  have HX:Hid (R (.returned (.agg #[.slice Ak n.key.length ck,.int .i64 ((c.alloc.2:Nat):Int)])) g4):=lh (HQ.o _ _ ⟨_,rfl,⟨_,rfl,gk,f4.o.frD B (fun t=>a7 gk M.o t),(f.o gk M.o).1⟩,(i4.o.frS B (fun q b=>.inr (by
   have h1:=aB.1 b;have h3:=d6.o;exact⟨by omega,fun b=>(f.o q b).2 h1,by omega⟩))).weak (fun q b=>(f.o q b).1) J.o,N⟩)
  have f5:=lh a8;clear a8 B g5 N a7;go_wp2_with fail;exact yH (g:=w.heap.size+1) (t':=212) (cs:=[.slice Ak n.key.length ck,.int .i64 ((c.alloc.2:Nat):Int)]) (d:=_) rfl rfl f5.o Go.Proofs.Tryz.underlying212 rfl qC HX.o
end
end
section
structure aDz (c:CD) (k:Nat) (n:Nd):Prop where
 k:k<c.n
 ok:n.ok
 size:n.size<=if n.lf then 680 else 780
 e:c.e=0
 head:c.head≠0->c.head<c.n/\∃j,c.nx c.head=some j
def aKw:Nat->CD->Nat->It->CD->(Ky×Nat)->Prop
 | 0,_,_,_,_,_=>False
 | f+1,c,k,x,c',u=>∃n,c.N k=some n/\aBn n.l/\c.e=0 /\
  ((n.lf=true/\aDz c k { n with l:=pE n.l x }/\(c',u)=c.lay k { n with l:=pE n.l x }) ∨
   (n.lf=false/\∃c1 u1,aKw f c (n.child (n.way x.key)) x c1 u1 /\
    ((u1.2=0/\c'=c1/\u=([],0))∨(u1.2≠0/\aDz c1 k { n with l:=xH n.l (n.way x.key) ⟨u1.1,[],u1.2⟩ }/\(c',u)=c1.lay k { n with l:=xH n.l (n.way x.key) ⟨u1.1,[],u1.2⟩ }))))
def aIj (c:CD) (k:Nat) (n:Nd) (i:Nat) (c':CD) (u':Ky×Nat):Prop:=
 ∃a b y m,n.l[i]? = some y/\c.N (n.child i)=some a/\c.N (n.child (i+1))=some b/\a.lf=b.lf/\m=a.with_ y.key b/\m.ok /\
  ((m.size<=512/\aDz ((c.write (n.child i) m).free (n.child (i+1))) k { n with l:=iG n.l i }/\(c',u')=((c.write (n.child i) m).free (n.child (i+1))).lay k { n with l:=iG n.l i }) ∨
   (512<m.size/\m.size<=(if m.lf then 680 else 780)/\aDz ((c.write (n.child i) m.left).write (n.child (i+1)) m.right) k { n with l:=fN n.l i m.key }/\(c',u')=((c.write (n.child i) m.left).write (n.child (i+1)) m.right).lay k { n with l:=fN n.l i m.key }))
def aLO (c:CD) (k:Nat) (n:Nd) (i:Nat) (u:Ky×Nat) (c':CD) (u':Ky×Nat):Prop:=
 n.ok/\n.size<=512/\i<=n.l.length /\
  ((u.2≠0/\aDz c k { n with l:=xH n.l i ⟨u.1,[],u.2⟩ }/\(c',u')=c.lay k { n with l:=xH n.l i ⟨u.1,[],u.2⟩ }) ∨
   (u.2=0/\∃x,c.N (n.child i)=some x/\(((c.e≠0∨170<=x.size∨n.l=[])/\c'=c/\u'=([],0))∨(c.e=0/\x.size<170/\n.l≠[]/\aIj c k n (i-1) c' u'))))
def aKx:Nat->CD->Nat->Ky->CD->Bool->(Ky×Nat)->Prop
 | 0,_,_,_,_,_,_=>False
 | f+1,c,k,key,c',is,u=>∃n,c.N k=some n/\aBn n.l/\c.e=0 /\
  ((n.lf=true/\u=([],0)/\is=nN n.l key/\((nN n.l key=true/\c'=c.write k { n with l:=iG n.l (gB n.l key) }/\Nd.ok { n with l:=iG n.l (gB n.l key) }/\Nd.size { n with l:=iG n.l (gB n.l key) }<=512)∨(nN n.l key=false/\c'=c))) ∨
   (n.lf=false/\∃c1 is1 u1,aKx f c (n.child (n.way key)) key c1 is1 u1 /\
    ((is1=false/\is=false/\c'=c1/\u=([],0))∨(is1=true/\is=true/\aLO c1 k n (n.way key) u1 c' u))))
theorem nX(n:Nd)(key:Ky):n.way key<=n.l.length:=by unfold Nd.way;exact(List.takeWhile_sublist _).length_le
theorem aOU(l:List It)(key:Ky):gB l key<=l.length:=by unfold gB;exact(List.takeWhile_sublist _).length_le
theorem kV{l:List It}(h:tH (bC l)):aBn l:=by
 unfold tH bC at h;rw[List.pairwise_map]at h;exact h
section
variable {c c' : CD} {U F R P : List Nat} {k h : Nat} {n : Nd} {lo hi : Option Ky} {E : En}
theorem jZ(b:Acc c (k::U) F)(g:c.e=0)(f:n.ok)(i:n.size<=if n.lf then 680 else 780):aDz c k n:=⟨by
 have:=(b.mem (k:=k) (.inl (sB ..))).2;have:=b.next2;omega,f,i,g,aGG b⟩
theorem aLP{A B:List It}{u:Ky×Nat}(j:n.l=A++B)(g:n.lf=false)(b:n.ok)(m:n.size<=512)(u1:1<=u.1.length)(u2:u.1.length<=96)(p:u.2<65536)(q:Acc c (k::U) F)(r:c.e=0):
  aDz c k { n with l:=A++⟨u.1,[],u.2⟩::B }:=by
 have i:Nd.size { n with l:=A++⟨u.1,[],u.2⟩::B }=n.size+(3+u.1.length):=by
  rw[jE,jE,j,uB,uB,pC];simp only[ibn,g,dE,qG];omega
 have o:=qE m;refine jZ q r ⟨?_,fun y f=>?_,b.first,b.bare⟩ (by show _<=if n.lf=true then 680 else 780;rw[eA (by rw[g];decide),i];omega)
 ·show(A++⟨u.1,[],u.2⟩::B).length<65536
  have:n.l.length=A.length+B.length:=by rw[j,lB]
  rw[lB,gD];omega
 ·show y.ok n.lf
  rcases pD.1 f with f|f
  ·exact b.item y (by rw[j];exact aE _ f)
  ·rcases kB.1 f with rfl|f
   ·exact⟨u1,u2,rB _,p,by rw[g];rfl⟩
   ·exact b.item y (by rw[j];exact rE _ f)
theorem aLQ:∀(h:Nat) {f:Nat} {c:CD} {k:Nat} {lo hi:Option Ky} {E:En} {P R F:List Nat} {x:It},h<f->Sub c.N 1 h k lo hi E P->Acc c (P++R) F->c.e=0->x.ok true->zR lo x.key->lQ hi x.key ->
  ∀c' u,aBw f c k x=some (c',u)->aKw f c k x c' u
 | 0,f,c,k,lo,hi,E,P,R,F,x,hf,hs,ha,he,hx,h1,h2=>by
  intro c' u i;obtain⟨f,rfl⟩:∃g,f=g+1:=⟨f-1,by omega⟩;obtain⟨n,P',J,o,C,hm,rfl,b,rfl,rfl,hr,hw⟩:=hs;have t:∀y∈n.l,y.ok true:=fun y L=>by have:=o.item y L;rwa [b]at this
  obtain⟨z1,z2,z3⟩:=bZ hx t;have a0:n.size=3+iE true n.l:=by rw[jE,b];rfl
  have D:Nd.size { n with l:=pE n.l x }=3+iE true (pE n.l x):=by rw[jE];simp only[b];rfl
  have T:=qE C;unfold aBw at i;rw[J]at i
  simp only at i
  rw[iA b]at i;injection i with i;refine⟨n,J,kV hr,he,.inl ⟨b,?_,i.symm⟩⟩;refine jZ (U:=R) (F:=F) (by simpa using ha) he ⟨?_,fun y L=>?_,o.first,o.bare⟩ (by rw[D];simp only[b,mH];omega)
  ·show(pE n.l x).length<65536;omega
  ·show y.ok n.lf
   rw[b];rcases aBh L with rfl|L|⟨z,hz,rfl⟩
   ·exact hx
   ·exact t y L
   ·have q:=t z hz;exact⟨q.k1,q.k2,hx.v,q.at_,by simpa using q.bare⟩
 | h+1,f,c,k,lo,hi,E,P,R,F,x,hf,hs,ha,he,hx,h1,h2=>by
  intro c2 u2 i;obtain⟨f,rfl⟩:∃g,f=g+1:=⟨f-1,by omega⟩;obtain⟨n,P',J,o,C,hm,rfl,b,hK⟩:=hs;obtain⟨A,B,V,a1,M,O,W,X⟩:=nQ (n:=n) h1 h2;have m:=(nD.keys Sub.fine hK).1;have r:=m;rw[V]at hK m;obtain⟨EA,PA,E0,P0,EB,PB,kL,Y,kR,rfl,rfl⟩:=nD.focus.1 hK;have G:n.child (n.way x.key)=yM n.first A:=by unfold Nd.child;rw[M]
  have H:Acc c (P0++(k::(PA++PB)++R)) F:=ha.swap (by
   rw[aL];intro a;simp only[zJ,eK];omega)
  obtain⟨c',u,Z,sm,p⟩:=aGz h (f:=f) (by omega) Y H he hx W X;have hW:=aLQ h (f:=f) (by omega) Y H he hx W X c' u Z;unfold aBw at i;rw[J]at i
  simp only at i
  rw[eA (by rw[b];decide),G,Z]at i
  simp only at i
  refine⟨n,J,r,he,.inr ⟨b,c',u,by rw[G];exact hW,?_⟩⟩
  by_cases j:u.2=0
  ·rw[iA j]at i;injection i with i;injection i with Q S;exact .inl ⟨j,Q.symm,S.symm⟩
  ·rw[eA j]at i;injection i with i;refine .inr ⟨j,?_,i.symm⟩;have I:xH n.l (n.way x.key) ⟨u.1,[],u.2⟩=A++⟨u.1,[],u.2⟩::B:=by unfold xH;rw[M,O]
   rw[I];rcases p with ⟨e0,Pn,Fn,s,hR,p⟩|⟨_,u0,_⟩
   ·rcases p with ⟨u0,_⟩|⟨_,u1,u2,_,_,E1,P1,E2,P2,s1,s2,eE,rfl⟩
    ·exact absurd u0 j
    ·have hu:u.2<65536:=by
      have:=(s.mem (k:=u.2) (.inl (aE _ (rE _ s2.head)))).2;have:=s.next2;have:=s.few;omega
     refine aLP (U:=(P1++P2)++(PA++PB++R)) (F:=Fn) V b o C u1 u2 hu (s.swap ?_) e0;rw[aL];intro a;simp only[zJ,eK];omega
   ·exact absurd u0 j
end
end
section
section
variable {c c' : CD} {U F R P : List Nat} {k h : Nat} {n : Nd} {lo hi : Option Ky} {E : En}
theorem aIk{A B:List It}{y:It}{E1 E2:En}{PA P1 P2 PB:List Nat}{a b:Nd}(j:n.l=A++y::B)(H:n.lf=false)(f:n.ok)(I:n.size<=512)
 (na:c.N (yM n.first A)=some a)(a0:a.ok)(a1:a.size<=512)(fa:NF c.N h a (mQ lo A) (some y.key) E1 P1)
 (nb:c.N y.at_=some b)(a2:b.ok)(a3:b.size<=512)(fb:NF c.N h b (some y.key) (uV hi B) E2 P2)
 (a5:a.size+b.size<=512+169)(g1:zR (mQ lo A) y.key)(g2:lQ (uV hi B) y.key)
 (V:Acc c (k::(PA++((yM n.first A::P1)++(y.at_::P2))++PB)++R) F)(he:c.e=0):
  ∀c' u,aBi c k n A.length=some (c',u)->aIj c k n A.length c' u:=by
 intro c2 u2 o;have r:n.child A.length=yM n.first A:=by unfold Nd.child;rw[j,rK]
 have s:n.child (A.length+1)=y.at_:=by
  unfold Nd.child;rw[j,show A++y::B=(A++[y])++B by simp,show A.length+1=(A++[y]).length by simp,rK,oQ]
 have hy:n.l[A.length]? = some y:=by rw[j,dK (tA _),xW];rfl
 have g:=f.item y (by rw[j];exact rE _ (sB ..));have D:a.lf=b.lf:=by rw[fa.kind,fb.kind]
 obtain⟨m,J⟩:=nm (a.with_ y.key b);have t:m.ok:=by rw[J];exact aLz a0 a2 D ⟨g.k1,g.k2⟩ (by have:=qE a1;have:=qE a3;omega)
 have W:m.size=if a.lf then a.size+b.size-3 else a.size+b.size+y.key.length-2:=by rw[J];exact aEI D _
 have X:m.lf=a.lf:=by rw[J];rfl
 have mf:NF c.N h m (mQ lo A) (uV hi B) (E1++E2) (P1++P2):=by rw[J];exact fa.with_ fb g2 g1
 have a4:=g.k2;obtain⟨p,hp⟩:=nm (yM n.first A);obtain⟨q,hq⟩:=nm (y.at_);rw[<- hp]at r V na;rw[<- hq]at s V nb;unfold aBi at o;rw[r,s,na,nb,hy]at o
 simp only at o
 rw[<- J]at o;refine⟨a,b,y,m,hy,by rw[r];exact na,by rw[s];exact nb,D,J,t,?_⟩;rw[r,s]
 by_cases T:m.size<=512
 ·rw[iA T]at o;injection o with o;refine .inl ⟨T,?_,o.symm⟩
  have L:iG n.l A.length=A++B:=by
   unfold iG;rw[j,rK,show A++y::B=(A++[y])++B by simp,show A.length+1=(A++[y]).length by simp,aN]
  rw[L]
  have M:Nd.size { n with l:=A++B }<=512:=by
   rw[jE,j,uB,pC]at I;rw[jE,uB]
   simp only
   omega
  have G:Acc ((c.write p m).free q) (k::(PA++(p::(P1++P2))++PB)++R) (q::F):=by
   refine Acc.free ((V.write (k:=p) (by simp) t T).swap ?_);rw[aL];intro z;simp only[zJ,eK];omega
  refine jZ (U:=(PA++(p::(P1++P2))++PB)++R) G he ⟨?_,fun z i=>f.item z (by rw[j];rcases pD.1 i with i|i;exact aE _ i;exact rE _ (uC _ i)),f.first,f.bare⟩ (by show _<=if n.lf=true then 680 else 780;rw[eA (by rw[H];decide)];omega)
  show(A++B).length<65536
  have:=f.few;rw[j,lB,gD]at this;rw[lB];omega
 ·rw[eA T]at o;injection o with o;have O:m.size<=if m.lf then 680 else 780:=by rw[X,W];split<;>omega
  refine .inr ⟨by omega,O,?_,o.symm⟩;obtain⟨s1,s2,s3,s4,s5,s6,s7,s8⟩:=Nd.split_ok t (by omega) O;obtain⟨x,hx⟩:∃x,m.l[m.cutAt]? = some x:=⟨_,xD s1⟩;have C:m.key=x.key:=by unfold Nd.key;rw[hx];rfl
  have Q:=t.item x (rG hx);have G:Acc ((c.write p m.left).write q m.right) (k::(PA++((p::P1)++(q::P2))++PB)++R) F:=(V.write (by simp) s7 s3).write (by simp) s8 s4
  have Y:fN n.l A.length m.key=A++{ y with key:=m.key }::B:=by
   unfold fN;rw[j,rK,aN]
  rw[Y];have S:m.key.length<=96:=by rw[C];exact Q.k2
  have Z:1<=m.key.length:=by rw[C];exact Q.k1
  have M:Nd.size { n with l:=A++{ y with key:=m.key }::B }<=620:=by
   rw[jE,j,uB,pC]at I;rw[jE,uB,pC];simp only[H,ibn,dE,qG]at I⊢;omega
  refine jZ (U:=(PA++((p::P1)++(q::P2))++PB)++R) G he ⟨?_,fun z i=>?_,f.first,f.bare⟩ (by show _<=if n.lf=true then 680 else 780;rw[eA (by rw[H];decide)];omega)
  ·show(A++{ y with key:=m.key }::B).length<65536
   have:=f.few;rw[j,lB,gD]at this;rw[lB,gD];exact this
  ·show z.ok n.lf
   rcases pD.1 i with i|i
   ·exact f.item z (by rw[j];exact aE _ i)
   ·rcases kB.1 i with rfl|i
    ·exact⟨Z,S,g.v,g.at_,g.bare⟩
    ·exact f.item z (by rw[j];exact rE _ (uC _ i))
theorem aLR:∀(h:Nat) {f:Nat} {c:CD} {k:Nat} {lo hi:Option Ky} {E:En} {P R F:List Nat} {key:Ky},h<f->Sub c.N 1 h k lo hi E P->Acc c (P++R) F->c.e=0->zR lo key->lQ hi key ->
  ∀c' V u,dZ f c k key=some (c',V,u)->aKx f c k key c' V u
 | 0,f,c,k,lo,hi,E,P,R,F,key,hf,hs,ha,he,h1,h2=>by
  intro c2 b7 u2 j;obtain⟨f,rfl⟩:∃g,f=g+1:=⟨f-1,by omega⟩;obtain⟨n,Z,e1,o,s,hm,rfl,q,rfl,rfl,hr,hw⟩:=hs;obtain⟨q1,q2⟩:=aLE (key:=key) hr;unfold dZ at j;rw[e1]at j
  simp only at j
  rw[iA q]at j;refine⟨n,e1,kV hr,he,.inl ⟨q,?_⟩⟩
  cases I:nN n.l key with
  | false=>
   rw[eA (by rw[I];decide)]at j;injection j with j;injection j with G m;injection m with m H;exact⟨H.symm,m.symm,.inr ⟨rfl,G.symm⟩⟩
  | true=>
   rw[iA I]at j;injection j with j;injection j with G m;injection m with m H;obtain⟨d1,d2,d3,d4⟩:=q2 I;refine⟨H.symm,m.symm,.inl ⟨rfl,G.symm,⟨?_,fun x hx=>o.item x (d4 x hx),o.first,o.bare⟩,?_⟩⟩
   ·show(iG n.l (gB n.l key)).length<65536
    have:=o.few;omega
   ·rw[jE]at s⊢;simp only[q,mH]at s⊢;omega
 | h+1,f,c,k,lo,hi,E,P,R,F,key,hf,hs,ha,he,h1,h2=>by
  intro c2 b7 u2 j;obtain⟨f,rfl⟩:∃g,f=g+1:=⟨f-1,by omega⟩;obtain⟨n,Z,e1,o,s,hm,rfl,q,hK⟩:=hs;obtain⟨A,B,hl,a5,a6,a',g1,g2⟩:=nQ (n:=n) h1 h2;have C:=(nD.keys Sub.fine hK).1
  have O:∀ {Y B':List It} {y:It},n.l=Y++y::B'->zR (mQ lo Y) y.key/\lQ (uV hi B') y.key:=fun e=>by
   rw[e]at hK;exact aLC Sub.fine hK
  have M:=C;rw[hl]at hK C;obtain⟨EA,PA,E0,P0,EB,PB,kL,k0,kR,rfl,rfl⟩:=nD.focus.1 hK;have D:n.child (n.way key)=yM n.first A:=by unfold Nd.child;rw[a6]
  have a0:Acc c (P0++(k::(PA++PB)++R)) F:=ha.swap (by
   rw[aL];intro a;simp only[zJ,eK];omega)
  obtain⟨c',V,u,ep,I,b0,S⟩:=aGA h (f:=f) (by omega) k0 a0 he g1 g2;have hW:=aLR h (f:=f) (by omega) k0 a0 he g1 g2 c' V u ep
  have a1:dZ (f+1) c k key=if V then (cZ c' k n (n.way key) u).map fun r=>(r.1,true,r.2) else some (c',false,([],0)):=by
   unfold dZ;rw[e1]
   simp only
   rw[eA (by rw[q];decide),D,ep]
  rw[a1]at j;refine⟨n,e1,M,he,.inr ⟨q,c',V,u,by rw[D];exact hW,?_⟩⟩
  cases V with
  | false=>
   rw[eA (by decide)]at j;injection j with j;injection j with G m;injection m with m H;exact .inl ⟨rfl,m.symm,G.symm,H.symm⟩
  | true=>
   rw[iA rfl]at j;obtain⟨r,i,W⟩:=Option.map_eq_some_iff.1 j;injection W with W X;injection X with X b1;refine .inr ⟨rfl,X.symm,o,s,nX n key,?_⟩;rw[<- W,<- b1];obtain⟨sm,J⟩:=S rfl;clear ep a1 I b0 S;unfold cZ at i;rw[D]at i;rcases J with ⟨e0,Pn,Fn,t,hR,J⟩|⟨e5,u0,hR,⟨n0,a7⟩,b8⟩
   ·have mono:∀ {Q:List Nat},(∀p∈Q,p∈PA∨p∈PB)->∀cc lo hi E Z,(∀p∈Z,p∈Q)->Sub c.N 1 h cc lo hi E Z->Sub c'.N 1 h cc lo hi E Z:=fun hQ cc lo hi E Z hP L=>
     L.congr fun p j=>hR p (aE _ (uC _ (pD.2 (hQ p (hP p j)))))
    have a2:=bH.mono (mono (Q:=PA) (fun p j=>.inl j)) (fun p j=>j) kL;have a9:=gL.mono (mono (Q:=PB) (fun p j=>.inr j)) (fun p j=>j) kR;rcases J with ⟨u0,L⟩|⟨u0,u1,u2,u3,u4,E1,P1,E2,P2,s1,s2,eE,rfl⟩
    ·rw[eA (fun h=>h u0)]at i;obtain⟨x,Px,x1,x2,x3,_,rfl,x6⟩:=id L;rw[x1]at i
     simp only at i
     refine .inr ⟨u0,x,by rw[D];exact x1,?_⟩
     by_cases hx:170<=x.size
     ·rw[iA (.inr (.inl hx))]at i;injection i with i;exact .inl ⟨.inr (.inl hx),by rw[<- i],by rw[<- i]⟩
     ·have T:n.l≠[]:=fun e=>by rw[e]at hm;cases hm
      rw[eA (by rintro(h|h|h);exact h e0;exact hx h;exact T h),<- a5]at i;refine .inr ⟨e0,by omega,T,?_⟩;rw[<- a5];rcases List.eq_nil_or_concat A with b4|⟨Y,y,a8⟩
      ·subst b4;obtain⟨rfl,rfl⟩:=a2
       cases B with
       | nil=>exact absurd hl T
       | cons y B=>
        obtain⟨_,_,E2,P2,b9,b5,⟨rfl,rfl⟩,b2,b3,rfl,rfl⟩:=(nD.focus (A:=[])).1 (show nD (Sub c'.N 1 h) (some y.key) y.at_ ([]++B) hi EB PB from a9);obtain⟨z,Pz,z1,z2,z3,z4,rfl,z6⟩:=b2;obtain⟨m1,m2⟩:=O hl
        exact aIk (A:=[]) (B:=B) (k:=k) (F:=Fn) (R:=R) (P1:=Px) (P2:=Pz) (PA:=[]) (PB:=b5) (lo:=lo) (hi:=hi) (a:=x) (b:=z) hl q o s x1 x2 x3 x6 z1 z2 z3 z6 (by omega) m1 m2 (t.swap (by
         rw[aL];intro a;simp only[zJ,eK,yM,eH];omega)) e0 r.1 r.2 i
      ·rw[List.concat_eq_append]at a8;subst a8;obtain⟨b',b6,E1,P1,l1,l2,rfl,rfl⟩:=bH.snoc.1 a2;obtain⟨z,Pz,z1,z2,z3,z4,rfl,z6⟩:=l2;rw[oQ]at x1 t;rw[aAJ]at x6;have a3:n.l=Y++y::B:=by rw[hl];simp
       obtain⟨m1,m2⟩:=O a3;have el:(Y++[y]).length-1=Y.length:=by simp
       rw[el]at i⊢
       exact aIk (A:=Y) (B:=B) (y:=y) (k:=k) (F:=Fn) (R:=R) (P1:=Pz) (P2:=Px) (PA:=b6) (PB:=PB) (lo:=lo) (hi:=hi) (a:=z) (b:=x) a3 q o s z1 z2 z3 z6 x1 x2 x3 x6 (by omega) m1 m2 (t.swap (by
        rw[aL];intro a;simp only[zJ,eK];omega)) e0 r.1 r.2 i
    ·rw[iA u0]at i;injection i with i
     have hu:u.2<65536:=by
      have:=(t.mem (k:=u.2) (.inl (aE _ (rE _ s2.head)))).2;have:=t.next2;have:=t.few;omega
     have a4:xH n.l (n.way key) ⟨u.1,[],u.2⟩=A++⟨u.1,[],u.2⟩::B:=by unfold xH;rw[a6,a']
     refine .inl ⟨u0,?_,i.symm⟩;rw[a4];refine aLP (U:=(P1++P2)++(PA++PB++R)) (F:=Fn) hl q o s u1 u2 hu (t.swap ?_) e0;rw[aL];intro a;simp only[zJ,eK];omega
   ·rw[eA (fun h=>h u0),a7]at i
    simp only at i
    rw[iA (.inl (by rw[e5];decide))]at i;injection i with i;exact .inr ⟨u0,n0,by rw[D];exact a7,.inl ⟨.inl (by rw[e5];decide),by rw[<- i],by rw[<- i]⟩⟩
end
end
section
open Go.RowKit Go.ChangeMaps Go.MapKept Go.Maps Go.Sort Go.Shelf
def setV (l:List It) (k:Nat) (v:List UInt8):List It:=l.take k++match l.drop k with|y::B=>{ y with v:=v }::B | []=>[]
theorem aDA(l:List It)(key:Ky):l.take (gB l key)=(l.takeWhile fun y=>decide (klt y.key key))/\l.drop (gB l key)=l.dropWhile fun y=>decide (klt y.key key):=by
 have e:=pP (p:=fun y:It=>decide (klt y.key key)) (l:=l);have h1:l.take (gB l key)=((l.takeWhile fun y=>decide (klt y.key key))++l.dropWhile fun y=>decide (klt y.key key)).take (l.takeWhile fun y=>decide (klt y.key key)).length:=by rw[e];rfl
 have h2:l.drop (gB l key)=((l.takeWhile fun y=>decide (klt y.key key))++l.dropWhile fun y=>decide (klt y.key key)).drop (l.takeWhile fun y=>decide (klt y.key key)).length:=by rw[e];rfl
 rw[h1,h2,rK,aN];exact⟨rfl,rfl⟩
theorem aKy{l:List It}{x:It}(h:nN l x.key=true):pE l x=setV l (gB l x.key) x.v:=by
 obtain⟨h1,h2⟩:=aDA l x.key;unfold nN at h;unfold pE setV;rw[h1,h2]
 cases b:l.dropWhile fun y=>decide (klt y.key x.key) with
 | nil=>rw[b]at h;cases h
 | cons y B=>
  rw[b]at h;have c:y.key=x.key:=by simpa[lX]using h
  simp only
  rw[iA c]
theorem aKz{l:List It}{x:It}(h:nN l x.key=false):pE l x=xH l (gB l x.key) x:=by
 obtain⟨h1,h2⟩:=aDA l x.key;unfold nN at h;unfold pE xH;rw[h1,h2]
 cases c:l.dropWhile fun y=>decide (klt y.key x.key) with
 | nil=>rfl
 | cons y B=>
  rw[c]at h;have b:¬ y.key=x.key:=by simpa[lX]using h
  simp only
  rw[eA b]
theorem aGH{l:List It}{key:Ky}(h:nN l key=true):gB l key<l.length:=by
 rcases aDs (l:=l) (key:=key) with h1|h1
 ·exact h1.1
 ·rw[h1.2]at h;cases h
theorem aIl(l:List It)(k:Nat)(v:List UInt8):(setV l k v).length=l.length:=by
 unfold setV;have h:(l.take k).length+(l.drop k).length=l.length:=by rw[<- lB,bN]
 cases b:l.drop k with
 | nil=>rw[b]at h;simpa using h
 | cons y B=>rw[b]at h;simpa using h
theorem aEQ(l:List It)(k:Nat)(v:Ky):(fN l k v).length=l.length:=by
 unfold fN;have h:(l.take k).length+(l.drop k).length=l.length:=by rw[<- lB,bN]
 cases b:l.drop k with
 | nil=>rw[b]at h;simpa using h
 | cons y B=>rw[b]at h;simpa using h
theorem lV(l:List It){k:Nat}(x:It)(h:k<=l.length):(xH l k x).length=l.length+1:=by
 unfold xH;rw[lB,gD,jC,mC];omega
theorem aAN(l:List It){k:Nat}(h:k<l.length):(iG l k).length=l.length-1:=by
 unfold iG;rw[lB,jC,mC];omega
theorem aOV(c:CD)(k:Nat)(n:Nd):(c.lay k n).1.pg=c.pg/\(c.lay k n).1.n=c.n:=by
 unfold CD.lay
 have b:c.alloc.1.pg=c.pg:=by
  unfold CD.alloc
  split
  ·rfl
  ·split
   ·rfl
   ·unfold CD.full;split<;>rfl
 split
 ·exact⟨rfl,rfl⟩
 ·exact⟨b,aBI c⟩
theorem aAO{c c':CD}{k:Nat}{n:Nd}{u:Ky×Nat}(h:(c',u)=c.lay k n):c'.pg=c.pg/\c'.n=c.n:=by
 have h1:c'=(c.lay k n).1:=congrArg Prod.fst h;rw[h1];exact aOV c k n
theorem aKw.same:∀ {f:Nat} {c:CD} {k:Nat} {x:It} {c':CD} {u:Ky×Nat},aKw f c k x c' u->c'.pg=c.pg/\c'.n=c.n
 | 0,_,_,_,_,_,h=>h.elim
 | f+1,c,k,x,c',u,⟨n,_,_,_,h⟩=>by
  rcases h with ⟨_,_,h⟩|⟨_,c1,u1,h1,h⟩
  ·exact aAO h
  ·obtain⟨a,b⟩:=aKw.same h1;rcases h with ⟨_,rfl,_⟩|⟨_,_,h⟩
   ·exact⟨a,b⟩
   ·exact⟨(aAO h).1.trans a,(aAO h).2.trans b⟩
theorem aIj.same{c:CD}{k:Nat}{n:Nd}{i:Nat}{c':CD}{j:Ky×Nat}(h:aIj c k n i c' j):c'.pg=c.pg/\c'.n=c.n:=by
 obtain⟨a,b,y,m,_,_,_,_,_,_,h⟩:=h;rcases h with ⟨_,_,h⟩|⟨_,_,_,h⟩
 ·obtain⟨f,g⟩:=aAO h;exact⟨f,g⟩
 ·obtain⟨f,g⟩:=aAO h;exact⟨f,g⟩
theorem aLO.same{c:CD}{k:Nat}{n:Nd}{i:Nat}{u:Ky×Nat}{c':CD}{b:Ky×Nat}(h:aLO c k n i u c' b):c'.pg=c.pg/\c'.n=c.n:=by
 obtain⟨_,_,_,h⟩:=h;rcases h with ⟨_,_,h⟩|⟨_,x,_,h⟩
 ·exact aAO h
 ·rcases h with ⟨_,h,_⟩|⟨_,_,_,h⟩
  ·rw[h];exact⟨rfl,rfl⟩
  ·exact h.same
theorem aKx.same:∀ {f:Nat} {c:CD} {k:Nat} {key:Ky} {c':CD} {g:Bool} {u:Ky×Nat},aKx f c k key c' g u->c'.pg=c.pg/\c'.n=c.n
 | 0,_,_,_,_,_,_,h=>h.elim
 | f+1,c,k,key,c',g,u,⟨n,_,_,_,h⟩=>by
  rcases h with ⟨_,_,_,h⟩|⟨_,c1,i,u1,h1,h⟩
  ·rcases h with ⟨_,h,_⟩|⟨_,h⟩
   ·rw[h];exact⟨rfl,rfl⟩
   ·rw[h];exact⟨rfl,rfl⟩
  ·obtain⟨a,b⟩:=aKx.same h1;rcases h with ⟨_,_,h,_⟩|⟨_,_,h⟩
   ·rw[h];exact⟨a,b⟩
   ·obtain⟨j,l⟩:=h.same;exact⟨j.trans a,l.trans b⟩
section
variable {w0 wS w w' : World} {dk g bc bn bs : Nat} {s : PS} {X D D' : Nat -> Prop} {c : CD}
theorem PgC.to{c':CD}(h:PgC w0 wS dk g s X c)(b:c'.pg=c.pg/\c'.n=c.n):PgC w0 wS dk g s X c':=⟨h.px,h.br,h.calm,b.1.trans h.pg,b.2.trans h.n⟩
theorem jF.setV{y:It}{kv vv av:Value}:∀ {l:List It} {cs:List Value} {k:Nat} {v:List UInt8},jF D w l cs->l[k]? = some y->(∃g,cA w vv v g/\D g)->jF D w (Go.Proofs.YtebjhcjbfaaejaaGreatDoor.setV l k v) (cs.set (k*3+1) vv)
 | z::l,a::b::d::cs,0,v,h,hk,hv=>by
  have e:Go.Proofs.YtebjhcjbfaaejaaGreatDoor.setV (z::l) 0 v={ z with v:=v }::l:=rfl;rw[e];exact⟨⟨h.1.1,hv,h.1.2.2⟩,h.2⟩
 | z::l,a::b::d::cs,k+1,v,h,hk,hv=>by
  have f:=jF.setV (kv:=kv) (av:=av) (k:=k) (v:=v) h.2 (by simpa using hk) hv;have e:Go.Proofs.YtebjhcjbfaaejaaGreatDoor.setV (z::l) (k+1) v=z::Go.Proofs.YtebjhcjbfaaejaaGreatDoor.setV l k v:=rfl;rw[e,show(k+1)*3+1=k*3+1+1+1+1 by omega];exact⟨h.1,f⟩
 | [],[],_,_,_,hk,_=>by simp at hk
 | [],_::_,_,_,h,_,_=>h.elim
 | _::_,[],_,_,h,_,_=>h.elim
 | _::_,[_],_,_,h,_,_=>h.elim
 | _::_,[_,_],_,_,h,_,_=>h.elim
theorem jF.setK{y:It}{kv vv av:Value}:∀ {l:List It} {cs:List Value} {k:Nat} {v:Ky},jF D w l cs->l[k]? = some y->(∃g,cA w kv v g/\D g)->jF D w (fN l k v) (cs.set (k*3) kv)
 | z::l,a::b::d::cs,0,v,h,hk,hv=>by
  have e:fN (z::l) 0 v={ z with key:=v }::l:=rfl;rw[e];exact⟨⟨hv,h.1.2.1,h.1.2.2⟩,h.2⟩
 | z::l,a::b::d::cs,k+1,v,h,hk,hv=>by
  have f:=jF.setK (vv:=vv) (av:=av) (k:=k) (v:=v) h.2 (by simpa using hk) hv;have e:fN (z::l) (k+1) v=z::fN l k v:=rfl;rw[e,show(k+1)*3=k*3+1+1+1 by omega];exact⟨h.1,f⟩
 | [],[],_,_,_,hk,_=>by simp at hk
 | [],_::_,_,_,h,_,_=>h.elim
 | _::_,[],_,_,h,_,_=>h.elim
 | _::_,[_],_,_,h,_,_=>h.elim
 | _::_,[_,_],_,_,h,_,_=>h.elim
structure aOW (D:Nat->Prop) (w:World) (base:Nat) (A:Option Addr) (ca:Nat) (n:Nd) (cs:List Value):Prop where
 own:w.ownsRow base 198 3 (.slice A n.l.length ca) n.l.length cs
 its:jF (fun q=>D q/\(Value.slice A n.l.length ca).ownBlock≠some q) w n.l cs
 dom:∀q,(Value.slice A n.l.length ca).ownBlock=some q->D q
 cap:n.l.length<=ca
theorem NdV.open_{base:Nat}{v:Value}{n:Nd}(h:NdV D w base v n):∃A ca cs,v=.agg #[.int .i64 (dA n),.int .i64 (n.first:Int),.slice A n.l.length ca]/\aOW D w base A ca n cs:=by
 obtain⟨sv,cs,rfl,h2,h3,b⟩:=h;obtain⟨A,c,rfl,f,_⟩:=sA h2;exact⟨A,c,cs,rfl,h2,h3,b,f⟩
section
variable {base : Nat} {A : Option Addr} {ca : Nat} {n : Nd} {cs : List Value}
theorem aOW.ge(h:aOW D w base A ca n cs):∀q,(Value.slice A n.l.length ca).ownBlock=some q->base<=q/\q<w.heap.size:=fun q b=>⟨by have:=(h.own.lt q b).1;omega,sF h.own q b⟩
end
end
abbrev LB:=Nat × TypeId × List Value
structure NP where
 A:Option Addr
 ca:Nat
 n:Nd
 cs:List Value
def NP.sv (p:NP):Value:=.slice p.A p.n.l.length p.ca
def NP.v (p:NP):Value:=.agg #[.int .i64 (dA p.n),.int .i64 (p.n.first:Int),p.sv]
def Off (D:Nat->Prop) (L:List LB) (N:List NP):Nat->Prop:=fun q=>D q/\(∀l∈L,q≠l.1)/\∀p∈N,p.sv.ownBlock≠some q
inductive Kq where
 | by_ (v:Value) (bs:List UInt8)
 | nd (v:Value) (n:Nd)
def Kq.ok (D:Nat->Prop) (w:World):Kq->Prop
 | .by_ v bs=>∃q,cA w v bs q/\D q
 | .nd v n=>NdV D w 0 v n
theorem Kq.ok.weak{D D':Nat->Prop}{w:World}{k:Kq}(h:k.ok D w)(hD:∀q,D q->D' q):k.ok D' w:=by
 cases k with
 | by_ v bs=>exact Exists.imp (fun q b=>⟨b.1,hD q b.2⟩) h
 | nd v n=>exact NdV.weak h hD
theorem Kq.ok.re{D D':Nat->Prop}{w:World}{k:Kq}(h:k.ok D w)(hD:∀q,D q->q<w.heap.size->D' q)(h0:∃q,D' q/\w.heap.size<=q):k.ok D' w:=by
 cases k with
 | by_ v bs=>exact cA.re h hD (h0.imp fun q b=>b.1)
 | nd v n=>exact NdV.re h hD h0
theorem Kq.ok.fr{D:Nat->Prop}{S:List Nat}{w w':World}{k:Kq}(h:k.ok D w)(c:Fr S w w')(f:∀q,D q->q∈S->w.heap.size<=q:=by simp):k.ok D w':=by
 cases k with
 | by_ v bs=>exact Exists.imp (fun q b=>⟨b.1.frD c (f q b.2),b.2⟩) h
 | nd v n=>exact NdV.fr h c f
structure Sx (wS w:World) (g bc bn bs:Nat) (D:Nat->Prop) (L:List LB) (N:List NP) (K:List Kq) (c:CD) (w':World):Prop where
 fr:Fr [bc,bn,bs] w w'
 ch:kE wS w' g bc bn bs (Off D L N) c
 loc:∀l∈L,Blk w' l.1 l.2.1 l.2.2/\w.heap.size<=l.1
 lap:(L.map fun l=>l.1).Nodup
 row:∀p∈N,w'.ownsRow w.heap.size 198 3 p.sv p.n.l.length p.cs
 its:∀p∈N,jF (Off D L N) w' p.n.l p.cs
 nap:N.Pairwise fun p p'=>∀q,p.sv.ownBlock=some q->p'.sv.ownBlock≠some q
 rl:∀p∈N,∀l∈L,p.sv.ownBlock≠some l.1
 ks:∀k∈K,k.ok (Off D L N) w'
 hD:∀q,w.heap.size<=q->D q
 dom:∀q,D q->q≠bc/\q≠bn/\q≠bs
 low:bc<w.heap.size/\bn<w.heap.size/\bs<w.heap.size/\wS.heap.size<=w.heap.size
theorem Off.mono{D:Nat->Prop}{L L':List LB}{N N':List NP}(f:∀l∈L',l∈L)(g:∀p∈N',p∈N):∀q,Off D L N q->Off D L' N' q:=fun _ h=>⟨h.1,fun l b=>h.2.1 l (f l b),fun p c=>h.2.2 p (g p c)⟩
theorem Off.d{D:Nat->Prop}{L:List LB}{N:List NP}:∀q,Off D L N q->D q:=fun _ h=>h.1
section
variable {wS w w1 w2 : World} {g bc bn bs : Nat} {D : Nat -> Prop} {L L' : List LB} {N N' : List NP} {K K' : List Kq} {c c' : CD}
theorem Sx.start(h:kE wS w g bc bn bs D c)(hD:∀q,w.heap.size<=q->D q):Sx wS w g bc bn bs D [] [] [] c w:=by
 have:=h.lts;exact⟨Fr.refl _ _,h.weak (fun q b=>⟨b,fun _ h=>by simp at h,fun _ h=>by simp at h⟩) fun q b=>h.dom q b.1,fun _ h=>by simp at h,List.nodup_nil,fun _ h=>by simp at h,fun _ h=>by simp at h,List.Pairwise.nil,fun _ h=>by simp at h,fun _ h=>by simp at h,hD,h.dom,this.1,this.2.1,this.2.2,h.fr.size⟩
theorem Sx.less(h:Sx wS w g bc bn bs D L N K c w1)(j:L'.Sublist L)(i:N'.Sublist N)(hK:∀k∈K',k∈K):Sx wS w g bc bn bs D L' N' K' c w1:=by
 have m:=Off.mono (D:=D) (fun l f=>j.mem f) (fun p b=>i.mem b)
 exact⟨h.fr,h.ch.weak m fun q o=>h.dom q o.1,fun l f=>h.loc l (j.mem f),h.lap.sublist (j.map _),fun p b=>h.row p (i.mem b),fun p b=>(h.its p (i.mem b)).weak m,h.nap.sublist i,fun p b l f=>h.rl p (i.mem b) l (j.mem f),
  fun k r=>(h.ks k (hK k r)).weak m,h.hD,h.dom,h.low⟩
theorem Sx.own(h:Sx wS w g bc bn bs D L N K c w1){p:NP}(f:p∈N):∀q,p.sv.ownBlock=some q->w.heap.size<=q/\q<w1.heap.size:=fun q b=>⟨((h.row p f).lt q b).1,sF (h.row p f) q b⟩
theorem Sx.offD(h:Sx wS w g bc bn bs D L N K c w1):∀q,w1.heap.size<=q->Off D L N q:=fun q i=>
 ⟨h.hD q (by have:=h.fr.size;omega),fun l b e=>by have:=(h.loc l b).1.lt;omega,fun p f e=>by have:=(h.own f q e).2;omega⟩
theorem Sx.new(h:Sx wS w g bc bn bs D L N K c w1)(o:Fr [] w1 w2)(r:∀l∈L',Blk w2 l.1 l.2.1 l.2.2/\w1.heap.size<=l.1)(G:(L'.map fun l=>l.1).Nodup):Sx wS w g bc bn bs D (L'++L) N K c w2:=by
 have H:=o.size;have B:=h.fr.size
 have j:∀q,Off D L N q->q<w1.heap.size->Off D (L'++L) N q:=fun q t f=>⟨t.1,fun l y=>by
  rcases pD.1 y with h1|h1
  ·have:=(r l h1).2;omega
  ·exact t.2.1 l h1,t.2.2⟩
 have s:∃q,Off D (L'++L) N q/\w2.heap.size<=q:=⟨w2.heap.size,⟨h.hD _ (by omega),fun l f e=>by
  rcases pD.1 f with h1|h1
  ·have:=(r l h1).1.lt;omega
  ·have:=(h.loc l h1).1.lt;omega,fun p i e=>by have:=(h.own i _ e).2;omega⟩,tA _⟩
 obtain⟨u,m,z⟩:=s;refine⟨h.fr.trans o,(h.ch.re j ⟨u,m,by omega⟩ fun q t=>h.dom q t.1).frame o,fun l f=>?_,?_,fun p i=>iB (h.row p i) o (by simp),fun p i=>((h.its p i).re j ⟨u,m⟩).fr o,h.nap,fun p i l f e=>?_,fun k C=>?_,h.hD,h.dom,h.low⟩
 ·rcases pD.1 f with h1|h1
  ·exact⟨(r l h1).1,by have:=(r l h1).2;omega⟩
  ·exact⟨(h.loc l h1).1.fr o,(h.loc l h1).2⟩
 ·rw[List.map_append];refine List.nodup_append.2 ⟨G,h.lap,fun a E b F e=>?_⟩;obtain⟨l,f,rfl⟩:=cI.1 E;obtain⟨l2,x,rfl⟩:=cI.1 F;have:=(r l f).2;have:=(h.loc l2 x).1.lt;omega
 ·rcases pD.1 f with h1|h1
  ·have:=(r l h1).2;have:=(h.own i _ e).2;omega
  ·exact h.rl p i l h1 e
 ·exact((h.ks k C).re j ⟨u,m,by omega⟩).fr o
theorem Sx.new1(h:Sx wS w g bc bn bs D L N K c w1)(f:Fr [] w1 w2){p:Nat}{t:TypeId}{cs:List Value}(i:Blk w2 p t cs)(j:w1.heap.size<=p):Sx wS w g bc bn bs D ((p,t,cs)::L) N K c w2:=
 h.new (L':=[(p,t,cs)]) f (fun l b=>by obtain rfl:=aB.1 b;exact⟨i,j⟩) (by simp)
theorem Sx.quiet(h:Sx wS w g bc bn bs D L N K c w1)(b:Fr [] w1 w2):Sx wS w g bc bn bs D L N K c w2:=h.new (L':=[]) b (by simp) (by simp)
theorem Sx.node(h:Sx wS w g bc bn bs D L N K c w1)(t:Fr [] w1 w2){n:Nd}{b:Nat}(G:w1.heap.size<=b)(z:NdV (Off D L N) w2 b u n):
  ∃A ca cs,u=.agg #[.int .i64 (dA n),.int .i64 (n.first:Int),.slice A n.l.length ca]/\n.l.length<=ca/\Sx wS w g bc bn bs D L (⟨A,ca,n,cs⟩::N) K c w2:=by
 obtain⟨A,ca,cs,rfl,m⟩:=z.open_;refine⟨A,ca,cs,rfl,m.cap,?_⟩;have F:=t.size;have C:=h.fr.size;have j:∀q,(Value.slice A n.l.length ca).ownBlock=some q->w1.heap.size<=q/\q<w2.heap.size:=fun q i=>by have:=m.ge q i;omega
 have r:∀q,Off D L N q->q<w1.heap.size->Off D L (⟨A,ca,n,cs⟩::N) q:=fun q i o=>⟨i.1,i.2.1,fun p f=>by
  rcases kB.1 f with rfl|f
  ·exact fun e=>by have:=(j q e).1;omega
  ·exact i.2.2 p f⟩
 have x:∃q,Off D L (⟨A,ca,n,cs⟩::N) q/\w2.heap.size<=q:=⟨w2.heap.size,⟨h.hD _ (by omega),fun l o e=>by have:=(h.loc l o).1.lt;omega,fun p f e=>by
  rcases kB.1 f with rfl|f
  ·have:=(j _ e).2;omega
  ·have:=(h.own f _ e).2;omega⟩,tA _⟩
 obtain⟨y,s,B⟩:=x;refine⟨h.fr.trans t,(h.ch.re r ⟨y,s,by omega⟩ fun q i=>h.dom q i.1).frame t,fun l o=>⟨(h.loc l o).1.fr t,(h.loc l o).2⟩,h.lap,fun p f=>?_,fun p f=>?_,?_,fun p f l o e=>?_,fun k E=>?_,h.hD,h.dom,h.low⟩
 ·rcases kB.1 f with rfl|f
  ·exact wC m.own fun q i=>by have:=(j q i).1;omega
  ·exact iB (h.row p f) t (by simp)
 ·rcases kB.1 f with rfl|f
  ·exact m.its.weak fun q i=>⟨i.1.1,i.1.2.1,fun p f=>by
    rcases kB.1 f with rfl|f
    ·exact i.2
    ·exact i.1.2.2 p f⟩
  ·exact((h.its p f).re r ⟨y,s⟩).fr t
 ·refine xE.2 ⟨fun p f q i e=>?_,h.nap⟩;have:=(j q i).1;have:=(h.own f q e).2;omega
 ·rcases kB.1 f with rfl|f
  ·have:=(j _ e).1;have:=(h.loc l o).1.lt;omega
  ·exact h.rl p f l o e
 ·exact((h.ks k E).re r ⟨y,s,by omega⟩).fr t
theorem Sx.kp(h:Sx wS w g bc bn bs D L N K c w1){k:Kq}(f:k.ok (Off D L N) w1):Sx wS w g bc bn bs D L N (k::K) c w1:=
 ⟨h.fr,h.ch,h.loc,h.lap,h.row,h.its,h.nap,h.rl,fun k b=>by
  rcases kB.1 b with rfl|b
  ·exact f
  ·exact h.ks k b,h.hD,h.dom,h.low⟩
theorem Sx.key(h:Sx wS w g bc bn bs D L N K c w1){v:Value}{b:List UInt8}(f:∃q,cA w1 v b q/\Off D L N q):Sx wS w g bc bn bs D L N (.by_ v b::K) c w1:=h.kp (k:=.by_ v b) f
theorem Sx.nd(h:Sx wS w g bc bn bs D L N K c w1){v:Value}{n:Nd}{b:Nat}(f:NdV (Off D L N) w1 b v n):Sx wS w g bc bn bs D L N (.nd v n::K) c w1:=h.kp (k:=.nd v n) (f.low (rB _))
theorem Sx.kb(h:Sx wS w g bc bn bs D L N K c w1){v:Value}{b:List UInt8}(f:Kq.by_ v b∈K):∃q,cA w1 v b q/\Off D L N q:=h.ks _ f
theorem Sx.kn(h:Sx wS w g bc bn bs D L N K c w1){v:Value}{n:Nd}(b:Kq.nd v n∈K):NdV (Off D L N) w1 0 v n:=h.ks _ b
theorem Sx.nil_key(h:Sx wS w g bc bn bs D L N K c w1):∃q,cA w1 (.slice none 0 0) [] q/\Off D L N q:=⟨w1.heap.size,cA.nil _ _,h.offD _ (tA _)⟩
theorem Sx.give0{p:NP}(h:Sx wS w g bc bn bs D L (p::N) K c w1):kE wS w1 g bc bn bs (Off D L N) c/\NdV (Off D L N) w1 w.heap.size p.v p.n/\∀q,w1.heap.size<=q->Off D L N q:=by
 refine⟨h.ch.weak (Off.mono (fun _ h=>h) fun p i=>uC _ i) fun q b=>h.dom q b.1,⟨p.sv,p.cs,rfl,h.row p (sB ..),(h.its p (sB ..)).weak fun q b=>⟨⟨b.1,b.2.1,fun p' f=>b.2.2 p' (uC _ f)⟩,b.2.2 p (sB ..)⟩,fun q b=>?_⟩,?_⟩
 ·exact⟨h.hD q (h.own (sB ..) q b).1,fun l j e=>h.rl p (sB ..) l j (by rw[<- e];exact b),fun p' f=>(xE.1 h.nap).1 p' f q b⟩
 ·exact(h.less (N':=N) (dC _) (aAp ..) fun _ h=>h).offD
theorem Sx.give{A:Option Addr}{ca:Nat}{n:Nd}{cs:List Value}(h:Sx wS w g bc bn bs D L (⟨A,ca,n,cs⟩::N) K c w1):kE wS w1 g bc bn bs (Off D L N) c/\NdV (Off D L N) w1 w.heap.size (.agg #[.int .i64 (dA n),.int .i64 (n.first:Int),.slice A n.l.length ca]) n/\∀q,w1.heap.size<=q->Off D L N q:=h.give0
theorem Sx.bytes(h:Sx wS w g bc bn bs D L N K c w1){A:Option Addr}{ca:Nat}{n:Nd}{cs:List Value}(f:(⟨A,ca,n,cs⟩:NP)∈N):NdV (fun q=>D q) w1 w.heap.size (.agg #[.int .i64 (dA n),.int .i64 (n.first:Int),.slice A n.l.length ca]) n:=
 ⟨.slice A n.l.length ca,cs,rfl,h.row _ f,(h.its _ f).weak fun _ b=>⟨b.1,b.2.2 _ f⟩,fun q b=>h.hD q (h.own f q b).1⟩
theorem Sx.row'(h:Sx wS w g bc bn bs D L N K c w1){A:Option Addr}{ca:Nat}{n:Nd}{cs:List Value}(b:(⟨A,ca,n,cs⟩:NP)∈N):w1.ownsRow w.heap.size 198 3 (.slice A n.l.length ca) n.l.length cs:=h.row _ b
theorem Sx.its'(h:Sx wS w g bc bn bs D L N K c w1){A:Option Addr}{ca:Nat}{n:Nd}{cs:List Value}(b:(⟨A,ca,n,cs⟩:NP)∈N):jF (Off D L N) w1 n.l cs:=h.its _ b
theorem Sx.own'(h:Sx wS w g bc bn bs D L N K c w1){A:Option Addr}{ca:Nat}{n:Nd}{cs:List Value}(b:(⟨A,ca,n,cs⟩:NP)∈N):∀q,(Value.slice A n.l.length ca).ownBlock=some q->w.heap.size<=q/\q<w1.heap.size:=h.own b
theorem Sx.call(h:Sx wS w g bc bn bs D L N K c w1){S:List Nat}(j:Fr S w1 w2)(s:∀q∈S,q=bc∨q=bn∨q=bs)(x:kE wS w2 g bc bn bs (Off D L N) c'):Sx wS w g bc bn bs D L N K c' w2:=by
 have t:=h.low;have f:∀q,Off D L N q->q∈S->w1.heap.size<=q:=fun q b o=>by have:=h.dom q b.1;have:=s q o;omega
 have i:∀q,w.heap.size<=q->q∉S:=fun q b o=>by have:=s q o;omega
 exact⟨h.fr.trans j fun q b=>.inl (by have:=s q b;simp;omega),x,fun l r=>⟨(h.loc l r).1.fr j (i _ (h.loc l r).2),(h.loc l r).2⟩,h.lap,fun p m=>iB (h.row p m) j fun q b=>i q (h.own m q b).1,fun p m=>(h.its p m).fr j f,h.nap,h.rl,
  fun k u=>(h.ks k u).fr j f,h.hD,h.dom,h.low⟩
theorem Sx.set_{l:LB}(h:Sx wS w g bc bn bs D (l::L) N K c w1){cs:List Value}(m:Fr [l.1] w1 w2)(z:Blk w2 l.1 l.2.1 cs):Sx wS w g bc bn bs D ((l.1,l.2.1,cs)::L) N K c w2:=by
 have u:=h.low;have s:=(h.loc l (sB ..)).2
 have i:∀q,Off D (l::L) N q->Off D ((l.1,l.2.1,cs)::L) N q:=fun q f=>⟨f.1,fun l' b=>by
  rcases kB.1 b with rfl|b
  ·exact f.2.1 l (sB ..)
  ·exact f.2.1 l' (uC _ b),f.2.2⟩
 have o:∀q,Off D (l::L) N q->q∈[l.1]->w1.heap.size<=q:=fun q f r=>absurd (aB.1 r) (f.2.1 l (sB ..));have t:=List.nodup_cons.1 h.lap
 refine⟨h.fr.trans m fun q f=>.inr (by have:=aB.1 f;omega),(h.ch.frS m fun q f=>.inr ?_).weak i fun q f=>h.dom q f.1,fun l' b=>?_,h.lap,fun p j=>iB (h.row p j) m fun q f r=>h.rl p j l (sB ..) (by rw[<- aB.1 r];exact f),fun p j=>((h.its p j).fr m o).weak i,h.nap,fun p j l' b=>?_,
  fun k x=>((h.ks k x).fr m o).weak i,h.hD,h.dom,h.low⟩
 ·have:=aB.1 f;exact⟨by omega,fun y=>y.2.1 l (sB ..) this,by omega⟩
 ·rcases kB.1 b with rfl|b
  ·exact⟨z,s⟩
  ·refine⟨(h.loc l' (uC _ b)).1.fr m fun r=>t.1 ?_,(h.loc l' (uC _ b)).2⟩;exact cI.2 ⟨l',b,aB.1 r⟩
 ·rcases kB.1 b with rfl|b
  ·exact h.rl p j l (sB ..)
  ·exact h.rl p j l' (uC _ b)
theorem Sx.perm(h:Sx wS w g bc bn bs D L N K c w1)(f:L'.Perm L):Sx wS w g bc bn bs D L' N K c w1:=by
 have b:∀q,Off D L N q->Off D L' N q:=Off.mono (fun l i=>f.mem_iff.1 i) fun _ h=>h;exact⟨h.fr,h.ch.weak b fun q m=>h.dom q m.1,fun l i=>h.loc l (f.mem_iff.1 i),(f.map _).nodup_iff.2 h.lap,h.row,fun p f=>(h.its p f).weak b,h.nap,fun p j l i=>h.rl p j l (f.mem_iff.1 i),fun k o=>(h.ks k o).weak b,h.hD,h.dom,h.low⟩
theorem Sx.rows{p p':NP}(h:Sx wS w g bc bn bs D L (p::N) K c w1)(y:Fr p.sv.ownBlock.toList w1 w2)(f:∀q,p'.sv.ownBlock=some q->p.sv.ownBlock=some q∨w1.heap.size<=q)
 (E:w2.ownsRow w.heap.size 198 3 p'.sv p'.n.l.length p'.cs)(hi:jF (Off D L (p::N)) w1 p'.n.l p'.cs):Sx wS w g bc bn bs D L (p'::N) K c w2:=by
 have F:=h.low;have C:=y.size;have G:=h.fr.size;have r:=h.own (sB ..);have i:∀q,q∈p.sv.ownBlock.toList->p.sv.ownBlock=some q:=fun q m=>by simpa using m
 have H:∀q,Off D L (p::N) q->q∈p.sv.ownBlock.toList->w1.heap.size<=q:=fun q f m=>absurd (i q m) (f.2.2 p (sB ..))
 have u:∀q,Off D L (p::N) q->q<w1.heap.size->Off D L (p::p'::N) q:=fun q z t=>⟨z.1,z.2.1,fun o b=>by
  rcases kB.1 b with rfl|b
  ·exact z.2.2 _ (sB ..)
  ·rcases kB.1 b with rfl|b
   ·intro e;rcases f q e with h1|h1
    ·exact z.2.2 p (sB ..) h1
    ·omega
   ·exact z.2.2 o (uC _ b)⟩
 have h2:=sF E
 have j:Off D L (p::p'::N) w2.heap.size:=⟨h.hD _ (by omega),fun l t e=>by have:=(h.loc l t).1.lt;omega,fun o b e=>by
  rcases kB.1 b with rfl|b
  ·have:=(r _ e).2;omega
  ·rcases kB.1 b with rfl|b
   ·have:=h2 _ e;omega
   ·have:=(h.own (uC _ b) _ e).2;omega⟩
 have x:∀q,Off D L (p::p'::N) q->Off D L (p'::N) q:=fun q f=>⟨f.1,f.2.1,fun o b=>f.2.2 o (uC _ b)⟩;have s:∀q,Off D L (p::p'::N) q->q∈p.sv.ownBlock.toList->w1.heap.size<=q:=fun q f m=>absurd (i q m) (f.2.2 p (sB ..))
 refine⟨h.fr.trans y fun q m=>.inr (r q (i q m)).1,((h.ch.re u ⟨w2.heap.size,j,C⟩ fun q f=>h.dom q f.1).frS y fun q m=>.inr ?_).weak x fun q f=>h.dom q f.1,
  fun l t=>⟨(h.loc l t).1.fr y fun m=>h.rl p (sB ..) l t (i _ m),(h.loc l t).2⟩,h.lap,fun o b=>?_,fun o b=>?_,?_,fun o b l t e=>?_,fun k I=>?_,h.hD,h.dom,h.low⟩
 ·have h1:=r q (i q m);exact⟨by omega,fun z=>z.2.2 p (sB ..) (i q m),by omega⟩
 ·rcases kB.1 b with rfl|b
  ·exact E
  ·exact iB (h.row o (uC _ b)) y fun q f m=>(xE.1 h.nap).1 o b q (i q m) f
 ·rcases kB.1 b with rfl|b
  ·exact((hi.re u ⟨_,j⟩).fr y s).weak x
  ·exact(((h.its o (uC _ b)).re u ⟨_,j⟩).fr y s).weak x
 ·refine xE.2 ⟨fun o b q B e=>?_,(xE.1 h.nap).2⟩;rcases f q B with h1|h1
  ·exact(xE.1 h.nap).1 o b q h1 e
  ·have:=(h.own (uC _ b) q e).2;omega
 ·rcases kB.1 b with rfl|b
  ·rcases f _ e with h1|h1
   ·exact h.rl p (sB ..) l t h1
   ·have:=(h.loc l t).1.lt;omega
  ·exact h.rl o (uC _ b) l t e
 ·exact(((h.ks k I).re u ⟨_,j,C⟩).fr y s).weak x
theorem Sx.ins{A:Option Addr}{ca:Nat}{n:Nd}{cs:List Value}(h:Sx wS w g bc bn bs D L (⟨A,ca,n,cs⟩::N) K c w1){i:Nat}(hi:i<=n.l.length){x:It}{kv vv av:Value}(t:∃q,cA w1 kv x.key q/\Off D L (⟨A,ca,n,cs⟩::N) q)(y:∃q,cA w1 vv x.v q/\Off D L (⟨A,ca,n,cs⟩::N) q)(o:av=.int .i64 (x.at_:Int))
 (p:w2.ownsRow w.heap.size 198 3 u (n.l.length+1) (cs.take (3*i)++([kv,vv,av]++cs.drop (3*i))))(z:Fr (Value.slice A n.l.length ca).ownBlock.toList w1 w2)
 (B:∀q,u.ownBlock=some q->(Value.slice A n.l.length ca).ownBlock=some q∨w1.heap.size<=q):
  ∃j b,u=.slice j (n.l.length+1) b/\Sx wS w g bc bn bs D L (⟨j,b,{ n with l:=xH n.l i x },cs.take (3*i)++([kv,vv,av]++cs.drop (3*i))⟩::N) K c w2:=by
 obtain⟨j,b,rfl,C,_⟩:=sA p;have m:(xH n.l i x).length=n.l.length+1:=lV _ _ hi;refine⟨j,b,rfl,h.rows (p':=⟨j,b,{ n with l:=xH n.l i x },_⟩) z (fun q f=>B q ?_) ?_ ?_⟩
 ·unfold NP.sv at f
  simp only at f
  rw[m]at f;exact f
 ·show w2.ownsRow w.heap.size _ 3 (.slice j (xH n.l i x).length b) (xH n.l i x).length _
  rw[m];exact p
 ·obtain⟨r,s⟩:=(h.its _ (sB ..)).take i;exact r.append (show jF _ _ (x::n.l.drop i) (kv::vv::av::cs.drop (3*i)) from⟨⟨t,y,o⟩,s⟩)
theorem Sx.del{A:Option Addr}{ca:Nat}{n:Nd}{cs:List Value}(h:Sx wS w g bc bn bs D L (⟨A,ca,n,cs⟩::N) K c w1){i:Nat}(hi:i<n.l.length)
 (p:w2.ownsRow w.heap.size 198 3 u (n.l.length-1) (cs.take (3*i)++cs.drop (3*i+3)))(s:u.ownBlock=(Value.slice A n.l.length ca).ownBlock)(t:Fr (Value.slice A n.l.length ca).ownBlock.toList w1 w2):
  ∃j b,u=.slice j (n.l.length-1) b/\Sx wS w g bc bn bs D L (⟨j,b,{ n with l:=iG n.l i },cs.take (3*i)++cs.drop (3*i+3)⟩::N) K c w2:=by
 obtain⟨j,b,rfl,x,_⟩:=sA p;have m:(iG n.l i).length=n.l.length-1:=aAN _ hi;refine⟨j,b,rfl,h.rows (p':=⟨j,b,{ n with l:=iG n.l i },_⟩) t (fun q f=>.inl ?_) ?_ ?_⟩
 ·unfold NP.sv at f
  simp only at f
  rw[m,s]at f;exact f
 ·show w2.ownsRow w.heap.size _ 3 (.slice j (iG n.l i).length b) (iG n.l i).length _
  rw[m];exact p
 ·have r:=((h.its _ (sB ..)).take i).1;have o:=((h.its _ (sB ..)).take (i+1)).2;rw[show 3*(i+1)=3*i+3 by omega]at o;exact r.append o
theorem Sx.cell{q ca:Nat}{n:Nd}{cs:List Value}(h:Sx wS w g bc bn bs D L (⟨some ⟨q,0,none⟩,ca,n,cs⟩::N) K c w1){j:Nat}{u:Value}{l':List It}(i:l'.length=n.l.length)(hi:jF (Off D L (⟨some ⟨q,0,none⟩,ca,n,cs⟩::N)) w1 l' (cs.set j u)):
  Sx wS w g bc bn bs D L (⟨some ⟨q,0,none⟩,ca,{ n with l:=l' },cs.set j u⟩::N) K c (w1.setCell ⟨q,j,none⟩ u):=by
 have f:w1.ownsRow w.heap.size 198 3 (.slice (some ⟨q,0,none⟩) n.l.length ca) n.l.length cs:=h.row _ (sB ..);refine h.rows (p:=⟨some ⟨q,0,none⟩,ca,n,cs⟩) (p':=⟨some ⟨q,0,none⟩,ca,{ n with l:=l' },cs.set j u⟩) ((Fr.refl _ w1).setCell (.inl (show q∈[q] by simp)) _) (fun m b=>.inl b) ?_ hi
 show World.ownsRow _ _ _ 3 (.slice _ l'.length ca) l'.length _
 rw[i];exact(f.stored j u).1
theorem UpV.open_{v:Value}{u:Ky×Nat}(h:UpV D w v u):∃A ca,v=.agg #[.slice A u.1.length ca,.int .i64 ((u.2:Nat):Int)]/\∃q,cA w (.slice A u.1.length ca) u.1 q/\D q:=by
 obtain⟨kv,rfl,q,b,f⟩:=h;obtain⟨A,ca,off,rfl,_⟩:=id b;exact⟨A,ca,rfl,q,b,f⟩
theorem Sx.fin(h:Sx wS w g bc bn bs D L N K c w1):kE wS w1 g bc bn bs D c/\Fr [bc,bn,bs] w w1:=⟨h.ch.weak Off.d h.dom,h.fr⟩
theorem Sx.upv{A:Option Addr}{ca:Nat}{u:Ky×Nat}(h:Sx wS w g bc bn bs D L N (.by_ (.slice A u.1.length ca) u.1::K) c w1):UpV D w1 (.agg #[.slice A u.1.length ca,.int .i64 ((u.2:Nat):Int)]) u/\kE wS w1 g bc bn bs D c/\Fr [bc,bn,bs] w w1:=
 ⟨⟨_,rfl,(h.kb (sB ..)).imp fun _ b=>⟨b.1,b.2.1⟩⟩,h.fin⟩
theorem Sx.upv0(h:Sx wS w g bc bn bs D L N K c w1):UpV D w1 (.agg #[.slice none 0 0,.int .i64 0]) ([],0)/\kE wS w1 g bc bn bs D c/\Fr [bc,bn,bs] w w1:=
 ⟨⟨_,rfl,w1.heap.size,cA.nil _ _,h.hD _ h.fr.size⟩,h.fin⟩
theorem Sx.node_r(h:Sx wS w g bc bn bs D L N K c w1)(i:Fr [] w1 w2){n:Nd}{b:Nat}(f:NdV (Off D L N) w2 b u n):
  ∃A ca,u=.agg #[.int .i64 (dA n),.int .i64 (n.first:Int),.slice A n.l.length ca]/\Sx wS w g bc bn bs D L N (.nd (.agg #[.int .i64 (dA n),.int .i64 (n.first:Int),.slice A n.l.length ca]) n::K) c w2:=by
 obtain⟨A,ca,cs,rfl,_⟩:=f.open_;exact⟨A,ca,rfl,(h.quiet i).nd f⟩
end
end
end Go.Proofs.YtebjhcjbfaaejaaGreatDoor
