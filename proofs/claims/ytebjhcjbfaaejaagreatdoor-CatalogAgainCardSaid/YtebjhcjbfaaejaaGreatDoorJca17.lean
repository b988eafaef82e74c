/-
  Joined: Qg Qh Qi Qj
-/
import Derived.Test.YtebjhcjbfaaejaaGreatDoorJca16
set_option maxRecDepth 100000
set_option maxHeartbeats 32000000
namespace Go.Proofs.YtebjhcjbfaaejaaGreatDoor
open Go.Proofs.Tryz
variable {j m:Nat}{p:Prop}{α:Type}
section
open Go.RowKit Go.ChangeMaps Go.MapKept Go.Maps Go.Sort Go.Shelf
theorem aPa(c:CD):c.fail 0=c:=by
 unfold CD.fail
 split
 ·rename_i h;cases c;simp only at h;rw[h]
 ·rfl
theorem gS{P:Program}{c:Func}{tmps:Array Value}{w:World}{k f:Tmp}{t t':TypeId}{g:Nat}{cs:List Value}{d:TypeDesc}(i:c.results=#[.tmp f,.cell k t])(j:tmps.getD k undef=.pointer (some ⟨g,0,none⟩))(l:Blk w g t' cs)
 (m:P.underlying t=some d)(n:d.isRow=true)(hi:(P.info? t).map (·.size)=some cs.length):(results c tmps).run P w=.ok (.tuple #[tmps.getD f undef,.agg cs.toArray]) w:=by
 have h:=Go.run_loadVar_row (P:=P) w g t' t cs.toArray (0,0) d l m (by cases d<;>simp_all) (by simpa using hi);have b:tmps[k]?.getD undef=.pointer (some ⟨g,0,none⟩):=by simpa using j
 simp[results,i,b,h,asAddr]
section
variable {w0 wS w w1 : World} {dk g bc bn bs : Nat} {s : PS} {X D : Nat -> Prop} {L : List LB} {N : List NP} {Kl : List Kq} {c c' : CD}
theorem aQC{A E:Option Addr}{n:Nd}{cs:List Value}{k i:Nat}{u T:Ky×Nat}(hp:PgC w0 wS dk g s X c)(h:Sx wS w g bc bn bs D L (⟨A,j,n,cs⟩::N) (.by_ (.slice E u.1.length m) u.1::Kl) c w1)(hW:aLO c k n i u c' T):
  Calls prog 158 #[.pointer (some ⟨bc,0,none⟩),.int .i64 (k:Int),.agg #[.int .i64 (dA n),.int .i64 (n.first:Int),.slice A n.l.length j],.int .i64 (i:Int),.agg #[.slice E u.1.length m,.int .i64 ((u.2:Nat):Int)]] w1 fun e w'=>
   ∃G p,e=.returned (.agg #[.slice G T.1.length p,.int .i64 ((T.2:Nat):Int)])/\Sx wS w g bc bn bs D L N (.by_ (.slice G T.1.length p) T.1::Kl) c' w':=by
 obtain⟨c8,c9,r,hW⟩:=hW;have Z:=qE c9;obtain⟨S,t⟩:=nm (((w1.alloc (.cells #[.int .i64 (dA n),.int .i64 (n.first:Int),.slice A n.l.length j] 184)).alloc (.cells #[.slice E u.1.length m,.int .i64 ((u.2:Nat):Int)] 212)).alloc (.cells zup.toArray 212));have b4:Fr [] w1 S:=by rw[t];exact(((Fr.refl [] w1).alloc _).alloc _).alloc _
 obtain⟨C,y⟩:=nm (w1.heap.size);have b5:Blk S C 184 [.int .i64 (dA n),.int .i64 (n.first:Int),.slice A n.l.length j]:=by rw[t,y];exact((Blk.new w1 _ [.int .i64 (dA n),.int .i64 (n.first:Int),.slice A n.l.length j]).alloc _).alloc _
 have b6:Blk S (C+1) 212 [.slice E u.1.length m,.int .i64 ((u.2:Nat):Int)]:=by
  rw[t,y];have:=(Blk.new (w1.alloc (.cells #[.int .i64 (dA n),.int .i64 (n.first:Int),.slice A n.l.length j] 184)) 212 [.slice E u.1.length m,.int .i64 ((u.2:Nat):Int)]).alloc (.cells zup.toArray 212)
  rwa [xC]at this
 have a0:Blk S (C+2) 212 zup:=by
  rw[t,y];have:=Blk.new ((w1.alloc (.cells #[.int .i64 (dA n),.int .i64 (n.first:Int),.slice A n.l.length j] 184)).alloc (.cells #[.slice E u.1.length m,.int .i64 ((u.2:Nat):Int)] 212)) 212 zup
  rwa [xC,xC]at this
 have S1:=lh (h.new (L':=[(C,184,[.int .i64 (dA n),.int .i64 (n.first:Int),.slice A n.l.length j]),(C+1,212,[.slice E u.1.length m,.int .i64 ((u.2:Nat):Int)]),(C+2,212,zup)]) b4 (fun l hl=>by
  rcases kB.1 hl with rfl|hl
  ·exact⟨b5,by simp only;omega⟩
  ·rcases kB.1 hl with rfl|hl
   ·exact⟨b6,by simp only;omega⟩
   ·obtain rfl:=aB.1 hl;exact⟨a0,by simp only;omega⟩) (by simp))
 have HP:=lh hp;have B:=lh Z;have g4:=lh c8;clear h b4 b5 b6 a0 hp c8 c9 Z;refine gA fun R HQ=>?_;rcases hW with ⟨O,d3,a8⟩|⟨O,x,a9,P⟩
 ·have a1:=congrArg Prod.fst a8;have a2:=congrArg Prod.snd a8
  simp only at a1 a2
  subst a1 a2;have H:=lh d3;have b7:=lh O;have g1:¬ ((u.2:Nat):Int)=0:=by omega
  have b8:(xH n.l i ⟨u.1,[],u.2⟩).length=n.l.length+1:=lV _ _ r;have a3:i<=n.l.length:=r;clear d3 a8 O r
  go_enter func158,ntmps158
  go_upto_region 1 with (with_reducible refine mA rfl 212 rfl (.agg #[.slice none 0 0,.int .i64 0]) zup.toArray jL rfl ?_)
  rw[<- t];rw[xC,xC,<- y];clear t y;have v0:=(S1.o.loc _ (.tail _ (.head _))).1.at_ (i:=0) rfl;have v1:=(S1.o.loc _ (.tail _ (.head _))).1.at_ (i:=1) rfl;have F:=(S1.o.loc _ (.head _)).1.at_ (i:=2) rfl;go_upto_region 2 with fail
  refine fE ?_
  iterate 9 (refine rn rfl (by go_simp<;>with_reducible rfl) ?_;simp only[nrm])
  refine lp fun K hK=>?_;obtain⟨ti,d4,d5,a5,f7⟩:=mE wJ;refine dD (.tmp 24) rfl Go.Proofs.Tryz.underlying182 d4 d5 [.slice E u.1.length m,.slice none 0 0,.int .i64 ((u.2:Nat):Int)] rfl a5 rfl (by simp) (by simp) (hK _ _ ?_);clear hK;simp only[nrm];obtain⟨wx,U⟩:=nm (S.alloc (.cells ([.slice E u.1.length m,.slice none 0 0,.int .i64 ((u.2:Nat):Int)]:List Value).toArray 198));rw[<- U];have b9:Fr [] S wx:=by rw[U];exact(Fr.refl [] S).alloc _
  have b':Blk wx S.heap.size 198 [.slice E u.1.length m,.slice none 0 0,.int .i64 ((u.2:Nat):Int)]:=by rw[U];exact Blk.new S _ [.slice E u.1.length m,.slice none 0 0,.int .i64 ((u.2:Nat):Int)]
  have Q:=lh (S1.o.quiet b9);clear U;refine lp fun K hK=>?_;refine jA (l:=[.tmp 17,.tmp 18,.tmp 25]) rfl [.slice A n.l.length j,.int .i64 ((i:Nat):Int),.slice (some ⟨S.heap.size,0,none⟩) 1 1] rfl (fS _) ((bS (Q.o.row' (.head _)) (Q.o.its' (.head _)).one (by have:=B.o;omega) a3 Q.o.fr.size b' oX rfl (fun e=>by have:=(S1.o.own' (.head _) _ e).2;omega)).mono ?_);rintro e a' ⟨g9,rfl,d6,d7,d8⟩;obtain⟨G,p,rfl,d9⟩:=Q.o.ins a3 (x:=⟨u.1,[],u.2⟩) (Q.o.kb (.head _)) (Q.o.nil_key) rfl d6 d7 d8;refine⟨_,rfl,hK _ _ ?_⟩;clear hK;simp only[nrm];have S8:=lh d9;have f2:=(S8.o.loc _ (.head _)).1.at_ (i:=2) rfl;have f3:=(S8.o.loc _ (.head _)).1.free 2;refine rn rfl (by go_simp<;>with_reducible rfl) ?_;simp only[nrm];refine lp fun K hK=>?_;refine pB (w':=a'.setCell ⟨C,2,none⟩ (.slice G (n.l.length+1) p)) (by go_simp) (hK _ _ ?_);clear hK;simp only[Act.put];refine sE ?_;have S9:=lh (S8.o.set_ (cs:=[.int .i64 (dA n),.int .i64 (n.first:Int),.slice G (n.l.length+1) p]) ((Fr.refl [C] a').setCell (.inl (by simp)) _) ((S8.o.loc _ (.head _)).1.set_ 2 (.slice G (n.l.length+1) p)));clear f2 f3 S8 d9 d6 d7 d8 b9 b';generalize a'.setCell ⟨C,2,none⟩ (.slice G (n.l.length+1) p)=g0 at *;clear v0 v1 F S1 Q d4 d5 a5 f7;have SB:=lh (S9.o.less (L':=_) (K':=Kl) (.cons_cons _ (.cons _ (dC _))) (dC _) fun k V=>by simp[V])
  have f4:Hid (NdV _ g0 w.heap.size (.agg #[.int .i64 (dA n),.int .i64 (n.first:Int),.slice G (n.l.length+1) p]) { n with l:=xH n.l i ⟨u.1,[],u.2⟩ }):=lh (by
   have:=SB.o.give.2.1;simp only[b8]at this;exact this)
  clear S9 b8;have d0:=(SB.o.loc _ (.head _)).1.at_ (i:=0) rfl;have d1:=(SB.o.loc _ (.head _)).1.at_ (i:=1) rfl;have F:=(SB.o.loc _ (.head _)).1.at_ (i:=2) rfl;have c0:=lh (aAM HP.o SB.o.give.1 f4.o H.o.k H.o.ok H.o.size H.o.e H.o.head SB.o.give.2.2);go_wp2_with fail;refine c0.o.mono ?_;rintro e wl ⟨uv,rfl,d',e0,e1⟩;obtain⟨E,m,rfl,e2⟩:=d'.open_;have I:=lh ((((SB.o.less (N':=N) (K':=Kl) (dC _) (aAp ..) fun k V=>by simp[V]).call e1 (by simp) e0).key e2).perm (List.Perm.swap _ _ _));have q:=lh (I.o.loc _ (.head _)).1;clear e2 e1 d' e0 d0 d1 F c0
  go_wp2_with (refine oD rfl 212 (.tmp 10) (.tmp 31) rfl [.slice E _ m,.int .i64 _] rfl rfl q.o qC rfl wD ?_)
  intro we b f z;have HX:=lh (HQ.o _ _ ⟨_,_,rfl,(I.o.set_ f b).less (L':=L) (.cons _ (.cons _ (dC _))) (dC _) fun _ h=>h⟩);have v:=lh b;clear b f z;go_wp2_with fail;exact yH (g:=C+2) (t':=212) (cs:=[.slice E _ m,.int .i64 _]) (d:=_) rfl rfl v.o Go.Proofs.Tryz.underlying212 rfl qC HX.o
 ·obtain⟨f8,e3,e4⟩:=S1.o.ch.wf.N_ok a9;have b7:=lh O;have f5:=lh a9;have J:=lh P;have c2:=lh e3;have c3:=lh e4;have a4:=lh r;clear a9 P e3 e4 f8 r O
  go_enter func158,ntmps158
  go_upto_region 1 with (with_reducible refine mA rfl 212 rfl (.agg #[.slice none 0 0,.int .i64 0]) zup.toArray jL rfl ?_)
  rw[<- t];rw[xC,xC,<- y];clear t y;have v1:=(S1.o.loc _ (.tail _ (.head _))).1.at_ (i:=1) rfl
  simp only at v1
  rw[show((u.2:Nat):Int)=0 by have:=b7.o;omega]at v1;have d0:=(S1.o.loc _ (.head _)).1.at_ (i:=0) rfl;have d1:=(S1.o.loc _ (.head _)).1.at_ (i:=1) rfl;have F:=(S1.o.loc _ (.head _)).1.at_ (i:=2) rfl;have c4:=lh (uM (S1.o.bytes (.head _)) a4.o (by have:=B.o;omega));go_wp2_with fail;refine c4.o.mono ?_;rintro e w2 ⟨rfl,e5⟩;have S2:=lh (S1.o.quiet e5);clear e5 S1 v1 d0 d1 F c4;have c5:=lh (pN HP.o S2.o.ch f5.o S2.o.offD);go_wp2_with fail;refine c5.o.mono ?_;rintro e w3 ⟨nv,rfl,e6,e7⟩;obtain⟨A1,c1,rfl,e8⟩:=S2.o.node_r e7 e6;have S3:=lh e8;clear e6 e7 e8 S2 c5
  go_wp2_with (first
   | (with_reducible refine mA rfl 184 rfl (.agg #[.int .i64 0,.int .i64 0,.slice none 0 0]) znd.toArray kD rfl ?_)
   | (refine vA (W:=w3) rfl 184 (.tmp 11) (.tmp 38) rfl [.int .i64 (dA x),.int .i64 (x.first:Int),.slice A1 x.l.length c1] rfl rfl rfl oB rfl qB ?_))
  intro w4 b3 f1 f';obtain⟨g',a6⟩:=nm (w3.heap.size);rw[<- a6]at b3⊢;have S4:=lh (S3.o.new1 f1 b3 (by omega));clear f1 b3 f' a6 S3;go_wp2_with fail;refine(iM S4.o.ch 0).mono ?_;rintro e w5 ⟨rfl,b0,e9,f9⟩;rw[aPa]at b0⊢;have S5:=lh (S4.o.call e9 (by simp) b0);clear b0 e9 f9 S4;have I:=lh (((S5.o.less (L':=_) (N':=N) (K':=Kl) (.cons _ (.cons _ (.cons _ (dC _)))) (aAp ..) fun k V=>by simp[V])));have q:=lh (I.o.loc _ (.head _)).1;have d0:=(S5.o.loc _ (.head _)).1.at_ (i:=0) rfl;have d1:=(S5.o.loc _ (.head _)).1.at_ (i:=1) rfl;have F:=(S5.o.loc _ (.head _)).1.at_ (i:=2) rfl
  by_cases Y:c.e≠0
  ·have f6:Hid (c'=c/\T=([],0)):=lh (by
    rcases J.o with ⟨_,h1,h2⟩|⟨h1,_⟩
    ·exact⟨h1,h2⟩
    ·exact absurd h1 Y)
   obtain⟨rfl,rfl⟩:=f6.o;have hd:decide (c'.e≠0)=true:=by simpa using Y
   rw[hd];clear Y hd d0 d1 F
   go_wp2_with (refine oD rfl 212 (.tmp 10) (.tmp 54) rfl [.slice none 0 0,.int .i64 0] rfl rfl q.o qC rfl wD ?_)
   intro we b f z;have HX:=lh (HQ.o _ _ ⟨none,0,rfl,(((I.o.set_ f b).less (L':=L) (.cons _ (dC _)) (dC _) fun _ h=>h).key (Sx.nil_key ((I.o.set_ f b).less (L':=L) (.cons _ (dC _)) (dC _) fun _ h=>h)))⟩);have v:=lh b;clear b f z;go_wp2_with fail;exact yH (g:=C+2) (t':=212) (cs:=[.slice none 0 0,.int .i64 0]) (d:=_) rfl rfl v.o Go.Proofs.Tryz.underlying212 rfl qC HX.o
  ·have M:c.e=0:=by omega
   have HE:=lh M;have hd:decide (c.e≠0)=false:=by rw[M];rfl
   rw[hd];clear Y M hd;have x0:=(S5.o.loc _ (.head _)).1.at_ (i:=0) rfl;have c6:=lh (aBG (S5.o.kn (.head _)) c2.o (by have:=c3.o;omega));go_wp2_with fail;refine c6.o.mono ?_;rintro e w6 ⟨rfl,e'⟩;have S6:=lh (S5.o.quiet e');have I:=lh (((S6.o.less (L':=_) (N':=N) (K':=Kl) (.cons _ (.cons _ (.cons _ (dC _)))) (aAp ..) fun k V=>by simp[V])));have q:=lh (I.o.loc _ (.head _)).1;clear e' S5 d0 d1 F x0 c6;have d0:=(S6.o.loc _ (.tail _ (.head _))).1.at_ (i:=0) rfl;have d1:=(S6.o.loc _ (.tail _ (.head _))).1.at_ (i:=1) rfl;have F:=(S6.o.loc _ (.tail _ (.head _))).1.at_ (i:=2) rfl;rcases J.o with ⟨b1,rfl,rfl⟩|⟨_,hx,b2,hJ⟩
   ·by_cases hx:170<=x.size
    case' pos=>
     have c7:(170:Int)<=((x.size:Nat):Int):=by omega
     clear b1
    case' neg=>
     have c7:¬ (170:Int)<=((x.size:Nat):Int):=by omega
     have a7:n.l.length=0:=by
      rcases b1 with h|h|h
      ·exact absurd HE.o h
      ·exact absurd h hx
      ·rw[h];rfl
     simp only at F
     rw[a7]at F;clear b1 a7
    all_goals
     go_wp2_with (refine oD rfl 212 (.tmp 10) (.tmp 54) rfl [.slice none 0 0,.int .i64 0] rfl rfl q.o qC rfl wD ?_)
     intro we b f z;have HX:=lh (HQ.o _ _ ⟨none,0,rfl,(((I.o.set_ f b).less (L':=L) (.cons _ (dC _)) (dC _) fun _ h=>h).key (Sx.nil_key ((I.o.set_ f b).less (L':=L) (.cons _ (dC _)) (dC _) fun _ h=>h)))⟩);have v:=lh b;clear b f z;go_wp2_with fail;exact yH (g:=C+2) (t':=212) (cs:=[.slice none 0 0,.int .i64 0]) (d:=_) rfl rfl v.o Go.Proofs.Tryz.underlying212 rfl qC HX.o
   ·have c7:¬ (170:Int)<=((x.size:Nat):Int):=by omega
    have a7:¬ ((n.l.length:Nat):Int)=0:=by
     have:0<n.l.length:=by cases hq:n.l with|nil=>exact absurd hq b2|cons=>simp
     omega
    have HJ:=lh (aQB HP.o (S6.o.less (L':=_) (N':=_) (K':=Kl) (dC _) (dC _) fun k V=>by simp[V]) hJ HE.o B.o);have g2:max (0:Int) ((i:Int)-1)=((i-1:Nat):Int):=by omega
    have g5:IntKind.i64.wrap ((i:Int)-1)=(i:Int)-1:=by rw[iD];have:=a4.o;have:=B.o;omega
    have g6:¬ n.l.length=0:=by omega
    have g3:¬ n.l=[]:=b2;have g7:¬ 170<=x.size:=by omega
    have g8:(((n.l.length:Nat):Int)==0)=false:=by rw[eI];omega
    clear hx b2 hJ I q;go_wp2_with fail;refine HJ.o.mono ?_;rintro e w7 ⟨G,p,rfl,f0⟩;have Q:=lh (f0.less (L':=(C+2,_,_)::L) (.cons _ (.cons _ (.cons _ (dC _)))) (dC _) fun _ h=>h);have q:=lh (Q.o.loc _ (.head _)).1;clear f0 HJ d0 d1 F S6
    go_wp2_with (refine oD rfl 212 (.tmp 10) (.tmp 61) rfl [.slice G T.1.length p,.int .i64 ((T.2:Nat):Int)] rfl rfl q.o qC rfl wD ?_)
    intro we b f z;have HX:=lh (HQ.o _ _ ⟨G,p,rfl,(Q.o.set_ f b).less (L':=L) (.cons _ (dC _)) (dC _) fun _ h=>h⟩);have v:=lh b;clear b f z;go_wp2_with fail;exact yH (g:=C+2) (t':=212) (cs:=[.slice G T.1.length p,.int .i64 ((T.2:Nat):Int)]) (d:=_) rfl rfl v.o Go.Proofs.Tryz.underlying212 rfl qC HX.o
end
structure aGI (w0 wS:World) (dk g bc bn bs:Nat) (s:PS) (X:Nat->Prop) (f:Nat):Prop where
 go:∀ {c c':CD} {k deep:Nat} {key:Ky} {is:Bool} {u:Ky×Nat} {w:World} {kv:Value} {D:Nat->Prop},f+deep=40->aKx f c k key c' is u->PgC w0 wS dk g s X c->kE wS w g bc bn bs D c ->
  (∃q,cA w kv key q/\D q)->(∀q,w.heap.size<=q->D q) ->
  Calls prog 123 #[.pointer (some ⟨bc,0,none⟩),.int .i64 (k:Int),kv,.int .i64 (deep:Int)] w fun e w'=>∃uv,e=.returned (.tuple #[.bool is,uv])/\UpV D w' uv u/\kE wS w' g bc bn bs D c'/\Fr [bc,bn,bs] w w'
section
variable {w0 wS w : World} {dk g bc bn bs : Nat} {s : PS} {X D : Nat -> Prop} {c : CD}
theorem aPb{f:Nat}(ih:aGI w0 wS dk g bc bn bs s X f):aGI w0 wS dk g bc bn bs s X (f+1):=by
 constructor
 intro c c' k deep key is u w kv D a1 hW hp h hx hD;obtain⟨n,hN,b8,he,hW⟩:=hW;obtain⟨b9,f2,b'⟩:=h.wf.N_ok hN;have a4:=qE b';obtain⟨Ak,ck,rfl⟩:∃A c,kv=.slice A key.length c:=by obtain⟨q,⟨A,c,_,h,_⟩,_⟩:=hx;exact⟨A,c,h⟩
 obtain⟨wb,N⟩:=nm (w.alloc (.cells zup.toArray 212));have a5:Fr [] w wb:=by rw[N];exact(Fr.refl [] w).alloc _
 have a6:Blk wb w.heap.size 212 zup:=by rw[N];exact Blk.new w _ zup
 have hO:∀q,D q->Off D [] [] q:=fun q hq=>⟨hq,fun _ h=>by simp at h,fun _ h=>by simp at h⟩;have S1:=lh (((Sx.start h hD).key (hx.imp fun q hq=>⟨hq.1,hO q hq.2⟩)).new1 a5 a6 (tA _));have a7:=lh (pN hp S1.o.ch hN S1.o.offD);have HP:=lh hp;have HE:=lh he;have a8:=lh b8;have HW:=lh hW;have e4:=lh ih;have j:=lh a4;have U:=lh a1;have e5:=lh b9;clear hO h hx hp a5 a6 he b8 hW ih f2 hN hD b' b9;have f6:¬ ((deep:Nat):Int)=40:=by omega
 refine gA fun R HQ=>?_
 go_enter func123,ntmps123
 go_upto_region 1 with (with_reducible refine mA rfl 212 rfl (.agg #[.slice none 0 0,.int .i64 0]) zup.toArray jL rfl ?_)
 rw[<- N];clear N;go_wp2_with fail;refine a7.o.mono ?_;rintro e w1 ⟨nv,rfl,c0,c2⟩;obtain⟨A,ca,cs,rfl,f7,c3⟩:=S1.o.node c2 (tA _) c0;have S2:=lh c3;clear c0 c2 c3 S1 a7
 go_wp2_with (first
  | (with_reducible refine mA rfl 184 rfl (.agg #[.int .i64 0,.int .i64 0,.slice none 0 0]) znd.toArray kD rfl ?_)
  | (refine vA (W:=w1) rfl 184 (.tmp 10) (.tmp 21) rfl [.int .i64 (dA n),.int .i64 (n.first:Int),.slice A n.l.length ca] rfl rfl rfl oB rfl qB ?_))
 intro w2 a2 e3 f4;obtain⟨c4,P⟩:=nm (w1.heap.size);rw[<- P]at a2⊢;have S3:=lh (S2.o.new1 e3 a2 (by omega));clear e3 a2 f4 P S2;go_wp2_with fail;refine(iM S3.o.ch 0).mono ?_;rintro e w3 ⟨rfl,Z,c5,f3⟩;rw[rQ HE.o]at Z⊢;have hd:decide (c.e≠0)=false:=by rw[HE.o];rfl
 rw[hd];have S4:=lh (S3.o.call c5 (by simp) Z);clear Z c5 f3 S3 hd;have G:=(S4.o.loc _ (.head _)).1.at_ (i:=0) rfl;have H:=(S4.o.loc _ (.head _)).1.at_ (i:=1) rfl;have y:=(S4.o.loc _ (.head _)).1.at_ (i:=2) rfl;go_wp2_with fail;refine(gZ n).mono ?_;rintro e w4 ⟨rfl,c6⟩;have I:=lh (S4.o.quiet c6);clear c6 S4 G H y;have G:=(I.o.loc _ (.head _)).1.at_ (i:=0) rfl;have H:=(I.o.loc _ (.head _)).1.at_ (i:=1) rfl;have y:=(I.o.loc _ (.head _)).1.at_ (i:=2) rfl;obtain⟨gk,c7,_⟩:=I.o.kb (.head _);have J:=lh c7;clear c7
 cases O:n.lf with
 | true=>
  rcases HW.o with ⟨-,rfl,rfl,hr⟩|⟨c8,_⟩
  ·clear O;have a9:=lh (aDt (I.o.bytes (.head _)) J.o a8.o (by have:=j.o;omega));have HR:=lh hr;clear hr HW;go_wp2_with fail;refine a9.o.mono ?_;rintro e w5 ⟨rfl,C⟩;have t:=lh (I.o.quiet C);clear C a9 G H y I J;rcases HR.o with ⟨v,rfl,c9,d3⟩|⟨v,rfl⟩
   ·have L:=aGH v;have e6:IntKind.i64.wrap (((gB n.l key:Nat):Int)+1)=((gB n.l key:Nat):Int)+1:=by rw[iD];have:=j.o;omega
    have y:=(t.o.loc _ (.head _)).1.at_ (i:=2) rfl;have a':=lh (fZ (t.o.row' (.head _)) (t.o.its' (.head _)).one (by have:=j.o;omega) L);have b0:(iG n.l (gB n.l key)).length=n.l.length-1:=aAN _ L;have b1:=lh c9;have b2:=lh d3;rw[v]at HQ⊢;clear v c9 d3 HR;go_wp2_with fail;refine a'.o.mono ?_;rintro e w6 ⟨f8,rfl,d4,d5,d6⟩;obtain⟨A',x,rfl,d7⟩:=t.o.del L d4 d5 d6;have z:=lh d7;have e7:=(z.o.loc _ (.head _)).1.at_ (i:=2) rfl;have e8:=(z.o.loc _ (.head _)).1.free 2;have e9:=(z.o.loc _ (.head _)).1.lt;have S8:=lh (z.o.set_ (cs:=[.int .i64 (dA n),.int .i64 (n.first:Int),.slice A' (n.l.length-1) x]) ((Fr.refl [c4] w6).setCell (.inl (by simp)) _) ((z.o.loc _ (.head _)).1.set_ 2 (.slice A' (n.l.length-1) x)));clear t d7 z d4 d5 d6 a' y;go_upto_region 10 with fail
    generalize w6.setCell ⟨c4,2,none⟩ (.slice A' (n.l.length-1) x)=w7 at *;clear e7 e8 e9 e6
    have b3:Hid (NdV _ w7 w.heap.size (.agg #[.int .i64 (dA n),.int .i64 (n.first:Int),.slice A' (n.l.length-1) x]) { n with l:=iG n.l (gB n.l key) }):=lh (by
     have:=S8.o.give.2.1;simp only[b0]at this;exact this)
    have G:=(S8.o.loc _ (.head _)).1.at_ (i:=0) rfl;have H:=(S8.o.loc _ (.head _)).1.at_ (i:=1) rfl;have y:=(S8.o.loc _ (.head _)).1.at_ (i:=2) rfl;have b4:=lh (iL S8.o.give.1 b3.o e5.o b1.o b2.o);clear b0 L;go_wp2_with fail;refine b4.o.mono ?_;rintro e w8 ⟨rfl,d8,E⟩;have B:=lh (((S8.o.less (N':=[]) (dC _) (zN _) fun _ h=>h).call E (fun q hq=>by simp only[kB,yG,aG]at hq;omega) d8).less (L':=_) (.cons _ (dC _)) (dC _) fun _ h=>h);clear d8 E b4 S8 b3 G H y;have m:=lh (B.o.loc _ (.head _)).1
    go_wp2_with (refine oD rfl 212 (.tmp 9) (.tmp 54) rfl [.slice none 0 0,.int .i64 0] rfl rfl m.o qC rfl wD ?_)
    intro we b d r;have V:=lh (HQ.o _ _ ⟨_,rfl,(B.o.set_ d b).upv0⟩);have p:=lh b;clear b d r;go_wp2_with fail;exact eF (gS rfl rfl p.o Go.Proofs.Tryz.underlying212 rfl qC) rfl V.o
   ·have B:=lh (t.o.less (L':=_) (.cons _ (dC _)) (dC _) fun _ h=>h);rw[v]at HQ⊢;clear v HR t;have m:=lh (B.o.loc _ (.head _)).1
    go_wp2_with (refine oD rfl 212 (.tmp 9) (.tmp 54) rfl [.slice none 0 0,.int .i64 0] rfl rfl m.o qC rfl wD ?_)
    intro we b d r;have V:=lh (HQ.o _ _ ⟨_,rfl,(B.o.set_ d b).upv0⟩);have p:=lh b;clear b d r;go_wp2_with fail;exact eF (gS rfl rfl p.o Go.Proofs.Tryz.underlying212 rfl qC) rfl V.o
  ·rw[O]at c8;cases c8
 | false=>
  rcases HW.o with ⟨Q,_⟩|⟨-,c1,f9,u1,a0,F⟩
  ·rw[O]at Q;cases Q
  ·clear O;have b5:=lh (aGD (I.o.bytes (.head _)) J.o a8.o (by have:=j.o;omega));have e':=lh a0;have Y:=lh F;have f0:=lh (HP.o.to a0.same);clear a0 F HW;go_wp2_with fail;refine b5.o.mono ?_;rintro e w5 ⟨rfl,C⟩;have t:=lh (I.o.quiet C);clear C b5 G H y I J;have G:=(t.o.loc _ (.head _)).1.at_ (i:=0) rfl;have H:=(t.o.loc _ (.head _)).1.at_ (i:=1) rfl;have y:=(t.o.loc _ (.head _)).1.at_ (i:=2) rfl;have f1:=wi deep (by omega)
   have b6:=lh (uM (t.o.bytes (.head _)) (nX n key) (by have:=j.o;omega));go_wp2_with fail;refine b6.o.mono ?_;rintro e w6 ⟨rfl,d9⟩;have z:=lh (t.o.quiet d9);clear d9 b6 G H y t;have b7:Hid (Calls prog 123 #[.pointer (some ⟨bc,0,none⟩),.int .i64 ((n.child (n.way key):Nat):Int),.slice Ak key.length ck,.int .i64 ((deep:Int)+1)] w6 _):=lh (e4.o.go (deep:=deep+1) (by have:=U.o;omega) e'.o HP.o z.o.ch (z.o.kb (.head _)) z.o.offD);go_wp2_with fail;refine b7.o.mono ?_;rintro e w7 ⟨uv,rfl,d',e0,e1⟩;obtain⟨Au,cu,rfl,e2⟩:=d'.open_;have S8:=lh ((z.o.call e1 (by simp) e0).key e2);clear e2 d' e0 e1 z b7 f1
   go_wp2_with (first
    | (with_reducible refine mA rfl 212 rfl (.agg #[.slice none 0 0,.int .i64 0]) zup.toArray jL rfl ?_)
    | (refine vA (W:=w7) rfl 212 (.tmp 16) (.tmp 68) rfl [.slice Au u1.1.length cu,.int .i64 ((u1.2:Nat):Int)] rfl rfl rfl qC rfl wD ?_))
   intro w8 a3 E f5;obtain⟨f',S⟩:=nm (w7.heap.size);rw[<- S]at a3⊢;have M:=lh (S8.o.new1 E a3 (by omega));clear E a3 f5 S S8;rcases Y.o with ⟨rfl,rfl,rfl,rfl⟩|⟨rfl,rfl,hM⟩
   ·have B:=lh (M.o.less (L':=_) (.cons _ (.cons _ (dC _))) (dC _) fun _ h=>h);clear M;have m:=lh (B.o.loc _ (.head _)).1
    go_wp2_with (refine oD rfl 212 (.tmp 9) (.tmp 71) rfl [.slice none 0 0,.int .i64 0] rfl rfl m.o qC rfl wD ?_)
    intro we b d r;have V:=lh (HQ.o _ _ ⟨_,rfl,(B.o.set_ d b).upv0⟩);have p:=lh b;clear b d r;go_wp2_with fail;exact eF (gS rfl rfl p.o Go.Proofs.Tryz.underlying212 rfl qC) rfl V.o
   ·have HM:=lh (aQC f0.o M.o hM);have v0:=(M.o.loc _ (.head _)).1.at_ (i:=0) rfl;have v1:=(M.o.loc _ (.head _)).1.at_ (i:=1) rfl;have G:=(M.o.loc _ (.tail _ (.head _))).1.at_ (i:=0) rfl;have H:=(M.o.loc _ (.tail _ (.head _))).1.at_ (i:=1) rfl;have y:=(M.o.loc _ (.tail _ (.head _))).1.at_ (i:=2) rfl;clear hM;go_wp2_with fail;refine HM.o.mono ?_;rintro e w9 ⟨A',x,rfl,T⟩;have B:=lh (T.less (L':=_) (.cons _ (.cons _ (dC _))) (dC _) fun _ h=>h);have m:=lh (B.o.loc _ (.head _)).1;clear T HM M v0 v1 G H y
    go_wp2_with (refine oD rfl 212 (.tmp 9) (.tmp 77) rfl [.slice A' u.1.length x,.int .i64 ((u.2:Nat):Int)] rfl rfl m.o qC rfl wD ?_)
    intro we b d r;have V:=lh (HQ.o _ _ ⟨_,rfl,(B.o.set_ d b).upv⟩);have p:=lh b;clear b d r;go_wp2_with fail;exact eF (gS rfl rfl p.o Go.Proofs.Tryz.underlying212 rfl qC) rfl V.o
theorem aPc:∀f,aGI w0 wS dk g bc bn bs s X f
 | 0=>⟨fun _ h=>h.elim⟩
 | f+1=>aPb (aPc f)
end
theorem aRv{β γ:Type}{H P:α->β->γ->Prop}(main:(∀a b c,H a b c->P a b c)->p)(tail:∀a b c,H a b c->P a b c):p:=main tail
theorem dG(c:CD)(g b bs:Nat){t:Nat}(ht:t<8):(chC c g b bs)[2+t]? = some (.int .i64 ((c.roots t:Nat):Int)):=by
 match t,ht with
 | 0,_|1,_|2,_|3,_|4,_|5,_|6,_|7,_=>rfl
theorem aLS(c:CD)(g b bs:Nat){t:Nat}(ht:t<8)(v:Nat):(chC c g b bs).set (2+t) (.int .i64 ((v:Nat):Int))=chC (c.root t v) g b bs:=by
 match t,ht with
 | 0,_|1,_|2,_|3,_|4,_|5,_|6,_|7,_=>rfl
theorem WfW.root{c:CD}(h:WfW c){t v:Nat}(b:v<65536):WfW (c.root t v):=⟨h.n,h.next,h.head,h.pg,h.rM,h.rS,h.mM,h.mS,fun k=>by show(if k=t then v else c.roots k)<65536;split;exact b;exact h.roots k⟩
theorem aBr(b:Array Value)(w:World):(callFunc 118 b).run prog w=.ok (.enter 118 b) w:=by kernel_rfl
theorem aBs(b:Array Value)(w:World):(callFunc 119 b).run prog w=.ok (.enter 119 b) w:=by kernel_rfl
section
variable {w0 wS w w1 w2 : World} {dk g bc bn bs : Nat} {s : PS} {X D : Nat -> Prop} {L : List LB} {N : List NP} {Kl : List Kq} {c c' : CD}
theorem kE.root(h:kE wS w g bc bn bs D c){t v:Nat}(ht:t<8)(d:v<65536):kE wS (w.setCell ⟨bc,2+t,none⟩ (.int .i64 ((v:Nat):Int))) g bc bn bs D (c.root t v)/\Fr [bc] w (w.setCell ⟨bc,2+t,none⟩ (.int .i64 ((v:Nat):Int))):=by
 have b:Fr [bc] w (w.setCell ⟨bc,2+t,none⟩ (.int .i64 ((v:Nat):Int))):=(Fr.refl [bc] w).setCell (.inl (by simp)) _;exact⟨h.set (c':=c.root t v) (by rw[<- aLS c g bn bs ht v];exact h.blk.set_ (2+t) _) b rfl rfl (h.wf.root d),b⟩
theorem Sx.row1(h:Sx wS w g bc bn bs D L N Kl c w1){x:It}{kv vv av:Value}{n:Nd}(o:ItC (Off D L N) w1 x kv vv av)(d:Fr [] w1 w2){p:Nat}(f:Blk w2 p 198 [kv,vv,av])(r:w1.heap.size<=p)(i:n.l=[x]):
  NdV (Off D L N) w2 0 (.agg #[.int .i64 (dA n),.int .i64 (n.first:Int),.slice (some ⟨p,0,none⟩) 1 1]) n:=by
 have j:=d.size;have k:=h.fr.size;have m:=f.lt;refine⟨.slice (some ⟨p,0,none⟩) 1 1,[kv,vv,av],rfl,?_,?_,fun q b=>?_⟩
 ·rw[i];exact⟨rfl,.inr ⟨p,1,#[kv,vv,av],rfl,rB _,f,tA _,by unfold maxLen;omega,rfl,rfl⟩⟩
 ·rw[i]
  have h1:ItC (fun q=>Off D L N q/\(Value.slice (some ⟨p,0,none⟩) 1 1).ownBlock≠some q) w1 x kv vv av:=
   o.re (fun q b t=>⟨b,fun e=>by have:p=q:=fG e;omega⟩) ⟨w2.heap.size,h.offD _ j,fun e=>by have:p=_:=fG e;omega⟩
  exact⟨h1.fr d,trivial⟩
 ·obtain rfl:p=q:=fG b;exact h.offD _ r
theorem aGJ{t:Nat}{u:Ky×Nat}{uv:Value}(hp:PgC w0 wS dk g s X c)(h:kE wS w g bc bn bs D c)(hu:UpV D w uv u)(hD:∀q,w.heap.size<=q->D q)(ht:t<8)
 (b4:u.2≠0->1<=u.1.length/\u.1.length<=96/\u.2<65536/\c.e=0/\0<c.n/\(c.head≠0->c.head<c.n/\∃j,c.nx c.head=some j)):
  Calls prog 121 #[.pointer (some ⟨bc,0,none⟩),.int .i64 (t:Int),uv] w fun e w'=>e=.returned (.tuple #[])/\kE wS w' g bc bn bs D (lE c t u)/\Fr [bc,bn,bs] w w':=by
 obtain⟨M,O,rfl,a8⟩:=hu.open_;obtain⟨wb,Q⟩:=nm (w.alloc (.cells #[.slice M u.1.length O,.int .i64 ((u.2:Nat):Int)] 212));have a5:Fr [] w wb:=by rw[Q];exact(Fr.refl [] w).alloc _
 have a6:Blk wb w.heap.size 212 [.slice M u.1.length O,.int .i64 ((u.2:Nat):Int)]:=by rw[Q];exact Blk.new w _ [.slice M u.1.length O,.int .i64 ((u.2:Nat):Int)]
 have hO:∀q,D q->Off D [] [] q:=fun q hq=>⟨hq,fun _ h=>by simp at h,fun _ h=>by simp at h⟩;have S1:=lh (((Sx.start h hD).key (a8.imp fun q hq=>⟨hq.1,hO q hq.2⟩)).new1 a5 a6 (tA _));have d4:((t:Nat):Int)<8:=by omega
 refine gA fun R HQ=>?_
 by_cases S:u.2=0
 ·have eg:lE c t u=c:=by unfold lE;rw[iA S]
  rw[eg]at HQ;have HX:=lh (HQ.o _ _ ⟨rfl,S1.o.fin⟩);have v1:=S1.o.fin;have A:=(S1.o.loc _ (.head _)).1.at_ (i:=1) rfl
  simp only at A
  rw[S]at A;have d5:=lh S;clear h hp a8 a5 a6 hO S1 eg v1 b4 hu S
  go_enter func121,ntmps121
  go_upto_region 1 with fail
  rw[<- Q];clear Q;go_wp2_with fail
  go_end0
  exact HX.o
 ·obtain⟨k1,k2,k3,he,c1,hh⟩:=b4 S;have c8:¬ ((u.2:Nat):Int)=0:=by omega
  have eg:lE c t u=(c.alloc.1.root t c.alloc.2).write c.alloc.2 ⟨false,c.roots t,[⟨u.1,[],u.2⟩]⟩:=by unfold lE;rw[eA S]
  rw[eg]at HQ;obtain⟨G,a3⟩:∃G:Nd,G=⟨false,c.roots t,[⟨u.1,[],u.2⟩]⟩:=⟨_,rfl⟩;rw[<- a3]at HQ
  have b5:G.ok/\G.size<=512:=by
   rw[a3];refine⟨⟨by show 1<65536;omega,fun x hx=>?_,h.wf.roots t,fun e=>by cases e⟩,?_⟩
   ·obtain rfl:=aB.1 hx;exact⟨k1,k2,rB _,k3,rfl⟩
   ·show 5+(3+u.1.length+0)<=512;omega
  have b6:c.alloc.2<c.n:=by
   unfold CD.alloc
   split
   ·rename_i h;exact(hh h).1
   ·split
    ·assumption
    ·exact c1
  have b7:c.alloc.1.n=c.n:=aBI c;have b8:=h.wf.n;have a4:=lh b5;have b9:=lh b6;have c5:=lh b7;have HE:=lh he;have c6:=lh hh;have HP:=lh hp;have P:=lh a3;have c7:=lh b8;have C:=(S1.o.loc _ (.head _)).1.at_ (i:=0) rfl;have A:=(S1.o.loc _ (.head _)).1.at_ (i:=1) rfl;have z:=(S1.o.ch.blk).at_ (dG c g bn bs ht);clear h hp a8 a5 a6 hO eg b4 hu b5 b6 b7 he hh a3 k1 k2 k3 c1 b8
  go_enter func121,ntmps121
  go_upto_region 1 with fail
  rw[<- Q];clear Q;go_upto_region 2 with fail
  have S2:=lh (S1.o.quiet ((Fr.refl [] wb).drew));clear S1
  apply aRv (H:=fun f p6 W=>Hid (Sx wS w g bc bn bs D ((p6,184,[.int .i64 2,.int .i64 (c.roots t:Int),.slice (some ⟨f,0,none⟩) 1 1])::(w.heap.size,212,[.slice M u.1.length O,.int .i64 ((u.2:Nat):Int)])::[]) [] (.nd (.agg #[.int .i64 2,.int .i64 (c.roots t:Int),.slice (some ⟨f,0,none⟩) 1 1]) G::.by_ (.slice M u.1.length O) u.1::[]) c W))
  case main=>
   intro B;refine lA (fun W=>W.cell? ⟨bc,2+t,none⟩=some (.int .i64 ((c.roots t:Nat):Int))/\W.cell? ⟨w.heap.size,0,none⟩=some (.slice M u.1.length O)/\W.cell? ⟨w.heap.size,1,none⟩=some (.int .i64 ((u.2:Nat):Int))) [0,1,2,3,4,5,6,7,8,9,10,11,12,14] (by kernel_rfl) ?_;refine tks [0,1,2,3,4,5,6,7,8,9,10,11,12] ?_
   iterate 13 (refine tk rfl rfl ⟨z,C,A⟩ rfl (fun _ hW=>by(obtain⟨q0,q1,q2⟩:=hW;go_simp)<;>with_reducible rfl) ?_;simp only[nrm])
   refine tke ?_;refine aM (i:=13) (j:=15) (some 23) (some 6) rfl rfl rfl rfl (by kernel_rfl) rfl rfl (fun K hK=>?_) (fun K hK=>?_)
   ·
    obtain⟨wx,r⟩:=nm (wb.drew.alloc (.cells ([.slice M u.1.length O,.slice none 0 0,.int .i64 ((u.2:Nat):Int)]:List Value).toArray 198));have m:Fr [] wb.drew wx:=by rw[r];exact(Fr.refl [] wb.drew).alloc _
    have F:Blk wx wb.drew.heap.size 198 [.slice M u.1.length O,.slice none 0 0,.int .i64 ((u.2:Nat):Int)]:=by rw[r];exact Blk.new wb.drew _ [.slice M u.1.length O,.slice none 0 0,.int .i64 ((u.2:Nat):Int)]
    replace C:=aA m C
    replace A:=aA m A
    replace z:=aA m z
    obtain⟨ti,Y,Z,E,a9⟩:=mE wJ;refine dD (.tmp 22) rfl Go.Proofs.Tryz.underlying182 Y Z [.slice M u.1.length O,.slice none 0 0,.int .i64 ((u.2:Nat):Int)] rfl E rfl (by simp) (by simp) (hK _ _ (fun _=>by rw[r]at z C A;exact⟨z,C,A⟩) ?_);simp only[nrm];rw[<- r];clear hK Y Z E a9;obtain⟨f,y⟩:=nm (wb.drew.heap.size);rw[<- y]at F⊢;have p:=S2.o.row1 (n:=G) (x:=⟨u.1,[],u.2⟩) ⟨S2.o.kb (.head _),S2.o.nil_key,rfl⟩ m F (zP y.symm) (by rw[P.o]);rw[show dA G=2 by rw[P.o];rfl,show G.first=c.roots t by rw[P.o]]at p;have S3:=lh ((S2.o.quiet m).nd p);clear p m F r y;refine tv 14 (.agg #[.int .i64 2,.int .i64 (c.roots t:Int),.slice (some ⟨f,0,none⟩) 1 1]) rfl rfl ⟨z,C,A⟩ (.inl ⟨rfl,fun W hW=>by go_simp⟩) ?_;simp only[nrm];refine sp 15 rfl rfl rfl fun K hK=>?_;refine yB 184 rfl (.agg #[.int .i64 0,.int .i64 0,.slice none 0 0]) znd kD rfl fun J b d a0=>?_
    replace C:=aA d C
    replace A:=aA d A
    replace z:=aA d z
    refine hK _ _ (fun _=>⟨z,C,A⟩) ?_;simp only[nrm];clear hK;obtain⟨p6,I⟩:=nm (wx.heap.size);rw[<- I]at b⊢;have T:=lh (S3.o.new1 d b (zP I.symm));clear b d a0 I;have b:=(T.o.loc _ (.head _)).1;refine xA (j:=16) none rfl rfl (by kernel_rfl) rfl fun K hK=>?_;refine yA 184 (.tmp 6) (.tmp 24) rfl [.int .i64 2,.int .i64 (c.roots t:Int),.slice (some ⟨f,0,none⟩) 1 1] rfl rfl b oB rfl qB fun b3 a1 a2 c4=>hK _ _ (fun h=>absurd h (by decide +kernel)) ?_;simp only[Act.put];clear hK;refine wd ?_ _;exact B f p6 b3 (lh (T.o.set_ a2 a1))
   ·
    refine yB 184 rfl (.agg #[.int .i64 0,.int .i64 0,.slice none 0 0]) znd kD rfl fun J b d a0=>?_
    replace C:=aA d C
    replace A:=aA d A
    replace z:=aA d z
    refine hK _ _ (fun _=>⟨z,C,A⟩) ?_;simp only[nrm];clear hK;obtain⟨p6,I⟩:=nm (wb.drew.heap.size);rw[<- I]at b⊢;have S3:=lh (S2.o.new1 d b (zP I.symm));clear b d a0 I;refine sp 13 rfl rfl rfl fun K hK=>?_;obtain⟨wx,r⟩:=nm (J.alloc (.cells ([.slice M u.1.length O,.slice none 0 0,.int .i64 ((u.2:Nat):Int)]:List Value).toArray 198));have m:Fr [] J wx:=by rw[r];exact(Fr.refl [] J).alloc _
    have F:Blk wx J.heap.size 198 [.slice M u.1.length O,.slice none 0 0,.int .i64 ((u.2:Nat):Int)]:=by rw[r];exact Blk.new J _ [.slice M u.1.length O,.slice none 0 0,.int .i64 ((u.2:Nat):Int)]
    replace C:=aA m C
    replace A:=aA m A
    replace z:=aA m z
    obtain⟨ti,Y,Z,E,a9⟩:=mE wJ;refine dD (.tmp 22) rfl Go.Proofs.Tryz.underlying182 Y Z [.slice M u.1.length O,.slice none 0 0,.int .i64 ((u.2:Nat):Int)] rfl E rfl (by simp) (by simp) (hK _ _ (fun _=>by rw[r]at z C A;exact⟨z,C,A⟩) ?_);simp only[nrm];rw[<- r];clear hK Y Z E a9;obtain⟨f,y⟩:=nm (J.heap.size);rw[<- y]at F⊢;have p:=S3.o.row1 (n:=G) (x:=⟨u.1,[],u.2⟩) ⟨S3.o.kb (.head _),S3.o.nil_key,rfl⟩ m F (zP y.symm) (by rw[P.o]);rw[show dA G=2 by rw[P.o];rfl,show G.first=c.roots t by rw[P.o]]at p;have T:=lh ((S3.o.quiet m).nd p);clear p m F r y;refine tv 14 (.agg #[.int .i64 2,.int .i64 (c.roots t:Int),.slice (some ⟨f,0,none⟩) 1 1]) rfl rfl ⟨z,C,A⟩ (.inl ⟨rfl,fun W hW=>by go_simp⟩) ?_;simp only[nrm];have b:=(T.o.loc _ (.head _)).1;refine xA (j:=16) none rfl rfl (by kernel_rfl) rfl fun K hK=>?_;refine yA 184 (.tmp 6) (.tmp 24) rfl [.int .i64 2,.int .i64 (c.roots t:Int),.slice (some ⟨f,0,none⟩) 1 1] rfl rfl b oB rfl qB fun b3 a1 a2 c4=>hK _ _ (fun h=>absurd h (by decide +kernel)) ?_;simp only[Act.put];clear hK;refine wd ?_ _;exact B f p6 b3 (lh (T.o.set_ a2 a1))
  intro f p6 w2 S3;clear C A z S2;have T:=lh (S3.o.quiet ((Fr.refl [] w2).drew));clear S3;have c9:=T.o.low;have d3:=(T.o.loc _ (.head _)).2;have b':=lh (aDy HP.o T.o.ch HE.o c6.o);go_upto_region 3 with fail
  apply aER (H:=fun W=>Hid (Sx wS w g bc bn bs D ((p6,184,[.int .i64 2,.int .i64 (c.roots t:Int),.slice (some ⟨f,0,none⟩) 1 1])::[]) [] (.nd (.agg #[.int .i64 2,.int .i64 (c.roots t:Int),.slice (some ⟨f,0,none⟩) 1 1]) G::[]) (c.alloc.1.root t c.alloc.2) W))
  case main=>
   intro B;refine lA (fun _=>True) [0,1,2,4,5,6,7] (by kernel_rfl) ?_;refine tks [0,1,2,4,5,6] ?_
   iterate 6 (refine tk rfl rfl trivial rfl (fun _ _=>by go_simp<;>with_reducible rfl) ?_;simp only[nrm])
   refine tke ?_;refine sp 3 rfl rfl rfl fun K hK=>?_;refine jA (l:=[.tmp 27]) rfl [.pointer (some ⟨bc,0,none⟩)] rfl (aBr _) (b'.o.mono ?_);rintro e w3 ⟨rfl,c2,c3⟩;refine⟨_,rfl,hK _ _ (fun _=>trivial) ?_⟩;simp only[nrm];have S5:=lh (T.o.call c3 (by simp) c2);clear hK c2 c3;have U:=S5.o.ch.root ht (v:=c.alloc.2) (by have:=b9.o;have:=c7.o;omega);have d6:=S5.o.ch.blk.free (2+t);have d7:=S5.o.ch.blk.at_ (dG _ g bn bs ht);refine tks [7] ?_;refine tk rfl rfl trivial rfl (fun _ _=>by go_simp<;>with_reducible rfl) ?_;simp only[nrm];refine tke ?_;refine xA (j:=8) none rfl rfl (by kernel_rfl) rfl fun K hK=>?_;refine pB (w':=w3.setCell ⟨bc,2+t,none⟩ (.int .i64 ((c.alloc.2:Nat):Int))) (by go_simp) (hK _ _ (fun _=>trivial) ?_);simp only[Act.put];clear hK;refine wd ?_ _;exact B _ (lh ((S5.o.call U.2 (by simp) U.1).less (L':=_) (.cons_cons _ (zN _)) (dC _) fun k hk=>by simp only[kB]at hk⊢;rcases hk with h|h<;>simp[h]))
  intro w4 S5;clear T b';have S6:=lh (S5.o.quiet ((Fr.refl [] w4).drew));clear S5;have d0:=(S6.o.loc _ (.head _)).1.at_ (i:=0) rfl;have d1:=(S6.o.loc _ (.head _)).1.at_ (i:=1) rfl;have d2:=(S6.o.loc _ (.head _)).1.at_ (i:=2) rfl;have z:=S6.o.ch.blk.at_ (dG _ g bn bs ht);rw[show(c.alloc.1.root t c.alloc.2).roots t=c.alloc.2 by show(if t=t then _ else _)=_;rw[iA rfl]]at z;have c0:=lh (iL S6.o.ch (S6.o.kn (n:=G) (.head _)) (k:=c.alloc.2) (by have:=b9.o;have:=c5.o;show _<c.alloc.1.n;omega) a4.o.1 a4.o.2);go_upto_region 4 with fail
  apply aER (H:=fun W=>Hid (Sx wS w g bc bn bs D [] [] [] ((c.alloc.1.root t c.alloc.2).write c.alloc.2 G) W))
  case main=>
   intro B;refine lA (fun W=>W.cell? ⟨bc,2+t,none⟩=some (.int .i64 ((c.alloc.2:Nat):Int))/\W.cell? ⟨p6,0,none⟩=some (.int .i64 2)/\W.cell? ⟨p6,1,none⟩=some (.int .i64 (c.roots t:Int))/\W.cell? ⟨p6,2,none⟩=some (.slice (some ⟨f,0,none⟩) 1 1)) [0,1,2,3,4,5,6,7,8] (by kernel_rfl) ?_;refine tks [0,1,2,3,4,5,6,7,8] ?_
   iterate 9 (refine tk rfl rfl ⟨z,d0,d1,d2⟩ rfl (fun _ hW=>by(obtain⟨q0,q1,q2,q3⟩:=hW;go_simp)<;>with_reducible rfl) ?_;simp only[nrm])
   refine tke ?_;refine sp 9 rfl rfl rfl fun K hK=>?_;refine jA (l:=[.tmp 33,.tmp 40,.tmp 41]) rfl [.pointer (some ⟨bc,0,none⟩),.int .i64 ((c.alloc.2:Nat):Int),.agg #[.int .i64 2,.int .i64 (c.roots t:Int),.slice (some ⟨f,0,none⟩) 1 1]] rfl (aBs _) (c0.o.mono ?_);rintro e w5 ⟨rfl,a',b2⟩;have V:=lh (S6.o.call b2 (by simp) a');have a7:=V.o.ch.blk.at_ (dG _ g bn bs ht);rw[show((c.alloc.1.root t c.alloc.2).write c.alloc.2 G).roots t=c.alloc.2 by show(if t=t then _ else _)=_;rw[iA rfl]]at a7;have S7:=lh ((S6.o.call b2 (by simp) a').less (L':=[]) (N':=[]) (K':=[]) (zN _) (dC _) (by simp));refine⟨_,rfl,hK _ _ (fun _=>⟨a7,(V.o.loc _ (.head _)).1.at_ (i:=0) rfl,(V.o.loc _ (.head _)).1.at_ (i:=1) rfl,(V.o.loc _ (.head _)).1.at_ (i:=2) rfl⟩) ?_⟩;simp only[nrm];clear hK a' b2 V a7;refine wd ?_ _;exact B _ S7
  intro w5 S7;have HX:=lh (HQ.o _ _ ⟨rfl,S7.o.fin⟩);clear S6 d0 d1 d2 z c0 S7;go_wp2_with fail
  go_end0
  exact HX.o
theorem aPd(c:CD):c.fail 0=c:=by
 unfold CD.fail
 split
 ·rename_i h;cases c;simp only at h;rw[h]
 ·rfl
theorem aPe{t:Nat}{n:Nd}(hp:PgC w0 wS dk g s X c)(h:kE wS w g bc bn bs D c)(hD:∀q,w.heap.size<=q->D q)(ht:t<8)(hN:c.N (c.roots t)=some n)(hc:oK c t=some c'):
  Calls prog 124 #[.pointer (some ⟨bc,0,none⟩),.int .i64 (t:Int)] w fun e w'=>e=.returned (.tuple #[])/\kE wS w' g bc bn bs D c'/\Fr [bc,bn,bs] w w':=by
 have S1:=lh (Sx.start h hD);obtain⟨M,O,P⟩:=h.wf.N_ok hN;have r:=qE P;have d:=O.first;have E:=lh (pN hp S1.o.ch hN S1.o.offD)
 have F:(if c.e≠0∨n.l≠[] then some c else some ((c.free (c.roots t)).root t n.first))=some c':=by
  unfold oK at hc;rw[hN]at hc;exact hc
 have b2:((t:Nat):Int)<8:=by omega
 have cr:=S1.o.ch.blk.at_ (dG c g bn bs ht);have a2:=lh M;have a':=lh r;have a3:=lh d;have HC:=lh F;clear h hp hD hN hc F O P M r d;refine gA fun R HQ=>?_
 go_enter func124,ntmps124
 go_wp2_with fail;refine E.o.mono ?_;rintro e w1 ⟨nv,rfl,Q,S⟩;obtain⟨A,ca,rfl,T⟩:=S1.o.node_r S Q;have S2:=lh T;clear Q S T S1 E cr
 go_wp2_with (first
  | (with_reducible refine mA rfl 184 rfl (.agg #[.int .i64 0,.int .i64 0,.slice none 0 0]) znd.toArray kD rfl ?_)
  | (refine vA (W:=w1) rfl 184 (.tmp 4) (.tmp 16) rfl [.int .i64 (dA n),.int .i64 (n.first:Int),.slice A n.l.length ca] rfl rfl rfl oB rfl qB ?_))
 intro w2 z a0 a9;obtain⟨p4,U⟩:=nm (w1.heap.size);rw[<- U]at z⊢;have S3:=lh (S2.o.new1 a0 z (by omega));clear a0 z a9 U S2;go_wp2_with fail;refine(iM S3.o.ch 0).mono ?_;rintro e w3 ⟨rfl,y,V,a8⟩;rw[aPd]at y⊢;have x:=lh (S3.o.call V (by simp) y);clear y V a8 S3;have d2:=(x.o.loc _ (.head _)).1.at_ (i:=2) rfl
 by_cases B:c.e=0
 ·have G:decide (c.e≠0)=false:=by rw[B];rfl
  rw[G];have HE:=lh B;clear G B
  by_cases C:n.l.length=0
  ·have a4:¬ (0:Int)<((n.l.length:Nat):Int):=by omega
   have f:n.l=[]:=tO.1 C
   have m:c'=(c.free (c.roots t)).root t n.first:=by
    have:=HC.o;rw[eA (by rw[HE.o,f];simp)]at this;exact(fG this).symm
   subst m;have HL:=lh C;have b0:=lh f;clear C f HC;have cr:=x.o.ch.blk.at_ (dG c g bn bs ht);have p:=lh (aLM x.o.ch (k:=c.roots t) a2.o);go_wp2_with fail;refine p.o.mono ?_;rintro e w4 ⟨rfl,Y,Z⟩;have u:=lh ((x.o.call Z (by simp) Y).quiet ((Fr.refl [] w4).drew));clear Y Z p x cr d2;have d1:=(u.o.loc _ (.head _)).1.at_ (i:=1) rfl;have b:=u.o.ch.root ht (v:=n.first) a3.o;have a5:=u.o.ch.blk.free (2+t);have a6:=u.o.ch.blk.at_ (dG _ g bn bs ht);go_upto_region 3 with fail
   apply aER (H:=fun W=>Hid (Sx wS w g bc bn bs D [] [] [] ((c.free (c.roots t)).root t n.first) W))
   case main=>
    intro a1;refine lA (fun W=>W.cell? ⟨p4,1,none⟩=some (.int .i64 (n.first:Int))/\True) [0,1,2,3,4,5,6,7] (by kernel_rfl) ?_;refine tks [0,1,2,3,4,5,6,7] ?_
    iterate 8 (refine tk rfl rfl ⟨d1,trivial⟩ rfl (fun _ hW=>by(obtain⟨q0,_⟩:=hW;go_simp)<;>with_reducible rfl) ?_;simp only[nrm])
    refine tke ?_;refine xA (j:=8) none rfl rfl (by kernel_rfl) rfl fun K hK=>?_;have I:=(u.o.loc _ (.head _)).2;have b1:=u.o.low;have a7:=wA b.2 (by simp only at I;simp;omega) d1;refine pB (w':=w4.drew.setCell ⟨bc,2+t,none⟩ (.int .i64 (n.first:Int))) (by go_simp) (hK _ _ (fun _=>⟨a7,trivial⟩) ?_);simp only[Act.put];clear hK;refine wd ?_ _;exact a1 _ (lh ((u.o.call b.2 (by simp) b.1).less (L':=[]) (N':=[]) (K':=[]) (zN _) (dC _) (by simp)))
   intro w5 S6;have J:=lh (HQ.o _ _ ⟨rfl,S6.o.fin⟩);clear u S6 d1 b a5 a6;go_wp2_with fail
   go_end0
   exact J.o
  ·have a4:(0:Int)<((n.l.length:Nat):Int):=by omega
   have m:c'=c:=by
    have:=HC.o;rw[iA (.inr fun e=>C (by rw[e];rfl))]at this;exact(fG this).symm
   subst m;have J:=lh (HQ.o _ _ ⟨rfl,x.o.fin⟩);have HL:=lh C;clear C;go_wp2_with fail
   go_end0
   exact J.o
 ·have G:decide (c.e≠0)=true:=by simpa using B
  rw[G]
  have m:c'=c:=by
   have:=HC.o;rw[iA (.inl B)]at this;exact(fG this).symm
  subst m;have J:=lh (HQ.o _ _ ⟨rfl,x.o.fin⟩);have HE:=lh B;clear G B;go_wp2_with fail
  go_end0
  exact J.o
end
def aAP (c:CD):Nat->List UInt8
 | 0=>[79,82]++b16 c.next++b16 c.head
 | k+1=>aAP c k++b16 (c.roots k)
theorem jI(c:CD):∀k,(aAP c k).length=6+2*k
 | 0=>rfl
 | k+1=>by
  show(aAP c k++b16 (c.roots k)).length=_
  rw[lB,jI c k]
  show 6+2*k+2=_
  omega
theorem aPf(c:CD):aAP c 8=iJ c:=rfl
def spC (c:CD):List Value:=[.int .i64 (c.next:Int),.int .i64 (c.head:Int),.int .i64 (c.roots 0:Int),.int .i64 (c.roots 1:Int),.int .i64 (c.roots 2:Int),.int .i64 (c.roots 3:Int),.int .i64 (c.roots 4:Int),.int .i64 (c.roots 5:Int),.int .i64 (c.roots 6:Int),.int .i64 (c.roots 7:Int)]
def kZ (c:CD) (wb:World) (v3 v15:Value) (wr:World):Prop:=∃k:Nat,k<=8/\v15=.int .i64 (k:Int)/\Buf wr wb.heap.size v3 (aAP c k)/\Fr [] wb wr
theorem aKA(c:CD){w:World}(hn:c.next<65536)(hh:c.head<65536)(E:∀t,c.roots t<65536):
  Calls prog 154 #[.agg (spC c).toArray] w fun e w'=>∃v',e=.returned v'/\(∃g,cA w' v' (iJ c) g/\w.heap.size<=g)/\Fr [] w w':=by
 obtain⟨j,z⟩:=nm (w.alloc (.cells (spC c).toArray 138));have J:Fr [] w j:=by rw[z];exact(Fr.refl [] w).alloc _
 have O:Blk j w.heap.size 138 (spC c):=by rw[z];exact Blk.new w _ (spC c)
 have u:=lh O;have L:=lh J;have c0:=O.at_ (i:=0) rfl;have c1:=O.at_ (i:=1) rfl;clear O J;unfold spC at z⊢;refine gA fun R HQ=>?_
 go_enter func154,ntmps154
 go_upto_region 1 with fail
 rw[<- z];clear z;refine lA (fun W=>W.cell? ⟨w.heap.size,0,none⟩=some (.int .i64 (c.next:Int))/\W.cell? ⟨w.heap.size,1,none⟩=some (.int .i64 (c.head:Int))) [1,2,4,5] (by kernel_rfl) ?_;refine tks [1,2,4,5] ?_
 iterate 4 (refine tk rfl rfl ⟨c0,c1⟩ rfl (fun _ hW=>by(obtain⟨q0,q1⟩:=hW;go_simp)<;>with_reducible rfl) ?_;simp only[nrm])
 refine tke ?_;obtain⟨P,B⟩:=nm (j.drew.alloc (.cells #[.int .u8 79,.int .u8 82] 5));have x:Fr [] j P:=by rw[B];exact((Fr.refl [] j).drew).alloc _
 have M:Blk P j.heap.size 5 (fA [79,82]):=by rw[B];exact Blk.new j.drew 5 (fA [79,82])
 have c0:=aA x c0;have c1:=aA x c1;refine sp 0 rfl rfl rfl fun K hK=>?_;refine xB (v:=.slice (some ⟨j.heap.size,0,none⟩) 2 2) (w':=P) (by rw[B];simp[execOp,Act.eval,aAD,Result.andThen]) (hK _ _ (fun _=>⟨c0,c1⟩) ?_);simp only[nrm];clear hK B;have F:Hid (Buf P j.heap.size (.slice (some ⟨j.heap.size,0,none⟩) 2 2) [79,82]):=lh (aDu M rfl (tA _) (by omega));have h:=lh (jG F.o c.next hn (by simp) x.size);refine sp 3 rfl rfl rfl fun K hK=>?_;refine jA (l:=[.tmp 6,.tmp 8]) rfl [.slice (some ⟨j.heap.size,0,none⟩) 2 2,.int .i64 (c.next:Int)] rfl (yO _) (h.o.mono ?_);rintro e w1 ⟨v1,rfl,C⟩;have y:Fr [] j w1:=x.trans C.fr (fun q n=>.inr (F.o.lt q (by simpa using n)).1);have c0:=(u.o.fr y).at_ (i:=0) rfl;have c1:=(u.o.fr y).at_ (i:=1) rfl;refine⟨_,rfl,hK _ _ (fun _=>⟨c0,c1⟩) ?_⟩;simp only[nrm];clear hK h;have h:=lh (jG C.buf c.head hh (by simp[b16]) y.size);refine sp 6 rfl rfl rfl fun K hK=>?_;refine jA (l:=[.tmp 9,.tmp 11]) rfl [v1,.int .i64 (c.head:Int)] rfl (yO _) (h.o.mono ?_);rintro e T ⟨v2,rfl,H⟩;have A:Fr [] j T:=y.trans H.fr (fun q n=>.inr (C.buf.lt q (by simpa using n)).1);have c0:=(u.o.fr A).at_ (i:=0) rfl;have c1:=(u.o.fr A).at_ (i:=1) rfl;refine⟨_,rfl,hK _ _ (fun _=>⟨c0,c1⟩) ?_⟩;simp only[nrm];clear hK h;refine sp 7 rfl rfl rfl fun K hK=>?_;refine nA (v:=?aq1_7) ?yq1_7 (hK _ _ (fun _=>⟨c0,c1⟩) ?_)
 case yq1_7=>go_simp<;>with_reducible rfl
 simp only[nrm];refine wd ?_ _;have G:Hid (Buf T j.heap.size v2 (aAP c 0)):=lh H.buf;have m:=lh A;clear c0 c1 C H y A x M F;have U:=(u.o.fr m.o).at_ (i:=2) rfl;have V:=(u.o.fr m.o).at_ (i:=3) rfl;have X:=(u.o.fr m.o).at_ (i:=4) rfl;have Y:=(u.o.fr m.o).at_ (i:=5) rfl;have Z:=(u.o.fr m.o).at_ (i:=6) rfl;have r5:=(u.o.fr m.o).at_ (i:=7) rfl;have r6:=(u.o.fr m.o).at_ (i:=8) rfl;have r7:=(u.o.fr m.o).at_ (i:=9) rfl;go_wp2_with fail
 go_loopw [3,15] (kZ c j) (fun _ v _=>8-(intOf v).toNat)
 case atStart=>exact⟨0,by omega,rfl,G.o,m.o⟩
 case round=>
  obtain⟨k,hk,rfl,D,N⟩:=hrel;have d:=lh D;have f:=lh N;clear D N U V X Y Z r5 r6 r7
  by_cases S:k<8
  ·match k,S with
   | 0,_=>
    rw[show(((0:Nat)):Int)=(0:Int) from rfl];have r:∀w,(Instr.index 136 (.agg #[.int .i64 (c.roots 0:Int),.int .i64 (c.roots 1:Int),.int .i64 (c.roots 2:Int),.int .i64 (c.roots 3:Int),.int .i64 (c.roots 4:Int),.int .i64 (c.roots 5:Int),.int .i64 (c.roots 6:Int),.int .i64 (c.roots 7:Int)]) (.int .i64 0)).run prog w=.ok (.int .i64 (c.roots 0:Int)) w:=fun _=>by kernel_rfl
    have h:=lh (jG d.o (c.roots 0) (E 0) (by rw[jI];omega) f.o.size);go_wp2_with fail;refine h.o.mono ?_;rintro e s ⟨v4,rfl,b⟩;have p:Hid (kZ c j v4 (.int .i64 ((0:Nat)+1:Nat)) s):=lh ⟨0+1,by omega,rfl,b.buf,f.o.trans b.fr (fun q n=>.inr (d.o.lt q (by simpa using n)).1)⟩;clear b h;go_wp2_with fail
    go_roundw
    case rel=>exact p.o
    case measure=>simp[intOf]
   | 1,_=>
    rw[show(((1:Nat)):Int)=(1:Int) from rfl];have r:∀w,(Instr.index 136 (.agg #[.int .i64 (c.roots 0:Int),.int .i64 (c.roots 1:Int),.int .i64 (c.roots 2:Int),.int .i64 (c.roots 3:Int),.int .i64 (c.roots 4:Int),.int .i64 (c.roots 5:Int),.int .i64 (c.roots 6:Int),.int .i64 (c.roots 7:Int)]) (.int .i64 1)).run prog w=.ok (.int .i64 (c.roots 1:Int)) w:=fun _=>by kernel_rfl
    have h:=lh (jG d.o (c.roots 1) (E 1) (by rw[jI];omega) f.o.size);go_wp2_with fail;refine h.o.mono ?_;rintro e s ⟨v4,rfl,b⟩;have p:Hid (kZ c j v4 (.int .i64 ((1:Nat)+1:Nat)) s):=lh ⟨1+1,by omega,rfl,b.buf,f.o.trans b.fr (fun q n=>.inr (d.o.lt q (by simpa using n)).1)⟩;clear b h;go_wp2_with fail
    go_roundw
    case rel=>exact p.o
    case measure=>simp[intOf]
   | 2,_=>
    rw[show(((2:Nat)):Int)=(2:Int) from rfl];have r:∀w,(Instr.index 136 (.agg #[.int .i64 (c.roots 0:Int),.int .i64 (c.roots 1:Int),.int .i64 (c.roots 2:Int),.int .i64 (c.roots 3:Int),.int .i64 (c.roots 4:Int),.int .i64 (c.roots 5:Int),.int .i64 (c.roots 6:Int),.int .i64 (c.roots 7:Int)]) (.int .i64 2)).run prog w=.ok (.int .i64 (c.roots 2:Int)) w:=fun _=>by kernel_rfl
    have h:=lh (jG d.o (c.roots 2) (E 2) (by rw[jI];omega) f.o.size);go_wp2_with fail;refine h.o.mono ?_;rintro e s ⟨v4,rfl,b⟩;have p:Hid (kZ c j v4 (.int .i64 ((2:Nat)+1:Nat)) s):=lh ⟨2+1,by omega,rfl,b.buf,f.o.trans b.fr (fun q n=>.inr (d.o.lt q (by simpa using n)).1)⟩;clear b h;go_wp2_with fail
    go_roundw
    case rel=>exact p.o
    case measure=>simp[intOf]
   | 3,_=>
    rw[show(((3:Nat)):Int)=(3:Int) from rfl];have r:∀w,(Instr.index 136 (.agg #[.int .i64 (c.roots 0:Int),.int .i64 (c.roots 1:Int),.int .i64 (c.roots 2:Int),.int .i64 (c.roots 3:Int),.int .i64 (c.roots 4:Int),.int .i64 (c.roots 5:Int),.int .i64 (c.roots 6:Int),.int .i64 (c.roots 7:Int)]) (.int .i64 3)).run prog w=.ok (.int .i64 (c.roots 3:Int)) w:=fun _=>by kernel_rfl
    have h:=lh (jG d.o (c.roots 3) (E 3) (by rw[jI];omega) f.o.size);go_wp2_with fail;refine h.o.mono ?_;rintro e s ⟨v4,rfl,b⟩;have p:Hid (kZ c j v4 (.int .i64 ((3:Nat)+1:Nat)) s):=lh ⟨3+1,by omega,rfl,b.buf,f.o.trans b.fr (fun q n=>.inr (d.o.lt q (by simpa using n)).1)⟩;clear b h;go_wp2_with fail
    go_roundw
    case rel=>exact p.o
    case measure=>simp[intOf]
   | 4,_=>
    rw[show(((4:Nat)):Int)=(4:Int) from rfl];have r:∀w,(Instr.index 136 (.agg #[.int .i64 (c.roots 0:Int),.int .i64 (c.roots 1:Int),.int .i64 (c.roots 2:Int),.int .i64 (c.roots 3:Int),.int .i64 (c.roots 4:Int),.int .i64 (c.roots 5:Int),.int .i64 (c.roots 6:Int),.int .i64 (c.roots 7:Int)]) (.int .i64 4)).run prog w=.ok (.int .i64 (c.roots 4:Int)) w:=fun _=>by kernel_rfl
    have h:=lh (jG d.o (c.roots 4) (E 4) (by rw[jI];omega) f.o.size);go_wp2_with fail;refine h.o.mono ?_;rintro e s ⟨v4,rfl,b⟩;have p:Hid (kZ c j v4 (.int .i64 ((4:Nat)+1:Nat)) s):=lh ⟨4+1,by omega,rfl,b.buf,f.o.trans b.fr (fun q n=>.inr (d.o.lt q (by simpa using n)).1)⟩;clear b h;go_wp2_with fail
    go_roundw
    case rel=>exact p.o
    case measure=>simp[intOf]
   | 5,_=>
    rw[show(((5:Nat)):Int)=(5:Int) from rfl];have r:∀w,(Instr.index 136 (.agg #[.int .i64 (c.roots 0:Int),.int .i64 (c.roots 1:Int),.int .i64 (c.roots 2:Int),.int .i64 (c.roots 3:Int),.int .i64 (c.roots 4:Int),.int .i64 (c.roots 5:Int),.int .i64 (c.roots 6:Int),.int .i64 (c.roots 7:Int)]) (.int .i64 5)).run prog w=.ok (.int .i64 (c.roots 5:Int)) w:=fun _=>by kernel_rfl
    have h:=lh (jG d.o (c.roots 5) (E 5) (by rw[jI];omega) f.o.size);go_wp2_with fail;refine h.o.mono ?_;rintro e s ⟨v4,rfl,b⟩;have p:Hid (kZ c j v4 (.int .i64 ((5:Nat)+1:Nat)) s):=lh ⟨5+1,by omega,rfl,b.buf,f.o.trans b.fr (fun q n=>.inr (d.o.lt q (by simpa using n)).1)⟩;clear b h;go_wp2_with fail
    go_roundw
    case rel=>exact p.o
    case measure=>simp[intOf]
   | 6,_=>
    rw[show(((6:Nat)):Int)=(6:Int) from rfl];have r:∀w,(Instr.index 136 (.agg #[.int .i64 (c.roots 0:Int),.int .i64 (c.roots 1:Int),.int .i64 (c.roots 2:Int),.int .i64 (c.roots 3:Int),.int .i64 (c.roots 4:Int),.int .i64 (c.roots 5:Int),.int .i64 (c.roots 6:Int),.int .i64 (c.roots 7:Int)]) (.int .i64 6)).run prog w=.ok (.int .i64 (c.roots 6:Int)) w:=fun _=>by kernel_rfl
    have h:=lh (jG d.o (c.roots 6) (E 6) (by rw[jI];omega) f.o.size);go_wp2_with fail;refine h.o.mono ?_;rintro e s ⟨v4,rfl,b⟩;have p:Hid (kZ c j v4 (.int .i64 ((6:Nat)+1:Nat)) s):=lh ⟨6+1,by omega,rfl,b.buf,f.o.trans b.fr (fun q n=>.inr (d.o.lt q (by simpa using n)).1)⟩;clear b h;go_wp2_with fail
    go_roundw
    case rel=>exact p.o
    case measure=>simp[intOf]
   | 7,_=>
    rw[show(((7:Nat)):Int)=(7:Int) from rfl];have r:∀w,(Instr.index 136 (.agg #[.int .i64 (c.roots 0:Int),.int .i64 (c.roots 1:Int),.int .i64 (c.roots 2:Int),.int .i64 (c.roots 3:Int),.int .i64 (c.roots 4:Int),.int .i64 (c.roots 5:Int),.int .i64 (c.roots 6:Int),.int .i64 (c.roots 7:Int)]) (.int .i64 7)).run prog w=.ok (.int .i64 (c.roots 7:Int)) w:=fun _=>by kernel_rfl
    have h:=lh (jG d.o (c.roots 7) (E 7) (by rw[jI];omega) f.o.size);go_wp2_with fail;refine h.o.mono ?_;rintro e s ⟨v4,rfl,b⟩;have p:Hid (kZ c j v4 (.int .i64 ((7:Nat)+1:Nat)) s):=lh ⟨7+1,by omega,rfl,b.buf,f.o.trans b.fr (fun q n=>.inr (d.o.lt q (by simpa using n)).1)⟩;clear b h;go_wp2_with fail
    go_roundw
    case rel=>exact p.o
    case measure=>simp[intOf]
  ·obtain rfl:k=8:=by omega
   obtain⟨gb,I,Q⟩:=cA.of_row rfl d.o f.o.size;rw[aPf]at I;have p:Hid (R (.returned u3) wr):=lh (HQ.o _ _ ⟨_,rfl,⟨gb,I,by have:=L.o.size;omega⟩,L.o.trans f.o⟩);clear I Q;go_wp2_with fail;exact p.o
end
end Go.Proofs.YtebjhcjbfaaejaaGreatDoor
