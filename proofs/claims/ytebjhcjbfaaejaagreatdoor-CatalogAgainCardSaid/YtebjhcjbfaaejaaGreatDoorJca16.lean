/-
  Joined: Qe Qf
-/
import Derived.Test.YtebjhcjbfaaejaaGreatDoorJca15
set_option maxRecDepth 100000
set_option maxHeartbeats 32000000
namespace Go.Proofs.YtebjhcjbfaaejaaGreatDoor
open Go.Proofs.Tryz
variable {r:Nat}{p:Prop}{α:Type}
section
open Go.RowKit Go.ChangeMaps Go.MapKept Go.Maps Go.Sort Go.Shelf
theorem tail4{β γ δ:Type}{H P:α->β->γ->δ->Prop}(main:(∀a b c d,H a b c d->P a b c d)->p)(tail:∀a b c d,H a b c d->P a b c d):p:=main tail
theorem fS(b:Array Value)(w:World):(callFunc 155 b).run prog w=.ok (.enter 155 b) w:=by kernel_rfl
theorem vM(b:Array Value)(w:World):(callFunc 102 b).run prog w=.ok (.enter 102 b) w:=by kernel_rfl
theorem sQ(b:Array Value)(w:World):(callFunc 122 b).run prog w=.ok (.enter 122 b) w:=by kernel_rfl
theorem oX{A B:Option Addr}{n m c d:Nat}{a:Int}:∀u∈[Value.slice A n c,.slice B m d,.int .i64 a],u.oneCell'=true:=by
 intro u b
 simp at b
 rcases b with rfl|rfl|rfl<;>rfl
structure aBJ (w0 wS:World) (dk g bc bn bs:Nat) (s:PS) (X:Nat->Prop) (f:Nat):Prop where
 go:∀ {c c':CD} {k deep:Nat} {x:It} {u:Ky×Nat} {w:World} {kv vv av:Value} {D:Nat->Prop},f+deep=40->aKw f c k x c' u->PgC w0 wS dk g s X c->kE wS w g bc bn bs D c ->
  ItC D w x kv vv av->x.ok true->(∀q,w.heap.size<=q->D q) ->
  Calls prog 122 #[.pointer (some ⟨bc,0,none⟩),.int .i64 (k:Int),.agg #[kv,vv,av],.int .i64 (deep:Int)] w fun e w'=>∃uv,e=.returned uv/\UpV D w' uv u/\kE wS w' g bc bn bs D c'/\Fr [bc,bn,bs] w w'
section
variable {w0 wS w w' : World} {dk g bc bn bs : Nat} {s : PS} {X D D' : Nat -> Prop} {c : CD}
theorem aOX{f:Nat}(ih:aBJ w0 wS dk g bc bn bs s X f):aBJ w0 wS dk g bc bn bs s X (f+1):=by
 constructor
 intro c c' k deep x u w kv vv av D g4 hW hp h hx g5 hD;have c0:=hW.same;obtain⟨n,hN,h8,he,hW⟩:=hW;obtain⟨k',h9,h'⟩:=h.wf.N_ok hN;have g8:=qE h';have b':x.at_=0:=by have:=g5.bare;simpa using this
 have j1:av=.int .i64 0:=by rw[hx.2.2,b'];rfl
 subst j1;obtain⟨⟨j7,g0,i0⟩,⟨j8,g1,i1⟩,i2⟩:=hx;obtain⟨Ak,ck,rfl⟩:∃A c,kv=.slice A x.key.length c:=by obtain⟨A,c,_,h,_⟩:=g0;exact⟨A,c,h⟩
 obtain⟨Av,r,rfl⟩:∃A c,vv=.slice A x.v.length c:=by obtain⟨A,c,_,h,_⟩:=g1;exact⟨A,c,h⟩
 have hx:ItC D w x (.slice Ak x.key.length ck) (.slice Av x.v.length r) (.int .i64 0):=⟨⟨j7,g0,i0⟩,⟨j8,g1,i1⟩,i2⟩;clear g0 i0 g1 i1 i2;have e':=hx.one;obtain⟨wb,c9⟩:=nm ((w.alloc (.cells #[(.slice Ak x.key.length ck),(.slice Av x.v.length r),.int .i64 0] 198)).alloc (.cells zup.toArray 212));have g9:Fr [] w wb:=by rw[c9];exact((Fr.refl [] w).alloc _).alloc _
 have g':Blk wb w.heap.size 198 [(.slice Ak x.key.length ck),(.slice Av x.v.length r),.int .i64 0]:=by rw[c9];exact(Blk.new w _ [(.slice Ak x.key.length ck),(.slice Av x.v.length r),.int .i64 0]).alloc _
 have h0:Blk wb (w.heap.size+1) 212 zup:=by
  rw[c9];have:=Blk.new (w.alloc (.cells #[(.slice Ak x.key.length ck),(.slice Av x.v.length r),.int .i64 0] 198)) 212 zup
  rwa [xC]at this
 have S0:=Sx.start h hD;have hO:∀q,D q->Off D [] [] q:=fun q hq=>⟨hq,fun _ h=>by simp at h,fun _ h=>by simp at h⟩
 have S1:=lh (((S0.key (hx.2.1.imp fun q hq=>⟨hq.1,hO q hq.2⟩)).key (hx.1.imp fun q hq=>⟨hq.1,hO q hq.2⟩)).new (L':=[(w.heap.size+1,212,zup),(w.heap.size,198,[(.slice Ak x.key.length ck),(.slice Av x.v.length r),.int .i64 0])]) g9 (fun l hl=>by
  rcases kB.1 hl with rfl|hl
  ·exact⟨h0,by simp⟩
  ·obtain rfl:=aB.1 hl;exact⟨g',tA _⟩) (by simp))
 have h1:=lh (pN hp S1.o.ch hN S1.o.offD);have HP:=lh hp;have HE:=lh he;have h2:=lh h8;have HW:=lh hW;have f5:=lh ih;have k9:=lh h9;have a2:=lh g8;have b4:=lh g4;have f6:=lh g5;have h3:=lh e';have k5:=lh b';have j2:=lh c0;have e7:Hid (Value.int .i64 0=.int .i64 (x.at_:Int)):=lh (by rw[b'];rfl);clear S0 hO h hx hp g9 g' h0 he h8 hW ih h9 hN g5 hD b' e' h' c0;have k6:¬ ((deep:Nat):Int)=40:=by omega
 refine gA fun R HQ=>?_
 go_enter func122,ntmps122
 go_upto_region 1 with (with_reducible refine mA rfl 212 rfl (.agg #[.slice none 0 0,.int .i64 0]) zup.toArray jL rfl ?_)
 rw[<- c9];have h4:(w.alloc (.cells #[(.slice Ak x.key.length ck),(.slice Av x.v.length r),.int .i64 0] 198)).heap.size=w.heap.size+1:=by rw[xC]
 rw[h4];clear c9 h4;go_wp2_with fail;refine h1.o.mono ?_;rintro e w1 ⟨nv,rfl,i3,i4⟩;obtain⟨A,ca,cs,rfl,l0,i5⟩:=S1.o.node i4 (tA _) i3;have S2:=lh i5;clear i3 i4 i5 S1 h1
 go_wp2_with (first
  | (with_reducible refine mA rfl 184 rfl (.agg #[.int .i64 0,.int .i64 0,.slice none 0 0]) znd.toArray kD rfl ?_)
  | (refine vA (W:=w1) rfl 184 (.tmp 9) (.tmp 19) rfl [.int .i64 (dA n),.int .i64 (n.first:Int),.slice A n.l.length ca] rfl rfl rfl oB rfl qB ?_))
 intro w9 g6 i' k4;obtain⟨p9,i6⟩:=nm (w1.heap.size);rw[<- i6]at g6⊢;have S3:=lh (S2.o.new1 i' g6 (by omega));clear i' g6 k4 i6 S2;go_wp2_with fail;refine(iM S3.o.ch 0).mono ?_;rintro e l1 ⟨rfl,d3,f1,i7⟩;rw[rQ HE.o]at d3⊢;have hd:decide (c.e≠0)=false:=by rw[HE.o];rfl
 rw[hd];have S4:=lh (S3.o.call f1 (by simp) d3);clear d3 f1 i7 S3 hd;have d0:=(S4.o.loc _ (.head _)).1.at_ (i:=0) rfl;have d1:=(S4.o.loc _ (.head _)).1.at_ (i:=1) rfl;have d2:=(S4.o.loc _ (.head _)).1.at_ (i:=2) rfl;go_wp2_with fail;refine(gZ n).mono ?_;rintro e l2 ⟨rfl,f2⟩;have S5:=lh (S4.o.quiet f2);clear f2 S4 d0 d1 d2;have d0:=(S5.o.loc _ (.head _)).1.at_ (i:=0) rfl;have d1:=(S5.o.loc _ (.head _)).1.at_ (i:=1) rfl;have d2:=(S5.o.loc _ (.head _)).1.at_ (i:=2) rfl;have G:=(S5.o.loc _ (.tail _ (.tail _ (.head _)))).1.at_ (i:=0) rfl
 cases e9:n.lf with
 | true=>
  rcases HW.o with ⟨-,d4,b6⟩|⟨i8,_⟩
  ·clear e9;obtain⟨gk,d5,_⟩:=S5.o.kb (.head _);have h5:=lh (aDt (S5.o.bytes (.head _)) d5 h2.o (by have:=a2.o;omega));have C:=lh d4;have a4:=congrArg Prod.fst b6;have a5:=congrArg Prod.snd b6
   simp only at a4 a5
   subst a4 a5;clear d5 d4 b6;go_wp2_with fail;refine h5.o.mono ?_;rintro e a1 ⟨rfl,a7⟩;have L:=lh (S5.o.quiet a7);clear a7 h5 d0 d1 d2 G S5;have d2:=(L.o.loc _ (.head _)).1.at_ (i:=2) rfl
   cases g7:nN n.l x.key
   case' true=>
    have j3:=aGH g7;obtain⟨q,hA,d6⟩:=tE (L.o.row' (.head _)) (show 0<n.l.length by omega);subst hA;obtain⟨y,hy⟩:∃y,n.l[gB n.l x.key]? = some y:=⟨_,xD j3⟩;obtain⟨j9,l3,j',k1,k2,k3,_⟩:=(L.o.its' (.head _)).at_ hy;have cv:=d6 _ _ k2;have j4:=World.ownsRow.frozenAt (L.o.row' (.head _)) (gB n.l x.key*3+1);have k7:((gB n.l x.key:Nat):Int)<((n.l.length:Nat):Int):=by omega
    have I:=(L.o.loc _ (.tail _ (.tail _ (.head _)))).1.at_ (i:=1) rfl;have t:=lh (L.o.cell (j:=gB n.l x.key*3+1) (u:=(.slice Av x.v.length r)) (l':=setV n.l (gB n.l x.key) x.v) (aIl _ _ _) ((L.o.its' (.head _)).setV (kv:=j9) (av:=j') hy (L.o.kb (.tail _ (.head _)))));have e8:Hid (pE n.l x=setV n.l (gB n.l x.key) x.v):=lh (aKy g7);have c2:(setV n.l (gB n.l x.key) x.v).length=n.l.length:=aIl _ _ _;clear d6 k1 k2 k3 hy;go_upto_region 11 with fail
    obtain⟨Q,d7⟩:=nm (a1.setCell ⟨q,gB n.l x.key*3+1,none⟩ (.slice Av x.v.length r));rw[<- d7]at t
    first|rw[<- d7] | skip
    clear d7 L cv j4 I d2
    have c3:Hid (NdV _ Q w.heap.size (.agg #[.int .i64 (dA n),.int .i64 (n.first:Int),.slice (some ⟨q,0,none⟩) n.l.length ca]) { n with l:=pE n.l x }):=lh (by
     have:=t.o.give.2.1;simp only[c2]at this;rw[e8.o];exact this)
    rw[<- e8.o]at t;have d0:=(t.o.loc _ (.head _)).1.at_ (i:=0) rfl;have d1:=(t.o.loc _ (.head _)).1.at_ (i:=1) rfl;have d2:=(t.o.loc _ (.head _)).1.at_ (i:=2) rfl;have b5:=lh (aAM HP.o t.o.give.1 c3.o C.o.k C.o.ok C.o.size C.o.e C.o.head t.o.give.2.2);go_wp2_with fail;refine b5.o.mono ?_;rintro e wl ⟨uv,rfl,E,b7,b8⟩;obtain⟨T,U,rfl,F⟩:=E.open_;have SL:=lh ((((t.o.less (N':=[]) (dC _) (zN _) fun _ h=>h).call b8 (by simp) b7).key F).perm (List.Perm.swap _ _ _))
   case' false=>
    have e8:Hid (pE n.l x=xH n.l (gB n.l x.key) x):=lh (aKz g7);have S:=aOU n.l x.key;have c2:(xH n.l (gB n.l x.key) x).length=n.l.length+1:=lV _ _ S;have G:=(L.o.loc _ (.tail _ (.tail _ (.head _)))).1.at_ (i:=0) rfl;have I:=(L.o.loc _ (.tail _ (.tail _ (.head _)))).1.at_ (i:=1) rfl;have M:=(L.o.loc _ (.tail _ (.tail _ (.head _)))).1.at_ (i:=2) rfl;go_upto_region 10 with fail
    refine fE ?_
    iterate 4 (refine rn rfl (by go_simp<;>with_reducible rfl) ?_;simp only[nrm])
    refine lp fun K hK=>?_;obtain⟨ti,d8,d9,a8,g2⟩:=mE wJ;refine dD (.tmp 54) rfl Go.Proofs.Tryz.underlying182 d8 d9 [(.slice Ak x.key.length ck),(.slice Av x.v.length r),.int .i64 0] rfl a8 rfl (by simp) (by simp) (hK _ _ ?_);clear hK;simp only[nrm];obtain⟨wx,a3⟩:=nm (a1.alloc (.cells ([(.slice Ak x.key.length ck),(.slice Av x.v.length r),.int .i64 0]:List Value).toArray 198));rw[<- a3];have c4:Fr [] a1 wx:=by rw[a3];exact(Fr.refl [] a1).alloc _
    have c5:Blk wx a1.heap.size 198 [(.slice Ak x.key.length ck),(.slice Av x.v.length r),.int .i64 0]:=by rw[a3];exact Blk.new a1 _ [(.slice Ak x.key.length ck),(.slice Av x.v.length r),.int .i64 0]
    have t:=lh (L.o.quiet c4);clear a3;refine lp fun K hK=>?_;refine jA (l:=[.tmp 52,.tmp 53,.tmp 55]) rfl [.slice A n.l.length ca,.int .i64 ((gB n.l x.key:Nat):Int),.slice (some ⟨a1.heap.size,0,none⟩) 1 1] rfl (fS _) ((bS (t.o.row' (.head _)) (t.o.its' (.head _)).one (by have:=a2.o;omega) S t.o.fr.size c5 h3.o rfl (fun e=>by have:=(L.o.own' (.head _) _ e).2;omega)).mono ?_);rintro e Q ⟨k0,rfl,d',e0,e2⟩;obtain⟨A',V,rfl,e3⟩:=t.o.ins S (x:=x) (t.o.kb (.head _)) (t.o.kb (.tail _ (.head _))) e7.o d' e0 e2;refine⟨_,rfl,hK _ _ ?_⟩;clear hK;simp only[nrm];have S8:=lh e3;have f7:=(S8.o.loc _ (.head _)).1.at_ (i:=2) rfl;have f8:=(S8.o.loc _ (.head _)).1.free 2;refine rn rfl (by go_simp<;>with_reducible rfl) ?_;simp only[nrm];refine lp fun K hK=>?_;refine pB (w':=Q.setCell ⟨p9,2,none⟩ (.slice A' (n.l.length+1) V)) (by go_simp) (hK _ _ ?_);clear hK;simp only[Act.put];refine sE ?_;have S9:=lh (S8.o.set_ (cs:=[.int .i64 (dA n),.int .i64 (n.first:Int),.slice A' (n.l.length+1) V]) ((Fr.refl [p9] Q).setCell (.inl (by simp)) _) ((S8.o.loc _ (.head _)).1.set_ 2 (.slice A' (n.l.length+1) V)));clear f7 f8 S8 e3 d' e0 e2 c4 c5;generalize Q.setCell ⟨p9,2,none⟩ (.slice A' (n.l.length+1) V)=b9 at *;clear G I M d2 L t d8 d9 a8 g2
    have c3:Hid (NdV _ b9 w.heap.size (.agg #[.int .i64 (dA n),.int .i64 (n.first:Int),.slice A' (n.l.length+1) V]) { n with l:=pE n.l x }):=lh (by
     have:=S9.o.give.2.1;simp only[c2]at this;rw[e8.o];exact this)
    have d0:=(S9.o.loc _ (.head _)).1.at_ (i:=0) rfl;have d1:=(S9.o.loc _ (.head _)).1.at_ (i:=1) rfl;have d2:=(S9.o.loc _ (.head _)).1.at_ (i:=2) rfl;have b5:=lh (aAM HP.o S9.o.give.1 c3.o C.o.k C.o.ok C.o.size C.o.e C.o.head S9.o.give.2.2);go_wp2_with fail;refine b5.o.mono ?_;rintro e wl ⟨uv,rfl,E,b7,b8⟩;obtain⟨T,U,rfl,F⟩:=E.open_;have SL:=lh ((((S9.o.less (N':=[]) (dC _) (zN _) fun _ h=>h).call b8 (by simp) b7).key F).perm (List.Perm.swap _ _ _))
   all_goals
    have c6:=lh (SL.o.loc _ (.head _)).1;clear F b8 E b7 d0 d1 d2 b5
    go_wp2_with (refine oD rfl 212 (.tmp 8) (.tmp 61) rfl [.slice T _ U,.int .i64 _] rfl rfl c6.o qC rfl wD ?_)
    intro we Y b0 e5;have HX:=lh (HQ.o _ _ ⟨_,rfl,(SL.o.set_ b0 Y).upv⟩);have c7:=lh Y;clear Y b0 e5;go_wp2_with fail;exact yH (g:=w.heap.size+1) (t':=212) (cs:=[.slice T _ U,.int .i64 _]) (d:=_) rfl rfl c7.o Go.Proofs.Tryz.underlying212 rfl qC HX.o
  ·rw[e9]at i8;cases i8
 | false=>
  rcases HW.o with ⟨f3,_⟩|⟨-,c1,u1,g3,e4⟩
  ·rw[e9]at f3;cases f3
  ·clear e9;obtain⟨gk,d5,_⟩:=S5.o.kb (.head _);have h6:=lh (aGD (S5.o.bytes (.head _)) d5 h2.o (by have:=a2.o;omega));have f9:=lh g3;have f':=lh e4;have j5:=lh (HP.o.to g3.same);clear d5 g3 e4;go_wp2_with fail;refine h6.o.mono ?_;rintro e a1 ⟨rfl,a7⟩;have L:=lh ((S5.o.quiet a7).quiet ((Fr.refl [] a1).drew));clear a7 h6 d0 d1 d2 G S5;have N:=(L.o.loc _ (.head _)).1.at_ (i:=0) rfl;have O:=(L.o.loc _ (.head _)).1.at_ (i:=1) rfl;have P:=(L.o.loc _ (.head _)).1.at_ (i:=2) rfl;have G:=(L.o.loc _ (.tail _ (.tail _ (.head _)))).1.at_ (i:=0) rfl;have I:=(L.o.loc _ (.tail _ (.tail _ (.head _)))).1.at_ (i:=1) rfl;have M:=(L.o.loc _ (.tail _ (.tail _ (.head _)))).1.at_ (i:=2) rfl;have j6:=wi deep (by omega)
   have h7:=L.o.low;have f0:=(L.o.loc _ (.head _)).2;have Z:p9∉[bc,bn,bs]:=by simp only at f0;simp;omega
   have a0:w.heap.size∉[bc,bn,bs]:=by simp;omega
   clear h7 f0;go_upto_region 13 with fail
   apply tail4 (H:=fun a' T U J=>Hid (Sx wS w g bc bn bs D [(p9,184,[.int .i64 (dA n),.int .i64 (n.first:Int),.slice A n.l.length ca]),(a',212,[.slice T u1.1.length U,.int .i64 ((u1.2:Nat):Int)]),(w.heap.size+1,212,zup),(w.heap.size,198,[(.slice Ak x.key.length ck),(.slice Av x.v.length r),.int .i64 0])] [⟨A,ca,n,cs⟩] [.by_ (.slice T u1.1.length U) u1.1,.by_ (.slice Ak x.key.length ck) x.key,.by_ (.slice Av x.v.length r) x.v] c1 J))
   case main=>
    intro e6;refine lA (fun W=>W.cell? ⟨p9,0,none⟩=some (.int .i64 (dA n))/\W.cell? ⟨p9,1,none⟩=some (.int .i64 (n.first:Int))/\W.cell? ⟨p9,2,none⟩=some (.slice A n.l.length ca)/\W.cell? ⟨w.heap.size,0,none⟩=some (.slice Ak x.key.length ck)/\W.cell? ⟨w.heap.size,1,none⟩=some (.slice Av x.v.length r)/\W.cell? ⟨w.heap.size,2,none⟩=some (.int .i64 0)) [0,1,2,4,5,6] (by kernel_rfl) ?_;refine tks [0,1,2,4,5,6] ?_
    iterate 6 (refine tk rfl rfl ⟨N,O,P,G,I,M⟩ rfl (fun _ hW=>by(obtain⟨q0,q1,q2,q3,q4,q5⟩:=hW;go_simp)<;>with_reducible rfl) ?_;simp only[nrm])
    refine tke ?_;refine aM (i:=3) (j:=8) (some 70) (some 14) rfl rfl rfl rfl (by kernel_rfl) rfl rfl (fun K hK=>?_) (fun K hK=>?_)
    ·
     refine jA (l:=[.tmp 68,.tmp 69]) rfl [.agg #[.int .i64 (dA n),.int .i64 (n.first:Int),.slice A n.l.length ca],.int .i64 ((n.way x.key:Nat):Int)] rfl (vM _) ((uM (L.o.bytes (.head _)) (nX n x.key) (by have:=a2.o;omega)).mono ?_);rintro e Q ⟨rfl,b⟩;refine⟨_,rfl,hK _ _ (fun _=>⟨aA b N,aA b O,aA b P,aA b G,aA b I,aA b M⟩) ?_⟩;simp only[nrm];have t:=lh (L.o.quiet b);clear hK
     replace N:=aA b N
     replace O:=aA b O
     replace P:=aA b P
     replace G:=aA b G
     replace I:=aA b I
     replace M:=aA b M
     clear b;refine aM (i:=7) (j:=8) (some 74) (some 14) rfl rfl rfl rfl (by kernel_rfl) rfl rfl (fun K hK=>?_) (fun K hK=>?_)
     ·
      refine jA (l:=[.tmp 67,.tmp 70,.tmp 71,.tmp 73]) rfl [.pointer (some ⟨bc,0,none⟩),.int .i64 ((n.child (n.way x.key):Nat):Int),.agg #[(.slice Ak x.key.length ck),(.slice Av x.v.length r),.int .i64 0],.int .i64 ((deep:Int)+1)] rfl (sQ _) ((f5.o.go (c:=c) (deep:=deep+1) (by have:=b4.o;omega) f9.o HP.o t.o.ch ⟨t.o.kb (.head _),t.o.kb (.tail _ (.head _)),e7.o⟩ f6.o t.o.offD).mono ?_);rintro e b9 ⟨uv,rfl,E,a9,m⟩;obtain⟨T,U,rfl,F⟩:=E.open_
      replace N:=wA m Z N
      replace O:=wA m Z O
      replace P:=wA m Z P
      replace G:=wA m a0 G
      replace I:=wA m a0 I
      replace M:=wA m a0 M
      refine⟨_,rfl,hK _ _ (fun _=>⟨N,O,P,G,I,M⟩) ?_⟩;simp only[nrm];have S8:=lh ((t.o.call m (by simp) a9).key F);clear hK F E a9 m;refine sp 8 rfl rfl rfl fun K hK=>?_;refine yB 212 rfl (.agg #[.slice none 0 0,.int .i64 0]) zup jL rfl fun j0 B p b1=>?_
      replace N:=aA p N
      replace O:=aA p O
      replace P:=aA p P
      replace G:=aA p G
      replace I:=aA p I
      replace M:=aA p M
      refine hK _ _ (fun _=>⟨N,O,P,G,I,M⟩) ?_;simp only[nrm];clear hK;obtain⟨a',z⟩:=nm (b9.heap.size);rw[<- z]at B⊢;have S9:=lh (S8.o.new1 p B (zP z.symm));clear B p b1 z;have a6:=(S9.o.loc _ (.head _)).1;refine xA (j:=9) none rfl rfl (by kernel_rfl) rfl fun K hK=>?_;refine yA 212 (.tmp 14) (.tmp 74) rfl [.slice T u1.1.length U,.int .i64 ((u1.2:Nat):Int)] rfl rfl a6 qC rfl wD fun J b2 b3 f4=>hK _ _ (fun h=>absurd h (by decide +kernel)) ?_;simp only[Act.put];clear hK;refine wd ?_ _;exact e6 a' T U J (lh ((S9.o.set_ b3 b2).perm (List.Perm.swap _ _ _)))
     ·
      refine yB 212 rfl (.agg #[.slice none 0 0,.int .i64 0]) zup jL rfl fun j0 B p b1=>?_
      replace N:=aA p N
      replace O:=aA p O
      replace P:=aA p P
      replace G:=aA p G
      replace I:=aA p I
      replace M:=aA p M
      refine hK _ _ (fun _=>⟨N,O,P,G,I,M⟩) ?_;simp only[nrm];clear hK;obtain⟨a',z⟩:=nm (Q.heap.size);rw[<- z]at B⊢;have S8:=lh (t.o.new1 p B (zP z.symm));clear B p b1 z;refine sp 7 rfl rfl rfl fun K hK=>?_;refine jA (l:=[.tmp 67,.tmp 70,.tmp 71,.tmp 73]) rfl [.pointer (some ⟨bc,0,none⟩),.int .i64 ((n.child (n.way x.key):Nat):Int),.agg #[(.slice Ak x.key.length ck),(.slice Av x.v.length r),.int .i64 0],.int .i64 ((deep:Int)+1)] rfl (sQ _) ((f5.o.go (c:=c) (deep:=deep+1) (by have:=b4.o;omega) f9.o HP.o S8.o.ch ⟨S8.o.kb (.head _),S8.o.kb (.tail _ (.head _)),e7.o⟩ f6.o S8.o.offD).mono ?_);rintro e b9 ⟨uv,rfl,E,a9,m⟩;obtain⟨T,U,rfl,F⟩:=E.open_
      replace N:=wA m Z N
      replace O:=wA m Z O
      replace P:=wA m Z P
      replace G:=wA m a0 G
      replace I:=wA m a0 I
      replace M:=wA m a0 M
      refine⟨_,rfl,hK _ _ (fun _=>⟨N,O,P,G,I,M⟩) ?_⟩;simp only[nrm];have S9:=lh ((S8.o.call m (by simp) a9).key F);clear hK F E a9 m;have a6:=(S9.o.loc _ (.head _)).1;refine xA (j:=9) none rfl rfl (by kernel_rfl) rfl fun K hK=>?_;refine yA 212 (.tmp 14) (.tmp 74) rfl [.slice T u1.1.length U,.int .i64 ((u1.2:Nat):Int)] rfl rfl a6 qC rfl wD fun J b2 b3 f4=>hK _ _ (fun h=>absurd h (by decide +kernel)) ?_;simp only[Act.put];clear hK;refine wd ?_ _;exact e6 a' T U J (lh ((S9.o.set_ b3 b2).perm (List.Perm.swap _ _ _)))
    ·
     refine yB 212 rfl (.agg #[.slice none 0 0,.int .i64 0]) zup jL rfl fun j0 B p b1=>?_
     replace N:=aA p N
     replace O:=aA p O
     replace P:=aA p P
     replace G:=aA p G
     replace I:=aA p I
     replace M:=aA p M
     refine hK _ _ (fun _=>⟨N,O,P,G,I,M⟩) ?_;simp only[nrm];clear hK;obtain⟨a',z⟩:=nm (a1.drew.heap.size);rw[<- z]at B⊢;have t:=lh (L.o.new1 p B (zP z.symm));clear B p b1 z;refine sp 3 rfl rfl rfl fun K hK=>?_;refine jA (l:=[.tmp 68,.tmp 69]) rfl [.agg #[.int .i64 (dA n),.int .i64 (n.first:Int),.slice A n.l.length ca],.int .i64 ((n.way x.key:Nat):Int)] rfl (vM _) ((uM (t.o.bytes (.head _)) (nX n x.key) (by have:=a2.o;omega)).mono ?_);rintro e Q ⟨rfl,b⟩;refine⟨_,rfl,hK _ _ (fun _=>⟨aA b N,aA b O,aA b P,aA b G,aA b I,aA b M⟩) ?_⟩;simp only[nrm];have S8:=lh (t.o.quiet b);clear hK
     replace N:=aA b N
     replace O:=aA b O
     replace P:=aA b P
     replace G:=aA b G
     replace I:=aA b I
     replace M:=aA b M
     clear b;refine sp 7 rfl rfl rfl fun K hK=>?_;refine jA (l:=[.tmp 67,.tmp 70,.tmp 71,.tmp 73]) rfl [.pointer (some ⟨bc,0,none⟩),.int .i64 ((n.child (n.way x.key):Nat):Int),.agg #[(.slice Ak x.key.length ck),(.slice Av x.v.length r),.int .i64 0],.int .i64 ((deep:Int)+1)] rfl (sQ _) ((f5.o.go (c:=c) (deep:=deep+1) (by have:=b4.o;omega) f9.o HP.o S8.o.ch ⟨S8.o.kb (.head _),S8.o.kb (.tail _ (.head _)),e7.o⟩ f6.o S8.o.offD).mono ?_);rintro e b9 ⟨uv,rfl,E,a9,m⟩;obtain⟨T,U,rfl,F⟩:=E.open_
     replace N:=wA m Z N
     replace O:=wA m Z O
     replace P:=wA m Z P
     replace G:=wA m a0 G
     replace I:=wA m a0 I
     replace M:=wA m a0 M
     refine⟨_,rfl,hK _ _ (fun _=>⟨N,O,P,G,I,M⟩) ?_⟩;simp only[nrm];have S9:=lh ((S8.o.call m (by simp) a9).key F);clear hK F E a9 m;have a6:=(S9.o.loc _ (.head _)).1;refine xA (j:=9) none rfl rfl (by kernel_rfl) rfl fun K hK=>?_;refine yA 212 (.tmp 14) (.tmp 74) rfl [.slice T u1.1.length U,.int .i64 ((u1.2:Nat):Int)] rfl rfl a6 qC rfl wD fun J b2 b3 f4=>hK _ _ (fun h=>absurd h (by decide +kernel)) ?_;simp only[Act.put];clear hK;refine wd ?_ _;exact e6 a' T U J (lh ((S9.o.set_ b3 b2).perm (List.Perm.swap _ _ _)))
   intro a' T U J SA;clear j6 N O P G I M L Z a0;have u0:=(SA.o.loc _ (.tail _ (.head _))).1.at_ (i:=0) rfl;have c8:=(SA.o.loc _ (.tail _ (.head _))).1.at_ (i:=1) rfl;have d2:=(SA.o.loc _ (.head _)).1.at_ (i:=2) rfl;rcases f'.o with ⟨i9,rfl,rfl⟩|⟨i9,d4,b6⟩
   ·have SL:=lh ((SA.o.less (L':=_) (.cons _ (.cons _ (dC _))) (dC _) fun _ h=>h));have c6:=lh (SL.o.loc _ (.head _)).1;have e1:c8=c8:=rfl
    simp only at c8
    rw[i9]at c8;clear e1
    go_wp2_with (refine oD rfl 212 (.tmp 8) (.tmp 78) rfl [.slice none 0 0,.int .i64 0] rfl rfl c6.o qC rfl wD ?_)
    intro we Y b0 e5;have HX:=lh (HQ.o _ _ ⟨_,rfl,(SL.o.set_ b0 Y).upv0⟩);have c7:=lh Y;clear Y b0 e5;go_wp2_with fail;exact yH (g:=w.heap.size+1) (t':=212) (cs:=[.slice none 0 0,.int .i64 0]) (d:=_) rfl rfl c7.o Go.Proofs.Tryz.underlying212 rfl qC HX.o
   ·have k8:¬ ((u1.2:Nat):Int)=0:=by omega
    have C:=lh d4;have a4:=congrArg Prod.fst b6;have a5:=congrArg Prod.snd b6
    simp only at a4 a5
    subst a4 a5;have S:=nX n x.key;have c2:(xH n.l (n.way x.key) ⟨u1.1,[],u1.2⟩).length=n.l.length+1:=lV _ _ S;clear d4 b6;go_upto_region 16 with fail
    refine fE ?_
    iterate 9 (refine rn rfl (by go_simp<;>with_reducible rfl) ?_;simp only[nrm])
    refine lp fun K hK=>?_;obtain⟨ti,d8,d9,a8,g2⟩:=mE wJ;refine dD (.tmp 87) rfl Go.Proofs.Tryz.underlying182 d8 d9 [.slice T u1.1.length U,.slice none 0 0,.int .i64 ((u1.2:Nat):Int)] rfl a8 rfl (by simp) (by simp) (hK _ _ ?_);clear hK;simp only[nrm];obtain⟨wx,a3⟩:=nm (J.alloc (.cells ([.slice T u1.1.length U,.slice none 0 0,.int .i64 ((u1.2:Nat):Int)]:List Value).toArray 198));rw[<- a3];have c4:Fr [] J wx:=by rw[a3];exact(Fr.refl [] J).alloc _
    have c5:Blk wx J.heap.size 198 [.slice T u1.1.length U,.slice none 0 0,.int .i64 ((u1.2:Nat):Int)]:=by rw[a3];exact Blk.new J _ [.slice T u1.1.length U,.slice none 0 0,.int .i64 ((u1.2:Nat):Int)]
    have t:=lh (SA.o.quiet c4);clear a3;refine lp fun K hK=>?_;refine jA (l:=[.tmp 80,.tmp 81,.tmp 88]) rfl [.slice A n.l.length ca,.int .i64 ((n.way x.key:Nat):Int),.slice (some ⟨J.heap.size,0,none⟩) 1 1] rfl (fS _) ((bS (t.o.row' (.head _)) (t.o.its' (.head _)).one (by have:=a2.o;omega) S t.o.fr.size c5 oX rfl (fun e=>by have:=(SA.o.own' (.head _) _ e).2;omega)).mono ?_);rintro e Q ⟨k0,rfl,d',e0,e2⟩;obtain⟨A',V,rfl,e3⟩:=t.o.ins S (x:=⟨u1.1,[],u1.2⟩) (t.o.kb (.head _)) (t.o.nil_key) rfl d' e0 e2;refine⟨_,rfl,hK _ _ ?_⟩;clear hK;simp only[nrm];have S8:=lh e3;have f7:=(S8.o.loc _ (.head _)).1.at_ (i:=2) rfl;have f8:=(S8.o.loc _ (.head _)).1.free 2;refine rn rfl (by go_simp<;>with_reducible rfl) ?_;simp only[nrm];refine lp fun K hK=>?_;refine pB (w':=Q.setCell ⟨p9,2,none⟩ (.slice A' (n.l.length+1) V)) (by go_simp) (hK _ _ ?_);clear hK;simp only[Act.put];refine sE ?_;have S9:=lh (S8.o.set_ (cs:=[.int .i64 (dA n),.int .i64 (n.first:Int),.slice A' (n.l.length+1) V]) ((Fr.refl [p9] Q).setCell (.inl (by simp)) _) ((S8.o.loc _ (.head _)).1.set_ 2 (.slice A' (n.l.length+1) V)));clear f7 f8 S8 e3 d' e0 e2 c4 c5;generalize Q.setCell ⟨p9,2,none⟩ (.slice A' (n.l.length+1) V)=b9 at *;clear u0 c8 d2 SA t d8 d9 a8 g2;have SB:=lh (S9.o.less (L':=_) (.cons_cons _ (.cons _ (dC _))) (dC _) fun _ h=>h)
    have c3:Hid (NdV _ b9 w.heap.size (.agg #[.int .i64 (dA n),.int .i64 (n.first:Int),.slice A' (n.l.length+1) V]) { n with l:=xH n.l (n.way x.key) ⟨u1.1,[],u1.2⟩ }):=lh (by
     have:=SB.o.give.2.1;simp only[c2]at this;exact this)
    clear S9;have d0:=(SB.o.loc _ (.head _)).1.at_ (i:=0) rfl;have d1:=(SB.o.loc _ (.head _)).1.at_ (i:=1) rfl;have d2:=(SB.o.loc _ (.head _)).1.at_ (i:=2) rfl;have b5:=lh (aAM j5.o SB.o.give.1 c3.o C.o.k C.o.ok C.o.size C.o.e C.o.head SB.o.give.2.2);go_wp2_with fail;refine b5.o.mono ?_;rintro e wl ⟨uv,rfl,E,b7,b8⟩;obtain⟨T,U,rfl,F⟩:=E.open_;have SL:=lh ((((SB.o.less (N':=[]) (dC _) (zN _) fun _ h=>h).call b8 (by simp) b7).key F).perm (List.Perm.swap _ _ _));have c6:=lh (SL.o.loc _ (.head _)).1;clear F b8 E b7 d0 d1 d2 b5
    go_wp2_with (refine oD rfl 212 (.tmp 8) (.tmp 94) rfl [.slice T _ U,.int .i64 _] rfl rfl c6.o qC rfl wD ?_)
    intro we Y b0 e5;have HX:=lh (HQ.o _ _ ⟨_,rfl,(SL.o.set_ b0 Y).upv⟩);have c7:=lh Y;clear Y b0 e5;go_wp2_with fail;exact yH (g:=w.heap.size+1) (t':=212) (cs:=[.slice T _ U,.int .i64 _]) (d:=_) rfl rfl c7.o Go.Proofs.Tryz.underlying212 rfl qC HX.o
theorem aOY:aBJ w0 wS dk g bc bn bs s X 0:=⟨fun _ h=>h.elim⟩
theorem aOZ:∀f,aBJ w0 wS dk g bc bn bs s X f
 | 0=>aOY
 | f+1=>aOX (aOZ f)
end
theorem aER{H P:α->Prop}(main:(∀a,H a->P a)->p)(tail:∀a,H a->P a):p:=main tail
theorem aDB(b:Array Value)(w:World):(callFunc 215 b).run prog w=.ok (.enter 215 b) w:=by kernel_rfl
section
variable {w0 wS w w1 : World} {dk g bc bn bs : Nat} {s : PS} {X D : Nat -> Prop} {L : List LB} {N : List NP} {Kl : List Kq} {c c' : CD}
theorem aQB{A:Option Addr}{n:Nd}{cs:List Value}{k i:Nat}{u':Ky×Nat}(hp:PgC w0 wS dk g s X c)(h:Sx wS w g bc bn bs D L (⟨A,r,n,cs⟩::N) Kl c w1)(hW:aIj c k n i c' u')(he:c.e=0)(k6:n.l.length<=509):
  Calls prog 190 #[.pointer (some ⟨bc,0,none⟩),.int .i64 (k:Int),.agg #[.int .i64 (dA n),.int .i64 (n.first:Int),.slice A n.l.length r],.int .i64 (i:Int)] w1 fun e w'=>
   ∃A' a6,e=.returned (.agg #[.slice A' u'.1.length a6,.int .i64 ((u'.2:Nat):Int)])/\Sx wS w g bc bn bs D L N (.by_ (.slice A' u'.1.length a6) u'.1::Kl) c' w':=by
 have b1:=hW.same;obtain⟨a,b,y,m,hy,f5,f6,i0,rfl,i1,hW⟩:=hW;obtain⟨i2,m1,i3⟩:=h.ch.wf.N_ok f5;obtain⟨i4,m2,i5⟩:=h.ch.wf.N_ok f6;have hi:i<n.l.length:=(tD.1 hy).1;have g7:=qE i3;have g8:=qE i5;obtain⟨wb,b7⟩:=nm ((w1.alloc (.cells #[.int .i64 (dA n),.int .i64 (n.first:Int),.slice A n.l.length r] 184)).alloc (.cells zup.toArray 212));have g9:Fr [] w1 wb:=by rw[b7];exact((Fr.refl [] w1).alloc _).alloc _
 obtain⟨p6,d4⟩:=nm (w1.heap.size);have a9:Blk wb p6 184 [.int .i64 (dA n),.int .i64 (n.first:Int),.slice A n.l.length r]:=by rw[b7,d4];exact(Blk.new w1 _ [.int .i64 (dA n),.int .i64 (n.first:Int),.slice A n.l.length r]).alloc _
 have g':Blk wb (p6+1) 212 zup:=by
  rw[b7,d4];have:=Blk.new (w1.alloc (.cells #[.int .i64 (dA n),.int .i64 (n.first:Int),.slice A n.l.length r] 184)) 212 zup
  rwa [xC]at this
 have S1:=lh (h.new (L':=[(p6,184,[.int .i64 (dA n),.int .i64 (n.first:Int),.slice A n.l.length r]),(p6+1,212,zup)]) g9 (fun l hl=>by
  rcases kB.1 hl with rfl|hl
  ·exact⟨a9,by simp only;omega⟩
  ·obtain rfl:=aB.1 hl;exact⟨g',by simp only;omega⟩) (by simp))
 have HP:=lh hp;have HE:=lh he;have HW:=lh hW;have b2:=lh k6;have k7:=lh b1;have k8:=lh f5;have k9:=lh f6;have h0:=lh i0;have HY:=lh hy;have P:=lh i1;have h2:=lh g7;have h3:=lh g8;have h4:=lh i2;have h5:=lh i4;clear h g9 a9 g' hp he hW b1 f5 f6 i0 hy i1 g7 g8 i2 i4 m1 m2 i3 i5;have k':=wi i (by omega)
 have n0:((i:Nat):Int)<((n.l.length:Nat):Int):=by omega
 refine gA fun R HQ=>?_
 go_enter func190,ntmps190
 go_upto_region 1 with (with_reducible refine mA rfl 212 rfl (.agg #[.slice none 0 0,.int .i64 0]) zup.toArray jL rfl ?_)
 rw[<- b7];have h6:(w1.alloc (.cells #[.int .i64 (dA n),.int .i64 (n.first:Int),.slice A n.l.length r] 184)).heap.size=w1.heap.size+1:=by rw[xC]
 rw[h6,<- d4];clear b7 h6 d4;have z0:=(S1.o.loc _ (.head _)).1.at_ (i:=0) rfl;have z1:=(S1.o.loc _ (.head _)).1.at_ (i:=1) rfl;have F:=(S1.o.loc _ (.head _)).1.at_ (i:=2) rfl;have S2:=lh (S1.o.quiet ((Fr.refl [] wb).drew));clear S1
 apply aER (H:=fun W=>Hid (Sx wS w g bc bn bs D ((p6,184,[.int .i64 (dA n),.int .i64 (n.first:Int),.slice A n.l.length r])::(p6+1,212,zup)::L) (⟨A,r,n,cs⟩::N) Kl c W))
 case main=>
  intro a8;refine lA (fun W=>W.cell? ⟨p6,0,none⟩=some (.int .i64 (dA n))/\W.cell? ⟨p6,1,none⟩=some (.int .i64 (n.first:Int))/\W.cell? ⟨p6,2,none⟩=some (.slice A n.l.length r)) [0,1,3,4,5] (by kernel_rfl) ?_;refine tks [0,1,3,4,5] ?_
  iterate 5 (refine tk rfl rfl ⟨z0,z1,F⟩ rfl (fun _ hW=>by(obtain⟨q0,q1,q2⟩:=hW;go_simp)<;>with_reducible rfl) ?_;simp only[nrm])
  refine tke ?_;refine sp 2 rfl rfl rfl fun K hK=>?_;refine jA (l:=[.tmp 19,.tmp 20]) rfl [.agg #[.int .i64 (dA n),.int .i64 (n.first:Int),.slice A n.l.length r],.int .i64 ((i:Int))] rfl (vM _) ((uM (k:=i) (S2.o.bytes (.head _)) (by omega) (by have:=b2.o;omega)).mono ?_);rintro e d5 ⟨rfl,p⟩
  replace z0:=aA p z0
  replace z1:=aA p z1
  replace F:=aA p F
  refine⟨_,rfl,hK _ _ (fun _=>⟨z0,z1,F⟩) ?_⟩;simp only[nrm];have S3:=lh (S2.o.quiet p);clear hK p;refine sp 6 rfl rfl rfl fun K hK=>?_;refine jA (l:=[.tmp 22,.tmp 24]) rfl [.agg #[.int .i64 (dA n),.int .i64 (n.first:Int),.slice A n.l.length r],.int .i64 ((i:Int)+1)] rfl (vM _) ((uM (k:=i+1) (S3.o.bytes (.head _)) (by omega) (by have:=b2.o;omega)).mono ?_);rintro e d5 ⟨rfl,p⟩
  replace z0:=aA p z0
  replace z1:=aA p z1
  replace F:=aA p F
  refine⟨_,rfl,hK _ _ (fun _=>⟨z0,z1,F⟩) ?_⟩;simp only[nrm];have S4:=lh (S3.o.quiet p);clear hK p;refine sp 7 rfl rfl rfl fun K hK=>?_;refine nA (v:=?aq1_7) ?yq1_7 (hK _ _ (fun _=>⟨z0,z1,F⟩) ?_)
  case yq1_7=>go_simp<;>with_reducible rfl
  simp only[nrm];refine sp 8 rfl rfl rfl fun K hK=>?_;refine nA (v:=?aq1_8) ?yq1_8 (hK _ _ (fun _=>⟨z0,z1,F⟩) ?_)
  case yq1_8=>go_simp<;>with_reducible rfl
  simp only[nrm];refine wd ?_ _;exact a8 _ S4
 intro w2 S3;clear S2 z0 z1 F k';have b3:=lh (pN HP.o S3.o.ch k8.o S3.o.offD);go_wp2_with fail;refine b3.o.mono ?_;rintro e w3 ⟨nv,rfl,b8,i6⟩;obtain⟨A1,c1,rfl,i7⟩:=S3.o.node_r i6 b8;have S4:=lh i7;clear b8 i6 i7 S3 b3
 go_wp2_with (first
  | (with_reducible refine mA rfl 184 rfl (.agg #[.int .i64 0,.int .i64 0,.slice none 0 0]) znd.toArray kD rfl ?_)
  | (refine vA (W:=w3) rfl 184 (.tmp 11) (.tmp 30) rfl [.int .i64 (dA a),.int .i64 (a.first:Int),.slice A1 a.l.length c1] rfl rfl rfl oB rfl qB ?_))
 intro w4 g5 j' m7;obtain⟨f7,d9⟩:=nm (w3.heap.size);rw[<- d9]at g5⊢;have S5:=lh (S4.o.new1 j' g5 (by omega));clear j' g5 m7 d9 S4;have b3:=lh (pN HP.o S5.o.ch k9.o S5.o.offD);go_wp2_with fail;refine b3.o.mono ?_;rintro e w5 ⟨nv,rfl,b8,i8⟩;obtain⟨A2,c2,rfl,i9⟩:=S5.o.node_r i8 b8;have S6:=lh i9;clear b8 i8 i9 S5 b3
 go_wp2_with (first
  | (with_reducible refine mA rfl 184 rfl (.agg #[.int .i64 0,.int .i64 0,.slice none 0 0]) znd.toArray kD rfl ?_)
  | (refine vA (W:=w5) rfl 184 (.tmp 13) (.tmp 36) rfl [.int .i64 (dA b),.int .i64 (b.first:Int),.slice A2 b.l.length c2] rfl rfl rfl oB rfl qB ?_))
 intro w6 a9 k0 m8;obtain⟨f8,d'⟩:=nm (w5.heap.size);rw[<- d']at a9⊢;have S7:=lh (S6.o.new1 k0 a9 (by omega));clear k0 a9 m8 d' S6;have hd:decide (c.e≠0)=false:=by rw[HE.o];rfl
 have h7:=lh hd;clear hd;go_wp2_with fail;refine(iM S7.o.ch 0).mono ?_;rintro e w7 ⟨rfl,f9,i',m3⟩;rw[rQ HE.o]at f9⊢;rw[h7.o];have S8:=lh (S7.o.call i' (by simp) f9);clear f9 i' m3 S7;go_wp2_with fail;refine(iM S8.o.ch 0).mono ?_;rintro e w8 ⟨rfl,f',j0,m4⟩;rw[rQ HE.o]at f'⊢;rw[h7.o];have S9:=lh (S8.o.call j0 (by simp) f');clear f' j0 m4 S8;obtain⟨qr,hA,J⟩:=tE (S9.o.row' (.head _)) (show 0<n.l.length by omega);subst hA;obtain⟨j1,j2,j3,k1,k2,k3,⟨gy,g0,j4⟩,_,_⟩:=(S9.o.its' (.head _)).at_ HY.o;obtain⟨Ay,cy,rfl⟩:∃A c,j1=.slice A y.key.length c:=by obtain⟨A,c,_,h,_⟩:=g0;exact⟨A,c,h⟩
 have cr:=J _ _ k1;have B:=lh ((S9.o.quiet ((Fr.refl [] w8).drew)).key (v:=.slice Ay y.key.length cy) (b:=y.key) ⟨gy,g0.fr ((Fr.refl [] w8).drew),j4⟩);clear J k1 k2 k3 g0 j4 S9;have y0:=(B.o.loc _ (.tail _ (.head _))).1.at_ (i:=0) rfl;have y1:=(B.o.loc _ (.tail _ (.head _))).1.at_ (i:=1) rfl;have y2:=(B.o.loc _ (.tail _ (.head _))).1.at_ (i:=2) rfl;have F:=(B.o.loc _ (.tail _ (.tail _ (.head _)))).1.at_ (i:=2) rfl;have r0:=(B.o.loc _ (.head _)).1.at_ (i:=0) rfl;have r1:=(B.o.loc _ (.head _)).1.at_ (i:=1) rfl;have r2:=(B.o.loc _ (.head _)).1.at_ (i:=2) rfl;obtain⟨m,hm⟩:=nm (a.with_ y.key b);rw[<- hm]at HW P;have HM:=lh hm;clear hm;go_upto_region 6 with fail
 apply tail4 (H:=fun b0 Am cm W=>Hid (Sx wS w g bc bn bs D ((b0,184,[.int .i64 (dA m),.int .i64 (m.first:Int),.slice Am m.l.length cm])::(p6,184,[.int .i64 (dA n),.int .i64 (n.first:Int),.slice (some ⟨qr,0,none⟩) n.l.length r])::(p6+1,212,zup)::L) (⟨some ⟨qr,0,none⟩,r,n,cs⟩::N) (.nd (.agg #[.int .i64 (dA m),.int .i64 (m.first:Int),.slice Am m.l.length cm]) m::Kl) c W))
 case main=>
  intro a8;refine lA (fun W=>W.cell? ⟨f7,0,none⟩=some (.int .i64 (dA a))/\W.cell? ⟨f7,1,none⟩=some (.int .i64 (a.first:Int))/\W.cell? ⟨f7,2,none⟩=some (.slice A1 a.l.length c1)/\W.cell? ⟨p6,2,none⟩=some (.slice (some ⟨qr,0,none⟩) n.l.length r)/\W.cell? ⟨qr,i*3,none⟩=some (.slice Ay y.key.length cy)/\W.cell? ⟨f8,0,none⟩=some (.int .i64 (dA b))/\W.cell? ⟨f8,1,none⟩=some (.int .i64 (b.first:Int))/\W.cell? ⟨f8,2,none⟩=some (.slice A2 b.l.length c2)) [0,1,2,3,4,5,6,7,8] (by kernel_rfl) ?_;refine tks [0,1,2,3,4,5,6,7,8] ?_
  iterate 9 (refine tk rfl rfl ⟨y0,y1,y2,F,cr,r0,r1,r2⟩ rfl (fun _ hW=>by(obtain⟨q0,q1,q2,q3,q4,q5,q6,q7⟩:=hW;go_simp)<;>with_reducible rfl) ?_;simp only[nrm])
  refine tke ?_;refine aM (i:=9) (j:=10) (some 56) (some 15) rfl rfl rfl rfl (by kernel_rfl) rfl rfl (fun K hK=>?_) (fun K hK=>?_)
  ·
   refine jA (l:=[.tmp 47,.tmp 54,.tmp 55]) rfl [.agg #[.int .i64 (dA a),.int .i64 (a.first:Int),.slice A1 a.l.length c1],.slice Ay y.key.length cy,.agg #[.int .i64 (dA b),.int .i64 (b.first:Int),.slice A2 b.l.length c2]] rfl (aDB _) ((aLL (key:=y.key) (B.o.kn (n:=a) (by simp)) (B.o.kn (n:=b) (by simp)) (B.o.kb (b:=y.key) (by simp)).choose_spec.1 (B.o.kb (b:=y.key) (by simp)).choose_spec.2 h0.o (by have:=h2.o;omega) (by have:=h3.o;omega) B.o.offD).mono ?_);rintro e w9 ⟨ov,rfl,a4,x⟩;rw[<- HM.o]at a4;obtain⟨Am,cm,rfl,e0⟩:=B.o.node_r x a4
   replace y0:=aA x y0
   replace y1:=aA x y1
   replace y2:=aA x y2
   replace F:=aA x F
   replace cr:=aA x cr
   replace r0:=aA x r0
   replace r1:=aA x r1
   replace r2:=aA x r2
   refine⟨_,rfl,hK _ _ (fun _=>⟨y0,y1,y2,F,cr,r0,r1,r2⟩) ?_⟩;simp only[nrm];have C:=lh e0;clear hK x a4 e0;refine sp 10 rfl rfl rfl fun K hK=>?_;refine yB 184 rfl (.agg #[.int .i64 0,.int .i64 0,.slice none 0 0]) znd kD rfl fun d6 t f a0=>?_
   replace y0:=aA f y0
   replace y1:=aA f y1
   replace y2:=aA f y2
   replace F:=aA f F
   replace cr:=aA f cr
   replace r0:=aA f r0
   replace r1:=aA f r1
   replace r2:=aA f r2
   refine hK _ _ (fun _=>⟨y0,y1,y2,F,cr,r0,r1,r2⟩) ?_;simp only[nrm];clear hK;obtain⟨b0,M⟩:=nm (w9.heap.size);rw[<- M]at t⊢;have z:=lh (C.o.new1 f t (zP M.symm));clear t f a0 M;have t:=(z.o.loc _ (.head _)).1;refine xA (j:=11) none rfl rfl (by kernel_rfl) rfl fun K hK=>?_;refine yA 184 (.tmp 15) (.tmp 56) rfl [.int .i64 (dA m),.int .i64 (m.first:Int),.slice Am m.l.length cm] rfl rfl t oB rfl qB fun d7 E Q c8=>hK _ _ (fun h=>absurd h (by decide +kernel)) ?_;simp only[Act.put];clear hK;refine wd ?_ _;exact a8 b0 Am cm d7 (lh ((z.o.set_ Q E).less (.cons_cons _ (.cons _ (.cons _ (dC _)))) (dC _) fun k hk=>by simp only[kB]at hk⊢;rcases hk with h|h<;>simp[h]))
  ·
   refine yB 184 rfl (.agg #[.int .i64 0,.int .i64 0,.slice none 0 0]) znd kD rfl fun d6 t f a0=>?_
   replace y0:=aA f y0
   replace y1:=aA f y1
   replace y2:=aA f y2
   replace F:=aA f F
   replace cr:=aA f cr
   replace r0:=aA f r0
   replace r1:=aA f r1
   replace r2:=aA f r2
   refine hK _ _ (fun _=>⟨y0,y1,y2,F,cr,r0,r1,r2⟩) ?_;simp only[nrm];clear hK;obtain⟨b0,M⟩:=nm (w8.drew.heap.size);rw[<- M]at t⊢;have C:=lh (B.o.new1 f t (zP M.symm));clear t f a0 M;refine sp 9 rfl rfl rfl fun K hK=>?_;refine jA (l:=[.tmp 47,.tmp 54,.tmp 55]) rfl [.agg #[.int .i64 (dA a),.int .i64 (a.first:Int),.slice A1 a.l.length c1],.slice Ay y.key.length cy,.agg #[.int .i64 (dA b),.int .i64 (b.first:Int),.slice A2 b.l.length c2]] rfl (aDB _) ((aLL (key:=y.key) (C.o.kn (n:=a) (by simp)) (C.o.kn (n:=b) (by simp)) (C.o.kb (b:=y.key) (by simp)).choose_spec.1 (C.o.kb (b:=y.key) (by simp)).choose_spec.2 h0.o (by have:=h2.o;omega) (by have:=h3.o;omega) C.o.offD).mono ?_);rintro e w9 ⟨ov,rfl,a4,x⟩;rw[<- HM.o]at a4;obtain⟨Am,cm,rfl,e1⟩:=C.o.node_r x a4
   replace y0:=aA x y0
   replace y1:=aA x y1
   replace y2:=aA x y2
   replace F:=aA x F
   replace cr:=aA x cr
   replace r0:=aA x r0
   replace r1:=aA x r1
   replace r2:=aA x r2
   refine⟨_,rfl,hK _ _ (fun _=>⟨y0,y1,y2,F,cr,r0,r1,r2⟩) ?_⟩;simp only[nrm];have z:=lh e1;clear hK x a4 e1;have t:=(z.o.loc _ (.head _)).1;refine xA (j:=11) none rfl rfl (by kernel_rfl) rfl fun K hK=>?_;refine yA 184 (.tmp 15) (.tmp 56) rfl [.int .i64 (dA m),.int .i64 (m.first:Int),.slice Am m.l.length cm] rfl rfl t oB rfl qB fun d7 E Q c8=>hK _ _ (fun h=>absurd h (by decide +kernel)) ?_;simp only[Act.put];clear hK;refine wd ?_ _;exact a8 b0 Am cm d7 (lh ((z.o.set_ Q E).less (.cons_cons _ (.cons _ (.cons _ (dC _)))) (dC _) fun k hk=>by simp only[kB]at hk⊢;rcases hk with h|h<;>simp[h]))
 intro b0 Am cm n8 C;clear B y0 y1 y2 F r0 r1 r2 cr;have d0:=(C.o.loc _ (.head _)).1.at_ (i:=0) rfl;have d1:=(C.o.loc _ (.head _)).1.at_ (i:=1) rfl;have d2:=(C.o.loc _ (.head _)).1.at_ (i:=2) rfl;have l0:m.l.length<=65535:=by have:=P.o.few;omega
 have f0:m.size<=65536:=by
  rcases HW.o with ⟨h1,_⟩|⟨_,h1,_⟩
  ·omega
  ·split at h1<;>omega
 have h8:=lh (aBG (C.o.kn (.head _)) P.o f0);have l1:=lh f0;clear l0 f0;go_wp2_with fail;refine h8.o.mono ?_;rintro e n1 ⟨rfl,e2⟩;have z:=lh (C.o.quiet e2);clear e2 C d0 d1 d2 h8;have d0:=(z.o.loc _ (.head _)).1.at_ (i:=0) rfl;have d1:=(z.o.loc _ (.head _)).1.at_ (i:=1) rfl;have d2:=(z.o.loc _ (.head _)).1.at_ (i:=2) rfl;have m':=wi i (by omega)
 rcases HW.o with ⟨hs,b9,a5⟩|⟨hs,j5,b9,a5⟩
 ·have l2:((m.size:Nat):Int)<=512:=by omega
  have S:=congrArg Prod.fst a5;have T:=congrArg Prod.snd a5
  simp only at S T
  subst S T;have G:=lh b9;have U:=lh (iL z.o.ch (z.o.kn (.head _)) h4.o P.o hs);clear b9 a5 hs;go_wp2_with fail;refine U.o.mono ?_;rintro e j6 ⟨rfl,e3,Z⟩;have a':=lh (z.o.call Z (fun q hq=>by simp only[kB,yG,aG]at hq;omega) e3);clear e3 Z U z d0 d1 d2;have b4:=lh (aLM a'.o.ch (k:=n.child (i+1)) h5.o);go_wp2_with fail;refine b4.o.mono ?_;rintro e d5 ⟨rfl,e4,p⟩;have V:=lh ((a'.o.call p (by simp) e4).less (L':=_) (K':=Kl) (.cons _ (dC _)) (dC _) fun k hk=>by simp[hk]);clear e4 p b4 a';have d2:=(V.o.loc _ (.head _)).1.at_ (i:=2) rfl;have h9:=lh (fZ (V.o.row' (.head _)) (V.o.its' (.head _)).one (by have:=b2.o;omega) hi);go_wp2_with fail;refine h9.o.mono ?_;rintro e g1 ⟨n2,rfl,j7,j8,j9⟩;obtain⟨A',a6,rfl,e5⟩:=V.o.del hi j7 j8 j9;have O:=lh e5;have l3:=(O.o.loc _ (.head _)).1.at_ (i:=2) rfl;have l4:=(O.o.loc _ (.head _)).1.free 2;have l5:=(O.o.loc _ (.head _)).1.lt;have I:=lh (O.o.set_ (cs:=[.int .i64 (dA n),.int .i64 (n.first:Int),.slice A' (n.l.length-1) a6]) ((Fr.refl [p6] g1).setCell (.inl (by simp)) _) ((O.o.loc _ (.head _)).1.set_ 2 (.slice A' (n.l.length-1) a6)));clear V e5 O j7 j8 j9 h9 d2;have b5:(iG n.l i).length=n.l.length-1:=aAN _ hi;go_upto_region 15 with fail
  generalize g1.setCell ⟨p6,2,none⟩ (.slice A' (n.l.length-1) a6)=d6 at *;clear l3 l4 l5
  have f1:Hid (NdV _ d6 w.heap.size (.agg #[.int .i64 (dA n),.int .i64 (n.first:Int),.slice A' (n.l.length-1) a6]) { n with l:=iG n.l i }):=lh (by
   have:=I.o.give.2.1;simp only[b5]at this;exact this)
  have f2:=lh (HP.o.to (c':=(c.write (n.child i) m).free (n.child (i+1))) ⟨rfl,rfl⟩);clear b5;have d0:=(I.o.loc _ (.head _)).1.at_ (i:=0) rfl;have d1:=(I.o.loc _ (.head _)).1.at_ (i:=1) rfl;have d2:=(I.o.loc _ (.head _)).1.at_ (i:=2) rfl;have b6:=lh (aAM f2.o I.o.give.1 f1.o G.o.k G.o.ok G.o.size G.o.e G.o.head I.o.give.2.2);go_wp2_with fail;refine b6.o.mono ?_;rintro e wl ⟨uv,rfl,b',c0,c3⟩;obtain⟨Au,cu,rfl,c4⟩:=b'.open_;have SL:=lh ((((I.o.less (N':=N) (K':=Kl) (dC _) (aAp ..) fun k hk=>by simp[hk]).call c3 (by simp) c0).key c4).perm (List.Perm.swap _ _ _));have f3:=lh (SL.o.loc _ (.head _)).1;clear c4 c3 b' c0 d0 d1 d2 b6
  go_wp2_with (refine oD rfl 212 (.tmp 8) (.tmp 98) rfl [.slice Au _ cu,.int .i64 _] rfl rfl f3.o qC rfl wD ?_)
  intro we a7 c7 g6;have HX:=lh (HQ.o _ _ ⟨_,_,rfl,(SL.o.set_ c7 a7).less (L':=L) (.cons _ (.cons _ (dC _))) (dC _) fun _ h=>h⟩);have f4:=lh a7;clear a7 c7 g6;go_wp2_with fail;exact yH (g:=p6+1) (t':=212) (cs:=[.slice Au _ cu,.int .i64 _]) (d:=_) rfl rfl f4.o Go.Proofs.Tryz.underlying212 rfl qC HX.o
 ·have l2:¬ ((m.size:Nat):Int)<=512:=by omega
  have S:=congrArg Prod.fst a5;have T:=congrArg Prod.snd a5
  simp only at S T
  subst S T;obtain⟨s1,s2,s3,s4,s5,s6,s7,s8⟩:=Nd.split_ok P.o hs j5;have G:=lh b9;have h':=lh (aId (z.o.kn (.head _)) P.o l1.o s2 s1 z.o.offD);have l6:=lh s3;have l7:=lh s4;have l8:=lh s7;have l9:=lh s8;clear b9 a5 hs j5 s1 s2 s3 s4 s5 s6 s7 s8;go_upto_region 11 with fail
  refine fE ?_;refine rn rfl (by go_simp<;>with_reducible rfl) ?_;simp only[nrm];refine lp fun K hK=>?_;refine jA (l:=[.tmp 75]) rfl [.agg #[.int .i64 (dA m),.int .i64 (m.first:Int),.slice Am m.l.length cm]] rfl (aBq _) (h'.o.mono ?_);rintro e j6 ⟨lv,kv,rv,rfl,g2,g3,g4,Z⟩;obtain⟨Al,cl,n3,rfl,_⟩:=g2.open_;obtain⟨Ar,m5,n4,rfl,_⟩:=g4.open_;obtain⟨Ak,ck,rfl⟩:∃A c,kv=.slice A m.key.length c:=by obtain⟨q,⟨A,c,_,h,_⟩,_⟩:=g3;exact⟨A,c,h⟩
  have a':=lh (((((z.o.quiet Z).nd g2).key g3).nd g4).less (L':=_) (.cons _ (dC _)) (dC _) fun _ h=>h);refine⟨_,rfl,hK _ _ ?_⟩;simp only[nrm];clear hK g2 g3 g4 Z h' z d0 d1 d2
  iterate 4 (refine rn rfl (by go_simp<;>with_reducible rfl) ?_;simp only[nrm])
  refine lp fun K hK=>?_;refine yB 184 rfl (.agg #[.int .i64 0,.int .i64 0,.slice none 0 0]) znd kD rfl fun d5 c9 p k4=>hK _ _ ?_;simp only[nrm];clear hK;obtain⟨n5,c5⟩:=nm (j6.heap.size);rw[<- c5]at c9⊢;have V:=lh (a'.o.new1 p c9 (zP c5.symm));clear c9 p k4 c5 a';refine lp fun K hK=>?_;refine yB 184 rfl (.agg #[.int .i64 0,.int .i64 0,.slice none 0 0]) znd kD rfl fun g1 d3 e' k5=>hK _ _ ?_;simp only[nrm];clear hK;obtain⟨n6,c6⟩:=nm (d5.heap.size);rw[<- c6]at d3⊢;have O:=lh ((V.o.new1 e' d3 (zP c6.symm)).perm (List.Perm.swap _ _ _));clear d3 e' k5 c6 V;have E:=(O.o.loc _ (.head _)).1;refine lp fun K hK=>?_;refine yA 184 (.tmp 16) (.tmp 77) rfl [.int .i64 (dA m.left),.int .i64 (m.left.first:Int),.slice Al m.left.l.length cl] rfl rfl E oB rfl qB fun d6 t f a0=>hK _ _ ?_;simp only[Act.put];clear hK;have I:=lh ((O.o.set_ f t).perm (List.Perm.swap _ _ _));clear O E t f a0;refine rn rfl (by go_simp<;>with_reducible rfl) ?_;simp only[nrm];have d8:=(I.o.loc _ (.head _)).1;refine lp fun K hK=>?_;refine yA 184 (.tmp 18) (.tmp 79) rfl [.int .i64 (dA m.right),.int .i64 (m.right.first:Int),.slice Ar m.right.l.length m5] rfl rfl d8 oB rfl qB fun d7 E Q c8=>hK _ _ ?_;simp only[Act.put];clear hK;have a1:=lh ((I.o.set_ Q E).perm (List.Perm.swap _ _ _));clear I d8 E Q c8;refine sE ?_;have d0:=(a1.o.loc _ (.head _)).1.at_ (i:=0) rfl;have d1:=(a1.o.loc _ (.head _)).1.at_ (i:=1) rfl;have d2:=(a1.o.loc _ (.head _)).1.at_ (i:=2) rfl;have U:=lh (iL a1.o.ch (a1.o.kn (n:=m.left) (.tail _ (.tail _ (.head _)))) h4.o l8.o l6.o);go_wp2_with fail;refine U.o.mono ?_;rintro e n7 ⟨rfl,e6,e7⟩;have a2:=lh ((a1.o.call e7 (fun q hq=>by simp only[kB,yG,aG]at hq;omega) e6).less (L':=_) (.cons _ (dC _)) (dC _) fun _ h=>h);clear e6 e7 U a1 d0 d1 d2;have d0:=(a2.o.loc _ (.head _)).1.at_ (i:=0) rfl;have d1:=(a2.o.loc _ (.head _)).1.at_ (i:=1) rfl;have d2:=(a2.o.loc _ (.head _)).1.at_ (i:=2) rfl;have U:=lh (iL a2.o.ch (a2.o.kn (n:=m.right) (.head _)) (k:=n.child (i+1)) h5.o l9.o l7.o);go_wp2_with fail;refine U.o.mono ?_;rintro e m6 ⟨rfl,e8,e9⟩;have Y:=lh ((a2.o.call e9 (fun q hq=>by simp only[kB,yG,aG]at hq;omega) e8).less (L':=_) (.cons _ (dC _)) (dC _) fun _ h=>h);clear e8 e9 U a2 d0 d1 d2;have d2:=(Y.o.loc _ (.head _)).1.at_ (i:=2) rfl;obtain⟨q',hA,J⟩:=tE (Y.o.row' (.head _)) (show 0<n.l.length by omega);obtain rfl:qr=q':=by injection hA with hA;injection hA
  clear hA;obtain⟨j1,j2,j3,k1,k2,k3,_⟩:=(Y.o.its' (.head _)).at_ HY.o;have cv:=J _ _ k1;have m0:=World.ownsRow.frozenAt (Y.o.row' (.head _)) (i*3);have a3:=lh ((Y.o.cell (j:=i*3) (u:=.slice Ak m.key.length ck) (l':=fN n.l i m.key) (aEQ _ _ _) ((Y.o.its' (.head _)).setK (vv:=j2) (av:=j3) HY.o (Y.o.kb (b:=m.key) (.tail _ (.head _))))).less (K':=Kl) (dC _) (dC _) fun k hk=>by simp[hk]);have b5:(fN n.l i m.key).length=n.l.length:=aEQ _ _ _;clear J k1 k2 k3;go_upto_region 15 with fail
  generalize m6.setCell ⟨qr,i*3,none⟩ (.slice Ak m.key.length ck)=m9 at *;clear Y cv m0 d2
  have f1:Hid (NdV _ m9 w.heap.size (.agg #[.int .i64 (dA n),.int .i64 (n.first:Int),.slice (some ⟨qr,0,none⟩) n.l.length r]) { n with l:=fN n.l i m.key }):=lh (by
   have:=a3.o.give.2.1;simp only[b5]at this;exact this)
  have f2:=lh (HP.o.to (c':=(c.write (n.child i) m.left).write (n.child (i+1)) m.right) ⟨rfl,rfl⟩);clear b5;have d0:=(a3.o.loc _ (.head _)).1.at_ (i:=0) rfl;have d1:=(a3.o.loc _ (.head _)).1.at_ (i:=1) rfl;have d2:=(a3.o.loc _ (.head _)).1.at_ (i:=2) rfl;have b6:=lh (aAM f2.o a3.o.give.1 f1.o G.o.k G.o.ok G.o.size G.o.e G.o.head a3.o.give.2.2);go_wp2_with fail;refine b6.o.mono ?_;rintro e wl ⟨uv,rfl,b',c0,c3⟩;obtain⟨Au,cu,rfl,c4⟩:=b'.open_;have SL:=lh ((((a3.o.less (N':=N) (K':=Kl) (dC _) (aAp ..) fun k hk=>by simp[hk]).call c3 (by simp) c0).key c4).perm (List.Perm.swap _ _ _));have f3:=lh (SL.o.loc _ (.head _)).1;clear c4 c3 b' c0 d0 d1 d2 b6
  go_wp2_with (refine oD rfl 212 (.tmp 8) (.tmp 98) rfl [.slice Au _ cu,.int .i64 _] rfl rfl f3.o qC rfl wD ?_)
  intro we a7 c7 g6;have HX:=lh (HQ.o _ _ ⟨_,_,rfl,(SL.o.set_ c7 a7).less (L':=L) (.cons _ (.cons _ (dC _))) (dC _) fun _ h=>h⟩);have f4:=lh a7;clear a7 c7 g6;go_wp2_with fail;exact yH (g:=p6+1) (t':=212) (cs:=[.slice Au _ cu,.int .i64 _]) (d:=_) rfl rfl f4.o Go.Proofs.Tryz.underlying212 rfl qC HX.o
end
end
end Go.Proofs.YtebjhcjbfaaejaaGreatDoor
