/-
  Joined: Qe Qf Qg Qh Qi Qj Qk
-/
import Derived.Test.YtebjhcjbfaaejaaGreatDoorJct7
set_option maxRecDepth 100000
set_option maxHeartbeats 32000000
open Go.Value renaming int->ii,slice->si,pointer->pi,tuple->tl,agg->il
open Go.IntKind renaming i64->ip,u8->ix,wrap->Wi
open Go.Obj renaming cells->iy
open Go.Ending renaming returned->iz
open Or renaming inl->Ii,inr->Ij
open List renaming length->li,foldl_append->wU,pairwise_map->mV,take_length->aAZ,sublist_cons_self->aBn
open List.Mem renaming head->Hi
open Go.Proofs.Tryz renaming underlying182->qJ
namespace Go.Proofs.YtebjhcjbfaaejaaGreatDoor
open Go.Proofs.Tryz
variable {j m r:Nat}{u:Value}{p:Prop}{S:PS}{α:Type}
section
open Go.RowKit Go.ChangeMaps Go.MapKept Go.Maps Go.Sort Go.Shelf
theorem tail4{β γ δ:Type}{H P:α->β->γ->δ->Prop}(main:(∀a b c d,H a b c d->P a b c d)->p)(tail:∀a b c d,H a b c d->P a b c d):p:=main tail
theorem aU(b:Array Value)(w:World):(callFunc 155 b).run prog w=.ok (.enter 155 b) w:=by kernel_rfl
theorem aO(b:Array Value)(w:World):(callFunc 102 b).run prog w=.ok (.enter 102 b) w:=by kernel_rfl
theorem uS(b:Array Value)(w:World):(callFunc 122 b).run prog w=.ok (.enter 122 b) w:=by kernel_rfl
theorem dZ{A B:Option Addr}{n m c d:Nat}{a:Int}:∀u∈[si A n c,si B m d,a],u.oneCell'=true:=by intro u b;simp at b;rcases b with rfl|rfl|rfl<;>rfl
structure aCQ (w0 wS:World) (dk g bc bn bs:Nat) (s:PS) (X:Nat->Prop) (f:Nat):Prop where
 go:∀ {c c':CD} {k deep:Nat} {x:It} {u:Ky×Nat} {w:World} {kv vv av:Value} {D:Nat->Prop},f+deep=40->aMm f c k x c' u->PgC w0 wS dk g s X c->jF wS w g bc bn bs D c ->
  ItC D w x kv vv av->x.ok true->(∀q,w.heap.size<=q->D q) ->
  Calls prog 122 #[.pointer (some ⟨bc,0,none⟩),.int .i64 (k:Int),.agg #[kv,vv,av],.int .i64 (deep:Int)] w fun e w'=>∃uv,e=.returned uv/\UpV D w' uv u/\jF wS w' g bc bn bs D c'/\Fr [bc,bn,bs] w w'
section
variable {w0 wS w w':World}{dk g bc bn bs:Nat}{s:PS}{X D:Nat->Prop}{c:CD}
theorem Z4{P:Prop} (h:P:=by
 refine ag 7 fun K hK=>?_;refine kA (l:=[.tmp 67,.tmp 70,.tmp 71,.tmp 73]) rfl [.pointer (some ⟨bc,0,none⟩),.int .i64 ((n.child (n.way x.key):Nat):Int),.agg #[(.slice Ak x.key.length ck),(.slice Av x.v.length cvv),.int .i64 0],.int .i64 ((deep:Int)+1)] rfl (uS _) ((HIH.o.go (c:=c) (deep:=deep+1) (by have:=HDEEP.o;omega) HPW.o HP.o S8.o.ch ⟨S8.o.kb (.head _),S8.o.kb (.tail _ (.head _)),HAV.o⟩ HXO.o S8.o.offD).mono ?_);rintro e w14 ⟨uv,rfl,huv,hc1,hf14⟩;obtain⟨Au,cu,rfl,hbu⟩:=huv.open_
 replace y0:=aB hf14 hn9 y0
 replace y1:=aB hf14 hn9 y1
 replace y2:=aB hf14 hn9 y2
 replace x0:=aB hf14 hn6 x0
 replace x1:=aB hf14 hn6 x1
 replace x2:=aB hf14 hn6 x2
 refine⟨_,rfl,hK _ _ (fun _=>⟨y0,y1,y2,x0,x1,x2⟩) ?_⟩;simp only[nrm];have S9:=lh ((S8.o.call hf14 (by simp) hc1).key hbu);clear hK hbu huv hc1 hf14;have hb14:=(S9.o.loc _ (.head _)).1;refine ah 9 fun K hK=>?_;refine pA 212 (.tmp 14) (.tmp 74) rfl [.slice Au u1.1.length cu,.int .i64 ((u1.2:Nat):Int)] rfl rfl hb14 dD rfl rE fun w16 hb16 hf16 hz16=>hK _ _ (fun h=>absurd h (by decide +kernel)) ?_;simp only[Act.put];clear hK;refine wd ?_ _;exact TAIL p14 Au cu w16 (lh ((S9.o.set_ hf16 hb16).perm (List.Perm.swap _ _ _)))):P:=h
theorem Z69{P:Prop} (h:P:=by
 intro we hbe hfe hze;have HX:=lh (HQ.o _ _ ⟨_,rfl,(SL.o.set_ hfe hbe).upv⟩);have HBE:=lh hbe;clear hbe hfe hze;go_wp2_with fail;exact cI (g:=w.heap.size+1) (t':=212) (cs:=[.slice Au _ cu,.int .i64 _]) (d:=_) rfl rfl HBE.o Go.Proofs.Tryz.underlying212 rfl dD HX.o):P:=h
theorem aRd{f:Nat}(T:aCQ w0 wS dk g bc bn bs s X f):aCQ w0 wS dk g bc bn bs s X (f+1):=by
 constructor;intro c c9 c' deep x u w kv G av a' V m B h b C S;have D:=m.same;obtain⟨n,A,M,N,m⟩:=m;obtain⟨c2,O,Q⟩:=h.wf.N_ok A;have U:=pF Q;have t:x.at_=0:=by have:=C.bare;simpa using this
 have k:av=ii ip 0:=by rw[b.2.2,t];rfl
 subst k;obtain⟨⟨E,k,q⟩,⟨F,p,y⟩,z⟩:=b;obtain⟨Ak,ck,rfl⟩:∃r c,kv=si r (li x.key) c:=by obtain⟨r,c,_,h,_⟩:=k;exact⟨r,c,h⟩
 obtain⟨Av,cvv,rfl⟩:∃r c,G=si r (li x.v) c:=by obtain⟨r,c,_,h,_⟩:=p;exact⟨r,c,h⟩
 have b:ItC a' w x (si Ak (li x.key) ck) (si Av (li x.v) cvv) (ii ip 0):=⟨⟨E,k,q⟩,⟨F,p,y⟩,z⟩;clear k q p y z;have E:=b.one;obtain⟨k,q⟩:=nm ((w.alloc (iy #[si Ak (li x.key) ck,si Av (li x.v) cvv,ii ip 0] 198)).alloc (iy zup.toArray 212));have F:Fr [] w k:=by rw[q];exact((jj [] w).alloc _).alloc _
 have G:Blk k w.heap.size 198 [si Ak (li x.key) ck,si Av (li x.v) cvv,ii ip 0]:=by rw[q];exact(jl w _ [si Ak (li x.key) ck,si Av (li x.v) cvv,ii ip 0]).alloc _
 have J:Blk k (w.heap.size+1) 212 zup:=by rw[q];have:=jl (w.alloc (iy #[si Ak (li x.key) ck,si Av (li x.v) cvv,ii ip 0] 198)) 212 zup;rwa [qB]at this
 have L:=Sx.start h S;have z:∀p,a' p->Off a' [] [] p:=λp k=>⟨k,λ_ h=>by simp at h,λ_ h=>by simp at h⟩;have y:=lh (((L.key (b.2.1.imp λp k=>⟨k.1,z p k.2⟩)).key (b.1.imp λp k=>⟨k.1,z p k.2⟩)).new (L':=[(w.heap.size+1,212,zup),(w.heap.size,198,[si Ak (li x.key) ck,si Av (li x.v) cvv,ii ip 0])]) F (λl k=>by
  obtain rfl|k:=bB.1 k;·exact⟨J,by simp⟩
  obtain rfl:=xA.1 k;exact⟨G,tA _⟩) (by simp))
 have⟨e4,HP,HE,e5,HW,HIH,h9,I,HDEEP⟩:=hh9 (jP B y.o.ch A y.o.offD) B N M m T O U V;have⟨HXO,e6,h5,g5⟩:=hh4 C E t D;have HAV:Hid (ii ip 0=ii ip (x.at_:Int)):=lh (by rw[t];rfl);clear L z h b B F G J N M m T O A C S t E Q D;have c0:¬ ((deep:Nat):Int)=40:=by omega
 refine cA λd1 HQ=>?_;go_enter func122,ntmps122;go_upto_region 1 with (with_reducible refine qA rfl 212 rfl (il #[si none 0 0,ii ip 0]) zup.toArray qM rfl ?_);rw[<- q];have b:(w.alloc (iy #[si Ak (li x.key) ck,si Av (li x.v) cvv,ii ip 0] 198)).heap.size=w.heap.size+1:=by rw[qB]
 rw[b];clear q b;go_wp2_with fail;refine e4.o.mono ?_;rintro e k ⟨c3,rfl,b,q⟩;obtain⟨r,D,cs,rfl,c4,t⟩:=y.o.node q (tA _) b;have m:=lh t;clear b q t y e4;go_wp2_with (first
  | (with_reducible refine qA rfl 184 rfl (il #[ii ip 0,ii ip 0,si none 0 0]) znd.toArray zD rfl ?_)
  | (refine zA (W:=k) rfl 184 (.tmp 9) (.tmp 19) rfl [ii ip (fA n),ii ip (n.first:Int),si r (li n.l) D] rfl rfl rfl xB rfl aC ?_))
 intro d0 b t y;obtain⟨z,q⟩:=nm (k.heap.size);rw[<- q]at b⊢;have k:=lh (m.o.new1 t b (by omega));clear t b y q m;go_wp2_with fail;refine(rN k.o.ch 0).mono ?_;rintro e c5 ⟨rfl,m,t,y⟩;rw[tS HE.o]at m⊢;have q:decide (c.e≠0)=false:=by rw[HE.o];rfl
 rw[q];have b:=lh (k.o.call t (by simp) m);clear m t y k q;have E:=(b.o.loc _ (Hi _)).1.a 0;have F:=(b.o.loc _ (Hi _)).1.a 1;have t:=(b.o.loc _ (Hi _)).1.a 2;go_wp2_with fail;refine(aAv n).mono ?_;rintro e c6 ⟨rfl,k⟩;have m:=lh (b.o.quiet k);clear k b E F t;have E:=(m.o.loc _ (Hi _)).1.a 0;have F:=(m.o.loc _ (Hi _)).1.a 1;have t:=(m.o.loc _ (Hi _)).1.a 2;have x0:=(m.o.loc _ (.tail _ (.tail _ (Hi _)))).1.a 0;cases b0:n.lf with
 | true=>
  obtain⟨-,a2,O⟩|⟨b3,_⟩:=HW.o
  ·clear b0;obtain⟨b7,J,_⟩:=m.o.kb (Hi _);have⟨e8,q⟩:=hh2 (aEC (m.o.bytes (Hi _)) J e5.o (by have:=I.o;omega)) a2;have T:=congrArg Prod.fst O;have U:=congrArg Prod.snd O;simp only at T U;subst T U;clear J a2 O;go_wp2_with fail;refine e8.o.mono ?_;rintro e C ⟨rfl,L⟩;have k:=lh (m.o.quiet L);clear L e8 E F t x0 m;have t:=(k.o.loc _ (Hi _)).1.a 2;cases B:gP n.l x.key
   case' true=>
    have G:=aIe B;obtain⟨p,b,A⟩:=tD (k.o.row' (Hi _)) (show 0<li n.l by omega);subst b;obtain⟨b,y⟩:∃b,n.l[lB n.l x.key]? = some b:=⟨_,kE G⟩;obtain⟨Q,c7,S,Y,G,R,_⟩:=(k.o.its' (Hi _)).at_ y;have M:=A _ _ G;have N:=World.ownsRow.frozenAt (k.o.row' (Hi _)) (lB n.l x.key*3+1);have c1:((lB n.l x.key:Nat):Int)<((li n.l:Nat):Int):=(by omega);have x1:=(k.o.loc _ (.tail _ (.tail _ (Hi _)))).1.a 1;have b:=lh (k.o.cell (j:=lB n.l x.key*3+1) (u:=(si Av (li x.v) cvv)) (l':=setV n.l (lB n.l x.key) x.v) (aJR _ _ _) ((k.o.its' (Hi _)).setV (kv:=Q) (av:=S) y (k.o.kb (.tail _ (Hi _)))));have Z:Hid (nF n.l x=setV n.l (lB n.l x.key) x.v):=lh (aMo B);have V:li (setV n.l (lB n.l x.key) x.v)=li n.l:=aJR _ _ _;clear A Y G R y;go_upto_region 11 with fail;obtain⟨y,A⟩:=nm (C.setCell ⟨p,lB n.l x.key*3+1,none⟩ (si Av (li x.v) cvv));rw[<- A]at b;first|rw[<- A] | skip
    clear A k M N x1 t;have Y:Hid (NdV _ y w.heap.size (il #[ii ip (fA n),ii ip (n.first:Int),si (some ⟨p,0,none⟩) (li n.l) D]) { n with l:=nF n.l x }):=lh (by have:=b.o.give.2.1;simp only[V]at this;rw[Z.o];exact this);rw[<- Z.o]at b;have E:=(b.o.loc _ (Hi _)).1.a 0;have F:=(b.o.loc _ (Hi _)).1.a 1;have t:=(b.o.loc _ (Hi _)).1.a 2;have N:=lh (aBJ HP.o b.o.give.1 Y.o q.o.k q.o.ok q.o.size q.o.e q.o.head b.o.give.2.2);go_wp2_with fail;refine N.o.mono ?_;rintro e b4 ⟨uv,rfl,huv,Q,S⟩;obtain⟨Au,cu,rfl,hbu⟩:=huv.open_;have SL:=lh ((((b.o.less (N':=[]) (oC _) (dQ _) λ_ h=>h).call S (by simp) Q).key hbu).perm (List.Perm.swap _ _ _))
   case' false=>
    have Z:Hid (nF n.l x=xI n.l (lB n.l x.key) x):=lh (aMp B);have M:=aRa n.l x.key;have V:li (xI n.l (lB n.l x.key) x)=li n.l+1:=bX _ _ M;have x0:=(k.o.loc _ (.tail _ (.tail _ (Hi _)))).1.a 0;have x1:=(k.o.loc _ (.tail _ (.tail _ (Hi _)))).1.a 1;have x2:=(k.o.loc _ (.tail _ (.tail _ (Hi _)))).1.a 2;go_upto_region 10 with fail;refine sB ?_;iterate 4 (refine ab ?_)
    refine lp λK hK=>?_;obtain⟨b8,a3,a4,a5,b5⟩:=fF vK;refine qC (.tmp 54) rfl qJ a3 a4 [si Ak (li x.key) ck,si Av (li x.v) cvv,ii ip 0] rfl a5 rfl (by simp) (by simp) (hK _ _ ?_);clear hK;simp only[nrm];obtain⟨R,G⟩:=nm (C.alloc (iy ([si Ak (li x.key) ck,si Av (li x.v) cvv,ii ip 0]:List Value).toArray 198));rw[<- G];have a0:Fr [] C R:=(by rw[G];exact(jj [] C).alloc _);have a1:Blk R C.heap.size 198 [si Ak (li x.key) ck,si Av (li x.v) cvv,ii ip 0]:=(by rw[G];exact jl C _ [si Ak (li x.key) ck,si Av (li x.v) cvv,ii ip 0]);have b:=lh (k.o.quiet a0);clear G;refine lp λK hK=>kA (l:=[.tmp 52,.tmp 53,.tmp 55]) rfl [si r (li n.l) D,ii ip ((lB n.l x.key:Nat):Int),si (some ⟨C.heap.size,0,none⟩) 1 1] rfl (aU _) ((yT (b.o.row' (Hi _)) (b.o.its' (Hi _)).one (by have:=I.o;omega) M b.o.fr.size a1 e6.o rfl (λe=>by have:=(k.o.own' (Hi _) _ e).2;omega)).mono ?_);rintro e y ⟨b9,rfl,a6,a7,a8⟩;obtain⟨A,B,rfl,a9⟩:=b.o.ins M (x:=x) (b.o.kb (Hi _)) (b.o.kb (.tail _ (Hi _))) HAV.o a6 a7 a8;refine⟨_,rfl,hK _ _ ?_⟩;clear hK;simp only[nrm];have S8:=lh a9;have b1:=(S8.o.loc _ (Hi _)).1.a 2;have b2:=(S8.o.loc _ (Hi _)).1.free 2;refine ab ?_;refine lp λK hK=>rB (w':=y.setCell ⟨z,2,none⟩ (si A (li n.l+1) B)) (by go_simp) (hK _ _ ?_);clear hK;simp only[Act.put];refine wB ?_;have S9:=lh (S8.o.set_ (cs:=[ii ip (fA n),ii ip (n.first:Int),si A (li n.l+1) B]) ((jj [z] y).setCell (Ii (by simp)) _) ((S8.o.loc _ (Hi _)).1.set_ 2 (si A (li n.l+1) B)));clear b1 b2 S8 a9 a6 a7 a8 a0 a1;generalize y.setCell ⟨z,2,none⟩ (si A (li n.l+1) B)=w14 at *;clear x0 x1 x2 t k b a3 a4 a5 b5;have Y:Hid (NdV _ w14 w.heap.size (il #[ii ip (fA n),ii ip (n.first:Int),si A (li n.l+1) B]) { n with l:=nF n.l x }):=lh (by have:=S9.o.give.2.1;simp only[V]at this;rw[Z.o];exact this);have E:=(S9.o.loc _ (Hi _)).1.a 0;have F:=(S9.o.loc _ (Hi _)).1.a 1;have t:=(S9.o.loc _ (Hi _)).1.a 2;have N:=lh (aBJ HP.o S9.o.give.1 Y.o q.o.k q.o.ok q.o.size q.o.e q.o.head S9.o.give.2.2);go_wp2_with fail;refine N.o.mono ?_;rintro e b4 ⟨uv,rfl,huv,Q,S⟩;obtain⟨Au,cu,rfl,hbu⟩:=huv.open_;have SL:=lh ((((S9.o.less (N':=[]) (oC _) (dQ _) λ_ h=>h).call S (by simp) Q).key hbu).perm (List.Perm.swap _ _ _))
   all_goals have Z:=lh (SL.o.loc _ (Hi _)).1;clear hbu S huv Q E F t N;go_wp2_with (refine gE rfl 212 (.tmp 8) (.tmp 61) rfl [si Au _ cu,ii ip _] rfl rfl Z.o dD rfl rE ?_);exact Z69
  rw[b0]at b3;cases b3
 | false=>
  obtain⟨b3,_⟩|⟨-,b',u1,p,b6⟩:=HW.o;·rw[b0]at b3;cases b3
  clear b0;obtain⟨b7,J,_⟩:=m.o.kb (Hi _);have⟨e9,HPW,c8,g8⟩:=hh4 (aIa (m.o.bytes (Hi _)) J e5.o (by have:=I.o;omega)) p b6 (HP.o.to p.same);clear J p b6;go_wp2_with fail;refine e9.o.mono ?_;rintro e C ⟨rfl,L⟩;have k:=lh ((m.o.quiet L).quiet ((jj [] C).drew));clear L e9 E F t x0 m;have y0:=(k.o.loc _ (Hi _)).1.a 0;have y1:=(k.o.loc _ (Hi _)).1.a 1;have y2:=(k.o.loc _ (Hi _)).1.a 2;have x0:=(k.o.loc _ (.tail _ (.tail _ (Hi _)))).1.a 0;have x1:=(k.o.loc _ (.tail _ (.tail _ (Hi _)))).1.a 1;have x2:=(k.o.loc _ (.tail _ (.tail _ (Hi _)))).1.a 2;have b3:=wi deep (by omega);have p:=k.o.low;have m:=(k.o.loc _ (Hi _)).2;have hn9:z∉[bc,bn,bs]:=(by simp only at m;simp;omega);have hn6:w.heap.size∉[bc,bn,bs]:=(by simp;omega);clear p m;go_upto_region 13 with fail;apply tail4 (H:=λp14 Au cu w16=>Hid (Sx wS w g bc bn bs a' [(z,184,[ii ip (fA n),ii ip (n.first:Int),si r (li n.l) D]),(p14,212,[si Au (li u1.1) cu,ii ip ((u1.2:Nat):Int)]),(w.heap.size+1,212,zup),(w.heap.size,198,[si Ak (li x.key) ck,si Av (li x.v) cvv,ii ip 0])] [⟨r,D,n,cs⟩] [.by_ (si Au (li u1.1) cu) u1.1,.by_ (si Ak (li x.key) ck) x.key,.by_ (si Av (li x.v) cvv) x.v] b' w16))
  case main=>
   intro TAIL;refine aj (λW=>W.cell? ⟨z,0,none⟩=some (ii ip (fA n))/\W.cell? ⟨z,1,none⟩=some (ii ip (n.first:Int))/\W.cell? ⟨z,2,none⟩=some (si r (li n.l) D)/\W.cell? ⟨w.heap.size,0,none⟩=some (si Ak (li x.key) ck)/\W.cell? ⟨w.heap.size,1,none⟩=some (si Av (li x.v) cvv)/\W.cell? ⟨w.heap.size,2,none⟩=some (ii ip 0)) [0,1,2,4,5,6] ?_;refine tks [0,1,2,4,5,6] ?_;iterate 6 (refine ac ⟨y0,y1,y2,x0,x1,x2⟩ ?_)
   refine tke ?_;refine jJ (i:=3) (j:=8) (some 70) (some 14) rfl rfl rfl rfl (by kernel_rfl) rfl rfl (λK hK=>?_) (λK hK=>?_)
   ·
    refine kA (l:=[.tmp 68,.tmp 69]) rfl [il #[ii ip (fA n),ii ip (n.first:Int),si r (li n.l) D],ii ip ((n.way x.key:Nat):Int)] rfl (aO _) ((zN (k.o.bytes (Hi _)) (cZ n x.key) (by have:=I.o;omega)).mono ?_);rintro e y ⟨rfl,m⟩;refine⟨_,rfl,hK _ _ (λ_=>⟨aA m y0,aA m y1,aA m y2,aA m x0,aA m x1,aA m x2⟩) ?_⟩;simp only[nrm];have b:=lh (k.o.quiet m);replace y0:=aA m y0;replace y1:=aA m y1;replace y2:=aA m y2;replace x0:=aA m x0;replace x1:=aA m x1;replace x2:=aA m x2;refine jJ (i:=7) (j:=8) (some 74) (some 14) rfl rfl rfl rfl (by kernel_rfl) rfl rfl (λK hK=>?_) (λK hK=>?_)
    ·
     refine kA (l:=[.tmp 67,.tmp 70,.tmp 71,.tmp 73]) rfl [pi (some ⟨bc,0,none⟩),ii ip ((n.child (n.way x.key):Nat):Int),il #[si Ak (li x.key) ck,si Av (li x.v) cvv,ii ip 0],ii ip ((deep:Int)+1)] rfl (uS _) ((HIH.o.go (c:=c) (deep:=deep+1) (by have:=HDEEP.o;omega) HPW.o HP.o b.o.ch ⟨b.o.kb (Hi _),b.o.kb (.tail _ (Hi _)),HAV.o⟩ HXO.o b.o.offD).mono ?_);rintro e w14 ⟨uv,rfl,huv,hc1,hf14⟩;obtain⟨Au,cu,rfl,hbu⟩:=huv.open_;replace y0:=aB hf14 hn9 y0;replace y1:=aB hf14 hn9 y1;replace y2:=aB hf14 hn9 y2;replace x0:=aB hf14 hn6 x0;replace x1:=aB hf14 hn6 x1;replace x2:=aB hf14 hn6 x2;refine⟨_,rfl,hK _ _ (λ_=>⟨y0,y1,y2,x0,x1,x2⟩) ?_⟩;simp only[nrm];have S8:=lh ((b.o.call hf14 (by simp) hc1).key hbu);refine ag 8 λK hK=>gB 212 rfl (il #[si none 0 0,ii ip 0]) zup qM rfl λa' L p b0=>?_;replace y0:=aA p y0;replace y1:=aA p y1;replace y2:=aA p y2;replace x0:=aA p x0;replace x1:=aA p x1;replace x2:=aA p x2;refine hK _ _ (λ_=>⟨y0,y1,y2,x0,x1,x2⟩) ?_;simp only[nrm];obtain⟨p14,J⟩:=nm (w14.heap.size);rw[<- J]at L⊢;have S9:=lh (S8.o.new1 p L (uQ J.symm));have hb14:=(S9.o.loc _ (Hi _)).1;refine ah 9 λK hK=>pA 212 (.tmp 14) (.tmp 74) rfl [si Au (li u1.1) cu,ii ip ((u1.2:Nat):Int)] rfl rfl hb14 dD rfl rE λw16 hb16 hf16 hz16=>hK _ _ (λh=>absurd h (by decide +kernel)) ?_;simp only[Act.put];refine wd ?_ _;exact TAIL p14 Au cu w16 (lh ((S9.o.set_ hf16 hb16).perm (List.Perm.swap _ _ _)))
    ·
     refine gB 212 rfl (il #[si none 0 0,ii ip 0]) zup qM rfl λa' L p b0=>?_;replace y0:=aA p y0;replace y1:=aA p y1;replace y2:=aA p y2;replace x0:=aA p x0;replace x1:=aA p x1;replace x2:=aA p x2;refine hK _ _ (λ_=>⟨y0,y1,y2,x0,x1,x2⟩) ?_;simp only[nrm];obtain⟨p14,J⟩:=nm (y.heap.size);rw[<- J]at L⊢;have S8:=lh (b.o.new1 p L (uQ J.symm));exact Z4
   ·
    refine gB 212 rfl (il #[si none 0 0,ii ip 0]) zup qM rfl λa' L p b0=>?_;replace y0:=aA p y0;replace y1:=aA p y1;replace y2:=aA p y2;replace x0:=aA p x0;replace x1:=aA p x1;replace x2:=aA p x2;refine hK _ _ (λ_=>⟨y0,y1,y2,x0,x1,x2⟩) ?_;simp only[nrm];obtain⟨p14,J⟩:=nm (C.drew.heap.size);rw[<- J]at L⊢;have b:=lh (k.o.new1 p L (uQ J.symm));refine ag 3 λK hK=>kA (l:=[.tmp 68,.tmp 69]) rfl [il #[ii ip (fA n),ii ip (n.first:Int),si r (li n.l) D],ii ip ((n.way x.key:Nat):Int)] rfl (aO _) ((zN (b.o.bytes (Hi _)) (cZ n x.key) (by have:=I.o;omega)).mono ?_);rintro e y ⟨rfl,m⟩;refine⟨_,rfl,hK _ _ (λ_=>⟨aA m y0,aA m y1,aA m y2,aA m x0,aA m x1,aA m x2⟩) ?_⟩;simp only[nrm];have S8:=lh (b.o.quiet m);replace y0:=aA m y0;replace y1:=aA m y1;replace y2:=aA m y2;replace x0:=aA m x0;replace x1:=aA m x1;replace x2:=aA m x2;exact Z4
  intro p14 Au cu w16 k;have u0:=(k.o.loc _ (.tail _ (Hi _))).1.a 0;have m:=(k.o.loc _ (.tail _ (Hi _))).1.a 1;have t:=(k.o.loc _ (Hi _)).1.a 2;obtain⟨p,rfl,rfl⟩|⟨p,a2,O⟩:=c8.o;·have SL:=lh ((k.o.less (L':=_) (.cons _ (.cons _ (oC _))) (oC _) λ_ h=>h));have Z:=lh (SL.o.loc _ (Hi _)).1;have C:m=m:=rfl;simp only at m;rw[p]at m;go_wp2_with (refine gE rfl 212 (.tmp 8) (.tmp 78) rfl [si none 0 0,ii ip 0] rfl rfl Z.o dD rfl rE ?_);intro we hbe hfe hze;have⟨HX,HBE⟩:=hh2 (HQ.o _ _ ⟨_,rfl,(SL.o.set_ hfe hbe).upv0⟩) hbe;go_wp2_with fail;exact cI (g:=w.heap.size+1) (t':=212) (cs:=[si none 0 0,ii ip 0]) (d:=_) rfl rfl HBE.o Go.Proofs.Tryz.underlying212 rfl dD HX.o
  have m:¬ ((u1.2:Nat):Int)=0:=(by omega);have q:=lh a2;have T:=congrArg Prod.fst O;have U:=congrArg Prod.snd O;simp only at T U;subst T U;have M:=cZ n x.key;have V:li (xI n.l (n.way x.key) ⟨u1.1,[],u1.2⟩)=li n.l+1:=bX _ _ M;go_upto_region 16 with fail;refine sB ?_;iterate 9 (refine ab ?_)
  refine lp λK hK=>?_;obtain⟨b8,a3,a4,a5,b5⟩:=fF vK;refine qC (.tmp 87) rfl qJ a3 a4 [si Au (li u1.1) cu,si none 0 0,ii ip ((u1.2:Nat):Int)] rfl a5 rfl (by simp) (by simp) (hK _ _ ?_);simp only[nrm];obtain⟨R,G⟩:=nm (w16.alloc (iy ([si Au (li u1.1) cu,si none 0 0,ii ip ((u1.2:Nat):Int)]:List Value).toArray 198));rw[<- G];have a0:Fr [] w16 R:=(by rw[G];exact(jj [] w16).alloc _);have a1:Blk R w16.heap.size 198 [si Au (li u1.1) cu,si none 0 0,ii ip ((u1.2:Nat):Int)]:=(by rw[G];exact jl w16 _ [si Au (li u1.1) cu,si none 0 0,ii ip ((u1.2:Nat):Int)]);have b:=lh (k.o.quiet a0);refine lp λK hK=>kA (l:=[.tmp 80,.tmp 81,.tmp 88]) rfl [si r (li n.l) D,ii ip ((n.way x.key:Nat):Int),si (some ⟨w16.heap.size,0,none⟩) 1 1] rfl (aU _) ((yT (b.o.row' (Hi _)) (b.o.its' (Hi _)).one (by have:=I.o;omega) M b.o.fr.size a1 dZ rfl (λe=>by have:=(k.o.own' (Hi _) _ e).2;omega)).mono ?_);rintro e y ⟨b9,rfl,a6,a7,a8⟩;obtain⟨A,B,rfl,a9⟩:=b.o.ins M (x:=⟨u1.1,[],u1.2⟩) (b.o.kb (Hi _)) (b.o.nil_key) rfl a6 a7 a8;refine⟨_,rfl,hK _ _ ?_⟩;simp only[nrm];have S8:=lh a9;have b1:=(S8.o.loc _ (Hi _)).1.a 2;have b2:=(S8.o.loc _ (Hi _)).1.free 2;refine ab ?_;refine lp λK hK=>rB (w':=y.setCell ⟨z,2,none⟩ (si A (li n.l+1) B)) (by go_simp) (hK _ _ ?_);simp only[Act.put];refine wB ?_;have S9:=lh (S8.o.set_ (cs:=[ii ip (fA n),ii ip (n.first:Int),si A (li n.l+1) B]) ((jj [z] y).setCell (Ii (by simp)) _) ((S8.o.loc _ (Hi _)).1.set_ 2 (si A (li n.l+1) B)));generalize y.setCell ⟨z,2,none⟩ (si A (li n.l+1) B)=w14 at *;have b:=lh (S9.o.less (L':=_) (.cons_cons _ (.cons _ (oC _))) (oC _) λ_ h=>h);have Y:Hid (NdV _ w14 w.heap.size (il #[ii ip (fA n),ii ip (n.first:Int),si A (li n.l+1) B]) { n with l:=xI n.l (n.way x.key) ⟨u1.1,[],u1.2⟩ }):=lh (by have:=b.o.give.2.1;simp only[V]at this;exact this);have E:=(b.o.loc _ (Hi _)).1.a 0;have F:=(b.o.loc _ (Hi _)).1.a 1;have t:=(b.o.loc _ (Hi _)).1.a 2;have N:=lh (aBJ g8.o b.o.give.1 Y.o q.o.k q.o.ok q.o.size q.o.e q.o.head b.o.give.2.2);go_wp2_with fail;refine N.o.mono ?_;rintro e b4 ⟨uv,rfl,huv,Q,S⟩;obtain⟨Au,cu,rfl,hbu⟩:=huv.open_;have SL:=lh ((((b.o.less (N':=[]) (oC _) (dQ _) λ_ h=>h).call S (by simp) Q).key hbu).perm (List.Perm.swap _ _ _));have Z:=lh (SL.o.loc _ (Hi _)).1;go_wp2_with (refine gE rfl 212 (.tmp 8) (.tmp 94) rfl [si Au _ cu,ii ip _] rfl rfl Z.o dD rfl rE ?_);exact Z69
theorem aRe:aCQ w0 wS dk g bc bn bs s X 0:=⟨λ_ b=>b.elim⟩
theorem aRf:∀f,aCQ w0 wS dk g bc bn bs s X f
 | 0=>aRe
 | f+1=>aRd (aRf f)
end
theorem aGf{H P:α->Prop}(main:(∀a,H a->P a)->p)(tail:∀a,H a->P a):p:=main tail
theorem aEK(b:Array Value)(w:World):(callFunc 215 b).run prog w=.ok (.enter 215 b) w:=by kernel_rfl
section
variable {w0 wS w w1:World}{dk g bc bn bs:Nat}{s:PS}{X D:Nat->Prop}{L:List LB}{N:List NP}{Kl:List Kq}{c c':CD}
theorem Z13{P:Prop} (h:P:=by
 have hb15:=(S12.o.loc _ (.head _)).1;refine ah 11 fun K hK=>?_;refine pA 184 (.tmp 15) (.tmp 56) rfl [.int .i64 (fA m),.int .i64 (m.first:Int),.slice Am m.l.length cm] rfl rfl hb15 xB rfl aC fun w16 hb16 hf16 hz16=>hK _ _ (fun h=>absurd h (by decide +kernel)) ?_;simp only[Act.put];clear hK;refine wd ?_ _;exact TAIL p15 Am cm w16 (lh ((S12.o.set_ hf16 hb16).less (.cons_cons _ (.cons _ (.cons _ (oC _)))) (oC _) fun k hk=>by simp only[bB] at hk ⊢;rcases hk with h | h <;> simp[h]))):P:=h
theorem Z62{P:Prop} (h:P:=by
 have HBR:=lh (SL.o.loc _ (.head _)).1;clear hbu hfl huv hcl d0 d1 d2 HLA
 go_wp2_with (refine gE rfl 212 (.tmp 8) (.tmp 98) rfl [.slice Au _ cu,.int .i64 _] rfl rfl HBR.o dD rfl rE ?_)
 intro we hbe hfe hze;have HX:=lh (HQ.o _ _ ⟨_,_,rfl,(SL.o.set_ hfe hbe).less (L':=L) (.cons _ (.cons _ (oC _))) (oC _) fun _ h=>h⟩);have HBE:=lh hbe;clear hbe hfe hze;go_wp2_with fail;exact cI (g:=p6+1) (t':=212) (cs:=[.slice Au _ cu,.int .i64 _]) (d:=_) rfl rfl HBE.o Go.Proofs.Tryz.underlying212 rfl dD HX.o):P:=h
theorem aTd{A:Option Addr}{n:Nd}{cs:List Value}{k i:Nat}{p:Ky×Nat}(a0:PgC w0 wS dk g s X c)(h:Sx wS w g bc bn bs D L (⟨A,r,n,cs⟩::N) Kl c w1)(f:aJP c k n i c' p)(a1:c.e=0)(a5:li n.l<=509): Calls prog 190 #[pi (some ⟨bc,0,none⟩),ii ip (k:Int),il #[ii ip (fA n),ii ip (n.first:Int),si A (li n.l) r],ii ip (i:Int)] w1 λe q=>
   ∃A' a3,e=iz (il #[si A' (li p.1) a3,ii ip ((p.2:Nat):Int)])/\Sx wS w g bc bn bs D L N (.by_ (si A' (li p.1) a3) p.1::Kl) c' q:=by
 have G:=f.same;obtain⟨a,b,O,m,z,B,E,T,rfl,U,f⟩:=f;obtain⟨V,a2,Y⟩:=h.ch.wf.N_ok B;obtain⟨Z,a4,R⟩:=h.ch.wf.N_ok E;have a9:i<li n.l:=(uC.1 z).1;have I:=pF Y;have M:=pF R;obtain⟨x,p⟩:=nm ((w1.alloc (iy #[ii ip (fA n),ii ip (n.first:Int),si A (li n.l) r] 184)).alloc (iy zup.toArray 212));have Q:Fr [] w1 x:=by rw[p];exact((jj [] w1).alloc _).alloc _
 obtain⟨p6,q⟩:=nm (w1.heap.size);have y:Blk x p6 184 [ii ip (fA n),ii ip (n.first:Int),si A (li n.l) r]:=by rw[p,q];exact(jl w1 _ [ii ip (fA n),ii ip (n.first:Int),si A (li n.l) r]).alloc _
 have S:Blk x (p6+1) 212 zup:=by rw[p,q];have:=jl (w1.alloc (iy #[ii ip (fA n),ii ip (n.first:Int),si A (li n.l) r] 184)) 212 zup;rwa [qB]at this
 have t:=lh (h.new (L':=[(p6,184,[ii ip (fA n),ii ip (n.first:Int),si A (li n.l) r]),(p6+1,212,zup)]) Q (λl F=>by
  obtain rfl|F:=bB.1 F;·exact⟨y,by simp only;omega⟩
  obtain rfl:=xA.1 F;exact⟨S,by simp only;omega⟩) (by simp))
 have⟨HP,HE,HW,a7,i9,i',j0,f5,HY⟩:=hh9 a0 a1 f a5 G B E T z;have⟨J,f6,f7,f8,f9⟩:=hh5 U I M V Z;clear h Q y S a0 a1 f G B E T z U I M V Z a2 a4 Y R;have E:=wi i (by omega)
 have b':((i:Nat):Int)<((li n.l:Nat):Int):=by omega
 refine cA λd3 HQ=>?_
 go_enter func190,ntmps190
 go_upto_region 1 with (with_reducible refine qA rfl 212 rfl (il #[si none 0 0,ii ip 0]) zup.toArray qM rfl ?_)
 rw[<- p];have f:(w1.alloc (iy #[ii ip (fA n),ii ip (n.first:Int),si A (li n.l) r] 184)).heap.size=w1.heap.size+1:=by rw[qB]
 rw[f,<- q];clear p f q;have p:=(t.o.loc _ (Hi _)).1.a 0;have q:=(t.o.loc _ (Hi _)).1.a 1;have f:=(t.o.loc _ (Hi _)).1.a 2;have B:=lh (t.o.quiet ((jj [] x).drew));clear t
 apply aGf (H:=λW=>Hid (Sx wS w g bc bn bs D ((p6,184,[ii ip (fA n),ii ip (n.first:Int),si A (li n.l) r])::(p6+1,212,zup)::L) (⟨A,r,n,cs⟩::N) Kl c W))
 case main=>
  intro TAIL;refine aj (λW=>W.cell? ⟨p6,0,none⟩=some (ii ip (fA n))/\W.cell? ⟨p6,1,none⟩=some (ii ip (n.first:Int))/\W.cell? ⟨p6,2,none⟩=some (si A (li n.l) r)) [0,1,3,4,5] ?_;refine tks [0,1,3,4,5] ?_;iterate 5 (refine ac ⟨p,q,f⟩ ?_)
  refine tke ?_;refine ag 2 λK hK=>kA (l:=[.tmp 19,.tmp 20]) rfl [il #[ii ip (fA n),ii ip (n.first:Int),si A (li n.l) r],ii ip ((i:Int))] rfl (aO _) ((zN (k:=i) (B.o.bytes (Hi _)) (by omega) (by have:=a7.o;omega)).mono ?_);rintro e R ⟨rfl,t⟩;replace p:=aA t p;replace q:=aA t q;replace f:=aA t f;refine⟨_,rfl,hK _ _ (λ_=>⟨p,q,f⟩) ?_⟩;simp only[nrm];have x:=lh (B.o.quiet t);clear hK t;refine ag 6 λK hK=>kA (l:=[.tmp 22,.tmp 24]) rfl [il #[ii ip (fA n),ii ip (n.first:Int),si A (li n.l) r],ii ip ((i:Int)+1)] rfl (aO _) ((zN (k:=i+1) (x.o.bytes (Hi _)) (by omega) (by have:=a7.o;omega)).mono ?_);rintro e R ⟨rfl,t⟩;replace p:=aA t p;replace q:=aA t q;replace f:=aA t f;refine⟨_,rfl,hK _ _ (λ_=>⟨p,q,f⟩) ?_⟩;simp only[nrm];have z:=lh (x.o.quiet t);clear hK t;refine af 7 (λ_=>⟨p,q,f⟩) ?_;refine af 8 (λ_=>⟨p,q,f⟩) ?_;refine wd ?_ _;exact TAIL _ z
 intro c6 x;clear B p q f E;have p:=lh (jP HP.o x.o.ch i'.o x.o.offD);go_wp2_with fail;refine p.o.mono ?_;rintro e E ⟨I,rfl,q,B⟩;obtain⟨a0,a1,rfl,F⟩:=x.o.node_r B q;have z:=lh F;clear q B F x p
 go_wp2_with (first
  | (with_reducible refine qA rfl 184 rfl (il #[ii ip 0,ii ip 0,si none 0 0]) znd.toArray zD rfl ?_)
  | (refine zA (W:=E) rfl 184 (.tmp 11) (.tmp 30) rfl [ii ip (fA a),ii ip (a.first:Int),si a0 (li a.l) a1] rfl rfl rfl xB rfl aC ?_))
 intro c7 B G M;obtain⟨S,F⟩:=nm (E.heap.size);rw[<- F]at B⊢;have x:=lh (z.o.new1 G B (by omega));clear G B M F z;have p:=lh (jP HP.o x.o.ch j0.o x.o.offD);go_wp2_with fail;refine p.o.mono ?_;rintro e B ⟨I,rfl,q,E⟩;obtain⟨a2,a4,rfl,F⟩:=x.o.node_r E q;have z:=lh F;clear q E F x p
 go_wp2_with (first
  | (with_reducible refine qA rfl 184 rfl (il #[ii ip 0,ii ip 0,si none 0 0]) znd.toArray zD rfl ?_)
  | (refine zA (W:=B) rfl 184 (.tmp 13) (.tmp 36) rfl [ii ip (fA b),ii ip (b.first:Int),si a2 (li b.l) a4] rfl rfl rfl xB rfl aC ?_))
 intro c8 y x E;obtain⟨T,q⟩:=nm (B.heap.size);rw[<- q]at y⊢;have p:=lh (z.o.new1 x y (by omega));clear x y E q z;have q:decide (c.e≠0)=false:=by rw[HE.o];rfl
 have y:=lh q;clear q;go_wp2_with fail;refine(rN p.o.ch 0).mono ?_;rintro e c1 ⟨rfl,x,z,B⟩;rw[tS HE.o]at x⊢;rw[y.o];have q:=lh (p.o.call z (by simp) x);clear x z B p;go_wp2_with fail;refine(rN q.o.ch 0).mono ?_;rintro e a' ⟨rfl,x,z,B⟩;rw[tS HE.o]at x⊢;rw[y.o];have p:=lh (q.o.call z (by simp) x);clear x z B q;obtain⟨Q,U,V⟩:=tD (p.o.row' (Hi _)) (show 0<li n.l by omega);subst U;obtain⟨b3,b4,b5,Y,b0,b1,⟨B,q,y⟩,_,_⟩:=(p.o.its' (Hi _)).at_ HY.o;obtain⟨a5,a6,rfl⟩:∃A c,b3=si A (li O.key) c:=by obtain⟨A,c,_,h,_⟩:=q;exact⟨A,c,h⟩
 have z:=V _ _ Y;have x:=lh ((p.o.quiet ((jj [] a').drew)).key (v:=si a5 (li O.key) a6) (b:=O.key) ⟨B,q.fr ((jj [] a').drew),y⟩);clear V Y b0 b1 q y p;have B:=(x.o.loc _ (.tail _ (Hi _))).1.a 0;have E:=(x.o.loc _ (.tail _ (Hi _))).1.a 1;have F:=(x.o.loc _ (.tail _ (Hi _))).1.a 2;have f:=(x.o.loc _ (.tail _ (.tail _ (Hi _)))).1.a 2;have G:=(x.o.loc _ (Hi _)).1.a 0;have I:=(x.o.loc _ (Hi _)).1.a 1;have M:=(x.o.loc _ (Hi _)).1.a 2;obtain⟨m,p⟩:=nm (a.with_ O.key b);rw[<- p]at HW J;have b2:=lh p;clear p;go_upto_region 6 with fail
 apply tail4 (H:=λp15 Am cm W=>Hid (Sx wS w g bc bn bs D ((p15,184,[ii ip (fA m),ii ip (m.first:Int),si Am (li m.l) cm])::(p6,184,[ii ip (fA n),ii ip (n.first:Int),si (some ⟨Q,0,none⟩) (li n.l) r])::(p6+1,212,zup)::L) (⟨some ⟨Q,0,none⟩,r,n,cs⟩::N) (.nd (il #[ii ip (fA m),ii ip (m.first:Int),si Am (li m.l) cm]) m::Kl) c W))
 case main=>
  intro TAIL;refine aj (λW=>W.cell? ⟨S,0,none⟩=some (ii ip (fA a))/\W.cell? ⟨S,1,none⟩=some (ii ip (a.first:Int))/\W.cell? ⟨S,2,none⟩=some (si a0 (li a.l) a1)/\W.cell? ⟨p6,2,none⟩=some (si (some ⟨Q,0,none⟩) (li n.l) r)/\W.cell? ⟨Q,i*3,none⟩=some (si a5 (li O.key) a6)/\W.cell? ⟨T,0,none⟩=some (ii ip (fA b))/\W.cell? ⟨T,1,none⟩=some (ii ip (b.first:Int))/\W.cell? ⟨T,2,none⟩=some (si a2 (li b.l) a4)) [0,1,2,3,4,5,6,7,8] ?_;refine tks [0,1,2,3,4,5,6,7,8] ?_;iterate 9 (refine ac ⟨B,E,F,f,z,G,I,M⟩ ?_)
  refine tke ?_;refine jJ (i:=9) (j:=10) (some 56) (some 15) rfl rfl rfl rfl (by kernel_rfl) rfl rfl (λK hK=>?_) (λK hK=>?_)
  ·
   refine kA (l:=[.tmp 47,.tmp 54,.tmp 55]) rfl [il #[ii ip (fA a),ii ip (a.first:Int),si a0 (li a.l) a1],si a5 (li O.key) a6,il #[ii ip (fA b),ii ip (b.first:Int),si a2 (li b.l) a4]] rfl (aEK _) ((aNC (key:=O.key) (x.o.kn (n:=a) (by simp)) (x.o.kn (n:=b) (by simp)) (x.o.kb (b:=O.key) (by simp)).choose_spec.1 (x.o.kb (b:=O.key) (by simp)).choose_spec.2 f5.o (by have:=f6.o;omega) (by have:=f7.o;omega) x.o.offD).mono ?_);rintro e b6 ⟨b7,rfl,S,q⟩;rw[<- b2.o]at S;obtain⟨Am,cm,rfl,p⟩:=x.o.node_r q S;replace B:=aA q B;replace E:=aA q E;replace F:=aA q F;replace f:=aA q f;replace z:=aA q z;replace G:=aA q G;replace I:=aA q I;replace M:=aA q M;refine⟨_,rfl,hK _ _ (λ_=>⟨B,E,F,f,z,G,I,M⟩) ?_⟩;simp only[nrm];have y:=lh p;clear hK q S p;refine ag 10 λK hK=>gB 184 rfl (il #[ii ip 0,ii ip 0,si none 0 0]) znd zD rfl λa8 hb15 p Z=>?_;replace B:=aA p B;replace E:=aA p E;replace F:=aA p F;replace f:=aA p f;replace z:=aA p z;replace G:=aA p G;replace I:=aA p I;replace M:=aA p M;refine hK _ _ (λ_=>⟨B,E,F,f,z,G,I,M⟩) ?_;simp only[nrm];clear hK;obtain⟨p15,T⟩:=nm (b6.heap.size);rw[<- T]at hb15⊢;have S12:=lh (y.o.new1 p hb15 (uQ T.symm));clear hb15 p Z T;exact Z13
  ·
   refine gB 184 rfl (il #[ii ip 0,ii ip 0,si none 0 0]) znd zD rfl λa8 hb15 p Z=>?_;replace B:=aA p B;replace E:=aA p E;replace F:=aA p F;replace f:=aA p f;replace z:=aA p z;replace G:=aA p G;replace I:=aA p I;replace M:=aA p M;refine hK _ _ (λ_=>⟨B,E,F,f,z,G,I,M⟩) ?_;simp only[nrm];clear hK;obtain⟨p15,T⟩:=nm (a'.drew.heap.size);rw[<- T]at hb15⊢;have y:=lh (x.o.new1 p hb15 (uQ T.symm));clear hb15 p Z T;refine ag 9 λK hK=>kA (l:=[.tmp 47,.tmp 54,.tmp 55]) rfl [il #[ii ip (fA a),ii ip (a.first:Int),si a0 (li a.l) a1],si a5 (li O.key) a6,il #[ii ip (fA b),ii ip (b.first:Int),si a2 (li b.l) a4]] rfl (aEK _) ((aNC (key:=O.key) (y.o.kn (n:=a) (by simp)) (y.o.kn (n:=b) (by simp)) (y.o.kb (b:=O.key) (by simp)).choose_spec.1 (y.o.kb (b:=O.key) (by simp)).choose_spec.2 f5.o (by have:=f6.o;omega) (by have:=f7.o;omega) y.o.offD).mono ?_);rintro e b6 ⟨b7,rfl,S,q⟩;rw[<- b2.o]at S;obtain⟨Am,cm,rfl,O⟩:=y.o.node_r q S;replace B:=aA q B;replace E:=aA q E;replace F:=aA q F;replace f:=aA q f;replace z:=aA q z;replace G:=aA q G;replace I:=aA q I;replace M:=aA q M;refine⟨_,rfl,hK _ _ (λ_=>⟨B,E,F,f,z,G,I,M⟩) ?_⟩;simp only[nrm];have S12:=lh O;clear hK q S O;exact Z13
 intro p15 Am cm c9 y;clear x B E F f G I M z;have d0:=(y.o.loc _ (Hi _)).1.a 0;have d1:=(y.o.loc _ (Hi _)).1.a 1;have d2:=(y.o.loc _ (Hi _)).1.a 2;have x:li m.l<=65535:=by have:=J.o.few;omega
 have f:m.size<=65536:=by
  obtain⟨q,_⟩|⟨_,q,_⟩:=HW.o;·omega
  split at q<;>omega
 have⟨g1,j3⟩:=hh2 (aCN (y.o.kn (Hi _)) J.o f) f;clear x f;go_wp2_with fail;refine g1.o.mono ?_;rintro e c2 ⟨rfl,f⟩;have S12:=lh (y.o.quiet f);clear f y d0 d1 d2 g1;have d0:=(S12.o.loc _ (Hi _)).1.a 0;have d1:=(S12.o.loc _ (Hi _)).1.a 1;have d2:=(S12.o.loc _ (Hi _)).1.a 2;have c0:=wi i (by omega)
 obtain⟨I,M,z⟩|⟨I,a4,M,z⟩:=HW.o
 ·have b2:((m.size:Nat):Int)<=512:=by omega
  have E:=congrArg Prod.fst z;have F:=congrArg Prod.snd z;simp only at E F;subst E F;have⟨C,y⟩:=hh2 M (pM S12.o.ch (S12.o.kn (Hi _)) f8.o J.o I);clear M z I;go_wp2_with fail;refine y.o.mono ?_;rintro e a5 ⟨rfl,f,O⟩;have B:=lh (S12.o.call O (λa2 S=>by simp only[bB,kC,dC]at S;omega) f);clear f O y S12 d0 d1 d2;have f:=lh (aND B.o.ch (k:=n.child (i+1)) f9.o);go_wp2_with fail;refine f.o.mono ?_;rintro e R ⟨rfl,q,t⟩;have x:=lh ((B.o.call t (by simp) q).less (L':=_) (K':=Kl) (.cons _ (oC _)) (oC _) λk hk=>by simp[hk]);clear q t f B;have d2:=(x.o.loc _ (Hi _)).1.a 2;have G:=lh (aAu (x.o.row' (Hi _)) (x.o.its' (Hi _)).one (by have:=a7.o;omega) a9);go_wp2_with fail;refine G.o.mono ?_;rintro e a1 ⟨c3,rfl,T,a0,a6⟩;obtain⟨A',a3,rfl,a'⟩:=x.o.del a9 T a0 a6;have q:=lh a';have b6:=(q.o.loc _ (Hi _)).1.a 2;have b7:=(q.o.loc _ (Hi _)).1.free 2;have b8:=(q.o.loc _ (Hi _)).1.lt;have f:=lh (q.o.set_ (cs:=[ii ip (fA n),ii ip (n.first:Int),si A' (li n.l-1) a3]) ((jj [p6] a1).setCell (Ii (by simp)) _) ((q.o.loc _ (Hi _)).1.set_ 2 (si A' (li n.l-1) a3)));clear x a' q T a0 a6 G d2;have G:li (dH n.l i)=li n.l-1:=aBK _ a9;go_upto_region 15 with fail;generalize a1.setCell ⟨p6,2,none⟩ (si A' (li n.l-1) a3)=a8 at *;clear b6 b7 b8;have T:Hid (NdV _ a8 w.heap.size (il #[ii ip (fA n),ii ip (n.first:Int),si A' (li n.l-1) a3]) { n with l:=dH n.l i }):=lh (by have:=f.o.give.2.1;simp only[G]at this;exact this);have a0:=lh (HP.o.to (c':=(c.write (n.child i) m).free (n.child (i+1))) ⟨rfl,rfl⟩);clear G;have d0:=(f.o.loc _ (Hi _)).1.a 0;have d1:=(f.o.loc _ (Hi _)).1.a 1;have d2:=(f.o.loc _ (Hi _)).1.a 2;have HLA:=lh (aBJ a0.o f.o.give.1 T.o C.o.k C.o.ok C.o.size C.o.e C.o.head f.o.give.2.2);go_wp2_with fail;refine HLA.o.mono ?_;rintro e b6 ⟨b7,rfl,huv,hcl,hfl⟩;obtain⟨Au,cu,rfl,hbu⟩:=huv.open_;have SL:=lh ((((f.o.less (N':=N) (K':=Kl) (oC _) (aBn ..) λk hk=>by simp[hk]).call hfl (by simp) hcl).key hbu).perm (List.Perm.swap _ _ _));exact Z62
 ·have b2:¬ ((m.size:Nat):Int)<=512:=by omega
  have E:=congrArg Prod.fst z;have F:=congrArg Prod.snd z;simp only at E F;subst E F;obtain⟨E,F,a6,a9,b8,b9,a',b2⟩:=Nd.split_ok J.o I a4;have⟨C,g3,j8,j9,j',k0⟩:=hh6 M (aJJ (S12.o.kn (Hi _)) J.o j3.o F E S12.o.offD) a6 a9 a' b2;clear M z I a4 E F a6 a9 b8 b9 a' b2;go_upto_region 11 with fail;refine sB ?_;refine ab ?_;refine lp λK hK=>kA (l:=[.tmp 75]) rfl [il #[ii ip (fA m),ii ip (m.first:Int),si Am (li m.l) cm]] rfl (aCs _) (g3.o.mono ?_);rintro e a5 ⟨b8,a4,b9,rfl,z,E,F,O⟩;obtain⟨a6,a9,c4,rfl,_⟩:=z.open_;obtain⟨a',b2,c5,rfl,_⟩:=F.open_;obtain⟨I,M,rfl⟩:∃A c,a4=si A (li m.key) c:=by obtain⟨a2,⟨A,c,_,h,_⟩,_⟩:=E;exact⟨A,c,h⟩
  have B:=lh (((((S12.o.quiet O).nd z).key E).nd F).less (L':=_) (.cons _ (oC _)) (oC _) λ_ h=>h);refine⟨_,rfl,hK _ _ ?_⟩;simp only[nrm];clear hK z E F O g3 S12 d0 d1 d2;iterate 4 (refine ab ?_)
  refine lp λK hK=>gB 184 rfl (il #[ii ip 0,ii ip 0,si none 0 0]) znd zD rfl λR E t F=>hK _ _ ?_;simp only[nrm];clear hK;obtain⟨O,z⟩:=nm (a5.heap.size);rw[<- z]at E⊢;have x:=lh (B.o.new1 t E (uQ z.symm));clear E t F z B;refine lp λK hK=>gB 184 rfl (il #[ii ip 0,ii ip 0,si none 0 0]) znd zD rfl λa1 z B E=>hK _ _ ?_;simp only[nrm];clear hK;obtain⟨F,t⟩:=nm (R.heap.size);rw[<- t]at z⊢;have q:=lh ((x.o.new1 B z (uQ t.symm)).perm (List.Perm.swap _ _ _));clear z B E t x;have hb16:=(q.o.loc _ (Hi _)).1;refine lp λK hK=>pA 184 (.tmp 16) (.tmp 77) rfl [ii ip (fA m.left),ii ip (m.left.first:Int),si a6 (li m.left.l) a9] rfl rfl hb16 xB rfl aC λa8 hb15 p Z=>hK _ _ ?_;simp only[Act.put];clear hK;have f:=lh ((q.o.set_ p hb15).perm (List.Perm.swap _ _ _));clear q hb16 hb15 p Z;refine ab ?_;have q:=(f.o.loc _ (Hi _)).1;refine lp λK hK=>pA 184 (.tmp 18) (.tmp 79) rfl [ii ip (fA m.right),ii ip (m.right.first:Int),si a' (li m.right.l) b2] rfl rfl q xB rfl aC λw16 hb16 hf16 hz16=>hK _ _ ?_;simp only[Act.put];clear hK;have p:=lh ((f.o.set_ hf16 hb16).perm (List.Perm.swap _ _ _));clear f q hb16 hf16 hz16;refine wB ?_;have d0:=(p.o.loc _ (Hi _)).1.a 0;have d1:=(p.o.loc _ (Hi _)).1.a 1;have d2:=(p.o.loc _ (Hi _)).1.a 2;have y:=lh (pM p.o.ch (p.o.kn (n:=m.left) (.tail _ (.tail _ (Hi _)))) f8.o j'.o j8.o);go_wp2_with fail;refine y.o.mono ?_;rintro e z ⟨rfl,f,t⟩;have q:=lh ((p.o.call t (λa2 S=>by simp only[bB,kC,dC]at S;omega) f).less (L':=_) (.cons _ (oC _)) (oC _) λ_ h=>h);clear f t y p d0 d1 d2;have d0:=(q.o.loc _ (Hi _)).1.a 0;have d1:=(q.o.loc _ (Hi _)).1.a 1;have d2:=(q.o.loc _ (Hi _)).1.a 2;have y:=lh (pM q.o.ch (q.o.kn (n:=m.right) (Hi _)) (k:=n.child (i+1)) f9.o k0.o j9.o);go_wp2_with fail;refine y.o.mono ?_;rintro e x ⟨rfl,p,t⟩;have f:=lh ((q.o.call t (λa2 S=>by simp only[bB,kC,dC]at S;omega) p).less (L':=_) (.cons _ (oC _)) (oC _) λ_ h=>h);clear p t y q d0 d1 d2;have d2:=(f.o.loc _ (Hi _)).1.a 2;obtain⟨p,U,V⟩:=tD (f.o.row' (Hi _)) (show 0<li n.l by omega);obtain rfl:Q=p:=by injection U with U;injection U
  clear U;obtain⟨b3,b4,b5,Y,b0,b1,_⟩:=(f.o.its' (Hi _)).at_ HY.o;have q:=V _ _ Y;have t:=World.ownsRow.frozenAt (f.o.row' (Hi _)) (i*3);have p:=lh ((f.o.cell (j:=i*3) (u:=si I (li m.key) M) (l':=xO n.l i m.key) (aGe _ _ _) ((f.o.its' (Hi _)).setK (vv:=b4) (av:=b5) HY.o (f.o.kb (b:=m.key) (.tail _ (Hi _))))).less (K':=Kl) (oC _) (oC _) λk hk=>by simp[hk]);have G:li (xO n.l i m.key)=li n.l:=aGe _ _ _;clear V Y b0 b1;go_upto_region 15 with fail;generalize x.setCell ⟨Q,i*3,none⟩ (si I (li m.key) M)=x at *;clear f q t d2;have T:Hid (NdV _ x w.heap.size (il #[ii ip (fA n),ii ip (n.first:Int),si (some ⟨Q,0,none⟩) (li n.l) r]) { n with l:=xO n.l i m.key }):=lh (by have:=p.o.give.2.1;simp only[G]at this;exact this);have a0:=lh (HP.o.to (c':=(c.write (n.child i) m.left).write (n.child (i+1)) m.right) ⟨rfl,rfl⟩);clear G;have d0:=(p.o.loc _ (Hi _)).1.a 0;have d1:=(p.o.loc _ (Hi _)).1.a 1;have d2:=(p.o.loc _ (Hi _)).1.a 2;have HLA:=lh (aBJ a0.o p.o.give.1 T.o C.o.k C.o.ok C.o.size C.o.e C.o.head p.o.give.2.2);go_wp2_with fail;refine HLA.o.mono ?_;rintro e b6 ⟨b7,rfl,huv,hcl,hfl⟩;obtain⟨Au,cu,rfl,hbu⟩:=huv.open_;have SL:=lh ((((p.o.less (N':=N) (K':=Kl) (oC _) (aBn ..) λk hk=>by simp[hk]).call hfl (by simp) hcl).key hbu).perm (List.Perm.swap _ _ _));exact Z62
end
theorem aRg(c:CD):c.fail 0=c:=by
 unfold CD.fail;split;·rename_i b;cases c;simp only at b;rw[b]
 rfl
theorem bU{P:Program}{b:Func}{tmps:Array Value}{w:World}{k c:Tmp}{t t':TypeId}{g:Nat}{cs:List Value}{d:TypeDesc}(hr:b.results=#[.tmp c,.cell k t])(ha:tmps.getD k undef=pi g)(hb:Blk w g t' cs) (hu:P.underlying t=some d)(f:d.isRow=true)(hi:(P.info? t).map (·.size)=some (li cs)):(results b tmps).run P w=.ok (tl #[tmps.getD c undef,il cs.toArray]) w:=by exact Z16
section
variable {w0 wS w w1:World}{dk g bc bn bs:Nat}{s:PS}{X D:Nat->Prop}{L:List LB}{N:List NP}{Kl:List Kq}{c c':CD}
theorem Z15{P:Prop} (h:P:=by
 go_wp2_with (refine gE rfl 212 (.tmp 10) (.tmp 54) rfl [.slice none 0 0,.int .i64 0] rfl rfl HBR.o dD rfl rE ?_)
 intro we hbe hfe hze;have HX:=lh (HQ.o _ _ ⟨none,0,rfl,(((SL.o.set_ hfe hbe).less (L':=L) (.cons _ (oC _)) (oC _) fun _ h=>h).key (Sx.nil_key ((SL.o.set_ hfe hbe).less (L':=L) (.cons _ (oC _)) (oC _) fun _ h=>h)))⟩);have HBE:=lh hbe;clear hbe hfe hze;go_wp2_with fail;exact cI (g:=p7+2) (t':=212) (cs:=[.slice none 0 0,.int .i64 0]) (d:=_) rfl rfl HBE.o Go.Proofs.Tryz.underlying212 rfl dD HX.o):P:=h
theorem aTe{A t:Option Addr}{n:Nd}{cs:List Value}{k i:Nat}{u C:Ky×Nat}(T:PgC w0 wS dk g s X c)(h:Sx wS w g bc bn bs D L (⟨A,j,n,cs⟩::N) (.by_ (si t (li u.1) m) u.1::Kl) c w1)(q:aNF c k n i u c' C): Calls prog 158 #[pi (some ⟨bc,0,none⟩),ii ip (k:Int),il #[ii ip (fA n),ii ip (n.first:Int),si A (li n.l) j],ii ip (i:Int),il #[si t (li u.1) m,ii ip ((u.2:Nat):Int)]] w1 λe w'=>
   ∃y b,e=iz (il #[si y (li C.1) b,ii ip ((C.2:Nat):Int)])/\Sx wS w g bc bn bs D L N (.by_ (si y (li C.1) b) C.1::Kl) c' w':=by
 obtain⟨Q,S,J,q⟩:=q;have E:=pF S;obtain⟨v,G⟩:=nm (((w1.alloc (iy #[ii ip (fA n),ii ip (n.first:Int),si A (li n.l) j] 184)).alloc (iy #[si t (li u.1) m,ii ip ((u.2:Nat):Int)] 212)).alloc (iy zup.toArray 212));have F:Fr [] w1 v:=by rw[G];exact(((jj [] w1).alloc _).alloc _).alloc _
 obtain⟨p7,I⟩:=nm (w1.heap.size);have H:Blk v p7 184 [ii ip (fA n),ii ip (n.first:Int),si A (li n.l) j]:=by rw[G,I];exact((jl w1 _ [ii ip (fA n),ii ip (n.first:Int),si A (li n.l) j]).alloc _).alloc _
 have M:Blk v (p7+1) 212 [si t (li u.1) m,ii ip ((u.2:Nat):Int)]:=by rw[G,I];have:=(jl (w1.alloc (iy #[ii ip (fA n),ii ip (n.first:Int),si A (li n.l) j] 184)) 212 [si t (li u.1) m,ii ip ((u.2:Nat):Int)]).alloc (iy zup.toArray 212);rwa [qB]at this
 have O:Blk v (p7+2) 212 zup:=by rw[G,I];have:=jl ((w1.alloc (iy #[ii ip (fA n),ii ip (n.first:Int),si A (li n.l) j] 184)).alloc (iy #[si t (li u.1) m,ii ip ((u.2:Nat):Int)] 212)) 212 zup;rwa [qB,qB]at this
 have f:=lh (h.new (L':=[(p7,184,[ii ip (fA n),ii ip (n.first:Int),si A (li n.l) j]),(p7+1,212,[si t (li u.1) m,ii ip ((u.2:Nat):Int)]),(p7+2,212,zup)]) F (λl p=>by
  obtain rfl|p:=bB.1 p;·exact⟨H,by simp only;omega⟩
  obtain rfl|p:=bB.1 p;·exact⟨M,by simp only;omega⟩
  obtain rfl:=xA.1 p;exact⟨O,by simp only;omega⟩) (by simp))
 have⟨HP,r,g0⟩:=hh3 T E Q;clear h F H M O T Q S E;refine cA λa9 HQ=>?_;obtain⟨M,Q,p⟩|⟨M,x,O,U⟩:=q
 ·have q:=congrArg Prod.fst p;have E:=congrArg Prod.snd p;simp only at q E;subst q E;have⟨z,b3⟩:=hh2 Q M;have a6:¬ ((u.2:Nat):Int)=0:=by omega
  have F:li (xI n.l i ⟨u.1,[],u.2⟩)=li n.l+1:=bX _ _ J;have H:i<=li n.l:=J;clear Q p M J;go_enter func158,ntmps158;go_upto_region 1 with (with_reducible refine qA rfl 212 rfl (il #[si none 0 0,ii ip 0]) zup.toArray qM rfl ?_);rw[<- G];rw[qB,qB,<- I];clear G I;have v0:=(f.o.loc _ (.tail _ (Hi _))).1.a 0;have v1:=(f.o.loc _ (.tail _ (Hi _))).1.a 1;have p:=(f.o.loc _ (Hi _)).1.a 2;go_upto_region 2 with fail;refine sB ?_;iterate 9 (refine ab ?_)
  refine lp λK hK=>?_;obtain⟨a7,V,Y,Z,a5⟩:=fF vK;refine qC (.tmp 24) rfl qJ V Y [si t (li u.1) m,si none 0 0,ii ip ((u.2:Nat):Int)] rfl Z rfl (by simp) (by simp) (hK _ _ ?_);clear hK;simp only[nrm];obtain⟨q,E⟩:=nm (v.alloc (iy ([si t (li u.1) m,si none 0 0,ii ip ((u.2:Nat):Int)]:List Value).toArray 198));rw[<- E];have Q:Fr [] v q:=by rw[E];exact(jj [] v).alloc _
  have S:Blk q v.heap.size 198 [si t (li u.1) m,si none 0 0,ii ip ((u.2:Nat):Int)]:=by rw[E];exact jl v _ [si t (li u.1) m,si none 0 0,ii ip ((u.2:Nat):Int)]
  have q:=lh (f.o.quiet Q);clear E;refine lp λK hK=>kA (l:=[.tmp 17,.tmp 18,.tmp 25]) rfl [si A (li n.l) j,ii ip ((i:Nat):Int),si (some ⟨v.heap.size,0,none⟩) 1 1] rfl (aU _) ((yT (q.o.row' (Hi _)) (q.o.its' (Hi _)).one (by have:=r.o;omega) H q.o.fr.size S dZ rfl (λe=>by have:=(f.o.own' (Hi _) _ e).2;omega)).mono ?_);rintro e E ⟨a8,rfl,R,a1,a2⟩;obtain⟨y,b,rfl,a3⟩:=q.o.ins H (x:=⟨u.1,[],u.2⟩) (q.o.kb (Hi _)) (q.o.nil_key) rfl R a1 a2;refine⟨_,rfl,hK _ _ ?_⟩;clear hK;simp only[nrm];have v:=lh a3;have H:=(v.o.loc _ (Hi _)).1.a 2;have a4:=(v.o.loc _ (Hi _)).1.free 2;refine ab ?_;refine lp λK hK=>rB (w':=E.setCell ⟨p7,2,none⟩ (si y (li n.l+1) b)) (by go_simp) (hK _ _ ?_);clear hK;simp only[Act.put];refine wB ?_;have T:=lh (v.o.set_ (cs:=[ii ip (fA n),ii ip (n.first:Int),si y (li n.l+1) b]) ((jj [p7] E).setCell (Ii (by simp)) _) ((v.o.loc _ (Hi _)).1.set_ 2 (si y (li n.l+1) b)));clear H a4 v a3 R a1 a2 Q S;generalize E.setCell ⟨p7,2,none⟩ (si y (li n.l+1) b)=E at *;clear v0 v1 p f q V Y Z a5;have H:=lh (T.o.less (L':=_) (K':=Kl) (.cons_cons _ (.cons _ (oC _))) (oC _) λk v=>by simp[v]);have S:Hid (NdV _ E w.heap.size (il #[ii ip (fA n),ii ip (n.first:Int),si y (li n.l+1) b]) { n with l:=xI n.l i ⟨u.1,[],u.2⟩ }):=lh (by have:=H.o.give.2.1;simp only[F]at this;exact this);clear T F;have E:=(H.o.loc _ (Hi _)).1.a 0;have F:=(H.o.loc _ (Hi _)).1.a 1;have p:=(H.o.loc _ (Hi _)).1.a 2;have Q:=lh (aBJ HP.o H.o.give.1 S.o z.o.k z.o.ok z.o.size z.o.e z.o.head H.o.give.2.2);go_wp2_with fail;refine Q.o.mono ?_;rintro e Z ⟨R,rfl,S,T,V⟩;obtain⟨t,m,rfl,Y⟩:=S.open_;have SL:=lh ((((H.o.less (N':=N) (K':=Kl) (oC _) (aBn ..) λk v=>by simp[v]).call V (by simp) T).key Y).perm (List.Perm.swap _ _ _));have HBR:=lh (SL.o.loc _ (Hi _)).1;clear Y V S T E F p Q;go_wp2_with (refine gE rfl 212 (.tmp 10) (.tmp 31) rfl [si t _ m,ii ip _] rfl rfl HBR.o dD rfl rE ?_);intro we hbe hfe hze;have⟨HX,HBE⟩:=hh2 (HQ.o _ _ ⟨_,_,rfl,(SL.o.set_ hfe hbe).less (L':=L) (.cons _ (.cons _ (oC _))) (oC _) λ_ h=>h⟩) hbe;clear hbe hfe hze;go_wp2_with fail;exact cI (g:=p7+2) (t':=212) (cs:=[si t _ m,ii ip _]) (d:=_) rfl rfl HBE.o Go.Proofs.Tryz.underlying212 rfl dD HX.o
 ·obtain⟨S,H,Q⟩:=f.o.ch.wf.N_ok O;have⟨b3,f1,B,b8,b9,a0⟩:=hh6 M O U H Q J;clear O U H Q S J M;go_enter func158,ntmps158;go_upto_region 1 with (with_reducible refine qA rfl 212 rfl (il #[si none 0 0,ii ip 0]) zup.toArray qM rfl ?_);rw[<- G];rw[qB,qB,<- I];clear G I;have v1:=(f.o.loc _ (.tail _ (Hi _))).1.a 1;simp only at v1;rw[show((u.2:Nat):Int)=0 by have:=b3.o;omega]at v1;have E:=(f.o.loc _ (Hi _)).1.a 0;have F:=(f.o.loc _ (Hi _)).1.a 1;have p:=(f.o.loc _ (Hi _)).1.a 2;have H:=lh (zN (f.o.bytes (Hi _)) a0.o (by have:=r.o;omega));go_wp2_with fail;refine H.o.mono ?_;rintro e V ⟨rfl,I⟩;have G:=lh (f.o.quiet I);clear I f v1 E F p H;have f:=lh (jP HP.o G.o.ch f1.o G.o.offD);go_wp2_with fail;refine f.o.mono ?_;rintro e I ⟨Y,rfl,J,M⟩;obtain⟨Q,S,rfl,O⟩:=G.o.node_r M J;have H:=lh O;clear J M O G f;go_wp2_with (first
   | (with_reducible refine qA rfl 184 rfl (il #[ii ip 0,ii ip 0,si none 0 0]) znd.toArray zD rfl ?_)
   | (refine zA (W:=I) rfl 184 (.tmp 11) (.tmp 38) rfl [ii ip (fA x),ii ip (x.first:Int),si Q (li x.l) S] rfl rfl rfl xB rfl aC ?_))
  intro a4 f M O;obtain⟨a1,J⟩:=nm (I.heap.size);rw[<- J]at f⊢;have G:=lh (H.o.new1 M f (by omega));clear M f O J H;go_wp2_with fail;refine(rN G.o.ch 0).mono ?_;rintro e a2 ⟨rfl,H,I,J⟩;rw[aRg]at H⊢;have f:=lh (G.o.call I (by simp) H);clear H I J G;have SL:=lh (((f.o.less (L':=_) (N':=N) (K':=Kl) (.cons _ (.cons _ (.cons _ (oC _)))) (aBn ..) λk v=>by simp[v])));have HBR:=lh (SL.o.loc _ (Hi _)).1;have E:=(f.o.loc _ (Hi _)).1.a 0;have F:=(f.o.loc _ (Hi _)).1.a 1;have p:=(f.o.loc _ (Hi _)).1.a 2;by_cases H:c.e≠0
  ·have I:Hid (c'=c/\C=([],0)):=lh (by
    obtain⟨_,G,J⟩|⟨G,_⟩:=B.o;·exact⟨G,J⟩
    exact absurd G H)
   obtain⟨rfl,rfl⟩:=I.o;have G:decide (c'.e≠0)=true:=(by simpa using H);rw[G];clear H G E F p;exact Z15
  have I:c.e=0:=(by omega);have M:=lh I;have G:decide (c.e≠0)=false:=(by rw[I];rfl);rw[G];clear H I G;have J:=(f.o.loc _ (Hi _)).1.a 0;have H:=lh (aCN (f.o.kn (Hi _)) b8.o (by have:=b9.o;omega));go_wp2_with fail;refine H.o.mono ?_;rintro e a3 ⟨rfl,I⟩;have G:=lh (f.o.quiet I);have SL:=lh (((G.o.less (L':=_) (N':=N) (K':=Kl) (.cons _ (.cons _ (.cons _ (oC _)))) (aBn ..) λk v=>by simp[v])));have HBR:=lh (SL.o.loc _ (Hi _)).1;clear I f E F p J H;have E:=(G.o.loc _ (.tail _ (Hi _))).1.a 0;have F:=(G.o.loc _ (.tail _ (Hi _))).1.a 1;have p:=(G.o.loc _ (.tail _ (Hi _))).1.a 2;obtain⟨H,rfl,rfl⟩|⟨_,I,J,Q⟩:=B.o
  ·by_cases I:170<=x.size
   case' pos=>have O:(170:Int)<=((x.size:Nat):Int):=(by omega);clear H
   case' neg=>
    have O:¬ (170:Int)<=((x.size:Nat):Int):=(by omega);have f:li n.l=0:=by
     obtain h|h|h:=H;·exact absurd M.o h
     ·exact absurd h I
     rw[h];rfl
    simp only at p;rw[f]at p;clear H f
   all_goals exact Z15
  have O:¬ (170:Int)<=((x.size:Nat):Int):=(by omega);have f:¬ ((li n.l:Nat):Int)=0:=by
   have:0<li n.l:=by cases f:n.l with|nil=>exact absurd f J|cons=>simp
   omega
  have f:=lh (aTd HP.o (G.o.less (L':=_) (N':=_) (K':=Kl) (oC _) (oC _) λk v=>by simp[v]) Q M.o r.o);have H:max (0:Int) ((i:Int)-1)=((i-1:Nat):Int):=(by omega);have M:Wi ip ((i:Int)-1)=(i:Int)-1:=(by rw[yB];have:=a0.o;have:=r.o;omega);have O:¬ li n.l=0:=(by omega);have S:¬ n.l=[]:=J;have T:¬ 170<=x.size:=(by omega);have U:(((li n.l:Nat):Int)==0)=false:=(by rw[lE];omega);clear I J Q SL HBR;go_wp2_with fail;refine f.o.mono ?_;rintro e I ⟨y,b,rfl,v⟩;have q:=lh (v.less (L':=(p7+2,_,_)::L) (.cons _ (.cons _ (.cons _ (oC _)))) (oC _) λ_ h=>h);have HBR:=lh (q.o.loc _ (Hi _)).1;clear v f E F p G;go_wp2_with (refine gE rfl 212 (.tmp 10) (.tmp 61) rfl [si y (li C.1) b,ii ip ((C.2:Nat):Int)] rfl rfl HBR.o dD rfl rE ?_);intro we hbe hfe hze;have⟨HX,HBE⟩:=hh2 (HQ.o _ _ ⟨y,b,rfl,(q.o.set_ hfe hbe).less (L':=L) (.cons _ (oC _)) (oC _) λ_ h=>h⟩) hbe;clear hbe hfe hze;go_wp2_with fail;exact cI (g:=p7+2) (t':=212) (cs:=[si y (li C.1) b,ii ip ((C.2:Nat):Int)]) (d:=_) rfl rfl HBE.o Go.Proofs.Tryz.underlying212 rfl dD HX.o
end
structure aIf (w0 wS:World) (dk g bc bn bs:Nat) (s:PS) (X:Nat->Prop) (f:Nat):Prop where
 go:∀ {c c':CD} {k deep:Nat} {key:Ky} {is:Bool} {u:Ky×Nat} {w:World} {kv:Value} {D:Nat->Prop},f+deep=40->aMn f c k key c' is u->PgC w0 wS dk g s X c->jF wS w g bc bn bs D c ->
  (∃q,dA w kv key q/\D q)->(∀q,w.heap.size<=q->D q) ->
  Calls prog 123 #[.pointer (some ⟨bc,0,none⟩),.int .i64 (k:Int),kv,.int .i64 (deep:Int)] w fun e w'=>∃uv,e=.returned (.tuple #[.bool is,uv])/\UpV D w' uv u/\jF wS w' g bc bn bs D c'/\Fr [bc,bn,bs] w w'
section
variable {w0 wS w:World}{dk g bc bn bs:Nat}{s:PS}{X D:Nat->Prop}{c:CD}
theorem Z19{P:Prop} (h:P:=by
 intro we hbe hfe hze;have HX:=lh (HQ.o _ _ ⟨_,rfl,(SL.o.set_ hfe hbe).upv0⟩);have HBE:=lh hbe;clear hbe hfe hze;go_wp2_with fail;exact qD (bU rfl rfl HBE.o Go.Proofs.Tryz.underlying212 rfl dD) rfl HX.o):P:=h
theorem aRh{f:Nat}(V:aIf w0 wS dk g bc bn bs s X f):aIf w0 wS dk g bc bn bs s X (f+1):=by
 constructor;intro d a7 a8 deep m a9 G w i u U j C h p A;obtain⟨b,n,D,y,j⟩:=j;obtain⟨J,B,z⟩:=h.wf.N_ok n;have v:=pF z;obtain⟨L,M,rfl⟩:∃c d,i=si c (li m) d:=by obtain⟨q,⟨c,d,_,h,_⟩,_⟩:=p;exact⟨c,d,h⟩
 obtain⟨i,k⟩:=nm (w.alloc (iy zup.toArray 212));have r:Fr [] w i:=by rw[k];exact(jj [] w).alloc _
 have t:Blk i w.heap.size 212 zup:=by rw[k];exact jl w _ zup
 have x:∀q,u q->Off u [] [] q:=λq u=>⟨u,λ_ h=>by simp at h,λ_ h=>by simp at h⟩;have i:=lh (((Sx.start h A).key (p.imp λq u=>⟨u.1,x q u.2⟩)).new1 r t (tA _));have⟨a3,HW⟩:=hh2 (jP C i.o.ch n i.o.offD) j;clear x h p r t j B n A z;have Y:¬ ((deep:Nat):Int)=40:=by omega
 refine cA λb0 HQ=>?_;go_enter func123,ntmps123;go_upto_region 1 with (with_reducible refine qA rfl 212 rfl (il #[si none 0 0,ii ip 0]) zup.toArray qM rfl ?_);rw[<- k];clear k;go_wp2_with fail;refine a3.o.mono ?_;rintro e j ⟨a0,rfl,k,n⟩;obtain⟨c,p,cs,rfl,a1,r⟩:=i.o.node n (tA _) k;clear k n i a3;go_wp2_with (first
  | (with_reducible refine qA rfl 184 rfl (il #[ii ip 0,ii ip 0,si none 0 0]) znd.toArray zD rfl ?_)
  | (refine zA (W:=j) rfl 184 (.tmp 10) (.tmp 21) rfl [ii ip (fA b),ii ip (b.first:Int),si c (li b.l) p] rfl rfl rfl xB rfl aC ?_))
 intro a' c n p;obtain⟨z,k⟩:=nm (j.heap.size);rw[<- k]at c⊢;have i:=lh (r.new1 n c (by omega));clear n c p k;go_wp2_with fail;refine(rN i.o.ch 0).mono ?_;rintro e a2 ⟨rfl,j,n,p⟩;rw[tS y]at j⊢;have k:decide (d.e≠0)=false:=by rw[y];rfl
 rw[k];have c:=lh (i.o.call n (by simp) j);clear j n p i k;have n:=(c.o.loc _ (Hi _)).1.a 0;have p:=(c.o.loc _ (Hi _)).1.a 1;have j:=(c.o.loc _ (Hi _)).1.a 2;go_wp2_with fail;refine(aAv b).mono ?_;rintro e a4 ⟨rfl,d⟩;have k:=lh (c.o.quiet d);clear d c n p j;have n:=(k.o.loc _ (Hi _)).1.a 0;have p:=(k.o.loc _ (Hi _)).1.a 1;have j:=(k.o.loc _ (Hi _)).1.a 2;obtain⟨a5,E,_⟩:=k.o.kb (Hi _);cases H:b.lf with
 | true=>
  obtain⟨-,rfl,rfl,d⟩|⟨F,_⟩:=HW.o
  ·have c:=lh (aEC (k.o.bytes (Hi _)) E D (by have:=v;omega));go_wp2_with fail;refine c.o.mono ?_;rintro e N ⟨rfl,B⟩;have c:=lh (k.o.quiet B);obtain⟨x,rfl,O,Q⟩|⟨x,rfl⟩:=d
   ·have d:=aIe x;have Z:Wi ip (((lB b.l m:Nat):Int)+1)=((lB b.l m:Nat):Int)+1:=(by rw[yB];have:=v;omega);have j:=(c.o.loc _ (Hi _)).1.a 2;have i:=lh (aAu (c.o.row' (Hi _)) (c.o.its' (Hi _)).one (by have:=v;omega) d);have I:li (dH b.l (lB b.l m))=li b.l-1:=aBK _ d;rw[x]at HQ⊢;go_wp2_with fail;refine i.o.mono ?_;rintro e y ⟨a6,rfl,i,A,S⟩;obtain⟨r,t,rfl,T⟩:=c.o.del d i A S;have d:=lh T;have S:=(d.o.loc _ (Hi _)).1.a 2;have T:=(d.o.loc _ (Hi _)).1.free 2;have R:=(d.o.loc _ (Hi _)).1.lt;have i:=lh (d.o.set_ (cs:=[ii ip (fA b),ii ip (b.first:Int),si r (li b.l-1) t]) ((jj [z] y).setCell (Ii (by simp)) _) ((d.o.loc _ (Hi _)).1.set_ 2 (si r (li b.l-1) t)));go_upto_region 10 with fail;generalize y.setCell ⟨z,2,none⟩ (si r (li b.l-1) t)=A at *;have z:Hid (NdV _ A w.heap.size (il #[ii ip (fA b),ii ip (b.first:Int),si r (li b.l-1) t]) { b with l:=dH b.l (lB b.l m) }):=lh (by
     have:=i.o.give.2.1;simp only[I]at this;exact this)
    have n:=(i.o.loc _ (Hi _)).1.a 0;have p:=(i.o.loc _ (Hi _)).1.a 1;have j:=(i.o.loc _ (Hi _)).1.a 2;have I:=lh (pM i.o.give.1 z.o J O Q);go_wp2_with fail;refine I.o.mono ?_;rintro e I ⟨rfl,J,z⟩;have SL:=lh (((i.o.less (N':=[]) (oC _) (dQ _) λ_ h=>h).call z (λq u=>by simp only[bB,kC,dC]at u;omega) J).less (L':=_) (.cons _ (oC _)) (oC _) λ_ h=>h);have q:=lh (SL.o.loc _ (Hi _)).1;go_wp2_with (refine gE rfl 212 (.tmp 9) (.tmp 54) rfl [si none 0 0,ii ip 0] rfl rfl q.o dD rfl rE ?_);exact Z19
   have SL:=lh (c.o.less (L':=_) (.cons _ (oC _)) (oC _) λ_ h=>h);rw[x]at HQ⊢;have q:=lh (SL.o.loc _ (Hi _)).1;go_wp2_with (refine gE rfl 212 (.tmp 9) (.tmp 54) rfl [si none 0 0,ii ip 0] rfl rfl q.o dD rfl rE ?_);exact Z19
  rw[H]at F;cases F
 | false=>
  obtain⟨u,_⟩|⟨-,J,O,u1,x,F⟩:=HW.o;·rw[H]at u;cases u
  have⟨b1,e7⟩:=hh2 (aIa (k.o.bytes (Hi _)) E D (by have:=v;omega)) (C.to x.same);go_wp2_with fail;refine b1.o.mono ?_;rintro e N ⟨rfl,B⟩;have c:=lh (k.o.quiet B);have n:=(c.o.loc _ (Hi _)).1.a 0;have p:=(c.o.loc _ (Hi _)).1.a 1;have j:=(c.o.loc _ (Hi _)).1.a 2;have B:=wi deep (by omega);have k:=lh (zN (c.o.bytes (Hi _)) (cZ b m) (by have:=v;omega));go_wp2_with fail;refine k.o.mono ?_;rintro e y ⟨rfl,u⟩;have d:=lh (c.o.quiet u);clear u k n p j c;have c:Hid (Calls prog 123 #[pi (some ⟨bc,0,none⟩),ii ip ((b.child (b.way m):Nat):Int),si L (li m) M,ii ip ((deep:Int)+1)] y _):=lh (V.go (deep:=deep+1) (by have:=U;omega) x C d.o.ch (d.o.kb (Hi _)) d.o.offD);go_wp2_with fail;refine c.o.mono ?_;rintro e A ⟨y,rfl,b,k,m⟩;obtain⟨v,x,rfl,u⟩:=b.open_;have i:=lh ((d.o.call m (by simp) k).key u);clear u b k m d c B;go_wp2_with (first
   | (with_reducible refine qA rfl 212 rfl (il #[si none 0 0,ii ip 0]) zup.toArray qM rfl ?_)
   | (refine zA (W:=A) rfl 212 (.tmp 16) (.tmp 68) rfl [si v (li u1.1) x,ii ip ((u1.2:Nat):Int)] rfl rfl rfl dD rfl rE ?_))
  intro I c z k;obtain⟨m,d⟩:=nm (A.heap.size);rw[<- d]at c⊢;have b:=lh (i.o.new1 z c (by omega));clear z c k d i;obtain⟨rfl,rfl,rfl,rfl⟩|⟨rfl,rfl,d⟩:=F;·have SL:=lh (b.o.less (L':=_) (.cons _ (.cons _ (oC _))) (oC _) λ_ h=>h);clear b;have q:=lh (SL.o.loc _ (Hi _)).1;go_wp2_with (refine gE rfl 212 (.tmp 9) (.tmp 71) rfl [si none 0 0,ii ip 0] rfl rfl q.o dD rfl rE ?_);exact Z19
  have c:=lh (aTe e7.o b.o d);have v0:=(b.o.loc _ (Hi _)).1.a 0;have v1:=(b.o.loc _ (Hi _)).1.a 1;have n:=(b.o.loc _ (.tail _ (Hi _))).1.a 0;have p:=(b.o.loc _ (.tail _ (Hi _))).1.a 1;have j:=(b.o.loc _ (.tail _ (Hi _))).1.a 2;clear d;go_wp2_with fail;refine c.o.mono ?_;rintro e i ⟨r,t,rfl,d⟩;have SL:=lh (d.less (L':=_) (.cons _ (.cons _ (oC _))) (oC _) λ_ h=>h);have q:=lh (SL.o.loc _ (Hi _)).1;clear d c b v0 v1 n p j;go_wp2_with (refine gE rfl 212 (.tmp 9) (.tmp 77) rfl [si r (li G.1) t,ii ip ((G.2:Nat):Int)] rfl rfl q.o dD rfl rE ?_);intro we hbe hfe hze;have HX:=lh (HQ.o _ _ ⟨_,rfl,(SL.o.set_ hfe hbe).upv⟩);clear hfe hze;go_wp2_with fail;exact qD (bU rfl rfl hbe Go.Proofs.Tryz.underlying212 rfl dD) rfl HX.o
theorem aRi:∀f,aIf w0 wS dk g bc bn bs s X f
 | 0=>⟨λ_ b=>b.elim⟩
 | f+1=>aRh (aRi f)
end
theorem aUb{β γ:Type}{H P:α->β->γ->Prop}(main:(∀a b c,H a b c->P a b c)->p)(tail:∀a b c,H a b c->P a b c):p:=main tail
theorem bH(c:CD)(g b bs:Nat){t:Nat}(ht:t<8):(chC c g b bs)[2+t]? = some (ii ip ((c.roots t:Nat):Int)):=by
 match t,ht with
 | 0,_|1,_|2,_|3,_|4,_|5,_|6,_|7,_=>rfl
theorem aNJ(c:CD)(g b bs:Nat){t:Nat}(ht:t<8)(v:Nat):(chC c g b bs).set (2+t) (ii ip ((v:Nat):Int))=chC (c.root t v) g b bs:=by
 match t,ht with
 | 0,_|1,_|2,_|3,_|4,_|5,_|6,_|7,_=>rfl
theorem WfW.root{c:CD}(h:WfW c){t v:Nat}(b:v<65536):WfW (c.root t v):=⟨h.n,h.next,h.head,h.pg,h.rM,h.rS,h.mM,h.mS,λd=>by show(if d=t then v else c.roots d)<65536;split;exact b;exact h.roots d⟩
theorem aCt(b:Array Value)(w:World):(callFunc 118 b).run prog w=.ok (.enter 118 b) w:=by kernel_rfl
theorem aCu(b:Array Value)(w:World):(callFunc 119 b).run prog w=.ok (.enter 119 b) w:=by kernel_rfl
section
variable {w0 wS w w1 w2:World}{dk g bc bn bs:Nat}{s:PS}{X D:Nat->Prop}{L:List LB}{N:List NP}{Kl:List Kq}{c c':CD}
theorem jF.root(h:jF wS w g bc bn bs D c){t v:Nat}(ht:t<8)(d:v<65536):jF wS (w.setCell ⟨bc,2+t,none⟩ (ii ip ((v:Nat):Int))) g bc bn bs D (c.root t v)/\Fr [bc] w (w.setCell ⟨bc,2+t,none⟩ (ii ip ((v:Nat):Int))):=by have b:Fr [bc] w (w.setCell ⟨bc,2+t,none⟩ (ii ip ((v:Nat):Int))):=(jj [bc] w).setCell (Ii (by simp)) _;exact⟨h.set (c':=c.root t v) (by rw[<- aNJ c g bn bs ht v];exact h.blk.set_ (2+t) _) b rfl rfl (h.wf.root d),b⟩
theorem Sx.row1(h:Sx wS w g bc bn bs D L N Kl c w1){x:It}{kv vv av:Value}{n:Nd}(m:ItC (Off D L N) w1 x kv vv av)(b:Fr [] w1 w2){p:Nat}(d:Blk w2 p 198 [kv,vv,av])(q:w1<=p)(f:n.l=[x]): NdV (Off D L N) w2 0 (il #[fA n,n.first,si p 1 1]) n:=by
 have k:=b.size;have r:=h.fr.size;have s:=d.lt;refine⟨si p 1 1,[kv,vv,av],rfl,?_,?_,λi j=>?_⟩;·rw[f];exact⟨rfl,Ij ⟨p,1,#[kv,vv,av],rfl,uB _,d,tA _,by unfold maxLen;omega,rfl,rfl⟩⟩
 ·rw[f];have o:ItC (λi=>Off D L N i/\(si p 1 1).ownBlock≠some i) w1 x kv vv av:=
   m.re (λi j t=>⟨j,λe=>by have:p=i:=tE e;omega⟩) ⟨w2,h.offD _ k,λe=>by have:p=_:=tE e;omega⟩
  exact⟨o.fr b,trivial⟩
 obtain rfl:p=i:=tE j;exact h.offD _ q
theorem Z17{P:Prop} (h:P:=by
 have hb15:=(S4.o.loc _ (.head _)).1;refine ah 16 fun K hK=>?_;refine pA 184 (.tmp 6) (.tmp 24) rfl [.int .i64 2,.int .i64 (c.roots t:Int),.slice (some ⟨p13,0,none⟩) 1 1] rfl rfl hb15 xB rfl aC fun w16 hb16 hf16 hz16=>hK _ _ (fun h=>absurd h (by decide +kernel)) ?_;simp only[Act.put];clear hK;refine wd ?_ _;exact TAIL p13 p6 w16 (lh (S4.o.set_ hf16 hb16))):P:=h
theorem aIg{t:Nat}{u:Ky×Nat}{b:Value}(a4:PgC w0 wS dk g s X c)(h:jF wS w g bc bn bs D c)(J:UpV D w b u)(d:∀q,w.heap.size<=q->D q)(ht:t<8) (L:u.2≠0->1<=li u.1/\li u.1<=96/\u.2<65536/\c.e=0/\0<c.n/\(c.head≠0->c.head<c.n/\∃j,c.nx c.head=some j)): Calls prog 121 #[pi (some ⟨bc,0,none⟩),ii ip (t:Int),b] w λe w'=>e=iz (tl #[])/\jF wS w' g bc bn bs D (vF c t u)/\Fr [bc,bn,bs] w w':=by
 obtain⟨r,y,rfl,I⟩:=J.open_;obtain⟨A,z⟩:=nm (w.alloc (iy #[si r (li u.1) y,ii ip ((u.2:Nat):Int)] 212));have C:Fr [] w A:=by rw[z];exact(jj [] w).alloc _
 have E:Blk A w.heap.size 212 [si r (li u.1) y,ii ip ((u.2:Nat):Int)]:=by rw[z];exact jl w _ [si r (li u.1) y,ii ip ((u.2:Nat):Int)]
 have G:∀q,D q->Off D [] [] q:=λq b=>⟨b,λ_ h=>by simp at h,λ_ h=>by simp at h⟩;have m:=lh (((Sx.start h d).key (I.imp λq b=>⟨b.1,G q b.2⟩)).new1 C E (tA _));have a5:((t:Nat):Int)<8:=by omega
 refine cA λa8 Q=>?_;by_cases d:u.2=0
 ·have B:vF c t u=c:=by unfold vF;rw[iA d]
  rw[B]at Q;have V:=lh (Q.o _ _ ⟨rfl,m.o.fin⟩);have v1:=m.o.fin;have b:=(m.o.loc _ (Hi _)).1.a 1;simp only at b;rw[d]at b;have a6:=lh d;clear h I C E G m B v1 L J d;go_enter func121,ntmps121;go_upto_region 1 with fail;rw[<- z];clear z;go_wp2_with fail;go_end0;exact V.o
 obtain⟨S,T,U,a0,W,Y⟩:=L d;have a7:¬ ((u.2:Nat):Int)=0:=by omega
 have B:vF c t u=(c.alloc.1.root t c.alloc.2).write c.alloc.2 ⟨false,c.roots t,[⟨u.1,[],u.2⟩]⟩:=by unfold vF;rw[eA d]
 rw[B]at Q;obtain⟨p,F⟩:∃p:Nd,p=⟨false,c.roots t,[⟨u.1,[],u.2⟩]⟩:=⟨_,rfl⟩;rw[<- F]at Q;have M:p.ok/\p.size<=512:=by
  rw[F];refine⟨⟨by show 1<65536;omega,λx d=>?_,h.wf.roots t,λe=>by cases e⟩,?_⟩;·obtain rfl:=xA.1 d;exact⟨S,T,uB _,U,rfl⟩
  show 5+(3+li u.1+0)<=512;omega
 have N:c.alloc.2<c.n:=by
  unfold CD.alloc;split;·rename_i h;exact(Y h).1
  split;·assumption
  exact W
 have O:c.alloc.1.n=c.n:=aCP c;have R:=h.wf.n;have⟨a1,b5,c0⟩:=hh3 M N O;have f:=(m.o.loc _ (Hi _)).1.a 0;have b:=(m.o.loc _ (Hi _)).1.a 1;have d:=(m.o.ch.blk).at_ (bH c g bn bs ht);clear h I C E G B L J M N O S T U W;go_enter func121,ntmps121;go_upto_region 1 with fail;rw[<- z];clear z;go_upto_region 2 with fail;have O:=lh (m.o.quiet ((jj [] A).drew));clear m;apply aUb (H:=λp13 p6 m=>Hid (Sx wS w g bc bn bs D ((p6,184,[ii ip 2,ii ip (c.roots t:Int),si (some ⟨p13,0,none⟩) 1 1])::(w.heap.size,212,[si r (li u.1) y,ii ip ((u.2:Nat):Int)])::[]) [] (.nd (il #[ii ip 2,ii ip (c.roots t:Int),si (some ⟨p13,0,none⟩) 1 1]) p::.by_ (si r (li u.1) y) u.1::[]) c m))
 case main=>
  intro TAIL;refine aj (λm=>m.cell? ⟨bc,2+t,none⟩=some (ii ip ((c.roots t:Nat):Int))/\m.cell? ⟨w.heap.size,0,none⟩=some (si r (li u.1) y)/\m.cell? ⟨w.heap.size,1,none⟩=some (ii ip ((u.2:Nat):Int))) [0,1,2,3,4,5,6,7,8,9,10,11,12,14] ?_;refine tks [0,1,2,3,4,5,6,7,8,9,10,11,12] ?_;iterate 13 (refine ac ⟨d,f,b⟩ ?_)
  refine tke ?_;refine jJ (i:=13) (j:=15) (some 23) (some 6) rfl rfl rfl rfl (by kernel_rfl) rfl rfl (λK hK=>?_) (λK hK=>?_)
  ·
   obtain⟨L,B⟩:=nm (A.drew.alloc (iy ([si r (li u.1) y,si none 0 0,ii ip ((u.2:Nat):Int)]:List Value).toArray 198));have z:Fr [] A.drew L:=(by rw[B];exact(jj [] A.drew).alloc _);have I:Blk L A.drew.heap.size 198 [si r (li u.1) y,si none 0 0,ii ip ((u.2:Nat):Int)]:=(by rw[B];exact jl A.drew _ [si r (li u.1) y,si none 0 0,ii ip ((u.2:Nat):Int)]);replace f:=aA z f;replace b:=aA z b;replace d:=aA z d;obtain⟨a2,S,T,U,W⟩:=fF vK;refine qC (.tmp 22) rfl qJ S T [si r (li u.1) y,si none 0 0,ii ip ((u.2:Nat):Int)] rfl U rfl (by simp) (by simp) (hK _ _ (λ_=>by rw[B]at d f b;exact⟨d,f,b⟩) ?_);simp only[nrm];rw[<- B];clear hK S T U W;obtain⟨p13,M⟩:=nm (A.drew.heap.size);rw[<- M]at I⊢;have J:=O.o.row1 (n:=p) (x:=⟨u.1,[],u.2⟩) ⟨O.o.kb (Hi _),O.o.nil_key,rfl⟩ z I (uQ M.symm) (by rw[F]);rw[show fA p=2 by rw[F];rfl,show p.first=c.roots t by rw[F]]at J;have E:=lh ((O.o.quiet z).nd J);clear J z I B M;refine tv 14 (il #[ii ip 2,ii ip (c.roots t:Int),si (some ⟨p13,0,none⟩) 1 1]) rfl rfl ⟨d,f,b⟩ (Ii ⟨rfl,λm a3=>by go_simp⟩) ?_;simp only[nrm];refine ag 15 λK hK=>?_;refine gB 184 rfl (il #[ii ip 0,ii ip 0,si none 0 0]) znd zD rfl λG hb15 C Z=>?_;replace f:=aA C f;replace b:=aA C b;replace d:=aA C d;refine hK _ _ (λ_=>⟨d,f,b⟩) ?_;simp only[nrm];clear hK;obtain⟨p6,N⟩:=nm (L.heap.size);rw[<- N]at hb15⊢;have S4:=lh (E.o.new1 C hb15 (uQ N.symm));clear hb15 C Z N;exact Z17
  ·
   refine gB 184 rfl (il #[ii ip 0,ii ip 0,si none 0 0]) znd zD rfl λG hb15 C Z=>?_;replace f:=aA C f;replace b:=aA C b;replace d:=aA C d;refine hK _ _ (λ_=>⟨d,f,b⟩) ?_;simp only[nrm];clear hK;obtain⟨p6,N⟩:=nm (A.drew.heap.size);rw[<- N]at hb15⊢;have E:=lh (O.o.new1 C hb15 (uQ N.symm));refine ag 13 λK hK=>?_;obtain⟨L,B⟩:=nm (G.alloc (iy ([si r (li u.1) y,si none 0 0,ii ip ((u.2:Nat):Int)]:List Value).toArray 198));have z:Fr [] G L:=(by rw[B];exact(jj [] G).alloc _);have I:Blk L G.heap.size 198 [si r (li u.1) y,si none 0 0,ii ip ((u.2:Nat):Int)]:=(by rw[B];exact jl G _ [si r (li u.1) y,si none 0 0,ii ip ((u.2:Nat):Int)]);replace f:=aA z f;replace b:=aA z b;replace d:=aA z d;obtain⟨a2,S,T,U,W⟩:=fF vK;refine qC (.tmp 22) rfl qJ S T [si r (li u.1) y,si none 0 0,ii ip ((u.2:Nat):Int)] rfl U rfl (by simp) (by simp) (hK _ _ (λ_=>by rw[B]at d f b;exact⟨d,f,b⟩) ?_);simp only[nrm];rw[<- B];obtain⟨p13,M⟩:=nm (G.heap.size);rw[<- M]at I⊢;have J:=E.o.row1 (n:=p) (x:=⟨u.1,[],u.2⟩) ⟨E.o.kb (Hi _),E.o.nil_key,rfl⟩ z I (uQ M.symm) (by rw[F]);rw[show fA p=2 by rw[F];rfl,show p.first=c.roots t by rw[F]]at J;have S4:=lh ((E.o.quiet z).nd J);refine tv 14 (il #[ii ip 2,ii ip (c.roots t:Int),si (some ⟨p13,0,none⟩) 1 1]) rfl rfl ⟨d,f,b⟩ (Ii ⟨rfl,λm a3=>by go_simp⟩) ?_;simp only[nrm];exact Z17
 intro p13 p6 b E;have S4:=lh (E.o.quiet ((jj [] b).drew));have A:=S4.o.low;have B:=(S4.o.loc _ (Hi _)).2;have b:=lh (aEH a4 S4.o.ch a0 Y);go_upto_region 3 with fail;apply aGf (H:=λm=>Hid (Sx wS w g bc bn bs D ((p6,184,[ii ip 2,ii ip (c.roots t:Int),si (some ⟨p13,0,none⟩) 1 1])::[]) [] (.nd (il #[ii ip 2,ii ip (c.roots t:Int),si (some ⟨p13,0,none⟩) 1 1]) p::[]) (c.alloc.1.root t c.alloc.2) m))
 case main=>
  intro TAIL;refine aj (λ_=>True) [0,1,2,4,5,6,7] ?_;refine tks [0,1,2,4,5,6] ?_;iterate 6 (refine ac trivial ?_)
  refine tke ?_;refine ag 3 λK hK=>?_;refine kA (l:=[.tmp 27]) rfl [pi (some ⟨bc,0,none⟩)] rfl (aCt _) (b.o.mono ?_);rintro e r ⟨rfl,b,y⟩;refine⟨_,rfl,hK _ _ (λ_=>trivial) ?_⟩;simp only[nrm];have f:=lh (S4.o.call y (by simp) b);have b:=f.o.ch.root ht (v:=c.alloc.2) (by have:=b5.o;have:=R;omega);have C:=f.o.ch.blk.free (2+t);have E:=f.o.ch.blk.at_ (bH _ g bn bs ht);refine tks [7] ?_;refine ac trivial ?_;refine tke ?_;refine ah 8 λK hK=>?_;refine rB (w':=r.setCell ⟨bc,2+t,none⟩ (ii ip ((c.alloc.2:Nat):Int))) (by go_simp) (hK _ _ (λ_=>trivial) ?_);simp only[Act.put];refine wd ?_ _;exact TAIL _ (lh ((f.o.call b.2 (by simp) b.1).less (L':=_) (.cons_cons _ (dQ _)) (oC _) λk b=>by simp only[bB]at b⊢;rcases b with h|h<;>simp[h]))
 intro r f;have b:=lh (f.o.quiet ((jj [] r).drew));have f:=(b.o.loc _ (Hi _)).1.a 0;have r:=(b.o.loc _ (Hi _)).1.a 1;have y:=(b.o.loc _ (Hi _)).1.a 2;have d:=b.o.ch.blk.at_ (bH _ g bn bs ht);rw[show(c.alloc.1.root t c.alloc.2).roots t=c.alloc.2 by show(if t=t then _ else _)=_;rw[iA rfl]]at d;have z:=lh (pM b.o.ch (b.o.kn (n:=p) (Hi _)) (k:=c.alloc.2) (by have:=b5.o;have:=c0.o;show _<c.alloc.1.n;omega) a1.o.1 a1.o.2);go_upto_region 4 with fail;apply aGf (H:=λm=>Hid (Sx wS w g bc bn bs D [] [] [] ((c.alloc.1.root t c.alloc.2).write c.alloc.2 p) m))
 case main=>
  intro TAIL;refine aj (λm=>m.cell? ⟨bc,2+t,none⟩=some (ii ip ((c.alloc.2:Nat):Int))/\m.cell? ⟨p6,0,none⟩=some (ii ip 2)/\m.cell? ⟨p6,1,none⟩=some (ii ip (c.roots t:Int))/\m.cell? ⟨p6,2,none⟩=some (si (some ⟨p13,0,none⟩) 1 1)) [0,1,2,3,4,5,6,7,8] ?_;refine tks [0,1,2,3,4,5,6,7,8] ?_;iterate 9 (refine ac ⟨d,f,r,y⟩ ?_)
  refine tke ?_;refine ag 9 λK hK=>?_;refine kA (l:=[.tmp 33,.tmp 40,.tmp 41]) rfl [pi (some ⟨bc,0,none⟩),ii ip ((c.alloc.2:Nat):Int),il #[ii ip 2,ii ip (c.roots t:Int),si (some ⟨p13,0,none⟩) 1 1]] rfl (aCu _) (z.o.mono ?_);rintro e z ⟨rfl,r,y⟩;have d:=lh (b.o.call y (by simp) r);have m:=d.o.ch.blk.at_ (bH _ g bn bs ht);rw[show((c.alloc.1.root t c.alloc.2).write c.alloc.2 p).roots t=c.alloc.2 by show(if t=t then _ else _)=_;rw[iA rfl]]at m;have f:=lh ((b.o.call y (by simp) r).less (L':=[]) (N':=[]) (K':=[]) (dQ _) (oC _) (by simp));refine⟨_,rfl,hK _ _ (λ_=>⟨m,(d.o.loc _ (Hi _)).1.a 0,(d.o.loc _ (Hi _)).1.a 1,(d.o.loc _ (Hi _)).1.a 2⟩) ?_⟩;simp only[nrm];refine wd ?_ _;exact TAIL _ f
 intro z f;have V:=lh (Q.o _ _ ⟨rfl,f.o.fin⟩);go_wp2_with fail;go_end0;exact V.o
theorem aRj(c:CD):c.fail 0=c:=by
 unfold CD.fail;split;·rename_i b;cases c;simp only at b;rw[b]
 rfl
theorem aRk{t:Nat}{n:Nd}(m:PgC w0 wS dk g s X c)(h:jF wS w g bc bn bs D c)(i:∀q,w.heap.size<=q->D q)(ht:t<8)(d:c.N (c.roots t)=some n)(f:qR c t=some c'): Calls prog 124 #[pi (some ⟨bc,0,none⟩),ii ip (t:Int)] w λe w'=>e=iz (tl #[])/\jF wS w' g bc bn bs D c'/\Fr [bc,bn,bs] w w':=by
 have w9:=lh (Sx.start h i);obtain⟨u,i,j⟩:=h.wf.N_ok d;have E:=pF j;have z:=i.first;have i:=lh (jP m w9.o.ch d w9.o.offD);have m:(if c.e≠0∨n.l≠[] then some c else some ((c.free (c.roots t)).root t n.first))=some c':=by unfold qR at f;rw[d]at f;exact f
 have F:((t:Nat):Int)<8:=by omega
 have p:=w9.o.ch.blk.at_ (bH c g bn bs ht);refine cA λQ r=>?_;go_enter func124,ntmps124;go_wp2_with fail;refine i.o.mono ?_;rintro e f ⟨M,rfl,d,i⟩;obtain⟨j,x,rfl,y⟩:=w9.o.node_r i d;go_wp2_with (first
  | (with_reducible refine qA rfl 184 rfl (il #[ii ip 0,ii ip 0,si none 0 0]) znd.toArray zD rfl ?_)
  | (refine zA (W:=f) rfl 184 (.tmp 4) (.tmp 16) rfl [ii ip (fA n),ii ip (n.first:Int),si j (li n.l) x] rfl rfl rfl xB rfl aC ?_))
 intro P d j x;obtain⟨B,i⟩:=nm (f.heap.size);rw[<- i]at d⊢;have w9:=lh (y.new1 j d (by omega));clear j d x i;go_wp2_with fail;refine(rN w9.o.ch 0).mono ?_;rintro e O ⟨rfl,f,i,j⟩;rw[aRj]at f⊢;have d:=lh (w9.o.call i (by simp) f);clear f i j w9;have G:=(d.o.loc _ (Hi _)).1.a 2;by_cases j:c.e=0
 ·have i:decide (c.e≠0)=false:=by rw[j];rfl
  rw[i];clear i;by_cases y:li n.l=0
  ·have A:¬ (0:Int)<((li n.l:Nat):Int):=(by omega);have w9:n.l=[]:=uO.1 y;have f:c'=(c.free (c.roots t)).root t n.first:=by
    have:=m;rw[eA (by rw[j,w9];simp)]at this;exact(tE this).symm
   subst f;have p:=d.o.ch.blk.at_ (bH c g bn bs ht);have w9:=lh (aND d.o.ch (k:=c.roots t) u);go_wp2_with fail;refine w9.o.mono ?_;rintro e x ⟨rfl,p,u⟩;have w9:=lh ((d.o.call u (by simp) p).quiet ((jj [] x).drew));have u:=(w9.o.loc _ (Hi _)).1.a 1;have p:=w9.o.ch.root ht (v:=n.first) z;have I:=w9.o.ch.blk.free (2+t);have J:=w9.o.ch.blk.at_ (bH _ g bn bs ht);go_upto_region 3 with fail;apply aGf (H:=λW=>Hid (Sx wS w g bc bn bs D [] [] [] ((c.free (c.roots t)).root t n.first) W))
   case main=>
    intro C;refine aj (λW=>W.cell? ⟨B,1,none⟩=some (ii ip (n.first:Int))/\True) [0,1,2,3,4,5,6,7] ?_;refine tks [0,1,2,3,4,5,6,7] ?_;iterate 8 (refine ac ⟨u,trivial⟩ ?_)
    refine tke ?_;refine ah 8 λK hK=>?_;have z:=(w9.o.loc _ (Hi _)).2;have L:=w9.o.low;have B:=aB p.2 (by simp only at z;simp;omega) u;refine rB (w':=x.drew.setCell ⟨bc,2+t,none⟩ (ii ip (n.first:Int))) (by go_simp) (hK _ _ (λ_=>⟨B,trivial⟩) ?_);simp only[Act.put];refine wd ?_ _;exact C _ (lh ((w9.o.call p.2 (by simp) p.1).less (L':=[]) (N':=[]) (K':=[]) (dQ _) (oC _) (by simp)))
   intro u p;have w9:=lh (r.o _ _ ⟨rfl,p.o.fin⟩);go_wp2_with fail;go_end0;exact w9.o
  have A:(0:Int)<((li n.l:Nat):Int):=(by omega);have f:c'=c:=by have:=m;rw[iA (Ij λe=>y (by rw[e];rfl))]at this;exact(tE this).symm
  subst f;have w9:=lh (r.o _ _ ⟨rfl,d.o.fin⟩);go_wp2_with fail;go_end0;exact w9.o
 have i:decide (c.e≠0)=true:=by simpa using j
 rw[i];have f:c'=c:=by have:=m;rw[iA (Ii j)]at this;exact(tE this).symm
 subst f;have w9:=lh (r.o _ _ ⟨rfl,d.o.fin⟩);go_wp2_with fail;go_end0;exact w9.o
end
def aBM (c:CD):Nat->List UInt8
 | 0=>[79,82]++b16 c.next++b16 c.head
 | k+1=>aBM c k++b16 (c.roots k)
theorem kJ(c:CD):∀k,li (aBM c k)=6+2*k
 | 0=>rfl
 | k+1=>by show(aBM c k++b16 (c.roots k)).length=_;rw[iB,kJ c k];show 6+2*k+2=_;omega
theorem aRl(c:CD):aBM c 8=oM c:=rfl
def spC (c:CD):List Value:=[.int .i64 (c.next:Int),.int .i64 (c.head:Int),.int .i64 (c.roots 0:Int),.int .i64 (c.roots 1:Int),.int .i64 (c.roots 2:Int),.int .i64 (c.roots 3:Int),.int .i64 (c.roots 4:Int),.int .i64 (c.roots 5:Int),.int .i64 (c.roots 6:Int),.int .i64 (c.roots 7:Int)]
def aAy (c:CD) (wb:World) (v3 v15:Value) (wr:World):Prop:=∃k:Nat,k<=8/\v15=.int .i64 (k:Int)/\Buf wr wb.heap.size v3 (aBM c k)/\Fr [] wb wr
theorem Z12{P:Prop} (h:P:=by
 clear hap HP;go_wp2_with fail
 go_roundw
 case rel=>exact HX.o
 case measure=>simp[intOf]):P:=h
theorem aMq(c:CD){w:World}(p:c.next<65536)(r:c.head<65536)(C:∀t,c.roots t<65536): Calls prog 154 #[il (spC c).toArray] w λe w'=>∃v',e=iz v'/\(∃g,dA w' v' (oM c) g/\w.heap.size<=g)/\Fr [] w w':=by
 obtain⟨b,d⟩:=nm (w.alloc (iy (spC c).toArray 138));have q:Fr [] w b:=by rw[d];exact(jj [] w).alloc _
 have i:Blk b w.heap.size 138 (spC c):=by rw[d];exact jl w _ (spC c)
 have k:=i.a 0;have m:=i.a 1;unfold spC at d⊢;refine cA λu x=>?_;go_enter func154,ntmps154;go_upto_region 1 with fail;rw[<- d];clear d;refine aj (λd=>d.cell? ⟨w.heap.size,0,none⟩=some (ii ip (c.next:Int))/\d.cell? ⟨w.heap.size,1,none⟩=some (ii ip (c.head:Int))) [1,2,4,5] ?_;refine tks [1,2,4,5] ?_;iterate 4 (refine ac ⟨k,m⟩ ?_)
 refine tke ?_;obtain⟨f,j⟩:=nm (b.drew.alloc (iy #[ii ix 79,ii ix 82] 5));have d:Fr [] b f:=by rw[j];exact((jj [] b).drew).alloc _
 have n:Blk f b.heap.size 5 (gA [79,82]):=by rw[j];exact jl b.drew 5 (gA [79,82])
 have k:=aA d k;have m:=aA d m;refine ag 0 λK hK=>?_;refine tB (v:=si (some ⟨b.heap.size,0,none⟩) 2 2) (w':=f) (by rw[j];simp[execOp,Act.eval,aBB,Result.andThen]) (hK _ _ (λ_=>⟨k,m⟩) ?_);simp only[nrm];have j:Hid (Buf f b.heap.size (si (some ⟨b.heap.size,0,none⟩) 2 2) [79,82]):=lh (aED n rfl (tA _) (by omega));have HP:=lh (eH j.o c.next p (by simp) d.size);refine ag 3 λK hK=>?_;refine kA (l:=[.tmp 6,.tmp 8]) rfl [si (some ⟨b.heap.size,0,none⟩) 2 2,ii ip (c.next:Int)] rfl (bR _) (HP.o.mono ?_);rintro e f ⟨v1,rfl,p⟩;have n:Fr [] b f:=d.trans p.fr (λd f=>Ij (j.o.lt d (by simpa using f)).1);have k:=(i.fr n).a 0;have m:=(i.fr n).a 1;refine⟨_,rfl,hK _ _ (λ_=>⟨k,m⟩) ?_⟩;simp only[nrm];have HP:=lh (eH p.buf c.head r (by simp[b16]) n.size);refine ag 6 λK hK=>?_;refine kA (l:=[.tmp 9,.tmp 11]) rfl [v1,ii ip (c.head:Int)] rfl (bR _) (HP.o.mono ?_);rintro e r ⟨v2,rfl,s⟩;have j:Fr [] b r:=n.trans s.fr (λd f=>Ij (p.buf.lt d (by simpa using f)).1);have k:=(i.fr j).a 0;have m:=(i.fr j).a 1;refine⟨_,rfl,hK _ _ (λ_=>⟨k,m⟩) ?_⟩;simp only[nrm];refine af 7 (λ_=>⟨k,m⟩) ?_;refine wd ?_ _;have k:Hid (Buf r b.heap.size v2 (aBM c 0)):=lh s.buf;have p:=(i.fr j).a 2;have r:=(i.fr j).a 3;have s:=(i.fr j).a 4;have y:=(i.fr j).a 5;have z:=(i.fr j).a 6;have A:=(i.fr j).a 7;have B:=(i.fr j).a 8;have D:=(i.fr j).a 9;go_wp2_with fail;go_loopw [3,15] (aAy c b) (λ_ v _=>8-(intOf v).toNat);·exact⟨0,by omega,rfl,k.o,j⟩
 obtain⟨n,E,rfl,j,i⟩:=hrel;by_cases k:n<8
 ·match n,k with
  | 0,_=>rw[show(((0:Nat)):Int)=(0:Int) from rfl];have m:∀w,(Instr.index 136 (il #[ii ip (c.roots 0:Int),ii ip (c.roots 1:Int),ii ip (c.roots 2:Int),ii ip (c.roots 3:Int),ii ip (c.roots 4:Int),ii ip (c.roots 5:Int),ii ip (c.roots 6:Int),ii ip (c.roots 7:Int)]) (ii ip 0)).run prog w=.ok (ii ip (c.roots 0:Int)) w:=λ_=>(by kernel_rfl);have HP:=lh (eH j (c.roots 0) (C 0) (by rw[kJ];omega) i.size);go_wp2_with fail;refine HP.o.mono ?_;rintro e k ⟨v4,rfl,hap⟩;have HX:Hid (aAy c b v4 (ii ip ((0:Nat)+1:Nat)) k):=lh ⟨0+1,by omega,rfl,hap.buf,i.trans hap.fr (λd f=>Ij (j.lt d (by simpa using f)).1)⟩;exact Z12
  | 1,_=>rw[show(((1:Nat)):Int)=(1:Int) from rfl];have m:∀w,(Instr.index 136 (il #[ii ip (c.roots 0:Int),ii ip (c.roots 1:Int),ii ip (c.roots 2:Int),ii ip (c.roots 3:Int),ii ip (c.roots 4:Int),ii ip (c.roots 5:Int),ii ip (c.roots 6:Int),ii ip (c.roots 7:Int)]) (ii ip 1)).run prog w=.ok (ii ip (c.roots 1:Int)) w:=λ_=>(by kernel_rfl);have HP:=lh (eH j (c.roots 1) (C 1) (by rw[kJ];omega) i.size);go_wp2_with fail;refine HP.o.mono ?_;rintro e k ⟨v4,rfl,hap⟩;have HX:Hid (aAy c b v4 (ii ip ((1:Nat)+1:Nat)) k):=lh ⟨1+1,by omega,rfl,hap.buf,i.trans hap.fr (λd f=>Ij (j.lt d (by simpa using f)).1)⟩;exact Z12
  | 2,_=>rw[show(((2:Nat)):Int)=(2:Int) from rfl];have m:∀w,(Instr.index 136 (il #[ii ip (c.roots 0:Int),ii ip (c.roots 1:Int),ii ip (c.roots 2:Int),ii ip (c.roots 3:Int),ii ip (c.roots 4:Int),ii ip (c.roots 5:Int),ii ip (c.roots 6:Int),ii ip (c.roots 7:Int)]) (ii ip 2)).run prog w=.ok (ii ip (c.roots 2:Int)) w:=λ_=>(by kernel_rfl);have HP:=lh (eH j (c.roots 2) (C 2) (by rw[kJ];omega) i.size);go_wp2_with fail;refine HP.o.mono ?_;rintro e k ⟨v4,rfl,hap⟩;have HX:Hid (aAy c b v4 (ii ip ((2:Nat)+1:Nat)) k):=lh ⟨2+1,by omega,rfl,hap.buf,i.trans hap.fr (λd f=>Ij (j.lt d (by simpa using f)).1)⟩;exact Z12
  | 3,_=>rw[show(((3:Nat)):Int)=(3:Int) from rfl];have m:∀w,(Instr.index 136 (il #[ii ip (c.roots 0:Int),ii ip (c.roots 1:Int),ii ip (c.roots 2:Int),ii ip (c.roots 3:Int),ii ip (c.roots 4:Int),ii ip (c.roots 5:Int),ii ip (c.roots 6:Int),ii ip (c.roots 7:Int)]) (ii ip 3)).run prog w=.ok (ii ip (c.roots 3:Int)) w:=λ_=>(by kernel_rfl);have HP:=lh (eH j (c.roots 3) (C 3) (by rw[kJ];omega) i.size);go_wp2_with fail;refine HP.o.mono ?_;rintro e k ⟨v4,rfl,hap⟩;have HX:Hid (aAy c b v4 (ii ip ((3:Nat)+1:Nat)) k):=lh ⟨3+1,by omega,rfl,hap.buf,i.trans hap.fr (λd f=>Ij (j.lt d (by simpa using f)).1)⟩;exact Z12
  | 4,_=>rw[show(((4:Nat)):Int)=(4:Int) from rfl];have m:∀w,(Instr.index 136 (il #[ii ip (c.roots 0:Int),ii ip (c.roots 1:Int),ii ip (c.roots 2:Int),ii ip (c.roots 3:Int),ii ip (c.roots 4:Int),ii ip (c.roots 5:Int),ii ip (c.roots 6:Int),ii ip (c.roots 7:Int)]) (ii ip 4)).run prog w=.ok (ii ip (c.roots 4:Int)) w:=λ_=>(by kernel_rfl);have HP:=lh (eH j (c.roots 4) (C 4) (by rw[kJ];omega) i.size);go_wp2_with fail;refine HP.o.mono ?_;rintro e k ⟨v4,rfl,hap⟩;have HX:Hid (aAy c b v4 (ii ip ((4:Nat)+1:Nat)) k):=lh ⟨4+1,by omega,rfl,hap.buf,i.trans hap.fr (λd f=>Ij (j.lt d (by simpa using f)).1)⟩;exact Z12
  | 5,_=>rw[show(((5:Nat)):Int)=(5:Int) from rfl];have m:∀w,(Instr.index 136 (il #[ii ip (c.roots 0:Int),ii ip (c.roots 1:Int),ii ip (c.roots 2:Int),ii ip (c.roots 3:Int),ii ip (c.roots 4:Int),ii ip (c.roots 5:Int),ii ip (c.roots 6:Int),ii ip (c.roots 7:Int)]) (ii ip 5)).run prog w=.ok (ii ip (c.roots 5:Int)) w:=λ_=>(by kernel_rfl);have HP:=lh (eH j (c.roots 5) (C 5) (by rw[kJ];omega) i.size);go_wp2_with fail;refine HP.o.mono ?_;rintro e k ⟨v4,rfl,hap⟩;have HX:Hid (aAy c b v4 (ii ip ((5:Nat)+1:Nat)) k):=lh ⟨5+1,by omega,rfl,hap.buf,i.trans hap.fr (λd f=>Ij (j.lt d (by simpa using f)).1)⟩;exact Z12
  | 6,_=>rw[show(((6:Nat)):Int)=(6:Int) from rfl];have m:∀w,(Instr.index 136 (il #[ii ip (c.roots 0:Int),ii ip (c.roots 1:Int),ii ip (c.roots 2:Int),ii ip (c.roots 3:Int),ii ip (c.roots 4:Int),ii ip (c.roots 5:Int),ii ip (c.roots 6:Int),ii ip (c.roots 7:Int)]) (ii ip 6)).run prog w=.ok (ii ip (c.roots 6:Int)) w:=λ_=>(by kernel_rfl);have HP:=lh (eH j (c.roots 6) (C 6) (by rw[kJ];omega) i.size);go_wp2_with fail;refine HP.o.mono ?_;rintro e k ⟨v4,rfl,hap⟩;have HX:Hid (aAy c b v4 (ii ip ((6:Nat)+1:Nat)) k):=lh ⟨6+1,by omega,rfl,hap.buf,i.trans hap.fr (λd f=>Ij (j.lt d (by simpa using f)).1)⟩;exact Z12
  | 7,_=>rw[show(((7:Nat)):Int)=(7:Int) from rfl];have m:∀w,(Instr.index 136 (il #[ii ip (c.roots 0:Int),ii ip (c.roots 1:Int),ii ip (c.roots 2:Int),ii ip (c.roots 3:Int),ii ip (c.roots 4:Int),ii ip (c.roots 5:Int),ii ip (c.roots 6:Int),ii ip (c.roots 7:Int)]) (ii ip 7)).run prog w=.ok (ii ip (c.roots 7:Int)) w:=λ_=>(by kernel_rfl);have HP:=lh (eH j (c.roots 7) (C 7) (by rw[kJ];omega) i.size);go_wp2_with fail;refine HP.o.mono ?_;rintro e k ⟨v4,rfl,hap⟩;have HX:Hid (aAy c b v4 (ii ip ((7:Nat)+1:Nat)) k):=lh ⟨7+1,by omega,rfl,hap.buf,i.trans hap.fr (λd f=>Ij (j.lt d (by simpa using f)).1)⟩;exact Z12
 obtain rfl:n=8:=(by omega);obtain⟨d,b,f⟩:=dA.of_row rfl j i.size;rw[aRl]at b;have HX:Hid (u (iz u3) wr):=lh (x.o _ _ ⟨_,rfl,⟨d,b,by have:=q.size;omega⟩,q.trans i⟩);go_wp2_with fail;exact HX.o
def eZ (s:PS) (m:List (Nat×Nd)):PS:=m.foldl (fun s p=>s.write p.1 p.2.written) s
def aAz (s:PS) (m:List (Nat×Nat)):PS:=m.foldl (fun s p=>s.write p.1 (b16 p.2)) s
def cV (s:PS) (c:CD):PS:=(aAz (eZ s c.M) c.S).write 0 (oM c)
structure fL (s s':PS):Prop where
 br:s'.br=s.br
 n:s'.n=s.n
 D:s'.D=s.D
 l:s'.l=s.l
 held:s'.held=s.held
theorem fL.refl(s:PS):fL s s:=⟨rfl,rfl,rfl,rfl,rfl⟩
theorem fL.write{s:PS}(h:fL s S)(k:Nat)(b:List UInt8):fL s (S.write k b):=⟨h.br,h.n,h.D,h.l,h.held⟩
theorem fL.calm{s:PS}(h:fL s S)(b:aCA s):aCA S:=⟨by rw[h.D];exact b.dead,by rw[h.D];exact b.pend,by have:=b.fit;rw[h.D,h.n,h.l]<;>exact this⟩
theorem fZ(s:PS)(k j:Nat)(b:List UInt8):(s.write k b).page j=if j=k then gI b else s.page j:=by unfold PS.page PS.write;simp only[aJf];split<;>simp
theorem aBN:∀(m:List (Nat×Nd)) {s b:PS},fL s b->fL s (eZ b m)
 | [],_,_,h=>h
 | _::m,_,_,h=>aBN m (h.write _ _)
theorem aBO:∀(m:List (Nat×Nat)) {s b:PS},fL s b->fL s (aAz b m)
 | [],_,_,h=>h
 | _::m,_,_,h=>aBO m (h.write _ _)
theorem cU{p:Nat×α}{m:List (Nat×α)}(j:Nat):sG (p::m) j=if j=p.1 then some p.2 else sG m j:=by
 unfold sG;rw[List.find?_cons];by_cases b:j=p.1;·rw[iA b,b];simp
 rw[eA b];have:¬ p.1=j:=λe=>b e.symm;simp[this]
theorem aGg{m:List (Nat×α)}{j:Nat}(h:∀p∈m,j<p.1):sG m j=none:=by
 cases b:sG m j with
 | none=>rfl
 | some c=>exact absurd (h _ (aAo b)) (fT _)
theorem aGh:∀ {m:List (Nat×Nd)} (s:PS) (j:Nat),gJ m->(eZ s m).page j=match sG m j with|some n=>gI n.written|none=>s.page j
 | [],_,_,_=>rfl
 | p::m,s,j,h=>by
  obtain⟨c,b⟩:=lF.1 h;show(eZ (s.write p.1 p.2.written) m).page j=_;rw[aGh _ j b,cU,fZ];by_cases b:j=p.1;·rw[iA b,aGg (λd f=>by rw[b];exact c d f),iA b]
  rw[eA b,eA b]
theorem aGi:∀ {m:List (Nat×Nat)} (s:PS) (j:Nat),gJ m->(aAz s m).page j=match sG m j with|some n=>gI (b16 n)|none=>s.page j
 | [],_,_,_=>rfl
 | p::m,s,j,h=>by
  obtain⟨c,b⟩:=lF.1 h;show(aAz (s.write p.1 (b16 p.2)) m).page j=_;rw[aGi _ j b,cU,fZ];by_cases b:j=p.1;·rw[iA b,aGg (λd f=>by rw[b];exact c d f),iA b]
  rw[eA b,eA b]
theorem aPj{s:PS}{c:CD}(b:gJ c.M)(d:gJ c.S)(f:c.pg=s.page)(j:Nat):(cV s c).page j=yO c j:=by
 unfold cV yO;rw[fZ];split;·rfl
 rw[aGi _ j d,aGh _ j b,f];cases sG c.S j<;>rfl
theorem aEL{l:List α}{k:Nat}{x:α}(b:l[k]? = some x):l.take (k+1)=l.take k++[x]:=by rw[List.take_add_one,b];rfl
theorem aPk{m:List (Nat×Nd)}{k:Nat}{p:Nat×Nd}(s:PS)(h:m[k]? = some p):eZ s (m.take (k+1))=(eZ s (m.take k)).write p.1 p.2.written:=by rw[aEL h];unfold eZ;rw[wU];rfl
theorem aPl{m:List (Nat×Nat)}{k:Nat}{p:Nat×Nat}(s:PS)(h:m[k]? = some p):aAz s (m.take (k+1))=(aAz s (m.take k)).write p.1 (b16 p.2):=by rw[aEL h];unfold aAz;rw[wU];rfl
theorem aIh:∀ {m:List (Nat×α)} {k:Nat} {p:Nat×α},gJ m->m[k]? = some p->sG m p.1=some p.2
 | [],k,p,_,h=>by simp at h
 | q::m,0,p,_,h=>by simp only[zP,yG]at h;rw[cU,h,iA rfl]
 | q::m,k+1,p,hr,h=>by obtain⟨b,c⟩:=lF.1 hr;simp only[List.getElem?_cons_succ]at h;have d:=b p (kF h);rw[cU,eA (by omega),aIh c h]
theorem aGj{g:Oper}{a:Act}{w:World}{t:TypeId}{x y:Operand}{v b:Value}(c:g.op=.lookup t x y false)(d:a.eval x=u)(f:a.eval y=b)(h:(Instr.lookup t u b false).run prog w=.ok v w):(execOp a.eval g).run prog w=.ok (.value v) w:=by subst d f;simp[execOp,c,h,Result.andThen]
theorem aCC(b:Array Value)(w:World):(callFunc 151 b).run prog w=.ok (.enter 151 b) w:=by kernel_rfl
theorem aCD(b:Array Value)(w:World):(callFunc 154 b).run prog w=.ok (.enter 154 b) w:=by kernel_rfl
theorem sR(b:Array Value)(w:World):(callFunc 150 b).run prog w=.ok (.enter 150 b) w:=by kernel_rfl
theorem Kp.more{Y:Nat->Prop}{a b d:World}(h:Kp Y a b)(g:Kp Y b d):Kp Y a d:=by
 obtain⟨c,f,i⟩:=h;obtain⟨j,k,l⟩:=g;refine⟨c++j,(f.mono λf c=>Ii (yE _ c)).trans k λf c=>Ii (tF _ c),λf c=>?_⟩;obtain c|c:=sD.1 c;·exact i f c
 exact l f c
theorem Kp.less{X Y:Nat->Prop}{a b:World}(h:Kp Y a b)(c:∀q,X q->Y q):Kp X a b:=by obtain⟨d,f,g⟩:=h;exact⟨d,f,λd f i=>g d f (c d i)⟩
theorem Kp.cell{Y:Nat->Prop}{a b:World}(h:Kp Y a b){q j:Nat}{v:Value}(c:a.cell? ⟨q,j,none⟩=some v)(d:Y q):b.cell? ⟨q,j,none⟩=some v:=by obtain⟨i,f,g⟩:=h;exact aB f (λf=>g _ f d) c
def yC (Y:Nat->Prop) (w w':World):Nat->Prop:=fun q=>Y q∨w.heap.size<=q/\q<w'.heap.size
structure pX (w0:World) (g bc bn bs dk:Nat) (c:CD) (vs ss:List (Nat×Value)) (Y:Nat->Prop) (s:PS) (w:World):Prop where
 px:PgX w0 w dk g s Y
 blk:Blk w bc 142 (chC c g bn bs)
 nodes:VAt w bn vs
 spare:VAt w bs ss
 vals:vI (fun v n=>NdV (fun q=>Y q∨w.heap.size<=q) w 0 v n) vs c.M
 yc:Y bc
 yn:Y bn
 ys:Y bs
section
variable {w0 wS w w1 w2:World}{g bc bn bs dk:Nat}{Y D X:Nat->Prop}{c:CD}{vs ss:List (Nat×Value)}{s s':PS}
theorem pX.keep(h:pX w0 g bc bn bs dk c vs ss Y s w1)(m:PgX w0 w2 dk g s' Y)(b:Kp Y w1 w2):pX w0 g bc bn bs dk c vs ss Y s' w2:=by
 obtain⟨f,d,k⟩:=b;have i:∀b,Y b->b∉f:=λb f j=>k b j f;have l:=d.size;refine⟨m,h.blk.fr d (i _ h.yc),h.nodes.fr d (i _ h.yn),h.spare.fr d (i _ h.ys),h.vals.mono λi o q _ p=>?_,h.yc,h.yn,h.ys⟩;have n:NdV (λb=>Y b∨w2<=b) w1 0 i o:=p.re (λb f i=>Ii (by obtain h|h:=f;exact h;omega)) ⟨w2,Ij (tA _),l⟩;exact n.fr d λb f j=>by
  obtain i|i:=f;·exact absurd i (k b j)
  omega
theorem pX.quiet(h:pX w0 g bc bn bs dk c vs ss Y s w1)(b:Fr [] w1 w2):pX w0 g bc bn bs dk c vs ss Y s w2:=h.keep (h.px.stay b) (Kp.of b)
theorem pX.more(h:pX w0 g bc bn bs dk c vs ss Y s w1)(d:Fr [] w1 w2):pX w0 g bc bn bs dk c vs ss (yC Y w1 w2) s w2:=by
 refine⟨h.px.fr d,h.blk.fr d,h.nodes.fr d,h.spare.fr d,h.vals.mono λj k l _ b=>?_,Ii h.yc,Ii h.yn,Ii h.ys⟩;refine(b.fr d).weak λi b=>?_;obtain b|b:=b;·exact Ii (Ii b)
 obtain f|f:=iR i w2;·exact Ii (Ij ⟨b,f⟩)
 exact Ij f
theorem pX.start(f:PgC w0 wS dk g s X c)(h:jF wS w g bc bn bs D c)(i:∀q,D q->X q∨wS<=q):∃vs ss,pX w0 g bc bn bs dk c vs ss (yC X wS w) s w/\vI (λd n=>d=ii ip ((n:Nat):Int)) ss c.S:=by
 obtain⟨vs,v1,v2⟩:=h.nodes;obtain⟨ss,b,j⟩:=h.spare;refine⟨vs,ss,⟨f.px.fr h.fr,h.blk,v1,b,v2.mono λd n l _ k=>?_,Ij ⟨h.l1,h.blk.lt⟩,Ij ⟨h.l2,v1.lt⟩,Ij ⟨h.l3,b.lt⟩⟩,j⟩;refine k.re (λq d j=>Ii ?_) ⟨w,Ij (tA _),tA _⟩;obtain b|b:=i q d;·exact Ii b
 exact Ij ⟨b,j⟩
theorem aGk{R:Value->α->Prop}{c:List (Nat×Value)}{m:List (Nat×α)}(h:vI R c m)(b:gJ m):gJ c:=by have e:=h.keys;have c:(m.map λd=>d.1).Pairwise (· < ·):=mV.2 b;rw[<- e]at c;exact mV.1 c
theorem aUA(c:CD)(g b bs:Nat){j:Nat}{v:Value}(h:(spC c)[j]? = some v):(chC c g b bs)[j]? = some v:=by
 have b:j<10:=by have:=(uC.1 h).1;exact this
 match j,b with
 | 0,_|1,_|2,_|3,_|4,_|5,_|6,_|7,_|8,_|9,_=>exact h
theorem aIi(h:jF wS w g bc bn bs D c)(i:c.e≠0):Calls prog 120 #[pi bc] w λe b=>e=iz (ii ip (c.e:Int))/\w=b:=by
 have f:=h.blk.a 13;have j:¬ ((c.e:Nat):Int)=0:=by omega
 refine cA λk d=>?_;have b:=lh (d.o _ _ ⟨rfl,rfl⟩);go_enter func120,ntmps120;go_wp2_with fail;exact b.o
theorem aMr(d:PgC w0 wS dk g s X c)(h:jF wS w g bc bn bs D c)(j:∀q,D q->X q∨wS.heap.size<=q)(u:c.e=0)(h0:0<c.n): Calls prog 120 #[pi (some ⟨bc,0,none⟩)] w λe b=>e=iz (ii ip 0)/\PgX w0 b dk g (cV s c) X/\Kp X w b:=by
 obtain⟨m,p,b,a3⟩:=pX.start d h j;have r:=h.wf;have a9:=d.n;have a8:=r.fewM;have c2:=r.fewS;have f:=b.vals.len;have c3:=a3.len;have v:=aGk b.vals r.rM;have b2:=aGk a3 r.rS;have a':=d.br;have i:=b.blk.a 11;have t:=b.blk.a 13;rw[u]at t;have T:=lh r.n;clear u h d j;refine cA λd8 c'=>?_;go_enter func120,ntmps120;go_wp2_with fail;refine(aPg bn _).mono ?_;rintro e d ⟨rfl,V⟩;have Q:=lh (aJM b.nodes v (by have:=f;have:=a8;omega) d V);have j:Hid (Fr [] w d):=lh (by rw[V];exact(jj [] w).alloc _);clear V i t;go_wp2_with fail;refine Q.o.mono ?_;rintro e R ⟨d0,rfl,z,d⟩;obtain⟨d1,d2,rfl,d3⟩:=jA z;have⟨G,e'⟩:=hh2 (b.more (j.o.trans d)) (j.o.trans d);clear d Q;obtain⟨E,W⟩:=nm (yC (yC X wS w) w R);rw[<- W]at G;have B:li m=li c.M:=f;go_wp2_with fail;go_loopw [25] (λv wr=>∃k:Nat,k<=li m/\v=ii ip (k:Int)/\pX w0 g bc bn bs dk c m p E (eZ s (c.M.take k)) wr/\Kp E R wr) (λv _=>li m-(intOf v).toNat);·exact⟨0,uB _,rfl,G.o,Kp.of (jj _ _)⟩
 obtain⟨k,c8,rfl,a4,H⟩:=hrel;have b:=lh (a4.quiet ((jj [] wr).drew));by_cases c1:k<li m
 ·have a1:k<li c.M:=(by have:=B;omega);obtain⟨d,A⟩:=gx (l:=c.M) a1;obtain⟨b5,a5,y⟩:=r.mM d (kF A);have O:=aIh r.rM A;obtain⟨f,b4,t⟩:∃f,sG m d.1=some f/\NdV (λq=>E q∨wr.drew.heap.size<=q) wr.drew 0 f d.2:=by
   obtain⟨u,_⟩|⟨c9,v,u,b6,b9⟩:=vI.get d.1 b.o.vals;·rw[O]at u;cases u
   rw[O]at u;obtain rfl:=tE u;exact⟨v,b6,b9⟩
  obtain⟨Y,I,a6⟩:=tD z (show 0<li m by omega);have a2:E Y:=(by rw[W];exact Ij ⟨by have:=(z.lt Y (by rw[I];rfl)).1;have:=j.o.size;omega,aG z _ (by rw[I];rfl)⟩);have c4:=H.cell (a6 k (ii ip (d.1:Int)) (by have:=G.o.vals.kcells;unfold cR at this⊢;rw[this,wI,A];rfl)) a2;subst I;have x:=b.o.blk.a 10;have i:=b.o.blk.a 11;have⟨b7,b8⟩:=hh2 (aMj t a5 (by omega)) (aPk s A);have b0:d.1<=9223372036854775807:=(by have:=T.o;omega);go_upto_region 6 with fail;refine aj (λj=>j.cell? ⟨bc,10,none⟩=some (pi (some ⟨g,0,none⟩))/\j.cell? ⟨bc,11,none⟩=some (.map (some bn))/\VAt j bn m) [0,1,2,3,4,5,6,7,8,9,10] ?_;refine tks [0,1,2,3,4,5,6,7,8,9] ?_;iterate 10 (refine ac ⟨x,i,b.o.nodes⟩ ?_)
  refine tke ?_;refine tv 10 (f) rfl rfl ⟨x,i,b.o.nodes⟩ (Ii ⟨rfl,λj a0=>aGj rfl rfl rfl (by have:=a0.2.2.look Tryz.underlying139 (aGd j) (k:=d.1) b0;rw[b4]at this;exact this)⟩) ?_;simp only[nrm];refine ag 11 λK hK=>kA (l:=[.tmp 39]) rfl [f] rfl (aCC _) (b7.o.mono ?_);rintro e b' ⟨v5,rfl,⟨Z,J,a7⟩,t⟩;have i:=lh (b.o.quiet t);refine⟨_,rfl,hK _ _ (λ_=>⟨i.o.blk.a 10,i.o.blk.a 11,i.o.nodes⟩) ?_⟩;simp only[nrm];have C:Hid (fL s (eZ s (c.M.take k))):=lh (aBN _ (fL.refl s));have U:=lh (aHQ i.o.px (by rw[C.o.br];exact a') d.1 (by rw[C.o.n,<- a9];exact b5) v5 d.2.written Z J (by rw[Nd.written_len];exact y));refine ag 12 λK hK=>kA (l:=[.tmp 32,.tmp 33,.tmp 40]) rfl [pi (some ⟨g,0,none⟩),ii ip (d.1:Int),v5] rfl (sR _) (U.o.mono ?_);rintro e L ⟨rfl,N,y⟩;have f:=lh (i.o.keep N y);refine⟨_,rfl,hK _ _ (λ_=>⟨f.o.blk.a 10,f.o.blk.a 11,f.o.nodes⟩) ?_⟩;simp only[nrm];refine af 13 (λ_=>⟨f.o.blk.a 10,f.o.blk.a 11,f.o.nodes⟩) ?_;refine wd ?_ _;have HX:Hid (∃F:Nat,F<=li m/\ii ip ((k:Int)+1)=ii ip (F:Int)/\pX w0 g bc bn bs dk c m p E (eZ s (c.M.take F)) L/\Kp E R L):=lh ⟨k+1,c1,rfl,by rw[b8.o];exact f.o,((H.more (Kp.of ((jj [] wr).drew))).more (Kp.of t)).more y⟩;have V:=wi k (by have:=a8;have:=B;have:=T.o;omega);exact Z7
 obtain rfl:k=li m:=(by omega);have R:Hid (c.M.take (li m)=c.M):=lh (by rw[B];exact aAZ);have b:=(lh a4);rw[R.o]at b;have b1:Hid (fL s (eZ s c.M)):=lh (aBN _ (fL.refl s));obtain⟨R,c6⟩:=nm (eZ s c.M);rw[<- c6]at b b1;have c0:Kp (yC X wS w) w wr:=(Kp.of e'.o).more (H.less λq B=>by rw[W];exact Ii B);have c5:Hid (∀q,yC X wS w q->E q):=lh (by rw[W];exact λq B=>Ii B);clear G;have W:=b.o.blk.a 12;go_wp2_with fail;refine(aPh bs _).mono ?_;rintro e b3 ⟨rfl,a8⟩;have Q:=lh (aJN b.o.spare b2 (by have:=c3;have:=c2;omega) b3 a8);have b2:Hid (Fr [] wr b3):=lh (by rw[a8];exact(jj [] wr).alloc _);clear a8 W;go_wp2_with fail;refine Q.o.mono ?_;rintro e a8 ⟨d4,rfl,z,b3⟩;obtain⟨d5,d6,rfl,d7⟩:=jA z;have G:=lh (b.o.more (b2.o.trans b3));have c7:Hid (Kp (yC X wS w) w a8):=lh (c0.more (Kp.of (b2.o.trans b3)));clear b3 Q;obtain⟨Q,c0⟩:=nm (yC E wr a8);rw[<- c0]at G;have E:Hid (∀q,yC X wS w q->Q q):=lh (by rw[c0];exact λq B=>Ii (c5.o q B));clear c5;have b3:li p=li c.S:=c3;clear b;go_wp2_with fail;go_loopw [53] (λv wr=>∃k:Nat,k<=li p/\v=ii ip (k:Int)/\pX w0 g bc bn bs dk c m p Q (aAz R (c.S.take k)) wr/\Kp Q a8 wr) (λv _=>li p-(intOf v).toNat)
 case atStart=>exact⟨0,uB _,rfl,G.o,Kp.of (jj _ _)⟩
 case round=>
  obtain⟨k,c8,rfl,a4,H⟩:=hrel;have b:=lh (a4.quiet ((jj [] wr).drew));by_cases c1:k<li p
  ·have a1:k<li c.S:=(by have:=b3;omega);obtain⟨d,A⟩:=gx (l:=c.S) a1;obtain⟨b5,a5⟩:=r.mS d (kF A);have O:=aIh r.rS A;have b4:sG p d.1=some (ii ip (d.2:Int)):=by
    obtain⟨u,_⟩|⟨c9,v,u,b6,b9⟩:=vI.get d.1 a3;·rw[O]at u;cases u
    rw[O]at u;obtain rfl:=tE u;rw[b6,b9]
   obtain⟨Y,I,a6⟩:=tD z (show 0<li p by omega);have a2:Q Y:=(by rw[c0];exact Ij ⟨by have:=(z.lt Y (by rw[I];rfl)).1;have:=b2.o.size;omega,aG z _ (by rw[I];rfl)⟩);have c4:=H.cell (a6 k (ii ip (d.1:Int)) (by have:=a3.kcells;unfold cR at this⊢;rw[this,wI,A];rfl)) a2;subst I;have x:=b.o.blk.a 10;have W:=b.o.blk.a 12;have u:Buf wr.drew wr.drew.heap.size (si none 0 0) []:=gD _ _ _ _;have⟨b7,b8⟩:=hh2 (eH u d.2 a5 (by simp) (tA _)) (aPl R A);have b0:d.1<=9223372036854775807:=(by have:=T.o;omega);clear a6 a2 O a5 a1;go_upto_region 13 with fail;refine aj (λj=>j.cell? ⟨bc,10,none⟩=some (pi (some ⟨g,0,none⟩))/\j.cell? ⟨bc,12,none⟩=some (.map (some bs))/\VAt j bs p) [0,1,2,3,4,5,6,7,8,9,10] ?_;refine tks [0,1,2,3,4,5,6,7,8,9] ?_;iterate 10 (refine ac ⟨x,W,b.o.spare⟩ ?_)
   refine tke ?_;refine tv 10 (ii ip (d.2:Int)) rfl rfl ⟨x,W,b.o.spare⟩ (Ii ⟨rfl,λj a0=>aGj rfl rfl rfl (by have:=a0.2.2.look Tryz.underlying140 (aJO j) (k:=d.1) b0;rw[b4]at this;exact this)⟩) ?_;simp only[nrm];refine ag 11 λK hK=>kA (l:=[.const (si none 0 0),.tmp 67]) rfl [si none 0 0,ii ip (d.2:Int)] rfl (bR _) (b7.o.mono ?_);rintro e b' ⟨v5,rfl,u⟩;have t:Fr [] wr.drew b':=u.fr;obtain⟨Z,J,a7⟩:=dA.of_row rfl u.buf t.size;have i:=lh (b.o.quiet t);refine⟨_,rfl,hK _ _ (λ_=>⟨i.o.blk.a 10,i.o.blk.a 12,i.o.spare⟩) ?_⟩;simp only[nrm];clear hK;have C:Hid (fL s (aAz R (c.S.take k))):=lh (aBO _ b1.o);have U:=lh (aHQ i.o.px (by rw[C.o.br];exact a') d.1 (by rw[C.o.n,<- a9];exact b5) v5 (b16 d.2) Z J (by show 2<=512;omega));refine ag 12 λK hK=>kA (l:=[.tmp 60,.tmp 61,.tmp 68]) rfl [pi (some ⟨g,0,none⟩),ii ip (d.1:Int),v5] rfl (sR _) (U.o.mono ?_);rintro e L ⟨rfl,N,y⟩;have f:=lh (i.o.keep N y);refine⟨_,rfl,hK _ _ (λ_=>⟨f.o.blk.a 10,f.o.blk.a 12,f.o.spare⟩) ?_⟩;simp only[nrm];clear hK;refine af 13 (λ_=>⟨f.o.blk.a 10,f.o.blk.a 12,f.o.spare⟩) ?_;refine wd ?_ _;have HX:Hid (∃F:Nat,F<=li p/\ii ip ((k:Int)+1)=ii ip (F:Int)/\pX w0 g bc bn bs dk c m p Q (aAz R (c.S.take F)) L/\Kp Q a8 L):=lh ⟨k+1,c1,rfl,by rw[b8.o];exact f.o,((H.more (Kp.of ((jj [] _).drew))).more (Kp.of t)).more y⟩;clear x W c4 i f N y J a7 t u;have V:=wi k (by have:=c2;have:=b3;have:=T.o;omega);exact Z7
  obtain rfl:k=li p:=(by omega);have d:Hid (c.S.take (li p)=c.S):=lh (by rw[b3];exact aAZ);rw[d.o]at b;have C:Hid (fL s (aAz R c.S)):=lh (aBO _ b1.o);have d:=lh ((c7.o.more (H.less E.o)).more (Kp.of ((jj [] _).drew)));have x:=b.o.blk.a 10;have u:=r.next;have z:=T.o;have m:=λj=>aMq c (w:=j) (by omega) r.head r.roots;go_upto_region 17 with fail;refine aj (λj=>j.cell? ⟨bc,10,none⟩=some (pi (some ⟨g,0,none⟩))/\Blk j bc 142 (chC c g bn bs)) [0,1,2,3,4,5,6,7] ?_;refine tks [0,1,2,3,4,5,6] ?_;iterate 7 (refine ac ⟨x,b.o.blk⟩ ?_)
  refine tke ?_;refine tv 7 (il (spC c).toArray) rfl rfl ⟨x,b.o.blk⟩ (yieldsIf_load_mid rfl 138 (.tmp 80) rfl bc 0 rfl (spC c) _ (λj a0 F v p=>by rw[nB];exact a0.2.at_ (aUA c g bn bs p)) underlying138 rfl (by kernel_rfl)) ?_;simp only[nrm];refine ag 8 λK hK=>kA (l:=[.tmp 81]) rfl [il (spC c).toArray] rfl (aCD _) ((m _).mono ?_);rintro e b' ⟨v5,rfl,⟨Z,J,a7⟩,t⟩;have i:=lh (b.o.quiet t);refine⟨_,rfl,hK _ _ (λ_=>⟨i.o.blk.a 10,i.o.blk⟩) ?_⟩;simp only[nrm];clear hK;have U:=lh (aHQ i.o.px (by rw[C.o.br];exact a') 0 (by rw[C.o.n,<- a9];exact h0) v5 (oM c) Z J (by rw[bZ];omega));refine ag 9 λK hK=>kA (l:=[.tmp 77,.const (ii ip 0),.tmp 82]) rfl [pi (some ⟨g,0,none⟩),ii ip 0,v5] rfl (sR _) (U.o.mono ?_);rintro e L ⟨rfl,N,y⟩;have f:=lh (i.o.keep N y);refine⟨_,rfl,hK _ _ (λ_=>⟨f.o.blk.a 10,f.o.blk⟩) ?_⟩;simp only[nrm];clear hK;refine af 10 (λ_=>⟨f.o.blk.a 10,f.o.blk⟩) ?_;refine wd ?_ _;have HX:=lh (c'.o _ _ ⟨rfl,(show PgX w0 L dk g (cV s c) X by unfold cV;rw[<- c6];exact f.o.px.weak λq B=>E.o q (Ii B)),((d.o.more (Kp.of t)).more (y.less E.o)).less λq B=>Ii B⟩);clear x i f N y J a7 t;go_wp2_with fail;exact HX.o
end
end
end Go.Proofs.YtebjhcjbfaaejaaGreatDoor
