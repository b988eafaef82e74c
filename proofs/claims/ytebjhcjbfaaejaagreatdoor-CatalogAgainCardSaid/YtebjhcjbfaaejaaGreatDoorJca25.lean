/-
  Joined: CatK CatM CatL
-/
import Derived.Test.YtebjhcjbfaaejaaGreatDoorJca24
set_option maxRecDepth 100000
set_option maxHeartbeats 32000000
namespace Go.Proofs.YtebjhcjbfaaejaaGreatDoor
open Go.Proofs.Tryz
variable {n:Nat}
section
open Go.RowKit Go.ChangeMaps Go.MapKept Go.Maps Go.Sort Go.Shelf
theorem aEa{d:Func}{R:Ending->World->Prop}{tmps:Array Value}{w:World}{k:Tmp}{b:Nat}{n:Int}(f:d.results=#[.cell k 27])(g:tmps.getD k undef=.pointer (some ⟨b,0,none⟩))(i:w.cell? ⟨b,0,none⟩=some (.int .i64 n))(h:R (.returned (.int .i64 n)) w):bodyPost prog d R .ret ⟨tmps,[]⟩ w:=by
 refine eF (v:=.int .i64 n) ?_ rfl h;have c:tmps[k]?.getD undef=.pointer (some ⟨b,0,none⟩):=by simpa using g
 simp[results,f,c,go_sem,i]
section
variable {w0 w w' : World} {dk g st ca : Nat} {x x' : SE} {X Y : Nat -> Prop}
theorem CtX.other(h:CtX w0 w dk g st ca x X){b:Nat}(d:Fr [b] w w')(f:X b)(h0:w0.heap.size<=b)(h1:st≠b)(h2:ca≠b):CtX w0 w' dk g st ca x X:=
 ⟨⟨h.sx.px.other d (by intro q c;rw[aB.1 c];exact f) (by intro q c;rw[aB.1 c];exact h0),h.sx.blk.fr d (by simp[h1]),h.sx.xs,h.sx.br,h.sx.calm,h.sx.store⟩,h.blk.fr d (by simp[h2]),h.xc⟩
theorem Kp.new{b:Nat}(d:Fr [b] w w')(f:¬ X b):Kp X w w':=⟨[b],d,by intro q c;rw[aB.1 c];exact f⟩
theorem aPI(h:CtX w0 w dk g st ca x X)(d f:Int)(cs j:ByteArray)(hi:idB f=false):
  Calls prog 58 #[.pointer (some ⟨ca,0,none⟩),.agg #[.int .i64 d,.string cs,.int .i64 f,.string j]] w (qI w0 dk g st ca x X (x,1) w):=by
 refine gA fun R i=>?_;have H:=lh h;have c:=lh (fun W:World=>kI (w:=W) f);rw[hi]at c;clear h hi
 go_enter func58,ntmps58
 go_wp2_with fail;refine(c.o _).mono ?_;rintro e w1 ⟨rfl,rfl⟩;go_wp2_with fail;refine aEa rfl rfl (b:=w.heap.size+1+1) (n:=1) (by go_simp) (i.o _ _ (qI.none H.o ((((Fr.refl [] w).alloc _).alloc _).alloc _)))
theorem aEb(b:Array Value)(w:World):(callFunc 84 b).run prog w=.ok (.enter 84 b) w:=by kernel_rfl
theorem aPJ(h:CtX w0 w dk g st ca x X)(d f:Int)(cs i:ByteArray)(hi:idB f=true)(l:65536<i.size):
  Calls prog 58 #[.pointer (some ⟨ca,0,none⟩),.agg #[.int .i64 d,.string cs,.int .i64 f,.string i]] w (qI w0 dk g st ca x X (x,4) w):=by
 refine gA fun R k=>?_;have H:=lh h;have c:=lh (fun W:World=>kI (w:=W) f);rw[hi]at c;have j:(65536:Int)<(i.size:Int):=by omega
 clear h hi l
 go_enter func58,ntmps58
 go_wp2_with fail;refine(c.o _).mono ?_;rintro e w1 ⟨rfl,rfl⟩;go_wp2_with fail;refine aEa rfl rfl (b:=w.heap.size+1+1) (n:=4) (by go_simp) (k.o _ _ (qI.none H.o ((((Fr.refl [] w).alloc _).alloc _).alloc _)))
theorem aQS(h:CtX w0 w dk g st ca x X){N:Nat}(G:rD N x.E)(hN:N<=900000){c:Ct}(hR:Rep x.E c)(d f:Int)(cs U:ByteArray)(hn:nmB (bA cs)=true)(hi:idB f=true)(hl:U.size<=65536)(m:(cutS x (nB (bA cs) [f.toNat])).2≠0):
  Calls prog 58 #[.pointer (some ⟨ca,0,none⟩),.agg #[.int .i64 d,.string cs,.int .i64 f,.string U]] w (qI w0 dk g st ca x X (cutS x (nB (bA cs) [f.toNat])) w):=by
 refine gA fun R HQ=>?_;have H:=lh h;have HN:=lh hN;have b6:=lh G;have b7:=lh hR.keys;have hz:=uF hn;have Z:=zA cs;have a4:=lh (fun W:World=>kI (w:=W) f);rw[hi]at a4;have a5:=lh (fun W=>sZ W f hi);have a6:=mL.1 hi;obtain⟨V,u⟩:∃K,nB (bA cs) [f.toNat]=K:=⟨_,rfl⟩;rw[u]at m HQ;obtain⟨⟨y1,y2⟩,hy⟩:∃y,cutS x V=y:=⟨_,rfl⟩
 have b8:Hid (∀(W:World),Calls prog 45 #[.string cs,.slice (some ⟨W.heap.size,0,none⟩) 1 1] (W.alloc (.cells #[.int .i64 f] 3)) fun e w'=>∃v',e=.returned v'/\(∃q,cA w' v' V q/\W.heap.size+1<=q)/\Fr [] (W.alloc (.cells #[.int .i64 f] 3)) w'):=lh fun W=>by
  have:=rN (w:=W.alloc (.cells #[.int .i64 f] 3)) cs [f.toNat] hz.1 (by omega) (by simp;omega) (by simp) (a5.o W);rw[u,xC]at this;exact this
 have a7:V.length<=96/\1<=V.length:=by rw[<- u,sH];simp;omega
 have a8:=lh a7;have b9:Hid (aft V≠[]):=lh (by rw[<- u];exact pV _ _);rw[hy]at m HQ;have b':=lh hy;have c':(y2 !=0)=true:=by rw[aJ];exact m
 have d0:¬ (65536:Int)<(U.size:Int):=by omega
 obtain⟨F,r⟩:=nm (((w.alloc (.cells #[.pointer (some ⟨ca,0,none⟩)] 30)).alloc (.cells #[.int .i64 d,.string cs,.int .i64 f,.string U] 65)).alloc (.cells #[.int .i64 0] 27));have a9:Fr [] w F:=by rw[r];exact(((Fr.refl [] w).alloc _).alloc _).alloc _
 have c0:Hid (Blk F w.heap.size 30 [.pointer (some ⟨ca,0,none⟩)]):=lh (by rw[r];exact((Blk.new w _ [.pointer (some ⟨ca,0,none⟩)]).alloc _).alloc _);have I:Hid (Blk F (w.heap.size+1) 65 [.int .i64 d,.string cs,.int .i64 f,.string U]):=lh (by rw[r];have:=(Blk.new (w.alloc (.cells #[.pointer (some ⟨ca,0,none⟩)] 30)) 65 [.int .i64 d,.string cs,.int .i64 f,.string U]).alloc (.cells #[.int .i64 0] 27);rwa [xC]at this);have c1:Hid (Blk F (w.heap.size+2) 27 [.int .i64 0]):=lh (by rw[r];have:=Blk.new ((w.alloc (.cells #[.pointer (some ⟨ca,0,none⟩)] 30)).alloc (.cells #[.int .i64 d,.string cs,.int .i64 f,.string U] 65)) 27 [.int .i64 0];rwa [xC,xC]at this);have c2:=lh a9;clear h G hN hR hi u hy a7 hz Z a6 a5 hn m a9 hl
 go_enter func58,ntmps58
 go_upto_region 1 with fail
 rw[show w.heap.size+1+1=w.heap.size+2 by omega,<- r];clear r;have a0:=c0.o.at_ (i:=0) rfl;have a1:=I.o.at_ (i:=1) rfl;have a2:=I.o.at_ (i:=2) rfl;have a3:=I.o.at_ (i:=3) rfl;go_wp2_with fail;refine(a4.o _).mono ?_;rintro e w1 ⟨rfl,rfl⟩;go_upto_region 5 with fail
 refine lA (fun W=>W.cell? ⟨w.heap.size,0,none⟩=some (.pointer (some ⟨ca,0,none⟩))/\W.cell? ⟨w.heap.size+1,1,none⟩=some (.string cs)/\W.cell? ⟨w.heap.size+1,2,none⟩=some (.int .i64 f)) [0,1,2,3,4,8,9,10] (by kernel_rfl) ?_;have p:Fr [] F F.drew:=(Fr.refl [] F).drew;have a':=lh (c2.o.trans p)
 replace a0:=aA p a0
 replace a1:=aA p a1
 replace a2:=aA p a2
 have b0:=lh (c1.o.fr p);clear p;generalize F.drew=wd at *;refine tks [0,1,2,3,4] ?_
 iterate 5 (refine tk rfl rfl ⟨a0,a1,a2⟩ rfl (fun _ hW=>by(obtain⟨q0,q1,q2⟩:=hW;go_simp)<;>with_reducible rfl) ?_;simp only[nrm])
 refine tke ?_;refine sp 5 rfl rfl rfl fun K hK=>?_;obtain⟨w5,D⟩:=nm (wd.alloc (.cells #[.int .i64 f] 3));have j:Fr [] wd w5:=by rw[D];exact(Fr.refl [] wd).alloc _
 have J:=aA j a0;have L:=aA j a1;have M:=aA j a2;refine xB (v:=.slice (some ⟨wd.heap.size,0,none⟩) 1 1) (w':=w5) (by rw[D];go_simp<;>rfl) (hK _ _ (fun _=>⟨J,L,M⟩) ?_);simp only[nrm];clear hK;have t:=lh (b8.o wd);rw[<- D]at t;refine sp 6 rfl rfl rfl fun K hK=>?_;refine jA (l:=[.tmp 23,.tmp 26]) rfl [.string cs,.slice (some ⟨wd.heap.size,0,none⟩) 1 1] rfl (cM _) ((t.o).mono ?_);rintro e w6 ⟨vk,rfl,⟨q,hk,hq⟩,k⟩;have z:=aA k J;have O:=aA k L;have P:=aA k M;refine⟨_,rfl,hK _ _ (fun _=>⟨z,O,P⟩) ?_⟩;simp only[nrm];clear hK;have Q:Fr [] w w6:=a'.o.trans (j.trans k);have b1:=vE hk (by have:=a8.o;omega);have c3:=lh (H.o.fr Q);have b2:=lh (aBK c3.o b6.o HN.o b7.o hk (.inr ⟨by have:=a'.o.size;omega,b1⟩) b9.o (by have:=a8.o;omega));obtain⟨Ak,ck,_,rfl,_,_⟩:=_root_.id hk;have c4:=lh Q;have b3:w.heap.size+2<w6.heap.size:=by have:=aP z;have:=b0.o.lt;have:=j.size;have:=k.size;omega
 have c5:=lh (b0.o.fr (j.trans k));clear hk hq j k Q b1 t J L M D;refine sp 7 rfl rfl rfl fun K hK=>?_;refine jA (l:=[.tmp 21,.tmp 27]) rfl [.pointer (some ⟨ca,0,none⟩),.slice Ak V.length ck] rfl (aEb _) (b2.o.mono ?_);rintro e w7 ⟨rfl,S,T,s⟩;have A:=s.cell z (.inr ⟨tA _,by omega⟩);have B:=s.cell O (.inr ⟨by omega,by omega⟩);have C:=s.cell P (.inr ⟨by omega,by omega⟩);have b4:=lh (s.blk c5.o (.inr ⟨by omega,b3⟩));rw[b'.o]at S T⊢;refine⟨_,rfl,hK _ _ (fun _=>⟨A,B,C⟩) ?_⟩;simp only[nrm];clear hK;have c6:=lh S;have c8:=lh T;have c9:=lh ((Kp.of c4.o).more (Kp.less s fun q hq=>.inl hq));clear S T s z O P b2;refine tks [8,9,10] ?_
 iterate 3 (refine tk rfl rfl ⟨A,B,C⟩ rfl (fun _ hW=>by(obtain⟨q0,q1,q2⟩:=hW;go_simp)<;>with_reducible rfl) ?_;simp only[nrm])
 refine tke ?_;refine sp 11 rfl rfl rfl fun K hK=>?_;refine nA (v:=?aq1_11) ?yq1_11 (hK _ _ (fun _=>⟨A,B,C⟩) ?_)
 case yq1_11=>go_simp<;>with_reducible rfl
 simp only[nrm];refine sp 12 rfl rfl rfl fun K hK=>?_;refine nA (v:=?aq1_12) ?yq1_12 (hK _ _ (fun _=>⟨A,B,C⟩) ?_)
 case yq1_12=>go_simp<;>with_reducible rfl
 simp only[nrm];refine _root_.Go.Proofs.YtebjhcjbfaaejaaGreatDoor.wd ?_ _;have e0:=b4.o.at_ (i:=0) rfl;have ef:=b4.o.free;go_wp2_with fail;have b5:Fr [w.heap.size+2] w7 (w7.setCell ⟨w.heap.size+2,0,none⟩ (.int .i64 y2)):=(Fr.refl _ _).setCell (.inl (by simp)) _;have d1:=H.o.lt _ H.o.sx.xs;have d2:=H.o.lt _ H.o.xc;refine aEa rfl rfl (b:=w.heap.size+2) (n:=y2) (World.cell?_setCell_same _ _ _ e0) (HQ.o _ _ ⟨rfl,(c6.o.other b5 (.inr ⟨by omega,b3⟩) (aF H.o.frame.size (by omega)) (by omega) (by omega)).weak (fun q hq=>.inl hq) H.o.sx.xs H.o.xc,c8.o,c9.o.more (Kp.new b5 fun hx=>by have:=H.o.lt _ hx;omega)⟩)
end
structure yU (w0:World) (dk g st ca:Nat) (y:SE) (Z:Nat->Prop) (b7 bE:Nat) (wl:World) (n7 ve:Int) (s0:PS) (W:World):Prop where
 ex:∃X':Nat->Prop,CtX w0 W dk g st ca y X'/\(∀q,Z q->X' q)/\(∀q,wl.heap.size<=q->q<wl.heap.size+2->q<W.heap.size->X' q)
 wr:Wr s0 y.s
 kp:Kp (fun q=>Z q/\q≠b7/\q≠bE) wl W
 c7:Blk W b7 3 [.int .i64 n7]
 ce:Blk W bE 27 [.int .i64 ve]
section
variable {w0 wl W W' : World} {dk g st ca b7 bE : Nat} {y : SE} {Z X : Nat -> Prop} {n7 ve : Int} {s0 : PS}
theorem Kp.size(h:Kp X W W'):W.heap.size<=W'.heap.size:=by obtain⟨_,b,_⟩:=h;exact b.size
theorem Kp.block(h:Kp X W W'){q:Nat}(f:X q)(i:q<W.heap.size):W'.heap[q]? = W.heap[q]?:=by obtain⟨S,b,c⟩:=h;exact b.block q i fun d=>c q d f
theorem yU.drew(h:yU w0 dk g st ca y Z b7 bE wl n7 ve s0 W):yU w0 dk g st ca y Z b7 bE wl n7 ve s0 W.drew:=by
 obtain⟨f,a,b,c⟩:=h.ex;have d:Fr [] W W.drew:=(Fr.refl [] W).drew;exact⟨⟨f,a.stay d,b,c⟩,h.wr,h.kp.more (Kp.of d),h.c7.fr d,h.ce.fr d⟩
theorem yU.alloc(h:yU w0 dk g st ca y Z b7 bE wl n7 ve s0 W)(o:Obj):yU w0 dk g st ca y Z b7 bE wl n7 ve s0 (W.alloc o):=by
 obtain⟨i,a,b,c⟩:=h.ex;have d:Fr [] W (W.alloc o):=(Fr.refl [] W).alloc o;refine⟨⟨_,a.fr d,fun q f=>.inl (b q f),fun q h1 h2 h3=>?_⟩,h.wr,h.kp.more (Kp.of d),h.c7.fr d,h.ce.fr d⟩
 by_cases f:q<W.heap.size
 ·exact .inl (c q h1 h2 f)
 ·exact .inr ⟨by omega,h3⟩
theorem yU.putObj(h:yU w0 dk g st ca y Z b7 bE wl n7 ve s0 W)(f:∀q,Z q->q<wl.heap.size)(i:Z st)(j:Z ca)(n:Z b7)(o:Z bE)(h0:w0.heap.size<=wl.heap.size)(p:wl.heap.size+1<W.heap.size)(k:Obj):yU w0 dk g st ca y Z b7 bE wl n7 ve s0 (W.putObj (wl.heap.size+1) k):=by
 obtain⟨l,a,b,c⟩:=h.ex;have d:Fr [wl.heap.size+1] W (W.putObj (wl.heap.size+1) k):=(Fr.refl _ _).grown (Go.grownBy_putObj' _ _ k) (fun r e=>by cases e;exact .inl (by simp));have s:=f st i;have t:=f ca j;have u:=f b7 n;have v:=f bE o;refine⟨⟨l,a.other d (c _ (by omega) (by omega) p) (by omega) (by omega) (by omega),b,fun q h1 h2 h3=>c q h1 h2 ?_⟩,h.wr,h.kp.more (Kp.new d fun m=>?_),h.c7.fr d (by simp;omega),h.ce.fr d (by simp;omega)⟩
 ·have:=d.size;omega
 ·have:=f _ m.1;omega
theorem yU.setE(h:yU w0 dk g st ca y Z b7 bE wl n7 ve s0 W)(m:Z bE)(h0:w0.heap.size<=bE)(h1:st≠bE)(h2:ca≠bE)(h3:b7≠bE)(v:Int):yU w0 dk g st ca y Z b7 bE wl n7 v s0 (W.setCell ⟨bE,0,none⟩ (.int .i64 v)):=by
 obtain⟨f,a,b,c⟩:=h.ex;have d:Fr [bE] W (W.setCell ⟨bE,0,none⟩ (.int .i64 v)):=(Fr.refl _ _).setCell (.inl (by simp)) _;refine⟨⟨f,a.other d (b _ m) h0 h1 h2,b,fun q i j k=>c q i j (by simpa using k)⟩,h.wr,h.kp.more (Kp.new d fun l=>l.2.2 rfl),h.c7.fr d (by simpa using h3),h.ce.set_ 0 (.int .i64 v)⟩
end
theorem aIQ{W:World}{C:Nat}{b:List UInt8}{k:Nat}(h:cA W (.slice (some ⟨n,0,none⟩) b.length C) b n)(p:64*k<b.length):cA W (aIP n 0 b.length k) (pc b k) n:=by
 obtain⟨A,c,off,m,o,d⟩:=h;injection m with h1 h2 h3;subst h3;obtain⟨e,g⟩:=d (by omega);rw[<- h1]at e
 have l:off=0:=by
  injection e with e;injection e with _ e;exact e.symm
 subst l;have i:(pc b k).length=min 64 (b.length-64*k):=by unfold pc;rw[jC,mC]
 refine⟨_,_,0+64*k,by unfold aIP;rw[i],by rw[i];exact tA _,fun _=>⟨rfl,fun j u f=>?_⟩⟩;unfold pc at f;rw[pM,bJ,xG]at f
 split at f
 ·rw[xJ]at f;have:=g _ u f;rw[cC]at this;rw[cC];exact this
 ·cases f
end
section
open Go.RowKit Go.ChangeMaps Go.MapKept Go.Maps Go.Sort Go.Shelf
attribute [local go_sem] Oper.semAt_some
theorem rV(s:Ky)(n:Nat)(b:List UInt8):∀(m j:Nat) (x:SE),layS s n b j (m+1) x=if (layS s n b j m x).2=0 then putS (layS s n b j m x).1 0 (nB s [n,j+m]) (pc b (j+m)) else layS s n b j m x
 | 0,j,x=>by
  show(if _=0 then layS s n b (j+1) 0 _ else _)=if (0:Int)=0 then putS x 0 (nB s [n,j+0]) (pc b (j+0)) else _
  rw[iA rfl,aAa]
  split
  ·rename_i h
   show(_,(0:Int))=_
   rw[<- h]
   rfl
  ·rfl
 | m+1,j,x=>by
  have h1:∀m,layS s n b j (m+1) x=if (putS x 0 (nB s [n,j]) (pc b j)).2=0 then layS s n b (j+1) m (putS x 0 (nB s [n,j]) (pc b j)).1 else putS x 0 (nB s [n,j]) (pc b j):=fun _=>rfl
  rw[h1 (m+1),h1 m]
  by_cases h:(putS x 0 (nB s [n,j]) (pc b j)).2=0
  ·rw[iA h,iA h,rV s n b m (j+1),show j+1+m=j+(m+1) by omega]
  ·rw[eA h,eA h,eA h]
theorem aFn(s:Ky)(n:Nat)(b:List UInt8)(j m:Nat)(x:SE)(h:(layS s n b j m x).2≠0):∀i,layS s n b j (m+i) x=layS s n b j m x
 | 0=>rfl
 | i+1=>by
  have c:=aFn s n b j m x h i;rw[show m+(i+1)=(m+i)+1 by omega,rV,c,eA h]
theorem zS{F:Fence}{n:Nat}{P:Program}{i:Func}{R:Ending->World->Prop}{l m:Array Value}(j:∀w,(results i l).run P w=(results i m).run P w):∀(g:List Deferred) (u:FrameMode) (w:World),LeavesInM F n P i l R g u w->LeavesInM F n P i m R g u w
 | [],.returning,w,⟨v,h1,h2⟩=>⟨v,(j w).symm.trans h1,h2⟩
 | [],.panicking _,_,h=>h
 | [],.run,_,h=>h
 | d::g,u,w,⟨h0,h⟩=>⟨h0,h.imp (fun⟨r,w',a,b,c⟩=>⟨r,w',a,b,zS j g u w' c⟩) fun⟨a,fv,cap,f,args,b,c,e,k⟩=>⟨a,fv,cap,f,args,b,c,e,k.mono fun o p w' h=>by
   cases o with
   | returned v=>exact zS j g _ w' h
   | panicked chain=>exact zS j g _ w' h
   | outgrown=>exact h⟩⟩
theorem mF{F:Fence}{n:Nat}{P:Program}{b:Func}{R:Ending->World->Prop}{c:List PanicEntry}{a:Act}{w:World}{d k:Nat}{t:TypeId}{v:Value}(g:b.results=#[.cell k t])(i:d≠k)(h:bodyPostM F n P b R (.panic c) (a.put (some d) v) w):bodyPostM F n P b R (.panic c) a w:=
 zS (fun w=>by
  have e:(a.put (some d) v).tmps.getD k undef=a.tmps.getD k undef:=by
   simp only[Act.put,Array.getD_eq_getD_getElem?];rw[Array.getElem?_setIfInBounds,eA i]
  have f:(a.put (some d) v).tmps[k]?.getD undef=a.tmps[k]?.getD undef:=by simpa using e
  unfold results;rw[g]
  simp[f]) a.defers _ w h
theorem aPK(w:World)(n:Int)(k:Nat)(b:idB n=true):iH (w.alloc (.cells #[.int .i64 n,.int .i64 (k:Int)] 3)) (.slice (some ⟨w.heap.size,0,none⟩) 2 2) 2 ([n.toNat,k].map fun n:Nat=>Value.int .i64 (n:Int)) w.heap.size:=by
 have h:=mL.1 b;have e:((n.toNat:Nat):Int)=n:=by omega
 show iH _ _ 2 [Value.int .i64 ((n.toNat:Nat):Int),Value.int .i64 (k:Int)] _
 rw[e];exact iH.of_blk (Blk.new w 3 [.int .i64 n,.int .i64 (k:Int)]) 2 2 (tA _)
theorem aIR(A:Option Addr)(n c:Nat)(w:World):Calls prog 82 #[.slice A n c,.int .i64 64] w fun e w'=>
  e=.returned (.func (.func 115) #[] #[.pointer (some ⟨w.heap.size,0,none⟩),.pointer (some ⟨w.heap.size+1,0,none⟩)])/\w'=(w.alloc (.cells #[.slice A n c] 67)).alloc (.cells #[.int .i64 64] 3):=by
 refine gA fun R b=>?_
 go_enter func82,ntmps82
 go_wp2_with fail;exact b.o _ _ ⟨rfl,rfl⟩
section
variable {w0 w w' : World} {dk g st ca : Nat} {x x' : SE} {X Y : Nat -> Prop}
theorem aQT(h:CtX w0 w dk g st ca x X){N:Nat}(h4:rD N x.E)(hN:N<=900000){c:Ct}(hR:Rep x.E c)(b8 B:Int)(cs ts:ByteArray)(hn:nmB (bA cs)=true)(hi:idB B=true)(hl:ts.size<=65536)(m0:(cutS x (nB (bA cs) [B.toNat])).2=0):
  Calls prog 58 #[.pointer (some ⟨ca,0,none⟩),.agg #[.int .i64 b8,.string cs,.int .i64 B,.string ts]] w (qI w0 dk g st ca x X (layS (bA cs) B.toNat (bA ts) 0 (np (bA ts)) (cutS x (nB (bA cs) [B.toNat])).1) w):=by
 refine gA fun R HQ=>?_;have H:=lh h;have HN:=lh hN;have s8:=lh h4;have s9:=lh hR.keys;have hz:=uF hn;have e6:=zA cs;have m1:=lh (fun W:World=>kI (w:=W) B);rw[hi]at m1;have m2:=lh (fun W=>sZ W B hi);have m3:=mL.1 hi;obtain⟨KY,g5⟩:∃K,nB (bA cs) [B.toNat]=K:=⟨_,rfl⟩;rw[g5]at m0 HQ;obtain⟨⟨y1,y2⟩,hy⟩:∃y,cutS x KY=y:=⟨_,rfl⟩
 have s':Hid (∀(W:World),Calls prog 45 #[.string cs,.slice (some ⟨W.heap.size,0,none⟩) 1 1] (W.alloc (.cells #[.int .i64 B] 3)) fun e w'=>∃v',e=.returned v'/\(∃q,cA w' v' KY q/\W.heap.size+1<=q)/\Fr [] (W.alloc (.cells #[.int .i64 B] 3)) w'):=lh fun W=>by
  have:=rN (w:=W.alloc (.cells #[.int .i64 B] 3)) cs [B.toNat] hz.1 (by omega) (by simp;omega) (by simp) (m2.o W);rw[g5,xC]at this;exact this
 have m4:Hid (∀(W:World) (k:Nat),k<4294967296->Calls prog 45 #[.string cs,.slice (some ⟨W.heap.size,0,none⟩) 2 2] (W.alloc (.cells #[.int .i64 B,.int .i64 (k:Int)] 3)) fun e w'=>∃v',e=.returned v'/\(∃q,cA w' v' (nB (bA cs) [B.toNat,k]) q/\W.heap.size+1<=q)/\Fr [] (W.alloc (.cells #[.int .i64 B,.int .i64 (k:Int)] 3)) w'):=lh fun W k hk=>by
  have:=rN (w:=W.alloc (.cells #[.int .i64 B,.int .i64 (k:Int)] 3)) cs [B.toNat,k] hz.1 (by omega) (by simp;omega) (by simp) (aPK W B k hi);rw[xC]at this;exact this
 have d7:Hid (∀k,(nB (bA cs) [B.toNat,k]).length<=96/\1<=(nB (bA cs) [B.toNat,k]).length):=lh fun k=>by rw[sH];simp;omega
 have h5:KY.length<=96/\1<=KY.length:=by rw[<- g5,sH];simp;omega
 have m5:=lh h5;have t0:Hid (aft KY≠[]):=lh (by rw[<- g5];exact pV _ _);rw[hy]at m0 HQ;have t1:=lh hy;have t2:Hid ((bA cs).length<=100):=lh (by omega);have m6:Hid (rD N y1.E):=lh (by have:=rD.cutS h4 KY;rw[hy]at this;exact this);obtain rfl:y2=0:=m0;have x6:¬ (65536:Int)<(ts.size:Int):=by omega
 obtain⟨wb,e5⟩:=nm (((w.alloc (.cells #[.pointer (some ⟨ca,0,none⟩)] 30)).alloc (.cells #[.int .i64 b8,.string cs,.int .i64 B,.string ts] 65)).alloc (.cells #[.int .i64 0] 27));have m7:Fr [] w wb:=by rw[e5];exact(((Fr.refl [] w).alloc _).alloc _).alloc _
 have m8:Hid (Blk wb w.heap.size 30 [.pointer (some ⟨ca,0,none⟩)]):=lh (by rw[e5];exact((Blk.new w _ [.pointer (some ⟨ca,0,none⟩)]).alloc _).alloc _);have j6:Hid (Blk wb (w.heap.size+1) 65 [.int .i64 b8,.string cs,.int .i64 B,.string ts]):=lh (by rw[e5];have:=(Blk.new (w.alloc (.cells #[.pointer (some ⟨ca,0,none⟩)] 30)) 65 [.int .i64 b8,.string cs,.int .i64 B,.string ts]).alloc (.cells #[.int .i64 0] 27);rwa [xC]at this);have t3:Hid (Blk wb (w.heap.size+2) 27 [.int .i64 0]):=lh (by rw[e5];have:=Blk.new ((w.alloc (.cells #[.pointer (some ⟨ca,0,none⟩)] 30)).alloc (.cells #[.int .i64 b8,.string cs,.int .i64 B,.string ts] 65)) 27 [.int .i64 0];rwa [xC,xC]at this);have t4:=lh m7;have e7:=lh hl;clear h h4 hN hR hi g5 hy h5 hz e6 m3 m2 hn m7 hl;refine(nM (n:=5)).1 ?_;refine Go.callsIn_of_wp_marks func58 rfl trivial ?_ rfl;simp only[ntmps58,eT,gD,List.length_nil,Nat.reduceAdd,Nat.reduceSub,Array.replicate_succ,aAi,List.push_toArray,List.append_toArray,eH,zI];have t5:=lh e5;clear e5
 gi_wp2_with (refine⟨trivial,?_⟩;gi_at_call 47;refine(nM.2 (m1.o _)).mono ?_;rintro e w' ⟨rfl,rfl⟩)
 rw[show w.heap.size+1+1=w.heap.size+2 by omega,<- t5.o];have a0:=m8.o.at_ (i:=0) rfl;have a1:=j6.o.at_ (i:=1) rfl;have a2:=j6.o.at_ (i:=2) rfl;refine fL (fun W=>W.cell? ⟨w.heap.size,0,none⟩=some (.pointer (some ⟨ca,0,none⟩))/\W.cell? ⟨w.heap.size+1,1,none⟩=some (.string cs)/\W.cell? ⟨w.heap.size+1,2,none⟩=some (.int .i64 B)) [0,1,2,3,4,8,9,10] (by kernel_rfl) ?_;have G:Fr [] wb wb.drew:=(Fr.refl [] wb).drew;have m9:=lh (t4.o.trans G)
 replace a0:=aA G a0
 replace a1:=aA G a1
 replace a2:=aA G a2
 have j7:=lh (t3.o.fr G);have i4:=lh (j6.o.fr G);have i5:=lh (m8.o.fr G);clear G;generalize wb.drew=wd at *;refine qA (i:=0) (some 21) ?vq1_0 rfl rfl (by kernel_rfl) (fun _ _ _ h=>mF (d:=21) (k:=4) rfl (by decide) h) ⟨a0,a1,a2⟩ (.inl ⟨rfl,fun W U=>?yq1_0⟩) ?_
 case yq1_0=>(obtain⟨q0,q1,q2⟩:=U;go_simp)<;>with_reducible rfl
 simp only[nrm];refine qA (i:=1) (some 22) ?vq1_1 rfl rfl (by kernel_rfl) (fun _ _ _ h=>mF (d:=22) (k:=4) rfl (by decide) h) ⟨a0,a1,a2⟩ (.inl ⟨rfl,fun W U=>?yq1_1⟩) ?_
 case yq1_1=>(obtain⟨q0,q1,q2⟩:=U;go_simp)<;>with_reducible rfl
 simp only[nrm];refine qA (i:=2) (some 23) ?vq1_2 rfl rfl (by kernel_rfl) (fun _ _ _ h=>mF (d:=23) (k:=4) rfl (by decide) h) ⟨a0,a1,a2⟩ (.inl ⟨rfl,fun W U=>?yq1_2⟩) ?_
 case yq1_2=>(obtain⟨q0,q1,q2⟩:=U;go_simp)<;>with_reducible rfl
 simp only[nrm];refine qA (i:=3) (some 24) ?vq1_3 rfl rfl (by kernel_rfl) (fun _ _ _ h=>mF (d:=24) (k:=4) rfl (by decide) h) ⟨a0,a1,a2⟩ (.inl ⟨rfl,fun W U=>?yq1_3⟩) ?_
 case yq1_3=>(obtain⟨q0,q1,q2⟩:=U;go_simp)<;>with_reducible rfl
 simp only[nrm];refine qA (i:=4) (some 25) ?vq1_4 rfl rfl (by kernel_rfl) (fun _ _ _ h=>mF (d:=25) (k:=4) rfl (by decide) h) ⟨a0,a1,a2⟩ (.inl ⟨rfl,fun W U=>?yq1_4⟩) ?_
 case yq1_4=>(obtain⟨q0,q1,q2⟩:=U;go_simp)<;>with_reducible rfl
 simp only[nrm];refine sp 5 rfl rfl rfl fun K hK=>?_;obtain⟨w5,O⟩:=nm (wd.alloc (.cells #[.int .i64 B] 3));have I:Fr [] wd w5:=by rw[O];exact(Fr.refl [] wd).alloc _
 have j8:=aA I a0;have j9:=aA I a1;have j':=aA I a2;refine xB (v:=.slice (some ⟨wd.heap.size,0,none⟩) 1 1) (w':=w5) (by rw[O];go_simp<;>rfl) (hK _ _ (fun _=>⟨j8,j9,j'⟩) ?_);simp only[nrm];clear hK;have a4:=lh (s'.o wd);rw[<- O]at a4;refine sp 6 rfl rfl rfl fun K hK=>?_;refine jA (l:=[.tmp 23,.tmp 26]) rfl [.string cs,.slice (some ⟨wd.heap.size,0,none⟩) 1 1] rfl (cM _) ((a4.o).mono ?_);rintro e w6 ⟨vk,rfl,⟨q,hk,hq⟩,a7⟩;have h6:=aA a7 j8;have k0:=aA a7 j9;have k1:=aA a7 j';refine⟨_,rfl,hK _ _ (fun _=>⟨h6,k0,k1⟩) ?_⟩;simp only[nrm];clear hK;have V:Fr [] w w6:=m9.o.trans (I.trans a7);have m':=vE hk (by have:=m5.o;omega);have t6:=lh (H.o.fr V);have n0:=lh (aBK t6.o s8.o HN.o s9.o hk (.inr ⟨by have:=m9.o.size;omega,m'⟩) t0.o (by have:=m5.o;omega));obtain⟨Ak,ck,_,rfl,_,_⟩:=_root_.id hk;have t7:=lh V;have k2:w.heap.size+2<w6.heap.size:=by have:=aP h6;have:=j7.o.lt;have:=I.size;have:=a7.size;omega
 have c6:=lh (j7.o.fr (I.trans a7));have k3:=lh (I.trans a7);clear hk hq I a7 V m' a4 j8 j9 j' O;refine sp 7 rfl rfl rfl fun K hK=>?_;refine jA (l:=[.tmp 21,.tmp 27]) rfl [.pointer (some ⟨ca,0,none⟩),.slice Ak KY.length ck] rfl (aEb _) (n0.o.mono ?_);rintro e w7 ⟨rfl,f',l7,d2⟩;have c8:=d2.cell h6 (.inr ⟨tA _,by omega⟩);have c9:=d2.cell k0 (.inr ⟨by omega,by omega⟩);have c':=d2.cell k1 (.inr ⟨by omega,by omega⟩);have n8:=lh (d2.blk c6.o (.inr ⟨by omega,k2⟩));rw[t1.o]at f' l7⊢;refine⟨_,rfl,hK _ _ (fun _=>⟨c8,c9,c'⟩) ?_⟩;simp only[nrm];clear hK;have k4:=lh d2;have t8:=lh f';have t9:=lh l7;have t':=lh ((Kp.of t7.o).more (Kp.less d2 fun q hq=>.inl hq));clear f' l7 d2 h6 k0 k1 n0;refine qA (i:=8) (some 20) ?vq1_8 rfl rfl (by kernel_rfl) (fun _ _ _ h=>mF (d:=20) (k:=4) rfl (by decide) h) ⟨c8,c9,c'⟩ (.inl ⟨rfl,fun W U=>?yq1_8⟩) ?_
 case yq1_8=>(obtain⟨q0,q1,q2⟩:=U;go_simp)<;>with_reducible rfl
 simp only[nrm];refine qA (i:=9) (some 29) ?vq1_9 rfl rfl (by kernel_rfl) (fun _ _ _ h=>mF (d:=29) (k:=4) rfl (by decide) h) ⟨c8,c9,c'⟩ (.inl ⟨rfl,fun W U=>?yq1_9⟩) ?_
 case yq1_9=>(obtain⟨q0,q1,q2⟩:=U;go_simp)<;>with_reducible rfl
 simp only[nrm];refine qA (i:=10) (some 30) ?vq1_10 rfl rfl (by kernel_rfl) (fun _ _ _ h=>mF (d:=30) (k:=4) rfl (by decide) h) ⟨c8,c9,c'⟩ (.inl ⟨rfl,fun W U=>?yq1_10⟩) ?_
 case yq1_10=>(obtain⟨q0,q1,q2⟩:=U;go_simp)<;>with_reducible rfl
 simp only[nrm];refine sp 11 rfl rfl rfl fun K hK=>?_;refine nA (v:=?aq1_11) ?yq1_11 (hK _ _ (fun _=>⟨c8,c9,c'⟩) ?_)
 case yq1_11=>go_simp<;>with_reducible rfl
 simp only[nrm];refine sp 12 rfl rfl rfl fun K hK=>?_;refine nA (v:=?aq1_12) ?yq1_12 (hK _ _ (fun _=>⟨c8,c9,c'⟩) ?_)
 case yq1_12=>go_simp<;>with_reducible rfl
 simp only[nrm];refine _root_.Go.Proofs.YtebjhcjbfaaejaaGreatDoor.wd ?_ _;have d3:=lh (k4.o.blk (i4.o.fr k3.o) (.inr ⟨by omega,by omega⟩));have i6:=lh (k4.o.blk (i5.o.fr k3.o) (.inr ⟨by omega,by omega⟩));have v0:Hid (w6.heap.size<=w7.heap.size):=lh (by obtain⟨_,hf,_⟩:=k4.o;exact hf.size);have k5:=lh k2;clear k2 c8 c9 c';obtain⟨w8,g6⟩:=nm (w7.alloc (.cells #[.int .i64 0] 3));have n9:Fr [] w7 w8:=by rw[g6];exact(Fr.refl [] w7).alloc _
 have n':Blk w8 w7.heap.size 3 [.int .i64 0]:=by rw[g6];exact Blk.new w7 _ [.int .i64 0]
 obtain⟨C,w9,s3,hC,b9,s4⟩:=aGR w8 ts (by have:=e7.o;omega);rw[g6]at s3;have a3:=d3.o.at_ (i:=3) (v:=.string ts) rfl;have o0:=d3.o.lt;have o1:=lh n9;have o2:=lh n';have o3:=lh b9;have h7:=lh s4;have o4:=lh g6;clear n9 n' b9 s4 g6
 gi_wp2_with (refine⟨trivial,?_⟩;gi_at_call 82;refine(nM.2 (aIR _ _ _ _)).mono ?_;rintro e w' ⟨rfl,rfl⟩)
 obtain⟨f,b'⟩:=nm ((w9.alloc (.cells #[.slice (some ⟨w7.heap.size+1,0,none⟩) ts.size C] 67)).alloc (.cells #[.int .i64 64] 3));have h8:Fr [] w9 f:=by rw[b'];exact((Fr.refl [] w9).alloc _).alloc _
 have o5:f.heap.size=w9.heap.size+2:=by rw[b'];simp
 have o6:Blk f w9.heap.size 67 [.slice (some ⟨w7.heap.size+1,0,none⟩) ts.size C]:=by rw[b'];exact(Blk.new w9 _ [.slice (some ⟨w7.heap.size+1,0,none⟩) ts.size C]).alloc _
 have o7:Blk f (w9.heap.size+1) 3 [.int .i64 64]:=by rw[b'];have:=Blk.new (w9.alloc (.cells #[.slice (some ⟨w7.heap.size+1,0,none⟩) ts.size C] 67)) 3 [.int .i64 64];rwa [xC]at this
 have o8:w8.heap.size=w7.heap.size+1:=by rw[o4.o];simp
 rw[<- b'];have e8:=lh (o1.o.trans (h7.o.trans h8));have k6:=lh o6;have o9:=lh o7;have h9:=lh o5;have b9:=o3.o.fr h8;rw[o8]at b9;obtain⟨b,hb⟩:∃b,bA ts=b:=⟨_,rfl⟩;have e9:b.length=ts.size:=by rw[<- hb];exact zA ts
 rw[hb]at b9 HQ;obtain⟨ln,s5⟩:∃ln,ts.size=ln:=⟨_,rfl⟩;rw[s5]at b9 e9 e7 k6⊢;have v1:Hid (cA f (.slice (some ⟨w7.heap.size+1,0,none⟩) b.length C) b (w7.heap.size+1)):=lh (by rw[e9];exact b9);have d8:=lh e9;have v2:ln<=C:=by obtain⟨A,c,off,h1,h2,_⟩:=b9;injection h1 with _ _ h1;rw[h1,<- e9];exact h2
 have d0:Hid (CtX w0 f dk g st ca y1 (kC (kC X w w6) w7 f)):=lh (t8.o.fr e8.o);have p0:=o2.o.fr (h7.o.trans h8);have p1:=n8.o.fr e8.o;have p2:=d3.o.fr e8.o;have p3:=i6.o.fr e8.o;have p4:=lh p1;have d4:=lh p2;have i7:=lh p3;have e':=lh p0;have f0:Hid (w.heap.size+2<w6.heap.size/\w6.heap.size<=w7.heap.size/\w7.heap.size+1<=w9.heap.size/\w.heap.size<=w6.heap.size):=lh ⟨k5.o,v0.o,by have:=h7.o.size;omega,by have:=k5.o;omega⟩;clear h8 o5 o6 o7 o8 b' b9 hb e9 s5 p0 p1 p2 p3 s3 a3 o0 o1 o2 o3 h7 o4 j7 i4 i5 c6 k3 n8 d3 i6;have f1:Hid (st<w.heap.size/\ca<w.heap.size/\w0.heap.size<=w.heap.size):=lh ⟨H.o.lt _ H.o.sx.xs,H.o.lt _ H.o.xc,H.o.frame.size⟩
 have f2:Hid (w7.heap.size<f.heap.size/\w.heap.size+2<w7.heap.size):=lh (by
  have h1:=e'.o.lt;have h2:=f0.o;omega)
 have Q:Hid (kC (kC X w w6) w7 f st/\kC (kC X w w6) w7 f ca/\kC (kC X w w6) w7 f w7.heap.size/\kC (kC X w w6) w7 f (w.heap.size+2)):=lh ⟨.inl (.inl H.o.sx.xs),.inl (.inl H.o.xc),.inr ⟨tA _,e'.o.lt⟩,.inl (.inr ⟨by omega,k5.o⟩)⟩;obtain⟨m,hm⟩:=nm ((ln+63) / 64);have HM:=lh hm;clear hm;have p5:Hid (ln≠0->np b=m):=lh (by intro h;unfold np;rw[d8.o,HM.o];omega)
 have p6:Hid (ln=0->np b=1/\m=0/\b=[]):=lh (by
  intro h;have:=HM.o;have hb:=d8.o;refine⟨by unfold np;rw[hb,h];decide,by omega,tO.1 (by omega)⟩)
 have fin:∀(t:Array Value) (W:World) (y:SE) (n7 ve:Int),t.getD 4 undef=.pointer (some ⟨w.heap.size+2,0,none⟩)->yU w0 dk g st ca y (kC (kC X w w6) w7 f) w7.heap.size (w.heap.size+2) f n7 ve y1.s W->W.heap[f.heap.size]? = some (.deferred (some []))->layS (bA cs) B.toNat b 0 (np b) y1=(y,ve) ->
   LeavesInM Fence.wide 5 prog f58 t R [{ target:=.collected f.heap.size,args:=#[] }] .returning W:=fun t W y n7 ve ht u hD hl=>by
  have b':f.heap.size<W.heap.size:=(uI.1 hD).1;have hf:Fr [f.heap.size] W (W.putObj f.heap.size (.deferred none)):=(Fr.refl _ _).grown (Go.grownBy_putObj' _ _ _) (fun r e=>by cases e;exact .inl (by simp));obtain⟨X',a1,a2,a3⟩:=u.ex;have n2:=f1.o;have n6:=f2.o;have v3:=u.ce.fr hf (by simp only[aB];omega);have v4:=v3.at_ (i:=0) rfl;refine⟨by simp,.inl ⟨_,_,rfl,run_takeDeferred hD,.int .i64 ve,?_,?_⟩⟩
  ·have v5:t[4]?.getD undef=.pointer (some ⟨w.heap.size+2,0,none⟩):=by simpa using ht
   simp[results,f58,go_sem,v5,v4]
  ·refine HQ.o _ _ ?_;rw[hl];refine⟨rfl,(a1.other hf (a3 _ (tA _) (by omega) b') (by omega) (by omega) (by omega)).weak (fun q hq=>a2 q (.inl (.inl hq))) H.o.sx.xs H.o.xc,t9.o.trans u.wr,t'.o.more ((Kp.of e8.o).more ((Kp.less u.kp fun q hq=>⟨.inl (.inl hq),?_,?_⟩).more (Kp.new hf fun hx=>?_)))⟩
   ·have:=H.o.lt q hq;omega
   ·have:=H.o.lt q hq;omega
   ·have:=H.o.lt _ hx;omega
 have f3:=lh fin;clear fin
 refine xV (F:=Fence.wide) (n:=5) (T:=fun pre (x:Fin m)=>pre=nK m x.1) (N:=m) (S:=fun ys=>ys=List.finRange m) (Sp:=fun _=>True) (w0:=f) (Kp:=fJ w9.heap.size (w9.heap.size+1)) rfl (by omega) (gf:=115) (lb:=#[.pointer (some ⟨w9.heap.size,0,none⟩),.pointer (some ⟨w9.heap.size+1,0,none⟩)]) (encs:=fun x:Fin m=>#[aIP (w7.heap.size+1) 0 ln x.1]) rfl trivial (Go.Proofs.enters_of func115 (by kernel_rfl) rfl)
  (fun l J Jx W U hJ hY h0=>aLb 4 l w9.heap.size (w9.heap.size+1) (w7.heap.size+1) 0 ln m C (some ⟨w7.heap.size+1,0,none⟩) (fun _=>rfl) v2 HM.o (by have:=e7.o;omega) (by omega) J Jx hY hJ W (yR (k6.o.at_ (i:=0) rfl) U) (yR (o9.o.at_ (i:=0) rfl) U) h0) fJ.trans ?kb (Below.refl _ _) (fun _=>rfl)
  (fun pre W=>(layS (bA cs) B.toNat b 0 pre.length y1).2=0/\yU w0 dk g st ca (layS (bA cs) B.toNat b 0 pre.length y1).1 (kC (kC X w w6) w7 f) w7.heap.size (w.heap.size+2) f pre.length 0 y1.s W)
  (fun c pre W=>c=.ret/\(layS (bA cs) B.toNat b 0 pre.length y1).2≠0/\pre.length<=m/\yU w0 dk g st ca (layS (bA cs) B.toNat b 0 pre.length y1).1 (kC (kC X w w6) w7 f) w7.heap.size (w.heap.size+2) f ((pre.length:Int)-1) (layS (bA cs) B.toNat b 0 pre.length y1).2 y1.s W)
  ?ai ?ax ?start
  (fun j=>{ tmps:=#[.pointer (some ⟨ca,0,none⟩),.agg #[.int .i64 b8,.string cs,.int .i64 B,.string ts],.pointer (some ⟨w.heap.size,0,none⟩),.pointer (some ⟨w.heap.size+1,0,none⟩),.pointer (some ⟨w.heap.size+2,0,none⟩),.int .i64 ((rC (x.E 0) KY).length:Int),.int .i64 0,.pointer (some ⟨w7.heap.size,0,none⟩),aIP (w7.heap.size+1) 0 ln j.1,undef,.bool false,.pointer (some ⟨w.heap.size+1,2,none⟩),.int .i64 B,.bool true,.bool false,.bool (decide (65536<(ln:Int))),.pointer (some ⟨w.heap.size+1,3,none⟩),.string ts,.int .i64 (ln:Int),.bool (decide (65536<(ln:Int))),.tuple #[.int .i64 ((rC (x.E 0) KY).length:Int),.int .i64 0],.pointer (some ⟨ca,0,none⟩),.pointer (some ⟨w.heap.size+1,1,none⟩),.string cs,.pointer (some ⟨w.heap.size+1,2,none⟩),.int .i64 B,.slice (some ⟨wd.heap.size,0,none⟩) 1 1,.slice Ak KY.length ck,.tuple #[.int .i64 ((rC (x.E 0) KY).length:Int),.int .i64 0],.int .i64 ((rC (x.E 0) KY).length:Int),.int .i64 0,.int .i64 0,.bool false,undef,.pointer (some ⟨w.heap.size+1,3,none⟩),.string ts,.slice (some ⟨w7.heap.size+1,0,none⟩) ln C,.func (.func 115) #[] #[.pointer (some ⟨w9.heap.size,0,none⟩),.pointer (some ⟨w9.heap.size+1,0,none⟩)],aIP (w7.heap.size+1) 0 ln j.1,undef,undef,undef,undef,undef,undef,undef,undef,undef,undef,undef,undef,undef,undef,undef,undef,undef,undef,undef,undef,undef,undef,undef,undef,undef,undef,undef,undef,undef,undef,undef],defers:=[] }) ?assign ?body ?done ?stop
 case assign=>
  intro l j W K hK
  gi_wp2
  exact hK
 case kb=>
  intro W l o o' hl ho _;have x7:=h9.o
  have h1:∀b,b<f.heap.size->(W.putObj l o').cell? ⟨b,0,none⟩=W.cell? ⟨b,0,none⟩:=fun b hb=>by
   unfold World.cell?;rw[Go.World.putObj_heap_other (show b≠l by omega)]
  exact⟨h1 _ (by omega),h1 _ (by omega)⟩
 case start=>exact⟨rfl,⟨_,d0.o,fun _ h=>h,fun q h1 h2 h3=>by omega⟩,Wr.refl _,Kp.of (Fr.refl _ _),e'.o,p4.o⟩
 case ai=>
  exact⟨fun _ W h=>⟨h.1,h.2.drew⟩,fun _ W o h _=>⟨h.1,h.2.alloc o⟩,fun _ W o o' h hl _=>⟨h.1,h.2.putObj d0.o.lt Q.o.1 Q.o.2.1 Q.o.2.2.1 Q.o.2.2.2 d0.o.frame.size (uI.1 hl).1 o'⟩⟩
 case ax=>
  exact fun c=>⟨fun _ W h=>⟨h.1,h.2.1,h.2.2.1,h.2.2.2.drew⟩,fun _ W o h _=>⟨h.1,h.2.1,h.2.2.1,h.2.2.2.alloc o⟩,fun _ W o o' h hl _=>⟨h.1,h.2.1,h.2.2.1,h.2.2.2.putObj d0.o.lt Q.o.1 Q.o.2.1 Q.o.2.2.1 Q.o.2.2.2 d0.o.frame.size (uI.1 hl).1 o'⟩⟩
 case body=>
  rintro l pre ⟨k,s6⟩ W U rfl ⟨g7,u⟩ _;have k7:(nK m k).length=k:=jX (by omega);rw[k7]at g7 u;have i8:(nK m k++[(⟨k,s6⟩:Fin m)]).length=k+1:=by rw[lB,k7];rfl
  obtain⟨y,hy⟩:∃y,layS (bA cs) B.toNat b 0 k y1=y:=⟨_,rfl⟩;have f5:=rV (bA cs) B.toNat b k 0 y1;rw[hy,cC]at f5;rw[hy]at g7 u;rw[iA g7]at f5;obtain⟨r,hr⟩:∃r,putS y.1 0 (nB (bA cs) [B.toNat,k]) (pc b k)=r:=⟨_,rfl⟩;rw[hr]at f5;have h5:64*k<b.length:=by have:=HM.o;have:=d8.o;omega
  have k8:k<4294967296:=by have:=e7.o;have:=d8.o;omega
  have p7:rD (N+k) y.1.E:=by
   have:=rD.layS (bA cs) t2.o B.toNat b k 0 m6.o
   rwa [hy]at this
  have k9:(y.1.E 0).length<=1000000:=by have:=p7.few 0;have:=HN.o;have:=e7.o;have:=d8.o;omega
  obtain⟨r1,r2⟩:=r;have h':=lh f5;have f6:=lh i8;have a5:=lh u;have k':=lh hr;have p8:=f0.o;have i9:=u.kp.size;have d9:kC (kC X w w6) w7 f w.heap.size/\w.heap.size≠w7.heap.size/\w.heap.size≠w.heap.size+2:=⟨.inl (.inr ⟨tA _,by omega⟩),by omega,by omega⟩;have a9:kC (kC X w w6) w7 f (w.heap.size+1)/\w.heap.size+1≠w7.heap.size/\w.heap.size+1≠w.heap.size+2:=⟨.inl (.inr ⟨by omega,by omega⟩),by omega,by omega⟩;have l0:kC (kC X w w6) w7 f (w7.heap.size+1)/\w7.heap.size+1≠w7.heap.size/\w7.heap.size+1≠w.heap.size+2:=⟨.inr ⟨by omega,by have:=h9.o;omega⟩,by omega,by omega⟩;obtain⟨X',c5,g8,g9⟩:=u.ex;have p9:=lh c5;have i0:=lh g8;have c6:=lh g9;have a0:=u.kp.cell (i7.o.at_ (i:=0) rfl) d9;have a1:=u.kp.cell (d4.o.at_ (i:=1) rfl) a9;have a2:=u.kp.cell (d4.o.at_ (i:=2) rfl) a9;have c1:=c5.blk.at_ (i:=1) rfl;have n7:=u.c7.at_ (i:=0) rfl;have p':=lh (u.kp.bytes v1.o l0);have c0:=lh U;have x8:=lh g7;clear f5 i8 u hr hy g7 p7 k7 c5 g8 g9
  gi_wp2
  refine fO (fun W=>W.cell? ⟨w.heap.size,0,none⟩=some (.pointer (some ⟨ca,0,none⟩))/\W.cell? ⟨ca,1,none⟩=some (.pointer (some ⟨st,0,none⟩))/\W.cell? ⟨w.heap.size+1,1,none⟩=some (.string cs)/\W.cell? ⟨w.heap.size+1,2,none⟩=some (.int .i64 B)/\W.cell? ⟨w7.heap.size,0,none⟩=some (.int .i64 (k:Int))) [0,1,2,3,4,5,6,7,8,11] (by kernel_rfl) (by kernel_rfl) (fun _ _ h=>h) ?_;have G:Fr [] W W.drew:=(Fr.refl [] W).drew
  replace a0:=aA G a0
  replace a1:=aA G a1
  replace a2:=aA G a2
  replace c1:=aA G c1
  replace n7:=aA G n7
  have c2:=lh G;clear G;generalize W.drew=Wd at *;refine tks [0,1,2,3,4,5,6,7,8,11] ?_
  iterate 10 (refine tk rfl rfl ⟨a0,c1,a1,a2,n7⟩ rfl (fun _ U=>by(obtain⟨q0,q1,q2,q3,q4⟩:=U;go_simp)<;>with_reducible rfl) ?_;simp only[nrm])
  refine tke ?_;refine sp 9 rfl rfl rfl fun K hK=>?_;obtain⟨w5,O⟩:=nm (Wd.alloc (.cells #[.int .i64 B,.int .i64 (k:Int)] 3));have I:Fr [] Wd w5:=by rw[O];exact(Fr.refl [] Wd).alloc _
  refine xB (v:=.slice (some ⟨Wd.heap.size,0,none⟩) 2 2) (w':=w5) (by rw[O];go_simp<;>rfl) (hK _ _ (fun _=>⟨aA I a0,aA I c1,aA I a1,aA I a2,aA I n7⟩) ?_);simp only[nrm];clear hK;have a4:=lh (m4.o Wd k k8);rw[<- O]at a4;refine sp 10 rfl rfl rfl fun K hK=>?_;refine jA (l:=[.tmp 44,.tmp 48]) rfl [.string cs,.slice (some ⟨Wd.heap.size,0,none⟩) 2 2] rfl (cM _) ((a4.o).mono ?_);rintro e a' ⟨vk,rfl,⟨q,hk,hq⟩,a7⟩;have V:Fr [] Wd a':=I.trans a7;have b0:=aA V a0;have b1:=aA V a1;have b2:=aA V a2;have b3:=aA V c1;have b4:=aA V n7;refine⟨_,rfl,hK _ _ (fun _=>⟨b0,b3,b1,b2,b4⟩) ?_⟩;simp only[nrm];clear hK;have c3:Fr [] W a':=c2.o.trans V;have c4:=vE hk (by have:=(d7.o k).2;omega);have b5:=lh (p9.o.fr c3);have q5:kC X' W a' (w7.heap.size+1):=.inl (i0.o _ l0.1);have d1:=lh (aLa b5.o (t:=0) (by omega) hk (.inr ⟨by have:=c2.o.size;omega,c4⟩) (aIQ (p'.o.fr c3) h5) q5 (d7.o k).2 (d7.o k).1 (aRW b k) k9);rw[k'.o,d8.o]at d1;have M:=lh c3;clear hk hq I a7 V c3 c4 O a4 q5;refine sp 12 rfl rfl rfl fun K hK=>?_;refine jA (l:=[.tmp 42,.const (.int .i64 0),.tmp 49,.tmp 50]) rfl [.pointer (some ⟨st,0,none⟩),.int .i64 ((0:Nat):Int),vk,aIP (w7.heap.size+1) 0 ln k] rfl (xU _) (d1.o.mono ?_);rintro e P ⟨rfl,g',O,D⟩;have Z:∀q,kC (kC X w w6) w7 f q->kC X' W a' q:=fun q hq=>.inl (i0.o q hq);have e0:=D.cell b0 (Z _ d9.1);have e1:=D.cell b1 (Z _ a9.1);have e2:=D.cell b2 (Z _ a9.1);have e3:=D.cell b3 b5.o.xc;have e4:=D.cell b4 (Z _ Q.o.2.2.1);refine⟨_,rfl,hK _ _ (fun _=>⟨e0,e3,e1,e2,e4⟩) ?_⟩;simp only[nrm];clear hK;refine sp 13 rfl rfl rfl fun K hK=>?_;refine nA (v:=?aq2_13) ?yq2_13 (hK _ _ (fun _=>⟨e0,e3,e1,e2,e4⟩) ?_)
  case yq2_13=>go_simp<;>with_reducible rfl
  simp only[nrm];refine _root_.Go.Proofs.YtebjhcjbfaaejaaGreatDoor.wd ?_ _;have b6:=D.blk (a5.o.c7.fr M.o) (Z _ Q.o.2.2.1);have a6:=D.blk (a5.o.ce.fr M.o) (Z _ Q.o.2.2.2);have f7:=a5.o.kp.more ((Kp.of M.o).more (Kp.less D (X:=fun q=>kC (kC X w w6) w7 f q/\q≠w7.heap.size/\q≠w.heap.size+2) fun q hq=>Z q hq.1));have q6:=a5.o.wr.trans O;have i1:∀q,f.heap.size<=q->q<f.heap.size+2->kC X' W a' q:=fun q h1 h2=>.inl (c6.o q h1 h2 (by have:=c0.o;omega));have i':=D.size;have q7:=M.o.size;have f8:P.heap[f.heap.size]? = W.heap[f.heap.size]?:=(D.block (i1 _ (tA _) (by omega)) (by have:=c0.o;omega)).trans (M.o.block _ (by have:=c0.o;omega) (by simp));have j0:P.heap[f.heap.size+1]? = W.heap[f.heap.size+1]?:=(D.block (i1 _ (by omega) (by omega)) (by have:=c0.o;omega)).trans (M.o.block _ (by have:=c0.o;omega) (by simp));have q8:kC (kC X w w6) w7 f w9.heap.size/\kC (kC X w w6) w7 f (w9.heap.size+1):=⟨.inr ⟨by omega,by have:=h9.o;omega⟩,.inr ⟨by omega,by have:=h9.o;omega⟩⟩;have q9:=lh g';have j1:=lh b6;have j2:=lh a6;have q':=lh f7;have r0:=lh q6;have j3:=lh i1;have r3:=lh f8;have j4:=lh j0;have r4:=lh D;have i2:=lh q8;have d':=lh Z;have f9:Hid (W.heap.size<=P.heap.size):=lh (aF q7 i');have f4:=b6.free 0;have fe:=a6.free 0;have ce:=a6.at_ (i:=0) rfl;clear g' O D b6 a6 f7 q6 i1 i' q7 f8 j0 q8 Z e0 e1 e2 e3 a0 a1 a2 c1 n7 b0 b1 b2 b3 b4 d1;have b7:w9.heap.size≠w7.heap.size/\w9.heap.size≠w.heap.size+2/\w9.heap.size+1≠w7.heap.size/\w9.heap.size+1≠w.heap.size+2:=by omega
  have l1:=a5.o.kp.cell (k6.o.at_ (i:=0) rfl) ⟨i2.o.1,b7.1,b7.2.1⟩;have l2:=a5.o.kp.cell (o9.o.at_ (i:=0) rfl) ⟨i2.o.2,b7.2.2.1,b7.2.2.2⟩;have l3:=r4.o.cell (aA M.o l1) (d'.o _ i2.o.1);have l4:=r4.o.cell (aA M.o l2) (d'.o _ i2.o.2);have r5:Hid (P.cell? ⟨w9.heap.size,0,none⟩=W.cell? ⟨w9.heap.size,0,none⟩/\P.cell? ⟨w9.heap.size+1,0,none⟩=W.cell? ⟨w9.heap.size+1,0,none⟩):=lh ⟨l3.trans l1.symm,l4.trans l2.symm⟩;have j5:Hid (w9.heap.size<P.heap.size/\w9.heap.size+1<P.heap.size):=lh ⟨aP l3,aP l4⟩;have r6:=lh b7;have r7:Hid (st<w.heap.size/\ca<w.heap.size/\w0.heap.size<=w.heap.size):=lh ⟨H.o.lt _ H.o.sx.xs,H.o.lt _ H.o.xc,H.o.frame.size⟩;have r8:Hid (f.heap.size+2<=P.heap.size):=lh (aF c0.o f9.o);have r9:Hid (w7.heap.size<f.heap.size/\w.heap.size+2<f.heap.size):=lh ⟨d0.o.lt _ Q.o.2.2.1,d0.o.lt _ Q.o.2.2.2⟩;clear l1 l2 l3 l4 b7 d9 a9 l0 p8 i9
  by_cases i3:r2=0
  ·subst i3;obtain⟨z,hz⟩:∃z:Int,z=((k+1:Nat):Int):=⟨_,rfl⟩;have x9:IntKind.i64.wrap ((k:Int)+1)=z:=by rw[iD];omega
   have HZ:=lh hz;clear hz
   gi_wp2
   have L:Fr [w7.heap.size] P (P.setCell ⟨w7.heap.size,0,none⟩ (.int .i64 z)):=(Fr.refl _ _).setCell (.inl (by simp)) _;have n1:=r6.o;have n2:=r7.o;have n3:=r8.o;have n4:=f0.o;have n5:=j5.o;have n6:=r9.o;have d5:=j1.o.set_ 0 (.int .i64 z);rw[HZ.o]at d5⊢;rw[HZ.o]at L;refine⟨⟨aF f9.o L.size,(L.block _ (by omega) (by simp only[aB];omega)).trans r3.o,(L.block _ (by omega) (by simp only[aB];omega)).trans j4.o⟩,⟨(L.cell (p:=⟨w9.heap.size,0,none⟩) n5.1 (by simp only[aB];omega)).trans r5.o.1,(L.cell (p:=⟨w9.heap.size+1,0,none⟩) n5.2 (by simp only[aB];omega)).trans r5.o.2⟩,?_,?_⟩
   ·rw[f6.o,h'.o]
   ·rw[f6.o,h'.o];exact⟨⟨_,q9.o.other L (d'.o _ Q.o.2.2.1) (by omega) (by omega) (by omega),d'.o,fun q h1 h2 _=>j3.o q h1 h2⟩,r0.o,q'.o.more (Kp.new L fun hx=>hx.2.1 rfl),d5,j2.o.fr L (by simp only[aB];omega)⟩
  ·have x3:(r2 !=0)=true:=by rw[aJ];exact i3
   have v6:=lh i3;clear i3
   gi_wp2
   have L:Fr [w.heap.size+2] P (P.setCell ⟨w.heap.size+2,0,none⟩ (.int .i64 r2)):=(Fr.refl _ _).setCell (.inl (by simp)) _;have n1:=r6.o;have n2:=r7.o;have n3:=r8.o;have n4:=f0.o;have n5:=j5.o;have n6:=r9.o;have d5:=j2.o.set_ 0 (.int .i64 r2)
   have f':Blk (P.setCell ⟨w.heap.size+2,0,none⟩ (.int .i64 r2)) w7.heap.size 3 [.int .i64 (((k+1:Nat):Int)-1)]:=by
    have e:((k+1:Nat):Int)-1=(k:Int):=by omega
    rw[e];exact j1.o.fr L (by simp only[aB];omega)
   refine⟨⟨aF f9.o L.size,(L.block _ (by omega) (by simp only[aB];omega)).trans r3.o,(L.block _ (by omega) (by simp only[aB];omega)).trans j4.o⟩,rfl,?_,?_,?_⟩
   ·rw[f6.o,h'.o];exact v6.o
   ·rw[f6.o];exact s6
   ·rw[f6.o,h'.o];exact⟨⟨_,q9.o.other L (d'.o _ Q.o.2.2.2) (by omega) (by omega) (by omega),d'.o,fun q h1 h2 _=>j3.o q h1 h2⟩,r0.o,q'.o.more (Kp.new L fun hx=>hx.2.2 rfl),f',d5⟩
 case stop=>
  rintro c pre W _ _ ⟨rfl,l8,e6,u⟩ hD;have v7:pre.length≠0:=fun h=>l8 (by rw[h];rfl);have a8:ln≠0:=fun h=>by have:=(p6.o h).2.1;omega
  have l5:=aFn (bA cs) B.toNat b 0 pre.length y1 l8 (m-pre.length);rw[show pre.length+(m-pre.length)=m by omega]at l5;have a5:=lh u;have HD:=lh hD;have HL:Hid (layS (bA cs) B.toNat b 0 (np b) y1=((layS (bA cs) B.toNat b 0 pre.length y1).1,(layS (bA cs) B.toNat b 0 pre.length y1).2)):=lh (by rw[p5.o a8,l5]);clear l5 v7 a8 l8 e6 u hD
  gi_wp2
  exact f3.o _ _ _ _ _ rfl a5.o HD.o HL.o
 case done=>
  rintro xs W s7 rfl ⟨hz,u⟩ hD;have c0:=lh s7;clear s7;rw[List.length_finRange]at hz u;have a5:=lh u;have HD:=lh hD;have HZ:=lh hz;have c7:=u.c7.at_ (i:=0) rfl;have ce:=u.ce.at_ (i:=0) rfl;have fe:=u.ce.free 0;clear u hD hz
  by_cases a8:ln=0
  ·obtain⟨l9,g4,l'⟩:=p6.o a8;have k8:(0:Nat)<4294967296:=by omega
   have p8:=f0.o;have i9:=a5.o.kp.size;have d9:kC (kC X w w6) w7 f w.heap.size/\w.heap.size≠w7.heap.size/\w.heap.size≠w.heap.size+2:=⟨.inl (.inr ⟨tA _,by omega⟩),by omega,by omega⟩;have a9:kC (kC X w w6) w7 f (w.heap.size+1)/\w.heap.size+1≠w7.heap.size/\w.heap.size+1≠w.heap.size+2:=⟨.inl (.inr ⟨by omega,by omega⟩),by omega,by omega⟩;obtain⟨X',c5,g8,g9⟩:=a5.o.ex;have p9:=lh c5;have i0:=lh g8;have c6:=lh g9;have a0:=a5.o.kp.cell (i7.o.at_ (i:=0) rfl) d9;have a1:=a5.o.kp.cell (d4.o.at_ (i:=1) rfl) a9;have a2:=a5.o.kp.cell (d4.o.at_ (i:=2) rfl) a9;have c1:=c5.blk.at_ (i:=1) rfl;have y0:=lh l';have x4:=lh l9;have y3:=lh g4;have x5:((m:Int)==0)=true:=by rw[beq_iff_eq];omega
   have v8:Hid (CtX w0 W dk g st ca y1 X'):=lh (by have:=c5;rw[g4]at this;exact this);have k9:(y1.E 0).length<=1000000:=by have:=m6.o.few 0;have:=HN.o;omega
   have d6:Hid (yU w0 dk g st ca y1 (kC (kC X w w6) w7 f) w7.heap.size (w.heap.size+2) f (m:Int) 0 y1.s W):=lh (by have:=a5.o;rw[g4]at this⊢;exact this);have l6:Hid (f.heap.size<W.heap.size):=lh (uI.1 HD.o).1;obtain⟨⟨r1,r2⟩,hr⟩:∃r,putS y1 0 (nB (bA cs) [B.toNat,0]) []=r:=⟨_,rfl⟩;have k':=lh hr
   have v9:Hid (layS (bA cs) B.toNat b 0 (np b) y1=(r1,r2)):=lh (by
    rw[l9,rV]
    show(if (0:Int)=0 then putS y1 0 (nB (bA cs) [B.toNat,0+0]) (pc b (0+0)) else _)=_
    rw[iA rfl,l'];exact hr)
   clear c5 g8 g9 l9 g4 l' a8 hr
   gi_wp2
   refine fL (fun W=>W.cell? ⟨w.heap.size,0,none⟩=some (.pointer (some ⟨ca,0,none⟩))/\W.cell? ⟨ca,1,none⟩=some (.pointer (some ⟨st,0,none⟩))/\W.cell? ⟨w.heap.size+1,1,none⟩=some (.string cs)/\W.cell? ⟨w.heap.size+1,2,none⟩=some (.int .i64 B)) [0,1,2,3,4,5,6,7] (by kernel_rfl) ?_;have G:Fr [] W W.drew:=(Fr.refl [] W).drew
   replace a0:=aA G a0
   replace a1:=aA G a1
   replace a2:=aA G a2
   replace c1:=aA G c1
   have c2:=lh G;clear G c7 ce fe;generalize W.drew=Wd at *;refine qA (i:=0) (some 59) ?vq3_0 rfl rfl (by kernel_rfl) (fun _ _ _ h=>mF (d:=59) (k:=4) rfl (by decide) h) ⟨a0,c1,a1,a2⟩ (.inl ⟨rfl,fun W U=>?yq3_0⟩) ?_
   case yq3_0=>(obtain⟨q0,q1,q2,q3⟩:=U;go_simp)<;>with_reducible rfl
   simp only[nrm];refine qA (i:=1) (some 60) ?vq3_1 rfl rfl (by kernel_rfl) (fun _ _ _ h=>mF (d:=60) (k:=4) rfl (by decide) h) ⟨a0,c1,a1,a2⟩ (.inl ⟨rfl,fun W U=>?yq3_1⟩) ?_
   case yq3_1=>(obtain⟨q0,q1,q2,q3⟩:=U;go_simp)<;>with_reducible rfl
   simp only[nrm];refine qA (i:=2) (some 61) ?vq3_2 rfl rfl (by kernel_rfl) (fun _ _ _ h=>mF (d:=61) (k:=4) rfl (by decide) h) ⟨a0,c1,a1,a2⟩ (.inl ⟨rfl,fun W U=>?yq3_2⟩) ?_
   case yq3_2=>(obtain⟨q0,q1,q2,q3⟩:=U;go_simp)<;>with_reducible rfl
   simp only[nrm];refine qA (i:=3) (some 62) ?vq3_3 rfl rfl (by kernel_rfl) (fun _ _ _ h=>mF (d:=62) (k:=4) rfl (by decide) h) ⟨a0,c1,a1,a2⟩ (.inl ⟨rfl,fun W U=>?yq3_3⟩) ?_
   case yq3_3=>(obtain⟨q0,q1,q2,q3⟩:=U;go_simp)<;>with_reducible rfl
   simp only[nrm];refine qA (i:=4) (some 63) ?vq3_4 rfl rfl (by kernel_rfl) (fun _ _ _ h=>mF (d:=63) (k:=4) rfl (by decide) h) ⟨a0,c1,a1,a2⟩ (.inl ⟨rfl,fun W U=>?yq3_4⟩) ?_
   case yq3_4=>(obtain⟨q0,q1,q2,q3⟩:=U;go_simp)<;>with_reducible rfl
   simp only[nrm];refine qA (i:=5) (some 64) ?vq3_5 rfl rfl (by kernel_rfl) (fun _ _ _ h=>mF (d:=64) (k:=4) rfl (by decide) h) ⟨a0,c1,a1,a2⟩ (.inl ⟨rfl,fun W U=>?yq3_5⟩) ?_
   case yq3_5=>(obtain⟨q0,q1,q2,q3⟩:=U;go_simp)<;>with_reducible rfl
   simp only[nrm];refine qA (i:=6) (some 65) ?vq3_6 rfl rfl (by kernel_rfl) (fun _ _ _ h=>mF (d:=65) (k:=4) rfl (by decide) h) ⟨a0,c1,a1,a2⟩ (.inl ⟨rfl,fun W U=>?yq3_6⟩) ?_
   case yq3_6=>(obtain⟨q0,q1,q2,q3⟩:=U;go_simp)<;>with_reducible rfl
   simp only[nrm];refine qA (i:=7) (some 66) ?vq3_7 rfl rfl (by kernel_rfl) (fun _ _ _ h=>mF (d:=66) (k:=4) rfl (by decide) h) ⟨a0,c1,a1,a2⟩ (.inl ⟨rfl,fun W U=>?yq3_7⟩) ?_
   case yq3_7=>(obtain⟨q0,q1,q2,q3⟩:=U;go_simp)<;>with_reducible rfl
   simp only[nrm];refine sp 8 rfl rfl rfl fun K hK=>?_;obtain⟨w5,O⟩:=nm (Wd.alloc (.cells #[.int .i64 B,.int .i64 ((0:Nat):Int)] 3));have I:Fr [] Wd w5:=by rw[O];exact(Fr.refl [] Wd).alloc _
   refine xB (v:=.slice (some ⟨Wd.heap.size,0,none⟩) 2 2) (w':=w5) (by rw[O];go_simp<;>rfl) (hK _ _ (fun _=>⟨aA I a0,aA I c1,aA I a1,aA I a2⟩) ?_);simp only[nrm];clear hK;have a4:=lh (m4.o Wd 0 k8);rw[<- O]at a4;refine sp 9 rfl rfl rfl fun K hK=>?_;refine jA (l:=[.tmp 64,.tmp 67]) rfl [.string cs,.slice (some ⟨Wd.heap.size,0,none⟩) 2 2] rfl (cM _) ((a4.o).mono ?_);rintro e a' ⟨vk,rfl,⟨q,hk,hq⟩,a7⟩;have V:Fr [] Wd a':=I.trans a7;have b0:=aA V a0;have b1:=aA V a1;have b2:=aA V a2;have b3:=aA V c1;refine⟨_,rfl,hK _ _ (fun _=>⟨b0,b3,b1,b2⟩) ?_⟩;simp only[nrm];clear hK;have c3:Fr [] W a':=c2.o.trans V;have c4:=vE hk (by have:=(d7.o 0).2;omega);have b5:=lh (v8.o.fr c3);have d1:=lh (aLa b5.o (t:=0) (by omega) hk (.inr ⟨by have:=c2.o.size;omega,c4⟩) (cA.nil a' ca) b5.o.xc (d7.o 0).2 (d7.o 0).1 (by simp) k9);rw[k'.o]at d1;have M:=lh c3;clear hk hq I a7 V c3 c4 O a4;refine sp 10 rfl rfl rfl fun K hK=>?_;refine jA (l:=[.tmp 62,.const (.int .i64 0),.tmp 68,.const (.slice none 0 0)]) rfl [.pointer (some ⟨st,0,none⟩),.int .i64 ((0:Nat):Int),vk,.slice none 0 0] rfl (xU _) (d1.o.mono ?_);rintro e P ⟨rfl,g',O,D⟩;have Z:∀q,kC (kC X w w6) w7 f q->kC X' W a' q:=fun q hq=>.inl (i0.o q hq);have e0:=D.cell b0 (Z _ d9.1);have e1:=D.cell b1 (Z _ a9.1);have e2:=D.cell b2 (Z _ a9.1);have e3:=D.cell b3 b5.o.xc;refine⟨_,rfl,hK _ _ (fun _=>⟨e0,e3,e1,e2⟩) ?_⟩;simp only[nrm];clear hK;have b6:=D.blk (d6.o.c7.fr M.o) (Z _ Q.o.2.2.1);have a6:=D.blk (d6.o.ce.fr M.o) (Z _ Q.o.2.2.2);have f7:=d6.o.kp.more ((Kp.of M.o).more (Kp.less D (X:=fun q=>kC (kC X w w6) w7 f q/\q≠w7.heap.size/\q≠w.heap.size+2) fun q hq=>Z q hq.1));have r':=M.o.size;have s0:=D.size
   have s1:Hid (yU w0 dk g st ca r1 (kC (kC X w w6) w7 f) w7.heap.size (w.heap.size+2) f (m:Int) 0 y1.s P):=lh ⟨⟨_,g',Z,fun q h1 h2 h3=>by
    by_cases x2:q<W.heap.size
    ·exact .inl (c6.o q h1 h2 x2)
    ·have y4:=c0.o;omega⟩,d6.o.wr.trans O,f7,b6,a6⟩
   have f8:P.heap[f.heap.size]? = W.heap[f.heap.size]?:=(D.block (.inl (c6.o _ (tA _) (by omega) l6.o)) (by have:=l6.o;omega)).trans (M.o.block _ l6.o (by simp));have s2:Hid (P.heap[f.heap.size]? = some (.deferred (some []))):=lh (f8.trans HD.o);have y5:=a6.free 0;have y6:=a6.at_ (i:=0) rfl;have L:Fr [w.heap.size+2] P (P.setCell ⟨w.heap.size+2,0,none⟩ (.int .i64 r2)):=(Fr.refl _ _).setCell (.inl (by simp)) _;have x0:=lh L;have n2:=f1.o;have g0:=wA L (by simp only[aB];omega) e0;have g1:=wA L (by simp only[aB];omega) e1;have g2:=wA L (by simp only[aB];omega) e2;have g3:=wA L (by simp only[aB];omega) e3;clear g' O D b6 a6 f7 r' s0 f8 Z e0 e1 e2 e3 a0 a1 a2 c1 b0 b1 b2 b3 d1 L;refine xA (j:=11) none rfl rfl (by kernel_rfl) rfl fun K hK=>?_;refine pB (w':=P.setCell ⟨w.heap.size+2,0,none⟩ (.int .i64 r2)) (by go_simp) (hK _ _ (fun _=>⟨g0,g3,g1,g2⟩) ?_);simp only[Act.put];clear hK;refine _root_.Go.Proofs.YtebjhcjbfaaejaaGreatDoor.wd ?_ _
   gi_wp2
   have n6:=f2.o;refine f3.o _ _ _ _ _ rfl (s1.o.setE Q.o.2.2.2 (by omega) (by omega) (by omega) (by omega) r2) ?_ v9.o;exact(x0.o.block _ (uI.1 s2.o).1 (by simp only[aB];omega)).trans s2.o
  ·have g4:((m:Int)==0)=false:=by rw[eI];have:=HM.o;omega
   have x1:=lh a8;clear a8
   gi_wp2
   have n2:=f1.o;have n6:=f2.o;refine f3.o _ _ _ _ _ rfl (a5.o.setE Q.o.2.2.2 (by omega) (by omega) (by omega) (by omega) 0) ?_ (by rw[p5.o x1.o];exact Prod.ext rfl HZ.o);have hf:Fr [w.heap.size+2] W (W.setCell ⟨w.heap.size+2,0,none⟩ (.int .i64 0)):=(Fr.refl _ _).setCell (.inl (by simp)) _;exact(hf.block _ (uI.1 HD.o).1 (by simp only[aB];omega)).trans HD.o
end
end
end Go.Proofs.YtebjhcjbfaaejaaGreatDoor
