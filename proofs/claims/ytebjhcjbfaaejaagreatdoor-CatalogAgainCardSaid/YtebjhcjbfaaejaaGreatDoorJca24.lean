/-
  Joined: CatD CatE CatF CatG CatH CatI CatJ
-/
import Derived.Test.YtebjhcjbfaaejaaGreatDoorJca21
import Derived.Test.YtebjhcjbfaaejaaGreatDoorJca23
set_option maxRecDepth 100000
set_option maxHeartbeats 32000000
namespace Go.Proofs.YtebjhcjbfaaejaaGreatDoor
open Go.Proofs.Tryz
variable {n k:Nat}{F:List Value}{α:Type}
section
open Go.RowKit Go.Shelf
theorem aFl:∀ {k:List UInt8},aft k≠[]->∃p c m,k=p++c::List.replicate m 255/\c≠255
 | [],h=>absurd rfl h
 | a::k,h=>by
  by_cases h1:aft k=[]
  ·by_cases f:a=255
   ·exact absurd (by show(if aft k=[] then (if a=255 then [] else [a+1]) else a::aft k)=[];rw[iA h1,iA f]) h
   ·refine⟨[],a,k.length,?_,f⟩
    have all:∀ {k:List UInt8},aft k=[]->k=List.replicate k.length 255:=fun {k}=>by
     induction k with
     | nil=>exact fun _=>rfl
     | cons b k j=>
      intro h2;have h3:(if aft k=[] then (if b=255 then [] else [b+1]) else b::aft k)=[]:=h2
      by_cases d:aft k=[]
      ·rw[iA d]at h3
       by_cases g:b=255
       ·rw[gD,List.replicate_succ,<- j d,g]
       ·rw[eA g]at h3;cases h3
      ·rw[eA d]at h3;cases h3
    rw[eH,<- all h1]
  ·obtain⟨p,c,m,e,i⟩:=aFl h1;exact⟨a::p,c,m,by rw[e];rfl,i⟩
theorem aQR{w:World}{base:Nat}{e:TypeId}{size n:Nat}{g cap:Nat}(h:w.ownsRow base e size (.slice (some ⟨g,0,none⟩) n cap) n F)(j:Nat)(u:Value)(_o:j<F.length):
  (w.setCell ⟨g,j,none⟩ u).ownsRow base e size (.slice (some ⟨g,0,none⟩) n cap) n (F.set j u):=by
 refine⟨by rw[List.length_set];exact h.1,?_⟩;rcases h.2 with ⟨b,_⟩|⟨m,c,cur,b,d,f,i,k,l,ht⟩
 ·cases b
 ·injection b with h1 h2 h3;simp only[vI,Addr.mk.injEq]at h1;obtain⟨rfl,_⟩:=h1;subst h3;refine .inr ⟨g,cap,cur.setIfInBounds j u,rfl,d,?_,i,k,by simpa using l,?_⟩
  ·simp[World.setCell,Array.getElem?_modify,f]
  ·rw[<- ht,Array.toList_setIfInBounds,List.take_set]
theorem aPA{w:World}{base:Nat}{e:TypeId}{size n:Nat}{g cap:Nat}(h:w.ownsRow base e size (.slice (some ⟨g,0,none⟩) n cap) n F)(j:Nat):w.frozen? ⟨g,j,none⟩=false:=by
 rcases h.2 with ⟨b,_⟩|⟨f,c,cur,b,i,d,k,l,m,ht⟩
 ·cases b
 ·injection b with h1 h2 h3;simp only[vI,Addr.mk.injEq]at h1;obtain⟨rfl,_⟩:=h1
  simp[World.frozen?,d]
theorem aHa{w:World}{v:Value}{bs:List UInt8}{g:Nat}(h:cA w v bs g)(y:bs.length<=1099511627776):
  Calls prog 110 #[v] w fun e w'=>∃k,e=.returned k/\w'.ownsRow w.heap.size 5 1 k bs.length (fA bs)/\Fr [] w w':=by
 have I:∀(w:World) (a:Option Addr) (n c:Nat),(binOp .eql 67 (.slice a n c) (.slice none 0 0)).run prog w=.ok (.bool a.isNone) w:=fun w a n c=>Go.Lib.run_eql_slice_nil w _ _ a n c 0 0 Go.Proofs.Tryz.underlying67;obtain⟨A,c,off,rfl,L,t⟩:=h;have r:=lh t;clear t;obtain⟨D,l,E,F,m⟩:=mE tM
 cases A with
 | none=>
  have h0:bs=[]:=by
   cases bs with
   | nil=>rfl
   | cons x M=>have:=(r.o (by simp)).1;cases this
  subst h0
  go_enter func110,ntmps110
  go_wp2
  go_ret
  exact⟨_,rfl,vF _ _ _ _,Fr.refl _ _⟩
 | some q=>
  have zG:∀j u,(fA bs)[j]? = some u->w.cell? (q.add j)=some u:=fun j u d=>by
   have h0:0<bs.length:=by have:=(tD.1 d).1;rw[kA]at this;omega
   obtain⟨p,b⟩:=r.o h0;injection p with p;subst p;rw[Go.Addr.add_mid];exact b j u d
  have f:∀j u,(fA bs)[j]? = some u->(q.add j).block<w.heap.size:=fun j u d=>cF w _ (zG j u d);have z:=lh zG;have J:=lh f;clear zG f
  go_enter func110,ntmps110
  go_wp2_with ((at_builtin;refine Go.wpList_append_own _ rfl _ _ 67 rfl w.heap.size 5 D (.int .u8 0) 1 1 Go.Proofs.Tryz.underlying67 l E F m rfl (by omega) _ 0 [] rfl ?own q bs.length c (fA bs) rfl (by rw[kA];omega) (fun j u d=>aA ((Fr.refl [] w).alloc _) (z.o j u d)) (fun u G=>yC _ u G) (by unfold maxLen;omega) (by omega) (by simp) ?_))
  case own=>exact Go.World.ownsRow_made w #[] 0 (tA _) (by unfold maxLen;omega) rfl
  intro k w' h1 h2 h3;have s:Fr [] w w':=((Fr.refl [] w).alloc _).grown h2 (fun g H=>.inr (by simp[Value.ownBlock]at H;omega));have i:w'.ownsRow w.heap.size 5 1 k bs.length (fA bs):=by simpa using h1
  have B:=lh i;have C:=lh s;clear h1 i h2 h3 s
  go_wp2
  go_ret
  exact⟨_,rfl,B.o,C.o⟩
theorem aNB{w:World}{v:Value}{bs:List UInt8}{g:Nat}(hv:cA w v bs g)(Q:aft bs≠[])(hl:bs.length<=1000):
  Calls prog 77 #[v] w fun e w'=>∃a n c q,e=.returned (.slice (some a) n c)/\cA w' (.slice (some a) n c) (aft bs) q/\w.heap.size<=q/\Fr [] w w':=by
 refine gA fun R HQ=>?_;obtain⟨p,x,m,D,N⟩:=aFl Q;have ha:aft bs=p++[x+1]:=by rw[D,aPs N]
 obtain⟨A,c,off,rfl,hc,s⟩:=id hv;obtain⟨n,S⟩:∃n,bs.length=n:=⟨_,rfl⟩;have E:n=p.length+1+m:=by rw[<- S,D,lB,gD,zT];omega
 obtain⟨rfl,O⟩:=s (by omega);have u:∀j (y:UInt8),bs[j]? = some y->w.cell? ⟨g,off+j,none⟩=some (.int .u8 (y.toNat:Int)):=fun j y hj=>O j _ (by rw[uG,hj];rfl)
 have t:∀j,p.length<j->j<n->w.cell? ⟨g,off+j,none⟩=some (.int .u8 255):=fun j h1 h2=>u j 255 (by
  rw[D,dK (by omega)];obtain⟨i,hi⟩:∃i,j-p.length=i+1:=⟨j-p.length-1,by omega⟩;rw[hi,List.getElem?_cons_succ,List.getElem?_replicate,iA (by omega)])
 have F:w.cell? ⟨g,off+p.length,none⟩=some (.int .u8 (x.toNat:Int)):=u p.length x (by rw[D,dK (tA _),xW];rfl);have HV:=lh hv;have U:=lh t;have V:=lh F;have HA:=lh ha;have HX:=lh N;have HB:=lh D;rw[S]at hc hl⊢;have HN:=lh S;have W:=lh E;have HW:Hid ((n:Int)=((p.length+m+1:Nat):Int)):=lh (by omega);clear hv s O u t F ha N D Q S E
 go_enter func77,ntmps77
 go_wp2_with fail
 go_loopg [3] m (fun j v3 wr=>∃i:Nat,i=p.length+j/\v3=.int .i64 ((i+1:Nat):Int)/\j<=m/\Fr [] w wr)
 case atStart=>exact⟨p.length+m,rfl,by rw[HW.o],tA _,Fr.refl _ _⟩
 case round=>
  obtain⟨i,P,rfl,b2,hf⟩:=hrel;have z:=lh hf;have k:=lh P;clear hf P;have X:i<n:=by have:=k.o;have:=W.o;omega
  have a8:IntKind.i64.wrap (((i+1:Nat):Int)-1)=(i:Int):=by rw[iD];omega
  have a6:(0:Int)<((i+1:Nat):Int):=by omega
  have a7:(i:Int)<(n:Int):=by omega
  by_cases a5:p.length<i
  ·have ci:wr.cell? ⟨g,off+i,none⟩=some (.int .u8 255):=by
    have h1:=U.o i a5 X;exact(z.o.cell (p:=⟨g,off+i,none⟩) (cF w _ h1) (by simp)).trans h1
   go_wp2_with fail
   go_roundg (i-1-p.length)
   case measure=>have:=k.o;omega
   case rel=>exact⟨i-1,by have:=k.o;omega,by rw[show i-1+1=i by omega],by have:=k.o;omega,z.o⟩
  ·have B:p.length=i:=by have:=k.o;omega
   have d:=lh B
   have ci:wr.cell? ⟨g,off+i,none⟩=some (.int .u8 (x.toNat:Int)):=by
    have h1:=V.o;rw[B]at h1;exact(z.o.cell (p:=⟨g,off+i,none⟩) (cF w _ h1) (by simp)).trans h1
   have Y:((x.toNat:Int)==255)=false:=by
    rw[eI];intro h;exact HX.o (gR.1 (by show x.toNat=255;omega))
   have a9:(((i+1:Nat):Int)==0)=false:=by rw[eI];omega
   have l:=(HV.o.fr z.o).sub 0 (i+1) (by rw[HN.o];omega)
   have Z:Hid (cA wr (.slice (some ⟨g,off,none⟩) (i+1) c) (p++[x]) g):=lh (by
    have e1:(bs.drop 0).take (i+1)=p++[x]:=by
     rw[List.drop_zero,HB.o,List.take_append,d.o,zF (by omega),show i+1-i=1 by omega]
     rfl
    have e2:(if c=0 then (some ⟨g,off,none⟩:Option Addr) else (some ⟨g,off,none⟩:Option Addr).map (·.add 0))=some ⟨g,off,none⟩:=by
     rw[eA (by omega)]
     simp[Go.Addr.add_mid]
    rw[e1,e2]at l;exact l)
   have a0:=aGl Go.Proofs.Tryz.underlying67 bL (some ⟨g,off,none⟩) n c (i+1) .i64 (by omega);have G:=lh (aHa Z.o (by rw[lB,d.o];simp;omega));clear B l;go_wp2_with fail;refine G.o.mono ?_;rintro e T ⟨v2,rfl,b,C⟩;have r:(p++[x]).length=i+1:=by rw[lB,d.o];rfl
   rw[r]at b;obtain⟨A2,c2,rfl,b3,_⟩:=sA b;obtain⟨q,rfl,f⟩:=tE b (by omega)
   have cq:T.cell? ⟨q,i,none⟩=some (.int .u8 (x.toNat:Int)):=f i _ (by
    rw[uG,dK (by rw[d.o];exact tA _),d.o,xW]
    rfl)
   have H:=lh b;have I:=lh (z.o.trans C);have J:=lh r;have a1:Hid (wr.heap.size<=T.heap.size):=lh C.size;have a':=aPA b i
   have a2:IntKind.u8.wrap ((x.toNat:Int)+1)=((x+1).toNat:Int):=by
    have h3:=x.toNat_lt;have h4:x.toNat≠255:=fun h=>HX.o (gR.1 h);rw[wT,UInt8.toNat_add,show(1:UInt8).toNat=1 from rfl];omega
   obtain⟨y,hy⟩:∃y,((x+1).toNat:Int)=y:=⟨_,rfl⟩;rw[hy]at a2;have HY:=lh hy;have b0:(i:Int)<((i+1:Nat):Int):=by omega
   clear f b C G a0 r ci hy;go_wp2_with fail;have L:=aQR H.o i (.int .u8 y) (by rw[kA,J.o];omega)
   have e9:(fA (p++[x])).set i (.int .u8 y)=fA (p++[x+1]):=by
    rw[sC,sC,List.set_append,eA (by rw[kA,d.o];omega),kA,d.o,xW,<- HY.o]
    rfl
   rw[e9]at L
   have M:Fr [] w (T.setCell ⟨q,i,none⟩ (.int .u8 y)):=(FrB.of ((Fr.refl [q] T).setCell (.inl (by simp)) _) fun x N=>by
    obtain rfl:=aB.1 N;exact lF H.o _ rfl).after I.o z.o.size
   have b1:=M.size;obtain⟨q9,a3,a4⟩:=qV (bs:=p++[x+1]) (by rw[lB,d.o];rfl) L (by simp only[World.size_setCell];exact I.o.size |> fun _=>a1.o);exact HQ.o _ _ ⟨⟨q,0,none⟩,i+1,c2,q9,rfl,by rw[HA.o];exact a3,aF z.o.size a4,M⟩
end
section
open Go.RowKit Go.ChangeMaps Go.MapKept Go.Maps Go.Sort Go.Shelf
structure CtX (w0 w:World) (dk g st ca:Nat) (x:SE) (X:Nat->Prop):Prop where
 sx:StX w0 w dk g st x.s X x.E
 blk:Blk w ca 79 [.pointer (some ⟨g,0,none⟩),.pointer (some ⟨st,0,none⟩)]
 xc:X ca
section
variable {w0 w w' : World} {dk g st ca : Nat} {x x' : SE} {X : Nat -> Prop}
theorem CtX.lt(h:CtX w0 w dk g st ca x X):∀q,X q->q<w.heap.size:=by obtain⟨_,_,_,_,_,_,_,b⟩:=h.sx.px;exact b
theorem CtX.fr(h:CtX w0 w dk g st ca x X)(b:Fr [] w w'):CtX w0 w' dk g st ca x (kC X w w'):=⟨h.sx.fr b,h.blk.fr b,.inl h.xc⟩
theorem CtX.stay(h:CtX w0 w dk g st ca x X)(b:Fr [] w w'):CtX w0 w' dk g st ca x X:=⟨h.sx.stay b,h.blk.fr b,h.xc⟩
theorem CtX.kept(h:CtX w0 w dk g st ca x X)(b:StX w0 w' dk g st x'.s X x'.E)(c:Kp X w w'):CtX w0 w' dk g st ca x' X:=⟨b,c.blk h.blk h.xc,h.xc⟩
theorem CtX.frame(h:CtX w0 w dk g st ca x X):Fr [] w0 w:=h.sx.px.frame
theorem cM(b:Array Value)(w:World):(callFunc 45 b).run prog w=.ok (.enter 45 b) w:=by kernel_rfl
theorem aNC(b:Array Value)(w:World):(callFunc 76 b).run prog w=.ok (.enter 76 b) w:=by kernel_rfl
theorem aPB(E:En)(k:Ky):(rP E k).isSome=jS E k:=by
 unfold rP jS;rw[Option.isSome_map,jT,List.find?_isSome,List.any_eq_true]
noncomputable def isC (x:SE) (s:ByteArray):Int:=if isS x (bA s)=true then 0 else 6
theorem wU(h:CtX w0 w dk g st ca x X)(hE:(x.E 1).length<=1000000)(s:ByteArray):RV 43 #[.pointer (some ⟨ca,0,none⟩),.string s] w (.int .i64 (isC x s)):=by
 refine gA fun R L=>?_;have H:=lh h;have HE:=lh hE;have c:=lh (aFk (w:=w) s);obtain⟨r,P⟩:∃r,isC x s=r:=⟨_,rfl⟩;rw[P]at L;have n:Hid ((if (nmB (bA s)&&jS (x.E 1) (nmK (bA s)))=true then (0:Int) else 6)=r):=lh P;clear h hE P
 cases J:nmB (bA s) with
 | false=>
  rw[J]at c n;have d:Hid ((6:Int)=r):=lh n.o;clear J n
  go_enter func43,ntmps43
  go_wp2_with fail;refine c.o.mono ?_;rintro e w1 ⟨rfl,p⟩;have u:=lh (L.o (.returned (.int .i64 6)) w1 ⟨by rw[d.o],p⟩);clear p;go_wp2_with fail;exact u.o
 | true=>
  have Y:=uF J;have y:=zA s;rw[J]at c n;have d:Hid ((if jS (x.E 1) (nmK (bA s))=true then (0:Int) else 6)=r):=lh (by have:=n.o;simpa using this);have M:=lh (fun W:World=>rN (w:=W) s [] Y.1 (by omega) (by simp) (by simp) (v:=.slice none 0 0) (g:=0) (iH.nil _ _ _));have z:(nB (bA s) []).length<=96/\1<=(nB (bA s) []).length:=by rw[sH];simp;omega
  have f:=lh z;clear J n Y z y
  go_enter func43,ntmps43
  go_wp2_with fail;refine c.o.mono ?_;rintro e w1 ⟨rfl,p⟩;have N:=lh p;have c1:=(H.o.blk.fr p).at_ (i:=1) rfl;clear p c;go_upto_region 3 with fail
  have A:w1.drew.cell? ⟨ca,1,none⟩=some (.pointer (some ⟨st,0,none⟩)):=c1;refine lA (fun W=>W.cell? ⟨ca,1,none⟩=some (.pointer (some ⟨st,0,none⟩))/\True) [0,1,2,3,4,7,8,9,10] (by kernel_rfl) ?_;refine tks [0,1,2,3,4] ?_
  iterate 5 (refine tk rfl rfl ⟨A,trivial⟩ rfl (fun _ V=>by(obtain⟨q0,_⟩:=V;go_simp)<;>with_reducible rfl) ?_;simp only[nrm])
  refine tke ?_;refine sp 5 rfl rfl rfl fun K hK=>?_;refine jA (l:=[.tmp 16,.const (.slice none 0 0)]) rfl [.string s,.slice none 0 0] rfl (cM _) ((M.o _).mono ?_);rintro e Q ⟨vk,rfl,⟨q,S,Z⟩,I⟩;have j:Fr [] w1 Q:=((Fr.refl [] w1).drew).trans I;have c2:=aA j c1;refine⟨_,rfl,hK _ _ (fun _=>⟨c2,trivial⟩) ?_⟩;simp only[nrm];clear hK
  have B:q<Q.heap.size:=by
   obtain⟨_,_,_,_,_,k⟩:=id S;obtain⟨_,hc⟩:=k (by have:=f.o;omega);exact cF Q _ (hc 0 _ (xD (by rw[kA];have:=f.o;omega)))
  have C:=lh (Get_X ((H.o.fr (N.o.trans j)).sx) (t:=1) (by omega) S (.inr ⟨by have:=N.o.size;exact aF (aF this (show w1.heap.size<=w1.drew.heap.size from tA _)) Z,B⟩) f.o.2 f.o.1 (by have:=HE.o;omega));have O:=lh (N.o.trans j);clear S Z I j B;refine sp 6 rfl rfl rfl fun K hK=>?_;refine jA (l:=[.tmp 15,.const (.int .i64 1),.tmp 17]) rfl [.pointer (some ⟨st,0,none⟩),.int .i64 ((1:Nat):Int),vk] rfl (aNC _) (C.o.mono ?_);rintro e w3 ⟨vv,rfl,T,m⟩;have c3:=aA m c2;refine⟨_,rfl,hK _ _ (fun _=>⟨c3,trivial⟩) ?_⟩;simp only[nrm];clear hK;refine tks [7,8,9,10] ?_
  iterate 4 (refine tk rfl rfl ⟨c3,trivial⟩ rfl (fun _ V=>by(obtain⟨q0,_⟩:=V;go_simp)<;>with_reducible rfl) ?_;simp only[nrm])
  refine tke ?_;refine sp 11 rfl rfl rfl fun K hK=>?_;refine nA (v:=?aq1_11) ?yq1_11 (hK _ _ (fun _=>⟨c3,trivial⟩) ?_)
  case yq1_11=>go_simp<;>with_reducible rfl
  simp only[nrm];refine sp 12 rfl rfl rfl fun K hK=>?_;refine nA (v:=?aq1_12) ?yq1_12 (hK _ _ (fun _=>⟨c3,trivial⟩) ?_)
  case yq1_12=>go_simp<;>with_reducible rfl
  simp only[nrm];refine sp 13 rfl rfl rfl fun K hK=>?_;refine nA (v:=?aq1_13) ?yq1_13 (hK _ _ (fun _=>⟨c3,trivial⟩) ?_)
  case yq1_13=>go_simp<;>with_reducible rfl
  simp only[nrm];refine wd ?_ _;have D:=lh (O.o.trans m);obtain⟨b,U⟩:∃b,(rP (x.E 1) (nB (bA s) [])).isSome=b:=⟨_,rfl⟩;have F:(if b=true then (0:Int) else 6)=r:=by rw[<- U,aPB,<- nL];exact d.o
  rw[U];have G:=lh F;clear U F T m c1 A c2 c3 C d
  cases b with
  | true=>
   have u:=lh (L.o (.returned (.int .i64 0)) w3 ⟨by rw[<- G.o];rfl,D.o⟩);go_wp2_with fail;exact u.o
  | false=>
   have u:=lh (L.o (.returned (.int .i64 6)) w3 ⟨by rw[<- G.o];rfl,D.o⟩);go_wp2_with fail;exact u.o
theorem aIN(b:Array Value)(w:World):(callFunc 40 b).run prog w=.ok (.enter 40 b) w:=by kernel_rfl
theorem aIO(b:Array Value)(w:World):(callFunc 77 b).run prog w=.ok (.enter 77 b) w:=by kernel_rfl
theorem lG.imp{D D':Nat->Prop}{w:World}(b:∀q,D q->D' q):∀ {E:En} {cs:List Value},lG D w E cs->lG D' w E cs
 | [],[],h=>h
 | _::_,_::_::_,⟨⟨⟨g1,a1,b1⟩,⟨g2,a2,b2⟩⟩,h⟩=>⟨⟨⟨g1,a1,b _ b1⟩,⟨g2,a2,b _ b2⟩⟩,lG.imp b h⟩
def aPC (X:Nat->Prop) (L:En) (w:World) (e:Ending) (w':World):Prop:=
 ∃ov cs,e=.returned (.tuple #[ov,.int .i64 0])/\w'.ownsRow w.heap.size 100 2 ov L.length cs/\lG (fun q=>X q∨w.heap.size<=q) w' L cs/\Fr [] w w'
theorem aAX(h:CtX w0 w dk g st ca x X)(Y:tH (x.E 0))(Z:(x.E 0).length<=1000000){kv:Value}{k:Ky}{q:Nat}(N:cA w kv k q)(c:X q)(ha:aft k≠[])(hl:k.length<=1000):
  Calls prog 44 #[.pointer (some ⟨ca,0,none⟩),kv] w (aPC X (rC (x.E 0) k) w):=by
 refine gA fun R HQ=>?_;obtain⟨Q,S,_,rfl,_,_⟩:=id N;have H:=lh h;have HE:=lh Z;have HR:=lh Y;have O:=lh N;have C:=lh c;have P:=lh ha;have c1:=h.blk.at_ (i:=1) rfl;clear h Z Y N c ha
 go_enter func44,ntmps44
 go_upto_region 1 with fail
 have D:w.drew.cell? ⟨ca,1,none⟩=some (.pointer (some ⟨st,0,none⟩)):=c1;have n:Fr [] w w.drew:=(Fr.refl [] w).drew;refine lA (fun W=>W.cell? ⟨ca,1,none⟩=some (.pointer (some ⟨st,0,none⟩))/\True) [0,1,2,3,4,5,8,9] (by kernel_rfl) ?_;refine tks [0,1,2,3,4,5] ?_
 iterate 6 (refine tk rfl rfl ⟨D,trivial⟩ rfl (fun _ M=>by(obtain⟨q0,_⟩:=M;go_simp)<;>with_reducible rfl) ?_;simp only[nrm])
 refine tke ?_;refine sp 6 rfl rfl rfl fun K hK=>?_;refine jA (l:=[.tmp 11]) rfl [.slice Q k.length S] rfl (aIO _) ((aNB (O.o.fr n) P.o hl).mono ?_);rintro e I ⟨T,U,u,J,rfl,j,y,z⟩;have b:Fr [] w I:=n.trans z;have c2:=aA b c1;refine⟨_,rfl,hK _ _ (fun _=>⟨c2,trivial⟩) ?_⟩;simp only[nrm];clear hK;have p:=HE.o;have d:aft k≠[]:=P.o
 have r:J<I.heap.size:=by
  obtain⟨_,_,_,hv,_,m⟩:=id j;have h0:0<(aft k).length:=List.length_pos_iff.2 d;obtain⟨_,hc⟩:=m h0;exact cF I _ (hc 0 _ (xD (by rw[kA];exact h0)))
 have s:w.heap.size<=J:=y;have F:=lh (aMi (H.o.fr b).sx (t:=0) (by omega) (low:=k) (up:=some (aft k)) (most:=9223372036854775807) (O.o.fr b) (.inl C.o) ⟨T,U,u,J,rfl,j,.inr ⟨s,r⟩⟩ (by omega) p);have G:=lh (aPw HR.o d (by omega));have f:=lh b;clear j y z b r s d p;refine sp 7 rfl rfl rfl fun K hK=>?_;refine jA (l:=[.tmp 9,.const (.int .i64 0),.tmp 10,.tmp 12,.const (.int .i64 9223372036854775807)]) rfl [.pointer (some ⟨st,0,none⟩),.int .i64 ((0:Nat):Int),.slice Q k.length S,.slice (some T) U u,.int .i64 ((9223372036854775807:Nat):Int)] rfl (aIN _) (F.o.mono ?_);rintro e w3 ⟨V,cs,rfl,B,L,A⟩;rw[G.o]at B L;have c3:=aA A c2;refine⟨_,rfl,hK _ _ (fun _=>⟨c3,trivial⟩) ?_⟩;simp only[nrm];clear hK
 have HX:=lh (HQ.o (.returned (.tuple #[V,.int .i64 0])) w3 ⟨V,cs,rfl,vP (jK B) (fun q c=>aF f.o.size (lF B q c)),lG.imp (fun q c=>by
  rcases c with (c|c)|c
  ·exact .inl c
  ·exact .inr c.1
  ·exact .inr (aF f.o.size c)) L,f.o.trans A⟩)
 clear B L;refine tks [8,9] ?_
 iterate 2 (refine tk rfl rfl ⟨c3,trivial⟩ rfl (fun _ M=>by(obtain⟨q0,_⟩:=M;go_simp)<;>with_reducible rfl) ?_;simp only[nrm])
 refine tke ?_;refine sp 10 rfl rfl rfl fun K hK=>?_;refine nA (v:=?aq2_10) ?yq2_10 (hK _ _ (fun _=>⟨c3,trivial⟩) ?_)
 case yq2_10=>go_simp<;>with_reducible rfl
 simp only[nrm];refine sp 11 rfl rfl rfl fun K hK=>?_;refine nA (v:=?aq2_11) ?yq2_11 (hK _ _ (fun _=>⟨c3,trivial⟩) ?_)
 case yq2_11=>go_simp<;>with_reducible rfl
 simp only[nrm];refine wd ?_ _;go_wp2_with fail;exact HX.o
end
section
variable {w0 w w' : World} {dk g st ca : Nat} {x x' : SE} {X Y : Nat -> Prop}
theorem CtX.weak(h:CtX w0 w dk g st ca x X)(b:∀q,Y q->X q)(h1:Y st)(h2:Y ca):CtX w0 w dk g st ca x Y:=⟨⟨h.sx.px.weak b,h.sx.blk,h1,h.sx.br,h.sx.calm,h.sx.store⟩,h.blk,h2⟩
theorem aFm(h:CtX w0 w dk g st ca x X){t:Nat}(ht:t<8){kv:Value}{key:Ky}(m:cA w kv key n)(j:X n)(h1:1<=key.length)(h2:key.length<=96)(o:(x.E t).length<=1000000):
  Calls prog 86 #[.pointer (some ⟨st,0,none⟩),.int .i64 (t:Int),kv] w fun e w'=>(∃b,e=.returned (.tuple #[.bool b,.int .i64 (delS x t key).2]))/\CtX w0 w' dk g st ca (delS x t key).1 X/\Wr x.s (delS x t key).1.s/\Kp X w w':=by
 refine(aPi h.sx ht m j h1 h2 (by omega)).mono ?_;rintro e w' ⟨k,l,c,⟨rfl,f,i⟩|⟨rfl,rfl,f,_,i⟩⟩
 ·have d:delS x t key=(⟨k,sD x.E t (cH (x.E t) key)⟩,0):=i;rw[d];exact⟨⟨_,rfl⟩,h.kept (x':=⟨k,sD x.E t (cH (x.E t) key)⟩) f c,l,c⟩
 ·have d:delS x t key=(x,5):=i;rw[d];exact⟨⟨_,rfl⟩,h.kept f c,l,c⟩
theorem aLa(h:CtX w0 w dk g st ca x X){t:Nat}(ht:t<8){kv vv:Value}{key v:Ky}(o:cA w kv key n)(i:X n)(p:cA w vv v k)(j:X k)(h1:1<=key.length)(h2:key.length<=96)(h3:v.length<=64)(q:(x.E t).length<=1000000):
  Calls prog 85 #[.pointer (some ⟨st,0,none⟩),.int .i64 (t:Int),kv,vv] w fun e w'=>e=.returned (.int .i64 (putS x t key v).2)/\CtX w0 w' dk g st ca (putS x t key v).1 X/\Wr x.s (putS x t key v).1.s/\Kp X w w':=by
 refine(Put_F h.sx ht o i p j h1 h2 h3 (by omega)).mono ?_;rintro e w' ⟨l,m,b,⟨rfl,d,f⟩|⟨rfl,rfl,d,_,f⟩⟩
 ·have c:putS x t key v=(⟨l,sD x.E t (uH (x.E t) key v)⟩,0):=f;rw[c];exact⟨rfl,h.kept (x':=⟨l,sD x.E t (uH (x.E t) key v)⟩) d b,m,b⟩
 ·have c:putS x t key v=(x,5):=f;rw[c];exact⟨rfl,h.kept d b,m,b⟩
theorem aND(L:En)(e:Ky×List UInt8)(r:SE×Int):cutL (L++[e]) r=if (cutL L r).2=0 then delS (cutL L r).1 0 e.1 else cutL L r:=by
 unfold cutL;rw[gT]
 rfl
theorem rZ(b:Array Value)(w:World):(callFunc 86 b).run prog w=.ok (.enter 86 b) w:=by kernel_rfl
theorem vS:(prog.info? 100).map (·.size)=some 2:=by kernel_rfl
theorem xS:(prog.info? 100).map (·.zero)=some (some (.agg #[.slice none 0 0,.slice none 0 0])):=by kernel_rfl
def aPD (w0:World) (dk g st ca:Nat) (x:SE) (X:Nat->Prop) (k:Ky) (w:World) (e:Ending) (w':World):Prop:=
 e=.returned (.tuple #[.int .i64 ((rC (x.E 0) k).length:Int),.int .i64 (cutS x k).2])/\CtX w0 w' dk g st ca (cutS x k).1 X/\Wr x.s (cutS x k).1.s/\Kp X w w'
def CuRel (w0 wb:World) (dk g st ca:Nat) (x:SE) (Y:Nat->Prop) (L:En) (j:Nat) (v7 v18:Value) (wr:World):Prop:=
 ∃k:Nat,k+j=L.length/\v18=.int .i64 (k:Int)/\v7=.int .i64 (cutL (L.take k) (x,0)).2/\CtX w0 wr dk g st ca (cutL (L.take k) (x,0)).1 Y/\Wr x.s (cutL (L.take k) (x,0)).1.s/\Kp Y wb wr
theorem aBK(h:CtX w0 w dk g st ca x X){N:Nat}(c:rD N x.E)(hN:N<=900000)(D:∀e∈x.E 0,1<=e.1.length/\e.1.length<=96){kv:Value}{k:Ky}{q:Nat}(hk:cA w kv k q)(p:X q)(ha:aft k≠[])(hl:k.length<=1000):
  Calls prog 84 #[.pointer (some ⟨ca,0,none⟩),kv] w (aPD w0 dk g st ca x X k w):=by
 refine gA fun R HQ=>?_;have H:=lh h;have d4:=lh c;have HN:=lh hN;have b5:Hid (∀e∈rC (x.E 0) k,1<=e.1.length/\e.1.length<=96):=lh fun e C=>D e (uQ.1 C).1;have Z:=lh (aAX h (c.rise 0) (by have:=c.few 0;omega) hk p ha hl);obtain⟨Ak,ck,_,rfl,_,_⟩:=id hk;have b6:cutS x k=cutL (rC (x.E 0) k) (x,0):=rfl;have a0:=lh b6
 have a1:Hid ((rC (x.E 0) k).length<=900000):=lh (by
  have h1:=c.few 0;have h2:(rC (x.E 0) k).length<=(x.E 0).length:=yW ..;omega)
 unfold aPD at HQ;obtain⟨L,hL⟩:∃L,rC (x.E 0) k=L:=⟨_,rfl⟩;rw[hL]at Z b5 a0 a1 HQ;rw[a0.o]at HQ;clear h c D hk p ha hl b6 hL a0 hN
 go_enter func84,ntmps84
 go_wp2_with fail;refine Z.o.mono ?_;rintro e F ⟨ov,cs,rfl,ho,C,a9⟩;obtain⟨Ao,co,rfl,_,_⟩:=sA ho;have d5:=lh (H.o.fr a9);have HO:=lh ho;have HE:=lh C;have d6:=lh a9;clear ho C a9 Z;obtain⟨n,hn⟩:∃n,L.length=n:=⟨_,rfl⟩;rw[hn]at HO a1⊢;have d:=lh hn;clear hn;go_wp2_with fail
 go_loopg [7,18] n (fun j v7 v18 wr=>CuRel w0 F dk g st ca x (kC X w F) L j v7 v18 wr)
 case atStart=>exact⟨0,by rw[d.o];omega,rfl,rfl,d5.o,Wr.refl _,Kp.of (Fr.refl _ _)⟩
 case round=>
  obtain⟨i,hi,rfl,rfl,hc,hw,c6⟩:=hrel;rw[d.o]at hi;have HC:=lh hc;have HW:=lh hw;have r:=lh c6;clear hc hw c6;have b7:Hid (rD N (cutL (L.take i) (x,0)).1.E):=lh (rD.cutL _ d4.o)
  have b8:∀e,L[i]? = some e->cutL (L.take (i+1)) (x,0)=if (cutL (L.take i) (x,0)).2=0 then delS (cutL (L.take i) (x,0)).1 0 e.1 else cutL (L.take i) (x,0):=fun e C=>by
   rw[oM,C];exact aND _ _ _
  have I:=lh b8;have a2:Hid (cutL (L.take n) (x,0)=cutL L (x,0)):=lh (by rw[zF (by rw[d.o];exact tA _)]);clear b8
  by_cases e4:i<n
  ·obtain⟨y,hy⟩:∃y,cutL (L.take i) (x,0)=y:=⟨_,rfl⟩;rw[hy]at HC HW b7 I⊢;obtain⟨e,C⟩:∃e,L[i]? = some e:=gx (by rw[d.o];exact e4);have b':=lh (I.o e C);have J:=lh (b5.o e (rG C));obtain⟨go,rfl,m⟩:=tE HO.o (by omega);obtain⟨k1,v1,c7,c8,⟨q1,Q,c9⟩,⟨q2,c',e2⟩⟩:=lG.at_ HE.o C;have T:w.heap.size<=go:=lF HO.o _ rfl;have U:go<F.heap.size:=sF HO.o _ rfl;have s:kC X w F go:=.inr ⟨T,U⟩;have ck:wr.cell? ⟨go,i*2,none⟩=some k1:=r.o.cell (m _ _ c7) s;have cv:wr.cell? ⟨go,i*2+1,none⟩=some v1:=r.o.cell (m _ _ c8) s
   have V:q1<F.heap.size:=by
    obtain⟨_,_,_,_,_,hc⟩:=id Q;obtain⟨_,hc⟩:=hc (by have:=J.o;omega);exact cF F _ (hc 0 _ (xD (by rw[kA];have:=J.o;omega)))
   have A:kC X w F q1:=c9.imp id fun h=>⟨h,V⟩;have d7:=lh (r.o.bytes Q A);have d8:=lh A;obtain⟨A1,c1,_,rfl,_,_⟩:=id Q;obtain⟨A2,c2,_,rfl,_,_⟩:=id c'
   have d9:Hid (wr.rangeAt go (i*2) [.slice A1 e.1.length c1,.slice A2 e.2.length c2]):=lh (by
    intro j u G
    match j,G with
    | 0,G=>obtain rfl:=fG G;exact ck
    | 1,G=>obtain rfl:=fG G;exact cv
    | j+2,G=>simp at G)
   have e7:(i:Int)<(n:Int):=by omega
   have e8:=lh hy;clear m c7 c8 Q c9 c' e2 T U s ck cv V A C hy I a2;go_upto_region 4 with fail
   refine fE ?_;refine rn rfl (by go_simp<;>with_reducible rfl) ?_;simp only[nrm];refine lp fun K hK=>?_;refine Go.wp_load_mid 100 (.tmp 20) rfl go (i*2) rfl [.slice A1 e.1.length c1,.slice A2 e.2.length c2] _ d9.o Go.Proofs.Tryz.underlying100 rfl (by kernel_rfl) (hK _ _ ?_);simp only[nrm];clear hK;refine lp fun K hK=>?_;refine yB 100 rfl (.agg #[.slice none 0 0,.slice none 0 0]) [.slice none 0 0,.slice none 0 0] xS rfl fun wa b4 d0 d1=>hK _ _ ?_;simp only[nrm];clear hK;obtain⟨b9,a'⟩:=nm (wr.heap.size);rw[<- a']at b4⊢;have c0:=lh a';have d':=lh d0;have e9:=lh d1;have e0:=lh b4;clear a' d0 d1 b4;refine lp fun K hK=>?_;refine yA 100 (.tmp 9) (.tmp 21) rfl [.slice A1 e.1.length c1,.slice A2 e.2.length c2] rfl rfl e0.o vS rfl (by intro u G;simp only[kB,yG,aG]at G;rcases G with rfl|rfl<;>rfl) fun w4 d2 d3 e3=>hK _ _ ?_;simp only[Act.put];clear hK;have c3:=lh d2;have B:Hid (Fr [] wr w4):=lh (d'.o.trans d3 fun q p=>.inr (by rw[aB.1 p,c0.o];exact tA _));clear d2 d3 e3;refine sE ?_;have e':IntKind.i64.wrap ((i:Int)+1)=((i+1:Nat):Int):=by have:=a1.o;rw[iD];omega
   obtain⟨y1,y2⟩:=y
   by_cases S:y2=0
   ·subst S;have a3:=lh (HC.o.fr B.o);have c4:=a3.o.blk.at_ (i:=1) rfl;have b0:=c3.o.at_ (i:=0) rfl;go_upto_region 6 with fail
    have a4:w4.drew.cell? ⟨ca,1,none⟩=some (.pointer (some ⟨st,0,none⟩)):=c4;have a5:w4.drew.cell? ⟨b9,0,none⟩=some (.slice A1 e.1.length c1):=b0;have M:Fr [] w4 w4.drew:=(Fr.refl [] w4).drew;have c5:=lh (aFm (a3.o.stay M) (t:=0) (by omega) ((d7.o.fr B.o).fr M) (.inl d8.o) J.o.1 J.o.2 (aF (b7.o.few 0) (by have:=HN.o;omega)));refine lA (fun W=>W.cell? ⟨ca,1,none⟩=some (.pointer (some ⟨st,0,none⟩))/\W.cell? ⟨b9,0,none⟩=some (.slice A1 e.1.length c1)) [0,1,2,3,4,5,7,8,9] (by kernel_rfl) ?_;refine tks [0,1,2,3,4,5] ?_
    iterate 6 (refine tk rfl rfl ⟨a4,a5⟩ rfl (fun _ hW=>by(obtain⟨q0,q1⟩:=hW;go_simp)<;>with_reducible rfl) ?_;simp only[nrm])
    refine tke ?_;refine sp 6 rfl rfl rfl fun K hK=>?_;refine jA (l:=[.tmp 28,.const (.int .i64 0),.tmp 30]) rfl [.pointer (some ⟨st,0,none⟩),.int .i64 ((0:Nat):Int),.slice A1 e.1.length c1] rfl (rZ _) (c5.o.mono ?_);rintro e5 w5 ⟨⟨bb,rfl⟩,b1,b2,b3⟩;have a6:=Kp.less b3 (X:=kC (kC X w F) wr w4) (fun q p=>p);have O:=a6.cell a4 a3.o.xc;have P:=a6.cell a5 (.inr ⟨by rw[c0.o];exact tA _,c3.o.lt⟩);refine⟨_,rfl,hK _ _ (fun _=>⟨O,P⟩) ?_⟩;simp only[nrm];clear hK;refine tks [7,8,9] ?_
    iterate 3 (refine tk rfl rfl ⟨O,P⟩ rfl (fun _ hW=>by(obtain⟨q0,q1⟩:=hW;go_simp)<;>with_reducible rfl) ?_;simp only[nrm])
    refine tke ?_;refine sp 10 rfl rfl rfl fun K hK=>?_;refine nA (v:=?aq3_10) ?yq3_10 (hK _ _ (fun _=>⟨O,P⟩) ?_)
    case yq3_10=>go_simp<;>with_reducible rfl
    simp only[nrm];refine wd ?_ _;obtain⟨z,hz⟩:∃z,delS y1 0 e.1=z:=⟨_,rfl⟩;have b:=b'.o;rw[iA rfl]at b;rw[hz]at b1 b2 b⊢;have f:=lh b;have a7:=lh (b1.weak (fun q p=>.inl p) (Y:=kC X w F) (.inl H.o.sx.xs) (.inl H.o.xc));have e1:=lh (HW.o.trans b2);have a8:=lh (r.o.more ((Kp.of B.o).more ((Kp.of M).more (Kp.less b3 (X:=kC X w F) fun q p=>.inl p))));clear b1 b2 b3 a6 O P b hz c4 b0 a4 a5 M c5;go_wp2_with fail
    go_roundg (n-(i+1))
    case measure=>omega
    case rel=>exact⟨i+1,by rw[d.o];omega,rfl,by rw[f.o],by rw[f.o];exact a7.o,by rw[f.o];exact e1.o,a8.o⟩
   ·have e6:(y2==0)=false:=by rw[eI];exact S
    have b:=b'.o;rw[eA S]at b;have f:=lh b;have a7:=lh ((HC.o.stay B.o));have a8:=lh (r.o.more (Kp.of B.o));clear b S;go_wp2_with fail
    go_roundg (n-(i+1))
    case measure=>omega
    case rel=>exact⟨i+1,by rw[d.o];omega,rfl,by rw[f.o],by rw[f.o];exact a7.o,by rw[f.o];exact HW.o,a8.o⟩
  ·obtain rfl:i=n:=by omega
   rw[a2.o]at HC HW⊢;have HX:=lh (HQ.o _ _ ⟨rfl,HC.o.weak (fun q p=>.inl p) H.o.sx.xs H.o.xc,HW.o,(Kp.of d6.o).more (Kp.less r.o fun q p=>.inl p)⟩);rw[d.o]at HX;clear I a2;go_wp2_with fail;exact HX.o
end
theorem Rep.keys{E:Nat->En}{c:Ct}(h:Rep E c):∀e∈E 0,1<=e.1.length/\e.1.length<=96:=fun e b=>by
 obtain⟨y,d,t,_,b⟩:=(h.e0 e).1 b;obtain⟨j,_,rfl⟩:=xM.1 b;have:=(uF (h.ok.name y d)).2;simp only[sH,gD,List.length_nil];omega
def qI (w0:World) (dk g st ca:Nat) (x:SE) (X:Nat->Prop) (r:SE×Int) (w:World) (e:Ending) (w':World):Prop:=
 e=.returned (.int .i64 r.2)/\CtX w0 w' dk g st ca r.1 X/\Wr x.s r.1.s/\Kp X w w'
theorem xU(b:Array Value)(w:World):(callFunc 85 b).run prog w=.ok (.enter 85 b) w:=by kernel_rfl
theorem vE{w:World}{v:Value}{bs:List UInt8}{q:Nat}(h:cA w v bs q)(h0:0<bs.length):q<w.heap.size:=by
 obtain⟨_,_,_,_,_,b⟩:=h;obtain⟨_,b⟩:=b h0;exact cF w _ (b 0 _ (xD (by rw[kA];exact h0)))
section
variable {w0 w w' : World} {dk g st ca : Nat} {x x' : SE} {X Y : Nat -> Prop}
theorem qI.none{w1:World}{n:Int}(h:CtX w0 w dk g st ca x X)(b:Fr [] w w1):qI w0 dk g st ca x X (x,n) w (.returned (.int .i64 n)) w1:=⟨rfl,h.stay b,Wr.refl _,Kp.of b⟩
theorem aPE(h:CtX w0 w dk g st ca x X){N:Nat}(u:rD N x.E)(hN:N<=900000)(d id:Int)(cs ts:ByteArray):
  Calls prog 59 #[.pointer (some ⟨ca,0,none⟩),.agg #[.int .i64 d,.string cs,.int .i64 id,.string ts]] w (qI w0 dk g st ca x X (kW x (bA cs)) w):=by
 refine gA fun R HQ=>?_;have H:=lh h;have HN:=lh hN;have J:=lh u;obtain⟨wb,n⟩:=nm (w.alloc (.cells #[.int .i64 d,.string cs,.int .i64 id,.string ts] 65));have L:Fr [] w wb:=by rw[n];exact(Fr.refl [] w).alloc _
 have y:Blk wb w.heap.size 65 [.int .i64 d,.string cs,.int .i64 id,.string ts]:=by rw[n];exact Blk.new w _ [.int .i64 d,.string cs,.int .i64 id,.string ts]
 have M:=lh L;have a3:=lh y;have j:=lh (aFk (w:=wb) cs);obtain⟨r,hr⟩:∃r,kW x (bA cs)=r:=⟨_,rfl⟩;rw[hr]at HQ;have HR:=lh hr;clear h u L hr hN
 go_enter func59,ntmps59
 go_upto_region 1 with fail
 rw[<- n];have d1:=y.at_ (i:=1) rfl;clear n y
 cases s:nmB (bA cs) with
 | false=>
  rw[s]at j;have k:r=(x,1):=by rw[<- HR.o];unfold kW;rw[s];rfl
  have b:=lh k;clear s HR k;go_wp2_with fail;refine j.o.mono ?_;rintro e w1 ⟨rfl,f⟩;have O:=lh (HQ.o (.returned (.int .i64 1)) w1 (by rw[b.o];exact qI.none H.o (M.o.trans f)));clear f;go_wp2_with fail;exact O.o
 | true=>
  have hz:=uF s;have P:=zA cs;rw[s]at j
  have k:r=if jS (x.E 1) (nmK (bA cs))=true then (x,7) else putS x 1 (nmK (bA cs)) []:=by
   rw[<- HR.o];unfold kW;rw[s];simp only[bQ,dE]
  have Q:isC x cs=if jS (x.E 1) (nmK (bA cs))=true then 0 else 6:=by unfold isC isS;rw[s,Bool.true_and]
  have b:=lh k;have z:=lh Q;have S:=lh (fun W:World=>rN (w:=W) cs [] hz.1 (by omega) (by simp) (by simp) (v:=.slice none 0 0) (g:=0) (iH.nil _ _ _));have T:(nmK (bA cs)).length<=96/\1<=(nmK (bA cs)).length:=by rw[nL,sH];simp;omega
  have A:=lh T;rw[<- nL]at S;clear s HR hz T P k Q;go_wp2_with fail;refine j.o.mono ?_;rintro e w1 ⟨rfl,f⟩;have HF:=lh (M.o.trans f);have HB:=lh (a3.o.fr f);have d1:=HB.o.at_ (i:=1) rfl;have c:=lh (wU (H.o.stay HF.o) (by have:=J.o.few 1;have:=HN.o;omega) cs);rw[z.o]at c;clear f j
  cases hb:jS (x.E 1) (nmK (bA cs)) with
  | true=>
   rw[hb]at c b;have B:Hid (r=(x,7)):=lh (by have:=b.o;simpa using this);simp only[mH]at c;clear hb b z;go_wp2_with fail;refine c.o.mono ?_;rintro e G ⟨rfl,f⟩;have O:=lh (HQ.o (.returned (.int .i64 7)) G (by rw[B.o];exact qI.none H.o (HF.o.trans f)));clear f;go_wp2_with fail;exact O.o
  | false=>
   rw[hb]at c b;have B:Hid (r=putS x 1 (nmK (bA cs)) []):=lh (by have:=b.o;simpa using this);simp only[qG,dE]at c;clear hb b z;go_wp2_with fail;refine c.o.mono ?_;rintro e G ⟨rfl,f⟩;have C:=lh (HF.o.trans f);have U:=lh (HB.o.fr f);have e1:=U.o.at_ (i:=1) rfl;have c1:=(H.o.stay C.o).blk.at_ (i:=1) rfl;clear f c d1;go_upto_region 9 with fail
   have a4:G.drew.cell? ⟨ca,1,none⟩=some (.pointer (some ⟨st,0,none⟩)):=c1;have a5:G.drew.cell? ⟨w.heap.size,1,none⟩=some (.string cs):=e1;refine lA (fun W=>W.cell? ⟨ca,1,none⟩=some (.pointer (some ⟨st,0,none⟩))/\W.cell? ⟨w.heap.size,1,none⟩=some (.string cs)) [0,1,2,3,4,5] (by kernel_rfl) ?_;refine tks [0,1,2,3,4,5] ?_
   iterate 6 (refine tk rfl rfl ⟨a4,a5⟩ rfl (fun _ hW=>by(obtain⟨q0,q1⟩:=hW;go_simp)<;>with_reducible rfl) ?_;simp only[nrm])
   refine tke ?_;refine sp 6 rfl rfl rfl fun K hK=>?_;refine jA (l:=[.tmp 25,.const (.slice none 0 0)]) rfl [.string cs,.slice none 0 0] rfl (cM _) ((S.o _).mono ?_);rintro e w3 ⟨vk,rfl,⟨q,hk,I⟩,a0⟩;have m:Fr [] G w3:=((Fr.refl [] G).drew).trans a0;have c3:=aA m c1;have e3:=aA m e1;refine⟨_,rfl,hK _ _ (fun _=>⟨c3,e3⟩) ?_⟩;simp only[nrm];clear hK;have V:=vE hk (by have:=A.o;omega);have D:=C.o.trans m;have F:=lh (H.o.fr D);have a6:=lh (aLa F.o (t:=1) (by omega) hk (.inr ⟨aF C.o.size (show G.heap.size<=q from I),V⟩) (cA.nil w3 ca) F.o.xc A.o.2 A.o.1 (by simp) (by have:=J.o.few 1;have:=HN.o;omega));have Z:=lh D;clear hk I a0 m V D;refine sp 7 rfl rfl rfl fun K hK=>?_;refine jA (l:=[.tmp 23,.const (.int .i64 1),.tmp 26,.const (.slice none 0 0)]) rfl [.pointer (some ⟨st,0,none⟩),.int .i64 ((1:Nat):Int),vk,.slice none 0 0] rfl (xU _) (a6.o.mono ?_);rintro e w4 ⟨rfl,a1,a2,p⟩;have c4:=p.cell c3 F.o.xc;have e4:=p.cell e3 (.inr ⟨tA _,by have:=U.o.lt;have:=Z.o.size;have:=aP e3;exact this⟩);refine⟨_,rfl,hK _ _ (fun _=>⟨c4,e4⟩) ?_⟩;simp only[nrm];clear hK
   have O:=lh (HQ.o (.returned (.int .i64 (putS x 1 (nmK (bA cs)) []).2)) w4 (by
    rw[B.o];exact⟨rfl,a1.weak (fun q I=>.inl I) H.o.sx.xs H.o.xc,a2,(Kp.of Z.o).more (Kp.less p fun q I=>.inl I)⟩))
   clear a1 a2 p;refine sp 8 rfl rfl rfl fun K hK=>?_;refine nA (v:=?aq1_8) ?yq1_8 (hK _ _ (fun _=>⟨c4,e4⟩) ?_)
   case yq1_8=>go_simp<;>with_reducible rfl
   simp only[nrm];refine wd ?_ _;go_wp2_with fail;exact O.o
end
section
variable {w0 w w' : World} {dk g st ca : Nat} {x x' : SE} {X Y : Nat -> Prop}
theorem aPF(h:CtX w0 w dk g st ca x X){N:Nat}(m:rD N x.E)(hN:N<=900000){c:Ct}(hR:Rep x.E c)(b id:Int)(cs ts:ByteArray)(hn:nmB (bA cs)=true):
  Calls prog 60 #[.pointer (some ⟨ca,0,none⟩),.agg #[.int .i64 b,.string cs,.int .i64 id,.string ts]] w (qI w0 dk g st ca x X (aDS x (bA cs)) w):=by
 refine gA fun R HQ=>?_;have H:=lh h;have HN:=lh hN;have a5:=lh m;have a6:=lh hR.keys;obtain⟨wb,n⟩:=nm (w.alloc (.cells #[.int .i64 b,.string cs,.int .i64 id,.string ts] 65));have M:Fr [] w wb:=by rw[n];exact(Fr.refl [] w).alloc _
 have A:Blk wb w.heap.size 65 [.int .i64 b,.string cs,.int .i64 id,.string ts]:=by rw[n];exact Blk.new w _ [.int .i64 b,.string cs,.int .i64 id,.string ts]
 have O:=lh M;have a7:=lh A;obtain⟨r,hr⟩:∃r,aDS x (bA cs)=r:=⟨_,rfl⟩;rw[hr]at HQ;obtain⟨y,hy⟩:∃y,cutS x (nmK (bA cs))=y:=⟨_,rfl⟩;have P:r=if y.2=0 then delS y.1 1 (nmK (bA cs)) else y:=by rw[<- hr,<- hy];rfl
 have HR:=lh P;have a8:Hid (rD N y.1.E):=lh (by rw[<- hy];exact rD.cutS m _);have hz:=uF hn;have Q:=zA cs;have B:=lh (fun W:World=>rN (w:=W) cs [] hz.1 (by omega) (by simp) (by simp) (v:=.slice none 0 0) (g:=0) (iH.nil _ _ _));have S:(nmK (bA cs)).length<=96/\1<=(nmK (bA cs)).length:=by rw[nL,sH];simp;omega
 have f:=lh S;have a9:Hid (aft (nmK (bA cs))≠[]):=lh (by rw[nL];exact pV _ _);rw[<- nL]at B;have T:=lh hy;clear h m M hr hN hR P hy hz Q S hn
 go_enter func60,ntmps60
 go_upto_region 1 with fail
 rw[<- n];have d1:=A.at_ (i:=1) rfl;clear n A;go_wp2_with fail;refine(B.o _).mono ?_;rintro e w1 ⟨vk,rfl,⟨q,z,d⟩,hf⟩;have U:=lh (O.o.trans hf);have C:=lh (a7.o.fr hf);have j:=vE z (by have:=f.o;omega);have a':=lh (H.o.fr U.o);have V:=lh (aBK a'.o a5.o HN.o a6.o z (.inr ⟨aF O.o.size d,j⟩) a9.o (by have:=f.o;omega));have d1:=C.o.at_ (i:=1) rfl;obtain⟨Ak,ck,_,rfl,_,_⟩:=_root_.id z;clear z d hf j;go_wp2_with fail;refine V.o.mono ?_;rintro e L ⟨rfl,G,I,J⟩;have D:kC X w w1 w.heap.size:=.inr ⟨tA _,C.o.lt⟩;have b0:=lh (J.blk C.o D);rw[T.o]at G I⊢;have F:=lh G;have Z:=lh I;have b1:=lh J;have b2:=lh D;clear G I J D V T d1;obtain⟨y1,y2⟩:=y;have u:CtX w0 L dk g st ca y1 X:=F.o.weak (fun q d=>.inl d) H.o.sx.xs H.o.xc;have b3:=lh u;have a0:=lh ((Kp.of U.o).more (Kp.less b1.o fun q d=>.inl d));clear u
 by_cases s:y2=0
 ·subst s;have b4:Hid (r=delS y1 1 (nmK (bA cs))):=lh (by have:=HR.o;rwa [iA rfl]at this);have e1:=b0.o.at_ (i:=1) rfl;have c1:=F.o.blk.at_ (i:=1) rfl;clear HR;go_upto_region 4 with fail
  have b5:L.drew.cell? ⟨ca,1,none⟩=some (.pointer (some ⟨st,0,none⟩)):=c1;have b6:L.drew.cell? ⟨w.heap.size,1,none⟩=some (.string cs):=e1;refine lA (fun W=>W.cell? ⟨ca,1,none⟩=some (.pointer (some ⟨st,0,none⟩))/\W.cell? ⟨w.heap.size,1,none⟩=some (.string cs)) [0,1,2,3,4,5,8,9,10] (by kernel_rfl) ?_;refine tks [0,1,2,3,4,5] ?_
  iterate 6 (refine tk rfl rfl ⟨b5,b6⟩ rfl (fun _ hW=>by(obtain⟨q0,q1⟩:=hW;go_simp)<;>with_reducible rfl) ?_;simp only[nrm])
  refine tke ?_;refine sp 6 rfl rfl rfl fun K hK=>?_;refine jA (l:=[.tmp 26,.const (.slice none 0 0)]) rfl [.string cs,.slice none 0 0] rfl (cM _) ((B.o _).mono ?_);rintro e w3 ⟨vk,rfl,⟨q,z,d⟩,a2⟩;have k:Fr [] L w3:=((Fr.refl [] L).drew).trans a2;have c3:=aA k c1;have e3:=aA k e1;refine⟨_,rfl,hK _ _ (fun _=>⟨c3,e3⟩) ?_⟩;simp only[nrm];clear hK;have j:=vE z (by have:=f.o;omega);have a1:=lh (F.o.fr k);have b7:=lh (aFm a1.o (t:=1) (by omega) z (.inr ⟨d,j⟩) f.o.2 f.o.1 (aF (a8.o.few 1) (by have:=HN.o;omega)));have b8:=lh k;clear z d a2 k j;refine sp 7 rfl rfl rfl fun K hK=>?_;refine jA (l:=[.tmp 24,.const (.int .i64 1),.tmp 27]) rfl [.pointer (some ⟨st,0,none⟩),.int .i64 ((1:Nat):Int),vk] rfl (rZ _) (b7.o.mono ?_);rintro e w4 ⟨⟨bb,rfl⟩,a3,a4,p⟩;have c4:=p.cell c3 a1.o.xc;have e4:=p.cell e3 (.inl b2.o);refine⟨_,rfl,hK _ _ (fun _=>⟨c4,e4⟩) ?_⟩;simp only[nrm];clear hK
  have HX:=lh (HQ.o (.returned (.int .i64 (delS y1 1 (nmK (bA cs))).2)) w4 (by
   rw[b4.o];exact⟨rfl,a3.weak (fun q d=>.inl (.inl d)) H.o.sx.xs H.o.xc,Z.o.trans a4,a0.o.more ((Kp.of b8.o).more (Kp.less p fun q d=>.inl (.inl d)))⟩))
  clear a3 a4 p;refine tks [8,9,10] ?_
  iterate 3 (refine tk rfl rfl ⟨c4,e4⟩ rfl (fun _ hW=>by(obtain⟨q0,q1⟩:=hW;go_simp)<;>with_reducible rfl) ?_;simp only[nrm])
  refine tke ?_;refine sp 11 rfl rfl rfl fun K hK=>?_;refine nA (v:=?aq1_11) ?yq1_11 (hK _ _ (fun _=>⟨c4,e4⟩) ?_)
  case yq1_11=>go_simp<;>with_reducible rfl
  simp only[nrm];refine sp 12 rfl rfl rfl fun K hK=>?_;refine nA (v:=?aq1_12) ?yq1_12 (hK _ _ (fun _=>⟨c4,e4⟩) ?_)
  case yq1_12=>go_simp<;>with_reducible rfl
  simp only[nrm];refine wd ?_ _;go_wp2_with fail;exact HX.o
 ·have b9:(y2 !=0)=true:=by rw[aJ];exact s
  have HX:=lh (HQ.o (.returned (.int .i64 y2)) L (by
   have:=HR.o;rw[eA s]at this;rw[this];exact⟨rfl,b3.o,Z.o,a0.o⟩))
  clear s;go_wp2_with fail;exact HX.o
theorem sZ(w:World)(n:Int)(b:idB n=true):iH (w.alloc (.cells #[.int .i64 n] 3)) (.slice (some ⟨w.heap.size,0,none⟩) 1 1) 1 ([n.toNat].map fun n:Nat=>Value.int .i64 (n:Int)) w.heap.size:=by
 have h:=mL.1 b;have e:((n.toNat:Nat):Int)=n:=by omega
 show iH _ _ 1 [Value.int .i64 ((n.toNat:Nat):Int)] _
 rw[e];exact iH.of_blk (Blk.new w 3 [.int .i64 n]) 1 1 (tA _)
theorem aPG(h:CtX w0 w dk g st ca x X){N:Nat}(p:rD N x.E)(hN:N<=900000){c:Ct}(hR:Rep x.E c)(b d:Int)(cs ts:ByteArray)(F:nmB (bA cs)=true):
  Calls prog 61 #[.pointer (some ⟨ca,0,none⟩),.agg #[.int .i64 b,.string cs,.int .i64 d,.string ts]] w (qI w0 dk g st ca x X (jW x (bA cs) d) w):=by
 refine gA fun R HQ=>?_;have H:=lh h;have HN:=lh hN;have a1:=lh p;have a2:=lh hR.keys;obtain⟨V,l⟩:=nm (w.alloc (.cells #[.int .i64 b,.string cs,.int .i64 d,.string ts] 65));have G:Fr [] w V:=by rw[l];exact(Fr.refl [] w).alloc _
 have j:Blk V w.heap.size 65 [.int .i64 b,.string cs,.int .i64 d,.string ts]:=by rw[l];exact Blk.new w _ [.int .i64 b,.string cs,.int .i64 d,.string ts]
 have s:=lh G;have a7:=lh j;obtain⟨r,hr⟩:∃r,jW x (bA cs) d=r:=⟨_,rfl⟩;rw[hr]at HQ;have k:=lh (fun W:World=>kI (w:=W) d);have HR:=lh hr;have hz:=uF F;have I:=zA cs;clear h p G hr hN hR F
 go_enter func61,ntmps61
 go_upto_region 1 with fail
 rw[<- l];have d1:=j.at_ (i:=1) rfl;have d2:=j.at_ (i:=2) rfl;clear l j
 cases hi:idB d with
 | false=>
  rw[hi]at k;have f:r=(x,6):=by rw[<- HR.o];unfold jW;rw[hi];rfl
  have t:=lh (HQ.o (.returned (.int .i64 6)) V (by rw[f];exact qI.none H.o s.o));clear hi HR f;go_wp2_with fail;refine(k.o _).mono ?_;rintro e w1 ⟨rfl,rfl⟩;go_wp2_with fail;exact t.o
 | true=>
  rw[hi]at k;have J:=lh (fun W=>sZ W d hi);have L:=mL.1 hi;obtain⟨K,hK⟩:∃K,nB (bA cs) [d.toNat]=K:=⟨_,rfl⟩;obtain⟨y,hy⟩:∃y,cutS x K=y:=⟨_,rfl⟩;have f:r=if y.2=0/\rC (x.E 0) K=[] then (y.1,6) else y:=by rw[<- HR.o,<- hy,<- hK];unfold jW;rw[hi];simp only[bQ,dE]
  have u:=lh f
  have a3:Hid (∀(W:World),Calls prog 45 #[.string cs,.slice (some ⟨W.heap.size,0,none⟩) 1 1] (W.alloc (.cells #[.int .i64 d] 3)) fun e w'=>∃v',e=.returned v'/\(∃q,cA w' v' K q/\W.heap.size+1<=q)/\Fr [] (W.alloc (.cells #[.int .i64 d] 3)) w'):=lh fun W=>by
   have:=rN (w:=W.alloc (.cells #[.int .i64 d] 3)) cs [d.toNat] hz.1 (by omega) (by simp;omega) (by simp) (J.o W);rw[hK,xC]at this;exact this
  have M:K.length<=96/\1<=K.length:=by rw[<- hK,sH];simp;omega
  have O:=lh M;have a4:Hid (aft K≠[]):=lh (by rw[<- hK];exact pV _ _);have P:=lh hy;clear hi HR f hK hy M hz I L J;go_wp2_with fail;refine(k.o _).mono ?_;rintro e w1 ⟨rfl,rfl⟩;go_wp2_with fail;refine(a3.o V).mono ?_;rintro e w1 ⟨vk,rfl,⟨q,hk,Z⟩,hf⟩;have Q:=lh (s.o.trans (((Fr.refl [] V).alloc _).trans hf));have S:=vE hk (by have:=O.o;omega);have a5:=lh (H.o.fr Q.o);have T:=lh (aBK a5.o a1.o HN.o a2.o hk (.inr ⟨by have:=s.o.size;omega,S⟩) a4.o (by have:=O.o;omega));obtain⟨Ak,ck,_,rfl,_,_⟩:=_root_.id hk;clear hk Z hf S;go_wp2_with fail;refine T.o.mono ?_;rintro e w2 ⟨rfl,B,C,a0⟩;rw[P.o]at B C⊢;obtain⟨y1,y2⟩:=y;have v:=lh (B.weak (fun q Z=>.inl Z) H.o.sx.xs H.o.xc);have z:=lh C;have A:=lh ((Kp.of Q.o).more (Kp.less a0 fun q Z=>.inl Z));obtain⟨n,F⟩:∃n,(rC (x.E 0) K).length=n:=⟨_,rfl⟩;rw[F];have U:Hid (rC (x.E 0) K=[]↔n=0):=lh (by rw[<- F];exact tO.symm);clear B C a0 T P d1 d2 F
  by_cases m:y2=0
  ·subst m
   by_cases D:n=0
   ·subst D
    have t:=lh (HQ.o (.returned (.int .i64 6)) w2 (by
     have:=u.o;rw[iA ⟨rfl,U.o.2 rfl⟩]at this;rw[this];exact⟨rfl,v.o,z.o,A.o⟩))
    go_wp2_with fail;exact t.o
   ·have a8:((n:Int)==0)=false:=by rw[eI];omega
    have t:=lh (HQ.o (.returned (.int .i64 0)) w2 (by
     have:=u.o;rw[eA (fun h=>D (U.o.1 h.2))]at this;rw[this];exact⟨rfl,v.o,z.o,A.o⟩))
    clear D;go_wp2_with fail;exact t.o
  ·have a6:(y2==0)=false:=by rw[eI];exact m
   have t:=lh (HQ.o (.returned (.int .i64 y2)) w2 (by
    have:=u.o;rw[eA (fun h=>m h.1)]at this;rw[this];exact⟨rfl,v.o,z.o,A.o⟩))
   clear m;go_wp2_with fail;exact t.o
end
end
section
open Go.RowKit
section
variable {F : Fence} {n : Nat} {P : Program}
def yS (B:Nat) (W W':World):Prop:=W.heap.size<=W'.heap.size/\W'.heap[B]? = W.heap[B]? /\ W'.heap[B+1]? = W.heap[B+1]?
def aPH {α:Type} (B:Nat) (Kp:World->World->Prop) (I:List α->World->Prop) (Ix:Code->List α->World->Prop) (xs:List α) (W:World):Exit->Act->World->Prop
 | .normal,_,W'=>yS B W W'/\Kp W W'/\I xs W'
 | .ret,_,W'=>yS B W W'/\Ix .ret xs W'
 | .exit id,_,W'=>yS B W W'/\Ix (.exit id) xs W'
 | .goto t,_,W'=>yS B W W'/\Ix (.goto t) xs W'
 | .panic _,_,_=>False
 | .outgrown,_,_=>False
structure AbJ {β:Type} (B:Nat) (I:β->World->Prop):Prop where
 drew:∀s W,I s W->I s W.drew
 alloc:∀s W o,I s W->W.heap.size=B∨W.heap.size=B+1->I s (W.alloc o)
 put:∀s W o o',I s W->W.heap[B+1]? = some o->o.isCells=false->I s (W.putObj (B+1) o')
theorem xV{α:Type}{g:Operand}{ps:Array Tmp}{assign body:Code}{Q:Exit->Act->World->Prop}{a:Act}{w:World}
 (hro:F.round=none)(h1:1<=n){gf:Nat}{lb:Array Value}(hg:a.eval g=.func (.func gf) #[] lb)(hFg:F.fn gf)(eg:∀args w,(callFunc gf args).run P w=.ok (.enter gf args) w)
 {encs:α->Array Value}{Kp:World->World->Prop}{S Sp:List α->Prop}{T:List α->α->Prop}{N:Nat}{w0:World}
 (hseq:∀(l:Nat) (J Jx:List α->World->Prop) (W:World),Below w0.heap.size w0 W->(∀pre W,J pre W->J pre W.drew) ->
   (∀pre x W1,T pre x->J pre W1->pre.length<N->YieldAt F (n-1-1) P l (encs x) W1 fun e W'=>(e=.returned (.bool true)/\J (pre++[x]) W'/\Kp W1 W')∨(e=.returned (.bool false)/\Jx (pre++[x]) W')) ->
   J [] W->CallsIn F (n-1) P gf (#[.func (.yield l) #[] #[]]++lb) W fun e W'=>(∃v,e=.returned v)/\((∃xs,S xs/\J xs W')∨(∃pre,Sp pre/\Jx pre W')))
 (hKt:∀ {A B C:World},Kp A B->Kp B C->Kp A C)(hKb:∀(W:World) (l:Nat) (o o':Obj),w.heap.size<=l->W.heap[l]? = some o->o.isCells=false->Kp W (W.putObj l o'))(hb0:Below w0.heap.size w0 w)(hps:∀x,(encs x).size=ps.size)
 (I:List α->World->Prop)(Ix:Code->List α->World->Prop)(hI:AbJ w.heap.size I)(hIx:∀c,AbJ w.heap.size (Ix c))(h0:I [] w)(a₁:α->Act)
 (hassign:∀(l:Nat) (x:α) (W:World) (K:Act->World->Prop),K (a₁ x) W ->
   assign.wpIn (F.inRound l) (n-1-1) P (Exit.then K (fun _ _ _=>False)) { tmps:=(ps.zip (encs x)).foldl (fun t (p,v)=>t.setIfInBounds p v) a.tmps,defers:=[] } W)
 (hbody:∀(l:Nat) (pre:List α) (x:α) (W:World),w.heap.size+2<=W.heap.size->T pre x->I pre W->pre.length<N->body.wpIn (F.inRound l) (n-1-1) P (aPH w.heap.size Kp I Ix (pre++[x]) W) (a₁ x) W)
 (hdone:∀(xs:List α) (W:World),w.heap.size+2<=W.heap.size->S xs->I xs W->W.heap[w.heap.size]? = some (.deferred (some []))->Q .normal { a with defers:={ target:=.collected w.heap.size,args:=#[] }::a.defers } W)
 (hstop:∀(c:Code) (pre:List α) (W:World),w.heap.size+2<=W.heap.size->Sp pre->Ix c pre W->W.heap[w.heap.size]? = some (.deferred (some []))->c.wpIn F n P Q { a with defers:={ target:=.collected w.heap.size,args:=#[] }::a.defers } W):
  (Code.rangeFunc g ps assign body).wpIn F n P Q a w:=by
 refine wpIn_rangeFunc ?_;intro fn hfn;rw[hro];obtain⟨rec,hrec⟩:∃rec:LoopState->Option Code->Loop,rec=fun st pe=>{ state:=st,pending:=pe,fn,tmps:=a.tmps,params:=ps,assign,body,defers:=w.heap.size }:=⟨_,rfl⟩;obtain⟨W1,hW1⟩:∃W1,(w.alloc (.deferred (some []))).alloc (.loop (rec .ready none))=W1:=⟨_,rfl⟩
 have hL1:W1.heap[w.heap.size+1]? = some (.loop (rec .ready none)):=by
  rw[<- hW1];have:=Go.World.alloc_heap_new (w.alloc (.deferred (some []))) (.loop (rec .ready none));rwa [xC]at this
 have hK1:W1.heap[w.heap.size]? = some (.deferred (some [])):=by
  rw[<- hW1];exact(Go.RowKit.Below.heap_alloc _ _ _ (by simp)).trans (Go.World.alloc_heap_new w _)
 have hI1:I [] W1:=by rw[<- hW1];exact hI.alloc _ _ _ (hI.alloc _ _ _ h0 (.inl rfl)) (.inr (by simp))
 have hb1:Below w0.heap.size w0 W1:=by
  rw[<- hW1];exact hb0.trans ((((Below.refl _ w).alloc (tA _) _).alloc (by simp) _).mono hb0.size)
 refine⟨w.heap.size+1,[{ target:=.collected w.heap.size,args:=#[] }],W1,{ target:=.fn (.func gf) lb,args:=#[.func (.yield (w.heap.size+1)) #[] #[]] },W1,gf,
  #[.func (.yield (w.heap.size+1)) #[] #[]]++lb,W1,?_,?_,?_,?_,fun _=>h1,?_⟩
 ·rw[<- hW1,hrec];exact run_enterLoop_outer _ _ _ _ _
 ·simp only[resolve,hg]
  simp[go_sem]
 ·intro f' hf';simp[Target.leads]at hf';subst hf';exact hFg
 ·simp[invoke,go_sem,eg]
 ·refine(hseq (w.heap.size+1)
   (fun pre W=>I pre W/\W.heap[w.heap.size+1]? = some (.loop (rec .ready none))/\W.heap[w.heap.size]? = some (.deferred (some [])))
   (fun pre W=>∃c,Ix c pre W/\W.heap[w.heap.size+1]? = some (.loop (rec .done (some c)))/\W.heap[w.heap.size]? = some (.deferred (some [])))
   W1 hb1 (fun s A hs=>⟨hI.drew _ _ hs.1,hs.2⟩) ?_ ⟨hI1,hL1,hK1⟩).mono ?_
  ·rintro pre x W hT ⟨hi,hl,hk⟩ hlen;have hlt:w.heap.size+1<W.heap.size:=(uI.1 hl).1;have hy:=run_yield (P:=P) (args:=encs x) hl (by rw[hrec];exact hps x);rw[hrec]at hy;refine⟨fn,_,assign,body,hy,roundIn_of_wpIn hfn (hassign _ x W _ ⟨_,run_beginRound hl (by rw[hrec]),?_⟩)⟩;have hl2:(W.putObj (w.heap.size+1) (.loop { rec .ready none with state:=.busy })).heap[w.heap.size+1]? = some (.loop { rec .ready none with state:=.busy }):=Go.World.putObj_heap_same hlt;have hk2:(W.putObj (w.heap.size+1) (.loop { rec .ready none with state:=.busy })).heap[w.heap.size]? = some (.deferred (some [])):=(Go.World.putObj_heap_other (by omega)).trans hk;have hw2:Kp W (W.putObj (w.heap.size+1) (.loop { rec .ready none with state:=.busy })):=hKb _ _ _ _ (by omega) hl rfl;refine wpIn_mono (hbody _ pre x _ (aAq (uI.1 hl2).1) hT (hI.put _ _ _ _ hi hl rfl) hlen) ?_
   have fin:∀(jump:Option Code) (W3:World),yS w.heap.size (W.putObj (w.heap.size+1) (.loop { rec .ready none with state:=.busy })) W3 ->
     (Instr.endRound (w.heap.size+1) jump).run P W3=.ok (.bool jump.isNone) (W3.putObj (w.heap.size+1) (.loop (rec (if jump.isNone then .ready else .done) jump))) /\
     W3.heap[w.heap.size+1]? = some (.loop { rec .ready none with state:=.busy }) /\
     (W3.putObj (w.heap.size+1) (.loop (rec (if jump.isNone then .ready else .done) jump))).heap[w.heap.size+1]? = some (.loop (rec (if jump.isNone then .ready else .done) jump)) /\
     (W3.putObj (w.heap.size+1) (.loop (rec (if jump.isNone then .ready else .done) jump))).heap[w.heap.size]? = some (.deferred (some [])):=fun jump W3 hk3=>by
    have hl3:=hk3.2.2.trans hl2;have:=run_endRound (P:=P) jump hl3;rw[hrec]at this⊢;exact⟨this,by rw[hrec]at hl3;exact hl3,Go.World.putObj_heap_same (uI.1 hl3).1,(Go.World.putObj_heap_other (by omega)).trans (hk3.2.1.trans hk2)⟩
   rintro e a3 W3 hp
   cases e with
   | normal=>
    obtain⟨hk3,hkp3,hi3⟩:=hp;obtain⟨hr,hl3,hl4,hk4⟩:=fin none W3 hk3;exact⟨_,_,hr,.inl ⟨rfl,⟨hI.put _ _ _ _ hi3 hl3 rfl,hl4,hk4⟩,hKt (hKt hw2 hkp3) (hKb _ _ _ _ (by omega) hl3 rfl)⟩⟩
   | ret=>
    obtain⟨hk3,hi3⟩:=hp;obtain⟨hr,hl3,hl4,hk4⟩:=fin (some .ret) W3 hk3;exact⟨_,_,hr,.inr ⟨rfl,.ret,(hIx _).put _ _ _ _ hi3 hl3 rfl,hl4,hk4⟩⟩
   | exit id=>
    obtain⟨hk3,hi3⟩:=hp;obtain⟨hr,hl3,hl4,hk4⟩:=fin (some (.exit id)) W3 hk3;exact⟨_,_,hr,.inr ⟨rfl,.exit id,(hIx _).put _ _ _ _ hi3 hl3 rfl,hl4,hk4⟩⟩
   | goto t=>
    obtain⟨hk3,hi3⟩:=hp;obtain⟨hr,hl3,hl4,hk4⟩:=fin (some (.goto t)) W3 hk3;exact⟨_,_,hr,.inr ⟨rfl,.goto t,(hIx _).put _ _ _ _ hi3 hl3 rfl,hl4,hk4⟩⟩
   | panic ch=>exact hp.elim
   | outgrown=>exact hp.elim
  ·rintro e W2 ⟨⟨v,rfl⟩,(⟨xs,hS,hi,hl,hk⟩|⟨pre,hSp,c,hi,hl,hk⟩)⟩
   ·exact⟨none,_,by have:=run_endLoop (P:=P) hl (by rw[hrec];simp);rw[hrec]at this;exact this,hdone xs _ (aAq (uI.1 (Go.World.putObj_heap_same (uI.1 hl).1)).1) hS (hI.put _ _ _ _ hi hl rfl) ((Go.World.putObj_heap_other (by omega)).trans hk)⟩
   ·exact⟨some c,_,by have:=run_endLoop (P:=P) hl (by rw[hrec];simp);rw[hrec]at this;exact this,hstop c pre _ (aAq (uI.1 (Go.World.putObj_heap_same (uI.1 hl).1)).1) hSp ((hIx c).put _ _ _ _ hi hl rfl) ((Go.World.putObj_heap_other (by omega)).trans hk)⟩
end
end
section
open Go.RowKit Go.Shelf
attribute [local go_sem] Oper.semAt_some
def aIP (g off ln k:Nat):Value:=.slice (some ⟨g,off+64*k,none⟩) (min 64 (ln-64*k)) (min 64 (ln-64*k))
theorem aLb(n l u y g off c m cap:Nat)(A:Option Addr)(hA:0<c->A=some ⟨g,off,none⟩)(a5:c<=cap)(hm:m=(c+63) / 64)(a8:c<=100000)(hn:1<=n)(J Jx:List (Fin m)->World->Prop)
 (hY:∀pre (x:Fin m) W,pre=nK m x.1->J pre W->pre.length<m->YieldAt Fence.wide (n-1) prog l #[aIP g off c x.1] W fun e s=>
   (e=.returned (.bool true)/\J (pre++[x]) s/\fJ u y W s)∨(e=.returned (.bool false)/\Jx (pre++[x]) s))
 (Z:∀pre W,J pre W->J pre W.drew)
 (W:World)(a0:W.cell? ⟨u,0,none⟩=some (.slice A c cap))(a1:W.cell? ⟨y,0,none⟩=some (.int .i64 64))(h0:J [] W):
  CallsIn Fence.wide n prog 115 #[.func (.yield l) #[] #[],.pointer (some ⟨u,0,none⟩),.pointer (some ⟨y,0,none⟩)] W fun e s=>(∃v,e=.returned v) /\
   ((∃ys,ys=List.finRange m/\J ys s)∨(∃pre,True/\Jx pre s)):=by
 refine callsIn_of_wp func115 rfl trivial ?_ rfl;simp only[ntmps115,eT,gD,List.length_nil,Nat.reduceAdd,Nat.reduceSub,Array.replicate_succ,aAi,List.push_toArray,List.append_toArray,eH,zI];have HM:=lh hm;clear hm
 gi_wp2
 gi_loopw [4] (fun i wr=>∃k:Nat,k<=m/\i=.int .i64 ((64*k:Nat):Int)/\J (nK m k) wr/\wr.cell? ⟨u,0,none⟩=some (.slice A c cap)/\wr.cell? ⟨y,0,none⟩=some (.int .i64 64))
  (fun i _=>64*m-(intOf i).toNat)
 case atStart=>exact⟨0,rB _,rfl,h0,a0,a1⟩
 case round=>
  obtain⟨k,hk,rfl,B,cs,G⟩:=hrel
  by_cases r:k<m
  ·obtain⟨fn,tmps,H,a4,Q,hR⟩:=hY _ ⟨k,r⟩ wr.drew rfl (Z _ _ B) (by rw[jX hk];exact r);have I:64*k<c:=by have:=HM.o;omega
   obtain rfl:=hA (by omega);obtain⟨q,hq⟩:∃q,min 64 (c-64*k)=q:=⟨_,rfl⟩;obtain⟨b,d⟩:∃b,64*k=b:=⟨_,rfl⟩;obtain⟨S,C⟩:∃S,64*(k+1)=S:=⟨_,rfl⟩;obtain⟨D,T⟩:∃D,b+q=D:=⟨_,rfl⟩;unfold aIP at Q
   dsimp only at Q
   rw[hq,d]at Q;rw[d];have a6:0<q:=by omega
   have f:=aH Go.Proofs.Tryz.underlying67 bL (some ⟨g,off,none⟩) c cap b .i64 (by omega);rw[eA (by omega)]at f;simp only[yP,Go.Addr.add_mid]at f
   have a2:∀(ts:Array TypeId) (t:TypeId) (W:World),(Builtin.min_ ts t #[.int .i64 64,.int .i64 ((c-b:Nat):Int)]).run prog W=.ok (.int .i64 (q:Int)) W:=fun ts t W=>by
    rw[run_min_int2]
    split
    ·have e:((c-b:Nat):Int)=(q:Int):=by omega
     rw[e]
    ·have e:(64:Int)=(q:Int):=by omega
     rw[e]
   have x0:IntKind.i64.wrap ((b:Int)+(q:Int))=(D:Int):=by rw[iD];omega
   have x1:IntKind.i64.wrap ((b:Int)+64)=(S:Int):=by rw[iD];omega
   have j:=aDf (some ⟨g,off,none⟩) c cap b D (by omega) (by omega);rw[eA (by omega),show D-b=q by omega]at j;simp only[yP,Go.Addr.add_mid]at j;have z:=lh C;have L:=lh d;have a3:(b:Int)<(c:Int):=by omega
   have p:=lh r;clear hq C T I d
   gi_wp2
   refine fL (fun W=>W.cell? ⟨u,0,none⟩=some (.slice (some ⟨g,off,none⟩) c cap)/\W.cell? ⟨y,0,none⟩=some (.int .i64 64)) [0,1,2,3,4,5] (by kernel_rfl) ?_;refine tks [0,1,2] ?_
   iterate 3 (refine tk rfl rfl ⟨cs,G⟩ rfl (fun _ Y=>by(obtain⟨U,V⟩:=Y;go_simp)<;>with_reducible rfl) ?_;simp only[nrm])
   refine tke ?_;refine tv 3 (.slice (some ⟨g,off+b,none⟩) (c-b) (cap-b)) rfl rfl ⟨cs,G⟩ (.inl ⟨rfl,fun W _=>mG rfl rfl rfl rfl (f W)⟩) ?_;simp only[nrm];refine tks [4,5] ?_
   iterate 2 (refine tk rfl rfl ⟨cs,G⟩ rfl (fun _ Y=>by(obtain⟨U,V⟩:=Y;go_simp)<;>with_reducible rfl) ?_;simp only[nrm])
   refine tke ?_;refine sp 6 rfl rfl rfl fun K hK=>?_;refine nA (v:=?aq1_6) ?yq1_6 (hK _ _ (fun h=>absurd h (by decide +kernel)) ?_)
   case yq1_6=>go_simp<;>with_reducible rfl
   simp only[nrm];refine wd ?_ _;have M:wr.drew.cell? ⟨u,0,none⟩=some (.slice (some ⟨g,off,none⟩) c cap):=cs;have N:wr.drew.cell? ⟨y,0,none⟩=some (.int .i64 64):=G
   gi_wp2
   refine hR.mono ?_;rintro e W3 (⟨rfl,X,E⟩|⟨rfl,F⟩)
   ·have O:=E.1.trans M;have P:=E.2.trans N
    gi_wp2
    go_roundw
    case rel=>exact⟨k+1,p.o,by rw[z.o],by rw[lU p.o];exact X,O,P⟩
    case measure=>have:=z.o;have:=L.o;have:=p.o;simp[intOf];omega
   ·gi_wp2
    refine eF (results_none rfl _ _ _) rfl ?_;exact⟨⟨_,rfl⟩,.inr ⟨_,trivial,F⟩⟩
  ·obtain rfl:k=m:=by omega
   obtain⟨b,d⟩:∃b,64*k=b:=⟨_,rfl⟩;rw[d];have a7:¬ (b:Int)<(c:Int):=by have:=HM.o;omega
   clear d
   gi_wp2
   go_end0
   exact⟨⟨_,rfl⟩,.inl (by have h9:=B;unfold nK at h9;rwa [zF (by simp)]at h9)⟩
end
end Go.Proofs.YtebjhcjbfaaejaaGreatDoor
