/-
  Joined: Qo Qp Rpl By Ua Ub
-/
import Derived.Lib.Strings
import Derived.Test.YtebjhcjbfaaejaaGreatDoorChecked
import Derived.Test.YtebjhcjbfaaejaaGreatDoorJca18
set_option maxRecDepth 100000
set_option maxHeartbeats 32000000
namespace Go.Proofs.YtebjhcjbfaaejaaGreatDoor
open Go.Proofs.Tryz
variable {n k m d:Nat}{S:PS}{α:Type}
section
open Go.RowKit Go.ChangeMaps Go.MapKept Go.Maps Go.Sort Go.Shelf
def sU (t:Int) (key:Ky):Bool:=decide (0<=t)&&decide (t<8)&&decide (0<key.length)&&decide (key.length<=96)
theorem aGN{w:World}{kv:Value}{key:Ky}(t:Int)(i:cA w kv key n):Calls prog 107 #[.int .i64 t,kv] w fun e w'=>e=.returned (.bool (sU t key))/\w=w':=by
 obtain⟨A,c,_,rfl,_,_⟩:=i;refine gA fun R h=>?_;have b:=lh (h.o _ _ ⟨rfl,rfl⟩)
 by_cases h1:0<=t
 ·by_cases h2:t<8
  ·by_cases h3:0<key.length
   ·have d:(0:Int)<(key.length:Int):=by omega
    by_cases g:key.length<=96
    ·have f:(key.length:Int)<=96:=by omega
     have e:sU t key=true:=by unfold sU;simp[h1,h2,h3,g]
     rw[e]at b
     go_enter Go.Proofs.Tryz.func107,Go.Proofs.Tryz.ntmps107
     go_wp2_with fail;exact b.o
    ·have f:¬ (key.length:Int)<=96:=by omega
     have e:sU t key=false:=by unfold sU;simp[g]
     rw[e]at b
     go_enter Go.Proofs.Tryz.func107,Go.Proofs.Tryz.ntmps107
     go_wp2_with fail;exact b.o
   ·have d:¬ (0:Int)<(key.length:Int):=by omega
    have e:sU t key=false:=by unfold sU;simp[h3]
    rw[e]at b
    go_enter Go.Proofs.Tryz.func107,Go.Proofs.Tryz.ntmps107
    go_wp2_with fail;exact b.o
  ·have e:sU t key=false:=by unfold sU;simp[h2]
   rw[e]at b
   go_enter Go.Proofs.Tryz.func107,Go.Proofs.Tryz.ntmps107
   go_wp2_with fail;exact b.o
 ·have e:sU t key=false:=by unfold sU;simp[h1]
  rw[e]at b
  go_enter Go.Proofs.Tryz.func107,Go.Proofs.Tryz.ntmps107
  go_wp2_with fail;exact b.o
theorem aKD{c:CD}{E:Nat->En}{P:Nat->List Nat}{F:List Nat}{t:Nat}{x:It}(h:vH c E P F)(ht:t<8)(l:x.ok true)(m:(E t).length<1099511627776)(o:c.roots t≠0):
  ∃c1 u,aKw 40 c (c.roots t) x c1 u/\putC c t x=some (lE c1 t u)/\(c1.pg=c.pg/\c1.n=c.n)/\c1.roots t=c.roots t/\(u.2≠0->1<=u.1.length/\u.1.length<=96/\u.2<65536/\c1.e=0/\0<c1.n/\(c1.head≠0->c1.head<c1.n/\∃j,c1.nx c1.head=some j)):=by
 have g:=h.acc.swap (pQ ht).symm;rcases h.tree t ht with ⟨p,_,_⟩|⟨_,i,b⟩
 ·exact absurd p o
 ·obtain⟨c1,u,k,d⟩:=aGz i (f:=40) (yK b m) b g h.e l (fun _ h=>by cases h) (fun _ h=>by cases h);refine⟨c1,u,aLQ i (yK b m) b g h.e l (fun _ h=>by cases h) (fun _ h=>by cases h) _ _ k,?_,⟨d.1.pg,d.1.n⟩,by rw[d.1.roots],aIp d⟩;unfold putC;rw[eA o,k]
  rfl
theorem aDF(b:Array Value)(w:World):(callFunc 121 b).run prog w=.ok (.enter 121 b) w:=by kernel_rfl
structure SE where
 s:PS
 E:Nat->En
noncomputable def putS (x:SE) (t:Nat) (key v:Ky):SE×Int:=
 match putC (aC x.s.page x.s.n) t ⟨key,v,0⟩ with
 | some c=>if c.e=0 then (⟨endS x.s c,sD x.E t (uH (x.E t) key v)⟩,0) else (x,5)
 | none=>(x,5)
theorem aIq{s:PS}{E:Nat->En}{t:Nat}{key v:Ky}{c:CD}(h:putC (aC s.page s.n) t ⟨key,v,0⟩=some c)(b:c.e=0):putS ⟨s,E⟩ t key v=(⟨endS s c,sD E t (uH (E t) key v)⟩,0):=by
 unfold putS
 simp only
 rw[h]
 simp only
 rw[iA b]
theorem aQE{s:PS}{E:Nat->En}{t:Nat}{key v:Ky}{c:CD}(h:putC (aC s.page s.n) t ⟨key,v,0⟩=some c)(b:c.e=5):putS ⟨s,E⟩ t key v=(⟨s,E⟩,5):=by
 unfold putS
 simp only
 rw[h]
 simp only
 rw[eA (by rw[b];decide)]
def aQF (w0:World) (dk g st:Nat) (s:PS) (X:Nat->Prop) (E:Nat->En) (t:Nat) (key v:Ky) (w:World) (e:Ending) (w':World):Prop:=
 ∃s',Wr s s'/\Kp X w w'/\((e=.returned (.int .i64 0)/\StX w0 w' dk g st s' X (sD E t (uH (E t) key v))/\putS ⟨s,E⟩ t key v=(⟨s',sD E t (uH (E t) key v)⟩,0))∨(e=.returned (.int .i64 5)/\s'=s/\StX w0 w' dk g st s X E/\s.n<=2*(uH (E t) key v).length+2*(aEY E t).length/\putS ⟨s,E⟩ t key v=(⟨s,E⟩,5)))
section
variable {w0 w : World} {dk g st : Nat} {s : PS} {X : Nat -> Prop} {E : Nat -> En}
theorem Put_F(h:StX w0 w dk g st s X E){t:Nat}(ht:t<8){kv vv:Value}{key v:Ky}(hk:cA w kv key m)(f7:X m)(hv:cA w vv v d)(f8:X d)(h1:1<=key.length)(h2:key.length<=96)(h3:v.length<=64)(hE:(E t).length<1099511627776):
  Calls prog 85 #[.pointer (some ⟨st,0,none⟩),.int .i64 (t:Int),kv,vv] w (aQF w0 dk g st s X E t key v w):=by
 have d5:∀q,X q->q<w.heap.size:=by obtain⟨_,_,_,_,_,_,_,h4⟩:=h.px;exact h4
 obtain⟨_,_,P,F,hF⟩:=h.store;obtain⟨c,hc⟩:=nm (aC s.page s.n);rw[<- hc]at hF;obtain⟨x,hx⟩:∃x:It,x=⟨key,v,0⟩:=⟨_,rfl⟩;have c0:x.ok true:=by rw[hx];exact⟨h1,h2,h3,by show 0<65536;omega,rfl⟩
 obtain⟨c',b4,I,b5⟩:=aDl (x:=x) hF ht c0 hE;have a6:=h.pgc;rw[<- hc]at a6;have d6:=qX hF t
 have b0:sU (t:Int) key=true:=by
  unfold sU;have a1:(0:Int)<=(t:Int):=by omega
  have a2:(t:Int)<8:=by omega
  simp[a1,a2,h2]
  omega
 obtain⟨Av,cv,_,rfl,h0,a8⟩:=id hv;have h9:¬ (64:Int)<(v.length:Int):=by omega
 have H:=lh h;have HC:=lh hc;have a7:=lh hx;have c2:=lh c0;have f:=lh b4;have U:=lh b5;have c3:=lh a6;have f9:=lh d6;have HF:=lh hF;have p:Hid (PgC w0 w dk g s X c'):=lh (a6.to ⟨I.pg,I.n⟩);have V:=lh (aGN (t:Int) hk);rw[b0]at V;have HK:=lh hk;have HV:=lh hv;have h':=lh f7;have i3:=lh f8;have i4:=lh d5;have f':=lh h2;have g0:=lh h3;have g1:=lh hE;have d7:=lh h.begin;have g2:x.key=key:=by rw[hx]
 have g3:x.v=v:=by rw[hx]
 rw[g2,g3]at U;clear h hc hx c0 b4 b5 a6 d6 hF I hk hv f7 f8 d5 h1 h2 h3 hE b0 h0 a8;have i5:((t:Nat):Int)<8:=by omega
 refine gA fun R HQ=>?_
 go_enter func85,ntmps85
 go_wp2_with fail;refine V.o.mono ?_;rintro e w1 ⟨rfl,rfl⟩;go_wp2_with fail;refine d7.o.mono ?_;rintro e w1 ⟨J,bn,bs,rfl,T⟩;rw[<- HC.o]at T;have S0:=lh (Sx.start T T.top);have d8:=lh (tG (HK.o.fr T.fr) (by have:=f'.o;omega));have i6:=lh T.l1;clear T d7 V;go_wp2_with fail;refine d8.o.mono ?_;rintro e w2 ⟨j3,rfl,⟨h5,d0,b6⟩,e7⟩;obtain⟨L,M,_,rfl,_,_⟩:=id d0;have S1:=lh ((S0.o.quiet e7).key ⟨h5,d0,S0.o.offD _ b6⟩);have b1:=lh (tG (HV.o.fr S1.o.fin.1.fr) (by have:=g0.o;omega));clear d0 b6 e7 S0 d8;go_wp2_with fail;refine b1.o.mono ?_;rintro e w3 ⟨j4,rfl,⟨h6,d1,b7⟩,e8⟩;obtain⟨N,O,_,rfl,_,_⟩:=id d1;have S2:=lh ((S1.o.quiet e8).key ⟨h6,d1,S1.o.offD _ b7⟩);clear d1 b7 e8 S1 b1
 go_wp2_with (first
  | (with_reducible refine mA rfl 198 rfl (.agg #[.slice none 0 0,.slice none 0 0,.int .i64 0]) zit.toArray xO rfl ?_)
  | (refine vA (W:=w3) rfl 198 (.tmp 11) (.tmp 38) rfl [.slice L key.length M,.slice N v.length O,.int .i64 0] rfl rfl rfl pG rfl oX ?_))
 intro w4 d4 f6 h8;obtain⟨a9,b8⟩:=nm (w3.heap.size);rw[<- b8]at d4⊢;have S3:=lh (S2.o.new1 f6 d4 (by omega));clear f6 d4 h8 b8 S2;have cr:=(S3.o.ch.blk).at_ (dG c g bn bs ht)
 by_cases hr:c.roots t=0
 case' pos=>
  have c4:c'=(c.alloc.1.root t c.alloc.2).write c.alloc.2 ⟨true,0,[x]⟩:=by
   have:=f.o;unfold putC at this;rw[iA hr]at this;exact(fG this).symm
  subst c4;rw[hr]at cr;have g4:=lh hr;obtain⟨nr,a'⟩:∃nr:Nd,nr=⟨true,0,[x]⟩:=⟨_,rfl⟩;rw[<- a']at U p f;have d9:0<c.n:=by have:=HF.o.acc.next1;have:=HF.o.acc.next2;omega
  have hh:=aGG HF.o.acc
  have d':c.alloc.2<c.n:=by
   unfold CD.alloc
   split
   ·rename_i h;exact(hh h).1
   ·split
    ·assumption
    ·exact d9
  have e0:c.alloc.1.n=c.n:=aBI c;have Y:=aKo c2.o;rw[<- a']at Y;have e1:=lh d';have g5:=lh e0;have g6:=lh hh;have b2:=lh Y;have c5:=lh a';have g7:=lh S3.o.fin.1.wf.n;clear hr a' d9 hh d' e0 Y;go_upto_region 8 with fail
  have D:=lh (S3.o.quiet ((Fr.refl [] w4).drew));clear S3 cr;have e2:=lh (aDy c3.o D.o.ch HF.o.e g6.o)
  apply aER (H:=fun W=>Hid (Sx w w1 g J bn bs (Dm_ X w J bn bs) ((a9,198,[.slice L key.length M,.slice N v.length O,.int .i64 0])::[]) [] (.by_ (.slice N v.length O) v::.by_ (.slice L key.length M) key::[]) (c.alloc.1.root t c.alloc.2) W))
  case main=>
   intro b;refine lA (fun _=>True) [0,1,2,4,5,6,7] (by kernel_rfl) ?_;refine tks [0,1,2,4,5,6] ?_
   iterate 6 (refine tk rfl rfl trivial rfl (fun _ _=>by go_simp<;>with_reducible rfl) ?_;simp only[nrm])
   refine tke ?_;refine sp 3 rfl rfl rfl fun K hK=>?_;refine jA (l:=[.tmp 49]) rfl [.pointer (some ⟨J,0,none⟩)] rfl (aBr _) (e2.o.mono ?_);rintro e w5 ⟨rfl,y,z⟩;refine⟨_,rfl,hK _ _ (fun _=>trivial) ?_⟩;simp only[nrm];have r:=lh (D.o.call z (by simp) y);clear hK y z;have Z:=r.o.ch.root ht (v:=c.alloc.2) (by have:=e1.o;have:=g7.o;omega);have i7:=r.o.ch.blk.free (2+t);have i8:=r.o.ch.blk.at_ (dG _ g bn bs ht);refine tks [7] ?_;refine tk rfl rfl trivial rfl (fun _ _=>by go_simp<;>with_reducible rfl) ?_;simp only[nrm];refine tke ?_;refine xA (j:=8) none rfl rfl (by kernel_rfl) rfl fun K hK=>?_;refine pB (w':=w5.setCell ⟨J,2+t,none⟩ (.int .i64 ((c.alloc.2:Nat):Int))) (by go_simp) (hK _ _ (fun _=>trivial) ?_);simp only[Act.put];clear hK;refine wd ?_ _;exact b _ (lh (r.o.call Z.2 (by simp) Z.1))
  intro w5 r;clear D e2;have Q:=lh (r.o.quiet ((Fr.refl [] w5).drew));clear r;have i0:=(Q.o.loc _ (.head _)).1.at_ (i:=0) rfl;have i1:=(Q.o.loc _ (.head _)).1.at_ (i:=1) rfl;have i2:=(Q.o.loc _ (.head _)).1.at_ (i:=2) rfl;have cr:=Q.o.ch.blk.at_ (dG _ g bn bs ht);rw[show(c.alloc.1.root t c.alloc.2).roots t=c.alloc.2 by show(if t=t then _ else _)=_;rw[iA rfl]]at cr;obtain⟨wx,a4⟩:=nm (w5.drew.alloc (.cells ([.slice L key.length M,.slice N v.length O,.int .i64 0]:List Value).toArray 198));have G:Fr [] w5.drew wx:=by rw[a4];exact(Fr.refl [] _).alloc _
  have e3:Blk wx w5.drew.heap.size 198 [.slice L key.length M,.slice N v.length O,.int .i64 0]:=by rw[a4];exact Blk.new w5.drew _ [.slice L key.length M,.slice N v.length O,.int .i64 0]
  have a0:=Q.o.row1 (n:=nr) (x:=x) (kv:=.slice L key.length M) (vv:=.slice N v.length O) (av:=.int .i64 0) (by rw[a7.o];exact⟨Q.o.kb (.tail _ (.head _)),Q.o.kb (.head _),rfl⟩) G e3 (tA _) (by rw[c5.o]);rw[show dA nr=1 by rw[c5.o];rfl,show nr.first=0 by rw[c5.o]]at a0;have S7:=lh ((Q.o.quiet G).nd a0);have a3:=lh (iL S7.o.ch (S7.o.kn (n:=nr) (.head _)) (k:=c.alloc.2) (by have:=e1.o;have:=g5.o;show _<c.alloc.1.n;omega) b2.o.1 b2.o.2);have j0:=aA G i0;have j1:=aA G i1;have j2:=aA G i2;have jr:=aA G cr;go_upto_region 9 with fail
  apply aER (H:=fun W=>Hid (Sx w w1 g J bn bs (Dm_ X w J bn bs) [] [] [] ((c.alloc.1.root t c.alloc.2).write c.alloc.2 nr) W))
  case main=>
   intro b;refine lA (fun W=>W.cell? ⟨J,2+t,none⟩=some (.int .i64 ((c.alloc.2:Nat):Int))/\W.cell? ⟨a9,0,none⟩=some (.slice L key.length M)/\W.cell? ⟨a9,1,none⟩=some (.slice N v.length O)/\W.cell? ⟨a9,2,none⟩=some (.int .i64 0)) [0,1,2,3,4,5,6,7,8,10] (by kernel_rfl) ?_;refine tks [0,1,2,3,4,5,6,7,8] ?_
   iterate 9 (refine tk rfl rfl ⟨cr,i0,i1,i2⟩ rfl (fun _ hW=>by(obtain⟨q0,q1,q2,q3⟩:=hW;go_simp)<;>with_reducible rfl) ?_;simp only[nrm])
   refine tke ?_;obtain⟨ti,e9,e',b9,h7⟩:=mE wJ;refine sp 9 rfl rfl rfl fun K hK=>?_;refine dD (.tmp 63) rfl Go.Proofs.Tryz.underlying182 e9 e' [.slice L key.length M,.slice N v.length O,.int .i64 0] rfl b9 rfl (by simp) (by simp) (hK _ _ (fun _=>by rw[<- a4];exact⟨jr,j0,j1,j2⟩) ?_);simp only[nrm];rw[<- a4];clear hK e9 e' b9 h7;refine tv 10 (.agg #[.int .i64 1,.int .i64 ((0:Nat):Int),.slice (some ⟨w5.drew.heap.size,0,none⟩) 1 1]) rfl rfl ⟨jr,j0,j1,j2⟩ (.inl ⟨rfl,fun W hW=>by go_simp⟩) ?_;simp only[nrm];refine sp 11 rfl rfl rfl fun K hK=>?_;refine jA (l:=[.tmp 55,.tmp 62,.tmp 65]) rfl [.pointer (some ⟨J,0,none⟩),.int .i64 ((c.alloc.2:Nat):Int),.agg #[.int .i64 1,.int .i64 ((0:Nat):Int),.slice (some ⟨w5.drew.heap.size,0,none⟩) 1 1]] rfl (aBs _) (a3.o.mono ?_);rintro e w6 ⟨rfl,A,B⟩;have S8:=lh (S7.o.call B (by simp) A);have e4:=S8.o.ch.blk.at_ (dG _ g bn bs ht);rw[show((c.alloc.1.root t c.alloc.2).write c.alloc.2 nr).roots t=c.alloc.2 by show(if t=t then _ else _)=_;rw[iA rfl]]at e4;refine⟨_,rfl,hK _ _ (fun _=>⟨e4,(S8.o.loc _ (.head _)).1.at_ (i:=0) rfl,(S8.o.loc _ (.head _)).1.at_ (i:=1) rfl,(S8.o.loc _ (.head _)).1.at_ (i:=2) rfl⟩) ?_⟩;simp only[nrm];clear hK A B;refine wd ?_ _;exact b _ (lh (S8.o.less (L':=[]) (N':=[]) (K':=[]) (zN _) (dC _) (by simp)))
  intro w6 S8;clear Q S7 i0 i1 i2 j0 j1 j2 cr jr G e3 a0 a3 a4
 case' neg=>
  obtain⟨c1,u,f0,d2,f1,f2,f3⟩:=aKD HF.o ht c2.o g1.o hr;have c4:c'=lE c1 t u:=by rw[f.o]at d2;exact fG d2
  subst c4;have i9:¬ ((c.roots t:Nat):Int)=0:=by omega
  have g8:=lh f0;have e6:=lh f3;have g4:=lh hr;have i':=lh f2;have b3:=lh (c3.o.to f1);clear f0 d2 f1 f3 hr f2;go_upto_region 11 with fail
  have D:=lh (S3.o.quiet ((Fr.refl [] w4).drew));clear S3;have i0:=(D.o.loc _ (.head _)).1.at_ (i:=0) rfl;have i1:=(D.o.loc _ (.head _)).1.at_ (i:=1) rfl;have i2:=(D.o.loc _ (.head _)).1.at_ (i:=2) rfl;have cr:=D.o.ch.blk.at_ (dG c g bn bs ht)
  have c6:=lh ((aOZ 40).go (deep:=0) (kv:=.slice L key.length M) (vv:=.slice N v.length O) (av:=.int .i64 0) rfl g8.o c3.o D.o.ch (by
   rw[a7.o];exact⟨D.o.kb (.tail _ (.head _)),D.o.kb (.head _),rfl⟩) c2.o D.o.offD)
  apply aRv (H:=fun(_:Option Addr) (_:Nat) W=>Hid (Sx w w1 g J bn bs (Dm_ X w J bn bs) [] [] [] (lE c1 t u) W))
  case main=>
   intro b;refine lA (fun _=>True) [0,1,2,3,4,5,6,7,8] (by kernel_rfl) ?_;refine tks [0,1,2,3,4,5,6,7,8] ?_
   iterate 9 (refine tk rfl rfl trivial rfl (fun _ _=>by go_simp<;>with_reducible rfl) ?_;simp only[nrm])
   refine tke ?_;refine aM (i:=9) (j:=10) (some 78) (some 79) rfl rfl rfl rfl (by kernel_rfl) rfl rfl (fun K hK=>?_) (fun K hK=>?_)
   ·
    refine nA (v:=.int .i64 ((c.roots t:Nat):Int)) (by go_simp) (hK _ _ (fun _=>trivial) ?_);simp only[nrm];clear hK;refine sp 10 rfl rfl rfl fun K hK=>?_;refine nA (v:=.agg #[.slice L key.length M,.slice N v.length O,.int .i64 0]) (by go_simp) (hK _ _ (fun _=>trivial) ?_);simp only[nrm];clear hK;refine sp 11 rfl rfl rfl fun K hK=>?_;refine jA (l:=[.tmp 71,.tmp 78,.tmp 79,.const (.int .i64 0)]) rfl [.pointer (some ⟨J,0,none⟩),.int .i64 ((c.roots t:Nat):Int),.agg #[.slice L key.length M,.slice N v.length O,.int .i64 0],.int .i64 ((0:Nat):Int)] rfl (sQ _) (c6.o.mono ?_);rintro e w5 ⟨uv,rfl,a5,y,z⟩;obtain⟨Au,cu,rfl,d3⟩:=a5.open_;have r:=lh ((D.o.call z (by simp) y).key d3);refine⟨_,rfl,hK _ _ (fun _=>trivial) ?_⟩;simp only[nrm];clear hK a5 y z;have c7:=lh (aGJ (u:=u) b3.o r.o.ch ⟨_,rfl,r.o.kb (.head _)⟩ r.o.offD ht e6.o);refine sp 12 rfl rfl rfl fun K hK=>?_;refine jA (l:=[.tmp 69,.tmp 70,.tmp 80]) rfl [.pointer (some ⟨J,0,none⟩),.int .i64 (t:Int),.agg #[.slice Au u.1.length cu,.int .i64 ((u.2:Nat):Int)]] rfl (aDF _) (c7.o.mono ?_);rintro e w6 ⟨rfl,A,B⟩;have Q:=lh (r.o.call B (by simp) A);refine⟨_,rfl,hK _ _ (fun _=>trivial) ?_⟩;simp only[nrm];clear hK A B;refine wd ?_ _;exact b Au cu w6 (lh (Q.o.less (L':=[]) (N':=[]) (K':=[]) (zN _) (dC _) (by simp)))
   ·
    refine nA (v:=.agg #[.slice L key.length M,.slice N v.length O,.int .i64 0]) (by go_simp) (hK _ _ (fun _=>trivial) ?_);simp only[nrm];clear hK;refine sp 9 rfl rfl rfl fun K hK=>?_;refine nA (v:=.int .i64 ((c.roots t:Nat):Int)) (by go_simp) (hK _ _ (fun _=>trivial) ?_);simp only[nrm];clear hK;refine sp 11 rfl rfl rfl fun K hK=>?_;refine jA (l:=[.tmp 71,.tmp 78,.tmp 79,.const (.int .i64 0)]) rfl [.pointer (some ⟨J,0,none⟩),.int .i64 ((c.roots t:Nat):Int),.agg #[.slice L key.length M,.slice N v.length O,.int .i64 0],.int .i64 ((0:Nat):Int)] rfl (sQ _) (c6.o.mono ?_);rintro e w5 ⟨uv,rfl,a5,y,z⟩;obtain⟨Au,cu,rfl,d3⟩:=a5.open_;have r:=lh ((D.o.call z (by simp) y).key d3);refine⟨_,rfl,hK _ _ (fun _=>trivial) ?_⟩;simp only[nrm];clear hK a5 y z;have c7:=lh (aGJ (u:=u) b3.o r.o.ch ⟨_,rfl,r.o.kb (.head _)⟩ r.o.offD ht e6.o);refine sp 12 rfl rfl rfl fun K hK=>?_;refine jA (l:=[.tmp 69,.tmp 70,.tmp 80]) rfl [.pointer (some ⟨J,0,none⟩),.int .i64 (t:Int),.agg #[.slice Au u.1.length cu,.int .i64 ((u.2:Nat):Int)]] rfl (aDF _) (c7.o.mono ?_);rintro e w6 ⟨rfl,A,B⟩;have Q:=lh (r.o.call B (by simp) A);refine⟨_,rfl,hK _ _ (fun _=>trivial) ?_⟩;simp only[nrm];clear hK A B;refine wd ?_ _;exact b Au cu w6 (lh (Q.o.less (L':=[]) (N':=[]) (K':=[]) (zN _) (dC _) (by simp)))
  intro Au cu w6 S8;clear D c6 i0 i1 i2 cr
 all_goals
  rcases U.o with ⟨P2,F2,C⟩|⟨e5,b'⟩
  ·
   have S:=lh (aKB p.o S8.o.fin.1 (fun q hq=>hq.1) C.e (by have:=C.acc.next1;have:=C.acc.next2;omega));have g9:=lh (lZ C p.o.pg p.o.n S8.o.fin.1.wf);have a3:=lh (Wr.end_ S8.o.fin.1.wf p.o.n (by have:=C.acc.next1;have:=C.acc.next2;omega));have c8:=lh (aIq (E:=E) (by rw[<- HC.o,<- a7.o];exact f.o) C.e);clear C;go_wp2_with fail;refine S.o.mono ?_;rintro e we ⟨rfl,f4,f5⟩;have c9:Kp X w we:=(Kp.of S8.o.fin.1.fr).more f5;have HX:=lh (HQ.o _ _ ⟨_,a3.o,c9,.inl ⟨rfl,H.o.kept f4 c9 a3.o.same g9.o,c8.o⟩⟩);clear f4 f5 c9 S;go_wp2_with fail;exact HX.o
  ·
   have S:=lh (aGL S8.o.fin.1 (by rw[e5];omega));rw[e5]at S;have g':=lh b';have c8:=lh (aQE (E:=E) (by rw[<- HC.o,<- a7.o];exact f.o) e5);clear e5 b';go_wp2_with fail;refine S.o.mono ?_;rintro e we ⟨rfl,rfl⟩
   have HX:=lh (HQ.o _ _ ⟨s,Wr.refl s,Kp.of S8.o.fin.1.fr,.inr ⟨rfl,rfl,H.o.stay S8.o.fin.1.fr,by
    have h1:=g'.o;have h2:=f9.o;have h3:=(nG s.page s.n).2.1;rw[HC.o,h3]at h1;omega,c8.o⟩⟩)
   clear S;go_wp2_with fail;exact HX.o
end
def jS (E:En) (key:Ky):Bool:=E.any fun e=>decide (e.1=key)
theorem aDG(E:En)(key:Ky):jS E key=true↔∃e∈E,e.1=key:=by
 unfold jS;rw[List.any_eq_true]
 simp
theorem aKE(c:CD)(t:Nat)(u:Ky×Nat):(lE c t u).pg=c.pg/\(lE c t u).n=c.n:=by
 unfold lE
 split
 ·exact⟨rfl,rfl⟩
 ·unfold CD.alloc
  split
  ·exact⟨rfl,rfl⟩
  ·split
   ·exact⟨rfl,rfl⟩
   ·unfold CD.full;split<;>exact⟨rfl,rfl⟩
theorem aNl(E:Nat->En)(t:Nat):sD E t (E t)=E:=by
 funext j
 unfold sD
 split
 ·rename_i h;rw[h]
 ·rfl
theorem aKF{c:CD}{E:Nat->En}{P:Nat->List Nat}{F:List Nat}{t:Nat}{key:Ky}(h:vH c E P F)(ht:t<8)(x:(E t).length<1099511627776)(y:c.roots t≠0):
  ∃c1 g u,aKx 40 c (c.roots t) key c1 g u/\(c1.pg=c.pg/\c1.n=c.n)/\(u.2≠0->1<=u.1.length/\u.1.length<=96/\u.2<65536/\c1.e=0/\0<c1.n/\(c1.head≠0->c1.head<c1.n/\∃j,c1.nx c1.head=some j)) /\
   (g=false->lE c1 t u=c/\delC c t key=some (c,false))/\(g=true->delC c t key=(oK (lE c1 t u) t).map fun d=>(d,true)):=by
 have m:=h.acc.swap (pQ ht).symm;rcases h.tree t ht with ⟨z,_,_⟩|⟨_,q,l⟩
 ·exact absurd z y
 ·obtain⟨c1,g,u,r,_,i,k⟩:=aGA q (f:=40) (key:=key) (yK l x) l m h.e (fun _ h=>by cases h) (fun _ h=>by cases h);have o:=aLR q (yK l x) l m h.e (fun _ h=>by cases h) (fun _ h=>by cases h) _ _ _ r
  have p:delC c t key=if g then (oK (lE c1 t u) t).map fun d=>(d,true) else some (c1,false):=by
   unfold delC;rw[eA y,r]
  refine⟨c1,g,u,o,o.same,fun v=>?_,fun hi=>?_,fun hi=>by rw[p,iA hi]⟩
  ·cases g with
   | false=>exact absurd (i rfl).2 v
   | true=>exact aIp (k rfl) v
  ·obtain⟨a,b⟩:=i hi;subst a;refine⟨by unfold lE;rw[iA b],by rw[p,hi];rfl⟩
noncomputable def delS (x:SE) (t:Nat) (key:Ky):SE×Int:=
 if (aC x.s.page x.s.n).roots t=0 then (⟨x.s,sD x.E t (cH (x.E t) key)⟩,0) else match delC (aC x.s.page x.s.n) t key with
 | some (c,_)=>if c.e=0 then (⟨endS x.s c,sD x.E t (cH (x.E t) key)⟩,0) else (x,5)
 | none=>(x,5)
theorem aIr{s:PS}{E:Nat->En}{t:Nat}{key:Ky}{c:CD}{b:Bool}(d:(aC s.page s.n).roots t≠0)(h:delC (aC s.page s.n) t key=some (c,b))(f:c.e=0):delS ⟨s,E⟩ t key=(⟨endS s c,sD E t (cH (E t) key)⟩,0):=by
 unfold delS
 simp only
 rw[eA d,h]
 simp only
 rw[iA f]
theorem aLV{s:PS}{E:Nat->En}{t:Nat}{key:Ky}{c:CD}{b:Bool}(d:(aC s.page s.n).roots t≠0)(h:delC (aC s.page s.n) t key=some (c,b))(f:c.e=5):delS ⟨s,E⟩ t key=(⟨s,E⟩,5):=by
 unfold delS
 simp only
 rw[eA d,h]
 simp only
 rw[eA (by rw[f];decide)]
def aQG (w0:World) (dk g st:Nat) (s:PS) (X:Nat->Prop) (E:Nat->En) (t:Nat) (key:Ky) (w:World) (e:Ending) (w':World):Prop:=
 ∃s',Wr s s'/\Kp X w w'/\((e=.returned (.tuple #[.bool (jS (E t) key),.int .i64 0])/\StX w0 w' dk g st s' X (sD E t (cH (E t) key))/\delS ⟨s,E⟩ t key=(⟨s',sD E t (cH (E t) key)⟩,0))∨(e=.returned (.tuple #[.bool false,.int .i64 5])/\s'=s/\StX w0 w' dk g st s X E/\s.n<=2*(cH (E t) key).length+2*(aEY E t).length/\delS ⟨s,E⟩ t key=(⟨s,E⟩,5)))
section
variable {w0 w : World} {dk g st : Nat} {s : PS} {X : Nat -> Prop} {E : Nat -> En}
theorem aPi(h:StX w0 w dk g st s X E){t:Nat}(ht:t<8){kv:Value}{key:Ky}(hk:cA w kv key k)(d3:X k)(h1:1<=key.length)(h2:key.length<=96)(hE:(E t).length<1099511627776):
  Calls prog 86 #[.pointer (some ⟨st,0,none⟩),.int .i64 (t:Int),kv] w (aQG w0 dk g st s X E t key w):=by
 have b1:∀q,X q->q<w.heap.size:=by obtain⟨_,_,_,_,_,_,_,h4⟩:=h.px;exact h4
 obtain⟨_,_,P,F,hF⟩:=h.store;obtain⟨c,hc⟩:=nm (aC s.page s.n);rw[<- hc]at hF;obtain⟨c',is,Y,y,b',c0,Z⟩:=aKp (key:=key) hF ht hE
 have Q:jS (E t) key=is:=by
  rw[jT,aDG];exact b'.symm
 have L:=h.pgc;rw[<- hc]at L;have b2:=qX hF t
 have S:sU (t:Int) key=true:=by
  unfold sU;have a1:(0:Int)<=(t:Int):=by omega
  have a2:(t:Int)<8:=by omega
  simp[a1,a2,h2]
  omega
 have H:=lh h;have A:=lh hc;have l:=lh Y;have T:=lh Z;have b3:=lh L;have b4:=lh b2;have HF:=lh hF;have U:=lh Q;have j:Hid (PgC w0 w dk g s X c'):=lh (L.to ⟨y.pg,y.n⟩);have C:=lh (aGN (t:Int) hk);rw[S]at C;have HK:=lh hk;have d4:=lh d3;have e4:=lh b1;have d5:=lh hE;have e6:=lh c0;have b5:=lh h.begin;clear h hc Y Z L b2 hF y hk d3 b1 h1 h2 hE S Q b' c0;have e7:((t:Nat):Int)<8:=by omega
 refine gA fun R HQ=>?_
 go_enter func86,ntmps86
 go_wp2_with fail;refine C.o.mono ?_;rintro e w1 ⟨rfl,rfl⟩;go_wp2_with fail;refine b5.o.mono ?_;rintro e w1 ⟨bc,bn,bs,rfl,m⟩;rw[<- A.o]at m;have S0:=lh (Sx.start m m.top);have d6:=lh (H.o.key HK.o d4.o m.l1 m.l2 m.l3 m.fr);clear m b5 C;have cr:=(S0.o.ch.blk).at_ (dG c g bn bs ht)
 by_cases hr:c.roots t=0
 ·rw[hr]at cr
  have a4:E t=[]:=by
   rcases HF.o.tree t ht with ⟨_,h,_⟩|⟨h,_⟩
   ·exact h
   ·exact absurd hr h
  have M:=lh (HQ.o _ _ ⟨s,Wr.refl s,Kp.of S0.o.fin.1.fr,.inl ⟨by rw[a4];first|done|rfl,by
   have e:sD E t (cH (E t) key)=E:=by
    rw[show cH (E t) key=E t by rw[a4];rfl,aNl]
   rw[e];exact H.o.stay S0.o.fin.1.fr,by unfold delS;simp only;rw[<- A.o,iA hr]⟩⟩)
  have D:=lh hr;clear hr a4;go_wp2_with fail;exact M.o
 ·obtain⟨c1,e0,u,c2,c3,c4,hf,c5⟩:=aKF (key:=key) HF.o ht d5.o hr;have e8:¬ ((c.roots t:Nat):Int)=0:=by omega
  have d7:=lh c2;have d8:=lh c4;have D:=lh hr;have d9:=lh hf;have d':=lh c5;have V:=lh (b3.o.to c3);clear c2 c3 c4 hr hf c5;have b6:=lh ((aPc 40).go (deep:=0) rfl d7.o b3.o S0.o.fin.1 d6.o S0.o.fin.1.top);go_wp2_with fail;refine b6.o.mono ?_;rintro e w2 ⟨uv,rfl,c6,a8,e1⟩;obtain⟨Au,cu,rfl,c7⟩:=c6.open_;have S1:=lh ((Sx.start a8 a8.top).key (c7.imp fun q hq=>⟨hq.1,hq.2,fun _ h=>by simp at h,fun _ h=>by simp at h⟩));clear c6 a8 e1 b6 S0 cr c7
  go_wp2_with (first
   | (with_reducible refine mA rfl 212 rfl (.agg #[.slice none 0 0,.int .i64 0]) zup.toArray jL rfl ?_)
   | (refine vA (W:=w2) rfl 212 (.tmp 11) (.tmp 51) rfl [.slice Au u.1.length cu,.int .i64 ((u.2:Nat):Int)] rfl rfl rfl qC rfl wD ?_))
  intro w3 b0 d2 e3;obtain⟨e',a0⟩:=nm (w2.heap.size);rw[<- a0]at b0⊢;have S2:=lh (S1.o.new1 d2 b0 (by omega));clear d2 b0 e3 a0 S1;have i0:=(S2.o.loc _ (.head _)).1.at_ (i:=0) rfl;have i1:=(S2.o.loc _ (.head _)).1.at_ (i:=1) rfl;have b7:=lh (aGJ (u:=u) V.o S2.o.ch ⟨_,rfl,S2.o.kb (.head _)⟩ S2.o.offD ht d8.o);go_wp2_with fail;refine b7.o.mono ?_;rintro e w4 ⟨rfl,c8,c9⟩;have B:=lh ((S2.o.call c9 (by simp) c8).less (L':=[]) (N':=[]) (K':=[]) (zN _) (dC _) (by simp));clear c8 c9 b7 S2 i0 i1
  cases e0 with
  | false=>
   obtain⟨d0,a9⟩:=d9.o rfl;rw[d0]at B
   have a5:c'=c/\is=false:=by
    rw[l.o]at a9;have:=fG a9;exact⟨congrArg Prod.fst this,congrArg Prod.snd this⟩
   obtain⟨a3,d1⟩:=a5;subst d1;rw[<- a3]at B;clear d0 a9 a3;have e9:True:=trivial;rcases T.o with ⟨P2,F2,b⟩|⟨O,p,r⟩
   ·
    have f:=lh (aKB j.o B.o.fin.1 (fun q hq=>hq.1) b.e (by have:=b.acc.next1;have:=b.acc.next2;omega));have a6:=lh (lZ b j.o.pg j.o.n B.o.fin.1.wf);have G:=lh (Wr.end_ B.o.fin.1.wf j.o.n (by have:=b.acc.next1;have:=b.acc.next2;omega));have v:=lh (aIr (E:=E) (by rw[<- A.o];exact D.o) (by rw[<- A.o];exact l.o) b.e);clear b;go_wp2_with fail;refine f.o.mono ?_;rintro e we ⟨rfl,I,J⟩;have x:Kp X w we:=(Kp.of B.o.fin.1.fr).more J;have M:=lh (HQ.o _ _ ⟨_,G.o,x,.inl ⟨by rw[U.o],H.o.kept I x G.o.same a6.o,v.o⟩⟩);clear I J x f;go_wp2_with fail;exact M.o
   ·
    have f:=lh (aGL B.o.fin.1 (by rw[O];omega));rw[O]at f;have a7:=lh r;have b8:=lh p;have v:=lh (aLV (E:=E) (by rw[<- A.o];exact D.o) (by rw[<- A.o];exact l.o) O);clear O r p;go_wp2_with fail;refine f.o.mono ?_;rintro e we ⟨rfl,rfl⟩
    have M:=lh (HQ.o _ _ ⟨s,Wr.refl s,Kp.of B.o.fin.1.fr,.inr ⟨rfl,rfl,H.o.stay B.o.fin.1.fr,by
     have h1:=a7.o;have h2:=b4.o;have h3:=(nG s.page s.n).2.1;rw[A.o,h3]at h1;omega,v.o⟩⟩)
    clear f;go_wp2_with fail;exact M.o
  | true=>
   have hl:=d'.o rfl;rw[l.o]at hl
   cases z:oK (lE c1 t u) t with
   | none=>rw[z]at hl;cases hl
   | some d=>
    rw[z]at hl
    have a5:c'=d/\is=true:=by
     have:=fG hl;exact⟨congrArg Prod.fst this,congrArg Prod.snd this⟩
    obtain⟨rfl,rfl⟩:=a5
    obtain⟨n,hn⟩:∃n,(lE c1 t u).N ((lE c1 t u).roots t)=some n:=by
     cases hN:(lE c1 t u).N ((lE c1 t u).roots t) with
     | some n=>exact⟨n,rfl⟩
     | none=>unfold oK at z;rw[hN]at z;cases z
    have b9:=lh (aPe (V.o.to (aKE c1 t u)) B.o.fin.1 B.o.fin.1.top ht hn z);clear hl z hn;go_wp2_with fail;refine b9.o.mono ?_;rintro e w5 ⟨rfl,a',e2⟩;have S4:=lh (Sx.start a' a'.top);clear a' e2 b9 B;rcases T.o with ⟨P2,F2,b⟩|⟨O,p,r⟩
    ·
     have f:=lh (aKB j.o S4.o.fin.1 (fun q hq=>hq.1) b.e (by have:=b.acc.next1;have:=b.acc.next2;omega));have a6:=lh (lZ b j.o.pg j.o.n S4.o.fin.1.wf);have G:=lh (Wr.end_ S4.o.fin.1.wf j.o.n (by have:=b.acc.next1;have:=b.acc.next2;omega));have v:=lh (aIr (E:=E) (by rw[<- A.o];exact D.o) (by rw[<- A.o];exact l.o) b.e);clear b;go_wp2_with fail;refine f.o.mono ?_;rintro e we ⟨rfl,I,J⟩;have x:Kp X w we:=(Kp.of S4.o.fin.1.fr).more J;have M:=lh (HQ.o _ _ ⟨_,G.o,x,.inl ⟨by rw[U.o],H.o.kept I x G.o.same a6.o,v.o⟩⟩);clear I J x f;go_wp2_with fail;exact M.o
    ·
     have f:=lh (aGL S4.o.fin.1 (by rw[O];omega));rw[O]at f;have a7:=lh r;have b8:=lh p;have v:=lh (aLV (E:=E) (by rw[<- A.o];exact D.o) (by rw[<- A.o];exact l.o) O);clear O r p;go_wp2_with fail;refine f.o.mono ?_;rintro e we ⟨rfl,rfl⟩
     have M:=lh (HQ.o _ _ ⟨s,Wr.refl s,Kp.of S4.o.fin.1.fr,.inr ⟨rfl,rfl,H.o.stay S4.o.fin.1.fr,by
      have h1:=a7.o;have h2:=b4.o;have h3:=(nG s.page s.n).2.1;rw[A.o,h3]at h1;omega,v.o⟩⟩)
     clear f;go_wp2_with fail;exact M.o
end
end
section
theorem aIs(s:PS)(h:s.held.length<=s.n)(d:s.n<=4096):s.commit.1.D.done<=s.D.done+300000:=by
 have h0:∀b,(s.append b).1.D.done<=s.D.done+300000:=fun b=>by
  have h1:=mN s.D s.l b;have h2:=iX (s.laid b) h d;have c:(s.laid b).D.done=(fB s.D s.l b).done:=rfl;have h3:=mN (s.laid b).check.1.D (s.laid b).check.1.l b;unfold PS.append
  split
  ·show(fB s.D s.l b).done<=_;omega
  ·split
   ·omega
   ·show(fB (s.laid b).check.1.D (s.laid b).check.1.l b).done<=_;omega
 unfold PS.commit
 split
 ·exact Nat.le_add_right _ _
 ·split
  ·exact Nat.le_add_right _ _
  ·split
   ·exact h0 _
   ·exact h0 _
end
section
theorem aGO(E:Nat->En)(t:Nat)(x:En):sD E t x t=x:=iA rfl
theorem aDH(E:Nat->En){t j:Nat}(x:En)(h:j≠t):sD E t x j=E j:=eA h
theorem aRS{a b:Ky}:klt a b∨a=b∨klt b a:=by
 by_cases h1:klt a b
 ·exact .inl h1
 ·by_cases h2:klt b a
  ·exact .inr (.inr h2)
  ·exact .inr (.inl (wO h1 h2))
theorem aAT{E:En}{k:Ky}{v:List UInt8}(h:tH E):tH (uH E k v):=by
 unfold uH tH;rw[aQ];refine⟨h.filter _,?_,fun a d b c=>?_⟩
 ·rw[xE];exact⟨fun e f=>by simpa using(wI.1 f).2,h.filter _⟩
 ·have h1:klt a.1 k:=by simpa using(wI.1 d).2
  rcases kB.1 c with rfl|c
  ·exact h1
  ·exact vD h1 (by simpa using(wI.1 c).2)
theorem aDI{E:En}{k:Ky}{v:List UInt8}{e:Ky×List UInt8}:e∈uH E k v↔e=(k,v)∨(e∈E/\e.1≠k):=by
 unfold uH;simp only[pD,kB,wI,yI]
 constructor
 ·rintro(⟨h1,h2⟩|h|⟨h1,h2⟩)
  ·exact .inr ⟨h1,fun e=>zB k (by rw[e]at h2;exact h2)⟩
  ·exact .inl h
  ·exact .inr ⟨h1,fun e=>zB k (by rw[e]at h2;exact h2)⟩
 ·rintro(h|⟨h1,h2⟩)
  ·exact .inr (.inl h)
  ·rcases aRS (a:=e.1) (b:=k) with h|h|h
   ·exact .inl ⟨h1,h⟩
   ·exact absurd h h2
   ·exact .inr (.inr ⟨h1,h⟩)
theorem aDJ{p q:α->Bool}(h:∀a,p a=true->q a=false):∀l:List α,(l.filter p).length+(l.filter q).length<=l.length
 | []=>tA _
 | a::l=>by
  have c:=aDJ h l;rw[List.filter_cons,List.filter_cons]
  cases b:p a with
  | true=>rw[h a b];simp only[mH,qG,dE,gD];omega
  | false=>
   simp only[qG,dE]
   cases d:q a<;>simp only[mH,qG,dE,gD]<;>omega
theorem aPj(E:En)(k:Ky)(v:List UInt8):(uH E k v).length<=E.length+1:=by
 unfold uH
 have:=aDJ (p:=fun e:Ky×List UInt8=>decide (klt e.1 k)) (q:=fun e=>decide (klt k e.1)) (fun a b=>by
  simp only[yI,qK]at b⊢;exact fun h=>zB _ (vD b h)) E
 rw[lB,gD];omega
theorem aLW{E:En}(b:tH E)(low:Ky)(up:Option Ky)(most:Nat):(goE low up most [] E).1=(E.filter (inB low up)).take most:=by
 have:=aDo (low:=low) (up:=up) (most:=most) b (out:=[]) (rB _)
 simpa using this
theorem aPk(E:En)(k:Ky):(cH E k).length<=E.length:=yW ..
def KFew (E:En):Prop:=∀e∈E,e.1.length<=600
theorem vH.pages{c:CD}{E:Nat->En}{P:Nat->List Nat}{F:List Nat}{pg:Nat->List UInt8}(h:vH c E P F)(d:∀k,k<c.n->pg k=c.pg k):vH { c with pg:=pg } E P F:=by
 have f:({ c with pg:=pg }:CD).N=c.N:=by
  funext k
  unfold CD.N
  by_cases b:1<=k/\k<c.n
  ·simp only[b,and_self,mH];rw[d k b.2]
  ·simp only[b,dE]
 refine⟨h.e,fun t ht=>by rw[f];exact h.tree t ht,⟨h.acc.perm,h.acc.next1,h.acc.next2,h.acc.few,?_,⟨h.acc.wf.rM,h.acc.wf.rS,h.acc.wf.mM,h.acc.wf.mS⟩⟩⟩;refine eN.congr h.acc.chain fun k b=>?_;have h1:=h.acc.perm.mem_iff.1 (rE _ b);rw[List.mem_range'_1]at h1;have:=h.acc.next1;have:=h.acc.next2;unfold CD.nx
 simp only
 rw[d k (by omega)]
theorem oI.congr{pg b:Nat->List UInt8}{n:Nat}{E:Nat->En}(h:oI pg n E)(f:∀k,k<n->b k=pg k):oI b n E:=by
 obtain⟨h1,h2,P,F,d⟩:=h;have i:(aC pg n).n=n:=(nG pg n).2.1;have h0:0<n:=by have:=d.acc.next1;have:=d.acc.next2;omega
 have g:=f 0 h0
 have j:aC b n={ aC pg n with pg:=b }:=by
  unfold aC;rw[g]
  split<;>rfl
 refine⟨by unfold aOK at h1⊢;rw[g];exact h1,fun k c=>by rw[f k c];exact h2 k c,P,F,?_⟩;rw[j];exact d.pages fun k c=>by rw[i]at c;rw[(nG pg n).1];exact f k c
theorem zE.foldw{c:Nat}{C:Nat->List UInt8}:∀(l:List (Nat×List UInt8)) {s:PS},zE c s C->(∀p∈l,p.1<s.n/\p.2.length<=512)->zE c (l.foldl (fun s p=>s.write p.1 p.2) s) C
 | [],_,h,_=>h
 | p::l,s,h,hl=>by
  obtain⟨h1,h2⟩:=hl p (sB ..);have h3:zE c (s.write p.1 p.2) C:=h.wrote h1 (yL h2);exact zE.foldw l h3 fun q b=>hl q (uC _ b)
theorem Wr.inv{c:Nat}{s:PS}{C:Nat->List UInt8}(h:Wr s S)(hi:zE c s C):zE c S C:=by
 obtain⟨l,b,rfl⟩:=h;exact zE.foldw l hi b
structure rD (N:Nat) (E:Nat->En):Prop where
 rise:∀t,tH (E t)
 few:∀t,(E t).length<=N
 keys:∀t,KFew (E t)
theorem rD.nil:rD 0 fun _=>[]:=⟨fun _=>List.Pairwise.nil,fun _=>tA _,fun _ e h=>by cases h⟩
theorem rD.mono{N M:Nat}{E:Nat->En}(h:rD N E)(b:N<=M):rD M E:=⟨h.rise,fun t=>aF (h.few t) b,h.keys⟩
theorem rD.set{N:Nat}{E:Nat->En}(h:rD N E)(t:Nat){F:En}(h1:tH F)(h2:F.length<=N)(h3:KFew F):rD N (sD E t F):=by
 refine⟨fun j=>?_,fun j=>?_,fun j=>?_⟩<;>by_cases b:j=t
 ·subst b;rw[aGO];exact h1
 ·rw[aDH _ _ b];exact h.rise j
 ·subst b;rw[aGO];exact h2
 ·rw[aDH _ _ b];exact h.few j
 ·subst b;rw[aGO];exact h3
 ·rw[aDH _ _ b];exact h.keys j
theorem rD.put{N:Nat}{E:Nat->En}(h:rD N E)(t:Nat){key:Ky}(c:key.length<=600)(v:List UInt8):rD (N+1) (sD E t (uH (E t) key v)):=by
 refine(h.mono (Nat.le_succ N)).set t (aAT (h.rise t)) (by have:=aPj (E t) key v;have:=h.few t;omega) fun e b=>?_;rcases aDI.1 b with rfl|⟨b,_⟩
 ·exact c
 ·exact h.keys t e b
end
section
open Go.RowKit
def bA (s:ByteArray):List UInt8:=s.data.toList
theorem zA(s:ByteArray):(bA s).length=s.size:=by simp[bA]
theorem kS(t:ByteArray)(a b:Nat):bA (t.extract a b)=((bA t).drop a).take (b-a):=Lib.extract_data t a b
theorem rX{s:ByteArray}{l:List UInt8}(h:bA s=l):s.size=l.length:=by rw[<- h,zA]
theorem bP(s:ByteArray){i:Nat}(h:i<s.size):(bA s)[i]? = some (s[i]'h):=by
 unfold bA;rw[Array.getElem?_toList,Array.getElem?_eq_getElem (by simpa using h)]
 rfl
theorem aGP{a b:ByteArray}(h:bA a=bA b):a=b:=ByteArray.ext (Array.ext' h)
def aIt (c:UInt8):Bool:=decide (128<=c.toNat/\c.toNat<192)
def kO (r:Int):Bool:=decide ((0<=r/\r<55296)∨(57343<r/\r<=1114111))
def nJ (r:Nat):List UInt8->Option Nat
 | []=>some r
 | c::cs=>if aIt c=true then nJ (r*64+c.toNat%64) cs else none
def aDK:Nat->Nat
 | 0=>128
 | 1=>224
 | 2=>240
 | _=>248
def lS:Nat->Nat
 | 0=>0
 | 1=>192
 | 2=>224
 | _=>240
def aQH:Nat->Nat
 | 0=>0
 | 1=>128
 | 2=>2048
 | _=>65536
def dP (k:Nat) (b:UInt8):Bool:=b.toNat &&& aDK k==lS k
def eG (k:Nat) (b:UInt8):Nat:=b.toNat-lS k
def pI (k:Nat) (b0:UInt8) (bs:List UInt8):Option (Nat×Nat):=
 match nJ (eG k b0) (bs.take k) with
 | none=>none
 | some r=>if (r:Int)<aQH k∨kO r=false then none else some (r,k+1)
def oJ:List UInt8->Option (Nat×Nat)
 | []=>none
 | b0::bs=>
  if dP 0 b0=true then pI 0 b0 bs
  else if 1<=bs.length/\dP 1 b0=true then pI 1 b0 bs
  else if 2<=bs.length/\dP 2 b0=true then pI 2 b0 bs
  else if 3<=bs.length/\dP 3 b0=true then pI 3 b0 bs
  else none
theorem tP(a c:Nat)(d:a<256)(f:c<256):bits .and .u8 (a:Int) (c:Int)=((a &&& c:Nat):Int):=by
 show IntKind.u8.wrap ((BitVec.ofInt 8 (a:Int) &&& BitVec.ofInt 8 (c:Int)).toNat:Int)=_
 have b:a &&& c<=c:=Nat.and_le_right;rw[BitVec.toNat_and,kP,kP,lP,lP,pK (by omega),pK (by omega),wT];omega
theorem mV(k:Nat)(c:k<4)(b:UInt8)(h:dP k b=true):bits .andNot .u8 (b.toNat:Int) (aDK k:Int)=((eG k b:Nat):Int):=by
 have all:∀k:Fin 4,∀b:Fin 256,(b.val &&& aDK k.val==lS k.val)=true->bits .andNot .u8 (b.val:Int) (aDK k.val:Int)=((b.val-lS k.val:Nat):Int):=by decide +kernel
 exact all ⟨k,c⟩ ⟨b.toNat,b.toNat_lt⟩ h
theorem nS(k:Nat)(c:k<4)(b:UInt8)(h:dP k b=true):eG k b<128/\(1<=k->eG k b<32)/\(2<=k->eG k b<16)/\(3<=k->eG k b<8):=by
 have all:∀k:Fin 4,∀b:Fin 256,(b.val &&& aDK k.val==lS k.val)=true->b.val-lS k.val<128/\(1<=k.val->b.val-lS k.val<32)/\(2<=k.val->b.val-lS k.val<16)/\(3<=k.val->b.val-lS k.val<8):=by decide +kernel
 exact all ⟨k,c⟩ ⟨b.toNat,b.toNat_lt⟩ h
theorem tQ(c:UInt8):aIt c=(c.toNat &&& 192==128):=by
 have all:∀b:Fin 256,decide (128<=b.val/\b.val<192)=(b.val &&& 192==128):=by decide +kernel
 exact all ⟨c.toNat,c.toNat_lt⟩
theorem aKG(c:UInt8):c.toNat &&& 63=c.toNat%64:=by
 have all:∀b:Fin 256,b.val &&& 63=b.val%64:=by decide +kernel
 exact all ⟨c.toNat,c.toNat_lt⟩
theorem aKH(x u:Nat)(d:x<33554432)(f:u<64):bits .or .i32 ((x:Int)*64) (u:Int)=((x*64+u:Nat):Int):=by
 have c:((x:Int)*64)=((x*64:Nat):Int):=by omega
 have h:=Nat.shiftLeft_add_eq_or_of_lt (b:=u) (i:=6) (by omega) x;have e:x <<< 6=x*64:=by rw[Nat.shiftLeft_eq]
 rw[e]at h;rw[c]
 show IntKind.i32.wrap ((BitVec.ofInt 32 ((x*64:Nat):Int) ||| BitVec.ofInt 32 (u:Int)).toNat:Int)=_
 rw[BitVec.toNat_or,kP,kP,lP,lP,pK (by omega),pK (by omega),<- h];rw[IntKind.wrap_i32];omega
theorem aKI{bs:List UInt8}{r k:Nat}(h:oJ bs=some (r,k)):1<=k/\k<=bs.length/\k<=4/\r<=1114111:=by
 have hK:∀j b bs,pI j b bs=some (r,k)->k=j+1/\r<=1114111:=fun j b bs h=>by
  unfold pI at h
  split at h
  ·cases h
  ·rename_i c h1
   split at h
   ·cases h
   ·rename_i h2
    simp only[vI,Prod.mk.injEq]at h;obtain⟨rfl,rfl⟩:=h;refine⟨rfl,?_⟩
    have h3:kO c=true:=by
     cases d:kO c
     ·exact absurd (.inr d) h2
     ·rfl
    unfold kO at h3;rw[yI]at h3;omega
 match bs with
 | []=>cases h
 | b::bs=>
  rw[oJ]at h;simp only[gD]
  split at h
  ·obtain⟨rfl,h2⟩:=hK _ _ _ h;omega
  ·split at h
   ·obtain⟨rfl,h2⟩:=hK _ _ _ h;omega
   ·split at h
    ·obtain⟨rfl,h2⟩:=hK _ _ _ h;omega
    ·split at h
     ·obtain⟨rfl,h2⟩:=hK _ _ _ h;omega
     ·cases h
def tC:List Value:=[.int .u8 128,.int .u8 0,.int .i32 0,.int .u8 224,.int .u8 192,.int .i32 128,.int .u8 240,.int .u8 224,.int .i32 2048,.int .u8 248,.int .u8 240,.int .i32 65536]
theorem aEZ(w:World):RV 217 #[] w (.agg tC.toArray):=by
 go_enter func217,ntmps217
 go_wp2
 exact yH (g:=w.heap.size) (t':=299) (d:=_) rfl rfl (Blk.new w 299 tC) underlying299 rfl (by kernel_rfl) ⟨rfl,(Fr.refl [] w).alloc _⟩
theorem nV(w:World)(r:Int):Calls prog 218 #[.int .i32 r] w fun e w'=>e=.returned (.bool (kO r))/\w=w':=by
 have d:∀b,kO r=b->Calls prog 218 #[.int .i32 r] w fun e w'=>e=.returned (.bool b)/\w=w':=by
  intro b c;unfold kO at c
  by_cases h1:0<=r
  ·by_cases h2:r<55296
   ·obtain rfl:b=true:=by rw[<- c,yI];exact .inl ⟨h1,h2⟩
    clear c
    go_enter Go.Proofs.Tryz.func218,Go.Proofs.Tryz.ntmps218
    go_wp2
    go_ret
    exact⟨rfl,rfl⟩
   ·by_cases h3:57343<r
    ·by_cases f:r<=1114111
     ·obtain rfl:b=true:=by rw[<- c,yI];exact .inr ⟨h3,f⟩
      clear c
      go_enter Go.Proofs.Tryz.func218,Go.Proofs.Tryz.ntmps218
      go_wp2
      go_ret
      exact⟨rfl,rfl⟩
     ·obtain rfl:b=false:=by rw[<- c,qK];omega
      clear c
      go_enter Go.Proofs.Tryz.func218,Go.Proofs.Tryz.ntmps218
      go_wp2
      go_ret
      exact⟨rfl,rfl⟩
    ·obtain rfl:b=false:=by rw[<- c,qK];omega
     clear c
     go_enter Go.Proofs.Tryz.func218,Go.Proofs.Tryz.ntmps218
     go_wp2
     go_ret
     exact⟨rfl,rfl⟩
  ·obtain rfl:b=false:=by rw[<- c,qK];omega
   have h3:¬ 57343<r:=by omega
   clear c
   go_enter Go.Proofs.Tryz.func218,Go.Proofs.Tryz.ntmps218
   go_wp2
   go_ret
   exact⟨rfl,rfl⟩
 exact d _ rfl
def kG (bs:List UInt8):Value:=match oJ bs with
 | none=>.tuple #[.int .i32 0,.int .i64 0]
 | some (r,k)=>.tuple #[.int .i32 (r:Int),.int .i64 (k:Int)]
def lL (bs:List UInt8) (k:Nat):Prop:=∃b0 l,bs=b0::l/\k<=l.length/\dP k b0=true
def aRw (w:World) (bs:List UInt8) (j:Nat) (v:Value) (wr:World):Prop:=∃k:Nat,k+j=4/\v=.int .i64 (k:Int)/\Fr [] w wr/\∀i,i<k->¬ lL bs i
theorem aPl{w:World}{A:Option Addr}{c:Nat}:RV 198 #[.slice A 0 c] w (kG []):=by
 refine gA fun R y=>?_;obtain⟨bs,q⟩:∃bs:List UInt8,bs=[]:=⟨_,rfl⟩;have g:=lh q;clear q
 go_enter func198,ntmps198
 go_wp2_with fail;refine(aEZ _).mono ?_;rintro e w1 ⟨rfl,r⟩;have n:=lh r;clear r;go_wp2_with fail
 go_loopg [10] 4 (aRw w bs)
 case atStart=>exact⟨0,rfl,rfl,n.o,fun i hi=>absurd hi (by omega)⟩
 case round=>
  obtain⟨k,z,rfl,v,t⟩:=hrel;have p:=lh v;have h:=lh t;clear v t n
  by_cases u:k=4
  ·subst u;rw[show((4:Nat):Int)=4 from rfl];go_wp2_with fail;exact y.o _ _ ⟨rfl,p.o⟩
  ·have x:k=0∨k=1∨k=2∨k=3:=by omega
   clear u;rcases x with rfl|rfl|rfl|rfl
   ·skip
    have j:∀W:World,(Instr.index 299 (.agg tC.toArray) (.int .i64 0)).run prog W=.ok (.agg #[.int .u8 128,.int .u8 0,.int .i32 0]) W:=fun _=>by kernel_rfl
    unfold tC at j⊢;rw[show((0:Nat):Int)=0 from rfl]
    have b:Hid (∀i,i<0+1->¬ lL bs i):=lh fun i hi f=>by
     by_cases d:i=0
     ·subst d;obtain⟨l,l',m,h1,_⟩:=f;exact absurd (g.o.symm.trans m) (by simp)
     ·exact h.o i (by omega) f
    go_wp2_with fail
    go_quiet (fail)
    go_wp2_with fail
    go_roundg (3-0)
    case measure=>omega
    case rel=>exact⟨0+1,by omega,by go_num,(p.o.alloc _).drewN _,b.o⟩
   ·skip
    have j:∀W:World,(Instr.index 299 (.agg tC.toArray) (.int .i64 1)).run prog W=.ok (.agg #[.int .u8 224,.int .u8 192,.int .i32 128]) W:=fun _=>by kernel_rfl
    unfold tC at j⊢;rw[show((1:Nat):Int)=1 from rfl]
    have b:Hid (∀i,i<1+1->¬ lL bs i):=lh fun i hi f=>by
     by_cases d:i=1
     ·subst d;obtain⟨l,l',m,h1,_⟩:=f;exact absurd (g.o.symm.trans m) (by simp)
     ·exact h.o i (by omega) f
    go_wp2_with fail
    go_quiet (fail)
    go_wp2_with fail
    go_roundg (3-1)
    case measure=>omega
    case rel=>exact⟨1+1,by omega,by go_num,(p.o.alloc _).drewN _,b.o⟩
   ·skip
    have j:∀W:World,(Instr.index 299 (.agg tC.toArray) (.int .i64 2)).run prog W=.ok (.agg #[.int .u8 240,.int .u8 224,.int .i32 2048]) W:=fun _=>by kernel_rfl
    unfold tC at j⊢;rw[show((2:Nat):Int)=2 from rfl]
    have b:Hid (∀i,i<2+1->¬ lL bs i):=lh fun i hi f=>by
     by_cases d:i=2
     ·subst d;obtain⟨l,l',m,h1,_⟩:=f;exact absurd (g.o.symm.trans m) (by simp)
     ·exact h.o i (by omega) f
    go_wp2_with fail
    go_quiet (fail)
    go_wp2_with fail
    go_roundg (3-2)
    case measure=>omega
    case rel=>exact⟨2+1,by omega,by go_num,(p.o.alloc _).drewN _,b.o⟩
   ·skip
    have j:∀W:World,(Instr.index 299 (.agg tC.toArray) (.int .i64 3)).run prog W=.ok (.agg #[.int .u8 248,.int .u8 240,.int .i32 65536]) W:=fun _=>by kernel_rfl
    unfold tC at j⊢;rw[show((3:Nat):Int)=3 from rfl]
    have b:Hid (∀i,i<3+1->¬ lL bs i):=lh fun i hi f=>by
     by_cases d:i=3
     ·subst d;obtain⟨l,l',m,h1,_⟩:=f;exact absurd (g.o.symm.trans m) (by simp)
     ·exact h.o i (by omega) f
    go_wp2_with fail
    go_quiet (fail)
    go_wp2_with fail
    go_roundg (3-3)
    case measure=>omega
    case rel=>exact⟨3+1,by omega,by go_num,(p.o.alloc _).drewN _,b.o⟩
end
end Go.Proofs.YtebjhcjbfaaejaaGreatDoor
