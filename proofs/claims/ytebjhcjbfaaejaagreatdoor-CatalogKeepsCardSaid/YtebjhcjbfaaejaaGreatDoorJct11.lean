/-
  Joined: Qt Qu Qv CatA CatB CatC CatD CatE CatF CatG CatH
-/
import Derived.Lib.AppendStr
import Derived.Test.YtebjhcjbfaaejaaGreatDoorJct10
set_option maxRecDepth 100000
set_option maxHeartbeats 32000000
open Go.Value renaming int->ii,slice->si,string->sj,pointer->pi,tuple->tl,bool->ij,agg->il
open Go.IntKind renaming i64->ip,u8->ix,wrap->Wi
open Go.Obj renaming cells->iy
open Go.Ending renaming returned->iz
open Or renaming inl->Ii,inr->Ij
open List renaming length->li,replicate->ji,take_add_one->eJ,flatMap_append->vO,drop_length->aLs
open UInt8 renaming ofNat->Ot,toNat_inj->xP
open Go renaming info_parts->oJ,wp_load_mid->xQ
open Option renaming mem_toList->aAS
open Go.Proofs.Tryz renaming underlying101->aDy,underlying96->aHw
namespace Go.Proofs.YtebjhcjbfaaejaaGreatDoor
open Go.Proofs.Tryz
variable {n k:Nat}{w':World}{F:List Value}{E:En}{α:Type}
section
open Go.RowKit Go.ChangeMaps Go.MapKept Go.Maps Go.Sort Go.Shelf
theorem aNY:(prog.info? 100).map (λb=>(b.zero,b.size,b.bytes))=some (some (il #[si none 0 0,si none 0 0]),2,48):=by kernel_rfl
theorem cY(b:Array Value)(w:World):(callFunc 133 b).run prog w=.ok (.enter 133 b) w:=by kernel_rfl
theorem fR(b:Array Value)(w:World):(callFunc 110 b).run prog w=.ok (.enter 110 b) w:=by kernel_rfl
def WEnd (H:Nat) (wS:World) (g bc bn bs bw:Nat) (D:Nat->Prop) (c:CD) (fv tv:Value) (low:Ky) (up:Option Ky) (most:Nat) (out:En) (ov:Value) (w:World) (E:En) (e:Ending) (w':World):Prop:=
 ∃ov',e=.returned (.bool (goE low up most out E).2)/\Wst H wS g bc bn bs bw D c fv tv low up most (goE low up most out E).1 ov' w'/\WFr bc bw ov w ov' w'
theorem aKr{l:List α}{i:Nat}{x:α}(h:l[i]? = some x):l.drop i=x::l.drop (i+1):=by obtain⟨b,c⟩:=uC.1 h;rw[xM b,c]
section
variable {H g bc bn bs bw most:Nat}{wS w:World}{D:Nat->Prop}{c:CD}{fv tv ov:Value}{low:Ky}{up:Option Ky}{out:En}
theorem Z71{P:Prop} (h:P:=by
 generalize w5.drew=w6 at *;have HX:=lh (HQ.o (.returned (.bool false)) _ ⟨_,by rw[HGO.o,HCONS.o,pL,eA HNL.o,iA HSTOP.o],by rw[HGO.o,HCONS.o,pL,eA HNL.o,iA HSTOP.o];exact W6.o,WG.o⟩);go_wp2_with fail;exact HX.o):P:=h
theorem aPy{n:Nd}{b:Value}(h:Wst H wS g bc bn bs bw D c fv tv low up most out ov w)(m:NdV (Dv D ov) w 0 b n)(t:n.ok)(y:li n.l<=509)(u:li out+li n.l<=1000000): Calls prog 100 #[pi (some ⟨bw,0,none⟩),b] w (WEnd H wS g bc bn bs bw D c fv tv low up most out ov w (mC n.l)):=by
 obtain⟨f,k,f8,rfl,f9,q,r,s⟩:=m.parts;obtain⟨a4,b⟩:=nm (w.alloc (iy #[ii ip (fA n),ii ip (n.first:Int),si f (li n.l) k] 184));have d:Fr [] w a4:=by rw[b];exact(jj [] w).alloc _
 have p:Blk a4 w.heap.size 184 [ii ip (fA n),ii ip (n.first:Int),si f (li n.l) k]:=by rw[b];exact jl w _ [ii ip (fA n),ii ip (n.first:Int),si f (li n.l) k]
 have x:=p.a 2;have⟨HN,h4,f0,d5,g5,h5,WB,M,f2⟩:=hh9 m q r s t y (h.quiet d) d h;have k:=lh u;clear h m q r s t d p u;refine cA λg9 HQ=>?_;go_enter func100,ntmps100;go_upto_region 1 with fail;rw[<- b];clear b;go_wp2_with fail;go_loopw [10] (λv wr=>∃(i:Nat) (f:En) (G:Value),i<=li n.l/\v=ii ip (i:Int)/\Wst H wS g bc bn bs bw D c fv tv low up most f G wr/\WFr bc bw ov a4 G wr/\goE low up most out (mC n.l)=goE low up most f (mC (n.l.drop i))/\li f+(li n.l-i)<=1000000) (λv _=>li n.l-(intOf v).toNat);·exact⟨0,out,ov,uB _,rfl,WB.o,WFr.refl,rfl,k.o⟩
 obtain⟨J,f,G,f',rfl,a',b,d,k⟩:=hrel;obtain⟨B,C,rfl⟩:=a'.shape;have⟨W1,G1,HGO,N⟩:=hh4 a' b d k;clear a' b d k x;by_cases d3:J<li n.l
 ·obtain⟨b,k⟩:=gx (l:=n.l) d3;have r:=kF k;have c':=lh (g5.o.item b r);have HCONS:Hid (mC (n.l.drop J)=(b.key,b.v)::mC (n.l.drop (J+1))):=lh (by rw[aKr k];rfl);obtain⟨z,I,L,t,u,x,y⟩:=f0.o.at_ k;obtain⟨m,s,p⟩:=d5.o (by omega);have q:Dv D ov m:=by
   obtain⟨g0,g1,d,g2,g3,A⟩:=HN.o;refine A m ?_;injection d with d;simp at d;rw[<- d,s];rfl
  have d:m∉bc::bw::ov.ownBlock.toList:=by
   have:=f2.o.nb m q.1;simp only[bB,aAS];rintro(h|h|h);·exact this.2.1 h
   ·exact this.1 h
   exact q.2 h
  subst s;have A:=aB G1.o.fr d (aA M.o (p _ _ t));have E:=aB G1.o.fr d (aA M.o (p _ _ u));have F:=aB G1.o.fr d (aA M.o (p _ _ x));have m:ItC (Dv D ov) wr b z I L:=(y.fr M.o).fr G1.o.fr λI z T=>by
   have s:=f2.o.nb I z.1;simp only[bB,aAS]at T;obtain h|h|h:=T;·exact absurd h s.2.1
   ·exact absurd h s.1
   exact absurd h z.2
  have I:=lh m.one;obtain⟨⟨g4,s,_⟩,⟨g6,z,_⟩,Q⟩:=m;have⟨b',c0⟩:=hh2 s z;obtain⟨L,O,_,rfl,_,_⟩:=s;obtain⟨b0,b1,_,rfl,_,_⟩:=z;subst Q;clear k r t u x y p q d;have f7:=wi J (by omega);go_wp2_with (first
   | (with_reducible refine qA rfl 198 rfl (il #[si none 0 0,si none 0 0,ii ip 0]) zit.toArray aR rfl ?_)
   | (refine zA (W:=wr) rfl 198 (.tmp 6) (.tmp 13) rfl [si L (li b.key) O,si b0 (li b.v) b1,ii ip (b.at_:Int)] rfl rfl rfl mH rfl I.o ?_))
  intro k m d q;obtain⟨V,p⟩:=nm (wr.heap.size);rw[<- p]at m⊢;have⟨W2,G2,B2,c1,c5⟩:=hh5 (W1.o.quiet d) (G1.o.quiet d) m (b'.o.fr d) (c0.o.fr d);have f1:Hid ((si B (li f) C).ownBlock≠some V):=lh (λe=>by have:=(W1.o.lt _ e).2;omega);clear m d q A E F p;go_upto_region 4 with fail;have⟨W3,G3,B3,a2,c7⟩:=hh5 (W2.o.quiet ((jj [] k).drew)) (G2.o.quiet ((jj [] k).drew)) (B2.o.fr ((jj [] k).drew)) (c1.o.fr ((jj [] k).drew)) (c5.o.fr ((jj [] k).drew));clear W1 W2 G1 G2 B2 b' c0 c1 c5;obtain⟨g7,q,_⟩:=W3.o.low;have p:=lh q;have d:=B3.o.a 0;have m:=W3.o.bwk.a 1;clear q;refine aj (λW=>W.cell? ⟨V,0,none⟩=some (si L (li b.key) O)/\W.cell? ⟨bw,1,none⟩=some fv) [0,1,2,3,4,5,6,8] ?_;refine tks [0,1,2,3,4,5,6] ?_;iterate 7 (refine ac ⟨d,m⟩ ?_)
  refine tke ?_;refine ag 7 λK hK=>?_;refine kA (l:=[.tmp 17,.tmp 21]) rfl [si L (li b.key) O,fv] rfl (cY _) ((qN a2.o p.o).mono ?_);rintro e w5 ⟨rfl,rfl⟩;refine⟨_,rfl,hK _ _ (λ_=>⟨d,m⟩) ?_⟩;simp only[nrm];clear hK;refine tks [8] ?_;refine ac ⟨d,m⟩ ?_;refine tke ?_;refine af 9 (λ_=>⟨d,m⟩) ?_;refine wd ?_ _;clear d m p;generalize k.drew=w5 at *;by_cases k:klt b.key low
  ·have m:Lib.compareBytes b.key low<0:=k;have HX:Hid (∃(i:Nat) (f:En) (G:Value),i<=li n.l/\ii ip ((J:Int)+1)=ii ip (i:Int)/\Wst H wS g bc bn bs bw D c fv tv low up most f G w5/\WFr bc bw ov a4 G w5/\goE low up most out (mC n.l)=goE low up most f (mC (n.l.drop i))/\li f+(li n.l-i)<=1000000):=lh ⟨J+1,f,_,d3,rfl,W3.o,G3.o,by
    rw[HGO.o,HCONS.o,pL,iA k],by have:=N.o;omega⟩
   clear k;exact Z7
  have m:¬ Lib.compareBytes b.key low<0:=k;have HNL:=lh k;clear k;have k:=(W3.o.bwk.fr ((jj [] w5).drew)).a 4;have m:=(W3.o.bwk.fr ((jj [] w5).drew)).a 3;have p:=(W3.o.bwk.fr ((jj [] w5).drew)).a 2;have d:=(B3.o.fr ((jj [] w5).drew)).a 0;have⟨W6,G6,B6,d7,f5⟩:=hh5 (W3.o.quiet ((jj [] w5).drew)) (G3.o.quiet ((jj [] w5).drew)) (B3.o.fr ((jj [] w5).drew)) (a2.o.fr ((jj [] w5).drew)) (c7.o.fr ((jj [] w5).drew));go_upto_region 5 with fail;clear W3 G3 B3 a2 c7;by_cases q:li f=most
  ·have d4:((li f:Nat):Int)=(most:Int):=(by omega);have HSTOP:Hid (li f=most∨zO up (b.key,b.v).1=true):=lh (Ii q);have d6:=lh q;clear q;refine aj (λW=>W.cell? ⟨bw,4,none⟩=some (si B (li f) C)/\W.cell? ⟨bw,3,none⟩=some (ii ip (most:Int))/\W.cell? ⟨bw,2,none⟩=some tv/\W.cell? ⟨V,0,none⟩=some (si L (li b.key) O)) [0,1,2,3,4,5,6,7,8,9,10,11,12,13,14,15,16,17,18,19,20,21,22,23,24,25,26,27] ?_;refine tks [0,1,2,3,4,5,6,7,8] ?_;iterate 9 (refine ac ⟨k,m,p,d⟩ ?_)
   refine tke ?_;refine _root_.Go.Proofs.YtebjhcjbfaaejaaGreatDoor.tv 9 (ij true) rfl rfl ⟨k,m,p,d⟩ (Ii ⟨rfl,λc2 _=>by first|(simp[execOp,Act.eval,go_sem];done)|(simp[execOp,Act.eval,Result.andThen,go_sem];omega)⟩) ?_;simp only[nrm];refine tks [10] ?_;refine ac ⟨k,m,p,d⟩ ?_;refine tke ?_;refine tks [11,12,13,14,15,16,17,18,19,20,21,22,23,24,25,26] ?_;iterate 16 (refine tu rfl rfl ⟨k,m,p,d⟩ rfl ?_;simp only[nrm])
   refine tke ?_;refine tks [27] ?_;refine ac ⟨k,m,p,d⟩ ?_;refine tke ?_;refine af 28 (λ_=>⟨k,m,p,d⟩) ?_;refine wd ?_ _;clear k m p d;have WG:Hid (WFr bc bw ov w (si B (li f) C) w5.drew):=lh (WFr.pre M.o G6.o);exact Z71
  have d4:¬ ((li f:Nat):Int)=(most:Int):=(by omega);have d6:=lh q;clear q;have d8:=W6.o.up;cases up with
  | none=>
   have d9:tv=si none 0 0:=d8;subst d9;clear d8;have d':Hid (¬ (li f=most∨zO none (b.key,b.v).1=true)):=lh (by
    rintro(h|h);·exact d6.o h
    cases h)
   refine aj (λW=>W.cell? ⟨bw,4,none⟩=some (si B (li f) C)/\W.cell? ⟨bw,3,none⟩=some (ii ip (most:Int))/\W.cell? ⟨bw,2,none⟩=some (si none 0 0)/\W.cell? ⟨V,0,none⟩=some (si L (li b.key) O)) [0,1,2,3,4,5,6,7,8,9,10,11,12,13,14,15,16,17,18,19,20,21,22,23,24,25,26,27] ?_;refine tks [0,1,2,3,4,5,6,7,8] ?_;iterate 9 (refine ac ⟨k,m,p,d⟩ ?_)
   refine tke ?_;refine _root_.Go.Proofs.YtebjhcjbfaaejaaGreatDoor.tv 9 (ij false) rfl rfl ⟨k,m,p,d⟩ (Ii ⟨rfl,λc2 _=>by first|(simp[execOp,Act.eval,go_sem,d4];done)|(simp[execOp,Act.eval,Result.andThen,go_sem];omega)⟩) ?_;simp only[nrm];refine tks [10,11,12,13,14] ?_;iterate 5 (refine ac ⟨k,m,p,d⟩ ?_)
   refine tke ?_;refine _root_.Go.Proofs.YtebjhcjbfaaejaaGreatDoor.tv 15 (ij false) rfl rfl ⟨k,m,p,d⟩ (Ii ⟨rfl,λc2 _=>by simp[execOp,Act.eval,Result.andThen,go_sem]⟩) ?_;simp only[nrm];refine tks [16] ?_;refine ac ⟨k,m,p,d⟩ ?_;refine tke ?_;refine tks [17,18,19,20,21,22,23,24,25] ?_;iterate 9 (refine tu rfl rfl ⟨k,m,p,d⟩ rfl ?_;simp only[nrm])
   refine tke ?_;refine tks [26,27] ?_;iterate 2 (refine ac ⟨k,m,p,d⟩ ?_)
   refine tke ?_;refine af 28 (λ_=>⟨k,m,p,d⟩) ?_;refine wd ?_ _;clear k m p d;generalize w5.drew=w6 at *;have e0:=W6.o.hz;have k:=W6.o.bwk.a 4;have d:=(B6.o).a 0;have E:=(B6.o).a 1;have e1:=True.intro;go_upto_region 7 with fail;have⟨W7,G7,B7⟩:=hh3 (W6.o.quiet ((jj [] w6).drew)) (G6.o.quiet ((jj [] w6).drew)) (B6.o.fr ((jj [] w6).drew));refine aj (λW=>W.cell? ⟨bw,4,none⟩=some (si B (li f) C)/\W.cell? ⟨V,0,none⟩=some (si L (li b.key) O)/\W.cell? ⟨V,1,none⟩=some (si b0 (li b.v) b1)) [0,1,2,3,4,5,6,7,9,10,11,13,17] ?_;refine tks [0,1,2,3,4,5,6,7,9,10,11] ?_;iterate 11 (refine ac ⟨k,d,E⟩ ?_)
   refine tke ?_;refine ag 8 λK hK=>?_;refine kA (l:=[.tmp 60]) rfl [si L (li b.key) O] rfl (fR _) ((rH (d7.o.fr ((jj [] w6).drew)) (by have:=c'.o.k2;omega)).mono ?_);rintro e f4 ⟨v8,rfl,⟨e5,Z,b2⟩,u⟩;refine⟨_,rfl,hK _ _ (λ_=>⟨aA u k,aA u d,aA u E⟩) ?_⟩;simp only[nrm];clear hK;refine ag 12 λK hK=>?_;refine kA (l:=[.tmp 64]) rfl [si b0 (li b.v) b1] rfl (fR _) ((rH (f5.o.fr (((jj [] w6).drew).trans u)) (by have:=c'.o.v;omega)).mono ?_);rintro e F ⟨v9,rfl,⟨e6,R,e7⟩,a0⟩;have q:Fr [] w6.drew F:=u.trans a0;refine⟨_,rfl,hK _ _ (λ_=>⟨aA q k,aA q d,aA q E⟩) ?_⟩;simp only[nrm];clear hK;obtain⟨x,y,_,rfl,_,_⟩:=id Z;obtain⟨z,A,_,rfl,_,_⟩:=id R;refine _root_.Go.Proofs.YtebjhcjbfaaejaaGreatDoor.tv 13 (il #[si x (li b.key) y,si z (li b.v) A]) rfl rfl ⟨aA q k,aA q d,aA q E⟩ (Ii ⟨rfl,λW a'=>by go_simp⟩) ?_;simp only[nrm];obtain⟨Q,S⟩:=nm (F.alloc (iy ([si x (li b.key) y,si z (li b.v) A]:List Value).toArray 100));have U:Fr [] F Q:=(by rw[S];exact(jj [] _).alloc _);have a5:Blk Q F.heap.size 100 [si x (li b.key) y,si z (li b.v) A]:=(by rw[S];exact jl F _ [si x (li b.key) y,si z (li b.v) A]);have r:Fr [] w6.drew Q:=q.trans U;obtain⟨f6,b3,b4,b5,e8⟩:=fF aNY;refine ag 14 λK hK=>?_;refine qC (.tmp 66) rfl aHw b3 b4 [si x (li b.key) y,si z (li b.v) A] rfl b5 rfl (by simp) (by simp) (hK _ _ (λ_=>by rw[<- S];exact⟨aA r k,aA r d,aA r E⟩) ?_);simp only[nrm];rw[<- S];clear hK S;have I:=lh (W7.o.quiet r);obtain⟨e9,b6,b7⟩:=I.o.row;have a6:Hid (aPx (Dv D (si B (li f) C)) Q (b.key,b.v) (si x (li b.key) y) (si z (li b.v) A)):=lh ⟨⟨e5,(Z.fr a0).fr U,W7.o.topv _ b2⟩,⟨e6,R.fr U,W7.o.topv _ (by have:=u.size;omega)⟩⟩;have a7:=lh b7;have a8:=I.o.bwk;have a9:=B7.o.fr r;refine ag 15 λK hK=>?_;refine iE (.tmp 57) (.tmp 67) rfl 100 2 48 aHw b3 b4 b5 e8 rfl (by omega) B (li f) C e9 rfl (kD b6 (λ_ _=>uB _)) (some ⟨F.heap.size,0,none⟩) 1 1 [si x (li b.key) y,si z (li b.v) A] rfl rfl (λ_=>⟨_,rfl,λj e' X=>by rw[Go.Addr.add_mid,nB];exact a5.at_ X⟩) (by intro e' X;simp at X;rcases X with rfl|rfl<;>rfl) (by have:=N.o;unfold maxLen;omega) (by have:=N.o;omega) Q.heap.size rfl λc3 c4 a1 c6 Y c8=>?_;have s:Blk a1 bw 145 (aFh bc fv (si none 0 0) (si B (li f) C) most):=a8.fr Y (λT=>(I.o.own bw (by simpa using T)).1 rfl);have t:=a9.fr Y (λT=>f1.o (by simpa using T));refine hK _ _ (λ_=>⟨s.a 4,t.a 0,t.a 1⟩) ?_;simp only[nrm];clear hK;obtain⟨b8,b9⟩:=I.o.push (e:=(b.key,b.v)) a7.o a6.o Y c6 c8;have e2:=s.a 4;have e3:=s.free 4;have e4:=s.lt;refine ag 16 λK hK=>?_;refine lA (v:=pi (some ⟨bw,0,none⟩)) (by go_simp) (hK _ _ (λ_=>⟨s.a 4,t.a 0,t.a 1⟩) ?_);simp only[nrm];clear hK;refine tks [17] ?_;refine ac ⟨s.a 4,t.a 0,t.a 1⟩ ?_;refine tke ?_;refine ah 18 λK hK=>?_;refine rB (w':=a1.setCell ⟨bw,4,none⟩ (si c3 (li f+1) c4)) (by go_simp) (hK _ _ (λh=>absurd h (by decide +kernel)) ?_);simp only[Act.put];clear hK;refine wd ?_ _;have⟨W9,G9⟩:=hh2 b8 ((G7.o.quiet r).trans b9);clear b8 b9 e2 e3 e4 s t c6 Y c8 a8 a9 a7 a6 b6 b7 a5 U r q Z R u a0 b2 e7 k d E e1 W6 W7 I G6 G7 B6 B7 e0;generalize a1.setCell ⟨bw,4,none⟩ (si c3 (li f+1) c4)=c9 at *;have HX:Hid (∃(i:Nat) (f:En) (G:Value),i<=li n.l/\ii ip ((J:Int)+1)=ii ip (i:Int)/\Wst H wS g bc bn bs bw D c fv (si none 0 0) low none most f G c9/\WFr bc bw ov a4 G c9/\goE low none most out (mC n.l)=goE low none most f (mC (n.l.drop i))/\li f+(li n.l-i)<=1000000):=lh ⟨J+1,f++[(b.key,b.v)],_,d3,rfl,W9.o,G9.o,by rw[HGO.o,HCONS.o,pL,eA HNL.o,eA d'.o],by have:=N.o;simp only[iB,aBb];omega⟩;exact Z7
  | some a3=>
   obtain⟨d0,d1,d2,g8,d9,f3,_⟩:=d8;subst d9;have d8:=lh f3;clear f3;refine aj (λW=>W.cell? ⟨bw,4,none⟩=some (si B (li f) C)/\W.cell? ⟨bw,3,none⟩=some (ii ip (most:Int))/\W.cell? ⟨bw,2,none⟩=some (si d0 d1 d2)/\W.cell? ⟨V,0,none⟩=some (si L (li b.key) O)) [0,1,2,3,4,5,6,7,8,9,10,11,12,13,14,15,16,17,18,19,20,21,22,23,25,26,27] ?_;refine tks [0,1,2,3,4,5,6,7,8] ?_;iterate 9 (refine ac ⟨k,m,p,d⟩ ?_)
   refine tke ?_;refine _root_.Go.Proofs.YtebjhcjbfaaejaaGreatDoor.tv 9 (ij false) rfl rfl ⟨k,m,p,d⟩ (Ii ⟨rfl,λc2 _=>by first|(simp[execOp,Act.eval,go_sem,d4];done)|(simp[execOp,Act.eval,Result.andThen,go_sem];omega)⟩) ?_;simp only[nrm];refine tks [10,11,12,13,14] ?_;iterate 5 (refine ac ⟨k,m,p,d⟩ ?_)
   refine tke ?_;refine _root_.Go.Proofs.YtebjhcjbfaaejaaGreatDoor.tv 15 (ij true) rfl rfl ⟨k,m,p,d⟩ (Ii ⟨rfl,λc2 _=>by simp[execOp,Act.eval,Result.andThen,go_sem]⟩) ?_;simp only[nrm];refine tks [16,17,18,19,20,21,22,23] ?_;iterate 8 (refine ac ⟨k,m,p,d⟩ ?_)
   refine tke ?_;refine aAk (j:=24) (some 49) rfl rfl (by kernel_rfl) rfl λK hK=>?_;refine kA (l:=[.tmp 44,.tmp 48]) rfl [si L (li b.key) O,si d0 d1 d2] rfl (cY _) ((qN d7.o d8.o).mono ?_);rintro e d4 ⟨rfl,rfl⟩;refine⟨_,rfl,hK _ _ (λ_=>⟨k,m,p,d⟩) ?_⟩;simp only[nrm];clear hK;refine _root_.Go.Proofs.YtebjhcjbfaaejaaGreatDoor.tv 25 (ij (!decide (klt b.key a3))) rfl rfl ⟨k,m,p,d⟩ (Ii ⟨rfl,λc2 _=>by rw[<- aEA];simp[execOp,Act.eval,go_sem]⟩) ?_;simp only[nrm];refine tks [26,27] ?_;iterate 2 (refine ac ⟨k,m,p,d⟩ ?_)
   refine tke ?_;refine af 28 (λ_=>⟨k,m,p,d⟩) ?_;refine wd ?_ _;clear k m p d;have WG:Hid (WFr bc bw ov w (si B (li f) C) w5.drew):=lh (WFr.pre M.o G6.o);by_cases m:klt b.key a3
   ·rw[yJ m];have d':Hid (¬ (li f=most∨zO (some a3) (b.key,b.v).1=true)):=lh (by
     rintro(h|h);·exact d6.o h
     unfold zO at h;simp[m]at h)
    have p:=lh m;clear m WG;generalize w5.drew=w6 at *;have e0:=W6.o.hz;have k:=W6.o.bwk.a 4;have d:=(B6.o).a 0;have E:=(B6.o).a 1;have e1:=True.intro;go_upto_region 7 with fail;have⟨W7,G7,B7⟩:=hh3 (W6.o.quiet ((jj [] w6).drew)) (G6.o.quiet ((jj [] w6).drew)) (B6.o.fr ((jj [] w6).drew));refine aj (λW=>W.cell? ⟨bw,4,none⟩=some (si B (li f) C)/\W.cell? ⟨V,0,none⟩=some (si L (li b.key) O)/\W.cell? ⟨V,1,none⟩=some (si b0 (li b.v) b1)) [0,1,2,3,4,5,6,7,9,10,11,13,17] ?_;refine tks [0,1,2,3,4,5,6,7,9,10,11] ?_;iterate 11 (refine ac ⟨k,d,E⟩ ?_)
    refine tke ?_;refine ag 8 λK hK=>?_;refine kA (l:=[.tmp 60]) rfl [si L (li b.key) O] rfl (fR _) ((rH (d7.o.fr ((jj [] w6).drew)) (by have:=c'.o.k2;omega)).mono ?_);rintro e f4 ⟨v8,rfl,⟨e5,Z,b2⟩,u⟩;refine⟨_,rfl,hK _ _ (λ_=>⟨aA u k,aA u d,aA u E⟩) ?_⟩;simp only[nrm];clear hK;refine ag 12 λK hK=>?_;refine kA (l:=[.tmp 64]) rfl [si b0 (li b.v) b1] rfl (fR _) ((rH (f5.o.fr (((jj [] w6).drew).trans u)) (by have:=c'.o.v;omega)).mono ?_);rintro e F ⟨v9,rfl,⟨e6,R,e7⟩,a0⟩;have q:Fr [] w6.drew F:=u.trans a0;refine⟨_,rfl,hK _ _ (λ_=>⟨aA q k,aA q d,aA q E⟩) ?_⟩;simp only[nrm];clear hK;obtain⟨x,y,_,rfl,_,_⟩:=id Z;obtain⟨z,A,_,rfl,_,_⟩:=id R;refine _root_.Go.Proofs.YtebjhcjbfaaejaaGreatDoor.tv 13 (il #[si x (li b.key) y,si z (li b.v) A]) rfl rfl ⟨aA q k,aA q d,aA q E⟩ (Ii ⟨rfl,λW a'=>by go_simp⟩) ?_;simp only[nrm];obtain⟨Q,S⟩:=nm (F.alloc (iy ([si x (li b.key) y,si z (li b.v) A]:List Value).toArray 100));have U:Fr [] F Q:=(by rw[S];exact(jj [] _).alloc _);have a5:Blk Q F.heap.size 100 [si x (li b.key) y,si z (li b.v) A]:=(by rw[S];exact jl F _ [si x (li b.key) y,si z (li b.v) A]);have r:Fr [] w6.drew Q:=q.trans U;obtain⟨f6,b3,b4,b5,e8⟩:=fF aNY;refine ag 14 λK hK=>?_;refine qC (.tmp 66) rfl aHw b3 b4 [si x (li b.key) y,si z (li b.v) A] rfl b5 rfl (by simp) (by simp) (hK _ _ (λ_=>by rw[<- S];exact⟨aA r k,aA r d,aA r E⟩) ?_);simp only[nrm];rw[<- S];clear hK S;have I:=lh (W7.o.quiet r);obtain⟨e9,b6,b7⟩:=I.o.row;have a6:Hid (aPx (Dv D (si B (li f) C)) Q (b.key,b.v) (si x (li b.key) y) (si z (li b.v) A)):=lh ⟨⟨e5,(Z.fr a0).fr U,W7.o.topv _ b2⟩,⟨e6,R.fr U,W7.o.topv _ (by have:=u.size;omega)⟩⟩;have a7:=lh b7;have a8:=I.o.bwk;have a9:=B7.o.fr r;refine ag 15 λK hK=>?_;refine iE (.tmp 57) (.tmp 67) rfl 100 2 48 aHw b3 b4 b5 e8 rfl (by omega) B (li f) C e9 rfl (kD b6 (λ_ _=>uB _)) (some ⟨F.heap.size,0,none⟩) 1 1 [si x (li b.key) y,si z (li b.v) A] rfl rfl (λ_=>⟨_,rfl,λj e' X=>by rw[Go.Addr.add_mid,nB];exact a5.at_ X⟩) (by intro e' X;simp at X;rcases X with rfl|rfl<;>rfl) (by have:=N.o;unfold maxLen;omega) (by have:=N.o;omega) Q.heap.size rfl λc3 c4 a1 c6 Y c8=>?_;have s:Blk a1 bw 145 (aFh bc fv (si d0 d1 d2) (si B (li f) C) most):=a8.fr Y (λT=>(I.o.own bw (by simpa using T)).1 rfl);have t:=a9.fr Y (λT=>f1.o (by simpa using T));refine hK _ _ (λ_=>⟨s.a 4,t.a 0,t.a 1⟩) ?_;simp only[nrm];clear hK;obtain⟨b8,b9⟩:=I.o.push (e:=(b.key,b.v)) a7.o a6.o Y c6 c8;have e2:=s.a 4;have e3:=s.free 4;have e4:=s.lt;refine ag 16 λK hK=>?_;refine lA (v:=pi (some ⟨bw,0,none⟩)) (by go_simp) (hK _ _ (λ_=>⟨s.a 4,t.a 0,t.a 1⟩) ?_);simp only[nrm];clear hK;refine tks [17] ?_;refine ac ⟨s.a 4,t.a 0,t.a 1⟩ ?_;refine tke ?_;refine ah 18 λK hK=>?_;refine rB (w':=a1.setCell ⟨bw,4,none⟩ (si c3 (li f+1) c4)) (by go_simp) (hK _ _ (λh=>absurd h (by decide +kernel)) ?_);simp only[Act.put];clear hK;refine wd ?_ _;have⟨W9,G9⟩:=hh2 b8 ((G7.o.quiet r).trans b9);clear b8 b9 e2 e3 e4 s t c6 Y c8 a8 a9 a7 a6 b6 b7 a5 U r q Z R u a0 b2 e7 k d E e1 W6 W7 I G6 G7 B6 B7 e0;generalize a1.setCell ⟨bw,4,none⟩ (si c3 (li f+1) c4)=c9 at *;have HX:Hid (∃(i:Nat) (f:En) (G:Value),i<=li n.l/\ii ip ((J:Int)+1)=ii ip (i:Int)/\Wst H wS g bc bn bs bw D c fv (si d0 d1 d2) low (some a3) most f G c9/\WFr bc bw ov a4 G c9/\goE low (some a3) most out (mC n.l)=goE low (some a3) most f (mC (n.l.drop i))/\li f+(li n.l-i)<=1000000):=lh ⟨J+1,f++[(b.key,b.v)],_,d3,rfl,W9.o,G9.o,by rw[HGO.o,HCONS.o,pL,eA HNL.o,eA d'.o],by have:=N.o;simp only[iB,aBb];omega⟩;exact Z7
   rw[vH m];have HSTOP:Hid (li f=most∨zO (some a3) (b.key,b.v).1=true):=lh (Ij (by unfold zO;simp[m]));have p:=lh m;clear m;exact Z71
 obtain rfl:J=li n.l:=(by omega);have b:mC (n.l.drop (li n.l))=[]:=(by rw[aLs];rfl);have HX:=lh (HQ.o (iz (ij true)) wr ⟨_,by rw[HGO.o,b];rfl,by rw[HGO.o,b];exact W1.o,WFr.pre M.o G1.o⟩);clear b;go_wp2_with fail;exact HX.o
end
def aFi (N:Nat->Option Nd) (h:Nat) (n:Nd) (i:Nat) (hi:Option Ky) (ER:En):Prop:=∃lo' PR,fE (Sub N 1 h) lo' (n.child i) (n.l.drop i) hi ER PR
theorem aMH{N:Nat->Option Nd}{h:Nat}{n:Nd}{lo hi:Option Ky}{E:En}{P:List Nat}(i:fE (Sub N 1 h) lo n.first n.l hi E P)(low:Ky): ∃EA b,E=EA++b/\(∀e∈EA,klt e.1 low)/\aFi N h n (n.way low) hi b:=by
 obtain⟨q,r,c,s,d,f,g⟩:=aRN (n:=n) low;rw[c]at i;obtain⟨c,EA,b,t,j,rfl,rfl,k,m⟩:=aGx Sub.fine i;refine⟨EA,b,rfl,λe p=>?_,c,j,?_⟩;·obtain⟨c,j,o⟩:=m e p;exact aIx o (g c j)
 unfold Nd.child;rw[d,f];exact k
theorem aKs{N:Nat->Option Nd}{h:Nat}{n:Nd}{hi:Option Ky}(d:aFi N h n (li n.l) hi E):∃b c,Sub N 1 h (n.child (li n.l)) b hi E c:=by obtain⟨b,c,f⟩:=d;rw[aLs]at f;exact⟨b,c,f⟩
theorem aKt{N:Nat->Option Nd}{h i:Nat}{n:Nd}{hi:Option Ky}(f:aFi N h n i hi E)(c:i<li n.l): ∃b hi' E1 E2 P1,Sub N 1 h (n.child i) b hi' E1 P1/\E=E1++E2/\aFi N h n (i+1) hi E2:=by
 obtain⟨b,p,g⟩:=f;obtain⟨d,j⟩:=gx (l:=n.l) c;rw[aKr j]at g;obtain⟨E1,P1,E2,k,m,o,rfl,rfl⟩:=g;refine⟨b,some d.key,E1,E2,P1,m,rfl,some d.key,k,?_⟩;have e:n.child (i+1)=d.at_:=by unfold Nd.child;rw[aEL j,aBH]
 rw[e];exact o
def aNZ (c:CD) (h:Nat) (n:Nd) (hi:Option Ky) (low:Ky) (up:Option Ky) (most:Nat) (out E:En) (i:Nat) (outi:En):Prop:=
 (i<=n.l.length/\∃ER,aFi c.N h n i hi ER/\goE low up most out E=goE low up most outi ER/\outi.length+ER.length<=1000000)∨(i=n.l.length+1/\goE low up most out E=(outi,true))
section
variable {w0 wS:World}{H dk g bc bn bs bw most:Nat}{s:PS}{X D:Nat->Prop}{c:CD}{fv tv:Value}{low:Ky}{up:Option Ky}
theorem aPz(b5:PgC w0 wS dk g s X c)(c7:c.e=0):∀(h f k deep:Nat) (lo hi:Option Ky) (E:En) (P:List Nat) (out:En) (t:Value) (w:World),h<f->f+deep=40->Sub c.N 1 h k lo hi E P ->Wst H wS g bc bn bs bw D c fv tv low up most out t w->li out+li E<=1000000 ->Calls prog 72 #[pi (some ⟨bw,0,none⟩),ii ip (k:Int),ii ip (deep:Int)] w (WEnd H wS g bc bn bs bw D c fv tv low up most out t w E):=by
 intro h;induction h with
 | zero=>
  intro f k deep lo hi E P out t w c2 c3 M r b2;obtain⟨b,c5,F,a5,a6,u,b6,a7⟩:=id M;clear b6;have U:=pF a6;have c8:¬ ((deep:Nat):Int)=40:=by omega
  have C:=r.bwk.a 0;have⟨V,W1,HS,HN,d4,x,b',HE,b3⟩:=hh9 (jP b5 r.ch F r.topv) r M F a5 U b2 c7 c3;have⟨HF,HP,c1⟩:=hh3 c2 b5 a7;clear M F a5 U b2 r a6 u a7;refine cA λd2 b4=>?_;go_enter func72,ntmps72;go_wp2_with fail;refine V.o.mono ?_;rintro e G ⟨c9,rfl,I,J⟩;obtain⟨a8,a9,c',rfl,_⟩:=I.open_;have⟨Y,Z⟩:=hh2 (W1.o.quiet J) (I.low (uB _));have R:Hid (WFr bc bw t w t G):=lh (WFr.refl.quiet J);clear I J V C;go_wp2_with (first
   | (with_reducible refine qA rfl 184 rfl (il #[ii ip 0,ii ip 0,si none 0 0]) znd.toArray zD rfl ?_)
   | (refine zA (W:=G) rfl 184 (.tmp 7) (.tmp 17) rfl [ii ip (fA b),ii ip (b.first:Int),si a8 (li b.l) a9] rfl rfl rfl xB rfl aC ?_))
  intro d1 Q B c4;obtain⟨v,a'⟩:=nm (G.heap.size);rw[<- a']at Q⊢;have T:Hid (v≠bc/\v≠bw/\t.ownBlock≠some v):=lh ⟨by have:=Y.o.ch.lts.1;omega,by have:=Y.o.bwk.lt;omega,λe=>by have:=(Y.o.lt _ e).2;omega⟩;have⟨W3,y,G3,B3⟩:=hh4 (Y.o.quiet B) (Z.o.fr B) (R.o.quiet B) Q;clear B Q c4 a' Y Z R;have C:=W3.o.bwk.a 0;go_wp2_with fail;refine(rN W3.o.ch 0).mono ?_;rintro e b8 ⟨rfl,L,p,b9⟩;rw[aRj]at L⊢;have a3:decide (c.e≠0)=false:=by rw[HE.o];rfl
  rw[a3];have⟨W4,z⟩:=hh2 (W3.o.failed p L) (y.o.fr p λS A u=>absurd (xA.1 u) (W3.o.nb S A.1).2.1);have a4:Hid (WFr bc bw t w t b8):=lh (G3.o.trans ⟨p.mono (by simp),λS A=>Ii A⟩);have n:=lh (B3.o.fr p (by simpa using T.o.1));clear L p b9 a3 W3 y G3 B3 C;have d:=n.o.a 0;have i:=n.o.a 1;have m:=n.o.a 2;go_wp2_with fail;refine(aAv b).mono ?_;rintro e b0 ⟨rfl,q⟩;have⟨W5,O,G5,B5⟩:=hh4 (W4.o.quiet q) (z.o.fr q) (a4.o.quiet q) (n.o.fr q);clear q W4 z a4 n d i m;have d:=B5.o.a 0;have i:=B5.o.a 1;have m:=B5.o.a 2;obtain⟨b1,c0,_⟩:=c1.o;rw[b1];have⟨f0,d5⟩:=hh2 (aPy W5.o O.o d4.o x.o (by have:=b'.o;rw[c0]at this;unfold mC at this;rw[cH]at this;exact this)) c0;clear b1 c0;go_wp2_with fail;refine f0.o.mono ?_;rintro e d3 ⟨d0,rfl,c0,c6⟩;have HX:=lh (b4.o _ _ ⟨d0,by rw[d5.o],by rw[d5.o];exact c0,G5.o.trans c6⟩);clear c0 c6;go_wp2_with fail;exact HX.o
 | succ h c0=>
  intro f k deep lo hi E P out t w c2 c3 M r b2;obtain⟨b,c5,F,a5,a6,u,b6,a7⟩:=id M;clear b6;have U:=pF a6;have c8:¬ ((deep:Nat):Int)=40:=by omega
  have C:=r.bwk.a 0;have⟨V,W1,HS,HN,d4,x,b',HE,b3⟩:=hh9 (jP b5 r.ch F r.topv) r M F a5 U b2 c7 c3;have⟨HF,HP,c1⟩:=hh3 c2 b5 a7;clear M F a5 U b2 r a6 u a7;refine cA λd2 b4=>?_;go_enter func72,ntmps72;go_wp2_with fail;refine V.o.mono ?_;rintro e G ⟨c9,rfl,I,J⟩;obtain⟨a8,a9,c',rfl,_⟩:=I.open_;have⟨Y,Z⟩:=hh2 (W1.o.quiet J) (I.low (uB _));have R:Hid (WFr bc bw t w t G):=lh (WFr.refl.quiet J);clear I J V C;go_wp2_with (first
   | (with_reducible refine qA rfl 184 rfl (il #[ii ip 0,ii ip 0,si none 0 0]) znd.toArray zD rfl ?_)
   | (refine zA (W:=G) rfl 184 (.tmp 7) (.tmp 17) rfl [ii ip (fA b),ii ip (b.first:Int),si a8 (li b.l) a9] rfl rfl rfl xB rfl aC ?_))
  intro d1 Q B c4;obtain⟨v,a'⟩:=nm (G.heap.size);rw[<- a']at Q⊢;have T:Hid (v≠bc/\v≠bw/\t.ownBlock≠some v):=lh ⟨by have:=Y.o.ch.lts.1;omega,by have:=Y.o.bwk.lt;omega,λe=>by have:=(Y.o.lt _ e).2;omega⟩;have⟨W3,y,G3,B3⟩:=hh4 (Y.o.quiet B) (Z.o.fr B) (R.o.quiet B) Q;clear B Q c4 a' Y Z R;have C:=W3.o.bwk.a 0;go_wp2_with fail;refine(rN W3.o.ch 0).mono ?_;rintro e b8 ⟨rfl,L,p,b9⟩;rw[aRj]at L⊢;have a3:decide (c.e≠0)=false:=by rw[HE.o];rfl
  rw[a3];have⟨W4,z⟩:=hh2 (W3.o.failed p L) (y.o.fr p λS A u=>absurd (xA.1 u) (W3.o.nb S A.1).2.1);have a4:Hid (WFr bc bw t w t b8):=lh (G3.o.trans ⟨p.mono (by simp),λS A=>Ii A⟩);have n:=lh (B3.o.fr p (by simpa using T.o.1));clear L p b9 a3 W3 y G3 B3 C;have d:=n.o.a 0;have i:=n.o.a 1;have m:=n.o.a 2;go_wp2_with fail;refine(aAv b).mono ?_;rintro e b0 ⟨rfl,q⟩;have⟨W5,O,G5,B5⟩:=hh4 (W4.o.quiet q) (z.o.fr q) (a4.o.quiet q) (n.o.fr q);clear q W4 z a4 n d i m;have d:=B5.o.a 0;have i:=B5.o.a 1;have m:=B5.o.a 2;obtain⟨b1,hK⟩:=c1.o;rw[b1];have n:fE (Sub c.N 1 h) lo b.first b.l hi E c5:=hK;have p:=(fE.keys Sub.fine n).1;obtain⟨a5,C,q,B,r⟩:=aMH n low;have⟨f2,d7,f3,f4,d8⟩:=hh5 p q B r c0;clear b1 hK n p q B r c0;go_upto_region 8 with fail;have⟨W6,a0,G6,B6⟩:=hh4 (W5.o.quiet ((jj [] b0).drew)) (O.o.fr ((jj [] b0).drew)) (G5.o.quiet ((jj [] b0).drew)) (B5.o.fr ((jj [] b0).drew));clear W5 O G5 B5 d i m;have d:=B6.o.a 0;have i:=B6.o.a 1;have m:=B6.o.a 2;have p:=W6.o.bwk.a 1;obtain⟨a6,n,_⟩:=W6.o.low;have q:=lh n;clear n;refine aj (λW=>W.cell? ⟨v,0,none⟩=some (ii ip (fA b))/\W.cell? ⟨v,1,none⟩=some (ii ip (b.first:Int))/\W.cell? ⟨v,2,none⟩=some (si a8 (li b.l) a9)/\W.cell? ⟨bw,1,none⟩=some fv) [0,1,2,3,4] ?_;refine tks [0,1,2,3,4] ?_;iterate 5 (refine ac ⟨d,i,m,p⟩ ?_)
  refine tke ?_;refine ag 5 λK hK=>kA (l:=[.tmp 36,.tmp 40]) rfl [il #[ii ip (fA b),ii ip (b.first:Int),si a8 (li b.l) a9],fv] rfl (aGw _) ((aIa a0.o q.o f2.o (by have:=x.o;omega)).mono ?_);rintro e L ⟨rfl,n⟩;refine⟨_,rfl,hK _ _ (λ_=>⟨aA n d,aA n i,aA n m,aA n p⟩) ?_⟩;simp only[nrm];clear hK;refine af 6 (λ_=>⟨aA n d,aA n i,aA n m,aA n p⟩) ?_;refine wd ?_ _;have⟨W7,d9,G7,B7⟩:=hh4 (W6.o.quiet n) (a0.o.fr n) (G6.o.quiet n) (B6.o.fr n);clear n W6 a0 G6 B6 d i m p q;have n:=cZ b low;have v:Hid (aNZ c h b hi low up most out E (b.way low) out):=lh (Ii ⟨n,C,f4.o,by rw[d7.o,aJF _ _ f3.o],by have:=b'.o;rw[d7.o,iB]at this;omega⟩);clear n;go_wp2_with fail;go_loopw [9] (λq wr=>∃(p:Nat) (n:En) (C:Value),q=ii ip (p:Int)/\Wst H wS g bc bn bs bw D c fv tv low up most n C wr/\WFr bc bw t L C wr/\aNZ c h b hi low up most out E p n) (λq _=>li b.l+1-(intOf q).toNat);·exact⟨b.way low,out,t,rfl,W7.o,WFr.refl,v.o⟩
  obtain⟨p,n,C,rfl,q,F,I⟩:=hrel;have⟨WI,GI⟩:=hh2 q F;have v:=lh (GI.o.keep B7.o T.o.1 T.o.2.1 T.o.2.2);have B:=lh (d9.o.fr GI.o.fr λS A u=>by
   have G:=W7.o.nb S A.1;simp only[bB,aAS]at u;obtain h|h|h:=u;·exact absurd h G.2.1
   ·exact absurd h G.1
   exact absurd h A.2)
  have d:=v.o.a 0;have i:=v.o.a 1;have m:=v.o.a 2;clear q F;obtain⟨A,F,r,q,u⟩|⟨U,q⟩:=I
  ·have R:((p:Nat):Int)<=((li b.l:Nat):Int):=(by omega);have⟨b7,a1,a2⟩:=hh3 r q u;clear r q u;have a3:Wi ip ((deep:Int)+1)=((deep+1:Nat):Int):=(by have:=b3.o;rw[yB];omega);have a4:=wi p (by have:=x.o;omega);go_wp2_with fail;refine(zN B.o A (by have:=x.o;omega)).mono ?_;rintro e a7 ⟨rfl,r⟩;have⟨W8,G8⟩:=hh2 (WI.o.quiet r) (GI.o.quiet r);clear r d i m WI GI v B;by_cases d:p=li b.l
   ·subst d;obtain⟨m,a8,u⟩:=aKs b7.o;have r:=lh (d8.o (f-1) _ (deep+1) _ _ _ _ _ _ _ (by have:=HF.o;omega) (by have:=HF.o;have:=b3.o;omega) u W8.o a2.o);clear u;go_wp2_with fail;refine r.o.mono ?_;rintro e i ⟨v,rfl,A,B⟩;have⟨W9,G9⟩:=hh2 A (G8.o.trans B);clear A B r;cases d:(goE low up most n F).2 with
    | true=>
     have HX:Hid (∃(j:Nat) (outj:En) (ovj:Value),ii ip (((li b.l:Nat):Int)+1)=ii ip (j:Int)/\Wst H wS g bc bn bs bw D c fv tv low up most outj ovj i/\WFr bc bw t L ovj i/\aNZ c h b hi low up most out E j outj):=lh ⟨li b.l+1,_,v,rfl,W9.o,G9.o,Ij ⟨rfl,by rw[a1.o,<- d]⟩⟩;have I:=lh d;clear d;go_wp2_with fail;go_roundw
     case rel=>exact HX.o
     case measure=>simp[intOf]
    | false=>have⟨HX,I⟩:=hh2 (b4.o (iz (ij false)) i ⟨v,by rw[a1.o,d],by rw[a1.o];exact W9.o,G7.o.trans G9.o⟩) d;clear d;go_wp2_with fail;exact HX.o
   have M:p<li b.l:=(by omega);obtain⟨m,a9,m,S,a',u,F,T⟩:=aKt b7.o M;have Q:li n+li m<=1000000:=(by have:=a2.o;rw[F,iB]at this;omega);have⟨r,f5,e4⟩:=hh3 (d8.o (f-1) _ (deep+1) _ _ _ _ _ _ _ (by have:=HF.o;omega) (by have:=HF.o;have:=b3.o;omega) u W8.o Q) F T;have J:Hid (goE low up most out E=if (goE low up most n m).2 then goE low up most (goE low up most n m).1 S else goE low up most n m):=lh (by rw[a1.o,F,aEw]);clear u F T Q;go_wp2_with fail;refine r.o.mono ?_;rintro e i ⟨v,rfl,A,B⟩;have⟨W9,G9⟩:=hh2 A (G8.o.trans B);clear A B r;cases d:(goE low up most n m).2 with
   | true=>have HX:Hid (∃(j:Nat) (outj:En) (ovj:Value),ii ip (((p:Nat):Int)+1)=ii ip (j:Int)/\Wst H wS g bc bn bs bw D c fv tv low up most outj ovj i/\WFr bc bw t L ovj i/\aNZ c h b hi low up most out E j outj):=lh ⟨p+1,_,v,rfl,W9.o,G9.o,Ii ⟨M,S,e4.o,by rw[J.o,iA d],by have G:=aIy low up most m n;have m:=a2.o;rw[f5.o,iB]at m;omega⟩⟩;have I:=lh d;clear d;exact Z7
   | false=>have⟨HX,I⟩:=hh2 (b4.o (iz (ij false)) i ⟨v,by rw[J.o,eA (by rw[d];decide),d],by rw[J.o,eA (by rw[d];decide)];exact W9.o,G7.o.trans G9.o⟩) d;clear d;go_wp2_with fail;exact HX.o
  subst U;have d:¬ (((li b.l+1:Nat)):Int)<=((li b.l:Nat):Int):=(by omega);have⟨HX,a1⟩:=hh2 (b4.o (iz (ij true)) wr ⟨C,by rw[q],by rw[q];exact WI.o,G7.o.trans GI.o⟩) q;clear q;go_wp2_with fail;exact HX.o
end
def aKu (X:Nat->Prop) (E:Nat->En) (t:Nat) (low:Ky) (up:Option Ky) (most:Nat) (w:World) (e:Ending) (w':World):Prop:=
 ∃ov cs,e=.returned (.tuple #[ov,.int .i64 0])/\w'.ownsRow w.heap.size 100 2 ov (goE low up most [] (E t)).1.length cs/\fH (fun q=>X q∨w.heap.size<=q) w' (goE low up most [] (E t)).1 cs/\Fr [] w w'
section
variable {w0 w:World}{dk g st:Nat}{s:PS}{X:Nat->Prop}{E:Nat->En}
theorem aOa(h:StX w0 w dk g st s X E){t:Nat}(ht:t<8){fv tv:Value}{low:Ky}{up:Option Ky}{gf most:Nat}(l:dA w fv low gf)(U:X gf)(d:UpK X w tv up)(b4:most<9223372036854775808)(p:li (E t)<=1000000): Calls prog 40 #[pi (some ⟨st,0,none⟩),ii ip (t:Int),fv,tv,ii ip (most:Int)] w (aKu X E t low up most w):=by
 obtain⟨B,C,_,rfl,_,_⟩:=id l;obtain⟨D,F,G,rfl⟩:∃A J i,tv=si A J i:=by
  cases up with
  | none=>exact⟨_,_,_,d⟩
  | some a6=>obtain⟨a,J,i,b,f,_⟩:=d;exact⟨_,_,_,f⟩
 have m:∀b,X b->b<w.heap.size:=by obtain⟨_,_,_,_,_,_,_,y⟩:=h.px;exact y
 obtain⟨_,_,P,b1,k⟩:=h.store;obtain⟨i,c⟩:=nm (oD s.page s.n);rw[<- c]at k;have j:=h.pgc;rw[<- c]at j;have⟨H,HC,a0,HF,HK,a1,HU,a2,I⟩:=hh9 h c j k l U d m p;have n:=lh h.begin;clear h c j k l U p d m;have a7:((t:Nat):Int)<8:=by omega
 have a8:¬ (8:Int)<=((t:Nat):Int):=by omega
 have a9:¬ ((t:Nat):Int)<0:=by omega
 have a':¬ ((most:Nat):Int)<0:=by omega
 refine cA λb2 R=>?_;go_enter func40,ntmps40;go_wp2_with fail;refine n.o.mono ?_;rintro e j ⟨l,V,W,rfl,c⟩;rw[<- HC.o]at c;have d:=lh c;have O:=c.blk.at_ (bH i g V W ht);clear c n;by_cases hr:i.roots t=0
 ·rw[hr]at O;have c:E t=[]:=by
   exact Z87
  have⟨T,a3⟩:=hh2 (R.o (iz (tl #[si none 0 0,ii ip 0])) j ⟨si none 0 0,[],rfl,by rw[c];exact gD _ _ _ _,by rw[c];trivial,d.o.fr⟩) hr;clear hr c;go_wp2_with fail;exact T.o
 have b0:¬ ((i.roots t:Nat):Int)=0:=by omega
 obtain⟨m,c,r,Y⟩:∃m c,Sub i.N 1 m (i.roots t) none none (E t) c/\m<40:=by
  obtain⟨h,_,_⟩|⟨_,m,r⟩:=HF.o.tree t ht;·exact absurd h hr
  exact⟨m,_,r,cM r (by have:=I.o;omega)⟩
 obtain⟨L,u⟩:=nm (j.alloc (iy (aFh l (si B (li low) C) (si D F G) (si none 0 0) most).toArray 145));have n:Fr [] j L:=by rw[u];exact(jj [] _).alloc _
 have Q:Blk L j.heap.size 145 (aFh l (si B (li low) C) (si D F G) (si none 0 0) most):=by rw[u];exact jl j _ (aFh l (si B (li low) C) (si D F G) (si none 0 0) most)
 have x:=d.o.fr.size;have Z:=n.size;have a4:=d.o.lts;obtain⟨v,k⟩:∃v:Nat->Prop,v=λb=>Dm_ X w l V W b/\b≠j.heap.size:=⟨_,rfl⟩;have S:∀b,X b->Dv v (si none 0 0) b:=λb c=>by have f:=a2.o b c;have p:=d.o.l1;have q:=d.o.l2;have y:=d.o.l3;rw[k];exact⟨⟨⟨Ii c,by omega,by omega,by omega⟩,by omega⟩,λe=>by cases e⟩
 have z:Fr [] w L:=d.o.fr.trans n;have a5:Hid (Wst j.heap.size w g l V W j.heap.size v i (si B (li low) C) (si D F G) low up most [] (si none 0 0) L):=lh {
  ch:=by
   refine(d.o.re (D':=Dv v (si none 0 0)) (λb c B=>?_) ⟨j.heap.size+1,?_,by omega⟩ (λb c=>?_)).frame n;·rw[k];exact⟨⟨c,by omega⟩,λe=>by cases e⟩
   ·rw[k];exact⟨⟨⟨Ij (by omega),by omega,by omega,by omega⟩,by omega⟩,λe=>by cases e⟩
   rw[k]at c;exact c.1.1.2
  bwk:=Q
  low:=⟨gf,HK.o.fr z,S _ a1.o⟩
  up:=by
   have f:=HU.o.fr z;cases up with
   | none=>exact f
   | some a6=>obtain⟨a,J,i,b,p,q,y⟩:=f;exact⟨a,J,i,b,p,q,S _ y⟩
  row:=⟨[],gD _ _ _ _,trivial⟩
  nb:=λb c=>by rw[k]at c;exact⟨c.2,c.1.2⟩
  top:=λb c=>by rw[k];have:=Q.lt;exact⟨⟨Ij (by omega),by omega,by omega,by omega⟩,by omega⟩
  own:=λb e=>by cases e
  hb:=⟨by omega,by omega,by omega⟩
  hH:=x
  hw:=x
  hz:=Z }
 have⟨M,HD,a3,b3⟩:=hh4 (aPz a0.o HF.o.e m 40 _ 0 _ _ _ _ _ _ _ Y rfl r a5.o (by have:=I.o;simpa using this)) k hr Y;have m:Hid (w.heap.size<=l):=lh d.o.l1;have i:=lh x;have v:=aA n O;have y:=lh z;clear hr r Y n Q x Z a4 k S z;unfold aFh at u;go_upto_region 7 with fail;rw[<- u];clear u O;go_wp2_with fail;refine M.o.mono ?_;rintro e n ⟨k,rfl,d,l⟩;have j:=lh d;have T:=lh (R.o (iz (tl #[k,ii ip 0])) n (by
  obtain⟨n,f,p⟩:=d.row;refine⟨k,n,rfl,kD f (λb c=>by have:=(f.lt b c).1;have:=i.o;omega),p.re (λb c _=>?_) ⟨w.heap.size,Ij (tA _)⟩,y.o.trans l.fr λb c=>Ij ?_⟩;·have q:=c.1;rw[HD.o]at q;exact q.1.1
  simp only[bB,aAS]at c;have f:=m.o;have p:=i.o;obtain h|h|h:=c;·omega
  ·omega
  cases h))
 clear d l M v;have b:=j.o.ch.blk.a 13;rw[HF.o.e]at b;have b:=j.o.bwk.a 4;go_wp2_with fail;exact T.o
end
end
section
open Go.RowKit Go.Shelf
theorem aGy(c:UInt8)(l:List UInt8):aIr (c::l)=(sQ c&&hU ((c::l).takeWhile nC)&&decide (li ((c::l).takeWhile nC)=li (c::l))):=rfl
theorem aMI{w:World}(s:ByteArray)(l:s.size<=1000000):RV 106 #[sj s] w (ij (aIr (bA s))):=by
 have p:=yA s;have f:=aNP s;refine cA λz g=>?_;cases h:bA s with
 | nil=>rw[h]at g;have b:=lh (g.o (iz (ij false)) w ⟨rfl,jj _ _⟩);rw[h]at f;clear h p;go_enter func106,ntmps106;go_wp2_with fail;exact b.o
 | cons c j=>
  have u:∀d,(Instr.index 9 (sj s) (ii ip 0)).run prog d=.ok (ii ix (c.toNat:Int)) d:=λd=>eX (s:=s) (i:=0) (c:=c) (by rw[h];rfl) ip d;rw[h]at f;have k:=lh (λd:World=>aRx (w:=d) s l);rw[h]at k g;have l:=lh (λd=>aEU (c.toNat:Int) d);simp only[aIo]at l;obtain⟨d,n⟩:∃d,(c::j).takeWhile nC=d:=⟨_,rfl⟩;rw[n]at k;have m:=aGy c j;rw[n]at m;have q:s.size=li (c::j):=by rw[<- h];exact p.symm
  obtain⟨r,f⟩:∃r,aIr (c::j)=r:=⟨_,rfl⟩;rw[f]at g m;have⟨A,y⟩:=hh2 m q;have v:li d<=s.size:=by rw[q,<- n];exact(List.takeWhile_sublist nC).length_le
  have x:IntKind.i32.wrap (c.toNat:Int)=(c.toNat:Int):=by have:=c.toNat_lt;rw[IntKind.wrap_i32];omega
  clear h p n f m q;cases h:sQ c with
  | false=>have b:=lh (g.o (iz (ij false)) w ⟨by rw[A.o,h];rfl,jj _ _⟩);rw[h]at l;clear h A;go_enter func106,ntmps106;go_wp2_with fail;refine(l.o _).mono ?_;rintro e t ⟨rfl,rfl⟩;go_wp2_with fail;exact b.o
  | true=>
   rw[h]at l;obtain⟨m,p⟩:∃m,hU d=m:=⟨_,rfl⟩;have q:r=(m&&decide (li d=li (c::j))):=(by rw[A.o,h,p];simp);rw[p]at k;have n:=lh q;clear h A p q;go_enter func106,ntmps106;go_wp2_with fail;refine(l.o _).mono ?_;rintro e t ⟨rfl,rfl⟩;go_wp2_with fail;refine(k.o w).mono ?_;rintro e l ⟨rfl,p⟩;have h:=lh p;clear p k;cases m with
   | false=>have b:=lh (g.o (iz (ij false)) l ⟨by rw[n.o];rfl,h.o⟩);go_wp2_with fail;exact b.o
   | true=>
    by_cases f:li d=li (c::j);·have b:=lh (g.o (iz (ij true)) l ⟨by rw[n.o,yJ f];rfl,h.o⟩);have j:((li d:Int)==(s.size:Int))=true:=(by rw[beq_iff_eq,y.o,f]);clear f;go_wp2_with fail;exact b.o
    have b:=lh (g.o (iz (ij false)) l ⟨by rw[n.o,vH f];rfl,h.o⟩);have j:((li d:Int)==(s.size:Int))=false:=(by rw[lE,y.o];omega);clear f;go_wp2_with fail;exact b.o
theorem Z46{P:Prop} (h:P:=by
 go_wp2_with fail;refine HN.o.mono ?_;rintro e w1 ⟨rfl,hf⟩;have HX:=lh (HQ.o (.returned (.bool q)) w1 ⟨rfl,hf⟩);clear hf;go_wp2_with fail;exact HX.o):P:=h
theorem aGz{w:World}(s:ByteArray):RV 75 #[sj s] w (ij (nmB (bA s))):=by
 have c:=yA s;refine cA λg HQ=>?_;by_cases h:s.size<=32
 ·have HN:=lh (aMI (w:=w) s (by omega));obtain⟨q,d⟩:∃q,aIr (bA s)=q:=⟨_,rfl⟩;have b:nmB (bA s)=q:=by unfold nmB;rw[c,yJ h,d];rfl
  rw[b]at HQ;rw[d]at HN;have f:(s.size:Int)<=32:=by omega
  clear d b c h;go_enter func75,ntmps75;exact Z46
 have b:nmB (bA s)=false:=by unfold nmB;rw[c,vH h];rfl
 rw[b]at HQ;have HX:=lh (HQ.o (iz (ij false)) w ⟨rfl,jj _ _⟩);have f:¬ (s.size:Int)<=32:=by omega
 clear b c h;go_enter func75,ntmps75;go_wp2_with fail;exact HX.o
theorem Z42{P:Prop} (h:P:=by
 have e:idB n=false:=by unfold idB;rw[eI];omega
 have HX:=lh (HQ.o (.returned (.bool false)) w ⟨by rw[e],rfl⟩);clear e
 go_enter func47,ntmps47
 go_wp2_with fail;exact HX.o):P:=h
theorem lJ{w:World}(n:Int):Calls prog 47 #[n] w λe b=>e=iz (ij (idB n))/\w=b:=by
 refine cA λd HQ=>?_;by_cases b:0<=n
 ·by_cases c:n<=4294967295
  ·have HX:=lh (HQ.o (iz (ij true)) w ⟨by rw[cK.2 ⟨b,by omega⟩],rfl⟩);go_enter func47,ntmps47;go_wp2_with fail;exact HX.o
  exact Z42
 exact Z42
theorem Z41{P:Prop} (h:P:=by
 have e:idB n=false:=by unfold idB;rw[eI];omega
 have HX:=lh (HQ.o (.returned (.bool false)) w ⟨by rw[e],rfl⟩);clear e
 go_enter func55,ntmps55
 go_wp2_with fail;exact HX.o):P:=h
theorem id23{w:World}(n:Int):Calls prog 55 #[n] w λe b=>e=iz (ij (idB n))/\w=b:=by
 refine cA λd HQ=>?_;by_cases b:0<=n
 ·by_cases c:n<4294967296
  ·have HX:=lh (HQ.o (iz (ij true)) w ⟨by rw[cK.2 ⟨b,by omega⟩],rfl⟩);go_enter func55,ntmps55;go_wp2_with fail;exact HX.o
  exact Z41
 exact Z41
theorem aMJ{l:List UInt8}(h:NoZ l):Lib.countByte l 0=0:=List.count_eq_zero.2 λb=>h 0 b rfl
theorem aPA(s:ByteArray)(d:NoZ (bA s))(w:World):Calls prog 206 #[sj s,sj { data:=#[0] }] w λe b=>e=iz (ii ip 0)/\w=b:=by have g:∀b,(Instr.index 9 (sj { data:=#[0] }) (ii ip 0)).run prog b=.ok (ii ix 0) b:=λb=>eX (s:={ data:=#[0] }) (i:=0) (c:=0) rfl ip b;have b:Hid (Lib.countByte s.data.toList 0=0):=lh (aMJ d);refine cA λh f=>?_;go_enter func206,ntmps206;go_wp2_with fail;rw[run_callFunc_extern func223 (by kernel_rfl) (by kernel_rfl) (by kernel_rfl) (e:=Extern.BytealgCount.count) (by kernel_rfl),Lib.run_countString];simp only[Result.andThen];rw[Oper.upon_value];go_wp2_with fail;exact f.o _ _ ⟨by show iz (ii ip ((Lib.countByte s.data.toList 0:Nat):Int))=_;rw[b.o];rfl,rfl⟩
theorem Z58{P:Prop} (h:P:=by
 go_wp2_with fail;refine(HRP.o _).mono ?_;rintro e wr ⟨rfl,rfl⟩;go_wp2_with fail;exact HQ.o _ _ ⟨rfl,rfl⟩):P:=h
theorem aKv(s:ByteArray)(b:NoZ (bA s))(w:World):Calls prog 180 #[sj s,sj { data:=#[0] },sj { data:=#[0,255] },ii ip (-1)] w λe c=>e=iz (sj s)/\w=c:=by have HRP:=lh (aPA s b);refine cA λc HQ=>?_;go_enter func180,ntmps180;exact Z58
theorem aFj(s:ByteArray)(b:NoZ (bA s))(w:World):Calls prog 144 #[sj s,sj { data:=#[0] },sj { data:=#[0,255] }] w λe c=>e=iz (sj s)/\w=c:=by have HRP:=lh (aKv s b);refine cA λc HQ=>?_;go_enter func144,ntmps144;exact Z58
inductive Pt where
 | str (s:ByteArray)
 | num (n:Nat)
def Pt.vals:Pt->List Value
 | .str s=>[.int .i64 3,.bool false,.bool false,.string { data:=#[] },.int .i64 0,.string s,.int .i64 0]
 | .num n=>[.int .i64 9,.bool false,.bool false,.string { data:=#[] },.int .i64 0,.string { data:=#[] },.int .i64 (n:Int)]
def Pt.bytes:Pt->List UInt8
 | .str s=>nmK (bA s)
 | .num n=>wK n
def Pt.ok:Pt->Prop
 | .str s=>NoZ (bA s)/\s.size<=1000
 | .num n=>n<4294967296
def yU:List Value:=[.int .i64 0,.bool false,.bool false,.string { data:=#[] },.int .i64 0,.string { data:=#[] },.int .i64 0]
theorem zS:∀(p:Pt),∀u∈p.vals,u.oneCell'=true
 | .str s,u,h=>by simp only[Pt.vals,bB,kC,dC]at h;rcases h with rfl|rfl|rfl|rfl|rfl|rfl|rfl<;>rfl
 | .num n,u,h=>by simp only[Pt.vals,bB,kC,dC]at h;rcases h with rfl|rfl|rfl|rfl|rfl|rfl|rfl<;>rfl
theorem aBV:(prog.info? 107).map (λb=>(b.zero,b.size,b.bytes))=some (some (il yU.toArray),7,72):=by kernel_rfl
theorem Z49{P:Prop} (h:P:=by
 refine cA fun R HQ=>?_;unfold Pt.vals
 go_enter func111,ntmps111
 go_wp2_with fail;exact HQ.o _ _ ⟨rfl,((Fr.refl _ _).alloc _).alloc _⟩):P:=h
theorem aPB(s:ByteArray)(w:World):RV 111 #[il (Pt.str s).vals.toArray] w (ij true):=by exact Z49
theorem aPC(n:Nat)(b:n<4294967296)(w:World):RV 111 #[il (Pt.num n).vals.toArray] w (ij true):=by
 have c:(0:Int)<=(n:Int):=by omega
 have d:(n:Int)<=4294967295:=by omega
 exact Z49
theorem aPD(p:Pt)(b:p.ok)(w:World):RV 111 #[il p.vals.toArray] w (ij true):=
 match p,b with
 | .str s,_=>aPB s w
 | .num n,h=>aPC n h w
theorem aT(n:Nat):(Ot n).toNat=n%256:=cQ ..
def FrB (b:Nat) (w w':World):Prop:=∃S,Fr S w w'/\∀x∈S,b<=x
theorem FrB.of{b:Nat}{S:List Nat}{w w':World}(h:Fr S w w')(c:∀x∈S,b<=x):FrB b w w':=⟨S,h,c⟩
theorem FrB.trans{b:Nat}{w w1:World}(h:FrB b w w1)(h2:FrB b w1 w'):FrB b w w':=by
 obtain⟨f,c,g⟩:=h;obtain⟨d,i,j⟩:=h2;refine⟨f++d,(c.mono λd c=>Ii (yE _ c)).trans (i.mono λd c=>Ii (tF f c)) λd c=>Ii c,λd c=>?_⟩;obtain c|c:=sD.1 c;·exact g d c
 exact j d c
theorem FrB.after{b:Nat}{w0 w w':World}(h:FrB b w w')(h0:Fr [] w0 w)(d:w0<=b):Fr [] w0 w':=by obtain⟨i,c,f⟩:=h;exact h0.trans c λc g=>Ij (vD d (f c g))
theorem gF{w:World}{b:Nat}{e:TypeId}{c n:Nat}{v:Value}(h:w.ownsRow b e c v n F):w.ownsRow 0 e c v n F:=by refine⟨h.1,h.2.imp id ?_⟩;rintro⟨c,d,f,g,_,i⟩;exact⟨c,d,f,g,uB _,i⟩
theorem wL{w:World}{b:Nat}{e:TypeId}{c n:Nat}{v:Value}(h:w.ownsRow 0 e c v n F)(f:∀g,v.ownBlock=some g->b<=g):w.ownsRow b e c v n F:=by refine⟨h.1,h.2.imp id ?_⟩;rintro⟨g,d,i,c,_,j⟩;exact⟨g,d,i,c,f g (by rw[c];rfl),j⟩
theorem sC{w:World}{b:Nat}{e:TypeId}{c n:Nat}{v:Value}(h:w.ownsRow b e c v n F):∀g,v.ownBlock=some g->b<=g:=by
 intro g c;obtain⟨rfl,_⟩|⟨d,i,j,rfl,f,_⟩:=h.2;·simp[Value.ownBlock]at c
 have:d=g:=by simpa[Value.ownBlock]using c
 subst this;exact f
def aMK (b:Nat) (w:World) (bs:List UInt8) (e:Ending) (w':World):Prop:=∃v',e=.returned v'/\w'.ownsRow b 5 1 v' bs.length (gA bs)/\FrB b w w'
theorem aTt(n:Nat)(_hn:n<4294967296){b:Nat}{w:World}{v:Value}{bs:List UInt8}(M:w.ownsRow b 5 1 v (li bs) (gA bs))(W:b<=w.heap.size)(B:li bs<=100000):Calls prog 112 #[v,il (Pt.num n).vals.toArray] w (aMK b w (bs++wK n)):=by
 refine cA λz t=>?_;obtain⟨p,q,rfl,x,_⟩:=jA M;have f:=lh M;unfold Pt.vals;have j:IntKind.u8.wrap ((n:Int) / 16777216)=((Ot (n / 16777216)).toNat:Int):=by rw[jL,aT];omega
 have k:IntKind.u8.wrap ((n:Int) / 65536)=((Ot (n / 65536)).toNat:Int):=by rw[jL,aT];omega
 have l:IntKind.u8.wrap ((n:Int) / 256)=((Ot (n / 256)).toNat:Int):=by rw[jL,aT];omega
 have m:IntKind.u8.wrap (n:Int)=((Ot n).toNat:Int):=by rw[jL,aT];omega
 obtain⟨v1,c⟩:∃v,((Ot (n / 16777216)).toNat:Int)=v:=⟨_,rfl⟩;obtain⟨v2,d⟩:∃v,((Ot (n / 65536)).toNat:Int)=v:=⟨_,rfl⟩;obtain⟨v3,g⟩:∃v,((Ot (n / 256)).toNat:Int)=v:=⟨_,rfl⟩;obtain⟨v4,h⟩:∃v,((Ot n).toNat:Int)=v:=⟨_,rfl⟩;rw[c]at j;rw[d]at k;rw[g]at l;rw[h]at m;have j:gA (wK n)=[ii ix 80,ii ix v1,ii ix v2,ii ix v3,ii ix v4]:=by rw[<- c,<- d,<- g,<- h];rfl
 have h:=lh j;go_enter func112,ntmps112;go_upto_region 17 with fail;have d:Fr [] w (w.alloc (iy #[ii ip 9,ij false,ij false,sj { data:=#[] },ii ip 0,sj { data:=#[] },n] 107)):=(jj [] w).alloc _;have g:Blk (w.alloc (iy #[ii ip 9,ij false,ij false,sj { data:=#[] },ii ip 0,sj { data:=#[] },n] 107)) w.heap.size 107 [ii ip 9,ij false,ij false,sj { data:=#[] },ii ip 0,sj { data:=#[] },n]:=jl w _ [ii ip 9,ij false,ij false,sj { data:=#[] },ii ip 0,sj { data:=#[] },n];generalize w.alloc (iy #[ii ip 9,ij false,ij false,sj { data:=#[] },ii ip 0,sj { data:=#[] },n] 107)=c at *;have u:=g.a 6;have g:=lh d;refine sB ?_;iterate 16 (refine ab ?_)
 refine lp λK hK=>?_;obtain⟨y,l,m,r,s⟩:=oJ aKc;refine tB (v:=si c 5 5) (w':=c.alloc (iy #[ii ix 80,ii ix v1,ii ix v2,ii ix v3,ii ix v4] 5)) (by go_simp<;>rfl) (hK _ _ ?_);simp only[nrm];have d:=jl c 5 [ii ix 80,ii ix v1,ii ix v2,ii ix v3,ii ix v4];have j:Fr [] c (c.alloc (iy #[ii ix 80,ii ix v1,ii ix v2,ii ix v3,ii ix v4] 5)):=(jj [] c).alloc _;have k:(c.alloc (iy #[ii ix 80,ii ix v1,ii ix v2,ii ix v3,ii ix v4] 5)).heap.size=c.heap.size+1:=by simp
 change Blk (c.alloc (iy #[ii ix 80,ii ix v1,ii ix v2,ii ix v3,ii ix v4] 5)) _ _ _ at d;generalize c.alloc (iy #[ii ix 80,ii ix v1,ii ix v2,ii ix v3,ii ix v4] 5)=A at *;have⟨i,G⟩:=hh2 (g.o.trans j) d;refine lp λK hK=>fC (.tmp 86) (.tmp 102) rfl 5 1 1 Go.Proofs.Tryz.underlying67 l m r s rfl (by omega) (si p (li bs) q) (li bs) (gA bs) rfl (gF (fB f.o i.o (by simp))) ⟨c.heap.size,0,none⟩ 5 5 [ii ix 80,ii ix v1,ii ix v2,ii ix v3,ii ix v4] rfl rfl (λq j d=>by rw[Go.Addr.add_mid,nB];exact G.o.at_ d) (by intro j d;simp only[bB,kC,dC]at d;rcases d with rfl|rfl|rfl|rfl|rfl<;>rfl) (by omega) (by unfold maxLen;omega) (by omega) (c.heap.size+1) k λc k l d m p r=>hK _ _ ?_;simp only[nrm];refine ab ?_;refine wB ?_;have j:=lh (t.o (iz (si c (li bs+5) k)) l ⟨_,rfl,by
  rw[<- h.o,<- fD,show li bs+5=li (bs++wK n) by rw[iB];rfl]at d;rw[show li bs+5=li (bs++wK n) by rw[iB];rfl];exact wL d λd h=>by
   have e:c=d:=(by simpa[Value.ownBlock]using h);subst e;obtain c|c:=p;·exact sC f.o _ c
   have:=g.o.size;omega,(FrB.of i.o (by simp)).trans (FrB.of m λc d=>sC f.o c (by simpa using d))⟩)
 go_wp2_with fail;exact j.o
theorem aBW(b:Array Value)(w:World):(callFunc 144 b).run prog w=.ok (.enter 144 b) w:=by kernel_rfl
theorem aTu(s:ByteArray)(c:NoZ (bA s))(a5:s.size<=1000){b:Nat}{w:World}{v:Value}{bs:List UInt8}(y:w.ownsRow b 5 1 v (li bs) (gA bs))(Y:b<=w)(a6:li bs<=100000):Calls prog 112 #[v,il (Pt.str s).vals.toArray] w (aMK b w (bs++nmK (bA s))):=by
 refine cA λa4 R=>?_;obtain⟨I,L,rfl,a3,_⟩:=jA y;have N:=lh (aFj s c);have O:=yA s;unfold Pt.vals;obtain⟨X,A,B,C,E⟩:=oJ aKc;go_enter func112,ntmps112;go_upto_region 14 with fail;have m:Fr [] w (w.alloc (iy #[ii ip 3,ij false,ij false,sj { data:=#[] },ii ip 0,sj s,ii ip 0] 107)):=(jj [] w).alloc _;have Q:(w.alloc (iy #[ii ip 3,ij false,ij false,sj { data:=#[] },ii ip 0,sj s,ii ip 0] 107)).heap.size=w.heap.size+1:=by simp
 have S:Blk (w.alloc (iy #[ii ip 3,ij false,ij false,sj { data:=#[] },ii ip 0,sj s,ii ip 0] 107)) w 107 [ii ip 3,ij false,ij false,sj { data:=#[] },ii ip 0,sj s,ii ip 0]:=jl w _ [ii ip 3,ij false,ij false,sj { data:=#[] },ii ip 0,sj s,ii ip 0];generalize w.alloc (iy #[ii ip 3,ij false,ij false,sj { data:=#[] },ii ip 0,sj s,ii ip 0] 107)=c at *;have⟨p,D⟩:=hh2 (fB y m (by simp)) (vD Y m.size);refine sB ?_;refine ab ?_;refine lp λK hK=>tB (v:=si c 1 1) (w':=c.alloc (iy #[ii ix 64] 5)) (by go_simp<;>rfl) (hK _ _ ?_);simp only[nrm];have h:=jl c 5 [ii ix 64];have i:Fr [] c (c.alloc (iy #[ii ix 64] 5)):=(jj [] c).alloc _;have z:(c.alloc (iy #[ii ix 64] 5)).heap.size=c.heap.size+1:=by simp
 change Blk (c.alloc (iy #[ii ix 64] 5)) _ _ _ at h;generalize c.alloc (iy #[ii ix 64] 5)=Z at *;have d:=lh h;refine lp λK hK=>fC (.tmp 75) (.tmp 76) rfl 5 1 1 Go.Proofs.Tryz.underlying67 A B C E rfl (by omega) (si I (li bs) L) (li bs) (gA bs) rfl (gF (fB p.o i (by simp))) ⟨c,0,none⟩ 1 1 [ii ix 64] rfl rfl (λh G f=>by rw[Go.Addr.add_mid,nB];exact d.o.at_ f) (by intro G f;simp only[bB,kC,dC]at f;exact f▸rfl) (by omega) (by unfold maxLen;omega) (by omega) (c.heap.size+1) z λg M u j k n a2=>hK _ _ ?_;simp only[nrm];refine ab ?_;refine wB ?_;have J:Hid (u.ownsRow b 5 1 (si g (li bs+1) M) (li bs+1) (gA bs++[ii ix 64])):=lh (wL j λx q=>by
  have e:g=x:=by simpa[Value.ownBlock]using q
  subst e;obtain d|d:=n;·exact sC p.o _ d
  have:=D.o;omega)
 have⟨F,P⟩:=hh2 (show b<=u by have:=D.o;have:=k.size;omega) ((FrB.of m (by simp)).trans ((FrB.of i (by simp)).trans (FrB.of k λr m=>sC p.o r (by simpa using m))));have U:Hid (g=c.heap.size+1∨(si I (li bs) L).ownBlock=some g):=lh n.symm;have V:g≠w:=λe=>by
  have c:=Q;obtain d|d:=U.o;·omega
  have:=aG y g d;omega
 have L:Hid (Blk u w 107 [ii ip 3,ij false,ij false,sj { data:=#[] },ii ip 0,sj s,ii ip 0]):=lh (by have c:=S.fr i;exact c.fr k (λc=>by have:=aG y w (by simpa using c);omega));have Q:=L.o.a 5;go_upto_region 15 with fail;refine sB ?_;iterate 3 (refine ab ?_)
 refine lp λK hK=>kA (l:=[.tmp 80,.const (sj { data:=#[0] }),.const (sj { data:=#[0,255] })]) rfl [sj s,sj { data:=#[0] },sj { data:=#[0,255] }] rfl (aBW _) ((N.o _).mono ?_);rintro e wr ⟨rfl,rfl⟩;refine⟨_,rfl,hK _ _ ?_⟩;simp only[nrm];have j:=J.o;have c:gA bs++[ii ix 64]=gA (bs++[64]):=by rw[fD];rfl
 rw[c]at j;refine Lib.wpList_append_own_string _ rfl (.tmp 78) (.tmp 81) 67 9 rfl b 5 X Go.Proofs.Tryz.underlying67 Tryz.underlying9 A B C E (si g (li bs+1) M) (li bs+1) (gA (bs++[64])) rfl j s rfl (by unfold maxLen;omega) (by omega) (by have:=F.o;omega) ?_;intro v8 c I M _;simp only[nrm];refine ab ?_;refine wB ?_;have y:Fr [g] u c:=(jj _ _).grown M (λx q=>Ii (by simpa[Value.ownBlock]using q.symm));have g:gA (bs++[64])++Lib.strCells s=gA (bs++[64]++bA s):=by rw[fD _ (bA s)];rfl
 rw[g]at I;obtain⟨u,M,rfl,N,_⟩:=jA I;have⟨t,a0,T,H⟩:=hh4 I (L.o.fr y (by simp only[xA];exact λd=>V d.symm)) (P.o.trans (FrB.of y (by intro r m;obtain rfl:=xA.1 m;exact sC J.o _ rfl))) (vD F.o y.size);go_upto_region 16 with fail;refine sB ?_;refine ab ?_;refine lp λK hK=>tB (v:=si c 2 2) (w':=c.alloc (iy #[ii ix 0,ii ix 0] 5)) (by go_simp<;>rfl) (hK _ _ ?_);simp only[nrm];have h:=jl c 5 [ii ix 0,ii ix 0];have i:Fr [] c (c.alloc (iy #[ii ix 0,ii ix 0] 5)):=(jj [] c).alloc _;have z:(c.alloc (iy #[ii ix 0,ii ix 0] 5)).heap.size=c.heap.size+1:=by simp
 change Blk (c.alloc (iy #[ii ix 0,ii ix 0] 5)) _ _ _ at h;generalize c.alloc (iy #[ii ix 0,ii ix 0] 5)=Z at *;have g:=lh h;refine lp λK hK=>fC (.tmp 83) (.tmp 84) rfl 5 1 1 Go.Proofs.Tryz.underlying67 A B C E rfl (by omega) (si u (li bs+1+s.size) M) (li bs+1+s.size) (gA (bs++[64]++bA s)) rfl (gF (fB t.o i (by simp))) ⟨c,0,none⟩ 2 2 [ii ix 0,ii ix 0] rfl rfl (λh G f=>by rw[Go.Addr.add_mid,nB];exact g.o.at_ f) (by intro G f;simp only[bB,kC,dC]at f;exact f.elim (λe=>e▸rfl) (λe=>e▸rfl)) (by omega) (by unfold maxLen;omega) (by omega) (c.heap.size+1) z λf h g j k n a2=>hK _ _ ?_;simp only[nrm];refine ab ?_;refine wB ?_;have y:Hid (g.ownsRow b 5 1 (si f ((li bs+1+s.size)+2) h) ((li bs+1+s.size)+2) (gA (bs++[64]++bA s)++[ii ix 0,ii ix 0])):=lh (wL j λx q=>by
  have e:f=x:=by simpa[Value.ownBlock]using q
  subst e;obtain d|d:=n;·exact sC t.o _ d
  have:=H.o;omega)
 have⟨a1,W⟩:=hh2 (show b<=g by have:=H.o;have:=k.size;omega) (T.o.trans ((FrB.of i (by simp)).trans (FrB.of k λr m=>sC t.o r (by simpa using m))));have j:Hid (f=c.heap.size+1∨(si u (li bs+1+s.size) M).ownBlock=some f):=lh n.symm;have i:=lh (R.o (iz (si f (li bs+1+s.size+2) h)) g ⟨_,rfl,by
  have d:=y.o;have f:gA (bs++[64]++bA s)++[ii ix 0,ii ix 0]=gA (bs++nmK (bA s)):=by rw[show bs++nmK (bA s)=(bs++[64]++bA s)++[0,0] by simp[nmK],fD _ [0,0]];rfl
  have c:li (bs++nmK (bA s))=li bs+1+s.size+2:=by rw[iB,<- O];simp[nmK];omega
  rw[f,<- c]at d;rw[<- c];exact d,W.o⟩)
 go_wp2_with fail;exact i.o
theorem aML(p:Pt)(g:p.ok){b:Nat}{w:World}{v:Value}{bs:List UInt8}(d:w.ownsRow b 5 1 v (li bs) (gA bs))(c:b<=w)(f:li bs<=100000):Calls prog 112 #[v,il p.vals.toArray] w (aMK b w (bs++p.bytes)):=
 match p,g with
 | .str s,h=>aTu s h.1 h.2 d c f
 | .num n,h=>aTt n h d c f
theorem iF(p:Pt):li p.vals=7:=by cases p<;>rfl
def cJ (l:List Pt):List Value:=l.flatMap Pt.vals
def pD (l:List Pt):List UInt8:=l.flatMap Pt.bytes
theorem aFk(l:List Pt):li (cJ l)=li l*7:=by
 induction l with
 | nil=>rfl
 | cons c l b=>unfold cJ at *;rw[xG,iB,b,bD,iF];omega
theorem aPE{l:List Pt}{k:Nat}{p:Pt}(h:l[k]? = some p){j:Nat}(c:j<7):(cJ l)[k*7+j]? = p.vals[j]?:=by
 induction l generalizing k with
 | nil=>simp at h
 | cons d l b=>
  unfold cJ at *;rw[xG];cases k with
  | zero=>simp only[zP,yG]at h;subst h;rw[yK (by rw[iF];omega)];congr 1;omega
  | succ k=>rw[mJ (by rw[iF];omega),iF,show(k+1)*7+j-7=k*7+j by omega];exact b (by simpa using h)
theorem aFl{l:List Pt}(h:∀p∈l,p.ok):li (pD l)<=1003*li l:=by
 induction l with
 | nil=>simp[pD]
 | cons p l b=>
  have d:=b λb c=>h b (jD _ c);have c:li p.bytes<=1003:=by
   have b:=h p (eC ..);cases p with
   | str s=>have:=b.2;have b:=yA s;show(nmK (bA s)).length<=1003;simp[nmK];omega
   | num n=>show(wK n).length<=1003;simp[wK,be4]
  unfold pD at *;rw[xG,iB,bD];omega
theorem qK:(prog.info? 107).map (·.size)=some 7:=by kernel_rfl
theorem aKw(b:Array Value)(w:World):(callFunc 111 b).run prog w=.ok (.enter 111 b) w:=by kernel_rfl
theorem aMM(b:Array Value)(w:World):(callFunc 112 b).run prog w=.ok (.enter 112 b) w:=by kernel_rfl
def aUJ (w:World) (l:List Pt) (j:Nat) (v4 v12:Value) (wr:World):Prop:=
 ∃k:Nat,k+j=l.length/\v12=.int .i64 (k:Int)/\wr.ownsRow w.heap.size 5 1 v4 (pD (l.take k)).length (gA (pD (l.take k)))/\Fr [] w wr
theorem aMN{w:World}(l:List Pt)(hl:∀p∈l,p.ok)(hn:li l<=16){v:Value}{g:Nat}(hv:kH w v (li l) (cJ l) g): Calls prog 78 #[v] w λe w'=>∃v',e=iz (tl #[v',ii ip 0])/\w'.ownsRow w.heap.size 5 1 v' (li (pD l)) (gA (pD l))/\Fr [] w w':=by
 refine cA λR HQ=>?_;obtain⟨A,c,off,rfl,hc,b⟩:=hv;have HC:=lh b;have D:=lh hl;obtain⟨n,f⟩:∃n,li l=n:=⟨_,rfl⟩;rw[f]at hc hn⊢;have h:=lh f;have d0:decide (16<(n:Int))=false:=dF;clear b hl f;go_enter func78,ntmps78;go_wp2_with fail;go_loopg [4,12] n (λj v4 v12 wr=>aUJ w l j v4 v12 wr);·exact⟨0,by rw[h.o];omega,rfl,gD _ _ _ _,jj _ _⟩
 obtain⟨k,hk,rfl,t,hf⟩:=hrel;rw[h.o]at hk;have E:=lh t;have C:=lh hf;by_cases a6:k<n
 ·obtain⟨p,Y⟩:∃p,l[k]? = some p:=gx (by rw[h.o];exact a6);have m:=kF Y;obtain⟨rfl,Z⟩:=HC.o (by rw[h.o];omega);have F:wr.rangeAt g (off+k*7) p.vals:=λj u i=>by
   have hj:j<7:=(by rw[<- iF p];exact(uC.1 i).1);have h1:=Z (k*7+j) u (by rw[aPE Y hj];exact i);rw[yP];exact(C.o.cell (p:=⟨g,off+(k*7+j),none⟩) (xF w _ h1) (by simp)).trans h1
  have G:=lh F;have r:=lh (λW=>aPD p (D.o p m) W);have H:=lh (D.o p m);have I:=lh Y;have a8:(k:Int)<(n:Int):=(by omega);go_upto_region 6 with fail;refine sB ?_;refine ab ?_;refine lp λK hK=>xQ 107 (.tmp 14) rfl g (off+k*7) rfl p.vals _ G.o Go.Proofs.Tryz.underlying107 rfl (by rw[iF];exact qK) (hK _ _ ?_);simp only[nrm];refine lp λK hK=>gB 107 rfl (il yU.toArray) yU (by obtain⟨iu,hi,a0,_,_⟩:=oJ aBV;rw[hi];exact congrArg some a0) rfl λwa B a2 a3=>hK _ _ ?_;simp only[nrm];obtain⟨b6,x⟩:=nm (wr.heap.size);rw[<- x]at B⊢;have J:=lh x;have L:=lh a2;have a9:=lh a3;have M:=lh B;refine lp λK hK=>pA 107 (.tmp 6) (.tmp 15) rfl p.vals rfl rfl M.o (by rw[iF];exact qK) (by rw[iF];rfl) (zS p) λwb a4 a5 b0=>hK _ _ ?_;simp only[Act.put];have s:=lh a4;have N:Hid (Fr [] wr wb):=lh (L.o.trans a5 λq hq=>Ij (by rw[xA.1 hq,J.o];exact tA _));refine wB ?_;have a7:=r;go_upto_region 7 with fail;refine sB ?_;refine lp λK hK=>xQ 107 (.tmp 6) rfl b6 0 rfl p.vals _ (λj u i=>by rw[nB];exact s.o.at_ i) Go.Proofs.Tryz.underlying107 rfl (by rw[iF];exact qK) (hK _ _ ?_);simp only[nrm];refine lp λK hK=>kA (l:=[.tmp 16]) rfl [il p.vals.toArray] rfl (aKw _) ((r.o _).mono ?_);rintro e wc ⟨rfl,y⟩;refine⟨_,rfl,hK _ _ ?_⟩;simp only[nrm];refine ab ?_;refine wB ?_;have O:=lh (s.o.fr y);have d:=lh (N.o.trans y);have P:=lh (fB E.o d.o (by simp));have Q:=aFl (l:=l.take k) (λq hq=>D.o q (yM hq));rw[pB]at Q;have S:=lh (aML p H.o P.o (by have:=C.o.size;have:=d.o.size;omega) (by omega));obtain⟨Ao,co,rfl,_,_⟩:=jA E.o;go_upto_region 9 with fail;refine sB ?_;refine ab ?_;refine lp λK hK=>xQ 107 (.tmp 6) rfl b6 0 rfl p.vals _ (λj u i=>by rw[nB];exact O.o.at_ i) Go.Proofs.Tryz.underlying107 rfl (by rw[iF];exact qK) (hK _ _ ?_);simp only[nrm];refine lp λK hK=>kA (l:=[.tmp 19,.tmp 20]) rfl [_,il p.vals.toArray] rfl (aMM _) (S.o.mono ?_);rintro e wd ⟨v',rfl,z,a1⟩;refine⟨_,rfl,hK _ _ ?_⟩;simp only[nrm];refine ab ?_;refine wB ?_;have T:=a1.after (C.o.trans d.o) (tA _);have e8:pD (l.take k)++p.bytes=pD (l.take (k+1)):=by unfold pD;rw[eJ,I.o,vO];simp
  rw[e8]at z;have U:=lh z;have V:=lh T;have a':Wi ip ((k:Int)+1)=((k+1:Nat):Int):=ak;go_wp2_with fail;go_roundg (n-(k+1))
  case measure=>omega
  case rel=>exact⟨k+1,by rw[h.o];omega,rfl,U.o,V.o⟩
 obtain rfl:k=n:=(by omega);have X:=E.o;rw[zF (by rw[h.o];omega)]at X;obtain⟨Ao,co,rfl,_,_⟩:=jA X;have HX:=lh (HQ.o _ _ ⟨_,rfl,X,C.o⟩);go_wp2_with fail;exact HX.o
theorem jX{w:World}{b:Nat}{e:TypeId}{v:Value}{bs:List UInt8}{n:Nat}(hn:n=li bs)(h:w.ownsRow b e 1 v n (gA bs))(hb:b<=w):∃g,dA w v bs g/\b<=g:=by exact Z23
def lP (s:ByteArray) (ns:List Nat):List Pt:=.str s::ns.map .num
theorem mU(s:ByteArray)(b:List Nat):pD (lP s b)=zB (bA s) b:=by unfold pD lP zB;rw[xG,List.flatMap_map];rfl
theorem kW(s:ByteArray)(b:List Nat):li (lP s b)=li b+1:=by unfold lP;simp
def KyRel (w:World) (s:ByteArray) (ns:List Nat) (j:Nat) (v5 v15:Value) (wr:World):Prop:=
 ∃k:Nat,k+j=ns.length/\v15=.int .i64 (k:Int)/\wr.ownsRow w.heap.size 107 7 v5 (k+1) (cJ (lP s (ns.take k)))/\Fr [] w wr
theorem mP{w:World}(s:ByteArray)(b:List Nat)(i:NoZ (bA s))(j:s.size<=1000)(U:∀n∈b,n<4294967296)(d:li b<=3){v:Value}{g:Nat}(k:kH w v (li b) (b.map λn:Nat=>ii ip (n:Int)) g): Calls prog 45 #[sj s,v] w λe c=>∃v',e=iz v'/\(∃q,dA c v' (zB (bA s) b) q/\w.heap.size<=q)/\Fr [] w c:=by
 refine cA λM C=>?_;obtain⟨G,H,t,rfl,f,h⟩:=k;have z:=lh h;have A:Hid (∀p∈lP s b,p.ok):=lh (λp c=>by
  obtain rfl|c:=bB.1 c;·exact⟨i,j⟩
  obtain⟨n,d,rfl⟩:=kI.1 c;exact U n d)
 obtain⟨n,c⟩:∃n,li b=n:=⟨_,rfl⟩;rw[c]at f d⊢;have f:=lh c;obtain⟨I,k,l,m,B⟩:=oJ aBV;clear h c U i;go_enter func45,ntmps45;go_upto_region 1 with fail;refine sB ?_;iterate 2 (refine ab ?_)
 refine lp λK hK=>qC (.tmp 11) rfl aDy k l [ii ip 3,ij false,ij false,sj { data:=#[] },ii ip 0,sj s,ii ip 0] rfl m rfl (by simp) (by simp) (hK _ _ ?_);simp only[nrm];clear hK;have h:=jl w 107 [ii ip 3,ij false,ij false,sj { data:=#[] },ii ip 0,sj s,ii ip 0];have i:Fr [] w (w.alloc (iy #[ii ip 3,ij false,ij false,sj { data:=#[] },ii ip 0,sj s,ii ip 0] 107)):=(jj [] w).alloc _;change Blk (w.alloc (iy #[ii ip 3,ij false,ij false,sj { data:=#[] },ii ip 0,sj s,ii ip 0] 107)) _ _ _ at h;generalize w.alloc (iy #[ii ip 3,ij false,ij false,sj { data:=#[] },ii ip 0,sj s,ii ip 0] 107)=c at *;have d:Hid (c.ownsRow w.heap.size 107 7 (si (some ⟨w.heap.size,0,none⟩) 1 1) 1 (cJ (lP s (b.take 0)))):=lh ⟨rfl,Ij ⟨w.heap.size,1,_,rfl,tA _,h,tA _,by unfold maxLen;omega,rfl,rfl⟩⟩;have j:=lh i;clear h i;refine ab ?_;refine wB ?_;go_wp2_with fail;go_loopg [5,15] n (λy v5 v15 wr=>KyRel w s b y v5 v15 wr);·exact⟨0,by rw[f.o];omega,rfl,d.o,j.o⟩
 obtain⟨c,x,rfl,r,u⟩:=hrel;rw[f.o]at x;have⟨J,L⟩:=hh2 r u;clear r u d j;by_cases j:c<n
 ·obtain⟨d,r⟩:∃d,b[c]? = some d:=gx (by rw[f.o];exact j);obtain⟨rfl,x⟩:=z.o (by rw[f.o];omega);have j:=x c (ii ip (d:Int)) (by rw[wI,r];rfl);have E:wr.cell? ⟨g,t+c,none⟩=some (ii ip (d:Int)):=(L.o.cell (p:=⟨g,t+c,none⟩) (xF w _ j) (by simp)).trans j;have z:=lh r;have F:(c:Int)<(n:Int):=(by omega);obtain⟨t,u,rfl,_,_⟩:=jA J.o;clear x j r;go_upto_region 5 with fail;refine sB ?_;iterate 3 (refine ab ?_)
  refine lp λK hK=>qC (.tmp 21) rfl aDy k l [ii ip 9,ij false,ij false,sj { data:=#[] },ii ip 0,sj { data:=#[] },ii ip (d:Int)] rfl m rfl (by simp) (by simp) (hK _ _ ?_);simp only[nrm];clear hK;have h:=jl wr 107 [ii ip 9,ij false,ij false,sj { data:=#[] },ii ip 0,sj { data:=#[] },ii ip (d:Int)];have i:Fr [] wr (wr.alloc (iy #[ii ip 9,ij false,ij false,sj { data:=#[] },ii ip 0,sj { data:=#[] },ii ip (d:Int)] 107)):=(jj [] wr).alloc _;have j:(wr.alloc (iy #[ii ip 9,ij false,ij false,sj { data:=#[] },ii ip 0,sj { data:=#[] },ii ip (d:Int)] 107)).heap.size=wr.heap.size+1:=(by simp);change Blk (wr.alloc (iy #[ii ip 9,ij false,ij false,sj { data:=#[] },ii ip 0,sj { data:=#[] },ii ip (d:Int)] 107)) _ _ _ at h;generalize wr.alloc (iy #[ii ip 9,ij false,ij false,sj { data:=#[] },ii ip 0,sj { data:=#[] },ii ip (d:Int)] 107)=P at *;have⟨N,Y⟩:=hh2 i h;clear i h;have r:li (cJ (lP s (b.take c)))=(c+1)*7:=(by rw[aFk,kW,pB,f.o];congr 2;omega);refine lp λK hK=>fC (.tmp 19) (.tmp 22) rfl 107 7 72 aDy k l m B rfl (by omega) (si t (c+1) u) (c+1) (cJ (lP s (b.take c))) rfl (gF (fB J.o N.o (by simp))) ⟨wr.heap.size,0,none⟩ 1 1 [ii ip 9,ij false,ij false,sj { data:=#[] },ii ip 0,sj { data:=#[] },ii ip (d:Int)] rfl rfl (λy O h=>by rw[Go.Addr.add_mid,nB];exact Y.o.at_ h) (zS (.num d)) (by omega) (by unfold maxLen;omega) (by omega) (wr.heap.size+1) j λi B k h l m D=>hK _ _ ?_;simp only[nrm];clear hK;refine ab ?_;refine wB ?_;have x:=L.o.size;have y:Hid (k.ownsRow w.heap.size 107 7 (si (some ⟨i,0,none⟩) (c+1+1) B) (c+1+1) (cJ (lP s (b.take (c+1))))):=lh (by
   have e:cJ (lP s (b.take c))++[ii ip 9,ij false,ij false,sj { data:=#[] },ii ip 0,sj { data:=#[] },ii ip (d:Int)]=cJ (lP s (b.take (c+1))):=(by unfold cJ lP;rw[eJ,z.o,tQ,xG,xG,vO,uF];rfl);rw[e]at h;exact wL h λd z=>by
    have e:i=d:=(by simpa[Value.ownBlock]using z);subst e;obtain d|d:=m;·exact sC J.o _ d
    omega)
  have d:Hid (Fr [] w k):=lh ((FrB.of l λi k=>sC J.o i (by simpa using k)).after (L.o.trans N.o) (tA _));clear h l m D r j;have k:Wi ip ((c:Int)+1)=((c+1:Nat):Int):=ak;go_wp2_with fail;go_roundg (n-(c+1))
  case measure=>omega
  case rel=>exact⟨c+1,by rw[f.o];omega,rfl,y.o,d.o⟩
 obtain rfl:c=n:=(by omega);have d:=J.o;rw[zF (by rw[f.o];omega)]at d;obtain⟨t,u,rfl,_,_⟩:=jA d;obtain⟨j,i,_⟩:=kH.of_own d 0;have h:li (lP s b)=c+1:=(by rw[kW,f.o]);have f:=lh (aMN (lP s b) A.o (by omega) (v:=si t (c+1) u) (g:=j) (by rw[h];exact i));clear d i h;go_wp2_with fail;refine f.o.mono ?_;rintro e j ⟨v8,rfl,c,d⟩;rw[mU]at c;obtain⟨l,m,rfl,_,_⟩:=jA c;obtain⟨q,f,i⟩:=jX rfl c d.size;have x:=L.o.size;have h:=lh (C.o _ _ ⟨_,rfl,⟨q,f,by omega⟩,L.o.trans d⟩);clear c d f i;go_wp2_with fail;exact h.o
theorem aGA:∀ {k:List UInt8},aft k≠[]->∃p c m,k=p++c::ji m 255/\c≠255
 | [],h=>absurd rfl h
 | a::k,h=>by
  by_cases f:aft k=[]
  ·by_cases b:a=255
   ·exact absurd (by show(if aft k=[] then (if a=255 then [] else [a+1]) else a::aft k)=[];rw[iA f,iA b]) h
   refine⟨[],a,li k,?_,b⟩;have j:∀ {k:List UInt8},aft k=[]->k=ji (li k) 255:=λ{k}=>by
    induction k with
    | nil=>exact λ_=>rfl
    | cons d k l=>
     intro g;have b:(if aft k=[] then (if d=255 then [] else [d+1]) else d::aft k)=[]:=g;by_cases g:aft k=[]
     ·rw[iA g]at b;by_cases i:d=255
      ·rw[bD,List.replicate_succ,<- l g,i]
      rw[eA i]at b;cases b
     rw[eA g]at b;cases b
   rw[nG,<- j f]
  obtain⟨p,c,m,e,b⟩:=aGA f;exact⟨a::p,c,m,by rw[e];rfl,b⟩
theorem aOb{w:World}{e:TypeId}{b n:Nat}{g cap:Nat}(h:w.ownsRow k e b (si g n cap) n F)(j:Nat)(u:Value)(_p:j<li F): (w.setCell ⟨g,j,none⟩ u).ownsRow k e b (si g n cap) n (F.set j u):=by
 refine⟨by rw[List.length_set];exact h.1,?_⟩;obtain⟨b,_⟩|⟨q,r,c,b,d,f,i,l,m,o⟩:=h.2;·cases b
 injection b with b s p;simp only[yG,Addr.mk.injEq]at b;obtain⟨rfl,_⟩:=b;subst p;refine Ij ⟨g,cap,c.setIfInBounds j u,rfl,d,?_,i,l,by simpa using m,?_⟩;·simp[World.setCell,Array.getElem?_modify,f]
 rw[<- o,Array.toList_setIfInBounds,List.take_set]
theorem aKx{w:World}{e:TypeId}{b n:Nat}{g cap:Nat}(h:w.ownsRow k e b (si g n cap) n F)(j:Nat):w.frozen? ⟨g,j,none⟩=false:=by
 obtain⟨b,_⟩|⟨d,f,i,b,l,c,m,o,p,q⟩:=h.2;·cases b
 injection b with b r s;simp only[yG,Addr.mk.injEq]at b;obtain⟨rfl,_⟩:=b;simp[World.frozen?,c]
theorem aIz{w:World}{v:Value}{bs:List UInt8}{g:Nat}(h:dA w v bs g)(m:li bs<=1099511627776): Calls prog 110 #[v] w λe d=>∃b,e=iz b/\d.ownsRow w.heap.size 5 1 b (li bs) (gA bs)/\Fr [] w d:=by
 have t:∀(w:World) (a:Option Addr) (f c:Nat),(binOp .eql 67 (si a f c) (si none 0 0)).run prog w=.ok (ij a.isNone) w:=λw a f c=>Lib.run_eql_slice_nil w _ _ a f c 0 0 Go.Proofs.Tryz.underlying67;obtain⟨f,c,y,rfl,z,i⟩:=h;have HB:=lh i;obtain⟨n,p,q,r,s⟩:=fF yN;cases f with
 | none=>
  have h0:bs=[]:=by
   cases bs with
   | nil=>rfl
   | cons A B=>have:=(HB.o (by simp)).1;cases this
  subst h0;go_enter func110,ntmps110;go_wp2;go_ret;exact⟨_,rfl,gD _ _ _ _,jj _ _⟩
 | some f=>
  have i:∀j u,(gA bs)[j]? = some u->w.cell? (f.add j)=some u:=λj u hj=>by exact Z48
  have k:∀j u,(gA bs)[j]? = some u->(f.add j).block<w.heap.size:=λj u hj=>xF w _ (i j u hj);have l:=lh i;have x:=lh k;go_enter func110,ntmps110;go_wp2_with ((at_builtin;refine wpList_append_own _ rfl _ _ 67 rfl w.heap.size 5 n (ii ix 0) 1 1 Go.Proofs.Tryz.underlying67 p q r s rfl (by omega) _ 0 [] rfl ?own f (li bs) c (gA bs) rfl (by rw[nA];omega) (λj u hj=>aA ((jj [] w).alloc _) (l.o j u hj)) (λu c=>mD _ u c) (by unfold maxLen;omega) (by omega) (by simp) ?_))
  case own=>exact World.ownsRow_made w #[] 0 (tA _) (by unfold maxLen;omega) rfl
  intro b d i f k;have c:Fr [] w d:=((jj [] w).alloc _).grown f (λg f=>Ij (by simp[Value.ownBlock]at f;omega));have f:d.ownsRow w.heap.size 5 1 b (li bs) (gA bs):=by simpa using i
  have d:=lh f;have f:=lh c;go_wp2;go_ret;exact⟨_,rfl,d.o,f.o⟩
theorem aPF{w:World}{v:Value}{bs:List UInt8}{g:Nat}(u:dA w v bs g)(Q:aft bs≠[])(G:li bs<=1000): Calls prog 77 #[v] w λe b=>∃a n c q,e=iz (si (some a) n c)/\dA b (si (some a) n c) (aft bs) q/\w.heap.size<=q/\Fr [] w b:=by
 refine cA λa0 F=>?_;obtain⟨p,d,m,l,r⟩:=aGA Q;have x:aft bs=p++[d+1]:=by rw[l,aRH r]
 obtain⟨X,c,h,rfl,E,C⟩:=id u;obtain⟨n,s⟩:∃n,li bs=n:=⟨_,rfl⟩;have y:n=li p+1+m:=by rw[<- s,l,iB,bD,kV];omega
 obtain⟨rfl,D⟩:=C (by omega);have t:∀f (i:UInt8),bs[f]? = some i->w.cell? ⟨g,h+f,none⟩=some (ii ix (i.toNat:Int)):=λf i b=>D f _ (by rw[sH,b];rfl);have A:∀f,li p<f->f<n->w.cell? ⟨g,h+f,none⟩=some (ii ix 255):=λf j a1=>t f 255 (by rw[l,mJ (by omega)];obtain⟨b,B⟩:∃b,f-li p=b+1:=⟨f-li p-1,by omega⟩;rw[B,List.getElem?_cons_succ,List.getElem?_replicate,iA (by omega)]);have B:w.cell? ⟨g,h+li p,none⟩=some (ii ix (d.toNat:Int)):=t (li p) d (by rw[l,mJ (tA _),mY];rfl);have⟨HV,U,V,HA,HX,HB⟩:=hh6 u A B x r l;rw[s]at E G⊢;have⟨HN,W⟩:=hh2 s y;have E:Hid ((n:Int)=((li p+m+1:Nat):Int)):=lh (by omega);clear u C D t A B x r l Q s y;go_enter func77,ntmps77;go_wp2_with fail;go_loopg [3] m (λf v3 wr=>∃b:Nat,b=li p+f/\v3=ii ip ((b+1:Nat):Int)/\f<=m/\Fr [] w wr);·exact⟨li p+m,rfl,by rw[E.o],tA _,jj _ _⟩
 obtain⟨b,f,rfl,Y,l⟩:=hrel;have⟨z,k⟩:=hh2 l f;clear l f;have f:b<n:=by have:=k.o;have:=W.o;omega
 have D:Wi ip (((b+1:Nat):Int)-1)=(b:Int):=ak;have E:(0:Int)<((b+1:Nat):Int):=by omega
 have G:(b:Int)<(n:Int):=by omega
 by_cases l:li p<b
 ·have t:wr.cell? ⟨g,h+b,none⟩=some (ii ix 255):=by
   have j:=U.o b l f;exact(z.o.cell (p:=⟨g,h+b,none⟩) (xF w _ j) (by simp)).trans j
  go_wp2_with fail;go_roundg (b-1-li p)
  case measure=>have:=k.o;omega
  case rel=>exact⟨b-1,by have:=k.o;omega,by rw[show b-1+1=b by omega],by have:=k.o;omega,z.o⟩
 have l:li p=b:=(by have:=k.o;omega);have f:=lh l;have t:wr.cell? ⟨g,h+b,none⟩=some (ii ix (d.toNat:Int)):=by have j:=V.o;rw[l]at j;exact(z.o.cell (p:=⟨g,h+b,none⟩) (xF w _ j) (by simp)).trans j
 have L:((d.toNat:Int)==255)=false:=(by rw[lE];intro s;exact HX.o (xP.1 (by show d.toNat=255;omega)));have M:(((b+1:Nat):Int)==0)=false:=(by rw[lE];omega);have j:=(HV.o.fr z.o).sub 0 (b+1) (by rw[HN.o];omega);have m:Hid (dA wr (si (some ⟨g,h,none⟩) (b+1) c) (p++[d]) g):=lh (by
  have u:(bs.drop 0).take (b+1)=p++[d]:=by rw[List.drop_zero,HB.o,List.take_append,f.o,zF (by omega),show b+1-b=1 by omega];rfl
  have x:(if c=0 then (some ⟨g,h,none⟩:Option Addr) else (some ⟨g,h,none⟩:Option Addr).map (·.add 0))=some ⟨g,h,none⟩:=by rw[eA (by omega)];simp[Go.Addr.add_mid]
  rw[u,x]at j;exact j)
 have y:=aHH Go.Proofs.Tryz.underlying67 iM (some ⟨g,h,none⟩) n c (b+1) ip (by omega);have u:=lh (aIz m.o (by rw[iB,f.o];simp;omega));clear l j;go_wp2_with fail;refine u.o.mono ?_;rintro e j ⟨v2,rfl,h,m⟩;have l:li (p++[d])=b+1:=(by rw[iB,f.o];rfl);rw[l]at h;obtain⟨Z,C,rfl,R,_⟩:=jA h;obtain⟨q,rfl,x⟩:=tD h (by omega);have N:j.cell? ⟨q,b,none⟩=some (ii ix (d.toNat:Int)):=x b _ (by rw[sH,mJ (by rw[f.o];exact tA _),f.o,mY];rfl);have⟨H,I,J⟩:=hh3 h (z.o.trans m) l;have A:Hid (wr.heap.size<=j.heap.size):=lh m.size;have O:=aKx h b;have B:IntKind.u8.wrap ((d.toNat:Int)+1)=((d+1).toNat:Int):=(by have P:=d.toNat_lt;have S:d.toNat≠255:=λs=>HX.o (xP.1 s);rw[jL,UInt8.toNat_add,show(1:UInt8).toNat=1 from rfl];omega);obtain⟨i,s⟩:∃i,((d+1).toNat:Int)=i:=⟨_,rfl⟩;rw[s]at B;have B:=lh s;have T:(b:Int)<((b+1:Nat):Int):=(by omega);clear x h m u y l t s;go_wp2_with fail;have h:=aOb H.o b (ii ix i) (by rw[nA,J.o];omega);have l:(gA (p++[d])).set b (ii ix i)=gA (p++[d+1]):=by rw[fD,fD,List.set_append,eA (by rw[nA,f.o];omega),nA,f.o,mY,<- B.o];rfl
 rw[l]at h;have l:Fr [] w (j.setCell ⟨q,b,none⟩ (ii ix i)):=(FrB.of ((jj [q] j).setCell (Ii (by simp)) _) λd r=>by obtain rfl:=xA.1 r;exact sC H.o _ rfl).after I.o z.o.size;have r:=l.size;obtain⟨i,j,m⟩:=jX (bs:=p++[d+1]) (by rw[iB,f.o];rfl) h (by simp only[World.size_setCell];exact I.o.size |> λ_=>A.o);exact F.o _ _ ⟨⟨q,0,none⟩,b+1,C,i,rfl,by rw[HA.o];exact j,vD z.o.size m,l⟩
end
section
open Go.RowKit Go.ChangeMaps Go.MapKept Go.Maps Go.Sort Go.Shelf
structure CtX (w0 w:World) (dk g st ca:Nat) (x:SE) (X:Nat->Prop):Prop where
 sx:StX w0 w dk g st x.s X x.E
 blk:Blk w ca 79 [.pointer (some ⟨g,0,none⟩),.pointer (some ⟨st,0,none⟩)]
 xc:X ca
section
variable {w0 w:World}{dk g st ca:Nat}{x x':SE}{X Y:Nat->Prop}
theorem CtX.lt(h:CtX w0 w dk g st ca x X):∀q,X q->q<w:=by obtain⟨_,_,_,_,_,_,_,b⟩:=h.sx.px;exact b
theorem CtX.fr(h:CtX w0 w dk g st ca x X)(b:Fr [] w w'):CtX w0 w' dk g st ca x (yC X w w'):=⟨h.sx.fr b,h.blk.fr b,Ii h.xc⟩
theorem CtX.stay(h:CtX w0 w dk g st ca x X)(b:Fr [] w w'):CtX w0 w' dk g st ca x X:=⟨h.sx.stay b,h.blk.fr b,h.xc⟩
theorem CtX.kept(h:CtX w0 w dk g st ca x X)(b:StX w0 w' dk g st x'.s X x'.E)(c:Kp X w w'):CtX w0 w' dk g st ca x' X:=⟨b,c.blk h.blk h.xc,h.xc⟩
theorem CtX.frame(h:CtX w0 w dk g st ca x X):Fr [] w0 w:=h.sx.px.frame
theorem kN(b:Array Value)(w:World):(callFunc 45 b).run prog w=.ok (.enter 45 b) w:=by kernel_rfl
theorem aPG(b:Array Value)(w:World):(callFunc 76 b).run prog w=.ok (.enter 76 b) w:=by kernel_rfl
theorem aRO(E:En)(k:Ky):(rR E k).isSome=dU E k:=by unfold rR dU;rw[Option.isSome_map,lO,List.find?_isSome,List.any_eq_true]
noncomputable def isC (x:SE) (s:ByteArray):Int:=if isS x (bA s)=true then 0 else 6
theorem lW(h:CtX w0 w dk g st ca x X)(U:li (x.E 1)<=1000000)(s:ByteArray):RV 43 #[pi ca,sj s] w (ii ip (isC x s)):=by
 refine cA λF k=>?_;have i:=lh (aGz (w:=w) s);obtain⟨c,b⟩:∃c,isC x s=c:=⟨_,rfl⟩;rw[b]at k;have j:Hid ((if (nmB (bA s)&&dU (x.E 1) (nmK (bA s)))=true then (0:Int) else 6)=c):=lh b;cases n:nmB (bA s) with
 | false=>rw[n]at i j;have m:Hid ((6:Int)=c):=lh j.o;go_enter func43,ntmps43;go_wp2_with fail;refine i.o.mono ?_;rintro e b ⟨rfl,d⟩;have f:=lh (k.o (iz (ii ip 6)) b ⟨by rw[m.o],d⟩);go_wp2_with fail;exact f.o
 | true=>
  have p:=mG n;have B:=yA s;rw[n]at i j;have m:Hid ((if dU (x.E 1) (nmK (bA s))=true then (0:Int) else 6)=c):=lh (by have:=j.o;simpa using this);have q:=lh (λn:World=>mP (w:=n) s [] p.1 (by omega) (by simp) (by simp) (v:=si none 0 0) (g:=0) (kH.nil _ _ _));have j:li (zB (bA s) [])<=96/\1<=li (zB (bA s) []):=by rw[qI];simp;omega
  go_enter func43,ntmps43;go_wp2_with fail;refine i.o.mono ?_;rintro e b ⟨rfl,d⟩;have p:=(h.blk.fr d).a 1;go_upto_region 3 with fail;have i:b.drew.cell? ⟨ca,1,none⟩=some (pi st):=p;refine aj (λn=>n.cell? ⟨ca,1,none⟩=some (pi st)/\True) [0,1,2,3,4,7,8,9,10] ?_;refine tks [0,1,2,3,4] ?_;iterate 5 (refine ac ⟨i,trivial⟩ ?_)
  refine tke ?_;refine ag 5 λK hK=>kA (l:=[.tmp 16,.const (si none 0 0)]) rfl [sj s,si none 0 0] rfl (kN _) ((q.o _).mono ?_);rintro e n ⟨u,rfl,⟨y,r,z⟩,q⟩;have i:Fr [] b n:=((jj [] b).drew).trans q;have q:=aA i p;refine⟨_,rfl,hK _ _ (λ_=>⟨q,trivial⟩) ?_⟩;simp only[nrm];have p:y<n:=by obtain⟨_,_,_,_,_,y⟩:=id r;obtain⟨_,A⟩:=y (by have:=j;omega);exact xF n _ (A 0 _ (kE (by rw[nA];have:=j;omega)))
  have⟨C,D⟩:=hh2 (Get_X ((h.fr (d.trans i)).sx) (t:=1) (by omega) r (Ij ⟨by have:=d.size;exact vD (vD this (show b.heap.size<=b.drew.heap.size from tA _)) z,p⟩) j.2 j.1 (by have:=U;omega)) (d.trans i);refine ag 6 λK hK=>kA (l:=[.tmp 15,.const (ii ip 1),.tmp 17]) rfl [pi st,ii ip ((1:Nat):Int),u] rfl (aPG _) (C.o.mono ?_);rintro e j ⟨p,rfl,r,i⟩;have b:=aA i q;refine⟨_,rfl,hK _ _ (λ_=>⟨b,trivial⟩) ?_⟩;simp only[nrm];refine tks [7,8,9,10] ?_;iterate 4 (refine ac ⟨b,trivial⟩ ?_)
  refine tke ?_;refine af 11 (λ_=>⟨b,trivial⟩) ?_;refine af 12 (λ_=>⟨b,trivial⟩) ?_;refine af 13 (λ_=>⟨b,trivial⟩) ?_;refine wd ?_ _;have d:=lh (D.o.trans i);obtain⟨b,n⟩:∃b,(rR (x.E 1) (zB (bA s) [])).isSome=b:=⟨_,rfl⟩;have i:(if b=true then (0:Int) else 6)=c:=by rw[<- n,aRO,<- uM];exact m.o
  rw[n];cases b with
  | true=>have f:=lh (k.o (iz (ii ip 0)) j ⟨by rw[<- i];rfl,d.o⟩);go_wp2_with fail;exact f.o
  | false=>have f:=lh (k.o (iz (ii ip 6)) j ⟨by rw[<- i];rfl,d.o⟩);go_wp2_with fail;exact f.o
theorem aKy(b:Array Value)(w:World):(callFunc 40 b).run prog w=.ok (.enter 40 b) w:=by kernel_rfl
theorem aKz(b:Array Value)(w:World):(callFunc 77 b).run prog w=.ok (.enter 77 b) w:=by kernel_rfl
theorem fH.imp{D D':Nat->Prop}{w:World}(b:∀q,D q->D' q):∀ {E:En} {cs:List Value},fH D w E cs->fH D' w E cs
 | [],[],h=>h
 | _::_,_::_::_,⟨⟨⟨g1,a1,b1⟩,⟨g2,a2,b2⟩⟩,h⟩=>⟨⟨⟨g1,a1,b _ b1⟩,⟨g2,a2,b _ b2⟩⟩,fH.imp b h⟩
def aRP (X:Nat->Prop) (L:En) (w:World) (e:Ending) (w':World):Prop:=
 ∃ov cs,e=.returned (.tuple #[ov,.int .i64 0])/\w'.ownsRow w.heap.size 100 2 ov L.length cs/\fH (fun q=>X q∨w.heap.size<=q) w' L cs/\Fr [] w w'
theorem aBX(h:CtX w0 w dk g st ca x X)(T:sI (x.E 0))(U:li (x.E 0)<=1000000){kv:Value}{k:Ky}{q:Nat}(b:dA w kv k q)(c:X q)(i:aft k≠[])(j:li k<=1000): Calls prog 44 #[pi (some ⟨ca,0,none⟩),kv] w (aRP X (eD (x.E 0) k) w):=by
 refine cA λP N=>?_;obtain⟨u,v,_,rfl,_,_⟩:=id b;have⟨H,Y,Z,L,A,M⟩:=hh6 h U T b c i;have d:=h.blk.a 1;clear h U T b c i;go_enter func44,ntmps44;go_upto_region 1 with fail;have b:w.drew.cell? ⟨ca,1,none⟩=some (pi (some ⟨st,0,none⟩)):=d;have n:Fr [] w w.drew:=(jj [] w).drew;refine aj (λi=>i.cell? ⟨ca,1,none⟩=some (pi (some ⟨st,0,none⟩))/\True) [0,1,2,3,4,5,8,9] ?_;refine tks [0,1,2,3,4,5] ?_;iterate 6 (refine ac ⟨b,trivial⟩ ?_)
 refine tke ?_;refine ag 6 λK hK=>kA (l:=[.tmp 11]) rfl [si u (li k) v] rfl (aKz _) ((aPF (L.o.fr n) M.o j).mono ?_);rintro e i ⟨y,z,B,j,rfl,m,F,G⟩;have b:Fr [] w i:=n.trans G;have n:=aA b d;refine⟨_,rfl,hK _ _ (λ_=>⟨n,trivial⟩) ?_⟩;simp only[nrm];clear hK;have p:=Y.o;have d:aft k≠[]:=M.o;have r:j<i.heap.size:=by obtain⟨_,_,_,O,_,I⟩:=id m;have s:0<li (aft k):=List.length_pos_iff.2 d;obtain⟨_,J⟩:=I s;exact xF i _ (J 0 _ (kE (by rw[nA];exact s)))
 have i:w.heap.size<=j:=F;have⟨C,D,f⟩:=hh3 (aOa (H.o.fr b).sx (t:=0) (by omega) (low:=k) (up:=some (aft k)) (most:=9223372036854775807) (L.o.fr b) (Ii A.o) ⟨y,z,B,j,rfl,m,Ij ⟨i,r⟩⟩ (by omega) p) (aRL Z.o d (by omega)) b;clear m F G b r i d p;refine ag 7 λK hK=>kA (l:=[.tmp 9,.const (ii ip 0),.tmp 10,.tmp 12,.const (ii ip 9223372036854775807)]) rfl [pi (some ⟨st,0,none⟩),ii ip ((0:Nat):Int),si u (li k) v,si y z B,ii ip ((9223372036854775807:Nat):Int)] rfl (aKy _) (C.o.mono ?_);rintro e p ⟨j,r,rfl,d,i,m⟩;rw[D.o]at d i;have b:=aA m n;refine⟨_,rfl,hK _ _ (λ_=>⟨b,trivial⟩) ?_⟩;simp only[nrm];clear hK;have n:=lh (N.o (iz (tl #[j,ii ip 0])) p ⟨j,r,rfl,wL (gF d) (λq c=>vD f.o.size (sC d q c)),fH.imp (λq c=>by
  obtain(c|c)|c:=c;·exact Ii c
  ·exact Ij c.1
  exact Ij (vD f.o.size c)) i,f.o.trans m⟩)
 clear d i;refine tks [8,9] ?_;iterate 2 (refine ac ⟨b,trivial⟩ ?_)
 refine tke ?_;refine af 10 (λ_=>⟨b,trivial⟩) ?_;refine af 11 (λ_=>⟨b,trivial⟩) ?_;refine wd ?_ _;go_wp2_with fail;exact n.o
theorem CtX.weak(h:CtX w0 w dk g st ca x X)(b:∀q,Y q->X q)(h1:Y st)(h2:Y ca):CtX w0 w dk g st ca x Y:=⟨⟨h.sx.px.weak b,h.sx.blk,h1,h.sx.br,h.sx.calm,h.sx.store⟩,h.blk,h2⟩
theorem aGB(h:CtX w0 w dk g st ca x X){t:Nat}(ht:t<8){kv:Value}{key:Ky}(m:dA w kv key n)(j:X n)(h1:1<=li key)(h2:li key<=96)(o:li (x.E t)<=1000000): Calls prog 86 #[pi st,t,kv] w λe c=>(∃b,e=iz (tl #[ij b,ii ip (delS x t key).2]))/\CtX w0 c dk g st ca (delS x t key).1 X/\Wr x.s (delS x t key).1.s/\Kp X w c:=by
 refine(aRo h.sx ht m j h1 h2 (by omega)).mono ?_;rintro e c ⟨k,l,c,⟨rfl,f,i⟩|⟨rfl,rfl,f,_,i⟩⟩;·have d:delS x t key=(⟨k,oE x.E t (zH (x.E t) key)⟩,0):=i;rw[d];exact⟨⟨_,rfl⟩,h.kept (x':=⟨k,oE x.E t (zH (x.E t) key)⟩) f c,l,c⟩
 have d:delS x t key=(x,5):=i;rw[d];exact⟨⟨_,rfl⟩,h.kept f c,l,c⟩
theorem aMO(h:CtX w0 w dk g st ca x X){t:Nat}(ht:t<8){kv vv:Value}{key v:Ky}(c:dA w kv key n)(i:X n)(p:dA w vv v k)(j:X k)(h1:1<=li key)(h2:li key<=96)(h3:li v<=64)(q:li (x.E t)<=1000000): Calls prog 85 #[pi st,t,kv,vv] w λe b=>e=iz (ii ip (putS x t key v).2)/\CtX w0 b dk g st ca (putS x t key v).1 X/\Wr x.s (putS x t key v).1.s/\Kp X w b:=by
 refine(Put_F h.sx ht c i p j h1 h2 h3 (by omega)).mono ?_;rintro e b ⟨l,m,b,⟨rfl,d,f⟩|⟨rfl,rfl,d,_,f⟩⟩;·have c:putS x t key v=(⟨l,oE x.E t (tI (x.E t) key v)⟩,0):=f;rw[c];exact⟨rfl,h.kept (x':=⟨l,oE x.E t (tI (x.E t) key v)⟩) d b,m,b⟩
 have c:putS x t key v=(x,5):=f;rw[c];exact⟨rfl,h.kept d b,m,b⟩
theorem aPH(L:En)(e:Ky×List UInt8)(r:SE×Int):cutL (L++[e]) r=if (cutL L r).2=0 then delS (cutL L r).1 0 e.1 else cutL L r:=by unfold cutL;rw[List.foldl_append];rfl
theorem aAL(b:Array Value)(w:World):(callFunc 86 b).run prog w=.ok (.enter 86 b) w:=by kernel_rfl
theorem nU:(prog.info? 100).map (·.size)=some 2:=by kernel_rfl
theorem oU:(prog.info? 100).map (·.zero)=some (some (il #[si none 0 0,si none 0 0])):=by kernel_rfl
def aRQ (w0:World) (dk g st ca:Nat) (x:SE) (X:Nat->Prop) (k:Ky) (w:World) (e:Ending) (w':World):Prop:=
 e=.returned (.tuple #[.int .i64 ((eD (x.E 0) k).length:Int),.int .i64 (cutS x k).2])/\CtX w0 w' dk g st ca (cutS x k).1 X/\Wr x.s (cutS x k).1.s/\Kp X w w'
def CuRel (w0 wb:World) (dk g st ca:Nat) (x:SE) (Y:Nat->Prop) (L:En) (j:Nat) (v7 v18:Value) (wr:World):Prop:=
 ∃k:Nat,k+j=L.length/\v18=.int .i64 (k:Int)/\v7=.int .i64 (cutL (L.take k) (x,0)).2/\CtX w0 wr dk g st ca (cutL (L.take k) (x,0)).1 Y/\Wr x.s (cutL (L.take k) (x,0)).1.s/\Kp Y wb wr
theorem aCR(h:CtX w0 w dk g st ca x X){N:Nat}(c:mE N x.E)(v:N<=900000)(C:∀e∈x.E 0,1<=li e.1/\li e.1<=96){kv:Value}{k:Ky}{q:Nat}(m:dA w kv k q)(p:X q)(y:aft k≠[])(z:li k<=1000): Calls prog 84 #[pi (some ⟨ca,0,none⟩),kv] w (aRQ w0 dk g st ca x X k w):=by
 refine cA λb6 B=>?_;have⟨H,d3,HN⟩:=hh3 h c v;have s:Hid (∀e∈eD (x.E 0) k,1<=li e.1/\li e.1<=96):=lh λe i=>C e (yS.1 i).1;have b:=lh (aBX h (c.rise 0) (by have:=c.few 0;omega) m p y z);obtain⟨b0,J,_,rfl,_,_⟩:=id m;have n:cutS x k=cutL (eD (x.E 0) k) (x,0):=rfl;have j:=lh n;have D:Hid (li (eD (x.E 0) k)<=900000):=lh (by have a7:=c.few 0;have a8:li (eD (x.E 0) k)<=li (x.E 0):=pO ..;omega);unfold aRQ at B;obtain⟨d,u⟩:∃d,eD (x.E 0) k=d:=⟨_,rfl⟩;rw[u]at b s j D B;rw[j.o]at B;clear h c C m p y z n u j v;go_enter func84,ntmps84;go_wp2_with fail;refine b.o.mono ?_;rintro e j ⟨b1,b2,rfl,m,i,n⟩;obtain⟨b3,b4,rfl,_,_⟩:=jA m;have⟨d4,HO,HE,d5⟩:=hh4 (H.o.fr n) m i n;clear m i n b;obtain⟨m,b⟩:∃m,li d=m:=⟨_,rfl⟩;rw[b]at HO D⊢;have n:=lh b;clear b;go_wp2_with fail;go_loopg [7,18] m (λA v7 v18 wr=>CuRel w0 j dk g st ca x (yC X w j) d A v7 v18 wr);·exact⟨0,by rw[n.o];omega,rfl,rfl,d4.o,Wr.refl _,Kp.of (jj _ _)⟩
 obtain⟨b,z,rfl,rfl,u,v,y⟩:=hrel;rw[n.o]at z;have⟨HC,HW,r⟩:=hh3 u v y;clear u v y;have T:Hid (mE N (cutL (d.take b) (x,0)).1.E):=lh (mE.cutL _ d3.o);have v:∀e,d[b]? = some e->cutL (d.take (b+1)) (x,0)=if (cutL (d.take b) (x,0)).2=0 then delS (cutL (d.take b) (x,0)).1 0 e.1 else cutL (d.take b) (x,0):=λe i=>by rw[eJ,i];exact aPH _ _ _
 have y:=lh v;have F:Hid (cutL (d.take m) (x,0)=cutL d (x,0)):=lh (by rw[zF (by rw[n.o];exact tA _)]);clear v;by_cases v:b<m
 ·obtain⟨M,O⟩:∃M,cutL (d.take b) (x,0)=M:=⟨_,rfl⟩;rw[O]at HC HW T y⊢;obtain⟨e,i⟩:∃e,d[b]? = some e:=gx (by rw[n.o];exact v);have⟨b8,I⟩:=hh2 (y.o e i) (s.o e (kF i));obtain⟨s,rfl,P⟩:=tD HO.o (by omega);obtain⟨v,v1,R,a0,⟨d,z,a1⟩,⟨b5,a2,a4⟩⟩:=fH.at_ HE.o i;have U:w.heap.size<=s:=sC HO.o _ rfl;have V:s<j.heap.size:=aG HO.o _ rfl;have G:yC X w j s:=Ij ⟨U,V⟩;have J:wr.cell? ⟨s,b*2,none⟩=some v:=r.o.cell (P _ _ R) G;have W:wr.cell? ⟨s,b*2+1,none⟩=some v1:=r.o.cell (P _ _ a0) G;have Z:d<j.heap.size:=by
   obtain⟨_,_,_,_,_,u⟩:=id z;obtain⟨_,u⟩:=u (by have:=I.o;omega);exact xF j _ (u 0 _ (kE (by rw[nA];have:=I.o;omega)))
  have L:yC X w j d:=a1.imp id λh=>⟨h,Z⟩;have⟨d6,d7⟩:=hh2 (r.o.bytes z L) L;obtain⟨u,v,_,rfl,_,_⟩:=id z;obtain⟨Q,S,_,rfl,_,_⟩:=id a2;have a3:Hid (wr.rangeAt s (b*2) [si u (li e.1) v,si Q (li e.2) S]):=lh (by
   intro A a5 d;match A,d with
   | 0,d=>obtain rfl:=tE d;exact J
   | 1,d=>obtain rfl:=tE d;exact W
   | A+2,d=>simp at d)
  have a9:(b:Int)<(m:Int):=(by omega);have a':=lh O;clear P R a0 z a1 a2 a4 U V G J W Z L i O y F;go_upto_region 4 with fail;refine sB ?_;refine ab ?_;refine lp λK hK=>xQ 100 (.tmp 20) rfl s (b*2) rfl [si u (li e.1) v,si Q (li e.2) S] _ a3.o Tryz.underlying100 rfl (by kernel_rfl) (hK _ _ ?_);simp only[nrm];clear hK;refine lp λK hK=>gB 100 rfl (il #[si none 0 0,si none 0 0]) [si none 0 0,si none 0 0] oU rfl λa1 s z A=>hK _ _ ?_;simp only[nrm];clear hK;obtain⟨J,i⟩:=nm (wr.heap.size);rw[<- i]at s⊢;have⟨b',d9,e8,d'⟩:=hh4 i z A s;clear i z A s;refine lp λK hK=>pA 100 (.tmp 9) (.tmp 21) rfl [si u (li e.1) v,si Q (li e.2) S] rfl rfl d'.o nU rfl (by intro a5 d;simp only[bB,kC,dC]at d;rcases d with rfl|rfl<;>rfl) λd s z A=>hK _ _ ?_;simp only[Act.put];clear hK;have P:=lh s;have i:Hid (Fr [] wr d):=lh (d9.o.trans z λq p=>Ij (by rw[xA.1 p,b'.o];exact tA _));clear s z A;refine wB ?_;have Z:Wi ip ((b:Int)+1)=((b+1:Nat):Int):=(by have:=D.o;rw[yB];omega);obtain⟨W,V⟩:=M;by_cases z:V=0
  ·subst z;have A:=lh (HC.o.fr i.o);have Q:=A.o.blk.a 1;have S:=P.o.a 0;go_upto_region 6 with fail;have D:d.drew.cell? ⟨ca,1,none⟩=some (pi (some ⟨st,0,none⟩)):=Q;have G:d.drew.cell? ⟨J,0,none⟩=some (si u (li e.1) v):=S;have s:Fr [] d d.drew:=(jj [] d).drew;have U:=lh (aGB (A.o.stay s) (t:=0) (by omega) ((d6.o.fr i.o).fr s) (Ii d7.o) I.o.1 I.o.2 (vD (T.o.few 0) (by have:=HN.o;omega)));refine aj (λL=>L.cell? ⟨ca,1,none⟩=some (pi (some ⟨st,0,none⟩))/\L.cell? ⟨J,0,none⟩=some (si u (li e.1) v)) [0,1,2,3,4,5,7,8,9] ?_;refine tks [0,1,2,3,4,5] ?_;iterate 6 (refine ac ⟨D,G⟩ ?_)
   refine tke ?_;refine ag 6 λK hK=>kA (l:=[.tmp 28,.const (ii ip 0),.tmp 30]) rfl [pi (some ⟨st,0,none⟩),ii ip ((0:Nat):Int),si u (li e.1) v] rfl (aAL _) (U.o.mono ?_);rintro T R ⟨⟨a0,rfl⟩,L,M,O⟩;have J:=Kp.less O (X:=yC (yC X w j) wr d) (λq p=>p);have u:=J.cell D A.o.xc;have v:=J.cell G (Ij ⟨by rw[b'.o];exact tA _,P.o.lt⟩);refine⟨_,rfl,hK _ _ (λ_=>⟨u,v⟩) ?_⟩;simp only[nrm];clear hK;refine tks [7,8,9] ?_;iterate 3 (refine ac ⟨u,v⟩ ?_)
   refine tke ?_;refine af 10 (λ_=>⟨u,v⟩) ?_;refine wd ?_ _;obtain⟨d,P⟩:∃d,delS W 0 e.1=d:=⟨_,rfl⟩;have d:=b8.o;rw[iA rfl]at d;rw[P]at L M d⊢;have⟨f,a6,e0⟩:=hh3 d (L.weak (λq p=>Ii p) (Y:=yC X w j) (Ii H.o.sx.xs) (Ii H.o.xc)) (HW.o.trans M);have A:=lh (r.o.more ((Kp.of i.o).more ((Kp.of s).more (Kp.less O (X:=yC X w j) λq p=>Ii p))));clear L M O J u v d P Q S D G s U;go_wp2_with fail;go_roundg (m-(b+1))
   case measure=>omega
   case rel=>exact⟨b+1,by rw[n.o];omega,rfl,by rw[f.o],by rw[f.o];exact a6.o,by rw[f.o];exact e0.o,A.o⟩
  have j:(V==0)=false:=(by rw[lE];exact z);have d:=b8.o;rw[eA z]at d;have⟨f,a6,A⟩:=hh3 d ((HC.o.stay i.o)) (r.o.more (Kp.of i.o));clear d z;go_wp2_with fail;go_roundg (m-(b+1))
  case measure=>omega
  case rel=>exact⟨b+1,by rw[n.o];omega,rfl,by rw[f.o],by rw[f.o];exact a6.o,by rw[f.o];exact HW.o,A.o⟩
 obtain rfl:b=m:=(by omega);rw[F.o]at HC HW⊢;have b:=lh (B.o _ _ ⟨rfl,HC.o.weak (λq p=>Ii p) H.o.sx.xs H.o.xc,HW.o,(Kp.of d5.o).more (Kp.less r.o λq p=>Ii p)⟩);rw[n.o]at b;clear y F;go_wp2_with fail;exact b.o
end
theorem Rep.keys{E:Nat->En}{c:Ct}(h:Rep E c):∀e∈E 0,1<=li e.1/\li e.1<=96:=λe b=>by obtain⟨d,f,g,_,b⟩:=(h.e0 e).1 b;obtain⟨i,_,rfl⟩:=eO.1 b;have:=(mG (h.ok.name d f)).2;simp only[qI,bD,List.length_nil];omega
def tJ (w0:World) (dk g st ca:Nat) (x:SE) (X:Nat->Prop) (r:SE×Int) (w:World) (e:Ending) (w':World):Prop:=
 e=.returned (.int .i64 r.2)/\CtX w0 w' dk g st ca r.1 X/\Wr x.s r.1.s/\Kp X w w'
theorem mW(b:Array Value)(w:World):(callFunc 85 b).run prog w=.ok (.enter 85 b) w:=by kernel_rfl
theorem sF{w:World}{v:Value}{bs:List UInt8}{q:Nat}(h:dA w v bs q)(h0:0<li bs):q<w:=by obtain⟨_,_,_,_,_,b⟩:=h;obtain⟨_,b⟩:=b h0;exact xF w _ (b 0 _ (kE (by rw[nA];exact h0)))
section
variable {w0 w:World}{dk g st ca:Nat}{x:SE}{X:Nat->Prop}
theorem tJ.none{w1:World}{n:Int}(h:CtX w0 w dk g st ca x X)(b:Fr [] w w1):tJ w0 dk g st ca x X (x,n) w (iz (ii ip n)) w1:=⟨rfl,h.stay b,Wr.refl _,Kp.of b⟩
theorem aRR(h:CtX w0 w dk g st ca x X){N:Nat}(s:mE N x.E)(q:N<=900000)(d c:Int)(cs f:ByteArray): Calls prog 59 #[pi (some ⟨ca,0,none⟩),il #[ii ip d,sj cs,ii ip c,sj f]] w (tJ w0 dk g st ca x X (aAK x (bA cs)) w):=by
 refine cA λJ p=>?_;have⟨H,HN,I⟩:=hh3 h q s;obtain⟨k,b⟩:=nm (w.alloc (iy #[ii ip d,sj cs,ii ip c,sj f] 65));have m:Fr [] w k:=by rw[b];exact(jj [] w).alloc _
 have j:Blk k w.heap.size 65 [ii ip d,sj cs,ii ip c,sj f]:=by rw[b];exact jl w _ [ii ip d,sj cs,ii ip c,sj f]
 have⟨L,a2,i⟩:=hh3 m j (aGz (w:=k) cs);obtain⟨k,c⟩:∃k,aAK x (bA cs)=k:=⟨_,rfl⟩;rw[c]at p;have n:=lh c;clear h s m c q;go_enter func59,ntmps59;go_upto_region 1 with fail;rw[<- b];have z:=j.a 1;clear b j;cases f:nmB (bA cs) with
 | false=>
  rw[f]at i;have j:k=(x,1):=by rw[<- n.o];unfold aAK;rw[f];rfl
  have c:=lh j;clear f n j;go_wp2_with fail;refine i.o.mono ?_;rintro e D ⟨rfl,b⟩;have m:=lh (p.o (iz (ii ip 1)) D (by rw[c.o];exact tJ.none H.o (L.o.trans b)));clear b;go_wp2_with fail;exact m.o
 | true=>
  have u:=mG f;have F:=yA cs;rw[f]at i;have j:k=if dU (x.E 1) (nmK (bA cs))=true then (x,7) else putS x 1 (nmK (bA cs)) []:=by rw[<- n.o];unfold aAK;rw[f];simp only[yR,eF]
  have A:isC x cs=if dU (x.E 1) (nmK (bA cs))=true then 0 else 6:=by unfold isC isS;rw[f,Bool.true_and]
  have⟨c,y,Q⟩:=hh3 j A (λq:World=>mP (w:=q) cs [] u.1 (by omega) (by simp) (by simp) (v:=si none 0 0) (g:=0) (kH.nil _ _ _));have C:li (nmK (bA cs))<=96/\1<=li (nmK (bA cs)):=by rw[uM,qI];simp;omega
  have r:=lh C;rw[<- uM]at Q;clear f n u C F j A;go_wp2_with fail;refine i.o.mono ?_;rintro e D ⟨rfl,b⟩;have⟨HF,HB⟩:=hh2 (L.o.trans b) (a2.o.fr b);have z:=HB.o.a 1;have f:=lh (lW (H.o.stay HF.o) (by have:=I.o.few 1;have:=HN.o;omega) cs);rw[y.o]at f;clear b i;cases n:dU (x.E 1) (nmK (bA cs)) with
  | true=>rw[n]at f c;have u:Hid (k=(x,7)):=lh (by have:=c.o;simpa using this);simp only[vG]at f;clear n c y;go_wp2_with fail;refine f.o.mono ?_;rintro e j ⟨rfl,b⟩;have m:=lh (p.o (iz (ii ip 7)) j (by rw[u.o];exact tJ.none H.o (HF.o.trans b)));clear b;go_wp2_with fail;exact m.o
  | false=>
   rw[n]at f c;have u:Hid (k=putS x 1 (nmK (bA cs)) []):=lh (by have:=c.o;simpa using this);simp only[nH,eF]at f;clear n c y;go_wp2_with fail;refine f.o.mono ?_;rintro e j ⟨rfl,b⟩;have⟨B,T⟩:=hh2 (HF.o.trans b) (HB.o.fr b);have k:=T.o.a 1;have n:=(H.o.stay B.o).blk.a 1;clear b f z;go_upto_region 9 with fail;have b:j.drew.cell? ⟨ca,1,none⟩=some (pi (some ⟨st,0,none⟩)):=n;have c:j.drew.cell? ⟨w.heap.size,1,none⟩=some (sj cs):=k;refine aj (λq=>q.cell? ⟨ca,1,none⟩=some (pi (some ⟨st,0,none⟩))/\q.cell? ⟨w.heap.size,1,none⟩=some (sj cs)) [0,1,2,3,4,5] ?_;refine tks [0,1,2,3,4,5] ?_;iterate 6 (refine ac ⟨b,c⟩ ?_)
   refine tke ?_;refine ag 6 λK hK=>kA (l:=[.tmp 25,.const (si none 0 0)]) rfl [sj cs,si none 0 0] rfl (kN _) ((Q.o _).mono ?_);rintro e D ⟨G,rfl,⟨q,z,b⟩,F⟩;have c:Fr [] j D:=((jj [] j).drew).trans F;have A:=aA c n;have f:=aA c k;refine⟨_,rfl,hK _ _ (λ_=>⟨A,f⟩) ?_⟩;simp only[nrm];clear hK;have C:=sF z (by have:=r.o;omega);have k:=B.o.trans c;have n:=lh (H.o.fr k);have⟨a5,V⟩:=hh2 (aMO n.o (t:=1) (by omega) z (Ij ⟨vD B.o.size (show j.heap.size<=q from b),C⟩) (dA.nil D ca) n.o.xc r.o.2 r.o.1 (by simp) (by have:=I.o.few 1;have:=HN.o;omega)) k;clear z b F c C k;refine ag 7 λK hK=>kA (l:=[.tmp 23,.const (ii ip 1),.tmp 26,.const (si none 0 0)]) rfl [pi (some ⟨st,0,none⟩),ii ip ((1:Nat):Int),G,si none 0 0] rfl (mW _) (a5.o.mono ?_);rintro e C ⟨rfl,r,z,c⟩;have j:=c.cell A n.o.xc;have k:=c.cell f (Ij ⟨tA _,by have:=T.o.lt;have:=V.o.size;have:=dI f;exact this⟩);refine⟨_,rfl,hK _ _ (λ_=>⟨j,k⟩) ?_⟩;simp only[nrm];clear hK;have m:=lh (p.o (iz (ii ip (putS x 1 (nmK (bA cs)) []).2)) C (by rw[u.o];exact⟨rfl,r.weak (λq b=>Ii b) H.o.sx.xs H.o.xc,z,(Kp.of V.o).more (Kp.less c λq b=>Ii b)⟩));clear r z c;refine af 8 (λ_=>⟨j,k⟩) ?_;refine wd ?_ _;go_wp2_with fail;exact m.o
theorem aRS(h:CtX w0 w dk g st ca x X){N:Nat}(k:mE N x.E)(C:N<=900000){c:Ct}(I:Rep x.E c)(b f:Int)(cs i:ByteArray)(J:nmB (bA cs)=true): Calls prog 60 #[pi (some ⟨ca,0,none⟩),il #[ii ip b,sj cs,ii ip f,sj i]] w (tJ w0 dk g st ca x X (aGu x (bA cs)) w):=by
 refine cA λW F=>?_;have⟨H,HN,a4,a5⟩:=hh4 h C k I.keys;obtain⟨m,d⟩:=nm (w.alloc (iy #[ii ip b,sj cs,ii ip f,sj i] 65));have p:Fr [] w m:=by rw[d];exact(jj [] w).alloc _
 have j:Blk m w.heap.size 65 [ii ip b,sj cs,ii ip f,sj i]:=by rw[d];exact jl w _ [ii ip b,sj cs,ii ip f,sj i]
 have⟨M,a6⟩:=hh2 p j;obtain⟨q,n⟩:∃q,aGu x (bA cs)=q:=⟨_,rfl⟩;rw[n]at F;obtain⟨i,f⟩:∃i,cutS x (nmK (bA cs))=i:=⟨_,rfl⟩;have s:q=if i.2=0 then delS i.1 1 (nmK (bA cs)) else i:=by rw[<- n,<- f];rfl
 have u:=lh s;have O:Hid (mE N i.1.E):=lh (by rw[<- f];exact mE.cutS k _);have z:=mG J;have L:=yA cs;have y:=lh (λr:World=>mP (w:=r) cs [] z.1 (by omega) (by simp) (by simp) (v:=si none 0 0) (g:=0) (kH.nil _ _ _));have A:li (nmK (bA cs))<=96/\1<=li (nmK (bA cs)):=by rw[uM,qI];simp;omega
 have m:=lh A;have P:Hid (aft (nmK (bA cs))≠[]):=lh (by rw[uM];exact iX _ _);rw[<- uM]at y;have G:=lh f;clear h k p n C I s f z L A J;go_enter func60,ntmps60;go_upto_region 1 with fail;rw[<- d];have I:=j.a 1;clear d j;go_wp2_with fail;refine(y.o _).mono ?_;rintro e Q ⟨L,rfl,⟨p,f,d⟩,j⟩;have⟨T,B⟩:=hh2 (M.o.trans j) (a6.o.fr j);have n:=sF f (by have:=m.o;omega);have s:=lh (H.o.fr T.o);have J:=lh (aCR s.o a4.o HN.o a5.o f (Ij ⟨vD M.o.size d,n⟩) P.o (by have:=m.o;omega));have I:=B.o.a 1;obtain⟨S,U,_,rfl,_,_⟩:=_root_.id f;clear f d j n;go_wp2_with fail;refine J.o.mono ?_;rintro e j ⟨rfl,z,A,C⟩;have s:yC X w Q w.heap.size:=Ij ⟨tA _,B.o.lt⟩;have P:=lh (C.blk B.o s);rw[G.o]at z A⊢;have⟨D,V,b0,b1⟩:=hh4 z A C s;clear z A C s J G I;obtain⟨z,A⟩:=i;have i:CtX w0 j dk g st ca z X:=D.o.weak (λp d=>Ii d) H.o.sx.xs H.o.xc;have⟨b2,Z⟩:=hh2 i ((Kp.of T.o).more (Kp.less b0.o λp d=>Ii d));clear i;by_cases s:A=0
 ·subst s;have I:Hid (q=delS z 1 (nmK (bA cs))):=lh (by have:=u.o;rwa [iA rfl]at this);have q:=P.o.a 1;have C:=D.o.blk.a 1;clear u;go_upto_region 4 with fail;have i:j.drew.cell? ⟨ca,1,none⟩=some (pi (some ⟨st,0,none⟩)):=C;have G:j.drew.cell? ⟨w.heap.size,1,none⟩=some (sj cs):=q;refine aj (λr=>r.cell? ⟨ca,1,none⟩=some (pi (some ⟨st,0,none⟩))/\r.cell? ⟨w.heap.size,1,none⟩=some (sj cs)) [0,1,2,3,4,5,8,9,10] ?_;refine tks [0,1,2,3,4,5] ?_;iterate 6 (refine ac ⟨i,G⟩ ?_)
  refine tke ?_;refine ag 6 λK hK=>kA (l:=[.tmp 26,.const (si none 0 0)]) rfl [sj cs,si none 0 0] rfl (kN _) ((y.o _).mono ?_);rintro e r ⟨L,rfl,⟨p,f,d⟩,G⟩;have i:Fr [] j r:=((jj [] j).drew).trans G;have r:=aA i C;have y:=aA i q;refine⟨_,rfl,hK _ _ (λ_=>⟨r,y⟩) ?_⟩;simp only[nrm];clear hK;have n:=sF f (by have:=m.o;omega);have q:=lh (D.o.fr i);have⟨b6,b7⟩:=hh2 (aGB q.o (t:=1) (by omega) f (Ij ⟨d,n⟩) m.o.2 m.o.1 (vD (O.o.few 1) (by have:=HN.o;omega))) i;clear f d G i n;refine ag 7 λK hK=>kA (l:=[.tmp 24,.const (ii ip 1),.tmp 27]) rfl [pi (some ⟨st,0,none⟩),ii ip ((1:Nat):Int),L] rfl (aAL _) (b6.o.mono ?_);rintro e J ⟨⟨L,rfl⟩,C,G,m⟩;have f:=m.cell r q.o.xc;have i:=m.cell y (Ii b1.o);refine⟨_,rfl,hK _ _ (λ_=>⟨f,i⟩) ?_⟩;simp only[nrm];clear hK;have n:=lh (F.o (iz (ii ip (delS z 1 (nmK (bA cs))).2)) J (by rw[I.o];exact⟨rfl,C.weak (λp d=>Ii (Ii d)) H.o.sx.xs H.o.xc,V.o.trans G,Z.o.more ((Kp.of b7.o).more (Kp.less m λp d=>Ii (Ii d)))⟩));clear C G m;refine tks [8,9,10] ?_;iterate 3 (refine ac ⟨f,i⟩ ?_)
  refine tke ?_;refine af 11 (λ_=>⟨f,i⟩) ?_;refine af 12 (λ_=>⟨f,i⟩) ?_;refine wd ?_ _;go_wp2_with fail;exact n.o
 have d:(A !=0)=true:=by rw[nJ];exact s
 have n:=lh (F.o (iz (ii ip A)) j (by have:=u.o;rw[eA s]at this;rw[this];exact⟨rfl,b2.o,V.o,Z.o⟩));clear s;go_wp2_with fail;exact n.o
theorem aAM(w:World)(n:Int)(b:idB n=true):kH (w.alloc (iy #[n] 3)) (si w 1 1) 1 ([n.toNat].map λn:Nat=>ii ip (n:Int)) w:=by
 have c:=cK.1 b;have e:((n.toNat:Nat):Int)=n:=by omega
 show kH _ _ 1 [ii ip ((n.toNat:Nat):Int)] _;rw[e];exact kH.of_blk (jl w 3 [n]) 1 1 (tA _)
theorem aRT(h:CtX w0 w dk g st ca x X){N:Nat}(m:mE N x.E)(t:N<=900000){c:Ct}(y:Rep x.E c)(b d:Int)(cs f:ByteArray)(D:nmB (bA cs)=true): Calls prog 61 #[pi (some ⟨ca,0,none⟩),il #[ii ip b,sj cs,ii ip d,sj f]] w (tJ w0 dk g st ca x X (aAJ x (bA cs) d) w):=by
 refine cA λQ s=>?_;have⟨H,HN,a0,a1⟩:=hh4 h t m y.keys;obtain⟨q,k⟩:=nm (w.alloc (iy #[ii ip b,sj cs,ii ip d,sj f] 65));have n:Fr [] w q:=by rw[k];exact(jj [] w).alloc _
 have i:Blk q w.heap.size 65 [ii ip b,sj cs,ii ip d,sj f]:=by rw[k];exact jl w _ [ii ip b,sj cs,ii ip d,sj f]
 have⟨p,a6⟩:=hh2 n i;obtain⟨r,l⟩:∃r,aAJ x (bA cs) d=r:=⟨_,rfl⟩;rw[l]at s;have⟨j,HR⟩:=hh2 (λf:World=>lJ (w:=f) d) l;have A:=mG D;have I:=yA cs;clear h m n l t y D;go_enter func61,ntmps61;go_upto_region 1 with fail;rw[<- k];have J:=i.a 1;have L:=i.a 2;clear k i;cases i:idB d with
 | false=>
  rw[i]at j;have n:r=(x,6):=by rw[<- HR.o];unfold aAJ;rw[i];rfl
  have k:=lh (s.o (iz (ii ip 6)) q (by rw[n];exact tJ.none H.o p.o));clear i HR n;go_wp2_with fail;refine(j.o _).mono ?_;rintro e G ⟨rfl,rfl⟩;go_wp2_with fail;exact k.o
 | true=>
  rw[i]at j;have B:=lh (λf=>aAM f d i);have M:=cK.1 i;obtain⟨K,hK⟩:∃K,zB (bA cs) [d.toNat]=K:=⟨_,rfl⟩;obtain⟨l,y⟩:∃l,cutS x K=l:=⟨_,rfl⟩;have n:r=if l.2=0/\eD (x.E 0) K=[] then (l.1,6) else l:=by rw[<- HR.o,<- y,<- hK];unfold aAJ;rw[i];simp only[yR,eF]
  have t:=lh n;have O:Hid (∀(f:World),Calls prog 45 #[sj cs,si (some ⟨f.heap.size,0,none⟩) 1 1] (f.alloc (iy #[ii ip d] 3)) λe C=>∃v',e=iz v'/\(∃r,dA C v' K r/\f.heap.size+1<=r)/\Fr [] (f.alloc (iy #[ii ip d] 3)) C):=lh λf=>by have:=mP (w:=f.alloc (iy #[ii ip d] 3)) cs [d.toNat] A.1 (by omega) (by simp;omega) (by simp) (B.o f);rw[hK,qB]at this;exact this
  have f:li K<=96/\1<=li K:=by rw[<- hK,qI];simp;omega
  have C:=lh f;have P:Hid (aft K≠[]):=lh (by rw[<- hK];exact iX _ _);have F:=lh y;clear i HR n hK y f A I M B;go_wp2_with fail;refine(j.o _).mono ?_;rintro e G ⟨rfl,rfl⟩;go_wp2_with fail;refine(O.o q).mono ?_;rintro e G ⟨G,rfl,⟨r,i,f⟩,y⟩;have A:=lh (p.o.trans (((jj [] q).alloc _).trans y));have n:=sF i (by have:=C.o;omega);have q:=lh (H.o.fr A.o);have B:=lh (aCR q.o a0.o HN.o a1.o i (Ij ⟨by have:=p.o.size;omega,n⟩) P.o (by have:=C.o;omega));obtain⟨I,M,_,rfl,_,_⟩:=_root_.id i;clear i f y n;go_wp2_with fail;refine B.o.mono ?_;rintro e n ⟨rfl,i,q,C⟩;rw[F.o]at i q⊢;obtain⟨O,y⟩:=l;have⟨u,v,z⟩:=hh3 (i.weak (λr f=>Ii f) H.o.sx.xs H.o.xc) q ((Kp.of A.o).more (Kp.less C λr f=>Ii f));obtain⟨f,D⟩:∃f,li (eD (x.E 0) K)=f:=⟨_,rfl⟩;rw[D];have r:Hid (eD (x.E 0) K=[]↔f=0):=lh (by rw[<- D];exact uO.symm);clear i q C B F J L D;by_cases i:y=0
  ·subst i;by_cases l:f=0
   ·subst l;have k:=lh (s.o (iz (ii ip 6)) n (by
     have:=t.o;rw[iA ⟨rfl,r.o.2 rfl⟩]at this;rw[this];exact⟨rfl,u.o,v.o,z.o⟩))
    go_wp2_with fail;exact k.o
   have q:((f:Int)==0)=false:=(by rw[lE];omega);have k:=lh (s.o (iz (ii ip 0)) n (by have:=t.o;rw[eA (λh=>l (r.o.1 h.2))]at this;rw[this];exact⟨rfl,u.o,v.o,z.o⟩));clear l;go_wp2_with fail;exact k.o
  have f:(y==0)=false:=(by rw[lE];exact i);have k:=lh (s.o (iz (ii ip y)) n (by have:=t.o;rw[eA (λh=>i h.1)]at this;rw[this];exact⟨rfl,u.o,v.o,z.o⟩));clear i;go_wp2_with fail;exact k.o
end
end
end Go.Proofs.YtebjhcjbfaaejaaGreatDoor
