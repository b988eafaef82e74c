/-
  CatalogPlays, for every input: whatever is done with a catalog, together or one behind the other, each answer is the document's, or ErrFull, behind which all is as it was. The listed variables hold what the program's text lays (the card's tie).
-/
import Derived.Test.YtebjhcjbfaaejaaGreatDoorJct15
import Derived.Test.YtebjhcjbfaaejaaGreatDoorCards
import Derived.Test.YtebjhcjbfaaejaaGreatDoorTie
import Derived.SevenTiedAt
set_option maxRecDepth 100000
set_option maxHeartbeats 32000000
open Go.Value renaming int->ii,slice->si,string->sj,pointer->pi,tuple->tl,bool->ij,agg->il
open Go.IntKind renaming i64->ip,wrap->Wi
open Go.Obj renaming cells->iy
open Go.Ending renaming returned->iz
open Or renaming inl->Ii,inr->Ij
open List renaming length->li
namespace Go.Proofs.YtebjhcjbfaaejaaGreatDoor
open Go.Proofs.Tryz
variable {W:World}
section
open Go.RowKit
section
variable {w:World}{g d lg bl bh:Nat}{s:PS}{fp:List Nat}
theorem aTR(h:qF w g d lg bl bh s fp):Calls prog 24 #[pi g] w λe b=>e=iz (ii ip (li s.late:Int))/\w=b:=by refine cA λj b=>?_;have f:=h.blk.a 4;have i:=λc=>h.late.len c;go_enter func24,ntmps24;go_wp2_with fail;exact b.o _ _ ⟨rfl,rfl⟩
end
open Go.RowKit
section
variable {w0 w:World}{d g:Nat}{s:PS}{X:Nat->Prop}
theorem aCT(h:PgX w0 w d g s X):Calls prog 24 #[pi g] w λe b=>e=iz (ii ip (li s.late:Int))/\w=b:=by obtain⟨c,f,i,j,b,_⟩:=h;exact aTR b
end
open Go.RowKit

open Go.RowKit
end
section
open Go.RowKit Go.ChangeMaps Go.MapKept Go.Maps Go.Sort Go.Shelf
section
variable {w:World}
theorem aQa(w:World):Calls prog 18 #[pi none] w λe b=>e=iz (tl #[si none 0 0,ii ip 10])/\w=b:=by refine cA λc b=>?_;go_enter func18,ntmps18;go_wp2_with fail;exact b.o _ _ ⟨rfl,rfl⟩
theorem aSx(w:World):Calls prog 20 #[pi none] w λe b=>e=iz (ii ip 0)/\w=b:=by refine cA λc b=>?_;go_enter func20,ntmps20;go_wp2_with fail;exact b.o _ _ ⟨rfl,rfl⟩
theorem aUT(w:World):RV 13 #[pi none,si none 0 0] w (ii ip 10):=by refine cA λg f=>?_;have c:Fr [] w ((w.alloc (iy #[pi none] 30)).alloc (iy #[ii ip 10] 27)):=((jj [] w).alloc _).alloc _;have b:=jl (w.alloc (iy #[pi none] 30)) 27 [ii ip 10];rw[qB]at b;have d:=lh b;go_enter_defers func13,ntmps13;go_wp2_with fail;exact⟨ii ip 10,nP rfl rfl (d.o.a 0),f.o _ _ ⟨rfl,c⟩⟩
end
structure PlS (w0 w:World) (dk g st ca b:Nat) (cc N n B:Nat) (x:SE) (c:Ct) (vm:Value) (us:List Value) (X:Nat->Prop):Prop where
 ct:CtX w0 w dk g st ca x X
 liv:Liv cc N x c
 lim:x.s.D.limit = -1
 sn:x.s.n=n
 cat:CtV (fun q=>X q/\q≠b) w vm c us
 blk:Blk w b 37 [vm]
 xb:X b
 lo:w0.heap.size<=b
 ne:st≠b/\ca≠b
 len:c.length<=B
 tx:∀y∈c,y.2.length<=B
section
variable {w0 w w':World}{dk g st ca b cc N n B cc' N' B':Nat}{x x':SE}{c c':Ct}{vm vm':Value}{us us':List Value}{X:Nat->Prop}
theorem PlS.fr(h:PlS w0 w dk g st ca b cc N n B x c vm us X)(d:Fr [] w w'):PlS w0 w' dk g st ca b cc N n B x c vm us (yC X w w'):=⟨h.ct.fr d,h.liv,h.lim,h.sn,(h.cat.fr d).more λi f=>⟨Ii f.1,f.2⟩,h.blk.fr d,Ii h.xb,h.lo,h.ne,h.len,h.tx⟩
theorem PlS.call(h:PlS w0 w dk g st ca b cc N n B x c vm us X)(i:Kp X w w')(j:CtX w0 w' dk g st ca x' X)(k:Liv cc' N' x' c)(l:x'.s.D.limit = -1)(m:x'.s.n=n):PlS w0 w' dk g st ca b cc' N' n B x' c vm us X:=by obtain⟨r,f,o⟩:=i;exact⟨j,k,l,m,h.cat.fr f (λp q d=>o p d q.1),h.blk.fr f (λd=>o b d h.xb),h.xb,h.lo,h.ne,h.len,h.tx⟩
theorem PlS.mono(h:PlS w0 w dk g st ca b cc N n B x c vm us X)(h1:cc<=cc')(h2:N<=N')(h3:B<=B'):PlS w0 w dk g st ca b cc' N' n B' x c vm us X:=⟨h.ct,h.liv.mono h1 h2,h.lim,h.sn,h.cat,h.blk,h.xb,h.lo,h.ne,vD h.len h3,λd f=>vD (h.tx d f) h3⟩
theorem PlS.turn(h:PlS w0 w dk g st ca b cc N n B x c vm us X)(j:Kp X w w')(k:CtX w0 w' dk g st ca x' X)(l:Liv cc' N' x' c')(m:x'.s.D.limit = -1)(o:x'.s.n=n)(p:CtV (λd=>X d/\d≠b) w vm' c' us')(f:Fr [b] w' W)(r:Blk W b 37 [vm'])(h1:li c'<=B')(h2:∀y∈c',li y.2<=B'):PlS w0 W dk g st ca b cc' N' n B' x' c' vm' us' X:=by obtain⟨t,i,q⟩:=j;exact⟨k.other f h.xb h.lo h.ne.1 h.ne.2,l,m,o,(p.fr i λd i o=>q d o i.1).fr f (λd i o=>i.2 (xA.1 o)),r,h.xb,h.lo,h.ne,h1,h2⟩
end
theorem Z1{P:Prop} (h:P:=by
 have HDI:=lh (aCT HPC.o.ct.sx.px);rw[HPC.o.liv.late] at HDI;go_wp2_with fail;refine HDI.o.mono ?_;rintro e wd ⟨rfl,rfl⟩;have pm:=HPC.o.blk.a 0;have HSM:=lh (aCb HPC.o.ct HPC.o.liv.few (by omega) HPC.o.liv.rep HPC.o.cat HPC.o.liv.rep.ok (by have:=HPC.o.len;omega) (fun y hy=>by have:=HPC.o.tx y hy;omega));go_wp2_with fail;refine HSM.o.mono ?_;rintro e we ⟨bb,rfl,hbb,hfe⟩;obtain rfl:=hbb (by trivial);have HPF:=lh ((HPC.o.fr hfe).mono (cc':=5 * (i+1)+1) (N':=300 * (i+1)) (B':=12 * (i+1)) (by omega) (tA _) (tA _));clear hfe hbb pm HSM HDI;go_wp2_with fail
 go_roundg (m - (i+1))
 case measure=>omega
 case rel=>exact⟨i+1,_,_,_,_,_,by omega,rfl,HPF.o⟩):P:=h
theorem Z60{P:Prop} (h:P:=by
 have hb6n:bm ∉ [b8]:=by simp;omega
 have hgon:g0 ∉ [b8]:=by simp;omega
 refine hK _ _ (fun _=>⟨yD hf7 e6 hb6n,yD hf7 er hgon⟩) ?_;simp only[nrm];clear hK;refine ag 12 fun K hK=>?_;refine lA (v:=.int .i64 fc) (by go_simp) (hK _ _ (fun _=>⟨yD hf7 e6 hb6n,yD hf7 er hgon⟩) ?_);simp only[nrm];clear hK;refine _root_.Go.Proofs.YtebjhcjbfaaejaaGreatDoor.wd ?_ _;exact TAIL A3 n3 c3 b8 w7 (lh ⟨us3,hc8.fr hf7 (fun q hq hm=>hq.2 (xA.1 hm)),hb7,hlb,hfd.trans (hfw8.trans hf7 fun q hq=>.inr (by rw[xA.1 hq];exact hlb'))⟩)):P:=h
theorem Z81{P:Prop} (h:P:=by
 rw[hkk] at hckT;have HCHK:=lh (aCL HPT.o.ct.sx.px (by have:=HPT.o.liv.com.done;omega));go_wp2_with fail;refine HCHK.o.mono ?_;rintro e wc ⟨rfl,hpc,hkc⟩;rcases HPT.o.liv.check (by omega) with ⟨hz,hLc,hnc,_,hlc⟩ | ⟨_,_,hne,_⟩
 ·rw[hz];have HPC:=lh (HPT.o.call hkc (HPT.o.ct.checked hpc hkc hLc) hLc (hlc HPT.o.lim) (hnc.trans HPT.o.sn));clear hpc hkc hz hLc hnc hlc HCHK;exact Z1
 ·exact absurd HPT.o.lim hne):P:=h
theorem Z91{P:Prop} (h:P:=by
 have:=hfd.size;rcases hq with h | h
 ·exact⟨.inl h,by have:=HD1.o q h;omega⟩
 ·exact⟨.inr (by omega),by omega⟩):P:=h
theorem aIK(W:World)(v:Value)(l:List RdA)(pages:Int)(b:ByteArray)(id:Int)(hv:aIB W v l):RV 5 #[v,ii ip pages,sj b,ii ip id] W (ij true):=by
 obtain⟨pg,n2,i'⟩:=aIT pages 63 (by omega);have f1:bits .and ip pages 63=(pg:Int):=i';obtain⟨n,hn⟩:∃n:Nat,n=pg+3:=⟨_,rfl⟩;have k':Wi ip (3+(pg:Int))=(n:Int):=ak;have N:Hid (3<=n/\n<=66):=lh (by omega);have HV:=lh hv;obtain⟨A,cv,g0,off,rfl,b9,j0⟩:=hv;obtain⟨m,hm⟩:∃m,li l=m:=⟨_,rfl⟩;rw[hm]at HV b9⊢;have l1:=lh j0;have HM:=lh hm;clear i' hn j0 n2 b9 hm;refine cA λR hq=>?_;have HQ:=lh hq;clear hq;go_enter func5,ntmps5;go_wp2_with fail;refine(aOo W).mono ?_;rintro e w1 ⟨rfl,j1⟩;have f2:=lh j1;clear j1;go_wp2_with fail;refine(aOm HV.o f2.o).mono ?_;rintro e w2 ⟨bs,rfl,hb,j2⟩;have f3:=lh (f2.o.trans j2);have HB:=lh hb;have c':=lh (HQ.o (iz (ij true)) w2 ⟨rfl,f3.o⟩);clear j2 hb;cases bs with
 | false=>go_wp2_with fail;exact c'.o
 | true=>
  have f4:=lh (HB.o rfl);clear HB;by_cases c9:100<b.size;·have l2:(100:Int)<(b.size:Int):=(by omega);clear c9;go_wp2_with fail;exact c'.o
  have l2:¬ (100:Int)<(b.size:Int):=(by omega);clear c9 c';go_wp2_with fail;obtain⟨H4,j3,j4,j5,j6⟩:=aFu (n:=n) (log:=400) (M:=1000) (by have:=N.o;omega) (by have:=N.o;omega) (by omega) (by have:=N.o;omega) (by omega);refine(aQu (X:=λ_=>False) W w2 1000 (by omega) (by omega) f3.o (by simp)).mono ?_;rintro e w3 ⟨dk,rfl,j7,_⟩;have f5:=lh j3;have d0:=lh j4;have f6:=lh j5;have f7:=lh j6;have f8:=lh j7;clear j3 j4 j5 j6 j7;go_wp2_with fail;refine(aIJ (n:=n) (log:=400) f8.o rfl rfl (by have:=N.o;omega) (by have:=N.o;omega) (by omega) f7.o f6.o f5.o d0.o).mono ?_;rintro e w4 ⟨g,st,ca,X4,rfl,j8,_,_⟩;have b3:(qH n 400 (DM.new 1000) H4).D.limit = -1:=rfl;have f9:(qH n 400 (DM.new 1000) H4).n=n:=rfl;generalize qH n 400 (DM.new 1000) H4=s4 at *;have I:=lh j8;have f':=lh b3;have g3:=lh f9;clear j8 b3 f9 f5 f6 f7 f8 f1 k';go_upto_region 7 with fail;obtain⟨w5,a7⟩:=nm (w4.alloc (iy #[si none 0 0] 37));have J:Fr [] w4 w5:=(by rw[a7];exact(jj [] w4).alloc _);have a5:Blk w5 w4.heap.size 37 [si none 0 0]:=(by rw[a7];exact jl w4 _ [si none 0 0]);obtain⟨bm,e0⟩:=nm (w4.heap.size);rw[<- a7,<- e0];have l3:Hid (PlS W w5 dk g st ca bm 1 0 n 0 ⟨s4,λ_=>[]⟩ [] (si none 0 0) [] (yC X4 w4 w5)):=lh (by have h1:=I.o.lt _ I.o.sx.xs;have h2:=I.o.lt _ I.o.xc;have h3:=I.o.frame.size;rw[<- e0]at a5;exact⟨I.o.fr J,d0.o,f'.o,g3.o,⟨rfl,gD _ _ _ _,(λq hq=>by cases hq),λi y u h=>by simp at h⟩,a5,Ij ⟨by omega,a5.lt⟩,by omega,⟨by omega,by omega⟩,tA _,λy hy=>by cases hy⟩);clear a7 J a5 e0 I d0 f' g3;go_wp2_with fail;go_loopg [16] m (λj v16 wr=>∃(i:Nat) (x:SE) (c:Ct) (vm:Value) (us:List Value) (X:Nat->Prop),i+j=m/\v16=ii ip (i:Int)/\PlS W wr dk g st ca bm (5*i+1) (300*i) n (12*i) x c vm us X);·exact⟨0,_,_,_,_,_,by omega,rfl,l3.o⟩
  obtain⟨i,x,c,vm,us,X,hi,rfl,hp⟩:=hrel;have d:=lh hp;have n9:m<=20:=(by have:=f4.o.1;rw[HM.o]at this;exact this);clear hp;by_cases k9:i<m
  ·have o3:=lh k9;obtain⟨o,ho⟩:∃o,l[i]? = some o:=gx (by rw[HM.o];exact k9);obtain⟨rfl,a0⟩:=l1.o i o ho;obtain⟨go,E,e1⟩:=a0.a.sl;have O:=f4.o.2 o (kF ho);obtain⟨nl,a8⟩:∃nl,li o.L=nl:=⟨_,rfl⟩;have g4:=E;obtain⟨A2,c2,o2,e2,j9,a9⟩:=g4;have U:=d.o.ct.frame;have C:=U.keep a0.c0;have b4:=U.keep a0.c1;rw[a8]at e2 E e1;rw[e2]at C E;have E:=E.fr U;have d1:(doC c c (o.L.map OpV.op)).1.length<=12*(i+1):=aII (by have:=d.o.len;omega) _ (by have:=d.o.len;have:=O.1;rw[cH];omega);have d2:∀y∈(doC c c (o.L.map OpV.op)).1,li y.2<=12*(i+1):=aMX (λy hy=>by have:=d.o.tx y hy;omega) _ d.o.tx (by have:=O.1;rw[cH];omega);obtain⟨cf,fc,a'⟩:∃cf fc,doC c c (o.L.map OpV.op)=(cf,fc):=⟨_,_,rfl⟩;rw[a']at d1 d2;have l4:=lh a';have l5:=lh d1;have l6:=lh d2;have l7:=lh E;have Q:=lh O;have a6:=lh a8;have l8:=lh b4;have g5:=lh a0.c1;have b5:0<nl->go<wr.heap.size:=λh=>iL (e1 h) U.size;have o4:=lh b5;obtain⟨D1,b0⟩:∃D1:Nat->Prop,D1=λq=>X q/\q≠bm:=⟨_,rfl⟩;have V:=d.o.cat;rw[<- b0]at V;have HD1:Hid (∀q,D1 q->q<wr.heap.size):=lh λq hq=>d.o.ct.lt q (by rw[b0]at hq;exact hq.1);have g7:Hid (∀W':World,Fr [] wr W'->Calls prog 12 #[il #[vm],si A2 nl c2] W' λe w'=>∃v' us',e=iz (tl #[il #[v'],ii ip fc])/\CtV (λq=>D1 q∨W'.heap.size<=q) w' v' cf us'/\Fr [] W' w'):=lh λW' hf=>by
    have h:=do23 (L:=o.L) (V.fr hf) d.o.liv.rep.ok (λq hq=>iL (HD1.o q hq) hf.size) (by have:=d.o.len;have:=O.1;omega) d.o.tx (by have:=O.1;omega) (by rw[a8];exact E.fr hf);rw[a']at h;exact h
   have l9:=lh b0;have d3:=lh d.o.blk;have hI:(i:Int)<(m:Int):=(by omega);have o5:Wi ip ((i:Int)+1)=((i+1:Nat):Int):=ak;clear ho a0 E e1 O a8 e2 j9 a9 U b4 d1 d2 a' b5 b0 V;go_upto_region 12 with fail;have e6:wr.drew.cell? ⟨bm,0,none⟩=some vm:=d3.o.a 0;have er:wr.drew.cell? ⟨g0,off+i*2,none⟩=some (si A2 nl c2):=C;have hfd:Fr [] wr wr.drew:=(jj [] wr).drew;have n':=d3.o.lt;have o0:=dI C;apply aNa (H:=λA3 n3 c3 b8 W=>Hid (∃us3,DoD wr wr D1 (si none 0 0) (cf,fc) (si A3 n3 c3) us3 b8 W))
   case main=>
    intro TAIL;refine aj (λW=>W.cell? ⟨bm,0,none⟩=some vm/\W.cell? ⟨g0,off+i*2,none⟩=some (si A2 nl c2)) [0,1,2,3,4,5,7,8,9] ?_;refine tks [0,1,2,3,4,5] ?_;iterate 6 (refine ac ⟨e6,er⟩ ?_)
    refine tke ?_;refine jJ (i:=6) (j:=10) (some 72) (some 17) rfl rfl rfl rfl (by kernel_rfl) rfl rfl (λK hK=>?_) (λK hK=>?_)
    ·
     refine kA (l:=[.tmp 66,.tmp 71]) rfl [il #[vm],si A2 nl c2] rfl (tU _) ((g7.o wr.drew hfd).mono ?_);rintro e w4 ⟨v3,us3,rfl,a1,r⟩;replace e6:=aA r e6;replace er:=aA r er;refine⟨_,rfl,hK _ _ (λ_=>⟨e6,er⟩) ?_⟩;simp only[nrm];clear hK;obtain⟨A3,n3,c3,rfl⟩:∃A3 n3 c3,v3=si A3 n3 c3:=(by obtain⟨A3,c3,rfl,_,_⟩:=jA a1.own;exact⟨_,_,_,rfl⟩);refine tv 7 (tl #[il #[si A3 n3 c3],ii ip fc]) rfl rfl ⟨e6,er⟩ (Ii ⟨rfl,λW hW=>by go_simp⟩) ?_;simp only[nrm];refine tv 8 (il #[si A3 n3 c3]) rfl rfl ⟨e6,er⟩ (Ii ⟨rfl,λW hW=>by go_simp⟩) ?_;simp only[nrm];refine tv 9 (ii ip fc) rfl rfl ⟨e6,er⟩ (Ii ⟨rfl,λW hW=>by go_simp⟩) ?_;simp only[nrm];refine ag 10 λK hK=>gB 37 rfl (il #[si none 0 0]) [si none 0 0] rQ rfl λw8 a4 B n5=>?_;replace e6:=aA B e6;replace er:=aA B er;refine hK _ _ (λ_=>⟨e6,er⟩) ?_;simp only[nrm];clear hK;obtain⟨b8,a2⟩:=nm (w4.heap.size);rw[<- a2]at a4⊢;have hlb':wr.drew.heap.size<=b8:=(by have:=r.size;omega);have hlb:wr.heap.size<=b8:=vD hfd.size hlb';have hc8:=(a1.below.fr B).more (D':=λq=>(D1 q∨wr.heap.size<=q)/\q≠b8) λq hq=>⟨by obtain h|h:=hq.1;exact Ii h;exact Ij (by have:=hfd.size;omega),by omega⟩;have hfw8:=r.trans B;refine ah 11 λK hK=>pA 37 (.tmp 17) (.tmp 73) rfl [si A3 n3 c3] rfl rfl a4 lD rfl (by intro u hu;simp only[bB,kC,dC]at hu;subst hu;rfl) λw7 hb7 hf7 n6=>?_;exact Z60
    ·
     refine gB 37 rfl (il #[si none 0 0]) [si none 0 0] rQ rfl λw8 a4 B n5=>?_;replace e6:=aA B e6;replace er:=aA B er;refine hK _ _ (λ_=>⟨e6,er⟩) ?_;simp only[nrm];clear hK;obtain⟨b8,a2⟩:=nm (wr.drew.heap.size);rw[<- a2]at a4⊢;refine ag 6 λK hK=>kA (l:=[.tmp 66,.tmp 71]) rfl [il #[vm],si A2 nl c2] rfl (tU _) ((g7.o w8 (hfd.trans B)).mono ?_);rintro e w9 ⟨v3,us3,rfl,a1,r⟩;replace e6:=aA r e6;replace er:=aA r er;refine⟨_,rfl,hK _ _ (λ_=>⟨e6,er⟩) ?_⟩;simp only[nrm];clear hK;obtain⟨A3,n3,c3,rfl⟩:∃A3 n3 c3,v3=si A3 n3 c3:=(by obtain⟨A3,c3,rfl,_,_⟩:=jA a1.own;exact⟨_,_,_,rfl⟩);refine tv 7 (tl #[il #[si A3 n3 c3],ii ip fc]) rfl rfl ⟨e6,er⟩ (Ii ⟨rfl,λW hW=>by go_simp⟩) ?_;simp only[nrm];refine tv 8 (il #[si A3 n3 c3]) rfl rfl ⟨e6,er⟩ (Ii ⟨rfl,λW hW=>by go_simp⟩) ?_;simp only[nrm];refine tv 9 (ii ip fc) rfl rfl ⟨e6,er⟩ (Ii ⟨rfl,λW hW=>by go_simp⟩) ?_;simp only[nrm];have hlb':wr.drew.heap.size<=b8:=(by omega);have hlb:wr.heap.size<=b8:=vD hfd.size hlb';have g8:=a4.fr r;have hc8:=a1.more (D':=λq=>(D1 q∨wr.heap.size<=q)/\q≠b8) λq hq=>(by exact Z91);have hfw8:=B.trans r;refine ah 11 λK hK=>pA 37 (.tmp 17) (.tmp 73) rfl [si A3 n3 c3] rfl rfl g8 lD rfl (by intro u hu;simp only[bB,kC,dC]at hu;subst hu;rfl) λw7 hb7 hf7 n6=>?_;exact Z60
   intro A3 n3 c3 b8 w5 k8;obtain⟨us3,a3⟩:=k8.o;clear e6 er hfd k8;have J:Fr [] wr w5:=(by simpa[Value.ownBlock]using a3.fr);have l':=a3.new;have Z:CtV (λq=>yC X wr w5 q/\q≠bm) w5 (si A3 n3 c3) cf us3:=a3.ct.below.more λq hq=>by
    obtain h|h:=hq.1.1;·rw[l9.o]at h;exact⟨Ii h.1,h.2⟩
    exact⟨Ij ⟨h,hq.2⟩,by have:=d3.o.lt;omega⟩
   have d4:=a3.blk;have d5:yC X wr w5 b8:=Ij ⟨l',d4.lt⟩;have g9:=lh (d.o.fr J);have d6:=lh (aKO (L:=o.L) (by rw[a6.o];exact l7.o.fr J) (by have:=Q.o.1;omega));rw[a6.o]at d6;have m0:=aA J C;have b6:=aA J l8.o;obtain⟨X5,j'⟩:∃Y:Nat->Prop,Y=yC X wr w5:=⟨_,rfl⟩;rw[<- j']at Z d5 g9;have g':=lh Z;have m1:=lh d4;have m2:=lh d5;have h4:=lh b6;clear j' Z d4 d5 a3 C b6;go_wp2_with fail;refine d6.o.mono ?_;rintro e w6 ⟨v6,g6,rfl,e3,b',c4,b1⟩;have h6:=e3;obtain⟨A6,c6,o6,rfl,_,_⟩:=h6;have f:=lh (g9.o.fr b1);have h7:=lh ((g'.o.fr b1).more (D':=λq=>yC X5 w5 w6 q/\q≠bm) λq hq=>⟨Ii hq.1,hq.2⟩);have h8:=m1.o.fr b1;have b7:=aA b1 h4.o;have m3:=lh (aIA f.o.ct f.o.liv.few f.o.liv.rep (L:=o.L) (λp hp=>aAP Q.o p hp) (by have:=Q.o.1;omega) (by have:=f.o.liv.com.done;omega) (by rw[a6.o];exact e3) (λh=>Ij ⟨b',c4 (by rw[<- a6.o];exact h)⟩));clear e3 b' c4 d6;go_wp2_with fail;refine m3.o.mono ?_;intro e w7 e';have h9:=e';obtain⟨rfl,c5,c7,_,T⟩:=h9;have h':=aNX f.o.liv (l:=o.L.map OpV.op) (λq hq=>by obtain⟨p,hp,rfl⟩:=kI.1 hq;exact aAP Q.o p hp) c5 c7 (by omega) (by rw[f.o.sn];have:=N.o;omega);rw[l4.o]at h';obtain⟨_,_,hne,_⟩|⟨k,e4,F,_,G,t⟩:=h';·exact absurd f.o.lim hne
   have S:=f.o.ct.done e' t;obtain⟨y,gc,hy⟩:∃y gc,doS x (o.L.map OpV.op)=(y,gc):=⟨_,_,rfl⟩;rw[hy]at k e4 F G t S⊢;simp only at k e4 F G t S⊢;have F:y.s.n=n:=F.trans f.o.sn;have G:y.s.D.limit = -1:=G f.o.lim;have i0:=T.blk h8 (Ii m2.o);have i1:=T.blk f.o.blk f.o.xb;clear e' c5 c7 hy e4;by_cases h0:gc=0
   ·subst h0;have m4:fc=0:=(by obtain h|h:=k;exact h.symm;cases h);subst m4;rw[iA rfl]at t;have p8:=i0.a 0;go_upto_region 17 with fail;refine sB ?_;refine _root_.Go.Proofs.YtebjhcjbfaaejaaGreatDoor.rn rfl (by go_simp<;>with_reducible rfl) ?_;simp only[nrm];refine lp λK hK=>pA 37 (.tmp 15) (.tmp 92) rfl [si A3 n3 c3] rfl rfl i1 lD rfl (by intro u hu;simp only[bB,kC,dC]at hu;subst hu;rfl) λw9 n7 n8 o8=>hK _ _ ?_;simp only[Act.put];clear hK;refine wB ?_;have HPT:=lh ((f.o.turn T S t G F h7.o n8 n7 l5.o l6.o).mono (cc':=5*i+4) (N':=300*(i+1)) (B':=12*(i+1)) (by omega) (by have:=Q.o.1;rw[cH];omega) (tA _));have hckT:=HPT.o.ct.frame.keep g5.o;clear T S t G F k b7;cases hkk:o.chk with
    | false=>rw[hkk]at hckT;have HPC:=HPT;exact Z1
    | true=>exact Z81
   rw[eA h0]at t;have HPT:=lh ((f.o.call T S t G F).mono (cc':=5*i+4) (N':=300*(i+1)) (B':=12*(i+1)) (by omega) (by have:=Q.o.1;rw[cH];omega) (by omega));have o7:(gc==0)=false:=(by rw[lE];exact h0);by_cases f0:gc=fc
   case' pos=>subst f0;have m5:(gc==gc)=true:=by simp
   case' neg=>have m5:(gc==fc)=false:=(by rw[lE];exact f0);have h5:gc=5:=k.resolve_left f0;subst h5
   all_goals
    go_upto_region 18 with fail;have hckT:=HPT.o.ct.frame.keep g5.o;clear T S t G F k b7;cases hkk:o.chk with
    | false=>rw[hkk]at hckT;have HPC:=HPT;exact Z1
    | true=>exact Z81
  obtain rfl:i=m:=(by omega);have d7:=lh (aAN d.o.ct d.o.liv.few (by omega) d.o.liv.rep b id);obtain⟨rs,rb,rn,hr⟩:∃rs rb rn,aFF c (bA b) id=(rs,rb,rn):=⟨_,_,_,rfl⟩;obtain⟨k0,c8⟩:∃k0:ByteArray,k0=⟨rs.toArray⟩:=⟨_,rfl⟩;have m6:=lh hr;have i2:=lh c8;rw[hr]at d7;have i3:Hid (∃l0 n0,(∀w':World,(if pK c (bA b)=true then uR (aIE c (bA b)) 0 w' else uR [] 6 w')=uR l0 n0 w')/\li l0<=1000000000):=lh (by
   by_cases hc:pK c (bA b)=true;·refine⟨_,_,λw'=>iA hc,?_⟩;unfold aIE;rw[cH];obtain⟨z,hz,n4⟩:=sJ.1 hc;rw[<- n4,d.o.liv.rep.ok.tx hz];have:=d.o.tx z hz;omega
   exact⟨_,_,λw'=>eA hc,by simp⟩)
  obtain⟨l0,n0,k3,k4⟩:=i3.o;have i4:=lh k3;have m7:=lh k4;clear hr c8 k3 k4 i3;go_wp2_with fail;refine d7.o.mono ?_;rintro e wa ⟨rfl,b2⟩;rw[<- i2.o];have pa:=aA b2 (d.o.blk.a 0);have d8:=lh (get23 (d.o.cat.fr b2) d.o.liv.rep.ok (by have:=d.o.len;omega) (λy hy=>by have:=d.o.tx y hy;omega) b id);rw[m6.o]at d8;have m8:=lh b2;clear b2 d7;go_wp2_with fail;refine d8.o.mono ?_;rintro e wb ⟨rfl,e5⟩;rw[<- i2.o];replace pa:=aA e5 pa;have i5:=lh (m8.o.trans e5);have d9:=lh (aOf (d.o.ct.stay i5.o) d.o.liv.few (by omega) d.o.liv.rep b);rw[i4.o]at d9;clear e5 d8;go_wp2_with fail;refine d9.o.mono ?_;rintro e wc ⟨v1,g1,rfl,e7,_,e8⟩;have i6:=e7;obtain⟨A1,k1,o1,rfl,_,_⟩:=i6;replace pa:=aA e8 pa;have i7:=lh (i5.o.trans e8);have m9:=lh e7;have d':=lh (aUg (d.o.cat.fr i7.o) d.o.liv.rep.ok (by have:=d.o.len;omega) (λy hy=>by have:=d.o.tx y hy;omega) b);rw[i4.o]at d';clear e8 d9 e7;go_wp2_with fail;refine d'.o.mono ?_;rintro e wd ⟨v2,g2,rfl,e9,_,hfd⟩;have i8:=e9;obtain⟨A2,k2,o2,rfl,_,_⟩:=i8;have m':=lh (i7.o.trans hfd);have i9:=lh (aGK (m9.o.fr hfd) e9 m7.o);clear hfd d' e9 pa;go_wp2_with fail;refine(aQa _).mono ?_;rintro e wz ⟨rfl,rfl⟩;go_wp2_with fail;refine i9.o.mono ?_;rintro e we ⟨bb,rfl,k5,k6⟩;obtain rfl:bb=true:=(by simpa using k5);have n1:=lh (m'.o.trans k6);clear k6 k5 i9;go_wp2_with fail;refine(aUT _).mono ?_;rintro e wf ⟨rfl,k7⟩;have HX:=lh (HQ.o (iz (ij true)) wf ⟨rfl,(d.o.ct.frame.trans n1.o).trans k7⟩);clear k7;go_wp2_with fail;refine(aSx _).mono ?_;rintro e wz ⟨rfl,rfl⟩;go_wp2_with fail;exact HX.o
end
end Go.Proofs.YtebjhcjbfaaejaaGreatDoor
namespace Go.Proofs.YtebjhcjbfaaejaaGreatDoor.catalogPlays
open Go.ChangeShapes Go.WideShapes Go.ChangeAt Go.RowKit

theorem own:ownKnob Tryz.prog.godebug=none:=by kernel_rfl
theorem laidOut:laidOutB Tryz.prog=true:=by kernel_rfl

set_option maxRecDepth 100000 in
theorem lifted(os:Os)(c:os.Started)(H:Type)(enc:TypeId×Value → H): ReturnsInHanded {} Tryz.checked os 5 .any (λw args=>(Rows.catalogPlaysSpec.pre enc Tryz.prog Tryz.f5 Rows.catalogPlaysRow.domain false w args ∧ laidMetH Tryz.prog mN w) ∧ sizedMet enc Tryz.prog Tryz.f5 (OpenSpec.ofChange Rows.catalogPlaysSpec) false w args) (Rows.catalogPlaysSpec.post enc Tryz.prog Tryz.f5 false true false false):=by
  refine zI (C:=Tryz.checked) (X:=λw _=>laidMetH Tryz.prog mN w) (λ_ _ _ hh h=>h.of_heap hh) own c (by kernel_rfl) Tryz.func5 (ChangeSpec.witness_shaped (enc:=enc) (C:=Tryz.checked) (os:=os) (X:=λw _=>laidMetH Tryz.prog mN w) false (World.laidAll Tryz.prog os mN) #[si none 0 0,ii ip 0,sj ⟨#[]⟩,ii ip 0] 8 (World.laidAll_os _ _ _) (World.shaped_of_ZipB (by kernel_rfl) (by kernel_rfl)) (by kernel_rfl) (by kernel_rfl) (by kernel_rfl) (by rw[aFG];exact laidMet_laidAll _ (by kernel_rfl) (by kernel_rfl))) ?_;intro W f args Z gs g d r a0 hL;have b:∀(j:Nat) t v,Tryz.f5.params[j]? = some t → args[j]? = some v → Value.okWide Tryz.prog W .any f t v:=d;have i:=r;obtain⟨p,q,k,s,rfl,u,x⟩:=r;have o:DataW.TrodAll enc Tryz.prog W 0 (λ_=>true) true Tryz.f5.params.toList args.toList Z p:=k;rw[Tryz.params5]at o b;obtain⟨v0,y,d0,z,p0,q0,l,rfl,rfl,h0,A⟩:=trodAll_cons o;obtain⟨v1,B,d1,D,p1,q1,rfl,rfl,rfl,h1,E⟩:=trodAll_cons A;obtain⟨v2,F,d2,G,p2,q2,rfl,rfl,rfl,h2,I⟩:=trodAll_cons E;obtain⟨v3,J,d3,L,p3,q3,rfl,rfl,rfl,h3,M⟩:=trodAll_cons I;obtain⟨rfl,rfl,rfl⟩:=trodAll_nil M;obtain rfl:args=#[v0,v1,v2,v3]:=by cases args;simp_all
  obtain⟨rfl,rfl⟩:=trodVars_none s;obtain⟨N,O,P,rfl⟩:=okWide_slice Tryz.underlying22 (b 0 22 v0 rfl rfl);obtain⟨Q,m⟩:=h0;obtain⟨S,n⟩:=aOd Tryz.underlying22 Tryz.underlying42 (by kernel_rfl) (by kernel_rfl) rfl rfl Tryz.underlying40 Tryz.underlying66 (by kernel_rfl) (by kernel_rfl) rfl rfl rfl rfl Tryz.underlying3 Tryz.underlying9 Tryz.underlying4 m;obtain⟨T,rfl,rfl,rfl,w1⟩:=open_int Tryz.underlying3 (b 1 3 v1 rfl rfl) h1;obtain⟨U,rfl,rfl,rfl,V⟩:=Go.ChangeMaps.open_string Tryz.underlying9 (b 2 9 v2 rfl rfl) h2;unfold maxLen at V;obtain⟨Y,rfl,rfl,rfl,w3⟩:=open_int Tryz.underlying3 (b 3 3 v3 rfl rfl) h3;refine(aIK W _ S T U Y n).mono λe W' ⟨he,hf⟩=>?_;subst he;exact⟨_,rfl,aIN laidOut (by kernel_rfl) rfl Tryz.underlying4 rfl i rfl rfl rfl hf⟩
theorem proved:Rows.CatalogPlaysSaid:=OpenClaim.holds_of_wide 5 Tryz.f5 rfl rfl rfl rfl rfl rfl rfl ⟨rfl,rfl,rfl,rfl,rfl⟩ rfl rfl rfl rfl rfl (by kernel_rfl) Tryz.func5 (by kernel_rfl) (of_decide_eq_true (by kernel_rfl)) (by unfold Func.isWrapper;first|(rw[iA (by decide +kernel)];kernel_rfl)|(rw[eA (by decide +kernel)];exact⟨rfl,rfl⟩)) (λb c d f _=>lifted b c d f)
theorem card:Rows.CatalogPlaysCardSaid:=
  Claim7.holds_tied_plain_at .later [] [.data,.pinned] true (true,"cc9bf3849ddc5e5d8828eb410803f7d98900a4d3086a6f7e2ba7dc41b37c8a2d") false proved (λ_ b=>by cases b) (by kernel_rfl) (λ_ b=>by cases b) catalogPlays_row_tie rfl ⟨rfl,rfl⟩ (by kernel_rfl) rfl (λb c d f=>by
      obtain rfl:b=5:=tE ((show Tryz.prog.funcNamed "orangery/orangerylaw23.CatalogPlays" = some 5 by kernel_rfl).symm.trans d) |>.symm;obtain rfl:c=Tryz.f5:=(tE (Tryz.func5.symm.trans f)).symm;exact⟨by kernel_rfl,λg b c=>by rw[Tryz.params5]at c;have d:b∈[22,3,9,3]:=(by simpa using Array.mem_of_getElem? c);have c:([22,3,9,3].all λf=>!Tryz.prog.wantsStandIn f)=true:=(by kernel_rfl);exact(show Tryz.prog.wantsStandIn b=false by simpa using List.all_eq_true.1 c b d)⟩)
    (by kernel_rfl)
#print axioms proved
#print axioms card
end Go.Proofs.YtebjhcjbfaaejaaGreatDoor.catalogPlays
