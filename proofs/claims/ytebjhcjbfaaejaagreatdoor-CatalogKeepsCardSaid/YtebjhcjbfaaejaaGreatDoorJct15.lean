/-
  Joined: CcG CcM
-/
import Derived.Test.YtebjhcjbfaaejaaGreatDoorJct14
set_option maxRecDepth 100000
set_option maxHeartbeats 32000000
open Go.Value renaming int->ii,slice->si,tuple->tl,agg->il
open Go.IntKind renaming i64->ip,wrap->Wi
open Go.Obj renaming cells->iy
open Go.Ending renaming returned->iz
open Or renaming inl->Ii,inr->Ij
open List renaming length->li
namespace Go.Proofs.YtebjhcjbfaaejaaGreatDoor
open Go.Proofs.Tryz
variable {F:List Value}{p:Prop}{α:Type}
section
open Go.RowKit Go.Shelf
theorem aSw(d c:Ct)(b:OpC)(l:List OpC):doC d c (b::l)=if (pQ c b).2=0 then doC d (pQ c b).1 l else (d,(pQ c b).2):=rfl
theorem aNa{β γ δ ε:Type}{H P:α->β->γ->δ->ε->Prop}(main:(∀a b c d e,H a b c d e->P a b c d e)->p)(tail:∀a b c d e,H a b c d e->P a b c d e):p:=main tail
theorem rQ:(prog.info? 37).map (·.zero)=some (some (il #[si none 0 0])):=by kernel_rfl
theorem Z11{P:Prop} (h:P:=by
 have hb6n:b6 ∉ [b8]:=by simp;omega
 have hgon:go ∉ [b8]:=by simp;omega
 refine hK _ _ (fun _=>⟨yD hf7 e6 hb6n,fun j u hu=>yD hf7 (er j u hu) hgon⟩) ?_;simp only[nrm];clear hK;refine ag 11 fun K hK=>?_;refine lA (v:=.int .i64 r.2) (by go_simp) (hK _ _ (fun _=>⟨yD hf7 e6 hb6n,fun j u hu=>yD hf7 (er j u hu) hgon⟩) ?_);simp only[nrm];clear hK;refine wd ?_ _;exact TAIL A3 n3 c3 b8 w7 (lh ⟨us3,hc8.fr hf7 (fun q hq hm=>hq.2 (xA.1 hm)),hb7,hlb,(hfd.mono (by simp)).trans (hfw8.trans hf7 fun q hq=>.inr (by rw[xA.1 hq];exact hlb')) fun q hq=>.inl hq⟩)):P:=h
theorem do23{b:Nat->Prop}{w:World}{v:Value}{c:Ct}{L:List OpV}(h:CtV b w v c F)(I:OkC c)(J:∀q,b q->q<w.heap.size){M:Nat}(g:li c+li L<=1000000)(ht:∀y∈c,li y.2<=M)(z:M+li L<=1000000){d:Value}{go:Nat}(f:kH w d (li L) (L.map OpV.cells).flatten go): Calls prog 12 #[il #[v],d] w λe d=>∃v' us',e=iz (tl #[il #[v'],ii ip (doC c c (L.map OpV.op)).2])/\CtV (λq=>b q∨w.heap.size<=q) d v' (doC c c (L.map OpV.op)).1 us'/\Fr [] w d:=by
 refine cA λb5 Z=>?_;obtain⟨n,p,rfl,_,_⟩:=jA h.own;obtain⟨b1,b2,x,rfl,b3,t⟩:=f;obtain⟨d,hm⟩:∃d,li c=d:=⟨_,rfl⟩;rw[hm]at h g⊢;obtain⟨s,f⟩:∃s,li L=s:=⟨_,rfl⟩;have A:li (L.map OpV.op)=s:=by rw[cH];exact f
 rw[f]at g z t⊢;obtain⟨g,b⟩:=nm ((w.alloc (iy #[si n d p] 37)).alloc (iy #[si none 0 0] 37));have m:Fr [] w g:=by rw[b];exact((jj [] w).alloc _).alloc _
 have C:Blk g w.heap.size 37 [si n d p]:=by rw[b];exact(jl w _ [si n d p]).alloc _
 have E:Blk g (w.heap.size+1) 37 [si none 0 0]:=by rw[b];have:=jl (w.alloc (iy #[si n d p] 37)) 37 [si none 0 0];rwa [qB]at this
 have G:Hid (g.heap.size=w.heap.size+2):=lh (by rw[b];simp);have⟨b',HH,a3,HF,c0,e7,e8,e9,HT⟩:=hh9 (aMS (h.fr m) (by rw[hm];omega) (λy B=>by have:=ht y B;omega)) h hm m C E J I ht;have⟨e',U,HN,HM⟩:=hh4 t A f z;clear h hm m C E J I ht t A f z;go_enter func12,ntmps12;go_upto_region 1 with fail;rw[<- b];clear b;have J:=c0.o.a 0;refine sB ?_;refine ab ?_;refine lp λK hK=>kA (l:=[.tmp 10]) rfl [il #[si n d p]] rfl (λw=>by kernel_rfl) (b'.o.mono ?_);rintro e A ⟨v1,O,rfl,g,b⟩;refine⟨_,rfl,hK _ _ ?_⟩;simp only[nrm];clear hK;refine lp λK hK=>gB 37 rfl (il #[si none 0 0]) [si none 0 0] rQ rfl λb7 t C Q=>hK _ _ ?_;simp only[nrm];clear hK;obtain⟨b6,m⟩:=nm (A.heap.size);rw[<- m]at t⊢;refine lp λK hK=>pA 37 (.tmp 6) (.tmp 11) rfl [v1] rfl rfl t lD rfl (by intro u hu;simp only[bB,kC,dC]at hu;subst hu;obtain⟨_,_,rfl,_,_⟩:=jA g.own;rfl) λE I z S=>hK _ _ ?_;simp only[Act.put];clear hK;refine wB ?_;have N:Hid (DoR w c (L.map OpV.op) M b6 (si n d p) s (ii ip 0) E):=lh (by have a4:=b.size;have a5:=z.size;have a6:=G.o;have f:Fr [] A E:=(C.trans z λq hq=>Ij (by rw[xA.1 hq,m];exact tA _));refine⟨0,c,v1,O,by rw[U.o];omega,rfl,by rw[List.drop_zero],e9.o,by omega,HT.o,?_,I,(c0.o.fr b).fr f,(e7.o.fr b).fr f,(HF.o.trans b).trans f⟩;exact(g.below.fr f).more λq hq=>⟨by omega,by omega,by have:=f.size;omega⟩);have R:Hid (w.heap.size+2<=b6):=lh (by have:=b.size;have:=G.o;omega);clear g b t C Q I z S m J b';go_upto_region 3 with fail;go_loopg [7] s (λj v7 wr=>DoR w c (L.map OpV.op) M b6 (si n d p) j v7 wr);·exact N.o
 obtain⟨i,I,f,W,G,rfl,g,m,Y,t,z,A,b,C,E⟩:=hrel;rw[U.o]at G;have⟨c1,c4,c5,V,H6,H2,H4,X⟩:=hh8 g m t z A b C E;clear g m t z A b C E;by_cases m:i<s
 ·obtain⟨o,z⟩:∃o,L[i]? = some o:=gx (by rw[HN.o];exact m);obtain⟨rfl,A⟩:=e'.o (by omega);have O:wr.rangeAt go (x+i*4) o.cells:=λj u hu=>by
   have m:j<4:=(uC.1 hu).1;have E:=mQ (k:=4) (L.map OpV.cells) (λa2 C=>by obtain⟨a1,_,rfl⟩:=kI.1 C;rfl) i o.cells (by rw[wI,z];rfl) j m;have b:=A (4*i+j) u (by rw[E];exact hu);have m:=aA X.o b;rwa [show x+(4*i+j)=x+i*4+j by omega]at m
  have J:(L.map OpV.op).drop i=o.op::(L.map OpV.op).drop (i+1):=xK (by rw[wI,z];rfl);have g:=c1.o;rw[J,aSw]at g;have m:=lh g;obtain⟨r,t⟩:∃r,pQ I o.op=r:=⟨_,rfl⟩;have N:li r.1<=d+(i+1):=(by rw[<- t];have:=aOk I o.op;rw[a3.o]at Y;omega);have Q:∀y∈r.1,li y.2<=M+(i+1):=(by rw[<- t];exact aSs c5.o o.op);have S:OkC r.1:=(by rw[<- t];exact aOl c4.o o.op);have⟨c',d0,d1⟩:=hh3 N Q S;have a7:(i:Int)<(s:Int):=(by omega);have a8:Wi ip ((i:Int)+1)=((i+1:Nat):Int):=ak;have G:=lh fun(b:World) (D:Nat->Prop) (hc:CtV D b f I W) (hd:∀q,D q->q<b.heap.size)=>aPW hc c4.o (by rw[a3.o]at Y;omega) (λy B=>by have:=c5.o y B;have:=HM.o;omega) hd o;rw[t]at G m;have a9:go<w.heap.size:=dI (A (4*i+0) _ (by rw[mQ (k:=4) (L.map OpV.cells) (λa2 C=>by obtain⟨a1,_,rfl⟩:=kI.1 C;rfl) i _ (by rw[wI,z];rfl) 0 (by omega)];rfl));clear z A J g t N Q S;go_upto_region 5 with fail;have e6:wr.drew.cell? ⟨b6,0,none⟩=some f:=H6.o.a 0;have er:wr.drew.rangeAt go (x+i*4) o.cells:=O;have hfd:Fr [] wr wr.drew:=(jj [] wr).drew;have a1:=H6.o.lt;have J:b6∉f.ownBlock.toList:=λhq=>(V.o.blk b6 (by simpa using hq)).2.1 rfl;have Q:go∉f.ownBlock.toList:=λhq=>(by have E:=(V.o.blk go (by simpa using hq)).1;omega);have a2:=X.o.size;have a':go<wr.heap.size:=(by omega);apply aNa (H:=λA3 n3 c3 b8 b=>Hid (∃us3,DoD w wr (λq=>w.heap.size+2<=q/\q≠b6/\q<wr.heap.size) f r (si A3 n3 c3) us3 b8 b))
  case main=>
   intro TAIL;refine aj (λb=>b.cell? ⟨b6,0,none⟩=some f/\b.rangeAt go (x+i*4) o.cells) [0,1,2,3,4,6,7,8] ?_;refine tks [0,1,2,3] ?_;iterate 4 (refine ac ⟨e6,er⟩ ?_)
   refine tke ?_;refine tv 4 (il o.cells.toArray) rfl rfl ⟨e6,er⟩ (Ii ⟨rfl,λb B=>aPX rfl rfl B.2 underlying66 rfl (by kernel_rfl)⟩) ?_;simp only[nrm];refine jJ (i:=5) (j:=9) (some 24) (some 8) rfl rfl rfl rfl (by kernel_rfl) rfl rfl (λK hK=>?_) (λK hK=>?_)
   ·
    refine kA (l:=[.tmp 19,.tmp 23]) rfl [il #[f],il o.cells.toArray] rfl (aCx _) ((G.o wr.drew _ (V.o.fr hfd) (λq hq=>iL hq.2.2 hfd.size)).mono ?_);rintro e S ⟨v3,us3,rfl,C,z⟩;replace e6:=yD z e6 J;replace er:S.rangeAt go (x+i*4) o.cells:=λj u hu=>yD z (er j u hu) Q;refine⟨_,rfl,hK _ _ (λ_=>⟨e6,er⟩) ?_⟩;simp only[nrm];clear hK;obtain⟨A3,n3,c3,rfl⟩:∃A3 n3 c3,v3=si A3 n3 c3:=(by obtain⟨A3,c3,rfl,_,_⟩:=jA C.own;exact⟨_,_,_,rfl⟩);refine tv 6 (tl #[il #[si A3 n3 c3],ii ip r.2]) rfl rfl ⟨e6,er⟩ (Ii ⟨rfl,λb B=>by go_simp⟩) ?_;simp only[nrm];refine tv 7 (il #[si A3 n3 c3]) rfl rfl ⟨e6,er⟩ (Ii ⟨rfl,λb B=>by go_simp⟩) ?_;simp only[nrm];refine tv 8 (ii ip r.2) rfl rfl ⟨e6,er⟩ (Ii ⟨rfl,λb B=>by go_simp⟩) ?_;simp only[nrm];refine ag 9 λK hK=>gB 37 rfl (il #[si none 0 0]) [si none 0 0] rQ rfl λA E t Y=>?_;replace e6:=aA t e6;replace er:A.rangeAt go (x+i*4) o.cells:=λj u hu=>aA t (er j u hu);refine hK _ _ (λ_=>⟨e6,er⟩) ?_;simp only[nrm];clear hK;obtain⟨b8,N⟩:=nm (S.heap.size);rw[<- N]at E⊢;have hlb':wr.drew.heap.size<=b8:=(by have:=z.size;omega);have hlb:wr.heap.size<=b8:=vD hfd.size hlb';have hc8:=(C.below.fr t).more (D':=λq=>((w.heap.size+2<=q/\q≠b6/\q<wr.heap.size)∨wr.heap.size<=q)/\q≠b8) λq hq=>⟨by obtain h|h:=hq.1;exact Ii h;exact Ij (by have:=hfd.size;omega),by omega⟩;have hfw8:=z.trans t;refine ah 10 λK hK=>pA 37 (.tmp 8) (.tmp 25) rfl [si A3 n3 c3] rfl rfl E lD rfl (by intro u hu;simp only[bB,kC,dC]at hu;subst hu;rfl) λw7 hb7 hf7 S=>?_;exact Z11
   ·
    refine gB 37 rfl (il #[si none 0 0]) [si none 0 0] rQ rfl λA E t Y=>?_;replace e6:=aA t e6;replace er:A.rangeAt go (x+i*4) o.cells:=λj u hu=>aA t (er j u hu);refine hK _ _ (λ_=>⟨e6,er⟩) ?_;simp only[nrm];clear hK;obtain⟨b8,N⟩:=nm (wr.drew.heap.size);rw[<- N]at E⊢;refine ag 5 λK hK=>kA (l:=[.tmp 19,.tmp 23]) rfl [il #[f],il o.cells.toArray] rfl (aCx _) ((G.o A _ ((V.o.fr hfd).fr t) (λq hq=>iL hq.2.2 (vD hfd.size t.size))).mono ?_);rintro e A ⟨v3,us3,rfl,C,z⟩;replace e6:=yD z e6 J;replace er:A.rangeAt go (x+i*4) o.cells:=λj u hu=>yD z (er j u hu) Q;refine⟨_,rfl,hK _ _ (λ_=>⟨e6,er⟩) ?_⟩;simp only[nrm];clear hK;obtain⟨A3,n3,c3,rfl⟩:∃A3 n3 c3,v3=si A3 n3 c3:=(by obtain⟨A3,c3,rfl,_,_⟩:=jA C.own;exact⟨_,_,_,rfl⟩);refine tv 6 (tl #[il #[si A3 n3 c3],ii ip r.2]) rfl rfl ⟨e6,er⟩ (Ii ⟨rfl,λb B=>by go_simp⟩) ?_;simp only[nrm];refine tv 7 (il #[si A3 n3 c3]) rfl rfl ⟨e6,er⟩ (Ii ⟨rfl,λb B=>by go_simp⟩) ?_;simp only[nrm];refine tv 8 (ii ip r.2) rfl rfl ⟨e6,er⟩ (Ii ⟨rfl,λb B=>by go_simp⟩) ?_;simp only[nrm];have hlb':wr.drew.heap.size<=b8:=(by omega);have hlb:wr.heap.size<=b8:=vD hfd.size hlb';have b:=E.fr z (λhm=>by have:=(V.o.blk b8 (by simpa using hm)).2.2;have:=hfd.size;omega);have hc8:=C.more (D':=λq=>((w.heap.size+2<=q/\q≠b6/\q<wr.heap.size)∨wr.heap.size<=q)/\q≠b8) λq hq=>by
     have:=hfd.size;obtain h|h:=hq;·exact⟨Ii h,by omega⟩
     exact⟨Ij (by omega),by omega⟩
    have hfw8:=(t.mono (T:=f.ownBlock.toList) (by simp)).trans z λq hq=>Ii hq;refine ah 10 λK hK=>pA 37 (.tmp 8) (.tmp 25) rfl [si A3 n3 c3] rfl rfl b lD rfl (by intro u hu;simp only[bB,kC,dC]at hu;subst hu;rfl) λw7 hb7 hf7 S=>?_;exact Z11
  intro A3 n3 c3 b8 b4 S;obtain⟨us3,b⟩:=S.o;have E:=lh b.ct.below;have t:∀q,q<w.heap.size+2->q∉f.ownBlock.toList:=λq hq hm=>(by have:=(V.o.blk q (by simpa using hm)).1;omega);have x:=b.blk;have C:=H6.o.fr b.fr J;have z:=H2.o.fr b.fr (t _ (by omega));have J:=H4.o.fr b.fr (t _ (by omega));have B:=lh (X.o.trans b.fr λN Q=>Ij (by have:=(V.o.blk N (by simpa using Q)).1;omega));have Y:=b.fr.size;have⟨g7,f2,d7,a0⟩:=hh4 x C z J;have N:=x.a 0;have Q:=z.a 0;have b0:=b.new;clear b S x C z J t hfd e6 er O G;obtain⟨J,C⟩:=r;simp only at c' d0 d1 m E;by_cases z:C=0
  ·subst z;rw[iA rfl]at m;go_upto_region 8 with fail;refine sB ?_;refine ab ?_;refine lp λK hK=>pA 37 (.tmp 6) (.tmp 31) rfl [si A3 n3 c3] rfl rfl f2.o lD rfl (by intro u hu;simp only[bB,kC,dC]at hu;subst hu;rfl) λA t b x=>hK _ _ ?_;simp only[Act.put];clear hK;refine wB ?_;have O:=R.out;have G:Hid (DoR w c (L.map OpV.op) M b6 (si n d p) (s-(i+1)) (ii ip ((i+1:Nat):Int)) A):=lh (by
    refine⟨i+1,J,si A3 n3 c3,us3,by rw[U.o];omega,rfl,m.o,d1.o,by rw[a3.o];exact c'.o,d0.o,?_,t,d7.o.fr b (by simp;omega),a0.o.fr b (by simp;omega),B.o.trans b λq hq=>Ij (by rw[xA.1 hq];omega)⟩;refine(E.o.fr b (λq hq hm=>?_)).more λq hq=>?_
    ·have:=xA.1 hm;obtain h|h:=hq.1.1
     ·exact h.2.1 this
     omega
    have:=b.size;obtain h|h:=hq.1.1;·exact⟨h.1,h.2.1,by omega⟩
    exact⟨by omega,by omega,by omega⟩)
   clear t b x N Q;go_wp2_with fail;go_roundg (s-(i+1))
   case measure=>omega
   case rel=>exact G.o
  have E:(C==0)=false:=(by rw[lE];exact z);rw[eA z]at m;clear z;go_upto_region 7 with fail;refine sB ?_;iterate 2 (refine ab ?_)
  refine lp λK hK=>pA 37 (.tmp 4) (.tmp 29) rfl [si n d p] rfl rfl a0.o lD rfl (by intro u hu;simp only[bB,kC,dC]at hu;subst hu;rfl) λA t b x=>hK _ _ ?_;simp only[Act.put];clear hK;refine ab ?_;refine wB ?_;have⟨HB9,HX⟩:=hh2 t (Z.o (iz (tl #[il #[si n d p],ii ip C])) A ⟨_,F,by rw[m.o],by rw[m.o];exact((HH.o.fr B.o).fr b (λq hq hm=>by have:=e8.o q hq;have:=xA.1 hm;omega)).more (λq hq=>Ii hq),B.o.trans b λq hq=>Ij (by rw[xA.1 hq];omega)⟩);clear t b x N Q;exact Z84
 obtain rfl:i=s:=(by omega);have g:=c1.o;rw[sO (by rw[U.o];exact tA _)]at g;have m:Hid (doC c c (L.map OpV.op)=(I,0)):=lh g;have d:=H6.o.a 0;obtain⟨A3,n3,c3,rfl⟩:∃A3 n3 c3,f=si A3 n3 c3:=(by obtain⟨A3,c3,rfl,_,_⟩:=jA V.o.own;exact⟨_,_,_,rfl⟩);clear g;go_upto_region 9 with fail;refine sB ?_;refine ab ?_;refine lp λK hK=>pA 37 (.tmp 4) (.tmp 32) rfl [si A3 n3 c3] rfl rfl H4.o lD rfl (by intro u hu;simp only[bB,kC,dC]at hu;subst hu;rfl) λA t b x=>hK _ _ ?_;simp only[Act.put];clear hK;refine ab ?_;refine wB ?_;have⟨HB9,HX⟩:=hh2 t (Z.o (iz (tl #[il #[si A3 n3 c3],ii ip 0])) A ⟨_,W,by rw[m.o],by rw[m.o];exact(V.o.fr b (λq hq hm=>by have:=xA.1 hm;omega)).more (λq hq=>Ij (by omega)),X.o.trans b λq hq=>Ij (by rw[xA.1 hq];omega)⟩);clear t b x d;exact Z84
end
section
open Go.RowKit Go.ChangeMaps Go.MapKept Go.Maps Go.Sort Go.Shelf
theorem tU(b:Array Value)(w:World):(callFunc 12 b).run prog w=.ok (.enter 12 b) w:=by kernel_rfl
theorem aAP{b:RdA}(h:OkRd b):∀p∈b.L,OkO p.op:=λp b=>⟨by show(bA p.cs).length<=100;rw[yA];exact(h.2 p b).1,by show(bA p.ts).length<=1500;rw[yA];exact(h.2 p b).2⟩
end
end Go.Proofs.YtebjhcjbfaaejaaGreatDoor
