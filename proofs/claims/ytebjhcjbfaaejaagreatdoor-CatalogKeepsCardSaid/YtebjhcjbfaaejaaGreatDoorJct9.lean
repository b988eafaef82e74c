/-
  Joined: Ql Qm Qn Qo Qp Rpl By Ua Ub Uc Ue Ea Eb Eg Fa Fb Ei Fd Ec Fg
-/
import Derived.Lib.Strings
import Derived.Test.YtebjhcjbfaaejaaGreatDoorChecked
import Derived.Lib.AtoiAll
import Derived.Lib.ItoaMem
import Derived.Laws.RangeString
import Derived.Laws.IdiomStrings
import Derived.Lib.SlTrimSet
import Derived.Shelf.Strings.SlTrimAscii
import Derived.Shelf.Strings.Builder1
import Derived.Shelf.Strings.Builder2
import Derived.Shelf.Strings.Trim
import Derived.Shelf.Small.Utf8
import Derived.Shelf.Small.Bits
import Derived.Shelf.Small.Strs
import Derived.Shelf.Small.Wraps
import Derived.Shelf.Strings.BuilderF
import Derived.Shelf.Strings.BuilderK
import Derived.Shelf.Strconv.Itoa0
import Derived.Shelf.Strings.Search1
import Derived.Shelf.Strings.Search2
import Derived.Shelf.Strings.Search3
import Derived.Shelf.Strings.Count
import Derived.Shelf.LaysM
import Derived.Shelf.Strings.Shaped
import Derived.Shelf.Strings.Runes
import Derived.Shelf.Strings.AsciiSet
import Derived.Shelf.Unicode.DecodeSlow
import Derived.Shelf.SortM.Plain
import Derived.Shelf.SortM.SortNone
import Derived.Test.YtebjhcjbfaaejaaGreatDoorProg
import Derived.Lib.OthersKept
import Derived.Test.YtebjhcjbfaaejaaGreatDoorJct8
set_option maxRecDepth 100000
set_option maxHeartbeats 32000000
open Go.Value renaming int->ii,slice->si,string->sj,pointer->pi,tuple->tl,bool->ij,agg->il
open Go.IntKind renaming i64->ip,u8->ix,wrap->Wi
open Go.Obj renaming cells->iy
open Go.Ending renaming returned->iz
open Or renaming inl->Ii,inr->Ij
open List renaming length->li,replicate->ji,mem_filter->cL,foldl_append->wU,flatten_cons->cT,drop_eq_nil_of_le->aAU,filter_cons->aHu
open List.Mem renaming head->Hi
open UInt8 renaming ofNat->Ot
open Go.Proofs.Tryz renaming underlying9->nO,func107->aDs,ntmps107->aDt,func218->aDu,ntmps218->aDv
open Nat renaming le_add_right->aHl,mul_succ->aHp,pow_zero->aHv
namespace Go.Proofs.YtebjhcjbfaaejaaGreatDoor
open Go.Proofs.Tryz
variable {k i j m c d:Nat}{W:World}{q:List UInt8}{S:PS}{α:Type}{B:UInt8}
section
open Go.RowKit Go.ChangeMaps Go.MapKept Go.Maps Go.Sort Go.Shelf
def rdZ (pg:Nat->List UInt8) (n:Nat):CD:={ pg:=pg,n:=n,next:=0,head:=0,roots:=fun _=>0,M:=[],S:=[],e:=0 }
def rdK (pg:Nat->List UInt8) (n:Nat) (b:List UInt8) (k:Nat):CD:={ pg:=pg,n:=n,next:=r16 (b.drop 2),head:=r16 (b.drop 4),roots:=fun t=>if t<k then r16 (b.drop (6+2*t)) else 0,M:=[],S:=[],e:=0 }
def rdC (pg:Nat->List UInt8) (n:Nat) (b:List UInt8):CD:=
 if b=jE then { pg:=pg,n:=n,next:=1,head:=0,roots:=fun _=>0,M:=[],S:=[],e:=0 }
 else { pg:=pg,n:=n,next:=r16 (b.drop 2),head:=r16 (b.drop 4),roots:=fun t=>r16 (b.drop (6+2*t)),M:=[],S:=[],e:=0 }
theorem aGl(pg:Nat->List UInt8)(n:Nat):rdC pg n (pg 0)=oD pg n:=rfl
theorem aRm(pg:Nat->List UInt8)(n:Nat)(b:List UInt8)(k:Nat):(rdK pg n b k).root k (r16 (b.drop (6+2*k)))=rdK pg n b (k+1):=by
 unfold rdK CD.root;simp only[CD.mk.injEq,true_and,and_true];funext j;unfold oE;by_cases c:j=k;·rw[iA c,c,iA (by omega)]
 rw[eA c];by_cases c:j<k;·show(if j<k then _ else _)=_;rw[iA c,iA (by omega)]
 show(if j<k then _ else _)=_;rw[eA c,eA (by omega)]
theorem aRn(w:World):(Instr.makeSlice 67 (ii ip 512) (ii ip 512)).run prog w=.ok (si w 512 512) (w.alloc (iy (gA jE).toArray 5)):=by
 obtain⟨d,f,g,c,h⟩:=info_parts yN;have b:=run_makeSlice (P:=prog) w 67 5 d _ Go.Proofs.Tryz.underlying67 f g ip ip 512 512 (by omega) (by omega) (by rw[c];decide) (by rw[h];decide) (by omega);have e:madeCells #[ii ix 0] 512=(gA jE).toArray:=by have:=tW 8;have d:(DM.new 8).S.flatten=ji (8*64) 0:=List.flatten_replicate_replicate;rw[d]at this;rw[show jE=ji (8*64) 0 from rfl,<- this]
 rw[c]at b;exact b.trans (by rw[<- e];rfl)
theorem aBP(b:Array Value)(w:World):(callFunc 105 b).run prog w=.ok (.enter 105 b) w:=by kernel_rfl
theorem aNK{b:List UInt8}{j:Nat}{x:UInt8}(h:b.getD j 0=x)(c:j<li b):b[j]? = some x:=by rw[vR,kE c]at h;rw[kE c];exact congrArg some h
theorem aEM:li jE=512:=by unfold jE;rw[kV]
theorem aTf{w:World}{g bs n:Nat}{pg:Nat->List UInt8}{v:Value}{w9:List UInt8}(E:Blk w m 142 (chC (rdZ pg n) g c bs))(A:dA w v w9 d)(F:d≠m)(t:li w9=512) (G:w9=jE∨(w9≠jE/\w9.getD 0 0=79/\w9.getD 1 0=82))(h1:1<=(rdC pg n w9).next): Calls prog 95 #[pi (some ⟨m,0,none⟩),v] w λe w'=>e=iz (ij true)/\Blk w' m 142 (chC (rdC pg n w9) g c bs)/\Fr [m] w w':=by
 obtain⟨k,r⟩:=nm (w.alloc (iy (gA jE).toArray 5));have f:Fr [] w k:=by rw[r];exact(jj [] w).alloc _
 have u:dA k (si (some ⟨w.heap.size,0,none⟩) 512 512) jE w.heap.size:=by rw[r];have h:=dA.of_blk (jl w 5 (gA jE)) 512 (by rw[aEM];exact tA _);rw[aEM]at h;exact h
 have z:=lh (aCm (A.fr f) u);have p:=aRn w;rw[<- r]at p;obtain⟨W,p,q,rfl,H,s⟩:=A;obtain⟨rfl,A⟩:=s (by omega);clear A;rw[t]at H z⊢;have A:dA w (si (some ⟨d,q,none⟩) 512 p) w9 d:=⟨_,p,q,by rw[t],by omega,s⟩;have⟨HV,HB,D,HM,H1,x,HG,O⟩:=hh8 A (E.fr f) t G h1 f F s;clear u E t G h1 F f r A s;refine cA λJ L=>?_;go_enter func95,ntmps95;go_wp2_with fail;refine z.o.mono ?_;rintro e X ⟨rfl,rfl⟩;by_cases f:w9=jE
 ·rw[yJ f];have r:=HB.o.free 0;have s:=HB.o.lt;have H:=HB.o.a 0;have HX:Hid (J (iz (ij true)) (k.setCell ⟨m,0,none⟩ (ii ip 1))):=lh (L.o _ _ ⟨rfl,by
   have h:=HB.o.set_ 0 (ii ip 1);unfold rdC;rw[iA f];exact h,(x.o.mono (by simp)).trans ((jj [m] k).setCell (Ii (by simp)) _) (λV G=>Ii G)⟩)
  have N:=lh f;clear f;go_wp2_with fail;exact HX.o
 rw[vH f];obtain⟨I,A⟩:w9.getD 0 0=79/\w9.getD 1 0=82:=by
  obtain h|⟨_,h1,t⟩:=HM.o;·exact absurd h f
  exact⟨h1,t⟩
 have t:rdC pg n w9={ pg:=pg,n:=n,next:=r16 (w9.drop 2),head:=r16 (w9.drop 4),roots:=λu=>r16 (w9.drop (6+2*u)),M:=[],S:=[],e:=0 }:=eA f;have E:1<=r16 (w9.drop 2):=by have:=H1.o;rw[t]at this;exact this
 have Q:=lh t;have u:=(O.o (by have:=D.o;omega)).2;have U:=D.o;have z:=aA x.o (u 0 (ii ix 79) (by rw[sH,aNK I (by omega)];rfl));have F:=aA x.o (u 1 (ii ix 82) (by rw[sH,aNK A (by omega)];rfl));rw[gV]at z;have⟨c1,c2,N,a8,T⟩:=hh5 z F f E (HV.o.fr x.o);clear I A t E u z F f U;have u:∀w,_:=λw=>xH (P:=prog) Go.Proofs.Tryz.underlying67 rfl (some ⟨d,q,none⟩) 512 p 2 ip (by omega) w;have z:∀w,_:=λw=>xH (P:=prog) Go.Proofs.Tryz.underlying67 rfl (some ⟨d,q,none⟩) 512 p 4 ip (by omega) w;rw[eA (by omega)]at u z;simp only[tO,Go.Addr.add_mid]at u z;have f:=T.o.from_ 2 (by have:=D.o;omega);have t:=T.o.from_ 4 (by have:=D.o;omega);rw[eA (by omega),D.o]at f t;simp only[tO,Go.Addr.add_mid]at f t;have⟨a9,c3,c4⟩:=hh3 (nK (f.fr (w':=k.drew) ((jj [] k).drew) (by simp)) (by rw[vB];have:=D.o;omega)) t (HB.o.fr ((jj [] k).drew));clear f t;go_upto_region 4 with fail;refine aj (λ_=>True) [0,1,2,3,5,6,8,9,11,12] ?_;refine tks [0,1,2] ?_;iterate 3 (refine ac trivial ?_)
 refine tke ?_;refine tv 3 (si (some ⟨d,q+2,none⟩) 510 (p-2)) rfl rfl trivial (Ii ⟨rfl,λt _=>gH rfl rfl rfl rfl (u t)⟩) ?_;simp only[nrm];refine tks [5] ?_;refine ac trivial ?_;refine tke ?_;refine tv 6 (si (some ⟨d,q+4,none⟩) 508 (p-4)) rfl rfl trivial (Ii ⟨rfl,λt _=>gH rfl rfl rfl rfl (z t)⟩) ?_;simp only[nrm];refine ag 4 λK hK=>?_;refine kA (l:=[.tmp 15]) rfl [si (some ⟨d,q+2,none⟩) 510 (p-2)] rfl (aBP _) (a9.o.mono ?_);rintro e E ⟨rfl,u,rfl⟩;refine⟨_,rfl,hK _ _ (λ_=>trivial) ?_⟩;simp only[nrm];clear hK a9;have f:Fr [] k (k.drew.drewN u):=((jj [] k).drew).drewN u;generalize k.drew.drewN u=E at *;have z:=lh (nK (c3.o.fr f) (by rw[vB];have:=D.o;omega));refine ag 7 λK hK=>?_;refine kA (l:=[.tmp 18]) rfl [si (some ⟨d,q+4,none⟩) 508 (p-4)] rfl (aBP _) (z.o.mono ?_);rintro e u ⟨rfl,F,rfl⟩;refine⟨_,rfl,hK _ _ (λ_=>trivial) ?_⟩;simp only[nrm];clear hK z;have z:Fr [] k (E.drewN F):=f.drewN F;generalize E.drewN F=u at *;have⟨y,b0⟩:=hh2 (HB.o.fr z) z;clear z f c4;have r:=y.o.free 0;have s:=y.o.lt;have H:=y.o.a 0;refine tks [8,9] ?_;iterate 2 (refine ac trivial ?_)
 refine tke ?_;refine ah 10 λK hK=>?_;refine rB (w':=u.setCell ⟨m,0,none⟩ (ii ip ((r16 (w9.drop 2):Nat):Int))) (by go_simp) (hK _ _ (λ_=>trivial) ?_);simp only[Act.put];clear hK;have f:=lh (y.o.set_ 0 (ii ip ((r16 (w9.drop 2):Nat):Int)));have z:Hid (Fr [m] k (u.setCell ⟨m,0,none⟩ (ii ip ((r16 (w9.drop 2):Nat):Int)))):=lh ((b0.o.mono (by simp)).setCell (Ii (by simp)) _);clear r s H;generalize u.setCell ⟨m,0,none⟩ (ii ip ((r16 (w9.drop 2):Nat):Int))=u at *;have r:=f.o.free 1;have s:=f.o.lt;have E:=f.o.at_ (i:=1) (v:=ii ip 0) rfl;refine tks [11,12] ?_;iterate 2 (refine ac trivial ?_)
 refine tke ?_;refine ah 13 λK hK=>?_;refine rB (w':=u.setCell ⟨m,1,none⟩ (ii ip ((r16 (w9.drop 4):Nat):Int))) (by go_simp) (hK _ _ (λ_=>trivial) ?_);simp only[Act.put];clear hK;refine wd ?_ _;have F:Hid (Blk (u.setCell ⟨m,1,none⟩ (ii ip ((r16 (w9.drop 4):Nat):Int))) m 142 (chC (rdK pg n w9 0) g c bs)):=lh (f.o.set_ 1 (ii ip ((r16 (w9.drop 4):Nat):Int)));have H:Hid (Fr [m] k (u.setCell ⟨m,1,none⟩ (ii ip ((r16 (w9.drop 4):Nat):Int)))):=lh (z.o.setCell (Ii (by simp)) _);clear r s E f z y b0;generalize u.setCell ⟨m,1,none⟩ (ii ip ((r16 (w9.drop 4):Nat):Int))=Y at *;go_wp2_with fail;go_loopw [24] (λv wr=>∃f:Nat,f<=8/\v=ii ip (f:Int)/\Blk wr m 142 (chC (rdK pg n w9 f) g c bs)/\Fr [m] k wr) (λv _=>8-(intOf v).toNat);·exact⟨0,by omega,rfl,F.o,H.o⟩
 obtain⟨f,U,rfl,u,z⟩:=hrel;have⟨Z,B⟩:=hh2 u z;clear u z;by_cases E:f<8
 ·have A:Wi ip (2*(f:Int))=2*(f:Int):=ak;have I:Wi ip (6+2*(f:Int))=6+2*(f:Int):=ak;have N:=wi f (by omega);have z:∀w,_:=λw=>xH (P:=prog) Go.Proofs.Tryz.underlying67 rfl (some ⟨d,q,none⟩) 512 p (6+2*f) ip (by omega) w;have u:((6+2*f:Nat):Int)=6+2*(f:Int):=(by omega);rw[eA (by omega),u]at z;simp only[tO,Go.Addr.add_mid]at z;clear u;have H:Hid (∀w,(Instr.sliceAt 67 (si (some ⟨d,q,none⟩) 512 p) (some (ii ip (6+2*(f:Int)))) none none).run prog w=.ok (si (some ⟨d,q+(6+2*f),none⟩) (512-(6+2*f)) (p-(6+2*f))) w):=lh z;have z:=T.o.from_ (6+2*f) (by have:=D.o;omega);rw[eA (by omega),D.o]at z;simp only[tO,Go.Addr.add_mid]at z;have A:Fr [m] k wr.drew:=B.o.drew;have F:=lh (nK (z.fr A (by have:=HG.o;simpa using this)) (by rw[vB];have:=D.o;omega));clear z A;go_upto_region 8 with fail;refine aj (λ_=>True) [0,1,2,3,4,5,6,8,9,10] ?_;refine tks [0,1,2,3,4,5] ?_;iterate 6 (refine ac trivial ?_)
  refine tke ?_;refine tv 6 (si (some ⟨d,q+(6+2*f),none⟩) (512-(6+2*f)) (p-(6+2*f))) rfl rfl trivial (Ii ⟨rfl,λt _=>gH rfl rfl rfl rfl (H.o t)⟩) ?_;simp only[nrm];refine tks [8,9] ?_;iterate 2 (refine ac trivial ?_)
  refine tke ?_;refine ag 7 λK hK=>?_;refine kA (l:=[.tmp 33]) rfl [si (some ⟨d,q+(6+2*f),none⟩) (512-(6+2*f)) (p-(6+2*f))] rfl (aBP _) (F.o.mono ?_);rintro e p ⟨rfl,q,rfl⟩;refine⟨_,rfl,hK _ _ (λ_=>trivial) ?_⟩;simp only[nrm];clear hK F;have⟨C,b4⟩:=hh2 (Z.o.fr (((jj [] wr).drew).drewN q)) (B.o.drew.drewN q);generalize wr.drew.drewN q=p at *;have r:=C.o.free (2+f);have s:=C.o.lt;have u:=C.o.at_ (bH _ g c bs E);refine tks [10] ?_;refine ac trivial ?_;refine tke ?_;refine ah 11 λK hK=>?_;refine rB (w':=p.setCell ⟨m,2+f,none⟩ (ii ip ((r16 (w9.drop (6+2*f)):Nat):Int))) (by go_simp) (hK _ _ (λ_=>trivial) ?_);simp only[Act.put];clear hK;refine wd ?_ _;have HX:Hid (∃j:Nat,j<=8/\ii ip ((f:Int)+1)=ii ip (j:Int)/\Blk (p.setCell ⟨m,2+f,none⟩ (ii ip ((r16 (w9.drop (6+2*f)):Nat):Int))) m 142 (chC (rdK pg n w9 j) g c bs)/\Fr [m] k (p.setCell ⟨m,2+f,none⟩ (ii ip ((r16 (w9.drop (6+2*f)):Nat):Int)))):=lh ⟨f+1,E,rfl,by have h:=C.o.set_ (2+f) (ii ip ((r16 (w9.drop (6+2*f)):Nat):Int));rw[aNJ _ g c bs E,aRm]at h;exact h,b4.o.setCell (Ii (by simp)) _⟩;clear r s u C b4;exact Z7
 obtain rfl:f=8:=(by omega);have f:=aB B.o (by have:=HG.o;simpa using this) c1.o;have k:=aB B.o (by have:=HG.o;simpa using this) c2.o;have p:=Z.o.at_ (i:=0) (v:=ii ip ((r16 (w9.drop 2):Nat):Int)) rfl;have q:(0:Int)<((r16 (w9.drop 2):Nat):Int):=(by have:=a8.o;omega);have r:0<r16 (w9.drop 2):=(by have:=a8.o;omega);have HX:Hid (J (iz (ij true)) wr):=lh (L.o _ _ ⟨rfl,by rw[Q.o];exact Z.o,(x.o.mono (by simp)).trans B.o (λV G=>Ii G)⟩);go_wp2_with fail;exact HX.o
section
variable {P:Program}{md:Region.Mode}{ops:Array Oper}{Q:Exit->Act->World->Prop}{S1 S2:World->Prop}{I:List Nat}
theorem aY(d:∀W,S1 W->S2 W):∀(b:Nat) {c:Array Bool} {a:Act} {w:World},lG P md ops Q S1 I b c a w->lG P md ops Q S2 I b c a w
 | 0,_,_,_,h=>h
 | b+1,_listed,_a,_w,h=>⟨h.1,λg i=>wpOp_mono (λ_ _ f=>⟨λj=>d _ (f.1 j),aY d b f.2⟩) (h.2 g i)⟩
end
theorem dI{w:World}{g j:Nat}{v:Value}(h:w.cell? ⟨g,j,none⟩=some v):g<w:=by
 obtain b|b:=iR g w;·exact b
 have:w.cell? ⟨g,j,none⟩=none:=by simp[World.cell?,Array.getElem?_eq_none b]
 rw[h]at this;cases this
theorem aPm{w:World}{v:Value}{bs:List UInt8}{g:Nat}(h:dA w v bs g)(h0:0<li bs):g<w:=by obtain⟨c,d,f,_,_,b⟩:=h;exact dI ((b h0).2 0 (B8 bs[0]) (by rw[sH,kE h0];rfl))
def Dm_ (X:Nat->Prop) (w:World) (bc bn bs:Nat):Nat->Prop:=fun q=>(X q∨w.heap.size<=q)/\q≠bc/\q≠bn/\q≠bs
theorem aJS{pg:Nat->List UInt8}{n:Nat}{E:Nat->En}(h:kK pg n E):WfW (oD pg n):=by
 obtain⟨_,c,j,k,b⟩:=h;obtain⟨d,f,g,i,l⟩:=oI pg n;refine⟨b.acc.few,b.acc.next2,b.acc.head,?_,b.acc.wf.rM,b.acc.wf.rS,?_,?_,λb=>?_⟩;·rw[d,f];exact c
 ·rw[g];simp
 ·rw[i];simp
 unfold oD;split;·show 0<65536;omega
 exact aQZ _
theorem aIj(b:Array Value)(w:World):(callFunc 95 b).run prog w=.ok (.enter 95 b) w:=by kernel_rfl
theorem aJT(b:Array Value)(w:World):(callFunc 96 b).run prog w=.ok (.enter 96 b) w:=by kernel_rfl
section
variable {w0 w:World}{dk g st:Nat}{s:PS}{X:Nat->Prop}{E:Nat->En}
theorem aJU(h:PgX w0 w dk g s X)(q:s.br=false)(r:aCA s)(u:w.cell? ⟨st,0,none⟩=some (pi (some ⟨g,0,none⟩)))(d:kK s.page s.n E): Calls prog 71 #[pi (some ⟨st,0,none⟩)] w λe w'=>∃bc t bs,e=iz (tl #[pi (some ⟨bc,0,none⟩),ii ip 0])/\jF w w' g bc t bs (Dm_ X w bc t bs) (oD s.page s.n):=by
 have c:=aJS d;obtain⟨m,p,I,J,b⟩:=d;have d:1<=s.n:=by have:=b.acc.next1;have:=b.acc.next2;have:=(oI s.page s.n).2.1;omega
 have k:=b.acc.next1;have f:=b.acc.next2;rw[(oI s.page s.n).2.1]at f;have⟨a3,Q,a4,a5,HP,a6,a7,b3⟩:=hh8 (aMb h q r 0 d) (p 0 d) m c h k f c.n;clear h q r c m p b d k f;have F:=@run_makeMap prog;refine cA λL H=>?_;go_enter func71,ntmps71;go_wp2_with fail;refine a3.o.mono ?_;rintro e b ⟨v,B,rfl,d,f,c⟩;have k:=aA c u;have⟨HV,S,a9⟩:=hh3 d c f;clear d c f u;go_upto_region 7 with fail;have f:Fr [] b (((b.alloc (.map #[] 0)).alloc (.map #[] 0)).alloc (iy (chC (rdZ s.page s.n) g b.heap.size (b.heap.size+1)).toArray 142)):=(((jj [] b).alloc _).alloc _).alloc _;have m:VAt (((b.alloc (.map #[] 0)).alloc (.map #[] 0)).alloc (iy (chC (rdZ s.page s.n) g b.heap.size (b.heap.size+1)).toArray 142)) b.heap.size []:=(VAt.new b).fr (((jj [] _).alloc _).alloc _);have p:VAt (((b.alloc (.map #[] 0)).alloc (.map #[] 0)).alloc (iy (chC (rdZ s.page s.n) g b.heap.size (b.heap.size+1)).toArray 142)) (b.heap.size+1) []:=by have:=(VAt.new (b.alloc (.map #[] 0))).fr ((jj [] _).alloc (iy (chC (rdZ s.page s.n) g b.heap.size (b.heap.size+1)).toArray 142));rwa [qB]at this
 have h:Blk (((b.alloc (.map #[] 0)).alloc (.map #[] 0)).alloc (iy (chC (rdZ s.page s.n) g b.heap.size (b.heap.size+1)).toArray 142)) (b.heap.size+1+1) 142 (chC (rdZ s.page s.n) g b.heap.size (b.heap.size+1)):=by have:=jl ((b.alloc (.map #[] 0)).alloc (.map #[] 0)) 142 (chC (rdZ s.page s.n) g b.heap.size (b.heap.size+1));rwa [qB,qB]at this
 have q:=S.o.size;show Code.wp _ _ _ _ (((b.alloc (.map #[] 0)).alloc (.map #[] 0)).alloc (iy (chC (rdZ s.page s.n) g b.heap.size (b.heap.size+1)).toArray 142));generalize ((b.alloc (.map #[] 0)).alloc (.map #[] 0)).alloc (iy (chC (rdZ s.page s.n) g b.heap.size (b.heap.size+1)).toArray 142)=d at *;obtain⟨t,x⟩:=nm (b.heap.size);rw[<- x]at m p h q⊢;have z:=h.lt;have A:B≠t+1+1:=λe=>by have:=aPm HV.o (by rw[Q.o];omega);omega
 have G:=a9.o;have⟨b4,y,b0,b1,b2⟩:=hh5 z q m p f;have B:=h.fr (w':=d.drew) ((jj [] d).drew) (by simp);have C:=lh (aTf B (HV.o.fr (f.trans ((jj [] d).drew))) A Q.o (by
  obtain c|c:=a4.o;·exact Ii c
  exact Ij c) (by rw[aGl];exact a6.o))
 have u:d.drew.cell? ⟨st,0,none⟩=some (pi (some ⟨g,0,none⟩)):=aA ((jj [] d).drew) (aA f k);have d:st≠t+1+1:=λe=>by have D:st<b.heap.size:=dI k;omega
 have⟨U,b5⟩:=hh2 d x;clear m p h f A G k d z q B x F;refine aj (λb=>b.cell? ⟨st,0,none⟩=some (pi (some ⟨g,0,none⟩))/\True) [0,1,2,3,5,6,7,8,9,10,11,12,13,14,15,17,18] ?_;refine tks [0,1,2,3] ?_;iterate 4 (refine ac ⟨u,trivial⟩ ?_)
 refine tke ?_;refine aY (S1:=λb=>b.cell? ⟨st,0,none⟩=some (pi (some ⟨g,0,none⟩))/\b.cell? ⟨t+1+1,0,none⟩=some (ii ip (((oD s.page s.n).next:Nat):Int))) (λb c=>⟨c.1,trivial⟩) _ ?_;refine ag 4 λK hK=>kA (l:=[.tmp 37,.tmp 38]) rfl [pi (some ⟨t+1+1,0,none⟩),v] rfl (aIj _) (C.o.mono ?_);rintro e k ⟨rfl,f,b⟩;rw[aGl]at f;have c:=aB b (by simpa using U.o) u;have d:=f.at_ (i:=0) (v:=ii ip (((oD s.page s.n).next:Nat):Int)) rfl;refine⟨_,rfl,hK _ _ (λ_=>⟨c,d⟩) ?_⟩;simp only[nrm];clear hK C;refine tks [5,6,7,8,9,10,11,12,13,14,15] ?_;iterate 11 (refine ac ⟨c,d⟩ ?_)
 refine tke ?_;have h:Fr [] w k:=by have D:=(S.o.trans b2.o).drew;refine D.trans b λp k=>Ij ?_;obtain rfl:=xA.1 k;have:=y.o;omega
 refine aAk (j:=16) (some 51) rfl rfl (by kernel_rfl) rfl λK hK=>kA (l:=[.tmp 50]) rfl [pi (some ⟨g,0,none⟩)] rfl (aJT _) ((aIc (HP.o.stay h)).mono ?_);rintro e z ⟨rfl,rfl⟩;refine⟨_,rfl,hK _ _ (λ_=>⟨c,d⟩) ?_⟩;simp only[nrm];clear hK;have q:¬ ((s.n:Nat):Int)<(((oD s.page s.n).next:Nat):Int):=by have:=a7.o;omega
 refine tks [17,18] ?_;iterate 2 (refine ac ⟨c,d⟩ ?_)
 refine tke ?_;refine wd ?_ _;have x:=b.size;have m:=lh (H.o _ _ ⟨t+1+1,t,t+1,rfl,⟨h,by have:=y.o;omega,y.o,by have:=y.o;omega,by omega,f,⟨[],(b0.o.fr ((jj [] _).drew)).fr b (by simp;omega),by rw[(oI s.page s.n).2.2.1];trivial⟩,⟨[],(b1.o.fr ((jj [] _).drew)).fr b,by rw[(oI s.page s.n).2.2.2.1];trivial⟩,λp k=>k.2,a5.o⟩⟩);clear c d f b h u;go_wp2_with fail;exact m.o
end
theorem aJV{c c':CD}{m h k:Nat}{lo hi:Option Ky}{E:En}{u:Ky×Nat}{R:List Nat}(i:aJA c c' m h k lo hi E u R): u.2≠0->1<=li u.1/\li u.1<=96/\u.2<65536/\c'.e=0/\0<c'.n/\(c'.head≠0->c'.head<c'.n/\∃j,c'.nx c'.head=some j):=λd=>by
 obtain⟨_,⟨f,l,o,b,_,g⟩|⟨_,u0,_⟩⟩:=i
 ·obtain⟨u0,_⟩|⟨_,u1,u2,_,_,p,q,r,s,t,i,rfl,rfl⟩:=g
  ·exact absurd u0 d
  have g:=(b.mem (k:=u.2) (Ii (yE _ (tF _ i.head)))).2;have:=b.next2;have:=b.few;have:=b.next1;exact⟨u1,u2,by omega,f,by omega,aId b⟩
 exact absurd u0 d
def aGm (E:Nat->En) (t:Nat):En:=((List.range 8).erase t).flatMap E
theorem aMs{N:Nat->Option Nd}{r:Nat}{E:En}{P:List Nat}(h:aOZ N r E P):li P<=2*li E:=by
 obtain⟨_,rfl,rfl⟩|⟨_,h,b⟩:=h;·simp
 have:=b.count.1;omega
theorem aNL{P:Nat->List Nat}{E:Nat->En}:∀ {l:List Nat},(∀s∈l,li (P s)<=2*li (E s))->li (l.flatMap P)<=2*li (l.flatMap E)
 | [],_=>by simp
 | s::l,h=>by have d:=h s (eC ..);have f:=aNL (l:=l) λb c=>h b (jD _ c);rw[xG,xG,iB,iB];omega
theorem gZ{c:CD}{E:Nat->En}{P:Nat->List Nat}{F:List Nat}(h:uI c E P F)(t:Nat):li (bM P t)<=2*li (aGm E t):=aNL λb d=>aMs (h.tree b (kO.1 (List.mem_of_mem_erase d)))
def Wr (s s':PS):Prop:=∃l:List (Nat×List UInt8),(∀p∈l,p.1<s.n/\p.2.length<=512)/\s'=l.foldl (fun s p=>s.write p.1 p.2) s
theorem Wr.refl(s:PS):Wr s s:=⟨[],λ_ b=>(by cases b),rfl⟩
theorem aEN:∀(l:List (Nat×List UInt8)) {s b:PS},fL s b->fL s (l.foldl (λs c=>s.write c.1 c.2) b)
 | [],_,_,h=>h
 | _::l,_,_,h=>aEN l (h.write _ _)
theorem Wr.same{s:PS}(h:Wr s S):fL s S:=by obtain⟨b,_,rfl⟩:=h;exact aEN b (fL.refl s)
theorem Wr.trans{s c:PS}(h:Wr s S)(f:Wr S c):Wr s c:=by
 have g:=h.same.n;obtain⟨b,i,rfl⟩:=h;obtain⟨d,j,rfl⟩:=f;refine⟨b++d,λd b=>?_,by rw[wU]⟩;obtain b|b:=sD.1 b;·exact i d b
 have:=j d b;rwa [g]at this
theorem Wr.end_{s:PS}{c:CD}(g:WfW c)(i:c.n=s.n)(h0:0<c.n):Wr s (cV s c):=by
 refine⟨(c.M.map λd=>(d.1,d.2.written))++(c.S.map λd=>(d.1,b16 d.2))++[(0,oM c)],λd b=>?_,?_⟩
 ·obtain b|b:=sD.1 b
  ·obtain b|b:=sD.1 b
   ·obtain⟨d,f,rfl⟩:=kI.1 b;obtain⟨a,h,j⟩:=g.mM d f;exact⟨by show d.1<s.n;omega,by show li d.2.written<=512;rw[Nd.written_len];exact j⟩
   obtain⟨d,f,rfl⟩:=kI.1 b;obtain⟨a,h⟩:=g.mS d f;exact⟨by show d.1<s.n;omega,by show 2<=512;omega⟩
  obtain rfl:=xA.1 b;exact⟨by show 0<s.n;omega,by show(oM c).length<=512;rw[bZ];omega⟩
 unfold cV aAz eZ;rw[wU,wU,List.foldl_map,List.foldl_map];rfl
theorem aAA{s:PS}{c:CD}{E:Nat->En}{P:Nat->List Nat}{F:List Nat}(d:uI c E P F)(f:c.pg=s.page)(g:c.n=s.n)(b:WfW c):kK (cV s c).page s.n E:=by
 have h:=aPc d (by exact b.pg);have e:(cV s c).page=yO c:=by funext j;exact aPj b.rM b.rS f j
 rw[e,<- g];exact h
structure StX (w0 w:World) (dk g st:Nat) (s:PS) (X:Nat->Prop) (E:Nat->En):Prop where
 px:PgX w0 w dk g s X
 blk:Blk w st 172 [.pointer (some ⟨g,0,none⟩)]
 xs:X st
 br:s.br=false
 calm:aCA s
 store:kK s.page s.n E
section
variable {w0 w w':World}{dk g st:Nat}{s s':PS}{X:Nat->Prop}{E E':Nat->En}
theorem StX.fr(h:StX w0 w dk g st s X E)(b:Fr [] w w'):StX w0 w' dk g st s (yC X w w') E:=⟨h.px.fr b,h.blk.fr b,Ii h.xs,h.br,h.calm,h.store⟩
theorem StX.stay(h:StX w0 w dk g st s X E)(b:Fr [] w w'):StX w0 w' dk g st s X E:=⟨h.px.stay b,h.blk.fr b,h.xs,h.br,h.calm,h.store⟩
theorem StX.kept(h:StX w0 w dk g st s X E)(c:PgX w0 w' dk g s' X)(d:Kp X w w')(b:fL s s')(f:kK s'.page s.n E'):StX w0 w' dk g st s' X E':=⟨c,d.blk h.blk h.xs,h.xs,by rw[b.br];exact h.br,b.calm h.calm,by rw[b.n];exact f⟩
theorem StX.pgc(h:StX w0 w dk g st s X E):PgC w0 w dk g s X (oD s.page s.n):=⟨h.px,h.br,h.calm,(oI _ _).1,(oI _ _).2.1⟩
theorem StX.begin(h:StX w0 w dk g st s X E): Calls prog 71 #[pi (some ⟨st,0,none⟩)] w λe b=>∃bc bn bs,e=iz (tl #[pi (some ⟨bc,0,none⟩),ii ip 0])/\jF w b g bc bn bs (Dm_ X w bc bn bs) (oD s.page s.n):=aJU h.px h.br h.calm (h.blk.a 0) h.store
theorem jF.top{bs:Nat}{c:CD}(h:jF W w g k i bs (Dm_ X W k i bs) c):∀q,w.heap.size<=q->Dm_ X W k i bs q:=λq n=>by have d:=h.blk.lt;obtain⟨l,v1,_⟩:=h.nodes;obtain⟨m,b,_⟩:=h.spare;have f:=v1.lt;have j:=b.lt;have b:=h.fr.size;exact⟨Ij (by omega),by omega,by omega,by omega⟩
theorem StX.key{bs:Nat}{kv:Value}{key:Ky}(h:StX w0 w dk g st s X E)(f:dA w kv key j)(b:X j)(h1:w<=k)(h2:w<=i)(h3:w<=bs)(m:Fr [] w w'):∃q,dA w' kv key q/\Dm_ X w k i bs q:=by
 have d:j<w:=by obtain⟨_,_,_,_,_,_,_,c⟩:=h.px;exact c j b
 exact⟨j,f.fr m,Ii b,by omega,by omega,by omega⟩
theorem aUB(q:PgX w0 w dk g s X)(h:s.br=false)(b:aCA s)(r:kK s.page s.n E): Calls prog 52 #[pi (some ⟨g,0,none⟩)] w λe c=>∃st,e=iz (tl #[pi (some ⟨st,0,none⟩),ii ip 0])/\StX w0 c dk g st s (yC X w c) E/\Fr [] w c:=by
 obtain⟨i,c⟩:=nm (w.alloc (iy #[pi (some ⟨g,0,none⟩)] 172));have d:Fr [] w i:=by rw[c];exact(jj [] w).alloc _
 have f:Blk i w.heap.size 172 [pi (some ⟨g,0,none⟩)]:=by rw[c];exact jl w _ [pi (some ⟨g,0,none⟩)]
 have i:=aJU (q.stay d) h b (f.a 0) r;refine cA λu j=>?_;have⟨t,v,m,x,y,z,p⟩:=hh7 f d i q r b h;clear f d i q r b h;go_enter func52,ntmps52;go_upto_region 2 with fail;rw[<- c];clear c;go_wp2_with fail;refine m.o.mono ?_;rintro e f ⟨i,k,l,rfl,c⟩;have d:Fr [] w f:=v.o.trans c.fr;have f:=lh (j.o _ _ ⟨w.heap.size,rfl,⟨x.o.fr d,t.o.fr c.fr,Ij ⟨tA _,by have:=t.o.lt;have:=c.fr.size;omega⟩,p.o,z.o,y.o⟩,d⟩);clear d c;go_wp2_with fail;exact f.o
end
def eW (t:Int) (key:Ky):Bool:=decide (0<=t)&&decide (t<8)&&decide (0<key.length)&&decide (key.length<=96)
theorem aIk{w:World}{kv:Value}{key:Ky}(t:Int)(h:dA w kv key k):Calls prog 107 #[t,kv] w λe b=>e=iz (ij (eW t key))/\w=b:=by
 obtain⟨l,m,_,rfl,_,_⟩:=h;refine cA λn c=>?_;have b:=lh (c.o _ _ ⟨rfl,rfl⟩);by_cases c:0<=t
 ·by_cases d:t<8
  ·by_cases f:0<li key
   ·have i:(0:Int)<(li key:Int):=(by omega);by_cases g:li key<=96
    ·have j:(li key:Int)<=96:=(by omega);have e:eW t key=true:=(by unfold eW;simp[c,d,f,g]);rw[e]at b;go_enter aDs,aDt;go_wp2_with fail;exact b.o
    have j:¬ (li key:Int)<=96:=(by omega);have e:eW t key=false:=(by unfold eW;simp[g]);rw[e]at b;go_enter aDs,aDt;go_wp2_with fail;exact b.o
   have i:¬ (0:Int)<(li key:Int):=(by omega);have e:eW t key=false:=(by unfold eW;simp[f]);rw[e]at b;go_enter aDs,aDt;go_wp2_with fail;exact b.o
  have e:eW t key=false:=(by unfold eW;simp[d]);rw[e]at b;go_enter aDs,aDt;go_wp2_with fail;exact b.o
 have e:eW t key=false:=by unfold eW;simp[c]
 rw[e]at b;go_enter aDs,aDt;go_wp2_with fail;exact b.o
theorem aMt{c:CD}{E:Nat->En}{P:Nat->List Nat}{F:List Nat}{t:Nat}{x:It}(h:uI c E P F)(ht:t<8)(m:x.ok true)(l:li (E t)<1099511627776)(p:c.roots t≠0): ∃c1 u,aMm 40 c (c.roots t) x c1 u/\aFE c t x=some (vF c1 t u)/\(c1.pg=c.pg/\c1.n=c.n)/\c1.roots t=c.roots t/\(u.2≠0->1<=li u.1/\li u.1<=96/\u.2<65536/\c1.e=0/\0<c1.n/\(c1.head≠0->c1.head<c1.n/\∃j,c1.nx c1.head=some j)):=by
 have g:=h.acc.swap (qS ht).symm;obtain⟨d,_,_⟩|⟨_,i,b⟩:=h.tree t ht;·exact absurd d p
 obtain⟨c1,u,k,d⟩:=aHV i (f:=40) (cM b l) b g h.e m (λ_ h=>by cases h) (λ_ h=>by cases h);refine⟨c1,u,aNH i (cM b l) b g h.e m (λ_ h=>by cases h) (λ_ h=>by cases h) _ _ k,?_,⟨d.1.pg,d.1.n⟩,by rw[d.1.roots],aJV d⟩;unfold aFE;rw[eA p,k];rfl
theorem aEO(b:Array Value)(w:World):(callFunc 121 b).run prog w=.ok (.enter 121 b) w:=by kernel_rfl
structure SE where
 s:PS
 E:Nat->En
noncomputable def putS (x:SE) (t:Nat) (key v:Ky):SE×Int:=
 match aFE (oD x.s.page x.s.n) t ⟨key,v,0⟩ with
 | some c=>if c.e=0 then (⟨cV x.s c,oE x.E t (tI (x.E t) key v)⟩,0) else (x,5)
 | none=>(x,5)
theorem aJW{s:PS}{E:Nat->En}{t:Nat}{key v:Ky}{c:CD}(h:aFE (oD s.page s.n) t ⟨key,v,0⟩=some c)(b:c.e=0):putS ⟨s,E⟩ t key v=(⟨cV s c,oE E t (tI (E t) key v)⟩,0):=by unfold putS;simp only;rw[h];simp only;rw[iA b]
theorem aTg{s:PS}{E:Nat->En}{t:Nat}{key v:Ky}{c:CD}(h:aFE (oD s.page s.n) t ⟨key,v,0⟩=some c)(b:c.e=5):putS ⟨s,E⟩ t key v=(⟨s,E⟩,5):=by unfold putS;simp only;rw[h];simp only;rw[eA (by rw[b];decide)]
def aTh (w0:World) (dk g st:Nat) (s:PS) (X:Nat->Prop) (E:Nat->En) (t:Nat) (key v:Ky) (w:World) (e:Ending) (w':World):Prop:=
 ∃s',Wr s s'/\Kp X w w'/\((e=.returned (.int .i64 0)/\StX w0 w' dk g st s' X (oE E t (tI (E t) key v))/\putS ⟨s,E⟩ t key v=(⟨s',oE E t (tI (E t) key v)⟩,0))∨(e=.returned (.int .i64 5)/\s'=s/\StX w0 w' dk g st s X E/\s.n<=2*(tI (E t) key v).length+2*(aGm E t).length/\putS ⟨s,E⟩ t key v=(⟨s,E⟩,5)))
section
variable {w0 w:World}{dk g st:Nat}{s:PS}{X:Nat->Prop}{E:Nat->En}
theorem Z5{P:Prop} (h:P:=by
 simp only[nrm];clear hK;refine ag 11 fun K hK=>?_;refine kA (l:=[.tmp 71,.tmp 78,.tmp 79,.const (.int .i64 0)]) rfl [.pointer (some ⟨bc,0,none⟩),.int .i64 ((c.roots t:Nat):Int),.agg #[.slice Ak key.length ck,.slice Aw v.length cw,.int .i64 0],.int .i64 ((0:Nat):Int)] rfl (uS _) (HPT.o.mono ?_);rintro e w5 ⟨uv,rfl,huv,hc5,hf5⟩;obtain⟨Au,cu,rfl,hbu⟩:=huv.open_;have S5:=lh ((S4.o.call hf5 (by simp) hc5).key hbu);refine⟨_,rfl,hK _ _ (fun _=>trivial) ?_⟩;simp only[nrm];clear hK huv hc5 hf5;have HGR:=lh (aIg (u:=u) HPC1.o S5.o.ch ⟨_,rfl,S5.o.kb (.head _)⟩ S5.o.offD ht HGP.o);refine ag 12 fun K hK=>?_;refine kA (l:=[.tmp 69,.tmp 70,.tmp 80]) rfl [.pointer (some ⟨bc,0,none⟩),.int .i64 (t:Int),.agg #[.slice Au u.1.length cu,.int .i64 ((u.2:Nat):Int)]] rfl (aEO _) (HGR.o.mono ?_);rintro e w6 ⟨rfl,hc6,hf6⟩;have S6:=lh (S5.o.call hf6 (by simp) hc6);refine⟨_,rfl,hK _ _ (fun _=>trivial) ?_⟩;simp only[nrm];clear hK hc6 hf6;refine wd ?_ _;exact TAIL Au cu w6 (lh (S6.o.less (L':=[]) (N':=[]) (K':=[]) (dQ _) (oC _) (by simp)))):P:=h
theorem Z73{P:Prop} (h:P:=by
 unfold eW;have a1:(0:Int)<=(t:Int):=by omega
 have a2:(t:Int) < 8:=by omega
 simp[a1,a2,h2]
 omega):P:=h
theorem Put_F(h:StX w0 w dk g st s X E){t:Nat}(ht:t<8){kv vv:Value}{key v:Ky}(hk:dA w kv key m)(e0:X m)(hv:dA w vv v d)(e1:X d)(h1:1<=li key)(h2:li key<=96)(h3:li v<=64)(hE:li (E t)<1099511627776): Calls prog 85 #[pi (some ⟨st,0,none⟩),ii ip (t:Int),kv,vv] w (aTh w0 dk g st s X E t key v w):=by
 have b9:∀q,X q->q<w.heap.size:=by obtain⟨_,_,_,_,_,_,_,h4⟩:=h.px;exact h4
 obtain⟨_,_,P,F,hF⟩:=h.store;obtain⟨c,hc⟩:=nm (oD s.page s.n);rw[<- hc]at hF;obtain⟨x,hx⟩:∃x:It,x=⟨key,v,0⟩:=⟨_,rfl⟩;have a9:x.ok true:=by rw[hx];exact⟨h1,h2,h3,by show 0<65536;omega,rfl⟩
 obtain⟨c',a0,y,a3⟩:=aEu (x:=x) hF ht a9 hE;have N:=h.pgc;rw[<- hc]at N;have b':=gZ hF t;have V:eW (t:Int) key=true:=by exact Z73
 obtain⟨Av,cv,_,rfl,f5,S⟩:=id hv;have f':¬ (64:Int)<(li v:Int):=by omega
 have H:=lh h;have HC:=lh hc;have O:=lh hx;have a':=lh a9;have b:=lh a0;have B:=lh a3;have b0:=lh N;have e2:=lh b';have HF:=lh hF;have f:Hid (PgC w0 w dk g s X c'):=lh (N.to ⟨y.pg,y.n⟩);have C:=lh (aIk (t:Int) hk);rw[V]at C;have HK:=lh hk;have HV:=lh hv;have g0:=lh e0;have g1:=lh e1;have g2:=lh b9;have e3:=lh h2;have e4:=lh h3;have e6:=lh hE;have c0:=lh h.begin;have e7:x.key=key:=by rw[hx]
 have e8:x.v=v:=by rw[hx]
 rw[e7,e8]at B;clear h hc hx a9 a0 a3 N b' hF y hk hv e0 e1 b9 h1 h2 h3 hE V f5 S;have g3:((t:Nat):Int)<8:=by omega
 refine cA λR HQ=>?_;go_enter func85,ntmps85;go_wp2_with fail;refine C.o.mono ?_;rintro e w1 ⟨rfl,rfl⟩;go_wp2_with fail;refine c0.o.mono ?_;rintro e w1 ⟨bc,L,bs,rfl,A⟩;rw[<- HC.o]at A;have S0:=lh (Sx.start A A.top);have c2:=lh (rH (HK.o.fr A.fr) (by have:=e3.o;omega));have g4:=lh A.l1;clear A c0 C;go_wp2_with fail;refine c2.o.mono ?_;rintro e w2 ⟨g9,rfl,⟨f6,b5,a4⟩,d0⟩;obtain⟨Ak,ck,_,rfl,_,_⟩:=id b5;have S1:=lh ((S0.o.quiet d0).key ⟨f6,b5,S0.o.offD _ a4⟩);have Y:=lh (rH (HV.o.fr S1.o.fin.1.fr) (by have:=e4.o;omega));clear b5 a4 d0 S0 c2;go_wp2_with fail;refine Y.o.mono ?_;rintro e w3 ⟨g',rfl,⟨f7,b6,a5⟩,d1⟩;obtain⟨Aw,cw,_,rfl,_,_⟩:=id b6;have S2:=lh ((S1.o.quiet d1).key ⟨f7,b6,S1.o.offD _ a5⟩);clear b6 a5 d1 S1 Y;go_wp2_with (first
  | (with_reducible refine qA rfl 198 rfl (il #[si none 0 0,si none 0 0,ii ip 0]) zit.toArray aR rfl ?_)
  | (refine zA (W:=w3) rfl 198 (.tmp 11) (.tmp 38) rfl [si Ak (li key) ck,si Aw (li v) cw,ii ip 0] rfl rfl rfl mH rfl dZ ?_))
 intro w4 b8 d' f9;obtain⟨T,a6⟩:=nm (w3.heap.size);rw[<- a6]at b8⊢;have S3:=lh (S2.o.new1 d' b8 (by omega));clear d' b8 f9 a6 S2;have Q:=(S3.o.ch.blk).at_ (bH c g L bs ht);by_cases hr:c.roots t=0
 case' pos=>
  have b1:c'=(c.alloc.1.root t c.alloc.2).write c.alloc.2 ⟨true,0,[x]⟩:=by have:=b.o;unfold aFE at this;rw[iA hr]at this;exact(tE this).symm
  subst b1;rw[hr]at Q;have e9:=lh hr;obtain⟨nr,U⟩:∃nr:Nd,nr=⟨true,0,[x]⟩:=⟨_,rfl⟩;rw[<- U]at B f b;have c3:0<c.n:=by have:=HF.o.acc.next1;have:=HF.o.acc.next2;omega
  have hh:=aId HF.o.acc;have c4:c.alloc.2<c.n:=by
   unfold CD.alloc;split;·rename_i h;exact(hh h).1
   split;·assumption
   exact c3
  have c5:c.alloc.1.n=c.n:=aCP c;have D:=aMe a'.o;rw[<- U]at D;have c6:=lh c4;have e':=lh c5;have f0:=lh hh;have Z:=lh D;have b2:=lh U;have f1:=lh S3.o.fin.1.wf.n;clear hr U c3 hh c4 c5 D;go_upto_region 8 with fail;have S4:=lh (S3.o.quiet ((jj [] w4).drew));clear S3 Q;have c7:=lh (aEH b0.o S4.o.ch HF.o.e f0.o);apply aGf (H:=λW=>Hid (Sx w w1 g bc L bs (Dm_ X w bc L bs) ((T,198,[si Ak (li key) ck,si Aw (li v) cw,ii ip 0])::[]) [] (.by_ (si Aw (li v) cw) v::.by_ (si Ak (li key) ck) key::[]) (c.alloc.1.root t c.alloc.2) W))
  case main=>
   intro TAIL;refine aj (λ_=>True) [0,1,2,4,5,6,7] ?_;refine tks [0,1,2,4,5,6] ?_;iterate 6 (refine ac trivial ?_)
   refine tke ?_;refine ag 3 λK hK=>?_;refine kA (l:=[.tmp 49]) rfl [pi (some ⟨bc,0,none⟩)] rfl (aCt _) (c7.o.mono ?_);rintro e w5 ⟨rfl,hc5,hf5⟩;refine⟨_,rfl,hK _ _ (λ_=>trivial) ?_⟩;simp only[nrm];have S5:=lh (S4.o.call hf5 (by simp) hc5);clear hK hc5 hf5;have G:=S5.o.ch.root ht (v:=c.alloc.2) (by have:=c6.o;have:=f1.o;omega);have g5:=S5.o.ch.blk.free (2+t);have g6:=S5.o.ch.blk.at_ (bH _ g L bs ht);refine tks [7] ?_;refine ac trivial ?_;refine tke ?_;refine ah 8 λK hK=>?_;refine rB (w':=w5.setCell ⟨bc,2+t,none⟩ (ii ip ((c.alloc.2:Nat):Int))) (by go_simp) (hK _ _ (λ_=>trivial) ?_);simp only[Act.put];clear hK;refine wd ?_ _;exact TAIL _ (lh (S5.o.call G.2 (by simp) G.1))
  intro w5 S5;clear S4 c7;have S6:=lh (S5.o.quiet ((jj [] w5).drew));clear S5;have i0:=(S6.o.loc _ (Hi _)).1.a 0;have i1:=(S6.o.loc _ (Hi _)).1.a 1;have i2:=(S6.o.loc _ (Hi _)).1.a 2;have Q:=S6.o.ch.blk.at_ (bH _ g L bs ht);rw[show(c.alloc.1.root t c.alloc.2).roots t=c.alloc.2 by show(if t=t then _ else _)=_;rw[iA rfl]]at Q;obtain⟨wx,M⟩:=nm (w5.drew.alloc (iy ([si Ak (li key) ck,si Aw (li v) cw,ii ip 0]:List Value).toArray 198));have r:Fr [] w5.drew wx:=by rw[M];exact(jj [] _).alloc _
  have c8:Blk wx w5.drew.heap.size 198 [si Ak (li key) ck,si Aw (li v) cw,ii ip 0]:=by rw[M];exact jl w5.drew _ [si Ak (li key) ck,si Aw (li v) cw,ii ip 0]
  have I:=S6.o.row1 (n:=nr) (x:=x) (kv:=si Ak (li key) ck) (vv:=si Aw (li v) cw) (av:=ii ip 0) (by rw[O.o];exact⟨S6.o.kb (.tail _ (Hi _)),S6.o.kb (Hi _),rfl⟩) r c8 (tA _) (by rw[b2.o]);rw[show fA nr=1 by rw[b2.o];rfl,show nr.first=0 by rw[b2.o]]at I;have S7:=lh ((S6.o.quiet r).nd I);have J:=lh (pM S7.o.ch (S7.o.kn (n:=nr) (Hi _)) (k:=c.alloc.2) (by have:=c6.o;have:=e'.o;show _<c.alloc.1.n;omega) Z.o.1 Z.o.2);have j0:=aA r i0;have j1:=aA r i1;have j2:=aA r i2;have jr:=aA r Q;go_upto_region 9 with fail;apply aGf (H:=λW=>Hid (Sx w w1 g bc L bs (Dm_ X w bc L bs) [] [] [] ((c.alloc.1.root t c.alloc.2).write c.alloc.2 nr) W))
  case main=>
   intro TAIL;refine aj (λW=>W.cell? ⟨bc,2+t,none⟩=some (ii ip ((c.alloc.2:Nat):Int))/\W.cell? ⟨T,0,none⟩=some (si Ak (li key) ck)/\W.cell? ⟨T,1,none⟩=some (si Aw (li v) cw)/\W.cell? ⟨T,2,none⟩=some (ii ip 0)) [0,1,2,3,4,5,6,7,8,10] ?_;refine tks [0,1,2,3,4,5,6,7,8] ?_;iterate 9 (refine ac ⟨Q,i0,i1,i2⟩ ?_)
   refine tke ?_;obtain⟨ti,d2,d3,a7,f8⟩:=fF vK;refine ag 9 λK hK=>?_;refine qC (.tmp 63) rfl Tryz.underlying182 d2 d3 [si Ak (li key) ck,si Aw (li v) cw,ii ip 0] rfl a7 rfl (by simp) (by simp) (hK _ _ (λ_=>by rw[<- M];exact⟨jr,j0,j1,j2⟩) ?_);simp only[nrm];rw[<- M];clear hK d2 d3 a7 f8;refine tv 10 (il #[ii ip 1,ii ip ((0:Nat):Int),si (some ⟨w5.drew.heap.size,0,none⟩) 1 1]) rfl rfl ⟨jr,j0,j1,j2⟩ (Ii ⟨rfl,λW hW=>by go_simp⟩) ?_;simp only[nrm];refine ag 11 λK hK=>?_;refine kA (l:=[.tmp 55,.tmp 62,.tmp 65]) rfl [pi (some ⟨bc,0,none⟩),ii ip ((c.alloc.2:Nat):Int),il #[ii ip 1,ii ip ((0:Nat):Int),si (some ⟨w5.drew.heap.size,0,none⟩) 1 1]] rfl (aCu _) (J.o.mono ?_);rintro e w6 ⟨rfl,hc6,hf6⟩;have S8:=lh (S7.o.call hf6 (by simp) hc6);have c9:=S8.o.ch.blk.at_ (bH _ g L bs ht);rw[show((c.alloc.1.root t c.alloc.2).write c.alloc.2 nr).roots t=c.alloc.2 by show(if t=t then _ else _)=_;rw[iA rfl]]at c9;refine⟨_,rfl,hK _ _ (λ_=>⟨c9,(S8.o.loc _ (Hi _)).1.a 0,(S8.o.loc _ (Hi _)).1.a 1,(S8.o.loc _ (Hi _)).1.a 2⟩) ?_⟩;simp only[nrm];clear hK hc6 hf6;refine wd ?_ _;exact TAIL _ (lh (S8.o.less (L':=[]) (N':=[]) (K':=[]) (dQ _) (oC _) (by simp)))
  intro w6 S8;clear S6 S7 i0 i1 i2 j0 j1 j2 Q jr r c8 I J M
 case' neg=>
  obtain⟨c1,u,d4,b7,d5,d6,d7⟩:=aMt HF.o ht a'.o e6.o hr;have b1:c'=vF c1 t u:=by rw[b.o]at b7;exact tE b7
  subst b1;have g7:¬ ((c.roots t:Nat):Int)=0:=by omega
  have f2:=lh d4;have HGP:=lh d7;have e9:=lh hr;have g8:=lh d6;have HPC1:=lh (b0.o.to d5);clear d4 b7 d5 d7 hr d6;go_upto_region 11 with fail;have S4:=lh (S3.o.quiet ((jj [] w4).drew));clear S3;have i0:=(S4.o.loc _ (Hi _)).1.a 0;have i1:=(S4.o.loc _ (Hi _)).1.a 1;have i2:=(S4.o.loc _ (Hi _)).1.a 2;have Q:=S4.o.ch.blk.at_ (bH c g L bs ht);have HPT:=lh ((aRf 40).go (deep:=0) (kv:=si Ak (li key) ck) (vv:=si Aw (li v) cw) (av:=ii ip 0) rfl f2.o b0.o S4.o.ch (by rw[O.o];exact⟨S4.o.kb (.tail _ (Hi _)),S4.o.kb (Hi _),rfl⟩) a'.o S4.o.offD);apply aUb (H:=fun(_:Option Addr) (_:Nat) W=>Hid (Sx w w1 g bc L bs (Dm_ X w bc L bs) [] [] [] (vF c1 t u) W))
  case main=>
   intro TAIL;refine aj (λ_=>True) [0,1,2,3,4,5,6,7,8] ?_;refine tks [0,1,2,3,4,5,6,7,8] ?_;iterate 9 (refine ac trivial ?_)
   refine tke ?_;refine jJ (i:=9) (j:=10) (some 78) (some 79) rfl rfl rfl rfl (by kernel_rfl) rfl rfl (λK hK=>?_) (λK hK=>?_)
   ·
    refine lA (v:=ii ip ((c.roots t:Nat):Int)) (by go_simp) (hK _ _ (λ_=>trivial) ?_);simp only[nrm];clear hK;refine ag 10 λK hK=>?_;refine lA (v:=il #[si Ak (li key) ck,si Aw (li v) cw,ii ip 0]) (by go_simp) (hK _ _ (λ_=>trivial) ?_);exact Z5
   ·
    refine lA (v:=il #[si Ak (li key) ck,si Aw (li v) cw,ii ip 0]) (by go_simp) (hK _ _ (λ_=>trivial) ?_);simp only[nrm];clear hK;refine ag 9 λK hK=>?_;refine lA (v:=ii ip ((c.roots t:Nat):Int)) (by go_simp) (hK _ _ (λ_=>trivial) ?_);exact Z5
  intro Au cu w6 S8;clear S4 HPT i0 i1 i2 Q
 all_goals
  obtain⟨P2,F2,p⟩|⟨e5,a8⟩:=B.o
  ·
   have z:=lh (aMr f.o S8.o.fin.1 (λq hq=>hq.1) p.e (by have:=p.acc.next1;have:=p.acc.next2;omega));have f3:=lh (aAA p f.o.pg f.o.n S8.o.fin.1.wf);have J:=lh (Wr.end_ S8.o.fin.1.wf f.o.n (by have:=p.acc.next1;have:=p.acc.next2;omega));have b3:=lh (aJW (E:=E) (by rw[<- HC.o,<- O.o];exact b.o) p.e);clear p;go_wp2_with fail;refine z.o.mono ?_;rintro e we ⟨rfl,d8,d9⟩;have b4:Kp X w we:=(Kp.of S8.o.fin.1.fr).more d9;have HX:=lh (HQ.o _ _ ⟨_,J.o,b4,Ii ⟨rfl,H.o.kept d8 b4 J.o.same f3.o,b3.o⟩⟩);clear d8 d9 b4 z;go_wp2_with fail;exact HX.o
  ·
   have z:=lh (aIi S8.o.fin.1 (by rw[e5];omega));rw[e5]at z;have f4:=lh a8;have b3:=lh (aTg (E:=E) (by rw[<- HC.o,<- O.o];exact b.o) e5);clear e5 a8;go_wp2_with fail;refine z.o.mono ?_;rintro e we ⟨rfl,rfl⟩;have HX:=lh (HQ.o _ _ ⟨s,Wr.refl s,Kp.of S8.o.fin.1.fr,Ij ⟨rfl,rfl,H.o.stay S8.o.fin.1.fr,by have h1:=f4.o;have h2:=e2.o;have h3:=(oI s.page s.n).2.1;rw[HC.o,h3]at h1;omega,b3.o⟩⟩);clear z;go_wp2_with fail;exact HX.o
end
def dU (E:En) (key:Ky):Bool:=E.any fun e=>decide (e.1=key)
theorem aEP(E:En)(key:Ky):dU E key=true↔∃e∈E,e.1=key:=by unfold dU;rw[List.any_eq_true];simp
theorem aMu(c:CD)(t:Nat)(u:Ky×Nat):(vF c t u).pg=c.pg/\(vF c t u).n=c.n:=by
 unfold vF;split;·exact⟨rfl,rfl⟩
 unfold CD.alloc;split;·exact⟨rfl,rfl⟩
 split;·exact⟨rfl,rfl⟩
 unfold CD.full;split<;>exact⟨rfl,rfl⟩
theorem aPn(E:Nat->En)(t:Nat):oE E t (E t)=E:=by
 funext j;unfold oE;split;·rename_i b;rw[b]
 rfl
theorem aMv{c:CD}{E:Nat->En}{P:Nat->List Nat}{F:List Nat}{t:Nat}{key:Ky}(h:uI c E P F)(ht:t<8)(x:li (E t)<1099511627776)(y:c.roots t≠0): ∃c1 g u,aMn 40 c (c.roots t) key c1 g u/\(c1.pg=c.pg/\c1.n=c.n)/\(u.2≠0->1<=li u.1/\li u.1<=96/\u.2<65536/\c1.e=0/\0<c1.n/\(c1.head≠0->c1.head<c1.n/\∃j,c1.nx c1.head=some j)) /\(g=false->vF c1 t u=c/\aHX c t key=some (c,false))/\(g=true->aHX c t key=(qR (vF c1 t u) t).map λd=>(d,true)):=by
 have o:=h.acc.swap (qS ht).symm;obtain⟨z,_,_⟩|⟨_,r,m⟩:=h.tree t ht;·exact absurd z y
 obtain⟨c1,g,u,v,_,i,k⟩:=aHW r (f:=40) (key:=key) (cM m x) m o h.e (λ_ h=>by cases h) (λ_ h=>by cases h);have p:=aNI r (cM m x) m o h.e (λ_ h=>by cases h) (λ_ h=>by cases h) _ _ _ v;have q:aHX c t key=if g then (qR (vF c1 t u) t).map λd=>(d,true) else some (c1,false):=by unfold aHX;rw[eA y,v]
 refine⟨c1,g,u,p,p.same,λhu=>?_,λhi=>?_,λhi=>by rw[q,iA hi]⟩
 ·cases g with
  | false=>exact absurd (i rfl).2 hu
  | true=>exact aJV (k rfl) hu
 obtain⟨a,b⟩:=i hi;subst a;refine⟨by unfold vF;rw[iA b],by rw[q,hi];rfl⟩
noncomputable def delS (x:SE) (t:Nat) (key:Ky):SE×Int:=
 if (oD x.s.page x.s.n).roots t=0 then (⟨x.s,oE x.E t (zH (x.E t) key)⟩,0) else match aHX (oD x.s.page x.s.n) t key with
 | some (c,_)=>if c.e=0 then (⟨cV x.s c,oE x.E t (zH (x.E t) key)⟩,0) else (x,5)
 | none=>(x,5)
theorem aJX{s:PS}{E:Nat->En}{t:Nat}{key:Ky}{c:CD}{b:Bool}(d:(oD s.page s.n).roots t≠0)(h:aHX (oD s.page s.n) t key=some (c,b))(f:c.e=0):delS ⟨s,E⟩ t key=(⟨cV s c,oE E t (zH (E t) key)⟩,0):=by unfold delS;simp only;rw[eA d,h];simp only;rw[iA f]
theorem aNM{s:PS}{E:Nat->En}{t:Nat}{key:Ky}{c:CD}{b:Bool}(d:(oD s.page s.n).roots t≠0)(h:aHX (oD s.page s.n) t key=some (c,b))(f:c.e=5):delS ⟨s,E⟩ t key=(⟨s,E⟩,5):=by unfold delS;simp only;rw[eA d,h];simp only;rw[eA (by rw[f];decide)]
def aTi (w0:World) (dk g st:Nat) (s:PS) (X:Nat->Prop) (E:Nat->En) (t:Nat) (key:Ky) (w:World) (e:Ending) (w':World):Prop:=
 ∃s',Wr s s'/\Kp X w w'/\((e=.returned (.tuple #[.bool (dU (E t) key),.int .i64 0])/\StX w0 w' dk g st s' X (oE E t (zH (E t) key))/\delS ⟨s,E⟩ t key=(⟨s',oE E t (zH (E t) key)⟩,0))∨(e=.returned (.tuple #[.bool false,.int .i64 5])/\s'=s/\StX w0 w' dk g st s X E/\s.n<=2*(zH (E t) key).length+2*(aGm E t).length/\delS ⟨s,E⟩ t key=(⟨s,E⟩,5)))
section
variable {w0 w:World}{dk g st:Nat}{s:PS}{X:Nat->Prop}{E:Nat->En}
theorem Z45{P:Prop} (h:P:=by
 have HX:=lh (HQ.o _ _ ⟨_,HWR.o,hkk,.inl ⟨by rw[HHAS.o],H.o.kept hpx hkk HWR.o.same HST.o,HFN.o⟩⟩);clear hpx hkp hkk HEN;go_wp2_with fail;exact HX.o):P:=h
theorem Z87{P:Prop} (h:P:=by
 rcases HF.o.tree t ht with ⟨_,h,_⟩ | ⟨h,_⟩
 ·exact h
 ·exact absurd hr h):P:=h
theorem aRo(h:StX w0 w dk g st s X E){t:Nat}(ht:t<8){kv:Value}{key:Ky}(hk:dA w kv key k)(c6:X k)(h1:1<=li key)(h2:li key<=96)(hE:li (E t)<1099511627776): Calls prog 86 #[pi (some ⟨st,0,none⟩),ii ip (t:Int),kv] w (aTi w0 dk g st s X E t key w):=by
 have a5:∀q,X q->q<w.heap.size:=by obtain⟨_,_,_,_,_,_,_,h4⟩:=h.px;exact h4
 obtain⟨_,_,P,F,hF⟩:=h.store;obtain⟨c,hc⟩:=nm (oD s.page s.n);rw[<- hc]at hF;obtain⟨c',is,L,r,b3,b4,M⟩:=aMf (key:=key) hF ht hE;have D:dU (E t) key=is:=by rw[lO,aEP];exact b3.symm
 have B:=h.pgc;rw[<- hc]at B;have a6:=gZ hF t;have G:eW (t:Int) key=true:=by exact Z73
 have H:=lh h;have x:=lh hc;have i:=lh L;have I:=lh M;have a7:=lh B;have a8:=lh a6;have HF:=lh hF;have HHAS:=lh D;have f:Hid (PgC w0 w dk g s X c'):=lh (B.to ⟨r.pg,r.n⟩);have z:=lh (aIk (t:Int) hk);rw[G]at z;have HK:=lh hk;have c7:=lh c6;have d8:=lh a5;have c8:=lh hE;have d9:=lh b4;have a9:=lh h.begin;clear h hc L M B a6 hF r hk c6 a5 h1 h2 hE G D b3 b4;have d':((t:Nat):Int)<8:=by omega
 refine cA λR HQ=>?_;go_enter func86,ntmps86;go_wp2_with fail;refine z.o.mono ?_;rintro e w1 ⟨rfl,rfl⟩;go_wp2_with fail;refine a9.o.mono ?_;rintro e w1 ⟨bc,bn,bs,rfl,j⟩;rw[<- x.o]at j;have S0:=lh (Sx.start j j.top);have c9:=lh (H.o.key HK.o c7.o j.l1 j.l2 j.l3 j.fr);clear j a9 z;have cr:=(S0.o.ch.blk).at_ (bH c g bn bs ht);by_cases hr:c.roots t=0
 ·rw[hr]at cr;have S:E t=[]:=by
   exact Z87
  have HX:=lh (HQ.o _ _ ⟨s,Wr.refl s,Kp.of S0.o.fin.1.fr,Ii ⟨by rw[S];first|done|rfl,by have e:oE E t (zH (E t) key)=E:=(by rw[show zH (E t) key=E t by rw[S];rfl,aPn]);rw[e];exact H.o.stay S0.o.fin.1.fr,by unfold delS;simp only;rw[<- x.o,iA hr]⟩⟩);have A:=lh hr;clear hr S;go_wp2_with fail;exact HX.o
 obtain⟨c1,d4,u,b5,b6,b7,hf,b8⟩:=aMv (key:=key) HF.o ht c8.o hr;have e0:¬ ((c.roots t:Nat):Int)=0:=by omega
 have d0:=lh b5;have d1:=lh b7;have A:=lh hr;have d2:=lh hf;have d3:=lh b8;have J:=lh (a7.o.to b6);clear b5 b6 b7 hr hf b8;have a':=lh ((aRi 40).go (deep:=0) rfl d0.o a7.o S0.o.fin.1 c9.o S0.o.fin.1.top);go_wp2_with fail;refine a'.o.mono ?_;rintro e w2 ⟨uv,rfl,b9,Z,d5⟩;obtain⟨Au,cu,rfl,b'⟩:=b9.open_;have S1:=lh ((Sx.start Z Z.top).key (b'.imp λq hq=>⟨hq.1,hq.2,λ_ h=>by simp at h,λ_ h=>by simp at h⟩));clear b9 Z d5 a' S0 cr b';go_wp2_with (first
  | (with_reducible refine qA rfl 212 rfl (il #[si none 0 0,ii ip 0]) zup.toArray qM rfl ?_)
  | (refine zA (W:=w2) rfl 212 (.tmp 11) (.tmp 51) rfl [si Au (li u.1) cu,ii ip ((u.2:Nat):Int)] rfl rfl rfl dD rfl rE ?_))
 intro w3 a4 c5 d7;obtain⟨e2,O⟩:=nm (w2.heap.size);rw[<- O]at a4⊢;have T:=lh (S1.o.new1 c5 a4 (by omega));clear c5 a4 d7 O S1;have i0:=(T.o.loc _ (Hi _)).1.a 0;have i1:=(T.o.loc _ (Hi _)).1.a 1;have b0:=lh (aIg (u:=u) J.o T.o.ch ⟨_,rfl,T.o.kb (Hi _)⟩ T.o.offD ht d1.o);go_wp2_with fail;refine b0.o.mono ?_;rintro e w4 ⟨rfl,c0,c2⟩;have y:=lh ((T.o.call c2 (by simp) c0).less (L':=[]) (N':=[]) (K':=[]) (dQ _) (oC _) (by simp));clear c0 c2 b0 T i0 i1;cases d4 with
 | false=>
  obtain⟨c3,a0⟩:=d2.o rfl;rw[c3]at y;have U:c'=c/\is=false:=(by rw[i.o]at a0;have:=tE a0;exact⟨congrArg Prod.fst this,congrArg Prod.snd this⟩);obtain⟨Q,c4⟩:=U;subst c4;rw[<- Q]at y;clear c3 a0 Q;have e1:True:=trivial;obtain⟨P2,F2,b⟩|⟨C,m,p⟩:=I.o
  ·
   have HEN:=lh (aMr f.o y.o.fin.1 (λq hq=>hq.1) b.e (by have:=b.acc.next1;have:=b.acc.next2;omega));have HST:=lh (aAA b f.o.pg f.o.n y.o.fin.1.wf);have HWR:=lh (Wr.end_ y.o.fin.1.wf f.o.n (by have:=b.acc.next1;have:=b.acc.next2;omega));have HFN:=lh (aJX (E:=E) (by rw[<- x.o];exact A.o) (by rw[<- x.o];exact i.o) b.e);clear b;go_wp2_with fail;refine HEN.o.mono ?_;rintro e we ⟨rfl,hpx,hkp⟩;have hkk:Kp X w we:=(Kp.of y.o.fin.1.fr).more hkp;exact Z45
  ·
   have HEN:=lh (aIi y.o.fin.1 (by rw[C];omega));rw[C]at HEN;have V:=lh p;have b1:=lh m;have HFN:=lh (aNM (E:=E) (by rw[<- x.o];exact A.o) (by rw[<- x.o];exact i.o) C);clear C p m;go_wp2_with fail;refine HEN.o.mono ?_;rintro e we ⟨rfl,rfl⟩;have HX:=lh (HQ.o _ _ ⟨s,Wr.refl s,Kp.of y.o.fin.1.fr,Ij ⟨rfl,rfl,H.o.stay y.o.fin.1.fr,by have h1:=V.o;have h2:=a8.o;have h3:=(oI s.page s.n).2.1;rw[x.o,h3]at h1;omega,HFN.o⟩⟩);clear HEN;go_wp2_with fail;exact HX.o
 | true=>
  have hl:=d3.o rfl;rw[i.o]at hl;cases v:qR (vF c1 t u) t with
  | none=>rw[v]at hl;cases hl
  | some d=>
   rw[v]at hl;have U:c'=d/\is=true:=(by have:=tE hl;exact⟨congrArg Prod.fst this,congrArg Prod.snd this⟩);obtain⟨rfl,rfl⟩:=U;obtain⟨n,hn⟩:∃n,(vF c1 t u).N ((vF c1 t u).roots t)=some n:=by
    cases hN:(vF c1 t u).N ((vF c1 t u).roots t) with
    | some n=>exact⟨n,rfl⟩
    | none=>unfold qR at v;rw[hN]at v;cases v
   have b2:=lh (aRk (J.o.to (aMu c1 t u)) y.o.fin.1 y.o.fin.1.top ht hn v);clear hl v hn;go_wp2_with fail;refine b2.o.mono ?_;rintro e w5 ⟨rfl,a3,d6⟩;have Y:=lh (Sx.start a3 a3.top);clear a3 d6 b2 y;obtain⟨P2,F2,b⟩|⟨C,m,p⟩:=I.o
   ·
    have HEN:=lh (aMr f.o Y.o.fin.1 (λq hq=>hq.1) b.e (by have:=b.acc.next1;have:=b.acc.next2;omega));have HST:=lh (aAA b f.o.pg f.o.n Y.o.fin.1.wf);have HWR:=lh (Wr.end_ Y.o.fin.1.wf f.o.n (by have:=b.acc.next1;have:=b.acc.next2;omega));have HFN:=lh (aJX (E:=E) (by rw[<- x.o];exact A.o) (by rw[<- x.o];exact i.o) b.e);clear b;go_wp2_with fail;refine HEN.o.mono ?_;rintro e we ⟨rfl,hpx,hkp⟩;have hkk:Kp X w we:=(Kp.of Y.o.fin.1.fr).more hkp;exact Z45
   ·
    have HEN:=lh (aIi Y.o.fin.1 (by rw[C];omega));rw[C]at HEN;have V:=lh p;have b1:=lh m;have HFN:=lh (aNM (E:=E) (by rw[<- x.o];exact A.o) (by rw[<- x.o];exact i.o) C);clear C p m;go_wp2_with fail;refine HEN.o.mono ?_;rintro e we ⟨rfl,rfl⟩;have HX:=lh (HQ.o _ _ ⟨s,Wr.refl s,Kp.of Y.o.fin.1.fr,Ij ⟨rfl,rfl,H.o.stay Y.o.fin.1.fr,by have h1:=V.o;have h2:=a8.o;have h3:=(oI s.page s.n).2.1;rw[x.o,h3]at h1;omega,HFN.o⟩⟩);clear HEN;go_wp2_with fail;exact HX.o
end
end
theorem aJY(s:PS)(h:li s.held<=s.n)(d:s.n<=4096):s.commit.1.D.done<=s.D.done+300000:=by
 have c:∀b,(s.append b).1.D.done<=s.D.done+300000:=λb=>by
  have f:=fP s.D s.l b;have g:=xY (s.laid b) h d;have i:(s.laid b).D.done=(kB s.D s.l b).done:=rfl;have j:=fP (s.laid b).check.1.D (s.laid b).check.1.l b;unfold PS.append;split;·show(kB s.D s.l b).done<=_;omega
  split;·omega
  show(kB (s.laid b).check.1.D (s.laid b).check.1.l b).done<=_;omega
 unfold PS.commit;split;·exact aHl _ _
 split;·exact aHl _ _
 split;·exact c _
 exact c _
theorem aIl(E:Nat->En)(t:Nat)(x:En):oE E t x t=x:=iA rfl
theorem aEQ(E:Nat->En){t j:Nat}(x:En)(h:j≠t):oE E t x j=E j:=eA h
theorem aUC{a b:Ky}:klt a b∨a=b∨klt b a:=by
 by_cases c:klt a b;·exact Ii c
 by_cases d:klt b a;·exact Ij (Ij d)
 exact Ij (Ii (zQ c d))
theorem aBQ{E:En}{k:Ky}{v:List UInt8}(h:sI E):sI (tI E k v):=by
 unfold tI sI;rw[List.pairwise_append];refine⟨h.filter _,?_,λa d f b=>?_⟩;·rw[lF];exact⟨λe c=>by simpa using(cL.1 c).2,h.filter _⟩
 have c:klt a.1 k:=by simpa using(cL.1 d).2
 obtain rfl|b:=bB.1 b;·exact c
 exact qE c (by simpa using(cL.1 b).2)
theorem aER{E:En}{k:Ky}{v:List UInt8}{e:Ky×List UInt8}:e∈tI E k v↔e=(k,v)∨(e∈E/\e.1≠k):=by
 unfold tI;simp only[sD,bB,cL,uG];constructor
 ·rintro(⟨f,d⟩|c|⟨f,d⟩)
  ·exact Ij ⟨f,λe=>bC k (by rw[e]at d;exact d)⟩
  ·exact Ii c
  exact Ij ⟨f,λe=>bC k (by rw[e]at d;exact d)⟩
 rintro(c|⟨f,d⟩);·exact Ij (Ii c)
 obtain c|c|c:=aUC (a:=e.1) (b:=k);·exact Ii ⟨f,c⟩
 ·exact absurd c d
 exact Ij (Ij ⟨f,c⟩)
theorem aES{p q:α->Bool}(h:∀a,p a=true->q a=false):∀l:List α,li (l.filter p)+li (l.filter q)<=li l
 | []=>tA _
 | a::l=>by
  have c:=aES h l;rw[aHu,aHu];cases b:p a with
  | true=>rw[h a b];simp only[vG,nH,eF,bD];omega
  | false=>simp only[nH,eF];cases b:q a<;>simp only[vG,nH,eF,bD]<;>omega
theorem aRp(E:En)(k:Ky)(v:List UInt8):li (tI E k v)<=li E+1:=by unfold tI;have:=aES (p:=λe:Ky×List UInt8=>decide (klt e.1 k)) (q:=λe=>decide (klt k e.1)) (λa b=>by simp only[uG,eI]at b⊢;exact λc=>bC _ (qE b c)) E;rw[iB,bD];omega
theorem aNN{E:En}(b:sI E)(low:Ky)(up:Option Ky)(most:Nat):(goE low up most [] E).1=(E.filter (inB low up)).take most:=by have:=aEx (low:=low) (up:=up) (most:=most) b (out:=[]) (uB _);simpa using this
theorem aRq(E:En)(k:Ky):li (zH E k)<=li E:=pO ..
def KFew (E:En):Prop:=∀e∈E,e.1.length<=600
theorem uI.pages{c:CD}{E:Nat->En}{P:Nat->List Nat}{F:List Nat}{pg:Nat->List UInt8}(h:uI c E P F)(d:∀k,k<c.n->pg k=c.pg k):uI { c with pg:=pg } E P F:=by
 have f:({ c with pg:=pg }:CD).N=c.N:=by
  funext k;unfold CD.N;by_cases b:1<=k/\k<c.n;·simp only[b,and_self,vG];rw[d k b.2]
  simp only[b,eF]
 refine⟨h.e,λg i=>by rw[f];exact h.tree g i,⟨h.acc.perm,h.acc.next1,h.acc.next2,h.acc.few,?_,⟨h.acc.wf.rM,h.acc.wf.rS,h.acc.wf.mM,h.acc.wf.mS⟩⟩⟩;refine nS.congr h.acc.chain λk b=>?_;have f:=h.acc.perm.mem_iff.1 (tF _ b);rw[List.mem_range'_1]at f;have:=h.acc.next1;have:=h.acc.next2;unfold CD.nx;simp only;rw[d k (by omega)]
theorem kK.congr{pg b:Nat->List UInt8}{n:Nat}{E:Nat->En}(h:kK pg n E)(d:∀k,k<n->b k=pg k):kK b n E:=by
 obtain⟨g,l,m,o,f⟩:=h;have i:(oD pg n).n=n:=(oI pg n).2.1;have j:0<n:=by have:=f.acc.next1;have:=f.acc.next2;omega
 have c:=d 0 j;have j:oD b n={ oD pg n with pg:=b }:=by unfold oD;rw[c];split<;>rfl
 refine⟨by unfold aQR at g⊢;rw[c];exact g,λk c=>by rw[d k c];exact l k c,m,o,?_⟩;rw[j];exact f.pages λk c=>by rw[i]at c;rw[(oI pg n).1];exact d k c
theorem fG.foldw{c:Nat}{C:Nat->List UInt8}:∀(l:List (Nat×List UInt8)) {s:PS},fG c s C->(∀b∈l,b.1<s.n/\li b.2<=512)->fG c (l.foldl (λs b=>s.write b.1 b.2) s) C
 | [],_,h,_=>h
 | b::l,s,h,hl=>by obtain⟨f,g⟩:=hl b (eC ..);have d:fG c (s.write b.1 b.2) C:=h.wrote f (fN g);exact fG.foldw l d λb d=>hl b (jD _ d)
theorem Wr.inv{c:Nat}{s:PS}{C:Nat->List UInt8}(h:Wr s S)(hi:fG c s C):fG c S C:=by obtain⟨b,d,rfl⟩:=h;exact fG.foldw b hi d
structure mE (N:Nat) (E:Nat->En):Prop where
 rise:∀t,sI (E t)
 few:∀t,(E t).length<=N
 keys:∀t,KFew (E t)
theorem mE.nil:mE 0 λ_=>[]:=⟨λ_=>List.Pairwise.nil,λ_=>tA _,λ_ e b=>by cases b⟩
theorem mE.mono{N M:Nat}{E:Nat->En}(h:mE N E)(b:N<=M):mE M E:=⟨h.rise,λc=>vD (h.few c) b,h.keys⟩
theorem mE.set{N:Nat}{E:Nat->En}(h:mE N E)(t:Nat){F:En}(h1:sI F)(h2:li F<=N)(h3:KFew F):mE N (oE E t F):=by
 refine⟨λc=>?_,λc=>?_,λc=>?_⟩<;>by_cases b:c=t;·subst b;rw[aIl];exact h1
 ·rw[aEQ _ _ b];exact h.rise c
 ·subst b;rw[aIl];exact h2
 ·rw[aEQ _ _ b];exact h.few c
 ·subst b;rw[aIl];exact h3
 rw[aEQ _ _ b];exact h.keys c
theorem mE.put{N:Nat}{E:Nat->En}(h:mE N E)(t:Nat){key:Ky}(c:li key<=600)(v:List UInt8):mE (N+1) (oE E t (tI (E t) key v)):=by
 refine(h.mono (Nat.le_succ N)).set t (aBQ (h.rise t)) (by have:=aRp (E t) key v;have:=h.few t;omega) λe b=>?_;obtain rfl|⟨b,_⟩:=aER.1 b;·exact c
 exact h.keys t e b
section
open Go.RowKit
def bA (s:ByteArray):List UInt8:=s.data.toList
theorem yA(s:ByteArray):li (bA s)=s.size:=by simp[bA]
theorem kP(t:ByteArray)(a b:Nat):bA (t.extract a b)=((bA t).drop a).take (b-a):=Lib.extract_data t a b
theorem iZ{s:ByteArray}{l:List UInt8}(h:bA s=l):s.size=li l:=by rw[<- h,yA]
theorem dR(s:ByteArray){i:Nat}(h:i<s.size):(bA s)[i]? = some (s[i]'h):=by unfold bA;rw[Array.getElem?_toList,Array.getElem?_eq_getElem (by simpa using h)];rfl
theorem aIm{a b:ByteArray}(h:bA a=bA b):a=b:=ByteArray.ext (Array.ext' h)
def aAB (c:UInt8):Bool:=decide (128<=c.toNat/\c.toNat<192)
def dG (r:Int):Bool:=decide ((0<=r/\r<55296)∨(57343<r/\r<=1114111))
def oF (r:Nat):List UInt8->Option Nat
 | []=>some r
 | c::cs=>if aAB c=true then oF (r*64+c.toNat%64) cs else none
def aET:Nat->Nat
 | 0=>128
 | 1=>224
 | 2=>240
 | _=>248
def bJ:Nat->Nat
 | 0=>0
 | 1=>192
 | 2=>224
 | _=>240
def rL:Nat->Nat
 | 0=>0
 | 1=>128
 | 2=>2048
 | _=>65536
def sE (k:Nat) (b:UInt8):Bool:=b.toNat &&& aET k==bJ k
def wC (k:Nat) (b:UInt8):Nat:=b.toNat-bJ k
def oG (k:Nat) (b0:UInt8) (bs:List UInt8):Option (Nat×Nat):=
 match oF (wC k b0) (bs.take k) with
 | none=>none
 | some r=>if (r:Int)<rL k∨dG r=false then none else some (r,k+1)
def xC:List UInt8->Option (Nat×Nat)
 | []=>none
 | b0::bs=>
  if sE 0 b0=true then oG 0 b0 bs
  else if 1<=bs.length/\sE 1 b0=true then oG 1 b0 bs
  else if 2<=bs.length/\sE 2 b0=true then oG 2 b0 bs
  else if 3<=bs.length/\sE 3 b0=true then oG 3 b0 bs
  else none
theorem tR(a c:Nat)(d:a<256)(f:c<256):bits .and ix (a:Int) (c:Int)=((a &&& c:Nat):Int):=by show IntKind.u8.wrap ((BitVec.ofInt 8 (a:Int) &&& BitVec.ofInt 8 (c:Int)).toNat:Int)=_;have b:a &&& c<=c:=Nat.and_le_right;rw[BitVec.toNat_and,iO,iO,jO,jO,aL (by omega),aL (by omega),jL];omega
theorem cX(k:Nat)(c:k<4)(b:UInt8)(h:sE k b=true):bits .andNot ix (b.toNat:Int) (aET k:Int)=((wC k b:Nat):Int):=by
 have all:∀k:Fin 4,∀b:Fin 256,(b.val &&& aET k.val==bJ k.val)=true->bits .andNot ix (b.val:Int) (aET k.val:Int)=((b.val-bJ k.val:Nat):Int):=by decide +kernel
 exact all ⟨k,c⟩ ⟨b.toNat,b.toNat_lt⟩ h
theorem eU(k:Nat)(c:k<4)(b:UInt8)(h:sE k b=true):wC k b<128/\(1<=k->wC k b<32)/\(2<=k->wC k b<16)/\(3<=k->wC k b<8):=by
 have d:∀k:Fin 4,∀b:Fin 256,(b.val &&& aET k.val==bJ k.val)=true->b.val-bJ k.val<128/\(1<=k.val->b.val-bJ k.val<32)/\(2<=k.val->b.val-bJ k.val<16)/\(3<=k.val->b.val-bJ k.val<8):=by decide +kernel
 exact d ⟨k,c⟩ ⟨b.toNat,b.toNat_lt⟩ h
theorem vS(c:UInt8):aAB c=(c.toNat &&& 192==128):=by
 have d:∀b:Fin 256,decide (128<=b.val/\b.val<192)=(b.val &&& 192==128):=by decide +kernel
 exact d ⟨c.toNat,c.toNat_lt⟩
theorem aMw(c:UInt8):c.toNat &&& 63=c.toNat%64:=by
 have d:∀b:Fin 256,b.val &&& 63=b.val%64:=by decide +kernel
 exact d ⟨c.toNat,c.toNat_lt⟩
theorem aMx(x u:Nat)(d:x<33554432)(f:u<64):bits .or .i32 ((x:Int)*64) (u:Int)=((x*64+u:Nat):Int):=by
 have g:((x:Int)*64)=((x*64:Nat):Int):=by omega
 have c:=Nat.shiftLeft_add_eq_or_of_lt (b:=u) (i:=6) (by omega) x;have e:x <<< 6=x*64:=by rw[Nat.shiftLeft_eq]
 rw[e]at c;rw[g];show IntKind.i32.wrap ((BitVec.ofInt 32 ((x*64:Nat):Int) ||| BitVec.ofInt 32 (u:Int)).toNat:Int)=_;rw[BitVec.toNat_or,iO,iO,jO,jO,aL (by omega),aL (by omega),<- c];rw[IntKind.wrap_i32];omega
theorem iN{bs:List UInt8}{r k:Nat}(h:xC bs=some (r,k)):1<=k/\k<=li bs/\k<=4/\r<=1114111:=by
 have hK:∀b c bs,oG b c bs=some (r,k)->k=b+1/\r<=1114111:=λb c bs h=>by
  unfold oG at h;split at h;·cases h
  rename_i f i;split at h;·cases h
  rename_i b;simp only[yG,Prod.mk.injEq]at h;obtain⟨rfl,rfl⟩:=h;refine⟨rfl,?_⟩;have d:dG f=true:=by
   cases g:dG f;·exact absurd (Ij g) b
   rfl
  unfold dG at d;rw[uG]at d;omega
 match bs with
 | []=>cases h
 | c::bs=>
  rw[xC]at h;simp only[bD];split at h;·obtain⟨rfl,b⟩:=hK _ _ _ h;omega
  split at h;·obtain⟨rfl,b⟩:=hK _ _ _ h;omega
  split at h;·obtain⟨rfl,b⟩:=hK _ _ _ h;omega
  split at h;·obtain⟨rfl,b⟩:=hK _ _ _ h;omega
  cases h
def iD:List Value:=[.int .u8 128,.int .u8 0,.int .i32 0,.int .u8 224,.int .u8 192,.int .i32 128,.int .u8 240,.int .u8 224,.int .i32 2048,.int .u8 248,.int .u8 240,.int .i32 65536]
theorem aGn(w:World):RV 217 #[] w (il iD.toArray):=by go_enter func217,ntmps217;go_wp2;exact cI (g:=w) (t':=299) (d:=_) rfl rfl (jl w 299 iD) underlying299 rfl (by kernel_rfl) ⟨rfl,(jj [] w).alloc _⟩
theorem dX(w:World)(r:Int):Calls prog 218 #[ii .i32 r] w λe b=>e=iz (ij (dG r))/\w=b:=by
 have f:∀c,dG r=c->Calls prog 218 #[ii .i32 r] w λe b=>e=iz (ij c)/\w=b:=by
  intro c b;unfold dG at b;by_cases d:0<=r
  ·by_cases g:r<55296
   ·obtain rfl:c=true:=(by rw[<- b,uG];exact Ii ⟨d,g⟩);clear b;go_enter aDu,aDv;go_wp2;go_ret;exact⟨rfl,rfl⟩
   by_cases d:57343<r
   ·by_cases g:r<=1114111
    ·obtain rfl:c=true:=(by rw[<- b,uG];exact Ij ⟨d,g⟩);clear b;go_enter aDu,aDv;go_wp2;go_ret;exact⟨rfl,rfl⟩
    obtain rfl:c=false:=(by rw[<- b,eI];omega);clear b;go_enter aDu,aDv;go_wp2;go_ret;exact⟨rfl,rfl⟩
   obtain rfl:c=false:=(by rw[<- b,eI];omega);clear b;go_enter aDu,aDv;go_wp2;go_ret;exact⟨rfl,rfl⟩
  obtain rfl:c=false:=(by rw[<- b,eI];omega);have d:¬ 57343<r:=(by omega);clear b;go_enter aDu,aDv;go_wp2;go_ret;exact⟨rfl,rfl⟩
 exact f _ rfl
def vE (bs:List UInt8):Value:=match xC bs with
 | none=>.tuple #[.int .i32 0,.int .i64 0]
 | some (r,k)=>.tuple #[.int .i32 (r:Int),.int .i64 (k:Int)]
def sM (bs:List UInt8) (k:Nat):Prop:=∃b0 l,bs=b0::l/\k<=l.length/\sE k b0=true
def aUc (w:World) (bs:List UInt8) (j:Nat) (v:Value) (wr:World):Prop:=∃k:Nat,k+j=4/\v=.int .i64 (k:Int)/\Fr [] w wr/\∀i,i<k->¬ sM bs i
theorem Z30{P:Prop} (h:P:=by
 subst hik;obtain⟨b0',l',hb,h1,_⟩:=hs;exact absurd (HBS.o.symm.trans hb) (by simp)):P:=h
theorem Z90{P:Prop} (h:P:=by
 go_wp2_with fail
 go_quiet (fail)
 go_wp2_with fail
 go_roundg (3 - 3)
 case measure=>omega
 case rel=>exact⟨3+1,by omega,by go_num,(HF.o.alloc _).drewN _,HNO2.o⟩):P:=h
theorem Z92{P:Prop} (h:P:=by
 go_wp2_with fail
 go_quiet (fail)
 go_wp2_with fail
 go_roundg (3 - 2)
 case measure=>omega
 case rel=>exact⟨2+1,by omega,by go_num,(HF.o.alloc _).drewN _,HNO2.o⟩):P:=h
theorem Z93{P:Prop} (h:P:=by
 go_wp2_with fail
 go_quiet (fail)
 go_wp2_with fail
 go_roundg (3 - 1)
 case measure=>omega
 case rel=>exact⟨1+1,by omega,by go_num,(HF.o.alloc _).drewN _,HNO2.o⟩):P:=h
theorem Z98{P:Prop} (h:P:=by
 go_wp2_with fail
 go_quiet (fail)
 go_wp2_with fail
 go_roundg (3 - 0)
 case measure=>omega
 case rel=>exact⟨0+1,by omega,by go_num,(HF.o.alloc _).drewN _,HNO2.o⟩):P:=h
theorem aRr{w:World}{A:Option Addr}{c:Nat}:RV 198 #[si A 0 c] w (vE []):=by
 refine cA λn k=>?_;obtain⟨f,b⟩:∃f:List UInt8,f=[]:=⟨_,rfl⟩;have HBS:=lh b;go_enter func198,ntmps198;go_wp2_with fail;refine(aGn _).mono ?_;rintro e l ⟨rfl,d⟩;have b:=lh d;go_wp2_with fail;go_loopg [10] 4 (aUc w f);·exact⟨0,rfl,rfl,b.o,λb g=>absurd g (by omega)⟩
 obtain⟨d,m,rfl,i,j⟩:=hrel;have HF:=lh i;have i:=lh j;by_cases j:d=4;·subst j;rw[show((4:Nat):Int)=4 from rfl];go_wp2_with fail;exact k.o _ _ ⟨rfl,HF.o⟩
 have j:d=0∨d=1∨d=2∨d=3:=(by omega);obtain rfl|rfl|rfl|rfl:=j
 ·skip;have d:∀W:World,(Instr.index 299 (il iD.toArray) (ii ip 0)).run prog W=.ok (il #[ii ix 128,ii ix 0,ii .i32 0]) W:=λ_=>(by kernel_rfl);unfold iD at d⊢;rw[show((0:Nat):Int)=0 from rfl];have HNO2:Hid (∀b,b<0+1->¬ sM f b):=lh λb g hs=>by
   by_cases hik:b=0;·exact Z30
   exact i.o b (by omega) hs
  exact Z98
 ·skip;have d:∀W:World,(Instr.index 299 (il iD.toArray) (ii ip 1)).run prog W=.ok (il #[ii ix 224,ii ix 192,ii .i32 128]) W:=λ_=>(by kernel_rfl);unfold iD at d⊢;rw[show((1:Nat):Int)=1 from rfl];have HNO2:Hid (∀b,b<1+1->¬ sM f b):=lh λb g hs=>by
   by_cases hik:b=1;·exact Z30
   exact i.o b (by omega) hs
  exact Z93
 ·skip;have d:∀W:World,(Instr.index 299 (il iD.toArray) (ii ip 2)).run prog W=.ok (il #[ii ix 240,ii ix 224,ii .i32 2048]) W:=λ_=>(by kernel_rfl);unfold iD at d⊢;rw[show((2:Nat):Int)=2 from rfl];have HNO2:Hid (∀b,b<2+1->¬ sM f b):=lh λb g hs=>by
   by_cases hik:b=2;·exact Z30
   exact i.o b (by omega) hs
  exact Z92
 skip;have d:∀W:World,(Instr.index 299 (il iD.toArray) (ii ip 3)).run prog W=.ok (il #[ii ix 248,ii ix 240,ii .i32 65536]) W:=λ_=>(by kernel_rfl);unfold iD at d⊢;rw[show((3:Nat):Int)=3 from rfl];have HNO2:Hid (∀b,b<3+1->¬ sM f b):=lh λb g hs=>by
  by_cases hik:b=3;·exact Z30
  exact i.o b (by omega) hs
 exact Z90
theorem fU{c:UInt8}{l:List UInt8}{k:Nat}(b:B::l=c::q)(h1:k<=li q)(h:li l<k):False:=by injection b with _ b;subst b;omega
theorem gU{b:UInt8}{l:List UInt8}{k:Nat}(g:k<4)(c:k<=li l)(h:sE k b=true)(d:∀i,i<k->¬ sM (b::l) i):xC (b::l)=oG k b l:=by
 have f:∀i,i<k->¬ (i<=li l/\sE i b=true):=λi j h=>d i j ⟨b,l,rfl,h.1,h.2⟩;rw[xC];have j:k=0∨k=1∨k=2∨k=3:=by omega
 obtain rfl|rfl|rfl|rfl:=j;·rw[iA h]
 ·rw[eA (λe=>f 0 (by omega) ⟨by omega,e⟩),iA ⟨c,h⟩]
 ·rw[eA (λe=>f 0 (by omega) ⟨by omega,e⟩),eA (f 1 (by omega)),iA ⟨c,h⟩]
 rw[eA (λe=>f 0 (by omega) ⟨by omega,e⟩),eA (f 1 (by omega)),eA (f 2 (by omega)),iA ⟨c,h⟩]
theorem aJZ{b:UInt8}{l:List UInt8}(c:∀i,i<4->¬ sM (b::l) i):xC (b::l)=none:=by have d:∀i,i<4->¬ (i<=li l/\sE i b=true):=λi g f=>c i g ⟨b,l,rfl,f.1,f.2⟩;rw[xC,eA (λe=>d 0 (by omega) ⟨by omega,e⟩),eA (d 1 (by omega)),eA (d 2 (by omega)),eA (d 3 (by omega))]
theorem bO{l:List α}{i:Nat}{u:α}(h:l[i]? = some u):l.drop i=u::l.drop (i+1):=by obtain⟨b,rfl⟩:=uC.1 h;exact xM b
theorem aIn{r m:Nat}(h:(r+1)*64^(m+1)<=2097152):r<32768/\∀x,x<64->(r*64+x+1)*64^m<=2097152:=by
 have b:1<=64^m:=Nat.one_le_pow _ _ (by omega);have e:(r+1)*64^(m+1)=((r+1)*64)*64^m:=by rw[Nat.pow_succ,Nat.mul_comm (64^m) 64,Nat.mul_assoc]
 rw[e]at h;refine⟨?_,λx d=>vD (Nat.mul_le_mul_right _ (by omega)) h⟩;have c:((r+1)*64)*1<=((r+1)*64)*64^m:=Nat.mul_le_mul_left _ b;omega
def aNO (W0:World) (h0 kk:Nat) (l:List UInt8) (j:Nat) (v6 v41:Value) (wr:World):Prop:=
 ∃i r:Nat,i+j=kk/\v6=.int .i32 (r:Int)/\v41=.int .i64 (i:Int)/\W0=wr/\oF h0 (l.take kk)=oF r ((l.take kk).drop i)/\(r+1)*64^j<=2097152
theorem Z9{P:Prop} (h:P:=by
 have HV:Hid (vE (b0 :: l)=.tuple #[.int .i32 0,.int .i64 0]):=lh (by unfold vE;rw[HIT.o];unfold oG;rw[HH0.o,HTR.o];simp only;rw[iA (.inr hso)]);clear hso;go_wp2_with fail;exact HQ.o _ _ ⟨by rw[HV.o];rfl,HFX.o⟩):P:=h
theorem Z64{P:Prop} (h:P:=by
 exact hle
 have HV:Hid (vE (b0 :: l)=.tuple #[.int .i32 0,.int .i64 0]):=lh (by unfold vE;rw[HIT.o];unfold oG;rw[HH0.o,HTR.o];simp only;rw[iA (.inl hle)]);go_wp2_with fail;exact HQ.o _ _ ⟨by rw[HV.o];rfl,HFX.o⟩):P:=h
theorem Z82{P:Prop} (h:P:=by
 have HV:Hid (vE (b0 :: l)=.tuple #[.int .i32 0,.int .i64 0]):=lh (by unfold vE;rw[HIT.o];unfold oG;rw[HH0.o,HT2.o]);clear hcu;go_wp2_with fail;exact HQ.o _ _ ⟨by rw[HV.o];rfl,HFX.o⟩):P:=h
theorem Z94{P:Prop} (h:P:=by
 clear hcu;go_wp2_with fail
 go_roundg gk'
 case measure=>omega
 case rel=>exact⟨i+1,r * 64+um,by omega,by go_num,by go_num,rfl,HT2.o,HRS.o um hum⟩):P:=h
theorem Z95{P:Prop} (h:P:=by
 subst hik;obtain⟨b0',l',hb,h1,h2⟩:=hs;injection hb with hb1 hb2;subst hb1;rw[hld] at h2;cases h2):P:=h
theorem Z96{P:Prop} (h:P:=by
 clear hso;go_wp2_with fail;exact HQ.o _ _ ⟨by rw[HV.o];rfl,HFX.o⟩):P:=h
theorem Z97{P:Prop} (h:P:=by
 rw[vS] at hcu;rw[nJ];intro e;have e':u.toNat &&& 192=128:=by omega
 rw[e'] at hcu
 cases hcu):P:=h
theorem Z99{P:Prop} (h:P:=by
 rw[vS] at hcu;have e:u.toNat &&& 192=128:=by simpa using hcu
 rw[e];rfl):P:=h
theorem Z100{P:Prop} (h:P:=by
 subst hik;obtain⟨b0',l',hb,h1,_⟩:=hs;exact fU hb h1 (by omega)):P:=h
theorem aPo{w:World}{c n g off:Nat}{b:UInt8}{l:List UInt8}(h:n=l.length+1)(e1:n<=c)(e2:c<=9223372036854775807)(f:∀(j:Nat) (u:UInt8),(b::l)[j]? = some u->w.cell? ⟨g,off+j,none⟩=some (ii ix (u.toNat:Int))): RV 198 #[si (some ⟨g,off,none⟩) n c] w (vE (b::l)):=by
 refine cA λe0 L=>?_;have b':Hid (∀p,Fr [] w p->p.cell? ⟨g,off,none⟩=some (ii ix (b.toNat:Int))):=lh λp d=>by have C:=f 0 b rfl;rw[gV]at C;rw[d.cell (xF w _ C) (by simp)];exact C
 have c0:Hid (∀p,Fr [] w p->∀(j:Nat) (u:UInt8),l[j]? = some u->p.cell? ⟨g,off+1+j,none⟩=some (ii ix (u.toNat:Int))):=lh λp d j u S=>by have C:=f (j+1) u (by simpa using S);rw[show off+(j+1)=off+1+j by omega]at C;rw[d.cell (xF w _ C) (by simp)];exact C
 have d5:=lh h;have d6:1<=n:=by omega
 have d7:l.length+1<=n/\n<=l.length+1:=by omega
 clear f h;go_enter func198,ntmps198;go_wp2_with fail;refine(aGn _).mono ?_;rintro e d9 ⟨rfl,d⟩;have f:=lh d;clear d;go_wp2_with fail;go_loopg [10] 4 (aUc w (b::l));·exact⟨0,rfl,rfl,f.o,λi I=>absurd I (by omega)⟩
 obtain⟨d,d',rfl,h,k⟩:=hrel;have⟨Q,H⟩:=hh2 h k;clear h k f;by_cases f:d=4;·subst f;rw[show((4:Nat):Int)=4 from rfl];have h:Hid (vE (b::l)=tl #[ii .i32 0,ii ip 0]):=lh (by unfold vE;rw[aJZ H.o]);go_wp2_with fail;exact L.o _ _ ⟨by rw[h.o];rfl,Q.o⟩
 have h:d=0∨d=1∨d=2∨d=3:=(by omega);clear f;obtain rfl|rfl|rfl|rfl:=h
 ·have d8:¬ n=0:=(by omega);have a6:0<=l.length:=(by omega);have D:∀p:World,(Instr.index 299 (il iD.toArray) (ii ip 0)).run prog p=.ok (il #[ii ix 128,ii ix 0,ii .i32 0]) p:=λ_=>(by kernel_rfl);unfold iD at D⊢;rw[show((0:Nat):Int)=0 from rfl];have a7:bits .and ix (b.toNat:Int) 128=((b.toNat &&& 128:Nat):Int):=tR b.toNat 128 b.toNat_lt (by omega);have T:wr.cell? ⟨g,off,none⟩=some (ii ix (b.toNat:Int)):=b'.o wr Q.o;have a8:g<wr.heap.size:=xF wr _ T;cases f:sE 0 b with
  | false=>
   have U:(((b.toNat &&& 128:Nat):Int)!=0)=true:=(by have z:(b.toNat &&& 128==0)=false:=f;rw[nJ];intro e;have v:b.toNat &&& 128=0:=(by omega);rw[v]at z;cases z);have O:Hid (∀i,i<0+1->¬ sM (b::l) i):=lh λi I y=>by
    by_cases s:i=0;·subst s;obtain⟨b4,b5,h,C,Z⟩:=y;injection h with b1 c3;subst b1;rw[f]at Z;cases Z
    exact H.o i (by omega) y
   clear f;go_wp2_with fail;go_quiet (fail);go_wp2_with fail;go_roundg (3-0)
   case measure=>omega
   case rel=>exact⟨0+1,by omega,by go_num,(Q.o.alloc _).drewN _,O.o⟩
  | true=>
   have U:(((b.toNat &&& 128:Nat):Int)!=0)=false:=(by have z:(b.toNat &&& 128==0)=true:=f;have v:b.toNat &&& 128=0:=(by simpa using z);rw[v];rfl);have V:bits .andNot ix (b.toNat:Int) 128=((wC 0 b:Nat):Int):=cX 0 (by omega) b f;have h:=eU 0 (by omega) b f;have E:Hid (xC (b::l)=oG 0 b l):=lh (gU (by omega) a6 f H.o);have W:(wC 0 b+1)*64^0<=2097152:=(by obtain⟨c4,t,c5,c6⟩:=h;show(wC 0 b+1)*1<=2097152;omega);have X:=lh W;have a9:wC 0 b<128:=h.1;clear f h W;obtain⟨k,J⟩:∃k,wC 0 b=k:=⟨_,rfl⟩;rw[J]at V a9 X;have F:=lh J;clear J;by_cases c2:c=1
   case' pos=>skip
   case' neg=>skip
   all_goals
    go_wp2_with fail;go_quiet (fail);generalize nq=t at *;go_wp2_with fail;go_quiet (fail);have c1:=Q.o.size;go_wp2_with fail;have x:Hid (Fr [] w ((wr.alloc (iy #[ii ix 128,ii ix 0,ii .i32 0] 298)).drewN (t+nq))):=lh ((Q.o.alloc _).drewN _);have a':((wr.alloc (iy #[ii ix 128,ii ix 0,ii .i32 0] 298)).drewN (t+nq)).cell? ⟨wr.heap.size,2,none⟩=some (ii .i32 0):=((jl wr 298 [ii ix 128,ii ix 0,ii .i32 0]).drewN (t+nq)).at_ (i:=2) rfl;generalize hW5:(wr.alloc (iy #[ii ix 128,ii ix 0,ii .i32 0] 298)).drewN (t+nq)=a2 at *;clear hW5;obtain⟨c7,R⟩:=nm (wr.heap.size);rw[<- R]at a'⊢;clear R;go_loopg [6,41] 0 (aNO a2 k 0 l)
    case atStart=>exact⟨0,k,by omega,rfl,by go_num,rfl,rfl,X.o⟩
    case round=>
     obtain⟨i,d,I,rfl,rfl,rfl,a0,G⟩:=hrel;have P:=lh a0;clear a0;clear D a7 T a8 U V;by_cases s:i<0;·skip;exact absurd s (by omega)
     obtain rfl:i=0:=(by omega);obtain rfl:gk=0:=(by omega);have M:Hid (oF k (l.take 0)=some d):=lh (by rw[P.o,aAU (by rw[pB];omega)];rfl);have b2:d<2097152:=(by rw[aHv]at G;omega);rw[show((0:Nat):Int)=0 from rfl];clear s I G;by_cases B:(d:Int)<0;·skip;exact absurd B (by omega)
     have b0:=lh B;have b3:decide ((d:Int)<0)=false:=(by rw[eI];exact B);go_wp2_with fail;refine(dX _ _).mono ?_;rintro e c8 ⟨rfl,rfl⟩;cases A:dG (d:Int) with
     | true=>have q:Hid (vE (b::l)=tl #[ii .i32 (d:Int),ii ip (0+1)]):=lh (by unfold vE;rw[E.o];unfold oG;rw[F.o,M.o];simp only;rw[eA (by rw[A];simp only[yR,dC];exact Int.not_lt.2 b0.o)];rfl);clear A;go_wp2_with fail;exact L.o _ _ ⟨by rw[q.o];rfl,x.o⟩
     | false=>have q:Hid (vE (b::l)=tl #[ii .i32 0,ii ip 0]):=lh (by unfold vE;rw[E.o];unfold oG;rw[F.o,M.o];simp only;rw[iA (.inr A)]);clear A;go_wp2_with fail;exact L.o _ _ ⟨by rw[q.o];rfl,x.o⟩
 ·by_cases d4:n<=1
  ·have b6:(n:Int)<=1:=(by omega);have D:∀p:World,(Instr.index 299 (il iD.toArray) (ii ip 1)).run prog p=.ok (il #[ii ix 224,ii ix 192,ii .i32 128]) p:=λ_=>(by kernel_rfl);unfold iD at D⊢;rw[show((1:Nat):Int)=1 from rfl];have O:Hid (∀i,i<1+1->¬ sM (b::l) i):=lh λi I y=>by
    by_cases s:i=1;·subst s;obtain⟨b4,b5,h,C,_⟩:=y;exact fU h C (by omega)
    exact H.o i (by omega) y
   go_wp2_with fail;go_quiet (fail);go_wp2_with fail;go_roundg (3-1)
   case measure=>omega
   case rel=>exact⟨1+1,by omega,by go_num,(Q.o.alloc _).drewN _,O.o⟩
  have c9:decide ((n:Int)<=1)=false:=dF (by omega);have b6:¬ (n:Int)<=1:=(by omega);have a6:1<=l.length:=(by omega);have D:∀p:World,(Instr.index 299 (il iD.toArray) (ii ip 1)).run prog p=.ok (il #[ii ix 224,ii ix 192,ii .i32 128]) p:=λ_=>(by kernel_rfl);unfold iD at D⊢;rw[show((1:Nat):Int)=1 from rfl];have a7:bits .and ix (b.toNat:Int) 224=((b.toNat &&& 224:Nat):Int):=tR b.toNat 224 b.toNat_lt (by omega);have T:wr.cell? ⟨g,off,none⟩=some (ii ix (b.toNat:Int)):=b'.o wr Q.o;have a8:g<wr.heap.size:=xF wr _ T;cases f:sE 1 b with
  | false=>
   have U:(((b.toNat &&& 224:Nat):Int)!=192)=true:=(by have z:(b.toNat &&& 224==192)=false:=f;rw[nJ];intro e;have v:b.toNat &&& 224=192:=(by omega);rw[v]at z;cases z);have O:Hid (∀i,i<1+1->¬ sM (b::l) i):=lh λi I y=>by
    by_cases s:i=1;·subst s;obtain⟨b4,b5,h,C,Z⟩:=y;injection h with b1 c3;subst b1;rw[f]at Z;cases Z
    exact H.o i (by omega) y
   clear f;go_wp2_with fail;go_quiet (fail);go_wp2_with fail;go_roundg (3-1)
   case measure=>omega
   case rel=>exact⟨1+1,by omega,by go_num,(Q.o.alloc _).drewN _,O.o⟩
  | true=>
   have U:(((b.toNat &&& 224:Nat):Int)!=192)=false:=(by have z:(b.toNat &&& 224==192)=true:=f;have v:b.toNat &&& 224=192:=(by simpa using z);rw[v];rfl);have V:bits .andNot ix (b.toNat:Int) 224=((wC 1 b:Nat):Int):=cX 1 (by omega) b f;have h:=eU 1 (by omega) b f;have E:Hid (xC (b::l)=oG 1 b l):=lh (gU (by omega) a6 f H.o);have W:(wC 1 b+1)*64^1<=2097152:=(by obtain⟨c4,t,c5,c6⟩:=h;show(wC 1 b+1)*64<=2097152;omega);have X:=lh W;have a9:wC 1 b<128:=h.1;clear f h W;obtain⟨k,J⟩:∃k,wC 1 b=k:=⟨_,rfl⟩;rw[J]at V a9 X;have F:=lh J;clear J;have c2:¬ c=1:=(by omega);go_wp2_with fail;go_quiet (fail);generalize nq=t at *;go_wp2_with fail;go_quiet (fail);have c1:=Q.o.size;go_wp2_with fail;have x:Hid (Fr [] w ((wr.alloc (iy #[ii ix 224,ii ix 192,ii .i32 128] 298)).drewN (t+nq))):=lh ((Q.o.alloc _).drewN _);have a':((wr.alloc (iy #[ii ix 224,ii ix 192,ii .i32 128] 298)).drewN (t+nq)).cell? ⟨wr.heap.size,2,none⟩=some (ii .i32 128):=((jl wr 298 [ii ix 224,ii ix 192,ii .i32 128]).drewN (t+nq)).at_ (i:=2) rfl;generalize hW5:(wr.alloc (iy #[ii ix 224,ii ix 192,ii .i32 128] 298)).drewN (t+nq)=a2 at *;clear hW5;obtain⟨c7,R⟩:=nm (wr.heap.size);rw[<- R]at a'⊢;clear R;go_loopg [6,41] 1 (aNO a2 k 1 l)
   case atStart=>exact⟨0,k,by omega,rfl,by go_num,rfl,rfl,X.o⟩
   case round=>
    obtain⟨i,d,I,rfl,rfl,rfl,a0,G⟩:=hrel;have P:=lh a0;clear a0;clear D a7 T a8 U V;by_cases s:i<1
    ·skip;obtain⟨a1,rfl⟩:∃a1,gk=a1+1:=⟨gk-1,by omega⟩;obtain⟨u,S⟩:∃u,l[i]? = some u:=gx (by omega);have a3:Hid ((l.take 1).drop i=u::(l.take 1).drop (i+1)):=lh (bO (by rw[uH,iA s];exact S));have c':=c0.o a2 x.o i u S;obtain⟨b2,a5⟩:=aIn G;have b7:=lh a5;have d0:bits .and ix (u.toNat:Int) 192=((u.toNat &&& 192:Nat):Int):=tR u.toNat 192 u.toNat_lt (by omega);obtain⟨r,N⟩:∃r,r=u.toNat%64:=⟨_,rfl⟩;have d1:bits .and ix (u.toNat:Int) 63=(r:Int):=(by rw[N,<- aMw];exact tR u.toNat 63 u.toNat_lt (by omega));have a4:r<64:=(by rw[N];exact Nat.mod_lt _ (by omega));have b8:=lh N;have d2:=aMx d r (by omega) a4;have d3:decide ((i:Int)<1)=true:=dT (by omega);clear S a5 G N;cases m:aAB u with
     | true=>
      have b9:(((u.toNat &&& 192:Nat):Int)!=128)=false:=(by rw[vS]at m;have e:u.toNat &&& 192=128:=(by simpa using m);rw[e];rfl);have Y:Hid (oF k (l.take 1)=oF (d*64+r) ((l.take 1).drop (i+1))):=lh (by rw[P.o,a3.o,oF,iA m,b8.o]);clear m;go_wp2_with fail;go_roundg a1
      case measure=>omega
      case rel=>exact⟨i+1,d*64+r,by omega,by go_num,by go_num,rfl,Y.o,b7.o r a4⟩
     | false=>have b9:(((u.toNat &&& 192:Nat):Int)!=128)=true:=(by rw[vS]at m;rw[nJ];intro e;have v:u.toNat &&& 192=128:=(by omega);rw[v]at m;cases m);have Y:Hid (oF k (l.take 1)=none):=lh (by rw[P.o,a3.o,oF,eA (by rw[m];simp)]);have q:Hid (vE (b::l)=tl #[ii .i32 0,ii ip 0]):=lh (by unfold vE;rw[E.o];unfold oG;rw[F.o,Y.o]);clear m;go_wp2_with fail;exact L.o _ _ ⟨by rw[q.o];rfl,x.o⟩
    obtain rfl:i=1:=(by omega);obtain rfl:gk=0:=(by omega);have M:Hid (oF k (l.take 1)=some d):=lh (by rw[P.o,aAU (by rw[pB];omega)];rfl);have b2:d<2097152:=(by rw[aHv]at G;omega);rw[show((1:Nat):Int)=1 from rfl];clear s I G;by_cases B:(d:Int)<128;·skip;have b3:decide ((d:Int)<128)=true:=(by rw[uG];exact B);have q:Hid (vE (b::l)=tl #[ii .i32 0,ii ip 0]):=lh (by unfold vE;rw[E.o];unfold oG;rw[F.o,M.o];simp only;rw[iA (.inl B)]);go_wp2_with fail;exact L.o _ _ ⟨by rw[q.o];rfl,x.o⟩
    have b0:=lh B;have b3:decide ((d:Int)<128)=false:=(by rw[eI];exact B);go_wp2_with fail;refine(dX _ _).mono ?_;rintro e c8 ⟨rfl,rfl⟩;cases A:dG (d:Int) with
    | true=>have q:Hid (vE (b::l)=tl #[ii .i32 (d:Int),ii ip (1+1)]):=lh (by unfold vE;rw[E.o];unfold oG;rw[F.o,M.o];simp only;rw[eA (by rw[A];simp only[yR,dC];exact Int.not_lt.2 b0.o)];rfl);clear A;go_wp2_with fail;exact L.o _ _ ⟨by rw[q.o];rfl,x.o⟩
    | false=>have q:Hid (vE (b::l)=tl #[ii .i32 0,ii ip 0]):=lh (by unfold vE;rw[E.o];unfold oG;rw[F.o,M.o];simp only;rw[iA (.inr A)]);clear A;go_wp2_with fail;exact L.o _ _ ⟨by rw[q.o];rfl,x.o⟩
 ·by_cases d4:n<=2
  ·have b6:(n:Int)<=2:=(by omega);have D:∀p:World,(Instr.index 299 (il iD.toArray) (ii ip 2)).run prog p=.ok (il #[ii ix 240,ii ix 224,ii .i32 2048]) p:=λ_=>(by kernel_rfl);unfold iD at D⊢;rw[show((2:Nat):Int)=2 from rfl];have O:Hid (∀i,i<2+1->¬ sM (b::l) i):=lh λi I y=>by
    by_cases s:i=2;·subst s;obtain⟨b4,b5,h,C,_⟩:=y;exact fU h C (by omega)
    exact H.o i (by omega) y
   go_wp2_with fail;go_quiet (fail);go_wp2_with fail;go_roundg (3-2)
   case measure=>omega
   case rel=>exact⟨2+1,by omega,by go_num,(Q.o.alloc _).drewN _,O.o⟩
  have c9:decide ((n:Int)<=2)=false:=dF (by omega);have b6:¬ (n:Int)<=2:=(by omega);have a6:2<=l.length:=(by omega);have D:∀p:World,(Instr.index 299 (il iD.toArray) (ii ip 2)).run prog p=.ok (il #[ii ix 240,ii ix 224,ii .i32 2048]) p:=λ_=>(by kernel_rfl);unfold iD at D⊢;rw[show((2:Nat):Int)=2 from rfl];have a7:bits .and ix (b.toNat:Int) 240=((b.toNat &&& 240:Nat):Int):=tR b.toNat 240 b.toNat_lt (by omega);have T:wr.cell? ⟨g,off,none⟩=some (ii ix (b.toNat:Int)):=b'.o wr Q.o;have a8:g<wr.heap.size:=xF wr _ T;cases f:sE 2 b with
  | false=>
   have U:(((b.toNat &&& 240:Nat):Int)!=224)=true:=(by have z:(b.toNat &&& 240==224)=false:=f;rw[nJ];intro e;have v:b.toNat &&& 240=224:=(by omega);rw[v]at z;cases z);have O:Hid (∀i,i<2+1->¬ sM (b::l) i):=lh λi I y=>by
    by_cases s:i=2;·subst s;obtain⟨b4,b5,h,C,Z⟩:=y;injection h with b1 c3;subst b1;rw[f]at Z;cases Z
    exact H.o i (by omega) y
   clear f;go_wp2_with fail;go_quiet (fail);go_wp2_with fail;go_roundg (3-2)
   case measure=>omega
   case rel=>exact⟨2+1,by omega,by go_num,(Q.o.alloc _).drewN _,O.o⟩
  | true=>
   have U:(((b.toNat &&& 240:Nat):Int)!=224)=false:=(by have z:(b.toNat &&& 240==224)=true:=f;have v:b.toNat &&& 240=224:=(by simpa using z);rw[v];rfl);have V:bits .andNot ix (b.toNat:Int) 240=((wC 2 b:Nat):Int):=cX 2 (by omega) b f;have h:=eU 2 (by omega) b f;have E:Hid (xC (b::l)=oG 2 b l):=lh (gU (by omega) a6 f H.o);have W:(wC 2 b+1)*64^2<=2097152:=(by obtain⟨c4,t,c5,c6⟩:=h;show(wC 2 b+1)*4096<=2097152;omega);have X:=lh W;have a9:wC 2 b<128:=h.1;clear f h W;obtain⟨k,J⟩:∃k,wC 2 b=k:=⟨_,rfl⟩;rw[J]at V a9 X;have F:=lh J;clear J;have c2:¬ c=1:=(by omega);go_wp2_with fail;go_quiet (fail);generalize nq=t at *;go_wp2_with fail;go_quiet (fail);have c1:=Q.o.size;go_wp2_with fail;have x:Hid (Fr [] w ((wr.alloc (iy #[ii ix 240,ii ix 224,ii .i32 2048] 298)).drewN (t+nq))):=lh ((Q.o.alloc _).drewN _);have a':((wr.alloc (iy #[ii ix 240,ii ix 224,ii .i32 2048] 298)).drewN (t+nq)).cell? ⟨wr.heap.size,2,none⟩=some (ii .i32 2048):=((jl wr 298 [ii ix 240,ii ix 224,ii .i32 2048]).drewN (t+nq)).at_ (i:=2) rfl;generalize hW5:(wr.alloc (iy #[ii ix 240,ii ix 224,ii .i32 2048] 298)).drewN (t+nq)=a2 at *;clear hW5;obtain⟨c7,R⟩:=nm (wr.heap.size);rw[<- R]at a'⊢;clear R;go_loopg [6,41] 2 (aNO a2 k 2 l)
   case atStart=>exact⟨0,k,by omega,rfl,by go_num,rfl,rfl,X.o⟩
   case round=>
    obtain⟨i,d,I,rfl,rfl,rfl,a0,G⟩:=hrel;have P:=lh a0;clear a0;clear D a7 T a8 U V;by_cases s:i<2
    ·skip;obtain⟨a1,rfl⟩:∃a1,gk=a1+1:=⟨gk-1,by omega⟩;obtain⟨u,S⟩:∃u,l[i]? = some u:=gx (by omega);have a3:Hid ((l.take 2).drop i=u::(l.take 2).drop (i+1)):=lh (bO (by rw[uH,iA s];exact S));have c':=c0.o a2 x.o i u S;obtain⟨b2,a5⟩:=aIn G;have b7:=lh a5;have d0:bits .and ix (u.toNat:Int) 192=((u.toNat &&& 192:Nat):Int):=tR u.toNat 192 u.toNat_lt (by omega);obtain⟨r,N⟩:∃r,r=u.toNat%64:=⟨_,rfl⟩;have d1:bits .and ix (u.toNat:Int) 63=(r:Int):=(by rw[N,<- aMw];exact tR u.toNat 63 u.toNat_lt (by omega));have a4:r<64:=(by rw[N];exact Nat.mod_lt _ (by omega));have b8:=lh N;have d2:=aMx d r (by omega) a4;have d3:decide ((i:Int)<2)=true:=dT (by omega);clear S a5 G N;cases m:aAB u with
     | true=>
      have b9:(((u.toNat &&& 192:Nat):Int)!=128)=false:=(by rw[vS]at m;have e:u.toNat &&& 192=128:=(by simpa using m);rw[e];rfl);have Y:Hid (oF k (l.take 2)=oF (d*64+r) ((l.take 2).drop (i+1))):=lh (by rw[P.o,a3.o,oF,iA m,b8.o]);clear m;go_wp2_with fail;go_roundg a1
      case measure=>omega
      case rel=>exact⟨i+1,d*64+r,by omega,by go_num,by go_num,rfl,Y.o,b7.o r a4⟩
     | false=>have b9:(((u.toNat &&& 192:Nat):Int)!=128)=true:=(by rw[vS]at m;rw[nJ];intro e;have v:u.toNat &&& 192=128:=(by omega);rw[v]at m;cases m);have Y:Hid (oF k (l.take 2)=none):=lh (by rw[P.o,a3.o,oF,eA (by rw[m];simp)]);have q:Hid (vE (b::l)=tl #[ii .i32 0,ii ip 0]):=lh (by unfold vE;rw[E.o];unfold oG;rw[F.o,Y.o]);clear m;go_wp2_with fail;exact L.o _ _ ⟨by rw[q.o];rfl,x.o⟩
    obtain rfl:i=2:=(by omega);obtain rfl:gk=0:=(by omega);have M:Hid (oF k (l.take 2)=some d):=lh (by rw[P.o,aAU (by rw[pB];omega)];rfl);have b2:d<2097152:=(by rw[aHv]at G;omega);rw[show((2:Nat):Int)=2 from rfl];clear s I G;by_cases B:(d:Int)<2048;·skip;have b3:decide ((d:Int)<2048)=true:=(by rw[uG];exact B);have q:Hid (vE (b::l)=tl #[ii .i32 0,ii ip 0]):=lh (by unfold vE;rw[E.o];unfold oG;rw[F.o,M.o];simp only;rw[iA (.inl B)]);go_wp2_with fail;exact L.o _ _ ⟨by rw[q.o];rfl,x.o⟩
    have b0:=lh B;have b3:decide ((d:Int)<2048)=false:=(by rw[eI];exact B);go_wp2_with fail;refine(dX _ _).mono ?_;rintro e c8 ⟨rfl,rfl⟩;cases A:dG (d:Int) with
    | true=>have q:Hid (vE (b::l)=tl #[ii .i32 (d:Int),ii ip (2+1)]):=lh (by unfold vE;rw[E.o];unfold oG;rw[F.o,M.o];simp only;rw[eA (by rw[A];simp only[yR,dC];exact Int.not_lt.2 b0.o)];rfl);clear A;go_wp2_with fail;exact L.o _ _ ⟨by rw[q.o];rfl,x.o⟩
    | false=>have q:Hid (vE (b::l)=tl #[ii .i32 0,ii ip 0]):=lh (by unfold vE;rw[E.o];unfold oG;rw[F.o,M.o];simp only;rw[iA (.inr A)]);clear A;go_wp2_with fail;exact L.o _ _ ⟨by rw[q.o];rfl,x.o⟩
 by_cases d4:n<=3
 ·have b6:(n:Int)<=3:=(by omega);have D:∀p:World,(Instr.index 299 (il iD.toArray) (ii ip 3)).run prog p=.ok (il #[ii ix 248,ii ix 240,ii .i32 65536]) p:=λ_=>(by kernel_rfl);unfold iD at D⊢;rw[show((3:Nat):Int)=3 from rfl];have O:Hid (∀i,i<3+1->¬ sM (b::l) i):=lh λi I y=>by
   by_cases s:i=3;·subst s;obtain⟨b4,b5,h,C,_⟩:=y;exact fU h C (by omega)
   exact H.o i (by omega) y
  go_wp2_with fail;go_quiet (fail);go_wp2_with fail;go_roundg (3-3)
  case measure=>omega
  case rel=>exact⟨3+1,by omega,by go_num,(Q.o.alloc _).drewN _,O.o⟩
 have c9:decide ((n:Int)<=3)=false:=dF (by omega);have b6:¬ (n:Int)<=3:=(by omega);have a6:3<=l.length:=(by omega);have D:∀p:World,(Instr.index 299 (il iD.toArray) (ii ip 3)).run prog p=.ok (il #[ii ix 248,ii ix 240,ii .i32 65536]) p:=λ_=>(by kernel_rfl);unfold iD at D⊢;rw[show((3:Nat):Int)=3 from rfl];have a7:bits .and ix (b.toNat:Int) 248=((b.toNat &&& 248:Nat):Int):=tR b.toNat 248 b.toNat_lt (by omega);have T:wr.cell? ⟨g,off,none⟩=some (ii ix (b.toNat:Int)):=b'.o wr Q.o;have a8:g<wr.heap.size:=xF wr _ T;cases f:sE 3 b with
 | false=>
  have U:(((b.toNat &&& 248:Nat):Int)!=240)=true:=by have z:(b.toNat &&& 248==240)=false:=f;rw[nJ];intro e;have v:b.toNat &&& 248=240:=(by omega);rw[v]at z;cases z
  have O:Hid (∀i,i<3+1->¬ sM (b::l) i):=lh λi I y=>by
   by_cases s:i=3;·subst s;obtain⟨b4,b5,h,C,Z⟩:=y;injection h with b1 c3;subst b1;rw[f]at Z;cases Z
   exact H.o i (by omega) y
  clear f;go_wp2_with fail;go_quiet (fail);go_wp2_with fail;go_roundg (3-3)
  case measure=>omega
  case rel=>exact⟨3+1,by omega,by go_num,(Q.o.alloc _).drewN _,O.o⟩
 | true=>
  have U:(((b.toNat &&& 248:Nat):Int)!=240)=false:=by have z:(b.toNat &&& 248==240)=true:=f;have v:b.toNat &&& 248=240:=(by simpa using z);rw[v];rfl
  have V:bits .andNot ix (b.toNat:Int) 248=((wC 3 b:Nat):Int):=cX 3 (by omega) b f;have h:=eU 3 (by omega) b f;have E:Hid (xC (b::l)=oG 3 b l):=lh (gU (by omega) a6 f H.o);have W:(wC 3 b+1)*64^3<=2097152:=by obtain⟨c4,t,c5,c6⟩:=h;show(wC 3 b+1)*262144<=2097152;omega
  have X:=lh W;have a9:wC 3 b<128:=h.1;clear f h W;obtain⟨k,J⟩:∃k,wC 3 b=k:=⟨_,rfl⟩;rw[J]at V a9 X;have F:=lh J;clear J;have c2:¬ c=1:=(by omega);go_wp2_with fail;go_quiet (fail);generalize nq=t at *;go_wp2_with fail;go_quiet (fail);have c1:=Q.o.size;go_wp2_with fail;have x:Hid (Fr [] w ((wr.alloc (iy #[ii ix 248,ii ix 240,ii .i32 65536] 298)).drewN (t+nq))):=lh ((Q.o.alloc _).drewN _);have a':((wr.alloc (iy #[ii ix 248,ii ix 240,ii .i32 65536] 298)).drewN (t+nq)).cell? ⟨wr.heap.size,2,none⟩=some (ii .i32 65536):=((jl wr 298 [ii ix 248,ii ix 240,ii .i32 65536]).drewN (t+nq)).at_ (i:=2) rfl;generalize hW5:(wr.alloc (iy #[ii ix 248,ii ix 240,ii .i32 65536] 298)).drewN (t+nq)=a2 at *;clear hW5;obtain⟨c7,R⟩:=nm (wr.heap.size);rw[<- R]at a'⊢;clear R;go_loopg [6,41] 3 (aNO a2 k 3 l)
  case atStart=>exact⟨0,k,by omega,rfl,by go_num,rfl,rfl,X.o⟩
  case round=>
   obtain⟨i,d,I,rfl,rfl,rfl,a0,G⟩:=hrel;have P:=lh a0;clear a0;clear D a7 T a8 U V;by_cases s:i<3
   ·skip;obtain⟨a1,rfl⟩:∃a1,gk=a1+1:=⟨gk-1,by omega⟩;obtain⟨u,S⟩:∃u,l[i]? = some u:=gx (by omega);have a3:Hid ((l.take 3).drop i=u::(l.take 3).drop (i+1)):=lh (bO (by rw[uH,iA s];exact S));have c':=c0.o a2 x.o i u S;obtain⟨b2,a5⟩:=aIn G;have b7:=lh a5;have d0:bits .and ix (u.toNat:Int) 192=((u.toNat &&& 192:Nat):Int):=tR u.toNat 192 u.toNat_lt (by omega);obtain⟨r,N⟩:∃r,r=u.toNat%64:=⟨_,rfl⟩;have d1:bits .and ix (u.toNat:Int) 63=(r:Int):=(by rw[N,<- aMw];exact tR u.toNat 63 u.toNat_lt (by omega));have a4:r<64:=(by rw[N];exact Nat.mod_lt _ (by omega));have b8:=lh N;have d2:=aMx d r (by omega) a4;have d3:decide ((i:Int)<3)=true:=dT (by omega);clear S a5 G N;cases m:aAB u with
    | true=>
     have b9:(((u.toNat &&& 192:Nat):Int)!=128)=false:=(by rw[vS]at m;have e:u.toNat &&& 192=128:=(by simpa using m);rw[e];rfl);have Y:Hid (oF k (l.take 3)=oF (d*64+r) ((l.take 3).drop (i+1))):=lh (by rw[P.o,a3.o,oF,iA m,b8.o]);clear m;go_wp2_with fail;go_roundg a1
     case measure=>omega
     case rel=>exact⟨i+1,d*64+r,by omega,by go_num,by go_num,rfl,Y.o,b7.o r a4⟩
    | false=>have b9:(((u.toNat &&& 192:Nat):Int)!=128)=true:=(by rw[vS]at m;rw[nJ];intro e;have v:u.toNat &&& 192=128:=(by omega);rw[v]at m;cases m);have Y:Hid (oF k (l.take 3)=none):=lh (by rw[P.o,a3.o,oF,eA (by rw[m];simp)]);have q:Hid (vE (b::l)=tl #[ii .i32 0,ii ip 0]):=lh (by unfold vE;rw[E.o];unfold oG;rw[F.o,Y.o]);clear m;go_wp2_with fail;exact L.o _ _ ⟨by rw[q.o];rfl,x.o⟩
   obtain rfl:i=3:=(by omega);obtain rfl:gk=0:=(by omega);have M:Hid (oF k (l.take 3)=some d):=lh (by rw[P.o,aAU (by rw[pB];omega)];rfl);have b2:d<2097152:=(by rw[aHv]at G;omega);rw[show((3:Nat):Int)=3 from rfl];clear s I G;by_cases B:(d:Int)<65536;·skip;have b3:decide ((d:Int)<65536)=true:=(by rw[uG];exact B);have q:Hid (vE (b::l)=tl #[ii .i32 0,ii ip 0]):=lh (by unfold vE;rw[E.o];unfold oG;rw[F.o,M.o];simp only;rw[iA (.inl B)]);go_wp2_with fail;exact L.o _ _ ⟨by rw[q.o];rfl,x.o⟩
   have b0:=lh B;have b3:decide ((d:Int)<65536)=false:=(by rw[eI];exact B);go_wp2_with fail;refine(dX _ _).mono ?_;rintro e c8 ⟨rfl,rfl⟩;cases A:dG (d:Int) with
   | true=>have q:Hid (vE (b::l)=tl #[ii .i32 (d:Int),ii ip (3+1)]):=lh (by unfold vE;rw[E.o];unfold oG;rw[F.o,M.o];simp only;rw[eA (by rw[A];simp only[yR,dC];exact Int.not_lt.2 b0.o)];rfl);clear A;go_wp2_with fail;exact L.o _ _ ⟨by rw[q.o];rfl,x.o⟩
   | false=>have q:Hid (vE (b::l)=tl #[ii .i32 0,ii ip 0]):=lh (by unfold vE;rw[E.o];unfold oG;rw[F.o,M.o];simp only;rw[iA (.inr A)]);clear A;go_wp2_with fail;exact L.o _ _ ⟨by rw[q.o];rfl,x.o⟩
theorem aRs{w:World}{A:Option Addr}{n c:Nat}{bs:List UInt8}{g:Nat}(i:dA w (si A n c) bs g)(k:c<=9223372036854775807):RV 198 #[si A n c] w (vE bs):=by
 obtain⟨m,o,p,d,f,b⟩:=i;injection d with d h j;subst d h j;match bs,b with
 | [],_=>exact aRr
 | b0::l,b=>obtain⟨rfl,d⟩:=b (by simp);refine aPo (by simp) f k λb f h=>d b (B8 f) ?_;rw[sH,h];rfl
structure Dcm where
 neg:Bool
 digits:List UInt8
 exp:Int
 deriving DecidableEq
def aAC (c:UInt8):Bool:=decide (48<=c.toNat/\c.toNat<=57)
def aUD (l:List UInt8):Nat:=l.foldl (fun n c=>min (n*10+(c.toNat-48)) 1000000) 0
def eB (c:UInt8):Bool:=c.toNat==101 || c.toNat==69
def aMy (c:UInt8) (l:List UInt8):Bool:=l.head?==some c
def expD (l:List UInt8):Int×List UInt8×Bool:=
 match l with
 | []=>(0,[],true)
 | c::cs=>
  if eB c then
   let m:=aMy 45 cs
   let r:=if m || aMy 43 cs then cs.drop 1 else cs
   let n:=(aUD (r.takeWhile aAC):Int)
   (if m then -n else n,r.dropWhile aAC,!(r.takeWhile aAC).isEmpty)
  else (0,c::cs,true)
structure Tkn where
 kind:Nat
 s:List UInt8
 n:Dcm
 frm:Nat
 til:Nat
 deriving DecidableEq
def sQ (c:UInt8):Bool:=decide (97<=c.toNat/\c.toNat<=122) || decide (65<=c.toNat/\c.toNat<=90) || c.toNat==95 || decide (127<c.toNat)
def nC (c:UInt8):Bool:=sQ c || aAC c
def iH:Nat->List UInt8->Bool
 | 0,l=>l.isEmpty
 | n+1,l=>match l with
  | []=>true
  | c::cs=>match xC (c::cs) with
   | none=>false
   | some (_,k)=>iH n ((c::cs).drop k)
def hU (l:List UInt8):Bool:=iH l.length l
def jN (r:Nat):List UInt8:=
 if r<128 then [UInt8.ofNat r]
 else if r<2048 then [UInt8.ofNat (192+r / 64),UInt8.ofNat (128+r%64)]
 else if r<65536 then [UInt8.ofNat (224+r / 4096),UInt8.ofNat (128+r / 64%64),UInt8.ofNat (128+r%64)]
 else [UInt8.ofNat (240+r / 262144),UInt8.ofNat (128+r / 4096%64),UInt8.ofNat (128+r / 64%64),UInt8.ofNat (128+r%64)]
structure QS where
 l:List Tkn
 most:Int
def aRt (neg:Bool) (d:List UInt8):Prop:=d=[]∨16<d.length∨d.all aAC=false∨(1<d.length/\aMy 48 d=true)∨(neg=true/\d=[48])
instance (neg:Bool) (d:List UInt8):Decidable (aRt neg d):=by unfold aRt;exact inferInstance
theorem aRu(s:ByteArray)(i:Nat)(h:i<s.size):s.get! i=s[i]'h:=by show s.get! i=_;simp[ByteArray.get!,getElem!_pos,h];rfl
theorem aPp (s:ByteArray) (pos:Nat) (h:pos < s.size) (hb:128<=(s[pos]'h).toNat): ∃ r k,Utf8.decode s pos=(r,k)/\128<=r/\r<=2097151/\1<=k/\pos+k<=s.size/\∀ j (hj:j < s.size),pos<=j -> j < pos+k -> 128<=(s[j]'hj).toNat:=by
 have hlt:=(s[pos]'h).toNat_lt;have one:∀ j (hj:j < s.size),pos<=j -> j < pos+1 -> 128<=(s[j]'hj).toNat:=λj hj h1 h2=>by
  have:j=pos:=by omega
  subst this;exact hb
 have err:∃ r k,(Utf8.runeError,1)=(r,k)/\128<=r/\r<=2097151/\1<=k/\pos+k<=s.size/\∀ j (hj:j < s.size),pos<=j -> j < pos+k -> 128<=(s[j]'hj).toNat:=⟨_,_,rfl,by decide,by decide,tA _,by omega,one⟩;have cont:∀ k,(decide (pos+k < s.size) && (s.get! (pos+k)).toNat / 64 == 2)=true -> ∃ hk:pos+k < s.size,128<=(s[pos+k]'hk).toNat:=λk hk=>by rw[tN,uG,beq_iff_eq] at hk;refine⟨hk.1,?_⟩;have:=hk.2;rw[aRu s _ hk.1] at this;omega
 unfold Utf8.decode;simp only[aRu s _ (show pos+0 < s.size by omega)];simp only[gV];rw[eA (by omega)];split
 ·rename_i h2;rw[tN] at h2;obtain⟨k1,b1⟩:=cont 1 h2.2;have h6:=eq_of_beq h2.1;split
  ·refine⟨_,_,rfl,by omega,?_,by omega,by omega,λj hj h3 h4=>?_⟩
   ·have:(s.get! (pos+1)).toNat < 256:=(s.get! (pos+1)).toNat_lt;omega
   have hj2:j=pos ∨ j=pos+1:=(by omega);obtain rfl | rfl:=hj2;·exact hb
   exact b1
  exact err
 split
 ·rename_i h3;rw[tN,tN] at h3;obtain⟨k1,b1⟩:=cont 1 h3.1.2;obtain⟨k2,b2⟩:=cont 2 h3.2;have h6:=eq_of_beq h3.1.1;split
  ·rename_i hv;rw[tN,uG] at hv;refine⟨_,_,rfl,by omega,?_,by omega,by omega,λj hj h3 h4=>?_⟩
   ·have:(s.get! (pos+1)).toNat < 256:=(s.get! (pos+1)).toNat_lt;have:(s.get! (pos+2)).toNat < 256:=(s.get! (pos+2)).toNat_lt;omega
   have hj2:j=pos ∨ j=pos+1 ∨ j=pos+2:=(by omega);obtain rfl | rfl | rfl:=hj2;·exact hb
   ·exact b1
   exact b2
  exact err
 split
 ·rename_i h4;rw[tN,tN,tN] at h4;obtain⟨k1,b1⟩:=cont 1 h4.1.1.2;obtain⟨k2,b2⟩:=cont 2 h4.1.2;obtain⟨k3,b3⟩:=cont 3 h4.2;have h6:=eq_of_beq h4.1.1.1;split
  ·rename_i hv;rw[tN,uG] at hv;refine⟨_,_,rfl,by omega,?_,by omega,by omega,λj hj h3 h4=>?_⟩
   ·omega
   have hj2:j=pos ∨ j=pos+1 ∨ j=pos+2 ∨ j=pos+3:=(by omega);obtain rfl | rfl | rfl | rfl:=hj2;·exact hb
   ·exact b1
   ·exact b2
   exact b3
  exact err
 exact err
theorem aRv{c:UInt8}(h:128<=c.toNat):nC c=true:=by unfold nC sQ;have:decide (127<c.toNat)=true:=dT;rw[this];simp
theorem iU{p:α->Bool}:∀ {l:List α} {k:Nat},k<=li l->(∀c∈l.take k,p c=true)->(∀c,l[k]? = some c->p c=false)->l.takeWhile p=l.take k/\l.dropWhile p=l.drop k
 | [],k,_,_,_=>by simp
 | c::l,0,_,_,h=>by have:=h c rfl;simp[this]
 | c::l,k+1,hk,h1,h2=>by have f:=h1 c (by simp);obtain⟨g,i⟩:=iU (l:=l) (k:=k) (by simpa using hk) (λb d=>h1 b (by simp[d])) (λb d=>h2 b (by simpa using d));simp[f,g,i]
theorem aBR(w:World)(s:ByteArray)(j:s.size<=140737488351232):∃C w',(convert 9 67 (sj s)).run prog w=.ok (si (some w) s.size C) w'/\C<=9223372036854775807/\dA w' (si (some w) s.size C) (bA s) w.heap.size/\Fr [] w w':=by
 have c:=run_bytes_of_string (P:=prog) w 9 67 5 s nO Go.Proofs.Tryz.underlying67 Tryz.underlying5;have d:=grownCap_ge w s.size 0 5;have b:=grownCap_le_maxLen w s.size 0 5 (by unfold maxLen;omega);unfold maxLen at b;generalize grownCap w s.size 0 5=C at *;refine⟨C,_,c,b,⟨_,C,0,by rw[yA],by rw[yA];exact d,λh=>⟨rfl,λc i d=>?_⟩⟩,((jj [] w).drew).alloc _⟩;have b:(w.drew.alloc (iy (bytesRow s C) 5 ((bytesRow s C).size,(bytesRow s C).size+1))).heap[w.heap.size]? = some (iy (bytesRow s C) 5 ((bytesRow s C).size,(bytesRow s C).size+1)):=heap_alloc_new w.drew _;rw[nB];simp only[World.cell?,b];rw[sH]at d;obtain⟨f,b,rfl⟩:=Option.map_eq_some_iff.1 d;unfold bA at b;obtain⟨d,g⟩:=uC.1 b;have b:c<s.data.size:=by simpa using d
 simp only[Option.isSome_none,nH,eF];rw[bytesRow,Array.getElem?_append_left (by simpa using b)];simp only[Array.getElem?_map];rw[Array.getElem?_eq_getElem b];have:s.data[c]=f:=by simpa using g
 rw[this];rfl
theorem aMz(n:Nat):iH n []=true:=by cases n<;>rfl
theorem aKa{n:Nat}{l:List UInt8}(h:xC l=none)(b:l≠[]):iH n l=false:=by
 match l,b with
 | c::cs,_=>
  cases n with
  | zero=>rfl
  | succ n=>unfold iH;simp only[h]
theorem aKb{n r k:Nat}{l:List UInt8}(h:xC l=some (r,k))(b:li l<=n+1):iH (n+1) l=iH n (l.drop k):=by
 match l with
 | []=>simp[xC]at h
 | c::cs=>rw[iH];simp only[h]
def CkRel (w:World) (bs:List UInt8) (v3:Value) (wr:World):Prop:=∃k m:Nat,k<=bs.length/\v3=.int .i64 (k:Int)/\Fr [] w wr/\hU bs=iH m (bs.drop k)/\bs.length<=m+k
theorem jZ{w:World}{A:Option Addr}{n c g:Nat}{bs:List UInt8}(L:dA w (si A n c) bs g)(G:c<=9223372036854775807):Calls prog 177 #[si A n c] w λe b=>∃x:Int,e=iz (ii ip x)/\decide (x<0)=hU bs/\Fr [] w b:=by
 refine cA λE p=>?_;obtain⟨b,s⟩:=L.len;have⟨Q,d⟩:=hh2 L b;clear L b;go_enter func177,ntmps177;go_wp2_with fail;go_loopw [3] (λb wr=>CkRel w bs b wr) (λb _=>n-(intOf b).toNat);·exact⟨0,li bs,by omega,rfl,jj _ _,rfl,by omega⟩
 obtain⟨b,k,i,rfl,f,j,l⟩:=hrel;rw[<- d.o]at i l;have⟨z,h⟩:=hh2 f j;clear f j;by_cases F:b<n
 ·have f:=(Q.o.fr z.o).from_ b (by rw[<- d.o];exact i);rw[<- d.o]at f;have j:=xH (P:=prog) (t:=67) Go.Proofs.Tryz.underlying67 (by kernel_rfl) A n c b ip i;generalize (if c=b then A else A.map (·.add b))=sa at *;have i:=lh f;have q:=j wr;clear f j;go_wp2_with fail;refine(aRs i.o (by omega)).mono ?_;rintro e v ⟨rfl,f⟩;have m:=lh (z.o.trans f);clear f q;unfold vE;cases j:xC (bs.drop b) with
  | none=>have f:Hid (hU bs=false):=lh (by rw[h.o];exact aKa j (by intro e;have:=congrArg List.length e;rw[vB,<- d.o]at this;simp at this;omega));clear j;go_wp2_with fail;exact p.o _ _ ⟨_,rfl,by rw[f.o,eI];omega,m.o⟩
  | some i=>
   obtain⟨y,f⟩:=i;have q:=iN j;obtain⟨i,rfl⟩:∃i,k=i+1:=⟨k-1,by omega⟩;have r:Hid (hU bs=iH i (bs.drop (b+f))):=lh (by rw[h.o,aKb j (by rw[vB,<- d.o];omega),List.drop_drop]);obtain⟨B,u,C,D⟩:=q;rw[vB,<- d.o]at u;have k:((f:Int)==0)=false:=(by simp;omega);have q:b+f<=n:=(by omega);have u:n<=c:=(by rw[d.o];exact s);have k:Hid (n<=i+(b+f)):=lh (by omega);clear j l;go_wp2_with fail;go_roundw
   case rel=>exact⟨b+f,i,by rw[<- d.o];omega,by go_num,m.o,r.o,by rw[<- d.o];exact k.o⟩
   case measure=>simp[intOf];omega
 have b:Hid (hU bs=true):=lh (by rw[h.o,sO (by rw[<- d.o];omega)];exact aMz _);clear l;go_wp2_with fail;exact p.o _ _ ⟨_,rfl,by rw[b.o];rfl,z.o⟩
theorem aKc:(prog.info? 5).map (λb=>(b.zero,b.size,b.bytes))=some (some (ii ix 0),1,1):=by kernel_rfl
theorem fW(p:UInt8->Bool)(h:∀n:Fin 256,p (Ot n.val)=true)(c:UInt8):p c=true:=by have:=h ⟨c.toNat,c.toNat_lt⟩;simpa using this
end
section
open Go.RowKit Go.Shelf
theorem eX{s:ByteArray}{i:Nat}{c:UInt8}(h:(bA s)[i]? = some c)(k:IntKind)(W:World):(Instr.index 9 (sj s) (ii k (i:Int))).run prog W=.ok (ii ix (c.toNat:Int)) W:=by
 have d:i<s.size:=by rw[<- yA];exact(uC.1 h).1
 rw[run_index_string W 9 s k (i:Int) nO,dif_pos ⟨by omega,by omega⟩];have b:=dR s d;rw[h]at b;injection b with b;rw[b];rfl
theorem aRw(s:ByteArray)(i:Nat)(h:i<=s.size):∃t,bA t=(bA s).drop i/\∀(k:IntKind) (W:World),(Instr.slice 9 (sj s) (some (ii k (i:Int))) none none).run prog W=.ok (sj t) W:=by
 refine⟨s.extract i s.size,?_,λk W=>?_⟩;·rw[kP,zF (by rw[vB,yA];omega)]
 rw[run_slice_string_l W 9 s nO k (i:Int) (by omega) (by omega)];rfl
theorem aNP(s:ByteArray):(s.toList==([]:List UInt8))=(bA s).isEmpty:=by rw[ByteArray.toList_eq];unfold bA;cases s.data.toList<;>rfl
end
section
open Go.RowKit
theorem mQ{k:Nat}:∀(b:List (List α)),(∀cs∈b,li cs=k)->∀(i:Nat) (cs:List α),b[i]? = some cs->∀(j:Nat),j<k->b.flatten[k*i+j]? = cs[j]?
 | [],_,i,cs,h,_,_=>by simp at h
 | c::b,hk,0,cs,h,j,hj=>by simp only[zP,yG]at h;subst h;have d:=hk c (by simp);rw[cT,Nat.mul_zero,nB,yK (by omega)]
 | c::b,hk,i+1,cs,h,j,hj=>by have d:=hk c (by simp);rw[List.getElem?_cons_succ]at h;have:=mQ b (λf g=>hk f (jD _ g)) i cs h j hj;rw[cT,mJ (by rw[d,aHp];omega),d,show k*(i+1)+j-k=k*i+j by rw[aHp];omega];exact this
def S8 (l:List UInt8):Value:=.string ⟨l.toArray⟩
end
section
open Go.RowKit Go.Shelf
def aCE (r:Int):Bool:=decide (97<=r/\r<=122) || decide (65<=r/\r<=90) || r==95 || decide (127<r)
theorem aIo(c:UInt8):aCE (c.toNat:Int)=sQ c:=eq_of_beq (fW (λc=>aCE (c.toNat:Int)==sQ c) (by decide +kernel) c)
theorem aTj{r:Int}(h:128<=r):aCE r=true:=by unfold aCE;rw[yJ (show 127<r by omega)];simp
theorem Z33{P:Prop} (h:P:=by
 clear hb
 go_enter Go.Proofs.Tryz.func138,Go.Proofs.Tryz.ntmps138
 go_wp2_with fail
 go_ret
 exact⟨rfl,rfl⟩):P:=h
theorem aEU(r:Int)(w:World):Calls prog 138 #[ii .i32 r] w λe c=>e=iz (ij (aCE r))/\w=c:=by
 have i:∀b,aCE r=b->Calls prog 138 #[ii .i32 r] w λe c=>e=iz (ij b)/\w=c:=by
  intro b hb;unfold aCE at hb;by_cases c:97<=r
  ·by_cases g:r<=122
   ·obtain rfl:b=true:=(by rw[<- hb,yJ (show 97<=r/\r<=122 from⟨c,g⟩)];simp);exact Z33
   by_cases c:127<r;·obtain rfl:b=true:=(by rw[<- hb,yJ c];simp);have d:¬ r<=90:=(by omega);have f:(r==95)=false:=bF;exact Z33
   obtain rfl:b=false:=(by rw[<- hb,vH c,vH (show ¬ (97<=r/\r<=122) by omega),vH (show ¬ (65<=r/\r<=90) by omega),show(r==95)=false by rw[lE];omega];rfl);have d:¬ r<=90:=(by omega);have f:(r==95)=false:=bF;exact Z33
  have c:¬ 127<r:=(by omega);by_cases g:65<=r
  ·by_cases d:r<=90
   ·obtain rfl:b=true:=(by rw[<- hb,yJ (show 65<=r/\r<=90 from⟨g,d⟩)];simp);exact Z33
   obtain rfl:b=(r==95):=(by rw[<- hb,vH c,vH (show ¬ (97<=r/\r<=122) by omega),vH (show ¬ (65<=r/\r<=90) by omega)];simp);clear hb;cases f:(r==95);·skip;go_enter Go.Proofs.Tryz.func138,Go.Proofs.Tryz.ntmps138;go_wp2_with fail;go_ret;exact⟨rfl,rfl⟩
   skip;go_enter Go.Proofs.Tryz.func138,Go.Proofs.Tryz.ntmps138;go_wp2_with fail;go_ret;exact⟨rfl,rfl⟩
  obtain rfl:b=false:=(by rw[<- hb,vH c,vH (show ¬ (97<=r/\r<=122) by omega),vH (show ¬ (65<=r/\r<=90) by omega),show(r==95)=false by rw[lE];omega];rfl);have f:(r==95)=false:=bF;exact Z33
 exact i _ rfl
theorem Fr.iterAt{S:List Nat}{a b:World}(h:Fr S a b){k:Nat}(c:a<=k)(s:ByteArray)(pos:Nat):Fr S a (b.iterAt k s pos):=⟨h.os,h.tape,h.output,by rw[Lib.iterAt_size];exact h.size,λd f g=>(Lib.iterAt_other b k d s pos (by omega)).trans (h.block d f g)⟩
def NmRel (w:World) (s:ByteArray) (j:Nat) (v4:Value) (wr:World):Prop:=∃pos,v4=.int .i64 (s.size:Int)/\pos<=s.size/\s.size<=pos+j/\wr.heap[w.heap.size]? = some (.stringIter s pos)/\(∀c∈(bA s).take pos,nC c=true)/\Fr [] w wr
theorem aPq(s:ByteArray)(pos:Nat)(h:pos<s.size):∃r k:Nat,Utf8.decode s pos=(r,k)/\1<=k/\pos+k<=s.size/\r<=2097151 /\((aCE (r:Int)=true∨(48<=r/\r<=57))->∀c∈((bA s).drop pos).take k,nC c=true)/\(¬ (aCE (r:Int)=true∨(48<=r/\r<=57))->nC (s[pos]'h)=false):=by
 by_cases b:(s[pos]'h).toNat<128
 ·refine⟨_,_,decode_ascii s pos h b,tA _,by omega,by omega,λb c d=>?_,λb=>?_⟩
  ·rw[bO (dR s h)]at d;simp only[List.take_succ_cons,List.take_zero,xA]at d;subst d;unfold nC;rw[<- aIo];obtain b|b:=b
   ·rw[b];rfl
   unfold aAC;rw[yJ b];simp
  unfold nC;rw[<- aIo];simp only[not_or]at b;rw[Bool.not_eq_true]at b;rw[b.1];unfold aAC;rw[vH b.2];rfl
 obtain⟨r,k,f,m,g,i,j,l⟩:=aPp s pos h (by omega);refine⟨r,k,f,i,j,g,λ_ c d=>?_,λb=>absurd (Ii (aTj (by omega))) b⟩;obtain⟨f,b⟩:=List.mem_iff_getElem?.1 d;rw[uH]at b;split at b;·rename_i g;rw[zK]at b;have d:pos+f<s.size:=(by omega);rw[dR s d]at b;injection b with b;rw[<- b];exact aRv (l _ d (by omega) (by omega))
 cases b
theorem Z8{P:Prop} (h:P:=by
 have HFW:=HF2;clear hnx;obtain⟨t,hext⟩:∃ t,s.extract 0 pos=t:=⟨_,rfl⟩;have ht:bA t=(bA s).take pos:=by rw[<- hext,kP];simp
 have htw:bA t=(bA s).takeWhile nC:=by rw[ht];exact HTK.o.symm
 have htz:t.size=pos:=by rw[iZ ht,pB,yA];omega
 obtain⟨C,w3,hcv,hC,hba,hf3⟩:=aBR w2 t (by omega);rw[htw,htz] at hba;rw[htz] at hcv;have HF3:=lh (HFW.o.trans hf3);have HBA:=lh hba;have HTW:=lh htw;clear ht hba hf3 htw;go_wp2_with fail;refine(jZ HBA.o (by omega)).mono ?_;rintro e w4 ⟨x,rfl,hx,hf4⟩;have HF4:=lh (HF3.o.trans hf4);have HX:=lh hx;clear hf4 hx hcv hext;go_wp2_with fail;have hlen:((bA s).takeWhile nC).length=pos:=by rw[<- HTW.o,yA,htz]
 exact HQ.o _ _ ⟨by rw[hlen,<- HX.o];rfl,HF4.o⟩):P:=h
theorem Z77{P:Prop} (h:P:=by
 clear hnx;go_wp2_with fail
 go_roundg (s.size - (pos+k))
 case measure=>omega
 case rel=>exact⟨pos+k,rfl,hk2,by omega,HIT2.o,HM2.o,HF2.o⟩):P:=h
theorem aRx{w:World}(s:ByteArray)(D:s.size<=1000000):RV 139 #[sj s] w (tl #[ii ip (li ((bA s).takeWhile nC):Int),ij (hU ((bA s).takeWhile nC))]):=by
 refine cA λA HQ=>?_;go_enter func139,ntmps139;go_wp2_with fail;have c:(w.iter s 0).heap[w.heap.size]? = some (.stringIter s 0):=World.iter_heap w s 0;have d:Fr [] w (w.iter s 0):=(jj [] w).alloc _;generalize w.iter s 0=B at *;have g:=lh c;have c:=lh d;go_loopg [4,5,6] s.size (λd v4 _ _ wr=>NmRel w s d v4 wr);·exact⟨0,rfl,uB _,by omega,g.o,by simp,c.o⟩
 obtain⟨pos,rfl,r,v,c,d,g⟩:=hrel;have⟨i,b⟩:=hh2 c d;have p:=lh g;by_cases l:pos<s.size
 ·obtain⟨c,k,d,y,hk2,z,j,m⟩:=aPq s pos l;have hnx:∀g,(Instr.next (pi w) true g).run prog wr=.ok (tl #[ij true,pos,ii .i32 c]) (wr.iterAt w.heap.size s (pos+k)):=λg=>by
   have:=Lib.run_next_any_at (P:=prog) wr w.heap.size s pos g i.o l;rw[d]at this;exact this
  have⟨HIT2,HF2,J,L⟩:=hh4 (Lib.iterAt_heap wr w.heap.size s pos (pos+k) i.o) (p.o.iterAt (tA _) s (pos+k)) j m;obtain⟨w2,d⟩:∃w2,wr.iterAt w.heap.size s (pos+k)=w2:=⟨_,rfl⟩;rw[d]at hnx HIT2 HF2;obtain⟨m,u⟩:∃m,aCE (c:Int)=m:=⟨_,rfl⟩;have q:(aCE (c:Int)=true∨(48<=c/\c<=57))->∀j∈(bA s).take (pos+k),nC j=true:=λh j d=>by
   rw[List.take_add]at d;obtain n|n:=sD.1 d;·exact b.o j n
   exact J.o h j n
  have n:¬ (aCE (c:Int)=true∨(48<=c/\c<=57))->(bA s).takeWhile nC=(bA s).take pos:=λh=>(iU (by rw[yA];exact r) b.o (λj d=>by rw[dR s l]at d;injection d with d;rw[<- d];exact L.o h)).1;have⟨H,I,f⟩:=hh3 q n u;go_wp2_with fail;refine(aEU _ _).mono ?_;rintro e w3 ⟨rfl,rfl⟩;rw[f.o];cases m with
  | true=>have HM2:=lh (H.o (Ii f.o));exact Z77
  | false=>
   by_cases n:c<48;·have HTK:=lh (I.o (by rw[f.o];simp;omega));have m:decide ((c:Int)<48)=true:=dT;exact Z8
   have m:decide ((c:Int)<48)=false:=dF;by_cases q:57<c;·have HTK:=lh (I.o (by rw[f.o];simp;omega));have m:decide (57<(c:Int))=true:=dT;exact Z8
   have HM2:=lh (H.o (Ij ⟨by omega,by omega⟩));have m:decide (57<(c:Int))=false:=dF;exact Z77
 have c:pos=s.size:=(by omega);subst c;have hnx:∀g,(Instr.next (pi w) true g).run prog wr=.ok (tl #[ij false]) wr:=λg=>Lib.run_next_end_at wr w.heap.size s s.size g i.o l;have HTK:Hid ((bA s).takeWhile nC=(bA s).take s.size):=lh (iU (by rw[yA];exact tA _) b.o (λj d=>by rw[gT (by rw[yA];exact tA _)]at d;cases d)).1;have HFW:=p;obtain⟨t,hext⟩:∃t,s.extract 0 s.size=t:=⟨_,rfl⟩;have ht:bA t=(bA s).take s.size:=(by rw[<- hext,kP];simp);have htw:bA t=(bA s).takeWhile nC:=(by rw[ht];exact HTK.o.symm);have htz:t.size=s.size:=(by rw[iZ ht,pB,yA];omega);obtain⟨C,w3,hcv,hC,hba,hf3⟩:=aBR wr t (by omega);rw[htw,htz]at hba;rw[htz]at hcv;have⟨HF3,HBA,HTW⟩:=hh3 (HFW.o.trans hf3) hba htw;go_wp2_with fail;refine(jZ HBA.o (by omega)).mono ?_;rintro e w4 ⟨x,rfl,hx,hf4⟩;have⟨HF4,HX⟩:=hh2 (HF3.o.trans hf4) hx;go_wp2_with fail;have hlen:li ((bA s).takeWhile nC)=s.size:=(by rw[<- HTW.o,yA,htz]);exact HQ.o _ _ ⟨by rw[hlen,<- HX.o];rfl,HF4.o⟩
end
end Go.Proofs.YtebjhcjbfaaejaaGreatDoor
