/-
  Joined: Px Pz Pc
-/
import Derived.Maps.RangeWalk
import Derived.Maps.Ext
import Derived.Test.YtebjhcjbfaaejaaGreatDoorJca6
set_option maxRecDepth 100000
set_option maxHeartbeats 32000000
namespace Go.Proofs.YtebjhcjbfaaejaaGreatDoor
open Go.Proofs.Tryz
variable {n k j m c r t:Nat}{L:List Nat}{O:PgM}
section
open Go.RowKit
theorem aAD(a b:Int)(w:World):(Instr.buildSlice 67 2 #[(0,.int .u8 a),(1,.int .u8 b)]).run prog w=.ok (.slice (some ⟨w.heap.size,0,none⟩) 2 2) (w.alloc (.cells #[.int .u8 a,.int .u8 b] 5)):=by kernel_rfl
def aAE (w:World) (v:Value) (m:PgM) (b0:Nat):Prop:=∃A c,v=.slice A m.length c/\m.length<=c/\(0<m.length->∃g,A=some ⟨g,0,none⟩/\b0<=g/\g<w.heap.size/\∀(j:Nat) (u:Value),(kcells m)[j]? = some u->w.cell? ⟨g,j,none⟩=some u)
theorem aAE.of{w:World}{v:Value}{m:PgM}{b:Nat}(h:w.ownsRow b 3 1 v m.length (kcells m)):aAE w v m b:=by
 obtain⟨A,c,rfl,f,_⟩:=sA h;refine⟨A,c,rfl,f,fun h0=>?_⟩;obtain⟨g,rfl,i⟩:=tE h h0;refine⟨g,rfl,?_,sF h g rfl,i⟩;rcases h.2 with ⟨_,h1⟩|⟨k,cap,cur,d,j,_⟩
 ·omega
 ·injection d with d _ _;injection d with d;injection d with d _ _;rw[d];exact j
def aRK (w:World) (m:PgM) (e:Ending) (w':World):Prop:=∃v gb,e=.returned v/\cA w' v (bD m) gb/\w.heap.size<=gb/\Fr [] w w'
def RcRel (w2:World) (m:PgM) (v3 v14:Value) (wr:World):Prop:=
 ∃k:Nat,k<=m.length/\v14=.int .i64 (k:Int)/\wr.ownsRow 0 5 1 v3 (bD (m.take k)).length (fA (bD (m.take k)))/\(∀x,v3.ownBlock=some x->w2.heap.size<=x)/\Fr [] w2 wr
theorem aOz{w:World}{g d lg:Nat}{s:PS}(h:yE w g d lg r t s L):
  Calls prog 63 #[.pointer (some ⟨g,0,none⟩)] w (aRK w s.late):=by
 refine gA fun R HQ=>?_;have c4:=h.blk.at_ (i:=4) rfl;have hn:=h.few;have S:=h.lok.few;have HA:=lh h;clear h
 go_enter func63,ntmps63
 go_wp2_with fail;refine(aHG r w).mono ?_;rintro e w1 ⟨rfl,q⟩;have b3:Fr [] w w1:=by rw[q];exact(Fr.refl [] w).alloc _
 have f3:w1.heap.size=w.heap.size+1:=by rw[q];simp
 have b4:=lh (aDb HA.o.late HA.o.lok (by omega) w1 q);have b5:=lh b3;clear q b3;go_wp2_with fail;refine b4.o.mono ?_;rintro e w2 ⟨kv,rfl,H,a4⟩;have HK:=lh (aAE.of H);have b6:=lh (b5.o.trans a4);obtain⟨A,c,e7,hc,_⟩:=aAE.of H;subst e7;have f4:=a4.size;obtain⟨m,hm⟩:=nm (s.late);rw[<- hm]at HK hc S HQ⊢;have HM:=lh hm;obtain⟨n,a5⟩:=nm (m.length);rw[<- a5]at hc S⊢;have HN:=lh a5;clear H a4 b4 b5 hm a5 c4;go_wp2_with fail
 go_loopw [3,14] (fun v3 v14 wr=>RcRel w2 m v3 v14 wr) (fun _ v _=>n-(intOf v).toNat)
 case atStart=>exact⟨0,rB _,rfl,by rw[xT];exact vF _ _ _ _,by simp[Value.ownBlock],Fr.refl _ _⟩
 case round=>
  obtain⟨k,hk,rfl,I,d2,hf⟩:=hrel;rw[<- HN.o]at hk;have HF:=lh hf;have b7:=lh (b6.o.trans hf);have l:=lh I;obtain⟨oA,oc,rfl,e8,_⟩:=sA I;have C:=lh d2
  have b8:(bD (m.take k)).length=514*k:=by
   rw[eO (n:=s.n) (fun p hp=>HA.o.lok.mem p (by rw[<- HM.o];exact rO hp)),jC,<- HN.o,iT hk]
  have b9:=lh b8;clear hf I d2 b8
  by_cases f1:k<n
  ·obtain⟨p,hp⟩:∃p,m[k]? = some p:=gx (by rw[<- HN.o];exact f1);have a0:p∈m:=rG hp;have b':p.1<s.n/\p.2.length=512:=HA.o.lok.mem p (by rw[<- HM.o];exact a0);have hP:=HA.o.fr b7.o;have c4:=hP.blk.at_ (i:=4) rfl;have a1:=hP.late.look (k:=p.1) (by omega);rw[qM HA.o.lok (j:=p.1) (b:=p.2) (by rw[<- HM.o];exact a0),yT]at a1;unfold fI at a1;obtain⟨A',c',hv,_,d3⟩:=HK.o;obtain⟨kg,hA,f6,d4,J⟩:=d3 (by rw[<- HN.o];omega);injection hv with e9 _ e';subst e9;subst e';subst hA
   have kc:wr.cell? ⟨kg,k,none⟩=some (.int .i64 (p.1:Int)):=by
    rw[HF.o.cell (p:=⟨kg,k,none⟩) d4 (by simp)];exact J k _ (by simp[kcells,hp])
   have HP:=lh hp;have P:=lh b';clear hp a0 hP J d3 b'
   go_wp2_with (first
    | (with_reducible refine mA rfl 127 rfl (fI qD) (fA qD).toArray nY rfl ?_)
    | (with_reducible refine vA (W:=wr) rfl 127 (.tmp 6) (.tmp 23) rfl (fA p.2) rfl rfl rfl ?zi ?zl ?z1 ?_))
   case zi=>have h:=xR;simpa[kA,P.o.2]using h
   case zl=>show(fA qD).length=(fA p.2).length;rw[kA,kA,vK,P.o.2]
   case z1=>exact yC _
   intro y d5 b2 f0;have c0:=lh d5;have c1:=lh b2;have e0:wr.heap.size<y.heap.size:=by omega
   have D:=iB l.o b2 (by simp);have f:=lh D;clear d5 b2 D a1 c4 kc;go_upto_region 6 with fail
   refine fE ?_
   iterate 6 (refine rn rfl (by go_simp<;>with_reducible rfl) ?_;simp only[nrm])
   obtain⟨z,a6⟩:=nm (wB p.1 1);obtain⟨B,a7⟩:=nm (wB p.1 0);have q:IntKind.u8.wrap ((p.1:Int) / 256)=(z.toNat:Int):=by rw[a6,dH,wT];simp
   have c2:IntKind.u8.wrap (p.1:Int)=(B.toNat:Int):=by rw[a7,dH,wT];simp
   rw[q,c2];have e1:=lh a6;have e2:=lh a7;clear q c2 a6 a7;obtain⟨iu,hi,a8,M,a9⟩:=Go.info_parts rR;obtain⟨pre,N⟩:=nm (bD (m.take k));rw[<- N]at e8 l f C b9⊢;have f5:pre.length<=2105344:=by rw[b9.o];omega
   have c3:=lh N;clear N;obtain⟨ov,a'⟩:=nm (Value.slice oA pre.length oc);rw[<- a']at l f C⊢;have e3:=lh a';clear a';refine lp fun K hK=>?_;refine xB (v:=.slice (some ⟨y.heap.size,0,none⟩) 2 2) (w':=y.alloc (.cells #[.int .u8 (z.toNat:Int),.int .u8 (B.toNat:Int)] 5)) (by simp[execOp,Act.eval,aAD,Result.andThen]) (hK _ _ ?_);simp only[nrm];clear hK;have c5:Blk (y.alloc (.cells #[.int .u8 (z.toNat:Int),.int .u8 (B.toNat:Int)] 5)) y.heap.size 5 (fA [z,B]):=Blk.new y 5 (fA [z,B]);have a2:Fr [] y (y.alloc (.cells #[.int .u8 (z.toNat:Int),.int .u8 (B.toNat:Int)] 5)):=(Fr.refl [] y).alloc _;have c6:(y.alloc (.cells #[.int .u8 (z.toNat:Int),.int .u8 (B.toNat:Int)] 5)).heap.size=y.heap.size+1:=by simp
   generalize y.alloc (.cells #[.int .u8 (z.toNat:Int),.int .u8 (B.toNat:Int)] 5)=w5 at *;refine lp fun K hK=>?_;refine eD (.tmp 24) (.tmp 30) rfl 5 1 1 Go.Proofs.Tryz.underlying67 hi a8 M a9 rfl (by omega) ov pre.length (fA pre) rfl (iB f.o a2 (by simp)) ⟨y.heap.size,0,none⟩ 2 2 (fA [z,B]) rfl rfl (fun j u hu=>by rw[Go.Addr.add_mid,cC];exact c5.at_ hu) (yC _) (by omega) (by unfold maxLen;omega) (by omega) (y.heap.size+1) c6 fun g7 cap w7 d6 d7 X O=>hK _ _ ?_;simp only[nrm];clear hK;refine rn rfl (by go_simp<;>with_reducible rfl) ?_;simp only[nrm];refine sE ?_;have c7:=e3.o;have E:∀x,ov.ownBlock=some x->x<wr.heap.size:=sF l.o;have F:Fr ov.ownBlock.toList y w7:=(a2.mono (by simp)).trans d7 (fun x Q=>.inl Q);have c8:Blk w7 wr.heap.size 127 (fA p.2):=c0.o.fr F (fun hm=>by have:=E wr.heap.size (by simpa using hm);omega)
   have T:w2.heap.size<=g7/\g7<w7.heap.size/\g7≠wr.heap.size:=by
    have hz:=HF.o.size;rcases X with h|h
    ·have h1:=C.o _ h;have h2:=E _ h;exact⟨h1,O,by omega⟩
    ·exact⟨by omega,O,by omega⟩
   have U:Fr [] w2 w7:=(HF.o.trans c1.o).trans F (fun x Q=>.inr (C.o x (by simpa using Q)));have c9:=lh c8;have a3:=lh T;have G:=lh U;have d0:Hid (w7.ownsRow 0 5 1 (.slice (some ⟨g7,0,none⟩) (pre.length+2) cap) (pre.length+2) (fA (pre++[z,B]))):=lh (by rw[sC];exact d6);clear c8 T U F E d6 d7 X O a2 c5 c6 c7 c0 c1 f e0 f0;go_upto_region 7 with fail
   refine fE ?_
   iterate 2 (refine rn rfl (by go_simp<;>with_reducible rfl) ?_;simp only[nrm])
   refine lp fun K hK=>?_;refine eD (.tmp 32) (.tmp 33) rfl 5 1 1 Go.Proofs.Tryz.underlying67 hi a8 M a9 rfl (by omega) (.slice (some ⟨g7,0,none⟩) (pre.length+2) cap) (pre.length+2) (fA (pre++[z,B])) rfl d0.o ⟨wr.heap.size,0,none⟩ 512 512 (fA p.2) rfl (by rw[kA,P.o.2]) (fun j u hu=>by rw[Go.Addr.add_mid,cC];exact c9.o.at_ hu) (yC _) (by omega) (by unfold maxLen;omega) (by omega) w7.heap.size rfl fun g9 Y w9 d8 d9 Z d'=>hK _ _ ?_;simp only[nrm];clear hK;refine rn rfl (by go_simp<;>with_reducible rfl) ?_;simp only[nrm];refine sE ?_;have d1:Hid (Fr [] w2 w9):=lh (G.o.trans d9 (fun x Q=>.inr (by simp[Value.ownBlock]at Q;subst Q;exact a3.o.1)))
   have e4:Hid (∀x,(Value.slice (some ⟨g9,0,none⟩) (pre.length+2+512) Y).ownBlock=some x->w2.heap.size<=x):=lh (fun x Q=>by
    simp[Value.ownBlock]at Q
    subst Q;rcases Z with h|h
    ·simp[Value.ownBlock]at h;subst h;exact a3.o.1
    ·have:=G.o.size;omega)
   have V:bD (m.take (k+1))=pre++[z,B]++p.2:=by
    have e:m.take (k+1)=m.take k++[p]:=by
     obtain⟨h1,h2⟩:=tD.1 HP.o;rw[jP h1,h2]
    rw[e,aMH,<- c3.o,e1.o,e2.o,qF]
    rfl
   have e5:Hid (w9.ownsRow 0 5 1 (.slice (some ⟨g9,0,none⟩) (pre.length+2+512) Y) (bD (m.take (k+1))).length (fA (bD (m.take (k+1))))):=lh (by
    rw[V,sC];have:(pre++[z,B]++p.2).length=pre.length+2+512:=by simp[P.o.2]
    rw[this];exact d8)
   clear d8 d9 Z d' V hi a8 M a9 d0 c9 G a3;go_wp2_with fail
   go_roundw
   case rel=>exact⟨k+1,by rw[<- HN.o];omega,by go_num,e5.o,e4.o,d1.o⟩
   case measure=>simp[intOf];omega
  ·have HE:Hid (m.take k=m):=lh (zF (by rw[<- HN.o];omega))
   have e6:Hid (∃gb,cA wr (.slice oA (bD (m.take k)).length oc) (bD m) gb/\w2.heap.size<=gb):=lh (by
    have h:=cL l.o C.o;rw[HE.o]at h;rw[HE.o];exact h)
   have f2:=b6.o.size;go_wp2_with fail;obtain⟨gb,h1,h2⟩:=e6.o;exact HQ.o _ _ ⟨_,gb,rfl,h1,by omega,b7.o⟩

open Go.RowKit
section
variable {w w' : World} {g d lg bl bh : Nat} {s : PS} {fp : List Nat}
theorem yE.disk_{D':DM}(h:yE w g d lg bl bh s fp)(p:tK w w' d D' fp)(q:D'.S.length=s.D.S.length):fD w w' g d lg bl bh { s with D:=D' } fp:=by
 obtain⟨c,i,f,m⟩:=p;have b:=h.lt
 have out:∀k,k<w.heap.size->k∉fp->k∉c:=fun k r l n=>by
  rcases m k n with h|h
  ·exact l h
  ·omega
 have j:=h.jn
 exact⟨c,⟨h.blk.fr f h.gout,⟨j.log.fr f j.apart,i,out lg (b lg (by simp[pfp])) j.apart,j.at_,by show _<=D'.S.length;rw[q];exact j.fit,j.num,j.ses⟩,h.late.fr f h.lout,h.held.fr f h.hout,h.ne,out g (b g (by simp[pfp])) h.gout,out bl (b bl (by simp[pfp])) h.lout,out bh (b bh (by simp[pfp])) h.hout,h.lok,h.hok,h.few⟩,
  f.mono (fun x o=>.inl (by simp[pfp,o])),m⟩
theorem yE.log_{D':DM}{l':LG}(h:yE w g d lg bl bh s fp)(r:cY w w' lg d l' D' fp)(t:l'.n=s.l.n):fD w w' g d lg bl bh { s with D:=D',l:=l' } fp:=by
 obtain⟨f,m,j,p⟩:=r;have b:=h.lt;have c:=h.ne2
 have out:∀k,k<w.heap.size->k∉fp->k∉f:=fun k u o i=>by
  rcases p k i with h|h
  ·exact o h
  ·omega
 have far:∀k,k≠lg->k∉fp->k∉lg::fp:=fun k h1 h2 i=>by
  rcases kB.1 i with rfl|i
  ·exact h1 rfl
  ·exact h2 i
 refine⟨f,⟨?_,m,h.late.fr j (far bl c.2.2.1 h.lout),h.held.fr j (far bh c.2.2.2 h.hout),h.ne,out g (b g (by simp[pfp])) h.gout,out bl (b bl (by simp[pfp])) h.lout,out bh (b bh (by simp[pfp])) h.hout,h.lok,h.hok,h.few⟩,
  j.mono (fun x q=>.inl (by rcases kB.1 q with rfl|q<;>simp_all [pfp])),p⟩
 have:=h.blk.fr j (far g h.ne1 h.gout);unfold uJ at this⊢;rw[show({ s with D:=D',l:=l' }:PS).l.n=s.l.n from t];exact this
end
theorem aEr(b:Array Value)(w:World):(callFunc 67 b).run prog w=.ok (.enter 67 b) w:=by kernel_rfl
theorem aEE{log:Nat}:∀(m:PgM) (k i:Nat) (p:Nat×List UInt8),m[k]? = some p->i<8->(cD log m)[8*k+i]? = some (log+8*p.1+i,(p.2.drop (64*i)).take 64)
 | [],_,_,_,h,_=>by simp at h
 | q::m,0,i,p,h,hi=>by
  simp at h
  subst h;unfold cD;rw[nH,kM (by simp;omega),zH,List.getElem?_range (by omega)]
  simp
 | q::m,k+1,i,p,h,hi=>by
  have b:=aEE (log:=log) m k i p (by simpa using h) hi;unfold cD at b⊢;rw[nH,dK (by simp;omega)];simp only[lI,List.length_range];rw[show 8*(k+1)+i-8=8*k+i by omega];exact b
theorem aJZ(q:Nat)(W:World):(Instr.sliceAt 127 (.pointer (some ⟨q,0,none⟩)) (some (.int .i64 0)) (some (.int .i64 64)) none).run prog W=.ok (.slice (some ⟨q,0,none⟩) 64 512) W:=by kernel_rfl
theorem aKa(q:Nat)(W:World):(Instr.sliceAt 127 (.pointer (some ⟨q,0,none⟩)) (some (.int .i64 64)) (some (.int .i64 128)) none).run prog W=.ok (.slice (some ⟨q,64,none⟩) 64 448) W:=by kernel_rfl
theorem aKb(q:Nat)(W:World):(Instr.sliceAt 127 (.pointer (some ⟨q,0,none⟩)) (some (.int .i64 128)) (some (.int .i64 192)) none).run prog W=.ok (.slice (some ⟨q,128,none⟩) 64 384) W:=by kernel_rfl
theorem aKc(q:Nat)(W:World):(Instr.sliceAt 127 (.pointer (some ⟨q,0,none⟩)) (some (.int .i64 192)) (some (.int .i64 256)) none).run prog W=.ok (.slice (some ⟨q,192,none⟩) 64 320) W:=by kernel_rfl
theorem aKd(q:Nat)(W:World):(Instr.sliceAt 127 (.pointer (some ⟨q,0,none⟩)) (some (.int .i64 256)) (some (.int .i64 320)) none).run prog W=.ok (.slice (some ⟨q,256,none⟩) 64 256) W:=by kernel_rfl
theorem aKe(q:Nat)(W:World):(Instr.sliceAt 127 (.pointer (some ⟨q,0,none⟩)) (some (.int .i64 320)) (some (.int .i64 384)) none).run prog W=.ok (.slice (some ⟨q,320,none⟩) 64 192) W:=by kernel_rfl
theorem aKf(q:Nat)(W:World):(Instr.sliceAt 127 (.pointer (some ⟨q,0,none⟩)) (some (.int .i64 384)) (some (.int .i64 448)) none).run prog W=.ok (.slice (some ⟨q,384,none⟩) 64 128) W:=by kernel_rfl
theorem aKg(q:Nat)(W:World):(Instr.sliceAt 127 (.pointer (some ⟨q,0,none⟩)) (some (.int .i64 448)) (some (.int .i64 512)) none).run prog W=.ok (.slice (some ⟨q,448,none⟩) 64 64) W:=by kernel_rfl
theorem aMN(q i:Nat)(hi:i<8)(W:World):(Instr.sliceAt 127 (.pointer (some ⟨q,0,none⟩)) (some (.int .i64 ((64*i:Nat):Int))) (some (.int .i64 ((64*(i+1):Nat):Int))) none).run prog W=.ok (.slice (some ⟨q,64*i,none⟩) 64 (512-64*i)) W:=by
 match i,hi with
 | 0,_=>exact aJZ q W
 | 1,_=>exact aKa q W
 | 2,_=>exact aKb q W
 | 3,_=>exact aKc q W
 | 4,_=>exact aKd q W
 | 5,_=>exact aKe q W
 | 6,_=>exact aKf q W
 | 7,_=>exact aKg q W
theorem aAF(D:DM)(l:LG)(b:List UInt8):(oC D l b).n=l.n:=by
 unfold oC
 repeat' split
 all_goals rfl
def StOut (w2:World) (g d lg bl bh:Nat) (s:PS) (fp:List Nat) (k:Nat) (wr:World):Prop:=
 ∃D,wF s.D (cD s.l.n s.held)=wF D ((cD s.l.n s.held).drop k)/\fD w2 wr g d lg bl bh { s with D:=D } fp/\D.S.length=s.D.S.length/\D.done<=s.D.done+k
def aDc (w:World) (g d lg bl bh:Nat) (s:PS) (fp:List Nat) (e:Ending) (w':World):Prop:=
 e=.returned (.int .i64 (fC s).2.2)/\fD w w' g d lg bl bh { s with D:=(fC s).1,l:=(fC s).2.1 } fp
theorem aOA{w:World}{g d lg:Nat}{s:PS}(h:yE w g d lg m r s L)(i7:s.D.done+200000<1099511627776):
  Calls prog 37 #[.pointer (some ⟨g,0,none⟩)] w (aDc w g d lg m r s L):=by
 refine gA fun R HQ=>?_;have c5:=h.blk.at_ (i:=5) rfl;have hn:=h.few;have c8:=h.hok.few;have i8:s.l.n<=65536:=by have:=h.jn.fit;have:=h.jn.disk.ok.most;omega
 have HA:=lh h;clear h
 go_enter func37,ntmps37
 go_wp2_with fail;refine(aHG r w).mono ?_;rintro e w1 ⟨rfl,a4⟩;have c9:Fr [] w w1:=by rw[a4];exact(Fr.refl [] w).alloc _
 have j1:w1.heap.size=w.heap.size+1:=by rw[a4];simp
 have d0:=lh (aDb HA.o.held HA.o.hok (by omega) w1 a4);have d1:=lh c9;clear a4 c9;go_wp2_with fail;refine d0.o.mono ?_;rintro e w2 ⟨kv,rfl,Q,b'⟩;have HK:=lh (aAE.of Q);have b1:=lh (d1.o.trans b');obtain⟨A,c,i0,hc,_⟩:=aAE.of Q;subst i0;have j2:=b'.size;have d2:=HA.o.fr b1.o;have g1:=lh d2;obtain⟨n,c1⟩:=nm (s.held.length);rw[<- c1]at hc c8⊢;have HN:=lh c1;clear Q b' d0 d1 c1 c5 d2;go_wp2_with fail
 go_loopw [16] (fun v16 wr=>∃k:Nat,k<=n/\v16=.int .i64 (k:Int)/\StOut w2 g d lg m r s L (8*k) wr) (fun v _=>n-(intOf v).toNat)
 case atStart=>exact⟨0,rB _,rfl,s.D,by rw[Nat.mul_zero,List.drop_zero],fD.same g1.o,rfl,tA _⟩
 case round=>
  obtain⟨B,rfl⟩:∃B:World,B=wr:=⟨_,rfl⟩;obtain⟨k,Y,rfl,f,a9,i1,e6,i2⟩:=hrel;obtain⟨T,F,e7,e9⟩:=i1;have a6:=lh a9;have H:=lh F;have Z:=lh e7;have b2:=lh e9;have g2:=lh e6;clear a9 e7 e9 e6
  by_cases i6:k<n
  ·obtain⟨p,hp⟩:∃p,s.held[k]? = some p:=gx (by rw[<- HN.o];exact i6);have b3:p∈s.held:=rG hp;have d3:p.1<s.n/\p.2.length=512:=HA.o.hok.mem p b3;have c5:=F.blk.at_ (i:=5) rfl;have b4:=F.held.look (k:=p.1) (by omega);rw[qM HA.o.hok (j:=p.1) (b:=p.2) b3,yT]at b4;unfold fI at b4;obtain⟨A',c',hv,_,e'⟩:=HK.o;obtain⟨kg,hA,j7,f0,U⟩:=e' (by rw[<- HN.o];omega);injection hv with i3 _ i4;subst i3;subst i4;subst hA;have I:kg∉pfp g lg m r L:=fun hm=>by have:=HA.o.lt kg hm;omega
   have kc:B.cell? ⟨kg,k,none⟩=some (.int .i64 (p.1:Int)):=by
    rw[Z.o.cell (p:=⟨kg,k,none⟩) f0 I];exact U k _ (by simp[kcells,hp])
   have HP:=lh hp;have a0:=lh d3;have j3:p.1<4096:=by omega
   clear hp b3 F U e' d3 I
   go_wp2_with (first
    | (with_reducible refine mA rfl 127 rfl (fI qD) (fA qD).toArray nY rfl ?_)
    | (with_reducible refine vA (W:=B) rfl 127 (.tmp 5) (.tmp 25) rfl (fA p.2) rfl rfl rfl ?zi ?zl ?z1 ?_))
   case zi=>have h:=xR;simpa[kA,a0.o.2]using h
   case zl=>show(fA qD).length=(fA p.2).length;rw[kA,kA,vK,a0.o.2]
   case z1=>exact yC _
   intro w4 f' c7 j';have g3:=lh f';have d4:=lh c7;have g4:=lh (H.o.fr c7);have i9:B.heap.size<w4.heap.size:=by omega
   clear f' c7 b4 c5 kc;go_wp2_with fail
   go_loopw [26] (fun v26 wr=>∃i:Nat,i<=8/\v26=.int .i64 (i:Int)/\∃D,wF s.D (cD s.l.n s.held)=wF D ((cD s.l.n s.held).drop (8*k+i))/\fD w4 wr g d lg m r { s with D:=D } T/\D.S.length=s.D.S.length/\D.done<=s.D.done+(8*k+i)) (fun v _=>8-(intOf v).toNat)
   case atStart=>exact⟨0,by omega,rfl,f,a6.o,fD.same g4.o,g2.o,i2⟩
   case round=>
    obtain⟨i,hi,rfl,C,V,f1,a',j0⟩:=hrel;obtain⟨f2,a5,f3,f4⟩:=f1;have J:=lh V;have a1:=lh a5;have b5:=lh f3;have b6:=lh f4;have a7:=lh a';have c0:=a5.blk.at_ (i:=0) rfl;have c3:=a5.blk.at_ (i:=3) rfl;clear V f3 f4 a' a5
    by_cases g0:i<8
    ·have d5:B.heap.size∉pfp g lg m r T:=fun hm=>by have:=H.o.lt _ hm;omega
     have b7:=g3.o.fr b5.o d5;have d6:=aMN B.heap.size i g0
     have d7:cA wr (.slice (some ⟨B.heap.size,64*i,none⟩) 64 (512-64*i)) ((p.2.drop (64*i)).take 64) B.heap.size:=by
      have h0:=(cA.of_blk b7 512 (by rw[a0.o.2];exact tA _)).sub (64*i) 64 (by rw[a0.o.2];omega);rw[show(if 512=64*i then some (⟨B.heap.size,0,none⟩:Addr) else (some (⟨B.heap.size,0,none⟩:Addr)).map (·.add (64*i)))=some ⟨B.heap.size,64*i,none⟩ by rw[eA (by omega)];simp[Go.Addr.add_mid]]at h0;exact h0
     have g5:=lh d7;have d8:=lh d6;have j4:B.heap.size<wr.heap.size:=b7.lt;have g6:Hid (∀x∈T,x<B.heap.size):=lh (fun x hx=>H.o.lt x (by simp[pfp,hx]));have g7:C.done<1099511627776:=by omega
     generalize B.heap.size=q at *;clear b7 d6 d7 d5;have x1:IntKind.i64.wrap (8*(p.1:Int))=8*(p.1:Int):=by rw[iD];omega
     have x2:IntKind.i64.wrap ((s.l.n:Int)+8*(p.1:Int))=(s.l.n:Int)+8*(p.1:Int):=by rw[iD];omega
     have x3:IntKind.i64.wrap ((s.l.n:Int)+8*(p.1:Int)+(i:Int))=(s.l.n:Int)+8*(p.1:Int)+(i:Int):=by rw[iD];omega
     have x4:IntKind.i64.wrap (64*(i:Int))=((64*i:Nat):Int):=by rw[iD];omega
     have x5:=wi i (by omega)
     have x6:IntKind.i64.wrap (64*((i:Int)+1))=((64*(i+1):Nat):Int):=by rw[iD];omega
     go_wp2_with fail;refine lA (fun W=>W.cell? ⟨g,0,none⟩=some (.pointer (some ⟨d,0,none⟩))/\W.cell? ⟨g,3,none⟩=some (.int .i64 (s.l.n:Int))) [0,1,2,3,4,5,6,7,8,9,10,11,12,13,14,15,16,17,18] (by kernel_rfl) ?_;refine tks [0,1,2,3,4,5,6,7,8,9,10,11,12,13,14,15,16,17] ?_
     iterate 18 (refine tk rfl rfl ⟨c0,c3⟩ rfl (fun _ hW=>by(obtain⟨j8,j9⟩:=hW;go_simp)<;>with_reducible rfl) ?_;simp only[nrm])
     refine tke ?_;refine tv 18 (.slice (some ⟨q,64*i,none⟩) 64 (512-64*i)) rfl rfl ⟨c0,c3⟩ (.inl ⟨rfl,fun W _=>mG rfl rfl rfl rfl (d8.o W)⟩) ?_;simp only[nrm];refine sp 19 rfl rfl rfl fun K hK=>?_;have M:Fr [] wr wr.drew:=(Fr.refl [] wr).drew;refine jA (l:=[.tmp 32,.tmp 41,.tmp 47]) rfl [.pointer (some ⟨d,0,none⟩),.int .i64 ((s.l.n:Int)+8*(p.1:Int)+(i:Int)),.slice (some ⟨q,64*i,none⟩) 64 (512-64*i)] rfl (aEr _) ((aHn (a1.o.jn.disk.fr M) _ _ _ _ (g5.o.fr M) (fun e=>?ne) g7).mono ?_)
     case ne=>
      have h1:=a1.o.jn.disk.mem;rcases b6.o _ h1 with h|h
      ·have:=g6.o d h;omega
      ·omega
     rintro e w7 ⟨rfl,X⟩;have u:=(a1.o.fr M).disk_ X (by rw[vO])
     have b8:w7.cell? ⟨g,0,none⟩=some (.pointer (some ⟨d,0,none⟩))/\w7.cell? ⟨g,3,none⟩=some (.int .i64 (s.l.n:Int)):=by
      obtain⟨_,h7,_⟩:=u;exact⟨h7.blk.at_ (i:=0) rfl,h7.blk.at_ (i:=3) rfl⟩
     refine⟨_,rfl,hK _ _ (fun _=>b8) ?_⟩;simp only[nrm];refine sp 20 rfl rfl rfl fun K hK=>?_;refine nA (v:=?aq13_20) ?yq13_20 (hK _ _ (fun _=>b8) ?_)
     case yq13_20=>go_simp<;>with_reducible rfl
     simp only[nrm];refine wd ?_ _;rw[show(s.l.n:Int)+8*(p.1:Int)+(i:Int)=((s.l.n+8*p.1+i:Nat):Int) by omega]at u⊢
     have N:(cD s.l.n s.held).drop (8*k+i)=(s.l.n+8*p.1+i,(p.2.drop (64*i)).take 64)::(cD s.l.n s.held).drop (8*k+(i+1)):=by
      have hg:=aEE (log:=s.l.n) s.held k i p HP.o g0;obtain⟨h1,h2⟩:=tD.1 hg;rw[zM h1,h2]
      rfl
     have y:=J.o;rw[N]at y;have d9:=vO C ((s.l.n+8*p.1+i:Nat):Int) ((p.2.drop (64*i)).take 64);have j5:=uR C ((s.l.n+8*p.1+i:Nat):Int) ((p.2.drop (64*i)).take 64)
     have d':fD w4 w7 g d lg m r { s with D:=C.write ((s.l.n+8*p.1+i:Nat):Int) ((p.2.drop (64*i)).take 64) } T:=by
      have h2:fD wr w7 g d lg m r { s with D:=C.write ((s.l.n+8*p.1+i:Nat):Int) ((p.2.drop (64*i)).take 64) } f2:=fD.comp (M.mono (by simp)) (fun _ Y=>.inl Y) u;exact fD.comp b5.o b6.o h2
     have a2:=lh d';have g8:=lh d9;clear X u b8 hK M N d' d9 x1 x2 x3 x4 x5 x6 c0 c3
     by_cases E:C.writeE ((s.l.n+8*p.1+i:Nat):Int) ((p.2.drop (64*i)).take 64)=0
     ·have z:wF s.D (cD s.l.n s.held)=wF (C.write ((s.l.n+8*p.1+i:Nat):Int) ((p.2.drop (64*i)).take 64)) ((cD s.l.n s.held).drop (8*k+(i+1))):=by
       rw[y,wF,iA E]
      have a3:=lh z;rw[E];clear y z E;generalize C.write ((s.l.n+8*p.1+i:Nat):Int) ((p.2.drop (64*i)).take 64)=D8 at *;go_wp2_with fail
      go_roundw
      case rel=>exact⟨i+1,by omega,by go_num,D8,a3.o,a2.o,by rw[g8.o];exact a7.o,by omega⟩
      case measure=>simp[intOf];omega
     ·have z:wF s.D (cD s.l.n s.held)=(C.write ((s.l.n+8*p.1+i:Nat):Int) ((p.2.drop (64*i)).take 64),C.writeE ((s.l.n+8*p.1+i:Nat):Int) ((p.2.drop (64*i)).take 64)):=by
       rw[y,wF,eA E]
      generalize C.write ((s.l.n+8*p.1+i:Nat):Int) ((p.2.drop (64*i)).take 64)=D8 at *;generalize C.writeE ((s.l.n+8*p.1+i:Nat):Int) ((p.2.drop (64*i)).take 64)=e8 at *
      have t:fC s=(D8,s.l,e8):=by
       unfold fC;rw[z,iA E]
      have HX:Hid (aDc w g d lg m r s L (.returned (.int .i64 e8)) w7):=lh (by
       unfold aDc;rw[t];exact⟨rfl,fD.comp (b1.o.mono (by simp)) (fun _ Y=>.inl Y) (fD.comp (Z.o.trans d4.o) b2.o a2.o)⟩)
      have g9:(e8 !=0)=true:=by rw[aJ];exact E
      clear E y z t;go_wp2_with fail;exact HQ.o _ _ HX.o
    ·obtain rfl:i=8:=by omega
     have a2:Hid (fD w2 wr g d lg m r { s with D:=C } L):=lh (fD.comp (Z.o.trans d4.o) b2.o ⟨f2,a1.o,b5.o,b6.o⟩);clear c0 c3;go_wp2_with fail
     go_roundw
     case rel=>exact⟨k+1,by omega,by go_num,C,J.o,a2.o,a7.o,by omega⟩
     case measure=>simp[intOf];omega
  ·obtain rfl:k=n:=by omega
   have hL:(cD s.l.n s.held).drop (8*k)=[]:=nP (by rw[aAC,<- HN.o];exact tA _);have y:wF s.D (cD s.l.n s.held)=(f,0):=by rw[a6.o,hL];rfl
   have a3:=lh y;have c0:=F.blk.at_ (i:=0) rfl;clear y hL F;have e0:Hid (Calls prog 68 #[.pointer (some ⟨d,0,none⟩)] B fun e w'=>e=.returned (.int .i64 f.syncE)/\tK B w' d f.sync T):=lh (aLi H.o.jn.disk (by show f.done<_;omega));go_wp2_with fail;refine e0.o.mono ?_;rintro e w5 ⟨rfl,f5⟩
   have g':f.sync.S.length=f.S.length:=by
    unfold DM.sync
    split
    ·rfl
    ·split
     ·rfl
     ·exact yD _ _
   have a8:=H.o.disk_ f5 (by show f.sync.S.length=f.S.length;exact g');have O:fD w w5 g d lg m r { s with D:=f.sync } L:=fD.comp (b1.o.mono (by simp)) (fun _ Y=>.inl Y) (fD.comp Z.o b2.o a8);obtain⟨c2,c4,f6,f7⟩:=id O;have e1:=lh O;have b9:=lh c4;have h3:=lh f6;have h4:=lh f7;have e2:=c4.blk.at_ (i:=1) rfl
   have j6:f.sync.done<=f.done+1:=by
    unfold DM.sync
    split
    ·omega
    ·split
     ·show f.done<=_;omega
     ·exact tA _
   clear f5 a8 O c4 f6 f7 c0 e0
   by_cases E:f.syncE=0
   ·rw[E]
    have t:fC s=(fB f.sync { s.l with at_:=0 } [],oC f.sync { s.l with at_:=0 } [],lC f.sync { s.l with at_:=0 } []):=by
     unfold fC;rw[a3.o,eA (by simp),eA (by simpa using E)]
    have e3:=lh t;have e4:=lh (aOk b9.o.jn.log);clear t E;go_wp2_with fail;refine e4.o.mono ?_;rintro e w6 ⟨rfl,f8,c6⟩;have j:=b9.o.jn;have e5:cY w5 w6 lg d { s.l with at_:=0 } f.sync c2:=⟨c2,⟨f8,j.disk.fr c6 (fun k Y hm=>by simp only[aB]at hm;subst hm;exact j.apart Y),j.apart,rB _,j.fit,j.num,j.ses⟩,c6.mono (fun x hx=>.inl (by simp only[aB]at hx;simp[hx])),fun _ Y=>.inl Y⟩;have P:fD w5 w6 g d lg m r { s with D:=f.sync,l:={ s.l with at_:=0 } } c2:=b9.o.log_ e5 rfl;obtain⟨i5,G,b0,f9⟩:=id P;have i':=lh P;have h5:=lh G;have h6:=lh b0;have h8:=lh f9;have h9:=G.blk.at_ (i:=1) rfl;have h':Hid (Calls prog 70 #[.pointer (some ⟨lg,0,none⟩),.slice none 0 0] w6 fun e w'=>e=.returned (.int .i64 (lC f.sync { s.l with at_:=0 } []))/\cY w6 w' lg d (oC f.sync { s.l with at_:=0 } []) (fB f.sync { s.l with at_:=0 } []) i5):=lh (aAy G.jn (cA.nil w6 g) G.gout G.blk.lt (by simp) (by show f.sync.done+65536<_;omega));clear j e5 P G b0 f9 f8 c6 e4 e2;go_wp2_with fail;refine h'.o.mono ?_;rintro e w7 ⟨rfl,X⟩;have u:=h5.o.log_ X (by show(oC f.sync { s.l with at_:=0 } []).n=s.l.n;rw[aAF])
    have HX:Hid (aDc w g d lg m r s L (.returned (.int .i64 (lC f.sync { s.l with at_:=0 } []))) w7):=lh (by
     unfold aDc;rw[e3.o];exact⟨rfl,fD.comp h3.o h4.o (fD.comp h6.o h8.o u)⟩)
    clear X u h9;go_wp2_with fail;exact HQ.o _ _ HX.o
   ·have t:fC s=(f.sync,s.l,f.syncE):=by
     unfold fC;rw[a3.o,eA (by simp),iA (by simpa using E)]
    have HX:Hid (aDc w g d lg m r s L (.returned (.int .i64 f.syncE)) w5):=lh (by
     unfold aDc;rw[t];exact⟨rfl,e1.o⟩)
    have g9:(f.syncE !=0)=true:=by rw[aJ];exact E
    clear t E e2;go_wp2_with fail;exact HQ.o _ _ HX.o
section
variable {w w' : World} {g d lg bl bh : Nat} {s : PS} {fp : List Nat}
theorem yE.br_(h:yE w g d lg bl bh s fp)(b:Bool)(i:Blk w' g 85 (uJ d lg bl bh { s with br:=b }))(c:Fr [g] w w'):yE w' g d lg bl bh { s with br:=b } fp:=by
 have h2:=h.ne2;exact⟨i,h.jn.fr c (by simp only[aB];exact fun e=>h.ne1 e.symm) (fun k f=>by simp only[aB];exact fun e=>h.gout (e▸f)),h.late.fr c (by simp only[aB];exact h2.1),h.held.fr c (by simp only[aB];exact h2.2.1),h.ne,h.gout,h.lout,h.hout,h.lok,h.hok,h.few⟩
theorem yE.setBr(h:yE w g d lg bl bh s fp)(b:Bool):fD w (w.setCell ⟨g,6,none⟩ (.bool b)) g d lg bl bh { s with br:=b } fp:=
 ⟨fp,h.br_ b (h.blk.set_ 6 (.bool b)) ((Fr.refl _ _).setCell (.inl (by simp)) _),(Fr.refl _ _).setCell (.inl (by simp[pfp])) _,fun _ c=>.inl c⟩
end
def oY (w:World) (g d lg bl bh:Nat) (s:PS) (fp:List Nat) (e:Ending) (w':World):Prop:=
 e=.returned (.int .i64 s.check.2)/\fD w w' g d lg bl bh s.check.1 fp
theorem aLw{w:World}{g d lg:Nat}{s:PS}(h:yE w g d lg k j s L)(y:s.D.done+200000<1099511627776):
  Calls prog 15 #[.pointer (some ⟨g,0,none⟩)] w (oY w g d lg k j s L):=by
 refine gA fun R A=>?_;have I:=h.blk.at_ (i:=5) rfl;have B:=fun ty=>h.held.len ty;have p:=lh (aGr h);have J:=lh h;have T:=lh (aOA h y);clear h;obtain⟨b,v⟩:=nm (s.br);have C:=lh v;rw[<- v]at p
 cases b with
 | true=>
  have r:s.check=(s,10):=by unfold PS.check;rw[iA v.symm]
  have u:Hid (oY w g d lg k j s L (.returned (.int .i64 10)) w):=lh (by
   unfold oY;rw[r];exact⟨rfl,fD.same J.o⟩)
  clear v r C
  go_enter func15,ntmps15
  go_wp2_with fail;refine p.o.mono ?_;rintro e w' ⟨rfl,rfl⟩;go_wp2_with fail;exact A.o _ _ u.o
 | false=>
  have q:¬s.br=true:=by rw[<- v];decide
  by_cases h0:s.held=[]
  ·have r:s.check=(s,0):=by unfold PS.check;rw[eA q,iA h0]
   have u:Hid (oY w g d lg k j s L (.returned (.int .i64 0)) w):=lh (by
    unfold oY;rw[r];exact⟨rfl,fD.same J.o⟩)
   rw[h0]at B;clear v r C q h0
   go_enter func15,ntmps15
   go_wp2_with fail;refine p.o.mono ?_;rintro e w' ⟨rfl,rfl⟩;go_wp2_with fail;exact A.o _ _ u.o
  ·have M:¬s.held.length=0:=fun h=>h0 (tO.1 h)
   have r:s.check=if (fC s).2.2≠0 then ({ s with D:=(fC s).1,l:=(fC s).2.1,br:=true },(fC s).2.2) else ({ s with D:=(fC s).1,l:=(fC s).2.1,held:=[] },0):=by
    unfold PS.check;rw[eA q,eA h0]
   have N:=lh r;clear v r C q h0;generalize hn:s.held.length=n at *;clear hn
   go_enter func15,ntmps15
   go_wp2_with fail;refine p.o.mono ?_;rintro e w' ⟨rfl,rfl⟩;go_wp2_with fail;refine T.o.mono ?_;rintro e w1 ⟨rfl,F⟩;obtain⟨G,c,f,m⟩:=F;have U:=lh c;have V:=lh f;have W:=lh m;have E:=c.blk.at_ (i:=5) rfl;have X:=c.blk.at_ (i:=6) rfl;have cf:=c.blk.free
   by_cases z:(fC s).2.2=0
   ·obtain⟨O,P,Q,H,hz⟩:=c.held.clear 0;have Y:∀ty,(Builtin.clear_ #[83] ty #[.map (some j)]).run prog w1=.ok (.tuple #[]) O:=fun ty=>P
    have u:Hid (oY w g d lg k j s L (.returned (.int .i64 0)) O):=lh (by
     unfold oY;rw[N.o,eA (by rw[z];decide)];exact⟨rfl,fD.comp f m ⟨G,c.held_ Q H (vG.nil _),H.mono (fun x S=>.inl (by simp only[aB]at S;simp[pfp,S])),fun _ hk=>.inl hk⟩⟩)
    rw[z];clear P Q H hz c f m B I z;go_wp2_with fail;exact A.o _ _ u.o
   ·have t:=c.setBr true
    have u:Hid (oY w g d lg k j s L (.returned (.int .i64 (fC s).2.2)) (w1.setCell ⟨g,6,none⟩ (.bool true))):=lh (by
     unfold oY;rw[N.o,iA z];exact⟨rfl,fD.comp f m t⟩)
    generalize (fC s).2.2=e8 at *;have Z:(e8 !=0)=true:=by rw[aJ];exact z
    clear c f m t B z I E;go_wp2_with fail;exact A.o _ _ u.o
theorem PS.append_ne(s:PS)(b:List UInt8)(h:lC s.D s.l b≠5):s.append b=(s.laid b,lC s.D s.l b):=by unfold PS.append;rw[iA (.inl h)]
theorem iX(s:PS)(h:s.held.length<=s.n)(f:s.n<=4096):s.check.1.D.done<=s.D.done+100000:=by
 have h1:(fC s).1.done<=s.D.done+100000:=by
  have b:=aEA (cD s.l.n s.held) s.D;rw[aAC]at b
  have c:(wF s.D (cD s.l.n s.held)).1.sync.done<=(wF s.D (cD s.l.n s.held)).1.done+1:=by
   unfold DM.sync
   split
   ·omega
   ·split
    ·show(wF s.D (cD s.l.n s.held)).1.done<=_;omega
    ·exact tA _
  unfold fC
  split
  ·show(wF s.D (cD s.l.n s.held)).1.done<=_;omega
  ·split
   ·show(wF s.D (cD s.l.n s.held)).1.sync.done<=_;omega
   ·have d:=mN (wF s.D (cD s.l.n s.held)).1.sync { s.l with at_:=0 } []
    show(fB (wF s.D (cD s.l.n s.held)).1.sync { s.l with at_:=0 } []).done<=_
    omega
 unfold PS.check
 split
 ·exact Nat.le_add_right _ _
 ·split
  ·exact Nat.le_add_right _ _
  ·split
   ·exact h1
   ·exact h1
def pY (w:World) (g d lg bl bh:Nat) (s:PS) (fp:List Nat) (b:List UInt8) (e:Ending) (w':World):Prop:=
 e=.returned (.int .i64 (s.append b).2)/\fD w w' g d lg bl bh (s.append b).1 fp
theorem aMO{w:World}{g d lg:Nat}{s:PS}{v:Value}{b:List UInt8}(h:yE w g d lg k j s L)(hv:cA w v b m)(B:m∉pfp g lg k j L)(S:m<w.heap.size)(T:b.length<=9223372036854775807)(a0:s.D.done+400000<1099511627776):
  Calls prog 62 #[.pointer (some ⟨g,0,none⟩),v] w (pY w g d lg k j s L b):=by
 refine gA fun R U=>?_;have c1:=h.blk.at_ (i:=1) rfl;have V:=lh h;have HV:=lh hv;have F:=lh B;have G:=lh (aAy h.jn hv (fun hm=>B (by simp[pfp,hm])) S T (by omega));clear h hv B
 go_enter func62,ntmps62
 go_wp2_with fail;refine G.o.mono ?_;rintro e w1 ⟨rfl,J⟩;have f:fD w w1 g d lg k j (s.laid b) L:=V.o.log_ J (aAF _ _ _);obtain⟨a4,t,M,N⟩:=id f;have x:=lh f;have W:=lh t;have X:=lh M;have Y:=lh N;have c5:=t.blk.at_ (i:=5) rfl;have hl:∀ty,(Builtin.len_ #[83] ty #[.map (some j)]).run prog w1=.ok (.int .i64 (s.held.length:Int)) w1:=fun ty=>t.held.len ty;clear J f t M N G c1
 by_cases C:lC s.D s.l b=5
 ·rw[C]
  by_cases h0:s.held=[]
  ·have z:Hid (pY w g d lg k j s L b (.returned (.int .i64 5)) w1):=lh (by
    unfold pY PS.append;rw[iA (.inr h0),C];exact⟨rfl,x.o⟩)
   rw[h0]at hl;go_wp2_with fail;exact U.o _ _ z.o
  ·have a1:¬s.held.length=0:=fun h=>h0 (tO.1 h)
   have H:s.append b=if (s.laid b).check.2≠0 then (s.laid b).check else ((s.laid b).check.1.laid b,lC (s.laid b).check.1.D (s.laid b).check.1.l b):=by
    unfold PS.append;rw[eA (by rintro(h|h);exact h C;exact h0 h)]
   have a2:(s.laid b).D.done<=s.D.done+65536:=mN s.D s.l b;have A:=lh (aLw W.o (by omega));have y:=lh H;generalize hn:s.held.length=n at *;clear hn h0 C H;go_wp2_with fail;refine A.o.mono ?_;rintro e w2 ⟨rfl,p⟩;have c:=fD.comp X.o Y.o p;obtain⟨O,q,r,u⟩:=id c;have c1:=q.blk.at_ (i:=1) rfl
   have a3:(s.laid b).check.1.D.done<=s.D.done+200000:=by
    have:=iX (s.laid b) V.o.hok.few V.o.few;omega
   by_cases E:(s.laid b).check.2=0
   ·rw[E]
    have I:m∉O:=fun hm=>by
     rcases u _ hm with h|h
     ·exact F.o (by simp[pfp,h])
     ·omega
    have z:=lh (aAy q.jn (HV.o.fr r F.o) I (pO S r.size) T (by omega))
    have HY:Hid (∀P,cY w2 P lg d (oC (s.laid b).check.1.D (s.laid b).check.1.l b) (fB (s.laid b).check.1.D (s.laid b).check.1.l b) O->pY w g d lg k j s L b (.returned (.int .i64 (lC (s.laid b).check.1.D (s.laid b).check.1.l b))) P):=lh (fun P h3=>by
     unfold pY;rw[y.o,eA (by rw[E];decide)];exact⟨rfl,fD.comp r u (q.log_ h3 (aAF _ _ _))⟩)
    clear p c q r u E A c5;go_wp2_with fail;refine z.o.mono ?_;rintro e P ⟨rfl,Q⟩;have HZ:=lh (HY.o P Q);clear Q;go_wp2_with fail;exact U.o _ _ HZ.o
   ·have z:Hid (pY w g d lg k j s L b (.returned (.int .i64 (s.laid b).check.2)) w2):=lh (by
     unfold pY;rw[y.o,iA E];exact⟨rfl,c⟩)
    generalize (s.laid b).check.2=e8 at *;have Z:(e8 !=0)=true:=by rw[aJ];exact E
    clear p c q r u E A c5;go_wp2_with fail;exact U.o _ _ z.o
 ·have z:Hid (pY w g d lg k j s L b (.returned (.int .i64 (lC s.D s.l b))) w1):=lh (by
   unfold pY;rw[PS.append_ne s b C];exact⟨rfl,x.o⟩)
  generalize lC s.D s.l b=e8 at *;have Z:(e8 !=5)=true:=by rw[aJ];exact C
  go_wp2_with fail;exact U.o _ _ z.o

open Go.RowKit Go.Maps
theorem aEF{S:List Nat}{w w':World}{b r n:Nat}{D:DataW Unit}{left:Lit->Bool}(h:w.ranges prog 3 pgR b r n D left k)(g:Fr S w w')(p:b∉S)(q:r∉S):w'.ranges prog 3 pgR b r n D left k:=by
 have h1:=h.owns.lt;have h2:=h.lt;obtain⟨i,c,d,f,c0,j,F,l,m,o,rest⟩:=h;exact⟨i,c,d,f,c0,(g.block b h1 p).trans j,F,l,m,(g.block r h2 q).trans o,rest⟩
theorem aGs{S:List Nat}{w w':World}{b n:Nat}{D:DataW Unit}(h:w.ownsMap prog 3 pgR b n D)(g:Fr S w w')(i:b∉S):w'.ownsMap prog 3 pgR b n D:=by
 have h1:=h.lt;obtain⟨d,c,f,rest⟩:=h;exact⟨d,c,(g.block b h1 i).trans f,rest⟩
def aRq (w:World) (bd bs nd ns:Nat) (Dd Ds:DataW Unit) (wr:World):Prop:=
 ∃(left:Lit->Bool) (cnt:Nat) (Dout:DataW Unit),wr.ranges prog 3 pgR bs w.heap.size ns Ds left cnt/\cnt<=ns /\
  wr.ownsMap prog 3 pgR bd (nd+(ns-cnt)) Dout/\Merged Dout Dd Ds left/\Fr [bd] w wr
theorem aOB{w:World}{bs:Nat}{s:PgM}(H:oE w n O)(I:oE w bs s)(c7:n≠bs)(h1:O.length<=100000)(h2:s.length<=100000):
  Calls prog 64 #[.map (some n),.map (some bs)] w fun e w'=>e=.returned (.tuple #[])/\oE w' n (gH O s)/\Fr [n] w w':=by
 refine gA fun R HQ=>?_;have b6:=H.lt;have b7:=I.lt;have K:=aBd;have HD:=lh H;have HS:=lh I;unfold oE at H I;obtain⟨Dd,E⟩:∃D,D=toD O:=⟨_,rfl⟩;obtain⟨Ds,t⟩:∃D,D=toD s:=⟨_,rfl⟩;have J:Maps.size Ds=s.length:=by rw[t,aGq]
 rw[<- E]at H;rw[<- t]at I;have a2:=lh E;have a3:=lh t;clear E t;generalize O.length=nd at *
 go_enter func64,ntmps64
 go_wp2_with (first
  | (at_range;refine wpList_range_own _ rfl _ 83 rfl 3 127 K Go.Proofs.Tryz.underlying83 pgR bs _ _ rfl I ?_;intro w0 A U c3)
  | go_in)
 go_frame
 have a4:Fr [n] w w0:=(Fr.refl [n] w).grown U (by simp);rw[J]at A;clear J
 go_loopw [8] (fun _ wr=>aRq w n bs nd s.length Dd Ds wr) (fun _ wr=>wr.rangeLeft bs w.heap.size)
 case atStart=>
  exact⟨_,_,Dd,A,tA _,(aGs H ((Fr.refl [] w).grown U (by simp)) (by simp)).mono (by omega),merged_start Dd Ds,a4⟩
 case round=>
  obtain⟨left,S,b5,k,a9,d,hM,u⟩:=hrel
  go_wp2_with (first
   | (at_next;refine wpList_next_ranges _ rfl _ rfl 3 K pgR id fI (fun key _ _=>⟨key,rfl⟩) (fun v _ h=>by obtain⟨b,hb,_⟩:=aBE h;exact⟨b,hb⟩) bs w.heap.size s.length _ _ _ rfl k ?_ ?_)
   | go_in)
  ·intro c4 V;have e:=merged_eq K.one hM V (d.canon K) (H.canonK K) (I.canonK K);rw[a2.o,a3.o,aLu]at e;subst e;have HX:Hid (oE wr n (gH O s)/\Fr [n] w wr):=lh ⟨oE.of d,u⟩;clear k d hM u a9 V;go_wp2_with fail
   go_end0
   exact HQ.o _ _ ⟨rfl,HX.o⟩
  ·intro x c kl yd yp w1 X B c5 Y Z i a' G b0 b1;obtain⟨b,T,F,hy⟩:=aBE Y;obtain rfl:=aEC T;obtain⟨rfl,rfl⟩:=Prod.mk.inj hy;have b8:=k.lt;have b2:=k.ne;have b9:w.heap.size≠n:=by omega
   have f:=aGs d ((Fr.refl [w.heap.size] wr).grown G (by simp)) (by simp;omega);have L:Fr [n] w w1:=u.grown G (fun g hg=>by cases hg;exact .inr (tA _));have M:=lh i;have l:=lh f;have a5:=lh L;have HM:=lh hM;have z:=lh B;have HV:=lh Y;have a6:=lh Z;have a7:wr.rangeLeft bs w.heap.size=S:=k.left_eq;have b':w.heap.size<w1.heap.size:=i.lt;have c0:=f.lt;have c1:=i.owns.lt;unfold fI at b1;clear i f L hM B Y Z k u G T d;have c2:w1.heap.size<=wr.heap.size/\wr.heap.size<=w1.heap.size:=by omega
   clear b0;simp only[]at *
   go_wp2_with (first
    | (with_reducible refine mA rfl 127 rfl (fI qD) (fA qD).toArray nY rfl ?_)
    | (with_reducible refine vA (W:=w1) (zs:=(fA qD).toArray) (t':=127) rfl 127 (.tmp 5) (.tmp 12) rfl (fA c) ?zx ?zy ?zw ?zi ?zl ?z1 ?_))
   case zx=>rfl
   case zy=>rfl
   case zw=>rfl
   case zi=>have h:=xR;simpa[kA,F]using h
   case zl=>show(fA qD).length=(fA c).length;rw[kA,kA,vK,F]
   case z1=>exact yC _
   intro w4 a0 y c6;have b3:n≠w1.heap.size:=by omega
   have b4:w.heap.size≠w1.heap.size:=by omega
   have N:w4.rangeAt w1.heap.size 0 (fA c):=fun j v Y=>by rw[cC];exact a0.at_ Y
   have P:(prog.info? 127).map (·.size)=some (fA c).length:=by rw[kA,F];exact xR
   have C:nd+(s.length-S)<maxLen:=by unfold maxLen;omega
   have m:=aGs l.o y (by simp);have Q:=HV.o;unfold fI at Q
   go_wp2_with (first
    | (with_reducible refine Go.wpList_load_mid rfl 127 (.tmp 5) rfl w1.heap.size 0 rfl (fA c) _ N Go.Proofs.Tryz.underlying127 rfl P ?_)
    | (at_mapUpdate;refine wpList_mapUpdate_own w4 rfl (.tmp 13) (.tmp 14) (.tmp 15) 83 rfl 3 127 K Go.Proofs.Tryz.underlying83 pgR n _ _ rfl m C x _ kl rfl rfl z.o _ _ Q ?_))
   intro w5 r a1;have p:Fr [n] w4 w5:=(Fr.refl [n] w4).grown a1 (fun g hg=>by cases hg;exact .inl (by simp));have q:=aEF (aEF M.o y (by simp) (by simp)) p (by simp;omega) (by simp;omega);have hX:aRq w n bs nd s.length Dd Ds w5:=⟨_,X,_,q,by omega,r.mono (by omega),merged_step HM.o l.o.isMap (K.key z.o) a6.o,(a5.o.trans y).trans p (fun x hx=>.inl hx)⟩;have a8:=q.left_eq;clear q r a1 p a0 y N m
   go_roundw
   case rel=>exact⟨_,_,_,_,_,_,_,_,_,_,hX,rfl⟩
   case measure=>rw[a8,a7];exact a'

open Go.RowKit
theorem aDd(s:PS):s.check.1.late=s.late:=by
 unfold PS.check
 repeat' split
 all_goals rfl
theorem aHI(s:PS)(b:List UInt8):(s.append b).1.late=s.late:=by
 unfold PS.append
 split
 ·rfl
 ·split
  ·exact aDd _
  ·exact aDd _
theorem aHJ(b:Array Value)(w:World):(callFunc 64 b).run prog w=.ok (.enter 64 b) w:=by kernel_rfl
def qY (w:World) (g d lg bl bh:Nat) (s:PS) (fp:List Nat) (e:Ending) (w':World):Prop:=
 e=.returned (.int .i64 s.commit.2)/\fD w w' g d lg bl bh s.commit.1 fp
theorem aOC{w:World}{g d lg:Nat}{s:PS}(h:yE w g d lg k j s L)(U:s.D.done+400000<1099511627776):
  Calls prog 35 #[.pointer (some ⟨g,0,none⟩)] w (qY w g d lg k j s L):=by
 refine gA fun R Y=>?_;have c4:=h.blk.at_ (i:=4) rfl;have hl:=fun ty=>h.late.len ty;have C:=lh (aGr h);have V:=lh h;have HR:=lh (aOz h);have Z:=h.lt;have b2:=lh Z;clear h Z;obtain⟨b,N⟩:=nm (s.br);have HB:=lh N;rw[<- N]at C
 cases b with
 | true=>
  have H:s.commit=(s,10):=by unfold PS.commit;rw[iA N.symm]
  have r:Hid (qY w g d lg k j s L (.returned (.int .i64 10)) w):=lh (by
   unfold qY;rw[H];exact⟨rfl,fD.same V.o⟩)
  clear N H HB
  go_enter func35,ntmps35
  go_wp2_with fail;refine C.o.mono ?_;rintro e w' ⟨rfl,rfl⟩;go_wp2_with fail;exact Y.o _ _ r.o
 | false=>
  have E:¬s.br=true:=by rw[<- N];decide
  by_cases h0:s.late=[]
  ·have H:s.commit=(s,0):=by unfold PS.commit;rw[eA E,iA h0]
   have r:Hid (qY w g d lg k j s L (.returned (.int .i64 0)) w):=lh (by
    unfold qY;rw[H];exact⟨rfl,fD.same V.o⟩)
   rw[h0]at hl;clear N H HB E h0
   go_enter func35,ntmps35
   go_wp2_with fail;refine C.o.mono ?_;rintro e w' ⟨rfl,rfl⟩;go_wp2_with fail;exact Y.o _ _ r.o
  ·have a0:¬s.late.length=0:=fun h=>h0 (tO.1 h)
   have H:s.commit=if (s.append (bD s.late)).2≠0 then ({ (s.append (bD s.late)).1 with br:=(s.append (bD s.late)).1.br || ((s.append (bD s.late)).2 !=5&&(s.append (bD s.late)).2 !=4) },(s.append (bD s.late)).2)
     else ({ (s.append (bD s.late)).1 with held:=gH (s.append (bD s.late)).1.held s.late,late:=[] },0):=by
    unfold PS.commit;rw[eA E,eA h0]
   have b3:(bD s.late).length=514*s.late.length:=eO (n:=s.n) (fun p hp=>V.o.lok.mem p hp);have X:=lh H;have a1:=V.o.lok.few;have hn:=V.o.few;clear N H HB E h0;obtain⟨n,a6⟩:=nm (s.late.length);rw[<- a6]at hl a0 b3 a1;clear a6
   go_enter func35,ntmps35
   go_wp2_with fail;refine C.o.mono ?_;rintro e w' ⟨rfl,rfl⟩;go_wp2_with fail;refine HR.o.mono ?_;rintro e w1 ⟨v,gb,rfl,hv,c2,O⟩;have a2:=V.o.fr O
   have a3:gb<w1.heap.size:=by
    obtain⟨A,c,off,_,_,h1⟩:=hv;obtain⟨_,h2⟩:=h1 (by omega);obtain⟨u,hu⟩:∃u,(fA (bD s.late))[0]? = some u:=gx (by rw[kA];omega);exact cF w1 _ (h2 0 u hu)
   have a4:=lh (aMO a2 hv (fun hm=>by have:=b2.o gb hm;omega) a3 (by omega) U);have b5:=lh O;have b6:∃u,u=v:=⟨_,rfl⟩;clear a2 O hv c2 a3 b6 c4 hl;go_wp2_with fail;refine a4.o.mono ?_;rintro e w2 ⟨rfl,a7⟩;have y:=fD.comp (b5.o.mono (T:=pfp g lg k j L) (by simp)) (fun _ hk=>.inl hk) a7;have J:Hid ((s.append (bD s.late)).1.late=s.late):=lh (aHI _ _);obtain⟨q,hq⟩:=nm (s.append (bD s.late));rw[<- hq]at y X J⊢;obtain⟨s2,B⟩:=q
   simp only at y X J⊢
   obtain⟨a8,f,F,G⟩:=y;have b7:=lh f;have b8:=lh F;have b9:=lh G;have c6:=f.blk.at_ (i:=6) rfl;have cf:=f.blk.free;clear a7 a4 hq
   by_cases he:B=0
   ·subst he;have t:=X.o;rw[eA (by simp)]at t;have b':=lh t;have c4:=f.blk.at_ (i:=4) rfl;have c5:=f.blk.at_ (i:=5) rfl;have k1:s2.held.length<=100000:=by have:=f.hok.few;have:=f.few;omega
    have k2:s2.late.length<=100000:=by have:=f.lok.few;have:=f.few;omega
    clear t X f F G c6 cf;go_wp2_with fail;refine lA (fun W=>W.cell? ⟨g,4,none⟩=some (.map (some k))/\W.cell? ⟨g,5,none⟩=some (.map (some j))) [0,1,2,3,4,5,6,7] (by kernel_rfl) ?_;refine tks [0,1,2,3,4,5,6,7] ?_
    iterate 8 (refine tk rfl rfl ⟨c4,c5⟩ rfl (fun _ hW=>by(obtain⟨c',d0⟩:=hW;go_simp)<;>with_reducible rfl) ?_;simp only[nrm])
    refine tke ?_;refine sp 8 rfl rfl rfl fun K hK=>?_;have a5:Fr [] w2 w2.drew:=(Fr.refl [] w2).drew;have m:=b7.o.fr a5;refine jA (l:=[.tmp 39,.tmp 43]) rfl [.map (some j),.map (some k)] rfl (aHJ _) ((aOB m.held m.late (fun e=>m.ne e.symm) k1 k2).mono ?_);rintro e w3 ⟨rfl,a9,P⟩;have z:=m.held_ a9 P (m.hok.merge m.lok.mem);have M:w3.cell? ⟨g,4,none⟩=some (.map (some k))/\w3.cell? ⟨g,5,none⟩=some (.map (some j)):=⟨z.blk.at_ (i:=4) rfl,z.blk.at_ (i:=5) rfl⟩;refine⟨_,rfl,hK _ _ (fun _=>M) ?_⟩;simp only[nrm];refine wd ?_ _;have c7:=M.1;obtain⟨w4,a',b0,Q,c3⟩:=z.late.clear 0;have c8:∀ty,(Builtin.clear_ #[83] ty #[.map (some k)]).run prog w3=.ok (.tuple #[]) w4:=fun ty=>a'
    have r:Hid (qY w g d lg k j s L (.returned (.int .i64 0)) w4):=lh (by
     unfold qY;rw[b'.o];have c0:=z.late_ b0 Q (vG.nil _);rw[<- J.o];refine⟨rfl,fD.comp b8.o b9.o ⟨a8,c0,((Fr.refl _ w2).drew.trans (P.mono (T:=pfp g lg k j a8) (fun x S=>.inl (by simp only[aB]at S;simp[pfp,S]))) (fun x S=>.inl S)).trans Q (fun x S=>.inl (by simp only[aB]at S;simp[pfp,S])),fun _ hk=>.inl hk⟩⟩)
    clear a' b0 Q c3 z a9 P m a5 M c4 c5 hK;go_wp2_with fail;exact Y.o _ _ r.o
   ·have I:=f.setBr (s2.br || (B !=5&&B !=4));have t:=X.o;rw[iA (by simpa using he)]at t
    have r:Hid (qY w g d lg k j s L (.returned (.int .i64 B)) (w2.setCell ⟨g,6,none⟩ (.bool (s2.br || (B !=5&&B !=4))))):=lh (by
     unfold qY;rw[t];exact⟨rfl,fD.comp F G I⟩)
    have c9:(B !=0)=true:=by rw[aJ];exact he
    clear f F G I t X;have u1:∀b,¬(some undef=some (Value.bool b)):=fun b=>by simp[undef]
    cases b1:s2.br with
    | true=>
     rw[b1]at r c6;simp only[Bool.true_or]at r;go_wp2_with fail;exact Y.o _ _ r.o
    | false=>
     rw[b1]at r c6;simp only[Bool.false_or]at r
     by_cases h5:B=5
     ·subst h5
      simp at r
      go_wp2_with fail;exact Y.o _ _ r.o
     ·have c1:(B !=5)=true:=by rw[aJ];exact h5
      rw[c1]at r;simp only[Bool.true_and]at r;generalize hb4:(B !=4)=b4 at *;go_wp2_with fail;exact Y.o _ _ r.o
structure aAG (s:PS):Prop where
 dead:s.D.dead=false
 pend:s.D.P=[]
 fit:s.l.n+8*s.n<=s.D.S.length
theorem zE.calm{c:Nat}{s:PS}{C:Nat->List UInt8}(h:zE c s C):aAG s:=⟨h.dead,h.pend,h.fit⟩
def aLx (w:World) (b:List UInt8) (e:Ending) (w':World):Prop:=∃v gb,e=.returned (.tuple #[v,.int .i64 0])/\cA w' v b gb/\w.heap.size<=gb/\Fr [] w w'
def rY (S:List (List UInt8)) (log k i:Nat):List UInt8:=((S.drop (log+8*k)).take i).flatten
theorem aMP{S:List (List UInt8)}{log k i:Nat}(c:∀s∈S,s.length=64)(h:log+8*k+i<=S.length):(rY S log k i).length=64*i:=by
 unfold rY;rw[aCu (fun s b=>c s (sK (rO b))),jC,mC];omega
theorem aKh{S:List (List UInt8)}{log k i:Nat}(h:log+8*k+i<S.length):rY S log k (i+1)=rY S log k i++S.getD (log+8*k+i) []:=by
 unfold rY;rw[jP (by rw[mC];omega),List.flatten_append,List.getElem_drop]
 simp[List.getD,xD h]
def aRr (w:World) (S:List (List UInt8)) (log k:Nat) (v6 v10:Value) (wr:World):Prop:=
 ∃i:Nat,i<=8/\v10=.int .i64 (i:Int)/\wr.ownsRow 0 5 1 v6 (64*i) (fA (rY S log k i))/\(∀x,v6.ownBlock=some x->w.heap.size<=x)/\Fr [] w wr
theorem aRL{w:World}{g d lg:Nat}{s:PS}(h:yE w g d lg m c s L)(hc:aAG s)(k:Nat)(hk:k<s.n):
  Calls prog 129 #[.pointer (some ⟨g,0,none⟩),.int .i64 (k:Int)] w (aLx w (sG s.D.S s.l.n k)):=by
 refine gA fun R HQ=>?_;have HA:=lh h;have y:=h.jn.disk.ok;have a5:=y.most;have b0:=hc.fit;have B:=y.sec;have hn:=h.few;have b1:=lh y;have HC:=lh hc;have C:=lh B;clear h y hc B
 go_enter func129,ntmps129
 go_wp2_with fail
 go_loopw [6,10] (aRr w s.D.S s.l.n k) (fun _ v _=>8-(intOf v).toNat)
 case atStart=>exact⟨0,by omega,rfl,by unfold rY;rw[xT];exact vF _ _ _ _,by simp[Value.ownBlock],Fr.refl _ _⟩
 case round=>
  obtain⟨i,hi,rfl,t,V,hf⟩:=hrel;obtain⟨oA,oc,rfl,b2,_⟩:=sA t;have E:=lh t;have J:=lh V;have HF:=lh hf;have z:=HA.o.fr hf;have O:=lh z;have c0:=z.blk.at_ (i:=0) rfl;have c3:=z.blk.at_ (i:=3) rfl;clear t V hf z
  by_cases b3:i<8
  ·have x1:IntKind.i64.wrap (8*(k:Int))=8*(k:Int):=by rw[iD];omega
   have x2:IntKind.i64.wrap ((s.l.n:Int)+8*(k:Int))=(s.l.n:Int)+8*(k:Int):=by rw[iD];omega
   have x3:IntKind.i64.wrap ((s.l.n:Int)+8*(k:Int)+(i:Int))=(s.l.n:Int)+8*(k:Int)+(i:Int):=by rw[iD];omega
   go_wp2_with fail;refine lA (fun W=>W.cell? ⟨g,0,none⟩=some (.pointer (some ⟨d,0,none⟩))/\W.cell? ⟨g,3,none⟩=some (.int .i64 (s.l.n:Int))) [0,1,2,3,4,5,6,7,8,9,10,11,12,14,15,16] (by kernel_rfl) ?_;refine tks [0,1,2,3,4,5,6,7,8,9,10,11,12] ?_
   iterate 13 (refine tk rfl rfl ⟨c0,c3⟩ rfl (fun _ hW=>by(obtain⟨a7,a8⟩:=hW;go_simp)<;>with_reducible rfl) ?_;simp only[nrm])
   refine tke ?_;refine sp 13 rfl rfl rfl fun K hK=>?_;have M:Fr [] wr wr.drew:=(Fr.refl [] wr).drew;refine jA (l:=[.tmp 17,.tmp 26]) rfl [.pointer (some ⟨d,0,none⟩),.int .i64 ((s.l.n:Int)+8*(k:Int)+(i:Int))] rfl (aCG _) ((aLk (O.o.jn.disk.fr M) ((s.l.n:Int)+8*(k:Int)+(i:Int))).mono ?_);rintro e w1 ⟨v,q,rfl,a9,a',X,G,_⟩
   have hE:s.D.readE ((s.l.n:Int)+8*(k:Int)+(i:Int))=0:=by
    unfold DM.readE;rw[HC.o.dead,eA (by simp),eA (by omega)]
   have hR:s.D.read ((s.l.n:Int)+8*(k:Int)+(i:Int))=s.D.S.getD (s.l.n+8*k+i) []:=by
    unfold DM.read;rw[iA hE,show((s.l.n:Int)+8*(k:Int)+(i:Int)).toNat=s.l.n+8*k+i by omega];unfold DM.look;rw[HC.o.pend]
    rfl
   obtain⟨rfl,f⟩:=G hE;rw[hR]at f;have b:Fr [] wr w1:=M.trans X;have N:=O.o.fr b;have p:w1.cell? ⟨g,0,none⟩=some (.pointer (some ⟨d,0,none⟩))/\w1.cell? ⟨g,3,none⟩=some (.int .i64 (s.l.n:Int)):=⟨N.blk.at_ (i:=0) rfl,N.blk.at_ (i:=3) rfl⟩;rw[hE];refine⟨_,rfl,hK _ _ (fun _=>p) ?_⟩;simp only[nrm];refine tks [14,15,16] ?_
   iterate 3 (refine tk rfl rfl p rfl (fun _ hW=>by(obtain⟨a7,a8⟩:=hW;go_simp)<;>with_reducible rfl) ?_;simp only[nrm])
   refine tke ?_;refine sp 17 rfl rfl rfl fun K hK=>?_;refine nA (v:=?aq1_17) ?yq1_17 (hK _ _ (fun _=>p) ?_)
   case yq1_17=>go_simp<;>with_reducible rfl
   simp only[nrm];refine sp 18 rfl rfl rfl fun K hK=>?_;refine nA (v:=?aq1_18) ?yq1_18 (hK _ _ (fun _=>p) ?_)
   case yq1_18=>go_simp<;>with_reducible rfl
   simp only[nrm];refine wd ?_ _;obtain⟨sc,A⟩:=nm (s.D.S.getD (s.l.n+8*k+i) []);rw[<- A]at f
   have F:sc.length=64:=by
    rw[A,List.getD,xD (by omega:s.l.n+8*k+i<s.D.S.length),yT];exact C.o _ (List.getElem_mem _)
   have a6:=lh A;have P:=lh f;have Q:=lh b;have T:=lh F;have r:=iB E.o b (by simp);have U:=lh r;clear a9 a' X G hE hR N p M hK A f b F r c0 c3 x1 x2 x3;go_upto_region 9 with fail
   refine fE ?_
   iterate 2 (refine rn rfl (by go_simp<;>with_reducible rfl) ?_;simp only[nrm])
   obtain⟨iu,Y,Z,H,a0⟩:=Go.info_parts rR;refine lp fun K hK=>?_;refine eD (.tmp 36) (.tmp 37) rfl 5 1 1 Go.Proofs.Tryz.underlying67 Y Z H a0 rfl (by omega) (.slice oA (64*i) oc) (64*i) (fA (rY s.D.S s.l.n k i)) rfl U.o ⟨q,0,none⟩ 64 64 (fA sc) rfl (by rw[kA,T.o]) (fun j u hu=>by rw[Go.Addr.add_mid,cC];exact P.o.at_ hu) (yC _) (by omega) (by unfold maxLen;omega) (by omega) w1.heap.size rfl fun g9 a1 w9 a2 a3 I a4=>hK _ _ ?_;simp only[nrm];clear hK;refine rn rfl (by go_simp<;>with_reducible rfl) ?_;simp only[nrm];refine sE ?_
   have HX:Hid (aRr w s.D.S s.l.n k (.slice (some ⟨g9,0,none⟩) (64*i+64) a1) (.int .i64 ((i:Int)+1)) w9):=lh (by
    refine⟨i+1,by omega,by go_num,?_,?_,?_⟩
    ·rw[aKh (by omega),sC,<- a6.o];exact a2
    ·intro x hx
     simp[Value.ownBlock]at hx
     subst hx;rcases I with h|h
     ·exact J.o _ h
     ·have:=(HF.o.trans Q.o).size;omega
    ·exact(HF.o.trans Q.o).trans a3 (fun x hx=>.inr (J.o x (by simpa using hx))))
   clear a2 a3 I a4 Y Z H a0 U;go_wp2_with fail
   go_roundw
   case rel=>exact HX.o
   case measure=>simp[intOf];omega
  ·obtain rfl:i=8:=by omega
   have HX:Hid (∃gb,cA wr (.slice oA (64*8) oc) (sG s.D.S s.l.n k) gb/\w.heap.size<=gb):=lh (by
    have h:=E.o;have hl:(rY s.D.S s.l.n k 8).length=64*8:=aMP C.o (by omega);rw[<- hl]at h⊢;exact cL h (by rw[hl];exact J.o))
   clear c0 c3;go_wp2_with fail;obtain⟨gb,h1,h2⟩:=HX.o;exact HQ.o _ _ ⟨_,gb,rfl,h1,h2,HF.o⟩
theorem aKi(a b:Nat)(w:World):(Instr.buildSlice 220 2 #[(0,.map (some a)),(1,.map (some b))]).run prog w=.ok (.slice (some ⟨w.heap.size,0,none⟩) 2 2) (w.alloc (.cells #[.map (some a),.map (some b)] 83)):=by kernel_rfl
theorem aHK(q:Nat)(W:World):(Instr.sliceAt 127 (.pointer (some ⟨q,0,none⟩)) none none none).run prog W=.ok (.slice (some ⟨q,0,none⟩) 512 512) W:=by kernel_rfl
def PS.page (s:PS) (k:Nat):List UInt8:=(rF s.late k).getD ((rF s.held k).getD (sG s.D.S s.l.n k))
theorem zE.page_eq{c:Nat}{s:PS}{C:Nat->List UInt8}(h:zE c s C){k:Nat}(b:k<s.n):s.page k=aEq C s.late k:=by
 unfold PS.page aEq;rw[h.cont k b]
def aRs (w2:World) (s:PS) (k:Nat) (v34:Value) (wr:World):Prop:=
 ∃j:Nat,j<=2/\v34=.int .i64 (j:Int)/\(0<j->rF s.late k=none)/\(1<j->rF s.held k=none)/\Fr [] w2 wr
theorem aRM{w:World}{g d lg:Nat}{s:PS}(h:yE w g d lg m c s L)(Z:s.br=false)(hc:aAG s)(k:Nat)(hk:k<s.n):
  Calls prog 94 #[.pointer (some ⟨g,0,none⟩),.int .i64 (k:Int)] w (aLx w (s.page k)):=by
 refine gA fun R HQ=>?_;have HA:=lh h;have hn:=h.few;have A:=aGr h;rw[Z]at A;have a0:=lh A;have HC:=lh hc;have c2:=h.blk.at_ (i:=2) rfl;have c4:=h.blk.at_ (i:=4) rfl;have c5:=h.blk.at_ (i:=5) rfl;clear h A hc Z
 go_enter func94,ntmps94
 go_wp2_with fail;refine a0.o.mono ?_;rintro e w' ⟨rfl,rfl⟩;go_wp2_with fail;refine lA (fun W=>W.cell? ⟨g,4,none⟩=some (.map (some m))/\W.cell? ⟨g,5,none⟩=some (.map (some c))) [0,1,2,3,4,5,6,7,9,10] (by kernel_rfl) ?_;refine tks [0,1,2,3,4,5,6,7,10] ?_
 iterate 9 (refine tk rfl rfl ⟨c4,c5⟩ rfl (fun _ hW=>by(obtain⟨a9,a'⟩:=hW;go_simp)<;>with_reducible rfl) ?_;simp only[nrm])
 refine tke ?_;refine sp 8 rfl rfl rfl fun K hK=>?_;have M:Fr [] w w.drew:=(Fr.refl [] w).drew;have N:=aKi m c w.drew;have B:Fr [] w (w.drew.alloc (.cells #[.map (some m),.map (some c)] 83)):=M.alloc _;have C:Blk (w.drew.alloc (.cells #[.map (some m),.map (some c)] 83)) w.drew.heap.size 83 [.map (some m),.map (some c)]:=Blk.new w.drew 83 _;have E:=HA.o.fr B;have F:(w.drew.alloc (.cells #[.map (some m),.map (some c)] 83)).cell? ⟨g,4,none⟩=some (.map (some m))/\(w.drew.alloc (.cells #[.map (some m),.map (some c)] 83)).cell? ⟨g,5,none⟩=some (.map (some c)):=⟨E.blk.at_ (i:=4) rfl,E.blk.at_ (i:=5) rfl⟩;refine xB (v:=.slice (some ⟨w.drew.heap.size,0,none⟩) 2 2) (w':=w.drew.alloc (.cells #[.map (some m),.map (some c)] 83)) (by simp[execOp,Act.eval,N,Result.andThen]) (hK _ _ (fun _=>F) ?_);simp only[nrm];refine tks [9] ?_;refine tk rfl rfl F rfl (fun _ hW=>by(obtain⟨a9,a'⟩:=hW;go_simp)<;>with_reducible rfl) ?_;simp only[nrm];refine tke ?_;refine wd ?_ _;have O:w.drew.heap.size=w.heap.size:=rfl;rw[O]at C⊢;have q:=lh B;have a1:=lh C;clear N E F hK M O B C c4 c5 c2;generalize w.drew.alloc (.cells #[.map (some m),.map (some c)] 83)=w2 at *;have b1:=aHK;go_wp2_with fail;have a2:decide ((k:Int)<0)=false:=by simp
 have a3:decide (s.n<=k)=false:=by simp;omega
 simp only[a2,a3,Bool.or_self]
 go_loopw [34] (fun v34 wr=>aRs w2 s k v34 wr) (fun v _=>2-(intOf v).toNat)
 case atStart=>exact⟨0,by omega,rfl,fun h=>absurd h (by omega),fun h=>absurd h (by omega),Fr.refl _ _⟩
 case round=>
  obtain⟨j,hj,rfl,h0,h1,hf⟩:=hrel;have p:=HA.o.fr (q.o.trans hf);have a4:=lh p;have I:=lh hf;have H0:=lh h0;have H1:=lh h1;clear hf h0 h1
  by_cases b3:j<2
  ·have hb:=a1.o.fr I.o
   obtain⟨bj,r,cc,U,u,b,f⟩:∃bj r,wr.cell? ⟨w.heap.size,j,none⟩=some (.map (some bj))/\oE wr bj r/\vG s.n r/\(rF r k=none->(0<j+1->rF s.late k=none)/\(1<j+1->rF s.held k=none))/\∀x,rF r k=some x->s.page k=x:=by
    rcases(by omega:j=0∨j=1) with rfl|rfl
    ·refine⟨m,s.late,hb.at_ (i:=0) rfl,p.late,p.lok,fun h=>⟨fun _=>h,fun h=>absurd h (by omega)⟩,fun x z=>?_⟩;unfold PS.page;rw[z]
     rfl
    ·refine⟨c,s.held,hb.at_ (i:=1) rfl,p.held,p.hok,fun h=>⟨fun _=>H0.o (by omega),fun _=>h⟩,fun x z=>?_⟩;unfold PS.page;rw[H0.o (by omega),z]
     rfl
   have G:=U.look_ok (k:=k) (by omega);obtain⟨x,z⟩:=nm ((rF r k).getD qD)
   have P:x.length=512:=by
    rw[z]
    cases J:rF r k with
    | none=>exact vK
    | some y=>exact(aHC u J).2
   obtain⟨is,H⟩:=nm ((rF r k).isSome);rw[<- z,<- H]at G;unfold fI at G;have HN:=lh b;have HS:=lh f;have HX:=lh z;have HI:=lh H;have t:=lh P;clear hb p U u b f z H P
   go_wp2_with (first
    | (with_reducible refine mA rfl 127 rfl (fI qD) (fA qD).toArray nY rfl ?_)
    | (with_reducible refine vA (W:=wr) rfl 127 (.tmp 8) (.tmp 42) rfl (fA x) rfl rfl rfl ?zi ?zl ?z1 ?_))
   case zi=>have h:=xR;simpa[kA,t.o]using h
   case zl=>show(fA qD).length=(fA x).length;rw[kA,kA,vK,t.o]
   case z1=>exact yC _
   intro w4 X Y b2;have a5:=lh X;have Q:=lh Y;clear X Y G cc
   cases is with
   | true=>
    have a6:w.heap.size<=wr.heap.size:=by have:=(q.o.trans I.o).size;omega
    go_wp2_with fail;refine HQ.o _ _ ⟨_,wr.heap.size,rfl,?_,a6,((q.o.trans I.o).trans Q.o)⟩
    have f:=HS.o x (by
     have h1:=HI.o;have h2:=HX.o
     cases J:rF r k with
     | none=>rw[J]at h1;cases h1
     | some y=>rw[J]at h2;rw[h2];rfl)
    rw[f];have h:=cA.of_blk a5.o 512 (by rw[t.o];exact tA _);rw[t.o]at h;exact h
   | false=>
    have b:=HN.o (by
     have h1:=HI.o
     cases J:rF r k with
     | none=>rfl
     | some y=>rw[J]at h1;cases h1)
    have a7:Hid (aRs w2 s k (.int .i64 ((j:Int)+1)) w4):=lh ⟨j+1,by omega,by go_num,b.1,b.2,I.o.trans Q.o⟩;clear b;go_wp2_with fail
    go_roundw
    case rel=>exact a7.o
    case measure=>simp[intOf];omega
  ·obtain rfl:j=2:=by omega
   have T:s.page k=sG s.D.S s.l.n k:=by
    unfold PS.page;rw[H0.o (by omega),H1.o (by omega)]
    rfl
   have HH:=lh (aRL a4.o HC.o k hk);have a8:=lh T;clear p T;go_wp2_with fail;refine HH.o.mono ?_;rintro e w5 ⟨v,gb,rfl,hv,b0,V⟩;have HX:Hid (aLx w (s.page k) (.returned (.tuple #[v,.int .i64 0])) w5):=lh ⟨v,gb,rfl,by rw[a8.o];exact hv,by have:=(q.o.trans I.o).size;omega,(q.o.trans I.o).trans V⟩;clear hv b0 V;go_wp2_with fail;exact HQ.o _ _ HX.o
end
end Go.Proofs.YtebjhcjbfaaejaaGreatDoor
