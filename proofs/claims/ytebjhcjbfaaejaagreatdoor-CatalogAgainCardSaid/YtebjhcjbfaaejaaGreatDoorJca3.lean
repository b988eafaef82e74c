/-
  Joined: Jc Jd Je Jf Jg
-/
import Derived.BigRegion
import Derived.Test.YtebjhcjbfaaejaaGreatDoorJca2
set_option maxRecDepth 100000
set_option maxHeartbeats 32000000
namespace Go.Proofs.YtebjhcjbfaaejaaGreatDoor
open Go.Proofs.Tryz
variable {n k i m:Nat}{w' W:World}{l:List UInt8}{L:List Nat}
section
open Go.RowKit
def tL (p:Pc):Nat->List UInt8
 | 0=>165::90::List.replicate 62 0
 | k+1=>((tL p k).set (2+k) (wB p.st.session (3-k))).set (6+k) (wB p.st.number (3-k))
theorem aCC(l:List UInt8)(i:Nat)(c:UInt8):fA (l.set i c)=(fA l).set i (B8 c):=by simp[fA,List.map_set]
theorem tR(p:Pc):∀k,(tL p k).length=64
 | 0=>by simp[tL]
 | k+1=>by simp[tL,tR p k]
theorem dH(n k:Nat):((wB n k).toNat:Int)=((n:Int) / 256^k)%256:=by simp[wB]
def tJ (p:Pc) (sv:Value):List Value:=[.int .u32 (p.st.session:Int),.int .u32 (p.st.number:Int),.int .i64 (p.st.count:Int),.int .i64 (p.place:Int),sv]
def aRn (w:World) (p:Pc) (sv:Value) (i:Value) (wr:World):Prop:=
 ∃k:Nat,k<=4/\i=.int .i64 k/\Blk wr (w.heap.size+1) 5 (fA (tL p k))/\Blk wr w.heap.size 203 (tJ p sv)/\Fr [] w wr
theorem aBC{w wr:World}{p:Pc}{sv:Value}{x y:Int}(k:Nat)(h:k<4)(b:Blk wr (w.heap.size+1) 5 (fA (tL p k)))(c:Blk wr w.heap.size 203 (tJ p sv))(d:Fr [] w wr)
 (f:x=((wB p.st.session (3-k)).toNat:Int))(g:y=((wB p.st.number (3-k)).toNat:Int)):
  aRn w p sv (.int .i64 ((k+1:Nat):Int)) ((wr.setCell ⟨w.heap.size+1,2+k,none⟩ (.int .u8 x)).setCell ⟨w.heap.size+1,6+k,none⟩ (.int .u8 y)):=by
 subst f g;refine⟨k+1,by omega,rfl,?_,(c.far (by show _≠_;simp) _).far (by show _≠_;simp) _,(d.setCell (.inr (Nat.le_succ _)) _).setCell (.inr (Nat.le_succ _)) _⟩;have:=(b.set_ (2+k) (B8 (wB p.st.session (3-k)))).set_ (6+k) (B8 (wB p.st.number (3-k)));rw[<- aCC,<- aCC]at this;exact this
def zG (l:List UInt8) (x10 x11 x12 x13 x14:Int):List Value:=(((((fA l).set 10 (.int .u8 x10)).set 11 (.int .u8 x11)).set 12 (.int .u8 x12)).set 13 (.int .u8 x13)).set 14 (.int .u8 x14)
theorem fX(l:List UInt8)(b:l.length=64)(x10 x11 x12 x13 x14:Int):(zG l x10 x11 x12 x13 x14).length=64:=by simp[zG,kA,b]
theorem aEv(p:Pc){x10 x11 x12 x13 x14:Int}(c:x10=((wB p.place 1).toNat:Int))(d:x11=((wB p.place 0).toNat:Int))(f:x12=((wB p.st.count 1).toNat:Int))(g:x13=((wB p.st.count 0).toNat:Int))(h:x14=((UInt8.ofNat p.b.length).toNat:Int)):
  (zG (tL p 4) x10 x11 x12 x13 x14).take 16++fA p.b=fA (lD p):=by
 subst c d f g h
 simp[zG,tL,fA,lD,B8]
theorem cA.of_own{w:World}{g n c:Nat}{bs:List UInt8}(h:w.ownsRow 0 5 1 (.slice (some ⟨g,0,none⟩) n c) n (fA bs)):cA w (.slice (some ⟨g,0,none⟩) n c) bs g:=by
 have i:bs.length=n:=by have:=h.1;rw[kA]at this;omega
 obtain⟨a,c',k,l,_⟩:=sA h;injection k with _ _ d;subst d;subst i;refine⟨_,_,0,rfl,l,fun h0=>⟨rfl,fun j u m=>?_⟩⟩;obtain⟨o,b,f⟩:=tE h h0;simp only[vI,Addr.mk.injEq]at b;rw[cC,b.1];exact f j u m
theorem aOh{w:World}{g n:Nat}{cs:List Value}(h:Blk w g 5 cs)(b:n<=cs.length)(c:cs.length<=maxLen):w.ownsRow 0 5 1 (.slice (some ⟨g,0,none⟩) n cs.length) n (cs.take n):=
 ⟨by rw[jC];omega,.inr ⟨g,cs.length,cs.toArray,rfl,rB _,h,b,c,by simp,by simp⟩⟩
theorem aCD{w:World}{g:Nat}{l:List UInt8}{x10 x11 x12 x13 x14:Int}(b:l.length=64)(h:Blk w g 5 (zG l x10 x11 x12 x13 x14)):w.ownsRow 0 5 1 (.slice (some ⟨g,0,none⟩) 16 64) 16 ((zG l x10 x11 x12 x13 x14).take 16):=by
 have:=aOh (n:=16) h (by rw[fX l b];omega) (by rw[fX l b];unfold maxLen;omega);rw[fX l b]at this;exact this
theorem aRC{w:World}{p:Pc}{g:Nat}{l:List UInt8}{x10 x11 x12 x13 x14:Int}(k:l=tL p 4)(h:Blk w g 5 (zG l x10 x11 x12 x13 x14))(m:p.b=[])
 (c:x10=((wB p.place 1).toNat:Int))(d:x11=((wB p.place 0).toNat:Int))(f:x12=((wB p.st.count 1).toNat:Int))(i:x13=((wB p.st.count 0).toNat:Int))(j:x14=((UInt8.ofNat p.b.length).toNat:Int)):
  cA w (.slice (some ⟨g,0,none⟩) 16 64) (lD p) g:=by
 subst k;refine cA.of_own ?_;have:=aCD (tR p 4) h;rw[<- aEv p c d f i j,m]
 simpa[fA]using this
def wrW (wr:World) (m:Nat) (x10 x11 x12 x13 x14:Int):World:=
 (((((wr.setCell ⟨m,10,none⟩ (.int .u8 x10)).setCell ⟨m,11,none⟩ (.int .u8 x11)).setCell ⟨m,12,none⟩ (.int .u8 x12)).setCell ⟨m,13,none⟩ (.int .u8 x13)).setCell ⟨m,14,none⟩ (.int .u8 x14)).drew.drew
theorem aLm{wr:World}{m:Nat}{L:List UInt8}(x10 x11 x12 x13 x14:Int)(h:Blk wr m 5 (fA L)):Blk (wrW wr m x10 x11 x12 x13 x14) m 5 (zG L x10 x11 x12 x13 x14):=
 ((((((h.set_ 10 _).set_ 11 _).set_ 12 _).set_ 13 _).set_ 14 _).drew).drew
theorem aOi{w wr:World}{m:Nat}(x10 x11 x12 x13 x14:Int)(h:Fr [] w wr)(b:w.heap.size<=m):Fr [] w (wrW wr m x10 x11 x12 x13 x14):=
 ((((((h.setCell (.inr b) _).setCell (.inr b) _).setCell (.inr b) _).setCell (.inr b) _).setCell (.inr b) _).drew).drew
theorem aRD(w:World):(Instr.makeSlice 201 (.int .i64 16) (.int .i64 64)).run prog w=.ok (.slice (some ⟨w.heap.size,0,none⟩) 16 64) (w.alloc (.cells z64.toArray 5)):=by
 obtain⟨i,hi,d,b,f⟩:=Go.info_parts rR;have h:=run_makeSlice (P:=prog) w 201 5 i _ underlying201 hi d .i64 .i64 16 64 (by omega) (by omega) (by rw[b];decide) (by rw[f];decide) (by omega)
 have e:madeCells #[Value.int .u8 0] 64=z64.toArray:=by
  have:=bV 1;have c:(DM.new 1).S.flatten=List.replicate 64 0:=by simp[DM.new]
  rw[c,Nat.one_mul]at this;rw[z64,<- this]
 rw[b]at h;exact h.trans (by rw[<- e];rfl)
theorem aHr{w:World}{p:Pc}{sv:Value}(hs:p.st.session<4294967296)(hn:p.st.number<4294967296)(hc:p.st.count<65536)(hp:p.place<65536)(hl:p.b.length<=48)(hb:cA w sv p.b n):
  Calls prog 128 #[.agg (tJ p sv).toArray] w fun e w'=>∃v g,e=.returned v/\cA w' v (lD p) g/\w.heap.size<=g/\Fr [] w w':=by
 have HB:=lh hb;clear hb;have a1:=aRD;unfold tJ
 go_enter func128,ntmps128
 go_wp2
 go_loopw [10] (aRn w p sv) (fun i _=>4-(intOf i).toNat)
 case atStart=>
  refine⟨0,by omega,rfl,?_,(Blk.new w _ _).alloc _,((Fr.refl [] w).alloc _).alloc _⟩;have e:((z64.set 0 (.int .u8 165)).set 1 (.int .u8 90))=fA (tL p 0):=rfl;rw[e];have h:=Blk.new (w.alloc (.cells (tJ p sv).toArray 203)) 5 (fA (tL p 0));have q:(w.alloc (.cells (tJ p sv).toArray 203)).heap.size=w.heap.size+1:=by simp
  rw[q]at h;exact h
 case round=>
  obtain⟨k,hk,rfl,r,s,hf⟩:=hrel;have c0:wr.cell? ⟨w.heap.size,0,none⟩=some (.int .u32 (p.st.session:Int)):=s.at_ rfl;have c1:wr.cell? ⟨w.heap.size,1,none⟩=some (.int .u32 (p.st.number:Int)):=s.at_ rfl;have a2:=r.free;have d:∀j:Nat,j<64->∃u:UInt8,wr.cell? ⟨w.heap.size+1,j,none⟩=some (B8 u):=fun j hj=>⟨(tL p k)[j]'(by rw[tR];exact hj),r.at_ (by rw[uG,xD];rfl)⟩;have l:=lh r;have f:=lh s;have t:=lh hf;clear r s hf
  by_cases a5:k<4
  ·obtain⟨u1,Y⟩:=d (2+k) (by omega);obtain⟨u2,Z⟩:=d (6+k) (by omega);unfold B8 at Y Z;rcases(by omega:k=0∨k=1∨k=2∨k=3) with rfl|rfl|rfl|rfl
   ·go_wp2
    exact⟨aBC 0 (by omega) l.o f.o t.o (by rw[dH];omega) (by rw[dH];omega),by simp[intOf]⟩
   ·go_wp2
    exact⟨aBC 1 (by omega) l.o f.o t.o (by rw[dH];omega) (by rw[dH];omega),by simp[intOf]⟩
   ·go_wp2
    exact⟨aBC 2 (by omega) l.o f.o t.o (by rw[dH];omega) (by rw[dH];omega),by simp[intOf]⟩
   ·go_wp2
    exact⟨aBC 3 (by omega) l.o f.o t.o (by rw[dH];omega) (by rw[dH];omega),by simp[intOf]⟩
  ·have P:k=4:=by omega
   subst P;have c2:wr.cell? ⟨w.heap.size,2,none⟩=some (.int .i64 (p.st.count:Int)):=f.o.at_ rfl;have c3:wr.cell? ⟨w.heap.size,3,none⟩=some (.int .i64 (p.place:Int)):=f.o.at_ rfl;have c4:wr.cell? ⟨w.heap.size,4,none⟩=some sv:=f.o.at_ rfl;obtain⟨u10,F⟩:=d 10 (by omega);obtain⟨u11,G⟩:=d 11 (by omega);obtain⟨u12,H⟩:=d 12 (by omega);obtain⟨u13,I⟩:=d 13 (by omega);obtain⟨u14,J⟩:=d 14 (by omega);clear d c0 c1;obtain⟨L,hL⟩:=nm (tL p 4);have y:=lh (show Blk wr (w.heap.size+1) 5 (fA L) by rw[hL];exact l.o);have Q:=lh hL;clear l hL;unfold B8 at F G H I J;obtain⟨A,c,off,rfl,a3,zG⟩:=HB.o;have S:=lh zG;clear zG
   by_cases h0:p.b.length=0
   ·have z:p.b=[]:=cR h0;have B:=lh z;clear z;rw[h0];rw[h0]at c4;clear h0
    go_wp2
    go_region
    go_wp2
    go_region
    go_wp2_with (refine aO rfl (.tmp 68) (.tmp 70) 201 67 rfl 5 5 underlying201 Go.Proofs.Tryz.underlying67 (by kernel_rfl) (some ⟨w.heap.size+1,0,none⟩) A 16 64 c rfl rfl (by omega) ?_)
    go_wp2
    go_ret
    refine⟨.slice (some ⟨w.heap.size+1,0,none⟩) 16 64,w.heap.size+1,rfl,?_,by omega,?_⟩
    ·exact aRC Q.o (aLm ((p.place:Int) / 256) ((p.place:Int)%256) ((p.st.count:Int) / 256) ((p.st.count:Int)%256) 0 y.o) B.o (by rw[dH];omega) (by rw[dH];omega) (by rw[dH];omega) (by rw[dH];omega) (by rw[B.o];rfl)
    ·exact aOi ((p.place:Int) / 256) ((p.place:Int)%256) ((p.st.count:Int) / 256) ((p.st.count:Int)%256) 0 t.o (Nat.le_succ _)
   ·obtain⟨rfl,M⟩:=S.o (by omega);have T:=lh M;clear M;obtain⟨iu,hi,hz,q,N⟩:=Go.info_parts rR;have HI:=lh hi;have HZ:=lh hz;have U:=lh q;have V:=lh N;clear hi hz q N;have W:=lh (aCD (show L.length=64 by rw[Q.o];exact tR p 4) (aLm ((p.place:Int) / 256) ((p.place:Int)%256) ((p.st.count:Int) / 256) ((p.st.count:Int)%256) (p.b.length:Int) y.o));have x:=lh (aOi ((p.place:Int) / 256) ((p.place:Int)%256) ((p.st.count:Int) / 256) ((p.st.count:Int)%256) (p.b.length:Int) t.o (Nat.le_succ w.heap.size));have C:=lh (aEv p (x10:=(p.place:Int) / 256) (x11:=(p.place:Int)%256) (x12:=(p.st.count:Int) / 256) (x13:=(p.st.count:Int)%256) (x14:=(p.b.length:Int)) (by rw[dH];omega) (by rw[dH];omega) (by rw[dH];omega) (by rw[dH];omega) (by simp;omega));rw[<- Q.o]at C
    have D:∀(j:Nat) (u:Value),(fA p.b)[j]? = some u->(wrW wr (w.heap.size+1) ((p.place:Int) / 256) ((p.place:Int)%256) ((p.st.count:Int) / 256) ((p.st.count:Int)%256) (p.b.length:Int)).cell? (Addr.add ⟨n,off,none⟩ j)=some u:=by
     intro j u hu;have h1:=T.o j u hu;rw[Go.Addr.add_mid];rw[x.o.cell (p:=⟨n,off+j,none⟩) (cF w _ h1) (by simp)];exact h1
    have HN:=lh D;clear D
    go_wp2
    go_region
    go_wp2
    go_region
    go_wp2_with (refine yX rfl (.tmp 68) (.tmp 70) 201 67 rfl 5 5 iu (.int .u8 0) 1 underlying201 Go.Proofs.Tryz.underlying67 HI.o HZ.o U.o V.o rfl (some ⟨w.heap.size+1,0,none⟩) 64 16 ?xs rfl ?own ⟨n,off,none⟩ p.b.length c (fA p.b) rfl (kA _) ?news (yC _) (by omega) (by unfold maxLen;omega) (by omega) ?_)
    case own=>
     have h:=W.o;unfold wrW at h;exact h
    case news=>
     have h:=HN.o;unfold wrW at h;exact h
    intro g cap w' m hg O a4;rw[C.o]at m;have HG:=lh hg;have X:=lh O;have E:=lh m;clear hg O m
    go_wp2
    go_ret
    unfold wrW at x;refine⟨.slice (some ⟨g,0,none⟩) (16+p.b.length) cap,g,rfl,cA.of_own E.o,?_,x.o.grown HG.o ?_⟩
    ·have h1:=t.o.size;rcases X.o with h|h
     ·have:w.heap.size+1=g:=by simpa[Value.ownBlock]using h
      omega
     ·omega
    ·intro g' a0;have:w.heap.size+1=g':=by simpa[Value.ownBlock]using a0
     right;omega
structure mK (w:World) (gl off:Nat) (gs:List Nat) (L:List (List UInt8)):Prop where
 len:gs.length=L.length
 row:∀(j:Nat) (g:Nat),gs[j]? = some g->w.cell? ⟨gl,off+j,none⟩=some (nT g)
 sec:∀(j:Nat) (g:Nat) (s:List UInt8),gs[j]? = some g->L[j]? = some s->cJ w g s
theorem mK.fr{S:List Nat}{w w':World}{gl off:Nat}{gs:List Nat}{L:List (List UInt8)}(h:mK w gl off gs L)(c:Fr S w w')(h1:gl∉S)(h2:∀g∈gs,g∉S):mK w' gl off gs L:=
 ⟨h.len,fun j g b=>by have:=h.row j g b;rw[c.cell (cF w _ this) h1];exact this,fun j g s b d=>(h.sec j g s b d).fr c (h2 g (rG b))⟩
theorem mK.drop{w:World}{gl off:Nat}{gs:List Nat}{L:List (List UInt8)}(h:mK w gl off gs L)(k:Nat):mK w gl (off+k) (gs.drop k) (L.drop k):=
 ⟨by simp[h.len],fun j g b=>by rw[xJ]at b;rw[rT];exact h.row _ g b,fun j g s b c=>by rw[xJ]at b c;exact h.sec _ g s b c⟩
theorem mK.at_{w:World}{gl off:Nat}{gs:List Nat}{L:List (List UInt8)}(h:mK w gl off gs L){j:Nat}(b:j<L.length):∃g s,L[j]? = some s/\w.cell? ⟨gl,off+j,none⟩=some (nT g)/\cJ w g s:=by
 have h1:j<gs.length:=by rw[h.len];exact b
 exact⟨gs[j],L[j],xD b,h.row j _ (xD h1),h.sec j _ _ (xD h1) (xD b)⟩
theorem cV{st:eC}{T:List (List UInt8)}{k:Nat}{s:List UInt8}(c:T[k]? = some s)(h:∀q,jB s=some q->¬ (q.st=st/\q.place=k/\(k+1<st.count->q.b.length=48))):nC st k (T.drop k)=none:=by
 have d:k<T.length:=(tD.1 c).1;rw[zM d];rw[xD d]at c;simp only[vI]at c;rw[c];unfold nC
 cases f:jB s with
 | none=>rfl
 | some q=>simp only[eA (h q f)]
theorem aHs{st:eC}{T:List (List UInt8)}{k:Nat}{s:List UInt8}{q:Pc}(c:T[k]? = some s)(f:jB s=some q)(h:q.st=st/\q.place=k/\(k+1<st.count->q.b.length=48)):
  nC st k (T.drop k)=(nC st (k+1) (T.drop (k+1))).map (q.b++·):=by
 have d:k<T.length:=(tD.1 c).1;rw[zM d];rw[xD d]at c;simp only[vI]at c;rw[c]
 conv=>lhs;unfold nC
 rw[f];simp only[iA h]
def nF:Array Value:=#[.int .u32 0,.int .u32 0,.int .i64 0]
def aCE (st:eC):Value:=.agg #[.int .u32 (st.session:Int),.int .u32 (st.number:Int),.int .i64 (st.count:Int)]
def hU (w:World) (L:List (List UInt8)) (e:Ending) (w':World):Prop:=
 match bB L with
 | none=>e=.returned (.tuple #[.agg nF,.slice none 0 0,.bool false])/\Fr [] w w'
 | some (st,b)=>∃v g,e=.returned (.tuple #[aCE st,v,.bool true])/\cA w' v b g/\w.heap.size<=g/\Fr [] w w'
theorem dW{L:List (List UInt8)}{s:List UInt8}(h0:L[0]? = some s)(h:∀p,jB s=some p->p.st.count<1∨L.length<p.st.count):bB L=none:=by
 cases L with
 | nil=>cases h0
 | cons x L=>
  simp only[iR,vI]at h0;subst h0
  cases b:jB x with
  | none=>simp only[bB,b]
  | some p=>simp only[bB,b,iA (h p b)]
theorem aEm{L:List (List UInt8)}{s:List UInt8}{p:Pc}(h0:L[0]? = some s)(c:jB s=some p)(h1:1<=p.st.count)(h2:p.st.count<=L.length):bB L=(nC p.st 0 (L.take p.st.count)).map fun b=>(p.st,b):=by
 cases L with
 | nil=>cases h0
 | cons x L=>
  simp only[iR,vI]at h0;subst h0;simp only[bB,c,eA (show ¬ (p.st.count<1∨(x::L).length<p.st.count) by omega)]
def aGk (g:Nat) (p:Pc):List Value:=[.int .u32 (p.st.session:Int),.int .u32 (p.st.number:Int),.int .i64 (p.st.count:Int),.int .i64 (p.place:Int),.slice (some ⟨g,16,none⟩) p.b.length 48]
def aJN (w w1:World) (g0:Nat) (p:Pc) (L:List (List UInt8)) (out i:Value) (wr:World):Prop:=
 ∃(k:Nat) (acc:List UInt8),k<=p.st.count/\i=.int .i64 k/\acc.length<=48*k/\wr.ownsRow 0 5 1 out acc.length (fA acc)/\(∀x,out.ownBlock=some x->w.heap.size<=x) /\
  nC p.st 0 (L.take p.st.count)=(nC p.st k ((L.take p.st.count).drop k)).map (acc++·)/\Blk wr w.heap.size 164 [.int .u32 0,.int .u32 0,.int .i64 0]/\Blk wr w1.heap.size 203 (aGk g0 p)/\Fr [] w wr
theorem eV{s:List UInt8}{q:Pc}(h:jB s=some q):q.b.length<=48:=by
 unfold jB at h
 split at h
 ·rename_i c
  cases h
  show((s.drop 16).take _).length<=48
  rw[jC];omega
 ·cases h
theorem aJO{w:World}{g:Nat}{s:List UInt8}{q:Pc}(h:jB s=some q)(i:cJ w g s):∀(j:Nat) (u:Value),(fA q.b)[j]? = some u->w.cell? (Addr.add ⟨g,16,none⟩ j)=some u:=by
 intro j u d;unfold jB at h
 split at h
 ·cases h
  rw[uG]at d;obtain⟨c,f,rfl⟩:=Option.map_eq_some_iff.1 d;rw[Go.Addr.add_mid];exact fQ i 16 _ j c f
 ·cases h
theorem aAw{w w':World}{L:List (List UInt8)}{p:Pc}{k:Nat}(h1:bB L=(nC p.st 0 (L.take p.st.count)).map fun b=>(p.st,b))(h2:nC p.st 0 (L.take p.st.count)=(nC p.st k ((L.take p.st.count).drop k)).map (l++·))(h3:nC p.st k ((L.take p.st.count).drop k)=none)(c:Fr [] w w'):
  hU w L (.returned (.tuple #[.agg nF,.slice none 0 0,.bool false])) w':=by
 unfold hU;rw[h1,h2,h3];exact⟨rfl,c⟩
theorem cL{w:World}{v:Value}{bs:List UInt8}{b:Nat}(h:w.ownsRow 0 5 1 v bs.length (fA bs))(i:∀x,v.ownBlock=some x->b<=x):∃g,cA w v bs g/\b<=g:=by
 obtain⟨A,c,rfl,n,_⟩:=sA h;rcases h.2 with ⟨h1,h0⟩|⟨g,cap,cur,j,_,o,k,l,p,ht⟩
 ·injection h1 with d m f;subst d f;have:bs=[]:=cR h0;subst this;exact⟨b,cA.nil _ _,tA _⟩
 ·injection j with d m f;subst d f;exact⟨g,cA.of_own h,i g rfl⟩
theorem aQk{w w':World}{L:List (List UInt8)}{p:Pc}{k:Nat}{v:Value}(h1:bB L=(nC p.st 0 (L.take p.st.count)).map fun b=>(p.st,b))(h2:nC p.st 0 (L.take p.st.count)=(nC p.st k ((L.take p.st.count).drop k)).map (l++·))(m:k=p.st.count)(n:p.st.count<=L.length)
 (c:∀x,v.ownBlock=some x->w.heap.size<=x)(i:w'.ownsRow 0 5 1 v l.length (fA l))(j:Fr [] w w'):hU w L (.returned (.tuple #[aCE p.st,v,.bool true])) w':=by
 have e:(L.take p.st.count).drop k=[]:=wZ (by rw[jC];omega);have d:bB L=some (p.st,l):=by rw[h1,h2,e];simp[nC]
 obtain⟨g,f,h⟩:=cL i c;unfold hU;rw[d];exact⟨v,g,rfl,f,h,j⟩
theorem aMx{w w1 wr:World}{g0:Nat}{p q:Pc}{L:List (List UInt8)}{A:Option Addr}{k:Nat}(g:l.length<=48*k)(f:∀x,(Value.slice A l.length n).ownBlock=some x->w.heap.size<=x)(h:Fr [] w wr)(c:Fr [] wr w')
 (i:Blk wr w.heap.size 164 [.int .u32 0,.int .u32 0,.int .i64 0])(j:Blk wr w1.heap.size 203 (aGk g0 p))(d:wr.ownsRow 0 5 1 (.slice A l.length n) l.length (fA l))
 (m:nC p.st 0 (L.take p.st.count)=(nC p.st k ((L.take p.st.count).drop k)).map (l++·))(o:nC p.st k ((L.take p.st.count).drop k)=(nC p.st (k+1) ((L.take p.st.count).drop (k+1))).map (q.b++·))(r:q.b=[])(s:k+1<=p.st.count)(X:Obj):
  aJN w w1 g0 p L (.slice A l.length n) (.int .i64 ((k:Int)+1)) (w'.alloc X):=by
 refine⟨k+1,l,s,rfl,by omega,iB d (c.alloc _) (by simp),f,?_,(i.fr c).alloc _,(j.fr c).alloc _,(h.trans c).alloc _⟩;rw[m,o,r]
 simp
theorem aHt{w w1 wr:World}{g0:Nat}{p q:Pc}{L:List (List UInt8)}{A:Option Addr}{k g cap:Nat}(s:l.length<=48*k)(j:∀x,(Value.slice A l.length n).ownBlock=some x->w.heap.size<=x)(t:Fr [] w wr)(c:Fr [] wr w')
 (u:Blk wr w.heap.size 164 [.int .u32 0,.int .u32 0,.int .i64 0])(v:Blk wr w1.heap.size 203 (aGk g0 p))(d:wr.ownsRow 0 5 1 (.slice A l.length n) l.length (fA l))
 (D:nC p.st 0 (L.take p.st.count)=(nC p.st k ((L.take p.st.count).drop k)).map (l++·))(E:nC p.st k ((L.take p.st.count).drop k)=(nC p.st (k+1) ((L.take p.st.count).drop (k+1))).map (q.b++·))(F:q.b.length<=48)(G:k+1<=p.st.count)(X:Obj)
 (o:W.ownsRow 0 5 1 (.slice (some ⟨g,0,none⟩) (l.length+q.b.length) cap) (l.length+q.b.length) (fA l++fA q.b))(f:(w'.alloc X).grownBy W (Value.slice A l.length n).ownBlock)(r:(Value.slice A l.length n).ownBlock=some g∨g=w'.heap.size+1):
  aJN w w1 g0 p L (.slice (some ⟨g,0,none⟩) (l.length+q.b.length) cap) (.int .i64 ((k:Int)+1)) W:=by
 have y:=t.size;have z:=c.size;have B:(w'.alloc X).heap.size=w'.heap.size+1:=by simp
 have i:w.heap.size<=g:=by
  rcases r with h|h
  ·exact j g h
  ·omega
 refine⟨k+1,l++q.b,G,rfl,by rw[lB];omega,by rw[lB,sC];exact o,by simpa[Value.ownBlock]using i,?_,((u.fr c).alloc _).grown f (fun e=>dX d u (by decide) e.symm),((v.fr c).alloc _).grown f (fun e=>dX d v (by decide) e.symm),((t.trans c).alloc _).grown f (fun C m=>.inr (j C m))⟩;rw[D,E]
 simp[Option.map_map,Function.comp_def]
theorem aCF{w:World}{gl off c:Nat}{gs:List Nat}{L:List (List UInt8)}{A:Option Addr}(h:mK w gl off gs L)(hA:0<L.length->A=some ⟨gl,off,none⟩)(hc:L.length<=c)(hm:L.length<=65536):
  Calls prog 81 #[.slice A L.length c] w (hU w L):=by
 by_cases h0:L.length=0
 ·have e:L=[]:=cR h0;subst e;clear hA h hc hm
  go_enter func81,ntmps81
  go_wp2
  refine eF (v:=.tuple #[.agg nF,.slice none 0 0,.bool false]) (by simp[results,Go.Proofs.Tryz.results81,go_sem,nF]) rfl ?_;exact⟨rfl,(Fr.refl [] w).alloc _⟩
 ·obtain rfl:=hA (by omega);obtain⟨g0,s0,c6,b3,S⟩:=h.at_ (j:=0) (by omega);rw[aAa]at b3;have HS:=lh h;have b5:=lh S;have a7:=lh c6;clear h S c6;have e8:=cF w _ b3;unfold nT at b3
  go_enter func81,ntmps81
  go_wp2_with fail;refine(aAv (b5.o.fr ((Fr.refl [] w).alloc _))).mono ?_;rintro e w1 ⟨rfl,b4⟩;have C:Blk w1 w.heap.size 164 [.int .u32 0,.int .u32 0,.int .i64 0]:=(Blk.new w _ _).fr b4;have r0:=C.at_ (i:=0) rfl;have r1:=C.at_ (i:=1) rfl;have r2:=C.at_ (i:=2) rfl;have rf:=C.free;have rl:=C.lt;have b6:Fr [] w w1:=((Fr.refl [] w).alloc _).trans b4;have a8:=lh b6;have a9:=lh C;clear b6 C b4;unfold aCB
  cases hp:jB s0 with
  | none=>
   simp only[eQ]
   go_wp2
   have d:=(((a9.o.set_ 0 (.int .u32 0)).set_ 1 (.int .u32 0)).set_ 2 (.int .i64 0)).alloc (.cells #[.int .u32 0,.int .u32 0,.int .i64 0,.int .i64 0,.slice none 0 0] 203);have f:=lh ((((a8.o.setCell (p:=⟨w.heap.size,0,none⟩) (.inr (tA _)) (.int .u32 0)).setCell (p:=⟨w.heap.size,1,none⟩) (.inr (tA _)) (.int .u32 0)).setCell (p:=⟨w.heap.size,2,none⟩) (.inr (tA _)) (.int .i64 0)).alloc (.cells #[.int .u32 0,.int .u32 0,.int .i64 0,.int .i64 0,.slice none 0 0] 203));have m:=d.at_ (i:=0) rfl;have n:=d.at_ (i:=1) rfl;have r:=d.at_ (i:=2) rfl;clear d
   revert f m n r
   generalize (World.alloc (World.setCell (World.setCell (World.setCell w1 _ _) _ _) _ _) _)=wf;intro f m n r;refine eF (v:=.tuple #[.agg nF,.slice none 0 0,.bool false]) (by simp[results,Go.Proofs.Tryz.results81,go_sem,nF,m,n,r]) rfl ?_;unfold hU;rw[dW a7.o (fun p h=>by rw[hp]at h;cases h)];exact⟨rfl,f.o⟩
  | some p=>
   simp only[aCA]
   by_cases I:p.st.count<1∨L.length<p.st.count
   ·have a0:∀q,jB s0=some q->q.st.count<1∨L.length<q.st.count:=fun q h=>by rw[hp]at h;cases h;exact I
    have b7:=lh a0;clear a0
    by_cases h1:p.st.count<1
    case' pos=>
     clear I
    case' neg=>
     have h2:L.length<p.st.count:=by omega
     clear I
    all_goals
     go_wp2
     have d:=(((a9.o.set_ 0 (.int .u32 0)).set_ 1 (.int .u32 0)).set_ 2 (.int .i64 0)).alloc (.cells #[.int .u32 (p.st.session:Int),.int .u32 (p.st.number:Int),.int .i64 (p.st.count:Int),.int .i64 (p.place:Int),.slice (some ⟨g0,16,none⟩) p.b.length 48] 203);have f:=lh ((((a8.o.setCell (p:=⟨w.heap.size,0,none⟩) (.inr (tA _)) (.int .u32 0)).setCell (p:=⟨w.heap.size,1,none⟩) (.inr (tA _)) (.int .u32 0)).setCell (p:=⟨w.heap.size,2,none⟩) (.inr (tA _)) (.int .i64 0)).alloc (.cells #[.int .u32 (p.st.session:Int),.int .u32 (p.st.number:Int),.int .i64 (p.st.count:Int),.int .i64 (p.place:Int),.slice (some ⟨g0,16,none⟩) p.b.length 48] 203));have m:=d.at_ (i:=0) rfl;have n:=d.at_ (i:=1) rfl;have r:=d.at_ (i:=2) rfl;clear d
     revert f m n r
     generalize (World.alloc (World.setCell (World.setCell (World.setCell w1 _ _) _ _) _ _) _)=wf;intro f m n r;refine eF (v:=.tuple #[.agg nF,.slice none 0 0,.bool false]) (by simp[results,Go.Proofs.Tryz.results81,go_sem,nF,m,n,r]) rfl ?_;unfold hU;rw[dW a7.o (b7.o)];exact⟨rfl,f.o⟩
   ·have h1:1<=p.st.count:=by omega
    have h2:p.st.count<=L.length:=by omega
    have d4:(p.st.count:Int)<=(L.length:Int):=by omega
    clear I;have t:=lh (aEm a7.o hp h1 h2);have b8:decide ((p.st.count:Int)<1)=false:=by simp;omega
    have b9:decide (L.length<p.st.count)=false:=by simp;omega
    have e9:=lh b8;have b':=lh b9;clear b8 b9
    go_wp2
    go_loopw [8,48] (aJN w w1 g0 p L) (fun _ i _=>p.st.count-(intOf i).toNat)
    case atStart=>
     refine⟨0,[],rB _,rfl,by simp,vF _ _ _ _,by simp[Value.ownBlock],by simp,a9.o.alloc _,Blk.new _ _ _,a8.o.alloc _⟩
    case round=>
     have c0:=lh h2;clear h2 d4;obtain⟨k,F,hk,rfl,a4,a5,c7,a6,C,T,hf⟩:=hrel;have p0:=T.at_ (i:=0) rfl;have p1:=T.at_ (i:=1) rfl;have p2:=T.at_ (i:=2) rfl;have u:=lh a4;have s:=lh a5;have Z:=lh c7;have W:=lh a6;have D:=lh C;have HP:=lh T;have M:=lh hf;clear a4 a5 c7 a6 C T hf;obtain⟨A,co,rfl,d9,_⟩:=sA s.o;obtain⟨iu,hi,hz,c8,c9⟩:=Go.info_parts rR;have HI:=lh hi;have HZ:=lh hz;have c1:=lh c8;have c2:=lh c9;clear hi hz c8 c9
     by_cases b1:k<p.st.count
     ·obtain⟨J,sk,c',d',U⟩:=(HS.o.fr M.o (by simp) (by simp)).at_ (j:=k) (by have:=c0.o;omega);have d5:=lh c';have N:=lh U;clear c' U;unfold nT at d';go_wp2_with fail;refine(aAv N.o).mono ?_;rintro e w2 ⟨rfl,z⟩;have q0:=(HP.o.fr z).at_ (i:=0) rfl;have q1:=(HP.o.fr z).at_ (i:=1) rfl;have q2:=(HP.o.fr z).at_ (i:=2) rfl;have l2:=(HP.o.fr z).lt;have r0:=(D.o.fr z).at_ (i:=0) rfl;have r1:=(D.o.fr z).at_ (i:=1) rfl;have r2:=(D.o.fr z).at_ (i:=2) rfl;have rf:=(D.o.fr z).free;have rl:=(D.o.fr z).lt;have l:=lh z;clear z;have E:=lh (show(L.take p.st.count)[k]? = some sk by rw[xG,iA b1];exact d5.o);unfold aCB
      cases Y:jB sk with
      | none=>
       have y:=lh (cV (st:=p.st) E.o (fun x H=>by rw[Y]at H;cases H));simp only[eQ]
       go_wp2
       have d:=((((D.o.fr l.o).set_ 0 (.int .u32 0)).set_ 1 (.int .u32 0)).set_ 2 (.int .i64 0)).alloc (.cells #[.int .u32 0,.int .u32 0,.int .i64 0,.int .i64 0,.slice none 0 0] 203);have f:=lh (((((M.o.trans l.o).setCell (p:=⟨w.heap.size,0,none⟩) (.inr (tA _)) (.int .u32 0)).setCell (p:=⟨w.heap.size,1,none⟩) (.inr (tA _)) (.int .u32 0)).setCell (p:=⟨w.heap.size,2,none⟩) (.inr (tA _)) (.int .i64 0)).alloc (.cells #[.int .u32 0,.int .u32 0,.int .i64 0,.int .i64 0,.slice none 0 0] 203));have m:=d.at_ (i:=0) rfl;have n:=d.at_ (i:=1) rfl;have r:=d.at_ (i:=2) rfl;clear d
       revert f m n r
       generalize (World.alloc (World.setCell (World.setCell (World.setCell w2 _ _) _ _) _ _) _)=wf;intro f m n r;refine eF (v:=.tuple #[.agg nF,.slice none 0 0,.bool false]) (by simp[results,Go.Proofs.Tryz.results81,go_sem,nF,m,n,r]) rfl ?_;exact aAw t.o W.o (y.o) f.o
      | some q=>
       simp only[aCA];have c3:=eV Y;have c4:=lh (fun X=>aJO Y ((N.o.fr l.o).fr ((Fr.refl [] w2).alloc X)))
       by_cases e1:q.st.session=p.st.session
       ·by_cases e2:q.st.number=p.st.number
        ·by_cases e3:q.st.count=p.st.count
         ·have O:q.st=p.st:=by
           cases e0:q.st;cases e7:p.st
           rw[e0,e7]at e1 e2 e3
           simp only at e1 e2 e3
           rw[e1,e2,e3]
          by_cases e4:q.place=k
          ·by_cases e5:k+1<p.st.count
           ·have d6:(k:Int)+1<(p.st.count:Int):=by omega
            by_cases e6:q.b.length=48
            ·have d7:((q.b.length:Int)!=48)=false:=by rw[bne_eq_false_iff_eq];omega
             have HY:=lh (aHs (st:=p.st) E.o Y ⟨O,e4,fun _=>e6⟩);have hz:0<q.b.length:=by omega
             clear e6 O
             go_wp2_with (refine Go.wpList_append_lies _ rfl (.tmp 89) (.tmp 91) 67 rfl 0 5 iu (.int .u8 0) 1 1 Go.Proofs.Tryz.underlying67 HI.o HZ.o c1.o c2.o rfl (by omega) (.slice A F.length co) F.length (fA F) rfl (iB s.o (l.o.alloc _) (by simp)) ⟨J,16,none⟩ q.b.length 48 (fA q.b) rfl (by rw[kA,Nat.mul_one]) (c4.o _) (yC _) hz (by have:=u.o;unfold maxLen;omega) (by have:=u.o;omega) (rB _) _ rfl ?_)
             intro g cap w3 B V G d3;have a':=lh B;have b0:=lh V;have P:=lh G;clear B V G
             go_wp2
             go_roundw
             case rel=>
              have Q:=aHt (w1:=w1) (g0:=g0) u.o Z.o M.o l.o D.o HP.o s.o W.o HY.o c3 (by omega) _ a'.o b0.o P.o
              repeat apply Exists.intro
              refine⟨Q,?_⟩;simp only[b'.o,Bool.or_false]
              repeat' (first|rfl|apply And.intro)
             case measure=>simp[intOf];omega
            ·have d7:((q.b.length:Int)!=48)=true:=by rw[aJ];omega
             have y:=lh (cV (st:=p.st) E.o (fun x H=>by rw[Y]at H;cases H;rintro⟨a1,a2,a3⟩;exact e6 (a3 e5)));clear O
             go_wp2
             have d:=((((D.o.fr l.o).set_ 0 (.int .u32 0)).set_ 1 (.int .u32 0)).set_ 2 (.int .i64 0)).alloc (.cells #[.int .u32 (p.st.session:Int),.int .u32 (p.st.number:Int),.int .i64 (p.st.count:Int),.int .i64 (k:Int),.slice (some ⟨J,16,none⟩) q.b.length 48] 203);have f:=lh (((((M.o.trans l.o).setCell (p:=⟨w.heap.size,0,none⟩) (.inr (tA _)) (.int .u32 0)).setCell (p:=⟨w.heap.size,1,none⟩) (.inr (tA _)) (.int .u32 0)).setCell (p:=⟨w.heap.size,2,none⟩) (.inr (tA _)) (.int .i64 0)).alloc (.cells #[.int .u32 (p.st.session:Int),.int .u32 (p.st.number:Int),.int .i64 (p.st.count:Int),.int .i64 (k:Int),.slice (some ⟨J,16,none⟩) q.b.length 48] 203));have m:=d.at_ (i:=0) rfl;have n:=d.at_ (i:=1) rfl;have r:=d.at_ (i:=2) rfl;clear d
             revert f m n r
             generalize (World.alloc (World.setCell (World.setCell (World.setCell w2 _ _) _ _) _ _) _)=wf;intro f m n r;refine eF (v:=.tuple #[.agg nF,.slice none 0 0,.bool false]) (by simp[results,Go.Proofs.Tryz.results81,go_sem,nF,m,n,r]) rfl ?_;exact aAw t.o W.o (y.o) f.o
           ·have d6:¬ (k:Int)+1<(p.st.count:Int):=by omega
            have HY:=lh (aHs (st:=p.st) E.o Y ⟨O,e4,fun h=>absurd h e5⟩);clear O;rcases jR q.b.length with hz|hz
            ·go_wp2_with (refine aO rfl (.tmp 89) (.tmp 91) 67 67 rfl 5 5 Go.Proofs.Tryz.underlying67 Go.Proofs.Tryz.underlying67 (by kernel_rfl) A (some ⟨J,16,none⟩) F.length co 48 rfl rfl d9 ?_)
             go_wp2
             go_roundw
             case rel=>
              have eb:q.b=[]:=cR hz;have Q:=aMx (w1:=w1) (g0:=g0) u.o Z.o M.o l.o D.o HP.o s.o W.o HY.o eb (by omega)
              repeat apply Exists.intro
              refine⟨Q _,?_⟩
              repeat' (first|rfl|apply And.intro)
             case measure=>simp[intOf];omega
            ·go_wp2_with (refine Go.wpList_append_lies _ rfl (.tmp 89) (.tmp 91) 67 rfl 0 5 iu (.int .u8 0) 1 1 Go.Proofs.Tryz.underlying67 HI.o HZ.o c1.o c2.o rfl (by omega) (.slice A F.length co) F.length (fA F) rfl (iB s.o (l.o.alloc _) (by simp)) ⟨J,16,none⟩ q.b.length 48 (fA q.b) rfl (by rw[kA,Nat.mul_one]) (c4.o _) (yC _) hz (by have:=u.o;unfold maxLen;omega) (by have:=u.o;omega) (rB _) _ rfl ?_)
             intro g cap w3 B V G d3;have a':=lh B;have b0:=lh V;have P:=lh G;clear B V G
             go_wp2
             go_roundw
             case rel=>
              have Q:=aHt (w1:=w1) (g0:=g0) u.o Z.o M.o l.o D.o HP.o s.o W.o HY.o c3 (by omega) _ a'.o b0.o P.o
              repeat apply Exists.intro
              refine⟨Q,?_⟩;simp only[b'.o,Bool.or_false]
              repeat' (first|rfl|apply And.intro)
             case measure=>simp[intOf];omega
          ·have y:=lh (cV (st:=p.st) E.o (fun x H=>by rw[Y]at H;cases H;rintro⟨a1,a2,a3⟩;exact e4 a2))
           go_wp2
           have d:=((((D.o.fr l.o).set_ 0 (.int .u32 0)).set_ 1 (.int .u32 0)).set_ 2 (.int .i64 0)).alloc (.cells #[.int .u32 (p.st.session:Int),.int .u32 (p.st.number:Int),.int .i64 (p.st.count:Int),.int .i64 (q.place:Int),.slice (some ⟨J,16,none⟩) q.b.length 48] 203);have f:=lh (((((M.o.trans l.o).setCell (p:=⟨w.heap.size,0,none⟩) (.inr (tA _)) (.int .u32 0)).setCell (p:=⟨w.heap.size,1,none⟩) (.inr (tA _)) (.int .u32 0)).setCell (p:=⟨w.heap.size,2,none⟩) (.inr (tA _)) (.int .i64 0)).alloc (.cells #[.int .u32 (p.st.session:Int),.int .u32 (p.st.number:Int),.int .i64 (p.st.count:Int),.int .i64 (q.place:Int),.slice (some ⟨J,16,none⟩) q.b.length 48] 203));have m:=d.at_ (i:=0) rfl;have n:=d.at_ (i:=1) rfl;have r:=d.at_ (i:=2) rfl;clear d
           revert f m n r
           generalize (World.alloc (World.setCell (World.setCell (World.setCell w2 _ _) _ _) _ _) _)=wf;intro f m n r;refine eF (v:=.tuple #[.agg nF,.slice none 0 0,.bool false]) (by simp[results,Go.Proofs.Tryz.results81,go_sem,nF,m,n,r]) rfl ?_;exact aAw t.o W.o (y.o) f.o
         ·have y:=lh (cV (st:=p.st) E.o (fun x H=>by rw[Y]at H;cases H;rintro⟨a1,a2,a3⟩;exact e3 (by rw[a1])))
          go_wp2
          have d:=((((D.o.fr l.o).set_ 0 (.int .u32 0)).set_ 1 (.int .u32 0)).set_ 2 (.int .i64 0)).alloc (.cells #[.int .u32 (p.st.session:Int),.int .u32 (p.st.number:Int),.int .i64 (q.st.count:Int),.int .i64 (q.place:Int),.slice (some ⟨J,16,none⟩) q.b.length 48] 203);have f:=lh (((((M.o.trans l.o).setCell (p:=⟨w.heap.size,0,none⟩) (.inr (tA _)) (.int .u32 0)).setCell (p:=⟨w.heap.size,1,none⟩) (.inr (tA _)) (.int .u32 0)).setCell (p:=⟨w.heap.size,2,none⟩) (.inr (tA _)) (.int .i64 0)).alloc (.cells #[.int .u32 (p.st.session:Int),.int .u32 (p.st.number:Int),.int .i64 (q.st.count:Int),.int .i64 (q.place:Int),.slice (some ⟨J,16,none⟩) q.b.length 48] 203));have m:=d.at_ (i:=0) rfl;have n:=d.at_ (i:=1) rfl;have r:=d.at_ (i:=2) rfl;clear d
          revert f m n r
          generalize (World.alloc (World.setCell (World.setCell (World.setCell w2 _ _) _ _) _ _) _)=wf;intro f m n r;refine eF (v:=.tuple #[.agg nF,.slice none 0 0,.bool false]) (by simp[results,Go.Proofs.Tryz.results81,go_sem,nF,m,n,r]) rfl ?_;exact aAw t.o W.o (y.o) f.o
        ·have y:=lh (cV (st:=p.st) E.o (fun x H=>by rw[Y]at H;cases H;rintro⟨a1,a2,a3⟩;exact e2 (by rw[a1])))
         go_wp2
         have d:=((((D.o.fr l.o).set_ 0 (.int .u32 0)).set_ 1 (.int .u32 0)).set_ 2 (.int .i64 0)).alloc (.cells #[.int .u32 (p.st.session:Int),.int .u32 (q.st.number:Int),.int .i64 (q.st.count:Int),.int .i64 (q.place:Int),.slice (some ⟨J,16,none⟩) q.b.length 48] 203);have f:=lh (((((M.o.trans l.o).setCell (p:=⟨w.heap.size,0,none⟩) (.inr (tA _)) (.int .u32 0)).setCell (p:=⟨w.heap.size,1,none⟩) (.inr (tA _)) (.int .u32 0)).setCell (p:=⟨w.heap.size,2,none⟩) (.inr (tA _)) (.int .i64 0)).alloc (.cells #[.int .u32 (p.st.session:Int),.int .u32 (q.st.number:Int),.int .i64 (q.st.count:Int),.int .i64 (q.place:Int),.slice (some ⟨J,16,none⟩) q.b.length 48] 203));have m:=d.at_ (i:=0) rfl;have n:=d.at_ (i:=1) rfl;have r:=d.at_ (i:=2) rfl;clear d
         revert f m n r
         generalize (World.alloc (World.setCell (World.setCell (World.setCell w2 _ _) _ _) _ _) _)=wf;intro f m n r;refine eF (v:=.tuple #[.agg nF,.slice none 0 0,.bool false]) (by simp[results,Go.Proofs.Tryz.results81,go_sem,nF,m,n,r]) rfl ?_;exact aAw t.o W.o (y.o) f.o
       ·have y:=lh (cV (st:=p.st) E.o (fun x H=>by rw[Y]at H;cases H;rintro⟨a1,a2,a3⟩;exact e1 (by rw[a1])))
        go_wp2
        have d:=((((D.o.fr l.o).set_ 0 (.int .u32 0)).set_ 1 (.int .u32 0)).set_ 2 (.int .i64 0)).alloc (.cells #[.int .u32 (q.st.session:Int),.int .u32 (q.st.number:Int),.int .i64 (q.st.count:Int),.int .i64 (q.place:Int),.slice (some ⟨J,16,none⟩) q.b.length 48] 203);have f:=lh (((((M.o.trans l.o).setCell (p:=⟨w.heap.size,0,none⟩) (.inr (tA _)) (.int .u32 0)).setCell (p:=⟨w.heap.size,1,none⟩) (.inr (tA _)) (.int .u32 0)).setCell (p:=⟨w.heap.size,2,none⟩) (.inr (tA _)) (.int .i64 0)).alloc (.cells #[.int .u32 (q.st.session:Int),.int .u32 (q.st.number:Int),.int .i64 (q.st.count:Int),.int .i64 (q.place:Int),.slice (some ⟨J,16,none⟩) q.b.length 48] 203));have m:=d.at_ (i:=0) rfl;have n:=d.at_ (i:=1) rfl;have r:=d.at_ (i:=2) rfl;clear d
        revert f m n r
        generalize (World.alloc (World.setCell (World.setCell (World.setCell w2 _ _) _ _) _ _) _)=wf;intro f m n r;refine eF (v:=.tuple #[.agg nF,.slice none 0 0,.bool false]) (by simp[results,Go.Proofs.Tryz.results81,go_sem,nF,m,n,r]) rfl ?_;exact aAw t.o W.o (y.o) f.o
     ·have c5:k=p.st.count:=by omega
      have r0:=D.o.at_ (i:=0) rfl;have r1:=D.o.at_ (i:=1) rfl;have r2:=D.o.at_ (i:=2) rfl;have rf:=D.o.free;clear b1;have d8:=lh c5;have b1:¬ (k:Int)<(p.st.count:Int):=by omega
      clear c5
      go_wp2
      have d:=((D.o.set_ 0 (.int .u32 (p.st.session:Int))).set_ 1 (.int .u32 (p.st.number:Int))).set_ 2 (.int .i64 (p.st.count:Int));have f:=lh (((M.o.setCell (p:=⟨w.heap.size,0,none⟩) (.inr (tA _)) (.int .u32 (p.st.session:Int))).setCell (p:=⟨w.heap.size,1,none⟩) (.inr (tA _)) (.int .u32 (p.st.number:Int))).setCell (p:=⟨w.heap.size,2,none⟩) (.inr (tA _)) (.int .i64 (p.st.count:Int)));have b2:=lh (iB s.o ((((Fr.refl [w.heap.size] wr).setCell (p:=⟨w.heap.size,0,none⟩) (.inl (by simp)) (.int .u32 (p.st.session:Int))).setCell (p:=⟨w.heap.size,1,none⟩) (.inl (by simp)) (.int .u32 (p.st.number:Int))).setCell (p:=⟨w.heap.size,2,none⟩) (.inl (by simp)) (.int .i64 (p.st.count:Int))) (fun g hg hm=>dX s.o D.o (by decide) (by simp only[aB]at hm;rw[<- hm];exact hg)));have m:=d.at_ (i:=0) rfl;have n:=d.at_ (i:=1) rfl;have r:=d.at_ (i:=2) rfl;clear d
      revert f b2 m n r
      generalize (World.setCell (World.setCell (World.setCell wr _ _) _ _) _ _)=wf;intro f b2 m n r;refine eF (v:=.tuple #[aCE p.st,.slice A F.length co,.bool true]) (by simp[results,Go.Proofs.Tryz.results81,go_sem,aCE,m,n,r]) rfl ?_;exact aQk t.o W.o d8.o c0.o Z.o b2.o f.o
def DM.part (D:DM) (f n:Nat):List (List UInt8):=(List.range n).map fun k=>D.look (f+k)
theorem DM.part_len(D:DM)(f n:Nat):(D.part f n).length=n:=by simp[DM.part]
theorem DM.part_succ(D:DM)(f n:Nat):D.part f (n+1)=D.part f n++[D.look (f+n)]:=by simp[DM.part,List.range_succ]
def jD (d f n at_ num ses:Nat) (br:Bool):List Value:=[.pointer (some ⟨d,0,none⟩),.int .i64 (f:Int),.int .i64 (n:Int),.int .i64 (at_:Int),.int .u32 (num:Int),.int .u32 (ses:Int),.bool br]
theorem aCG(b:Array Value)(w:World):(callFunc 113 b).run prog w=.ok (.enter 113 b) w:=by kernel_rfl
theorem aHu:(prog.info? 201).map (fun i=>(i.zero,i.size,i.bytes))=some (some (.slice none 0 0),1,24):=by kernel_rfl
def aLn (w:World) (D:DM) (f n:Nat) (out i:Value) (wr:World):Prop:=
 ∃(k:Nat) (gs:List Nat),k<=n/\i=.int .i64 k/\gs.length=k/\wr.ownsRow 0 201 1 out k (gs.map nT)/\(∀x,out.ownBlock=some x->w.heap.size<=x)/\(∀g∈gs,w.heap.size<=g) /\
  (∀(j g:Nat) (s:List UInt8),gs[j]? = some g->(D.part f k)[j]? = some s->cJ wr g s)/\Fr [] w wr
theorem aMy{w wr w1:World}{D:DM}{f n k g cap:Nat}{A:Option Addr}{gs:List Nat}(C:D.ok)(I:f+n<=D.S.length)(E:k<n)(r:gs.length=k)(t:wr.ownsRow 0 201 1 (.slice A k m) k (gs.map nT))(u:∀x,(Value.slice A k m).ownBlock=some x->w.heap.size<=x)(F:∀g∈gs,w.heap.size<=g)
 (v:∀(j g:Nat) (s:List UInt8),gs[j]? = some g->(D.part f k)[j]? = some s->cJ wr g s)(J:Fr [] w wr)(d:Fr [] wr w1)(l:Blk w1 g 5 (fA (D.look (f+k))))(O:wr.heap.size<=g){X:Obj}
 (G:w'.ownsRow 0 201 1 (.slice (some ⟨i,0,none⟩) (k+1) cap) (k+1) (gs.map nT++[nT g]))(p:(w1.alloc X).grownBy w' (Value.slice A k m).ownBlock)(H:(Value.slice A k m).ownBlock=some i∨i=w1.heap.size+1):
  aLn w D f n (.slice (some ⟨i,0,none⟩) (k+1) cap) (.int .i64 ((k:Int)+1)) w':=by
 have L:=J.size;have M:=d.size;have b:=iB t d (by simp)
 have q:w.heap.size<=i:=by
  rcases H with h|h
  ·exact u i h
  ·omega
 refine⟨k+1,gs++[g],E,rfl,by simp[r],by simpa using G,by simpa[Value.ownBlock]using q,?_,?_,((J.trans d).alloc _).grown p (fun N B=>.inr (u N B))⟩
 ·intro x c;rcases pD.1 c with h|h
  ·exact F x h
  ·simp only[aB]at h;omega
 ·intro j x s c o;rw[DM.part_succ]at o;rcases iP j k with z|z
  ·rw[kM (by omega)]at c;rw[kM (by rw[DM.part_len];exact z)]at o;have h1:=(v j x s c o).fr d;exact⟨(h1.1.alloc _).grown p (fun e=>dX b h1.1 (by decide) e.symm),h1.2⟩
  ·rw[dK (by omega)]at c;rw[dK (by rw[DM.part_len];exact z),DM.part_len]at o;rw[r]at c
   have y:j-k=0:=by
    rcases jR (j-k) with h|h
    ·exact h
    ·rw[fR (by simp;omega)]at c;cases c
   rw[y]at c o;simp only[iR,vI]at c o;subst c o;exact⟨(l.alloc _).grown p (fun e=>dX b l (by decide) e.symm),DM.look_len C (by omega)⟩
theorem aOj{w wr:World}{D:DM}{f n:Nat}{A:Option Addr}{gs:List Nat}(i:gs.length=n)(b:wr.ownsRow 0 201 1 (.slice A n k) n (gs.map nT))(o:∀x,(Value.slice A n k).ownBlock=some x->w.heap.size<=x)(p:∀g∈gs,w.heap.size<=g)
 (l:∀(j g:Nat) (s:List UInt8),gs[j]? = some g->(D.part f n)[j]? = some s->cJ wr g s)(q:Fr [] w wr):
  ∃A' c gl gs',Ending.returned (.tuple #[.slice A n k,.int .i64 0])=.returned (.tuple #[.slice A' n c,.int .i64 0])/\n<=c/\(0<n->A'=some ⟨gl,0,none⟩)/\mK wr gl 0 gs' (D.part f n)/\w.heap.size<=gl/\(∀g∈gs',w.heap.size<=g)/\Fr [] w wr:=by
 obtain⟨_,_,r,d,_⟩:=sA b;injection r with _ _ m;subst m;rcases jR n with h0|h0
 ·subst h0;have:gs=[]:=cR i;subst this;exact⟨A,k,w.heap.size,[],rfl,d,fun h=>absurd h (by omega),⟨by simp[DM.part],by simp,by simp⟩,tA _,by simp,q⟩
 ·obtain⟨gl,t,u⟩:=tE b h0;subst t;refine⟨_,k,gl,gs,rfl,d,fun _=>rfl,⟨by rw[DM.part_len,i],fun j g v=>?_,l⟩,o gl rfl,p,q⟩;rw[cC];exact u j _ (by rw[zH,v];rfl)
theorem aQl{w:World}{lg d f n at_ num ses:Nat}{br:Bool}{D:DM}(hb:Blk w lg 158 (jD d f n at_ num ses br))(hd:fF w d D L)(B:D.dead=false)(b6:f+n<=D.S.length)(b7:D.S.length<=65536):
  Calls prog 79 #[.pointer (some ⟨lg,0,none⟩)] w fun e w'=>∃A c gl gs,e=.returned (.tuple #[.slice A n c,.int .i64 0])/\n<=c/\(0<n->A=some ⟨gl,0,none⟩)/\mK w' gl 0 gs (D.part f n)/\w.heap.size<=gl/\(∀g∈gs,w.heap.size<=g)/\Fr [] w w':=by
 have c2:=hb.at_ (i:=2) rfl;have HB:=lh hb;have HD:=lh hd;have H:=lh B;clear hb hd B
 go_enter func79,ntmps79
 go_wp2
 go_loopw [4,12] (aLn w D f n) (fun _ i _=>n-(intOf i).toNat)
 case atStart=>exact⟨0,[],rB _,rfl,rfl,vF _ _ _ _,by simp[Value.ownBlock],by simp,by simp,Fr.refl _ _⟩
 case round=>
  obtain⟨k,gs,hk,rfl,U,x,V,X,E,hf⟩:=hrel;obtain⟨A,co,rfl,b9,_⟩:=sA x;have M:=lh U;have q:=lh x;have N:=lh V;have O:=lh X;have C:=lh E;have J:=lh hf;clear U x V X E hf
  by_cases b4:k<n
  ·have b8:IntKind.i64.wrap ((f:Int)+(k:Int))=(f:Int)+(k:Int):=by rw[iD];omega
   have r:=(HB.o.fr J.o).at_ (i:=0) rfl;have s:=(HB.o.fr J.o).at_ (i:=1) rfl;have a5:=lh (HD.o.fr J.o);go_wp2_with fail;refine lA (fun W=>W.cell? ⟨lg,0,none⟩=some (.pointer (some ⟨d,0,none⟩))/\W.cell? ⟨lg,1,none⟩=some (.int .i64 (f:Int))) [0,1,2,3,4,5,6,7,8,9,11,12,13,14,15] (by kernel_rfl) ?_;refine qA (i:=0) (some 16) ?vl0 rfl rfl (by kernel_rfl) (fun _ _ _ h=>h) ⟨r,s⟩ (.inl ⟨rfl,fun W b=>?yl0⟩) ?rl0
   case yl0=>(obtain⟨c0,c1⟩:=b;go_simp)<;>with_reducible rfl
   simp only[nrm];refine qA (i:=1) (some 17) ?vl1 rfl rfl (by kernel_rfl) (fun _ _ _ h=>h) ⟨r,s⟩ (.inl ⟨rfl,fun W b=>?yl1⟩) ?rl1
   case yl1=>(obtain⟨c0,c1⟩:=b;go_simp)<;>with_reducible rfl
   simp only[nrm];refine qA (i:=2) (some 18) ?vl2 rfl rfl (by kernel_rfl) (fun _ _ _ h=>h) ⟨r,s⟩ (.inl ⟨rfl,fun W b=>?yl2⟩) ?rl2
   case yl2=>(obtain⟨c0,c1⟩:=b;go_simp)<;>with_reducible rfl
   simp only[nrm];refine qA (i:=3) (some 19) ?vl3 rfl rfl (by kernel_rfl) (fun _ _ _ h=>h) ⟨r,s⟩ (.inl ⟨rfl,fun W b=>?yl3⟩) ?rl3
   case yl3=>(obtain⟨c0,c1⟩:=b;go_simp)<;>with_reducible rfl
   simp only[nrm];refine qA (i:=4) (some 20) ?vl4 rfl rfl (by kernel_rfl) (fun _ _ _ h=>h) ⟨r,s⟩ (.inl ⟨rfl,fun W b=>?yl4⟩) ?rl4
   case yl4=>(obtain⟨c0,c1⟩:=b;go_simp)<;>with_reducible rfl
   simp only[nrm];refine qA (i:=5) (some 21) ?vl5 rfl rfl (by kernel_rfl) (fun _ _ _ h=>h) ⟨r,s⟩ (.inl ⟨rfl,fun W b=>?yl5⟩) ?rl5
   case yl5=>(obtain⟨c0,c1⟩:=b;go_simp)<;>with_reducible rfl
   simp only[nrm];refine qA (i:=6) (some 22) ?vl6 rfl rfl (by kernel_rfl) (fun _ _ _ h=>h) ⟨r,s⟩ (.inl ⟨rfl,fun W b=>?yl6⟩) ?rl6
   case yl6=>(obtain⟨c0,c1⟩:=b;go_simp)<;>with_reducible rfl
   simp only[nrm];refine qA (i:=7) (some 23) ?vl7 rfl rfl (by kernel_rfl) (fun _ _ _ h=>h) ⟨r,s⟩ (.inl ⟨rfl,fun W b=>?yl7⟩) ?rl7
   case yl7=>(obtain⟨c0,c1⟩:=b;go_simp)<;>with_reducible rfl
   simp only[nrm];refine qA (i:=8) (some 24) ?vl8 rfl rfl (by kernel_rfl) (fun _ _ _ h=>h) ⟨r,s⟩ (.inl ⟨rfl,fun W b=>?yl8⟩) ?rl8
   case yl8=>(obtain⟨c0,c1⟩:=b;go_simp)<;>with_reducible rfl
   simp only[nrm];refine qA (i:=9) (some 25) ?vl9 rfl rfl (by kernel_rfl) (fun _ _ _ h=>h) ⟨r,s⟩ (.inl ⟨rfl,fun W b=>?yl9⟩) ?rl9
   case yl9=>(obtain⟨c0,c1⟩:=b;go_simp)<;>with_reducible rfl
   simp only[nrm];refine sp 10 rfl rfl rfl fun K hK=>?_;refine jA (l:=[.tmp 19,.tmp 25]) rfl [.pointer (some ⟨d,0,none⟩),.int .i64 ((f:Int)+(k:Int))] rfl (aCG _) ((aLk (a5.o.fr ((Fr.refl [] wr).drew)) ((f:Int)+(k:Int))).mono ?_);rintro e w1 ⟨v,g,rfl,b3,Y,Z,F,_⟩
   have hE:D.readE ((f:Int)+(k:Int))=0:=by
    unfold DM.readE;rw[H.o,eA (by simp),eA (by omega)]
   have hR:D.read ((f:Int)+(k:Int))=D.look (f+k):=by
    unfold DM.read;rw[iA hE,show((f:Int)+(k:Int)).toNat=f+k by omega]
   obtain⟨rfl,y⟩:=F hE;rw[hR]at y;have t:Fr [] wr w1:=(Fr.refl [] wr).drew.trans Z;have I:=HB.o.fr (J.o.trans t);have m:w1.cell? ⟨lg,0,none⟩=some (.pointer (some ⟨d,0,none⟩)):=I.at_ rfl;have p:w1.cell? ⟨lg,1,none⟩=some (.int .i64 (f:Int)):=I.at_ rfl;rw[hE];refine⟨_,rfl,hK _ _ (fun _=>⟨m,p⟩) ?_⟩;simp only[nrm];refine qA (i:=11) (some 15) ?vl11 rfl rfl (by kernel_rfl) (fun _ _ _ h=>h) ⟨m,p⟩ (.inl ⟨rfl,fun W b=>?yl11⟩) ?rl11
   case yl11=>(obtain⟨c0,c1⟩:=b;go_simp)<;>with_reducible rfl
   simp only[nrm];refine qA (i:=12) (some 27) ?vl12 rfl rfl (by kernel_rfl) (fun _ _ _ h=>h) ⟨m,p⟩ (.inl ⟨rfl,fun W b=>?yl12⟩) ?rl12
   case yl12=>(obtain⟨c0,c1⟩:=b;go_simp)<;>with_reducible rfl
   simp only[nrm];refine qA (i:=13) (some 28) ?vl13 rfl rfl (by kernel_rfl) (fun _ _ _ h=>h) ⟨m,p⟩ (.inl ⟨rfl,fun W b=>?yl13⟩) ?rl13
   case yl13=>(obtain⟨c0,c1⟩:=b;go_simp)<;>with_reducible rfl
   simp only[nrm];refine qA (i:=14) (some 6) ?vl14 rfl rfl (by kernel_rfl) (fun _ _ _ h=>h) ⟨m,p⟩ (.inl ⟨rfl,fun W b=>?yl14⟩) ?rl14
   case yl14=>(obtain⟨c0,c1⟩:=b;go_simp)<;>with_reducible rfl
   simp only[nrm];refine qA (i:=15) (some 7) ?vl15 rfl rfl (by kernel_rfl) (fun _ _ _ h=>h) ⟨m,p⟩ (.inl ⟨rfl,fun W b=>?yl15⟩) ?rl15
   case yl15=>(obtain⟨c0,c1⟩:=b;go_simp)<;>with_reducible rfl
   simp only[nrm];refine wd ?_ _;have P:=lh y;have Q:=lh t;have a6:=lh (show wr.heap.size<=g from Y);clear y t Z I b3 F Y hK hE hR r s m p;obtain⟨i0,a0,a1,a2,a3⟩:=Go.info_parts aHu;have a7:=lh a0;have a8:=lh a1;have a9:=lh a2;have a':=lh a3;clear a0 a1 a2 a3
   go_wp2_with (refine Go.wpList_append_lies _ rfl (.tmp 32) (.tmp 34) 159 rfl 0 201 i0 (.slice none 0 0) 1 24 underlying159 a7.o a8.o a9.o a'.o rfl (by omega) (.slice A k co) k (gs.map nT) rfl ?own ⟨w1.heap.size,0,none⟩ 1 1 [nT g] rfl rfl ?news ?one (by omega) (by unfold maxLen;omega) (by omega) (rB _) _ rfl ?_)
   case own=>exact iB q.o (Q.o.alloc _) (by simp)
   case one=>intro u hu;simp at hu;subst hu;rfl
   case news=>intro j u hu;rw[Go.Addr.add_mid,cC];exact(Blk.new w1 201 [nT g]).at_ hu
   intro g1 cap w3 z a4 G b5;have b0:=lh z;have b1:=lh a4;have T:=lh G;clear z a4 G
   go_wp2
   go_roundw
   case rel=>exact aMy (fF.ok HD.o) (by omega) b4 M.o q.o N.o O.o C.o J.o Q.o P.o a6.o b0.o b1.o T.o
   case measure=>simp[intOf];omega
  ·have b2:k=n:=by omega
   subst b2
   go_wp2
   go_ret2
   exact aOj M.o q.o N.o O.o C.o J.o
def xI (a:Nat×Nat) (s:List UInt8):Nat×Nat:=match jB s with|some p=>(max a.1 p.st.session,max a.2 p.st.number)|none=>a
def gF (a:Nat×Nat) (L:List (List UInt8)):Nat×Nat:=L.foldl xI a
theorem aCH(L:List (List UInt8)):tB L=gF (0,0) L:=rfl
theorem aY{a:Nat×Nat}{L:List (List UInt8)}{k:Nat}{s:List UInt8}(h:L[k]? = some s):gF a (L.take (k+1))=xI (gF a (L.take k)) s:=by
 have b:k<L.length:=(tD.1 h).1;rw[jP b];rw[xD b]at h;simp only[vI]at h;rw[h]
 simp[gF]
def aRE (w:World) (lg d f n at_:Nat) (br:Bool) (a:Nat×Nat) (L:List (List UInt8)) (i:Value) (wr:World):Prop:=
 ∃k:Nat,k<=L.length/\i=.int .i64 k/\Blk wr lg 158 (jD d f n at_ (gF a (L.take k)).2 (gF a (L.take k)).1 br)/\Fr [lg] w wr
theorem aQm{w:World}{lg d f n at_:Nat}{br:Bool}{m:Nat×Nat}{q:Pc}(h:Blk w lg 158 (jD d f n at_ m.2 m.1 br)):
  Blk ((w.setCell ⟨lg,5,none⟩ (.int .u32 (if m.1<q.st.session then (q.st.session:Int) else (m.1:Int)))).setCell ⟨lg,4,none⟩ (.int .u32 (if m.2<q.st.number then (q.st.number:Int) else (m.2:Int)))) lg 158 (jD d f n at_ (max m.2 q.st.number) (max m.1 q.st.session) br):=by
 have b:(if m.1<q.st.session then (q.st.session:Int) else (m.1:Int))=((max m.1 q.st.session:Nat):Int):=by split<;>omega
 have c:(if m.2<q.st.number then (q.st.number:Int) else (m.2:Int))=((max m.2 q.st.number:Nat):Int):=by split<;>omega
 rw[b,c];exact(h.set_ 5 _).set_ 4 _
theorem aQn{w:World}{lg d f n at_:Nat}{br:Bool}{m:Nat×Nat}(h:Blk w lg 158 (jD d f n at_ m.2 m.1 br)):
  Blk ((w.setCell ⟨lg,5,none⟩ (.int .u32 (((m.1:Int)+1)%4294967296))).setCell ⟨lg,4,none⟩ (.int .u32 (((m.2:Int)+1)%4294967296))) lg 158 (jD d f n at_ ((m.2+1)%4294967296) ((m.1+1)%4294967296) br):=by
 have b:((m.1:Int)+1)%4294967296=(((m.1+1)%4294967296:Nat):Int):=by omega
 have c:((m.2:Int)+1)%4294967296=(((m.2+1)%4294967296:Nat):Int):=by omega
 rw[b,c];exact(h.set_ 5 _).set_ 4 _
theorem aJP{w:World}{lg d f n at_ gl c:Nat}{br:Bool}{a:Nat×Nat}{gs:List Nat}{L:List (List UInt8)}{A:Option Addr}(D:Blk w lg 158 (jD d f n at_ a.2 a.1 br))(V:mK w gl 0 gs L)(Z:0<L.length->A=some ⟨gl,0,none⟩)(_:L.length<=c)(hm:L.length<=65536)(N:gl≠lg):
  Calls prog 80 #[.pointer (some ⟨lg,0,none⟩),.slice A L.length c] w fun e w'=>e=.returned (.bool (decide ((gF a L).1<4294967295)))/\Blk w' lg 158 (jD d f n at_ (((gF a L).2+1)%4294967296) (((gF a L).1+1)%4294967296) br)/\Fr [lg] w w':=by
 have O:=lh D;have H:=lh V;clear D V
 go_enter func80,ntmps80
 go_wp2
 go_loopw [12] (aRE w lg d f n at_ br a L) (fun i _=>L.length-(intOf i).toNat)
 case atStart=>exact⟨0,rB _,rfl,O.o,Fr.refl _ _⟩
 case round=>
  obtain⟨k,hk,rfl,D,S⟩:=hrel;have m:=lh D;have y:=lh S;clear D S
  by_cases x:k<L.length
  ·obtain rfl:=Z (by omega)
   have z:∀g∈gs,g∉[lg]:=by
    intro g Y G;simp only[aB]at G;subst G;obtain⟨j,T,rfl⟩:=List.getElem_of_mem Y;have I:j<L.length:=by rw[<- H.o.len];exact T
    have h1:=(H.o.sec j _ _ (xD T) (xD I)).1;exact(h1.ne_ O.o (by decide)) rfl
   obtain⟨W,X,E,F,r⟩:=(H.o.fr y.o (by simp[N]) z).at_ (j:=k) x;have B:=lh E;have s:=lh r;clear E r z;unfold nT at F;rw[cC]at F;go_wp2_with fail;refine(aAv s.o).mono ?_;rintro e w2 ⟨rfl,v⟩;have t:=lh v;have l:=m.o.fr v;have P:=l.at_ (i:=4) rfl;have Q:=l.at_ (i:=5) rfl;have lf:=l.free;have ll:=l.lt;have C:=lh l;clear v l;unfold aCB
   cases U:jB X with
   | none=>
    simp only[eQ]
    go_wp2
    exact⟨⟨k+1,x,rfl,by rw[aY B.o];unfold xI;rw[U];exact C.o.alloc _,(y.o.trans t.o).alloc _⟩,by simp[intOf];omega⟩
   | some q=>
    simp only[aCA]
    go_wp2
    go_region
    go_wp2
    refine⟨⟨k+1,x,rfl,?_,?_⟩,by simp[intOf];omega⟩
    ·rw[aY B.o];unfold xI;rw[U];have h:=(aQm (q:=q) C.o).alloc (.cells #[.int .u32 (q.st.session:Int),.int .u32 (q.st.number:Int),.int .i64 (q.st.count:Int),.int .i64 (q.place:Int),.slice (some ⟨W,16,none⟩) q.b.length 48] 203)
     first|exact h|exact h.drew
    ·first
      | exact(((y.o.trans t.o).setCell (p:=⟨lg,5,none⟩) (.inl (by simp)) _).setCell (p:=⟨lg,4,none⟩) (.inl (by simp)) _).alloc _
      | exact((((y.o.trans t.o).setCell (p:=⟨lg,5,none⟩) (.inl (by simp)) _).setCell (p:=⟨lg,4,none⟩) (.inl (by simp)) _).alloc _).drew
  ·have u:k=L.length:=by omega
   have P:=m.o.at_ (i:=4) rfl;have Q:=m.o.at_ (i:=5) rfl;have lf:=m.o.free;rw[u,List.take_length]at P Q;have J:=lh u;clear u
   go_wp2
   go_ret
   have M:Blk wr lg 158 (jD d f n at_ (gF a L).2 (gF a L).1 br):=by have h:=m.o;rw[J.o,List.take_length]at h;exact h
   refine⟨?_,?_,?_⟩
   ·show Ending.returned (.bool (decide (((gF a L).1:Int)<4294967295)))=_
    rw[show decide (((gF a L).1:Int)<4294967295)=decide ((gF a L).1<4294967295) from decide_eq_decide.2 (by omega)]
   ·exact aQn M
   ·exact((y.o.setCell (p:=⟨lg,5,none⟩) (.inl (by simp)) _).setCell (p:=⟨lg,4,none⟩) (.inl (by simp)) _)
theorem iU(w:World)(n:Int)(h1:-9223372036854775808<=n)(h2:n<=9223372036854775807):
  Calls prog 91 #[.int .i64 n] w fun e w'=>e=.returned (.int .i64 (aLl n))/\w=w':=by
 unfold aLl
 by_cases h:n<=0
 ·rw[iA h]
  go_enter func91,ntmps91
  go_wp2
  go_ret
  exact⟨rfl,rfl⟩
 ·rw[eA h];have b:Int.tdiv (n-1) 48=(n-1) / 48:=Int.tdiv_eq_ediv_of_nonneg (by omega)
  go_enter func91,ntmps91
  go_wp2
  go_ret
  exact⟨rfl,rfl⟩
theorem aLo{w:World}{lg d f n at_ num ses:Nat}{br:Bool}(b:Blk w lg 158 (jD d f n at_ num ses br))(c:n<=65536)(g:at_<=n):
  Calls prog 92 #[.pointer (some ⟨lg,0,none⟩)] w fun e w'=>e=.returned (.int .i64 ((n-at_:Nat):Int))/\∃m,w'=w.drewN m:=by
 have c2:=b.at_ (i:=2) rfl;have c3:=b.at_ (i:=3) rfl;clear b
 go_enter func92,ntmps92
 go_wp2
 go_quiet (fail)
 go_wp2
 go_ret
 refine⟨?_,_,rfl⟩
 show Ending.returned (.int .i64 ((n:Int)-(at_:Int)))=_
 rw[show(n:Int)-(at_:Int)=((n-at_:Nat):Int) by omega]
theorem aOk{w:World}{lg d f n at_ num ses:Nat}{br:Bool}(b:Blk w lg 158 (jD d f n at_ num ses br)):
  Calls prog 69 #[.pointer (some ⟨lg,0,none⟩)] w fun e w'=>e=.returned (.tuple #[])/\Blk w' lg 158 (jD d f n 0 num ses br)/\Fr [lg] w w':=by
 have c3:=b.at_ (i:=3) rfl;have g:=b.free;have c:=lh b;clear b
 go_enter func69,ntmps69
 go_wp2
 go_end0
 exact⟨rfl,c.o.set_ 3 _,(Fr.refl _ _).setCell (.inl (by simp)) _⟩
end
end Go.Proofs.YtebjhcjbfaaejaaGreatDoor
