/-
  Joined: RegIn Pd Pe Pf Pg Na
-/
import Derived.RangeFuncNested
import Derived.RangeFuncBound
import Derived.RangeFuncCalls
import Derived.RangeFuncLeaves
import Derived.RangeFuncBox
import Derived.Shelf.Abstract
import Derived.Shelf.RegionOpen
import Derived.WalkKit
import Derived.OwnWalkIn
import Derived.TacticsInMore
import Derived.LoopNIn
import Derived.LoopIn
import Derived.ControlIn
import Derived.Maps.OwnIn
import Derived.Lib.SlBytesConst
import Derived.Lib.Bytealg
import Derived.Test.YtebjhcjbfaaejaaGreatDoorJca7
set_option maxRecDepth 100000
set_option maxHeartbeats 32000000
namespace Go.Proofs.YtebjhcjbfaaejaaGreatDoor
open Go.Proofs.Tryz
variable {n k i t:Nat}{L:List Nat}
section
open Go.RowKit
section
variable {P : Program} {ops : Array Oper} {Q : Exit -> Act -> World -> Prop} {md : Region.Mode} {S : World -> Prop} {I : List Nat} {n l : Nat}
theorem aGt{row:String}{args:Array Value}{w:World}{R:Value->World->Prop}(h:Rows P row args w R):Go.RowsIn (Fence.wide.inRound l) n P row args w R:=
 fun c cs _=>let ⟨v,w',r,s⟩:=h c cs;⟨v,w',r,stepsIn_wide.2 s⟩
theorem aDe{o:Oper}{a:Act}{w:World}{next:Act->World->Prop}(b:∀c,o.op≠.defer c)(h:o.wp P a w next Q):o.wpIn (Fence.wide.inRound l) n P a w next Q:=by
 refine⟨fun _ _=>trivial,?_⟩;have e:o.semAt (Fence.wide.inRound l).round a.eval=execOp a.eval o:=Oper.semAt_some l a.eval o b;rw[e];unfold Oper.wp at h;generalize (execOp a.eval o).run P w=r at *
 cases r with
 | ok x w'=>
  cases x<;>simp only[Oper.upon,Oper.uponIn]at h⊢ <;>
   first
    | exact h
    | exact⟨fun b=>(by cases b),nM.2 h⟩
    | exact⟨fun b=>(by cases b),aGt h⟩
 | halt x w'=>cases x<;>simp only[Oper.upon,Oper.uponIn]at h⊢<;>exact h
def sY (ops:Array Oper):Bool:=ops.all fun o=>match o.op with | .defer _=>false|_=>true
theorem tY(h:sY ops=true){i:Nat}{o:Oper}(d:ops[i]? = some o):∀c,o.op≠.defer c:=by
 intro c b;unfold sY at h;rw[Array.all_eq_true_iff_forall_mem]at h;have:=h o (Array.mem_of_getElem? d);rw[b]at this
 cases this
theorem fM(d:sY ops=true)(f:∀a w,¬Q .outgrown a w):∀(b:Nat) (c:Array Bool) (a:Act) (w:World),wpAny P md ops Q b c a w->wpAnyIn (Fence.wide.inRound l) n P md ops Q b c a w
 | 0,_,_,_,h=>h
 | b+1,c,a,w,h=>by
  refine⟨h.1,fun i hi=>?_⟩;have h1:=h.2 i hi;unfold wpOp at h1;unfold wpOpIn
  cases j:ops[i]? with
  | none=>
   rw[j]at h1;exact fM d f b _ _ _ h1
  | some o=>
   rw[j]at h1
   simp only at h1⊢
   split
   ·rename_i g
    rw[iA g]at h1;rcases h1 with h1|⟨_,k,w',h1⟩
    ·exact aDe (tY d j) (Oper.wp_mono (fun a w h=>fM d f b _ a w h) h1)
    ·exact absurd h1 (f _ _)
   ·rename_i g
    rw[eA g]at h1;exact⟨fun _ _=>trivial,fM d f b _ _ _ h1⟩
theorem vJ{j:Nat}(d:Option Tmp){o:Oper}{b:Array Bool}{a:Act}{w:World}(f:ops[j]? = some o)(g:o.dst=d)(c:Region.ready md ops b=[j])(m:Region.wanted o (yielded ops a.tmps)=true)
 (h:∀K:Act->World->Prop,(∀v w',(jN md ops I j=true->S w')->tF P md ops Q S I k (b.setIfInBounds j true) (a.put d v) w'->K (a.put o.dst v) w')->Oper.wp P o a w K Q):
  tF P md ops Q S I (k+1) b a w:=by
 subst g;refine⟨fun h0=>absurd (c▸h0) (by simp),fun i hi=>?_⟩;rw[c]at hi;obtain rfl:i=j:=by simpa using hi
 refine wpOp_step f fun K hK=>?_;rw[iA m];exact h K (fun v w' h1 h2=>hK _ w' ⟨h1,h2⟩)
theorem fO(S:World->Prop)(I:List Nat){a:Act}{w:World}(b:P.follows .mixedOrders=true)(c:sY ops=true)(d:∀a w,¬Q .outgrown a w)
 (h:tF P .any ops Q S I ops.size (Array.replicate ops.size false) a w.drew):(Code.region k ops true).wpIn (Fence.wide.inRound l) n P Q a w:=
 wpIn_region_any b (fM c d _ _ _ _ (eX _ _ _ _ h))
theorem fL(S:World->Prop)(I:List Nat){a:Act}{w:World}(b:P.follows .mixedOrders=true)
 (h:tF P .any ops Q S I ops.size (Array.replicate ops.size false) a w.drew):(Code.region k ops true).wpIn Fence.wide n P Q a w:=
 wpIn_wide.2 (lA S I b h)
end
end
section
open Go.RowKit Go.Shelf
attribute [local go_sem] Oper.semAt_some
theorem aDf(A:Option Addr)(n c lo hi:Nat)(h1:lo<=hi)(h2:hi<=c)(w:World):
  (Instr.sliceAt 67 (.slice A n c) (some (.int .i64 (lo:Int))) (some (.int .i64 (hi:Int))) (some (.int .i64 (hi:Int)))).run prog w=.ok (.slice (if hi=lo then A else A.map (·.add lo)) (hi-lo) (hi-lo)) w:=by
 have ht:=Go.Proofs.Tryz.underlying67;have b:prog.elem 67=5:=by simp[Program.elem,ht]
 obtain⟨i,d,f⟩:=Option.map_eq_some_iff.1 bL;have g:∀w,(sizeOf 5).run prog w=.ok 1 w:=fun w=>by simp[sizeOf,typeInfo,go_sem,d,f]
 rw[Go.run_sliceAt_slice (h:=by rw[b];exact ht),run_slice_lhm (ht:=by rw[b];exact ht) (h0:=by omega) (h1:=by omega) (h2:=by omega) (h3:=by omega),b,g]
 simp[Result.andThen,sliced]
def fJ (Bs Bn:Nat) (W W':World):Prop:=W'.cell? ⟨Bs,0,none⟩=W.cell? ⟨Bs,0,none⟩/\W'.cell? ⟨Bn,0,none⟩=W.cell? ⟨Bn,0,none⟩
theorem fJ.trans{A B C:World}(h:fJ n i A B)(k:fJ n i B C):fJ n i A C:=⟨k.1.trans h.1,k.2.trans h.2⟩
def chV (g off k:Nat):Value:=.slice (some ⟨g,off+514*k,none⟩) 514 514
def nK (m k:Nat):List (Fin m):=(List.finRange m).take k
theorem lU{m k:Nat}(h:k<m):nK m (k+1)=nK m k++[⟨k,h⟩]:=by
 unfold nK;rw[jP (by simpa using h)]
 simp
theorem jX{m k:Nat}(h:k<=m):(nK m k).length=k:=by simp[nK,h]
theorem aMQ(n l j o g off m cap:Nat)(A:Option Addr)(V:0<m->A=some ⟨g,off,none⟩)(P:514*m<=cap)(hm:m<=100000)(hn:1<=n)(J Q:List (Fin m)->World->Prop)
 (X:∀pre (x:Fin m) W,J pre W->pre.length<m->YieldAt Fence.wide (n-1) prog l #[chV g off x.1] W fun e f=>
   (e=.returned (.bool true)/\J (pre++[x]) f/\fJ j o W f)∨(e=.returned (.bool false)/\Q (pre++[x]) f))
 (H:∀pre W,J pre W->J pre W.drew)
 (W:World)(I:W.cell? ⟨j,0,none⟩=some (.slice A (514*m) cap))(L:W.cell? ⟨o,0,none⟩=some (.int .i64 514))(h0:J [] W):
  CallsIn Fence.wide n prog 115 #[.func (.yield l) #[] #[],.pointer (some ⟨j,0,none⟩),.pointer (some ⟨o,0,none⟩)] W fun e f=>(∃v,e=.returned v) /\
   ((∃ys,ys=List.finRange m/\J ys f)∨(∃pre,True/\Q pre f)):=by
 refine callsIn_of_wp func115 rfl trivial ?_ rfl;simp only[ntmps115,eT,gD,List.length_nil,Nat.reduceAdd,Nat.reduceSub,Array.replicate_succ,aAi,List.push_toArray,List.append_toArray,eH,zI]
 gi_wp2
 gi_loopw [4] (fun i wr=>∃k:Nat,k<=m/\i=.int .i64 ((514*k:Nat):Int)/\J (nK m k) wr/\wr.cell? ⟨j,0,none⟩=some (.slice A (514*m) cap)/\wr.cell? ⟨o,0,none⟩=some (.int .i64 514))
  (fun i _=>514*m-(intOf i).toNat)
 case atStart=>exact⟨0,rB _,rfl,h0,I,L⟩
 case round=>
  obtain⟨k,S,rfl,p,cs,s⟩:=hrel
  by_cases d:k<m
  ·obtain⟨Z,tmps,u,N,T,U⟩:=X _ ⟨k,d⟩ wr.drew (H _ _ p) (by rw[jX S];exact d);unfold chV at T;obtain rfl:=V (by omega);have b:=aH Go.Proofs.Tryz.underlying67 bL (some ⟨g,off,none⟩) (514*m) cap (514*k) .i64 (by omega);rw[eA (by omega)]at b;simp only[yP,Go.Addr.add_mid]at b
   have M:∀(O:Array TypeId) (t:TypeId) (W:World),(Builtin.min_ O t #[.int .i64 514,.int .i64 ((514*m-514*k:Nat):Int)]).run prog W=.ok (.int .i64 514) W:=fun O t W=>by
    rw[run_min_int2,eA (by omega)]
   have Y:IntKind.i64.wrap (((514*k:Nat):Int)+514)=((514*(k+1):Nat):Int):=by rw[iD];omega
   have c:=aDf (some ⟨g,off,none⟩) (514*m) cap (514*k) (514*(k+1)) (by omega) (by omega);rw[eA (by omega),show 514*(k+1)-514*k=514 by omega]at c;simp only[yP,Go.Addr.add_mid]at c
   gi_wp2
   refine fL (fun W=>W.cell? ⟨j,0,none⟩=some (.slice (some ⟨g,off,none⟩) (514*m) cap)/\W.cell? ⟨o,0,none⟩=some (.int .i64 514)) [0,1,2,3,4,5] (by kernel_rfl) ?_;refine tks [0,1,2] ?_
   iterate 3 (refine tk rfl rfl ⟨cs,s⟩ rfl (fun _ G=>by(obtain⟨D,E⟩:=G;go_simp)<;>with_reducible rfl) ?_;simp only[nrm])
   refine tke ?_;refine tv 3 (.slice (some ⟨g,off+514*k,none⟩) (514*m-514*k) (cap-514*k)) rfl rfl ⟨cs,s⟩ (.inl ⟨rfl,fun W _=>mG rfl rfl rfl rfl (b W)⟩) ?_;simp only[nrm];refine tks [4,5] ?_
   iterate 2 (refine tk rfl rfl ⟨cs,s⟩ rfl (fun _ G=>by(obtain⟨D,E⟩:=G;go_simp)<;>with_reducible rfl) ?_;simp only[nrm])
   refine tke ?_;refine sp 6 rfl rfl rfl fun K hK=>?_;refine nA (v:=?aq1_6) ?yq1_6 (hK _ _ (fun h=>absurd h (by decide +kernel)) ?_)
   case yq1_6=>go_simp<;>with_reducible rfl
   simp only[nrm];refine wd ?_ _;have y:wr.drew.cell? ⟨j,0,none⟩=some (.slice (some ⟨g,off,none⟩) (514*m) cap):=cs;have z:wr.drew.cell? ⟨o,0,none⟩=some (.int .i64 514):=s
   gi_wp2
   refine U.mono ?_;rintro e W3 (⟨rfl,F,q⟩|⟨rfl,r⟩)
   ·have B:=q.1.trans y;have C:=q.2.trans z
    gi_wp2
    go_roundw
    case rel=>exact⟨k+1,by omega,by go_num,by rw[lU d];exact F,B,C⟩
    case measure=>simp[intOf];omega
   ·gi_wp2
    refine eF (results_none rfl _ _ _) rfl ?_;exact⟨⟨_,rfl⟩,.inr ⟨_,trivial,r⟩⟩
  ·obtain rfl:k=m:=by omega
   gi_wp2
   go_end0
   exact⟨⟨_,rfl⟩,.inl ⟨_,by unfold nK;rw[zF (by simp)],p⟩⟩
theorem aKj(W:World):W.grownBy W.drew none:=⟨rfl,rfl,rfl,tA _,fun _ _ _=>rfl⟩
theorem yR{w W:World}{b:Nat}{v:Value}(h:w.cell? ⟨b,0,none⟩=some v)(c:Below w.heap.size w W):W.cell? ⟨b,0,none⟩=some v:=
 (c.cell (p:=⟨b,0,none⟩) (cF w _ h)).trans h
theorem aHL(n c d g off m cap:Nat)(A:Option Addr)(r:0<m->A=some ⟨g,off,none⟩)(b:514*m<=cap)(s:m<=100000)(t:1<=n)(w:World)
 (f:w.cell? ⟨c,0,none⟩=some (.slice A (514*m) cap))(i:w.cell? ⟨d,0,none⟩=some (.int .i64 514)):
  SeqStopsK Fence.wide n prog 115 #[.pointer (some ⟨c,0,none⟩),.pointer (some ⟨d,0,none⟩)] (fun x:Fin m=>#[chV g off x.1]) (fJ c d) (fun k=>k=List.finRange m) (fun _=>True) m w:=fun l J o W j p _ q h0=>
 aMQ n l c d g off m cap A r b s t J o q (fun pre W h=>p pre W W.drew none h (aKj W) (by simp)) W (yR f j) (yR i j) h0
theorem aMR(A:Option Addr)(n c:Nat)(w:World):Calls prog 82 #[.slice A n c,.int .i64 514] w fun e w'=>
  e=.returned (.func (.func 115) #[] #[.pointer (some ⟨w.heap.size,0,none⟩),.pointer (some ⟨w.heap.size+1,0,none⟩)])/\w'=(w.alloc (.cells #[.slice A n c] 67)).alloc (.cells #[.int .i64 514] 3):=by
 refine gA fun R b=>?_
 go_enter func82,ntmps82
 go_wp2_with fail;exact b.o _ _ ⟨rfl,rfl⟩
end
section
open Go.RowKit Go.Shelf
def atC (b:List UInt8) (k:Nat):Nat:=zC ((b.drop (514*k)).take 2)
def pgC (b:List UInt8) (k:Nat):List UInt8:=(b.drop (514*k+2)).take 512
theorem aHM(b:List UInt8)(k:Nat):atC (b.drop 514) k=atC b (k+1):=by unfold atC;rw[List.drop_drop,show 514+514*k=514*(k+1) by omega]
theorem aOD(b:List UInt8)(k:Nat):pgC (b.drop 514) k=pgC b (k+1):=by unfold pgC;rw[List.drop_drop,show 514+(514*k+2)=514*(k+1)+2 by omega]
theorem gW{n:Nat}:∀(m:Nat) (b:List UInt8) (h H:PgM),b.length=514*m->kN n m b h=some H ->
  (∀k,k<m->atC b k<n)/\H=(List.range m).foldl (fun h k=>cO h (atC b k) (pgC b k)) h
 | 0,b,h,H,_,e=>⟨fun k d=>absurd d (by omega),by injection e with e;exact e.symm⟩
 | m+1,b,h,H,hl,e=>by
  have f:b≠[]:=fun h0=>by rw[h0]at hl;simp at hl
  unfold kN at e;rw[eA f]at e
  split at e
  ·cases e
  ·rename_i h1
   obtain⟨h2,h3⟩:=gW m (b.drop 514) _ H (by rw[mC];omega) e;have c:atC b 0=zC (b.take 2):=by unfold atC;simp
   have g:pgC b 0=(b.drop 2).take 512:=by unfold pgC;simp
   refine⟨fun k d=>?_,?_⟩
   ·cases k with
    | zero=>rw[c];omega
    | succ k=>rw[<- aHM];exact h2 k (by omega)
   ·rw[h3,List.range_succ_eq_map,List.foldl_cons,List.foldl_map,c,g];simp only[aHM,aOD]
def mU {m:Nat} (b:List UInt8) (h:PgM) (pre:List (Fin m)):PgM:=pre.foldl (fun h x=>cO h (atC b x.1) (pgC b x.1)) h
theorem aDg{m:Nat}(b:List UInt8)(h:PgM)(pre:List (Fin m))(x:Fin m):mU b h (pre++[x])=cO (mU b h pre) (atC b x.1) (pgC b x.1):=by simp[mU]
theorem aBe{m:Nat}(b:List UInt8)(h:PgM):∀k,k<=m->mU b h (nK m k)=(List.range k).foldl (fun h k=>cO h (atC b k) (pgC b k)) h
 | 0,_=>rfl
 | k+1,hk=>by rw[lU (by omega),aDg,aBe b h k (by omega),List.range_succ,gT];rfl
theorem aMS{m:Nat}(b:List UInt8)(h:PgM):mU b h (List.finRange m)=(List.range m).foldl (fun h k=>cO h (atC b k) (pgC b k)) h:=by
 rw[<- aBe b h m (tA _)];unfold nK;rw[zF (by simp)]
theorem aHN{n m:Nat}{b:List UInt8}{h:PgM}(g:b.length=514*m)(f:∀k,k<m->atC b k<n)(c:vG n h)(pre:List (Fin m)):vG n (mU b h pre):=by
 unfold mU
 induction pre generalizing h with
 | nil=>exact c
 | cons x pre d=>
  rw[List.foldl_cons];exact d (c.put (f x.1 x.2) (by have:=x.2;unfold pgC;rw[jC,mC];omega))
attribute [local go_sem] Oper.semAt_some
def RyRes (w:World) (g d lg bl bh:Nat) (s:PS) (fp:List Nat) (H:PgM) (e:Ending) (w':World):Prop:=
 e=.returned (.int .i64 0)/\fD w w' g d lg bl bh { s with held:=H } fp
theorem aOE{w:World}{g d lg y f:Nat}{s:PS}{v:Value}{b:List UInt8}{H:PgM}(h:yE w g d lg t y s L)(hv:cA w v b f)(e3:f≠y)(e':b.length<=4194304)(ht:aK s.n b s.held=some H):
  Calls prog 51 #[.pointer (some ⟨g,0,none⟩),v] w (RyRes w g d lg t y s L H):=by
 obtain⟨m,V⟩:∃m,b.length=514*m:=⟨b.length / 514,by
  unfold aK at ht
  split at ht
  ·cases ht
  ·omega⟩
 have a1:kN s.n m b s.held=some H:=by
  unfold aK at ht;rw[eA (by omega),V,Nat.mul_div_cancel_left _ (by omega)]at ht;exact ht
 obtain⟨c0,hH⟩:=gW m b _ _ V a1;rw[<- aMS (m:=m)]at hH;obtain⟨A,c,off,rfl,hc,X⟩:=hv;rw[V]at hc⊢;have HA:=lh h;have a5:=lh c0;have HH:=lh hH;have b1:=lh X;clear h c0 hH X ht a1;refine(nM (n:=5)).1 ?_;refine Go.callsIn_of_wp_marks func51 rfl trivial ?_ rfl;simp only[ntmps51,eT,gD,List.length_nil,Nat.reduceAdd,Nat.reduceSub,Array.replicate_succ,aAi,List.push_toArray,List.append_toArray,eH,zI]
 gi_wp2_with (refine⟨trivial,?_⟩;gi_at_call 82;refine(nM.2 (aMR A (514*m) c _)).mono ?_;rintro e w' ⟨rfl,rfl⟩)
 obtain⟨M,C⟩:=nm ((((w.alloc (.cells #[.pointer (some ⟨g,0,none⟩)] 31)).alloc (.cells #[.int .i64 0] 27)).alloc (.cells #[.slice A (514*m) c] 67)).alloc (.cells #[.int .i64 514] 3));have cP:Boxed M w.heap.size 31 (.pointer (some ⟨g,0,none⟩)):=by rw[C];exact(((Boxed.new w _ _).alloc _).alloc _).alloc _
 have cE:Boxed M (w.heap.size+1) 27 (.int .i64 0):=by rw[C];have:=(((Boxed.new (w.alloc (.cells #[.pointer (some ⟨g,0,none⟩)] 31)) 27 (.int .i64 0)).alloc (.cells #[.slice A (514*m) c] 67)).alloc (.cells #[.int .i64 514] 3));rwa [xC]at this
 have cB:Boxed M (w.heap.size+1+1) 67 (.slice A (514*m) c):=by rw[C];have:=((Boxed.new ((w.alloc (.cells #[.pointer (some ⟨g,0,none⟩)] 31)).alloc (.cells #[.int .i64 0] 27)) 67 (.slice A (514*m) c)).alloc (.cells #[.int .i64 514] 3));rwa [xC,xC]at this
 have cN:Boxed M (w.heap.size+1+1+1) 3 (.int .i64 514):=by rw[C];have:=(Boxed.new (((w.alloc (.cells #[.pointer (some ⟨g,0,none⟩)] 31)).alloc (.cells #[.int .i64 0] 27)).alloc (.cells #[.slice A (514*m) c] 67)) 3 (.int .i64 514));rwa [xC,xC,xC]at this
 have a6:Fr [] w M:=by rw[C];exact((((Fr.refl [] w).alloc _).alloc _).alloc _).alloc _
 have e5:M.heap.size=w.heap.size+1+1+1+1:=by rw[C];simp
 rw[<- C];clear C;have b2:=lh a6;have HP:=lh cP;have HE:=lh cE;have HB:=lh cB;have HN:=lh cN;have N:=lh (HA.o.fr a6);have e4:y<w.heap.size:=HA.o.held.lt;have c6:oE M y s.held:=N.o.held;clear a6 cP cE
 refine wpIn_rangeFunc_ownG (F:=Fence.wide) (n:=5) rfl (by omega) (gf:=115) (lb:=#[.pointer (some ⟨w.heap.size+1+1,0,none⟩),.pointer (some ⟨w.heap.size+1+1+1,0,none⟩)]) rfl trivial (Go.Proofs.enters_of func115 (by kernel_rfl) rfl)
  (aHL 4 (w.heap.size+1+1) (w.heap.size+1+1+1) f off m c A (fun h=>(b1.o (by omega)).1) hc (by omega) (by omega) M cB.cell cN.cell) fJ.trans ?kb (Below.refl _ _) (fun _=>rfl)
  (fun pre W=>oE W y (mU b s.held pre)/\Fr [y] M W) (fun _ _ _=>False) ?oi (fun _ _ _ _ _ hs _ _=>hs) ⟨c6,Fr.refl _ _⟩
  (fun x=>{ tmps:=#[.pointer (some ⟨g,0,none⟩),.slice A (514*m) c,.pointer (some ⟨w.heap.size,0,none⟩),undef,.pointer (some ⟨w.heap.size+1,0,none⟩),chV f off x.1,undef,.slice A (514*m) c,.int .i64 (514*(m:Int)),.int .i64 0,.bool false,.slice A (514*m) c,
   .func (.func 115) #[] #[.pointer (some ⟨w.heap.size+1+1,0,none⟩),.pointer (some ⟨w.heap.size+1+1+1,0,none⟩)],chV f off x.1,undef,undef,undef,undef,undef,undef,undef,undef,undef,undef,undef,undef,undef,undef,undef,undef,undef,undef,undef,undef,undef,undef,undef,undef,undef],defers:=[] }) ?assign ?body ?done ?stop
 case kb=>
  intro W l o o' hl ho _ _
  have h1:∀b,b<M.heap.size->(W.putObj l o').cell? ⟨b,0,none⟩=W.cell? ⟨b,0,none⟩:=fun b hb=>by
   unfold World.cell?;rw[Go.World.putObj_heap_other (show b≠l by omega)]
  exact⟨h1 _ (by omega),h1 _ (by omega)⟩
 case oi=>
  intro s' W W' row hs hg hr;have J:Fr row.toList W W':=(Fr.refl row.toList W).grown hg (fun r e=>.inl (by simp[e]));refine⟨hs.1.fr J (fun V=>?_),hs.2.grown hg (fun r e=>.inr (hr r e).1)⟩;have:=(hr y (by simpa using V)).1;omega
 case assign=>
  intro l x W K hK
  gi_wp2
  exact hK
 case stop=>
  rintro D c pre W _ _ h _;exact h.elim
 case done=>
  rintro D ys W hD rfl ⟨I,J⟩ hK;have hE:Boxed W (w.heap.size+1) 27 (.int .i64 0):=(J.block _ (by omega) (by simp only[aB];omega)).trans HE.o;have ce:=hE.cell;have fe:=hE.frozen;have HM:=lh I;have HF:=lh J;clear I J
  gi_wp2
  have b3:=(KeepsOthers.setCell W ⟨w.heap.size+1,0,none⟩ (.int .i64 0)).same D _ hK rfl;refine⟨by simp,.inl ⟨_,_,rfl,run_takeDeferred b3,?_⟩⟩;have c7:=cell_kept (World.cell?_setCell_same' W ⟨w.heap.size+1,0,none⟩ (.int .i64 0) (by rw[ce];rfl)) (Go.grownBy_putObj' _ D (.deferred none)) (fun r e=>by cases e;exact⟨_,b3,rfl⟩);have O:=HA.o.lt;have c8:=N.o.held_ HM.o HF.o (aHN V a5.o N.o.hok _);have b4:Fr [w.heap.size+1] W (W.setCell ⟨w.heap.size+1,0,none⟩ (.int .i64 0)):=(Fr.refl _ _).setCell (.inl (by simp)) _;have b5:Fr [D] (W.setCell ⟨w.heap.size+1,0,none⟩ (.int .i64 0)) ((W.setCell ⟨w.heap.size+1,0,none⟩ (.int .i64 0)).putObj D (.deferred none)):=(Fr.refl [D] _).grown (Go.grownBy_putObj' _ D _) (fun r e=>by cases e;exact .inl (by simp));have c9:=(c8.fr b4 (fun k hk V=>by have:=O k hk;simp only[aB]at V;omega)).fr b5 (fun k hk V=>by have:=O k hk;simp only[aB]at V;omega)
  have c':Fr (pfp g lg t y L) w ((W.setCell ⟨w.heap.size+1,0,none⟩ (.int .i64 0)).putObj D (.deferred none)):=
   (((b2.o.mono (T:=pfp g lg t y L) (by simp)).trans HF.o (fun x G=>.inl (by simp only[aB]at G;simp[pfp,G]))).trans b4 (fun x G=>.inr (by simp only[aB]at G;omega))).trans b5 (fun x G=>.inr (by simp only[aB]at G;omega))
  refine⟨.int .i64 0,?_,rfl,L,by rw[HH.o];exact c9,c',fun _ hk=>.inl hk⟩
  simp[results,f51,go_sem,c7]
 case body=>
  rintro l pre x W ⟨I,J⟩ e8;unfold chV;have d0:=x.2;obtain⟨e1,b0⟩:=b1.o (by omega)
  have d1:f<w.heap.size:=by
   obtain⟨u,E⟩:∃u,(fA b)[0]? = some u:=gx (by rw[kA];omega);exact cF w _ (b0 0 u E)
  have a7:Fr [y] w W:=(b2.o.mono (T:=[y]) (by simp)).trans J (fun x G=>.inl G)
  have Y:∀(j:Nat) (u:Value),(fA b)[j]? = some u->W.cell? ⟨f,off+j,none⟩=some u:=fun j u E=>by
   rw[a7.cell (by exact d1) (by simpa using e3)];exact b0 j u E
  obtain⟨u,E⟩:∃u,b[514*x.1]? = some u:=gx (by omega);obtain⟨v,hv⟩:∃v,b[514*x.1+1]? = some v:=gx (by omega);have cu:W.cell? ⟨f,off+514*x.1,none⟩=some (.int .u8 (u.toNat:Int)):=Y _ _ (by simp[fA,E,B8])
  have cv:W.cell? ⟨f,off+514*x.1+1,none⟩=some (.int .u8 (v.toNat:Int)):=by
   have:=Y (514*x.1+1) _ (by simp only[fA,zH,hv];rfl);rw[<- rT]at this;exact this
  have a2:atC b x.1=u.toNat*256+v.toNat:=by
   unfold atC
   have e:(b.drop (514*x.1)).take 2=[u,v]:=by
    obtain⟨h1,h2⟩:=tD.1 E;obtain⟨h3,h4⟩:=tD.1 hv;rw[zM h1,List.take_succ_cons,zM h3,List.take_succ_cons,xT,h2,h4]
   rw[e]
   simp[zC]
  have d2:u.toNat<256:=u.toNat_lt;have d3:v.toNat<256:=v.toNat_lt;have a8:=aJM u.toNat v.toNat d2 d3;rw[<- a2]at a8;have d4:=a5.o x.1 d0;have Z:yE W g d lg t y { s with held:=mU b s.held pre } L:=N.o.held_ I J (aHN V a5.o N.o.hok _);have b6:=lh a8;have HM:=lh I;have HF:=lh J;have d5:=lh Y;have d6:=lh Z;have e6:=lh a7;have hP:Boxed W w.heap.size 31 (.pointer (some ⟨g,0,none⟩)):=(J.block _ (by omega) (by simp only[aB];omega)).trans HP.o;have cP:=hP.cell;have c2:=Z.blk.at_ (i:=2) rfl;have c5:=Z.blk.at_ (i:=5) rfl;have e7:=J.size;clear a8 I J Y Z a7 hP E hv a2 b0 e1
  gi_wp2
  refine fO (fun W=>W.cell? ⟨f,off+514*x.1,none⟩=some (.int .u8 (u.toNat:Int))/\W.cell? ⟨f,off+514*x.1+1,none⟩=some (.int .u8 (v.toNat:Int))) [0,1,2,3,4,5,6,7,8,9] (by kernel_rfl) (by kernel_rfl) (fun _ _ h=>h) ?_;refine tks [0,1,2,3,4,5,6,7,8,9] ?_
  iterate 10 (refine tk rfl rfl ⟨cu,cv⟩ rfl (fun _ hW=>by(obtain⟨e2,a'⟩:=hW;go_simp)<;>with_reducible rfl) ?_;simp only[nrm])
  refine tke ?_;refine sp 10 rfl rfl rfl fun K hK=>?_;refine nA (v:=?aq1_10) ?yq1_10 (hK _ _ (fun h=>absurd h (by decide +kernel)) ?_)
  case yq1_10=>go_simp<;>with_reducible rfl
  simp only[nrm];refine wd ?_ _;have y1:IntKind.i64.wrap (u.toNat:Int)=(u.toNat:Int):=by rw[iD];omega
  have y2:IntKind.i64.wrap ((u.toNat:Int)*256)=(u.toNat:Int)*256:=by rw[iD];omega
  have y3:IntKind.i64.wrap (v.toNat:Int)=(v.toNat:Int):=by rw[iD];omega
  rw[y1,y2,y3,b6.o];have a9:Fr [] W W.drew:=(Fr.refl [] W).drew;have Q:W.drew.cell? ⟨w.heap.size,0,none⟩=some (.pointer (some ⟨g,0,none⟩)):=cP;have a':W.drew.cell? ⟨g,2,none⟩=some (.int .i64 (s.n:Int)):=c2;have S:W.drew.cell? ⟨g,5,none⟩=some (.map (some y)):=c5;have a3:∀(j:Nat) (u:Value),(fA b)[j]? = some u->W.drew.cell? ⟨f,off+j,none⟩=some u:=d5.o;have z:=lh a3;have d7:¬((s.n:Int)<=((atC b x.1:Nat):Int)):=by omega
  obtain⟨k,hk⟩:=nm (atC b x.1);rw[<- hk]at d7 d4⊢;have HK:=lh hk;have a4:=d6.o.fr a9;have B:=lh a4;clear a3 y1 y2 y3 b6 cP c2 c5 cu cv hk a4;obtain⟨Wd,c1⟩:=nm (W.drew);rw[<- c1]at a9 Q a' S z B⊢;clear c1;have a0:=aH Go.Proofs.Tryz.underlying67 bL (some ⟨f,off+514*x.1,none⟩) 514 514 2 .i64 (by omega);rw[eA (by omega)]at a0;simp only[yP,Go.Addr.add_mid,Nat.reduceSub]at a0;have b7:∀W,(Instr.sliceAt 67 (.slice (some ⟨f,off+514*x.1,none⟩) 514 514) (some (.int .i64 2)) none none).run prog W=.ok (.slice (some ⟨f,off+514*x.1+2,none⟩) 512 512) W:=a0;have d8:∀W,(Instr.arrayAt 127 (.slice (some ⟨f,off+514*x.1+2,none⟩) 512 512)).run prog W=.ok (.pointer (some ⟨f,off+514*x.1+2,none⟩)) W:=fun W=>run_arrayAt (P:=prog) W _ _ _ _ _ _ Go.Proofs.Tryz.underlying127 (tA _);have O:(pgC b x.1).length=512:=by unfold pgC;rw[jC,mC];omega
  have b8:∀W:World,(∀(j:Nat) (u:Value),(fA b)[j]? = some u->W.cell? ⟨f,off+j,none⟩=some u)->W.rangeAt f (off+514*x.1+2) (fA (pgC b x.1)):=fun W hW j u E=>by
   unfold pgC at E;rw[pM,bJ,xG]at E
   split at E
   ·rw[xJ]at E;have:=hW _ _ E;rw[show off+514*x.1+2+j=off+(514*x.1+2+j) by omega];exact this
   ·cases E
  have d9:=lh b8;have b9:=lh O;clear a0 b8 O
  gi_wp2
  refine fO (fun W=>W.cell? ⟨w.heap.size,0,none⟩=some (.pointer (some ⟨g,0,none⟩))/\W.cell? ⟨g,5,none⟩=some (.map (some y))/\∀(j:Nat) (u:Value),(fA b)[j]? = some u->W.cell? ⟨f,off+j,none⟩=some u) [0,1,2,3,4,5,6,7,8] (by kernel_rfl) (by kernel_rfl) (fun _ _ h=>h) ?_;refine tks [0,1,2,3,4,5] ?_
  iterate 6 (refine tk rfl rfl ⟨Q,S,z.o⟩ rfl (fun _ hW=>by(obtain⟨e2,a',e9⟩:=hW;go_simp)<;>with_reducible rfl) ?_;simp only[nrm])
  refine tke ?_;refine tv 6 (.slice (some ⟨f,off+514*x.1+2,none⟩) 512 512) rfl rfl ⟨Q,S,z.o⟩ (.inl ⟨rfl,fun W _=>mG rfl rfl rfl rfl (b7 W)⟩) ?_;simp only[nrm];refine tv 7 (.pointer (some ⟨f,off+514*x.1+2,none⟩)) rfl rfl ⟨Q,S,z.o⟩ (.inl ⟨rfl,fun W _=>by simp[execOp,Act.eval,d8,Result.andThen]⟩) ?_;simp only[nrm];refine tv 8 (.agg (fA (pgC b x.1)).toArray) rfl rfl ⟨Q,S,z.o⟩ (Go.yieldsIf_load_mid rfl 127 (.tmp 37) rfl f (off+514*x.1+2) rfl (fA (pgC b x.1)) _ (fun W hW=>d9.o W hW.2.2) Go.Proofs.Tryz.underlying127 rfl (by rw[kA,b9.o];exact xR)) ?_;simp only[nrm];refine xA (j:=9) none rfl rfl (by kernel_rfl) rfl fun K hK=>?_;have b':Fr [] Wd Wd.drew:=(Fr.refl [] Wd).drew;have d':(mU b s.held pre).length<9223372036854775807:=by have:=B.o.hok.few;have:=B.o.few;simp only at *;omega
  have e0:k<=9223372036854775807:=by have:=B.o.few;simp only at *;omega
  obtain⟨w9,hr,c3,c4,_⟩:=(B.o.held.fr b').store e0 d' b9.o;unfold fI at hr;refine pB (w':=w9) (by simp[execOp,Act.eval,hr,Result.andThen]) (hK _ _ (fun h=>absurd h (by decide +kernel)) ?_);simp only[Act.put];refine wd ?_ _;have U:Fr [y] W w9:=((a9.mono (T:=[y]) (by simp)).trans (b'.mono (T:=[y]) (by simp)) (fun x G=>.inl G)).trans c4 (fun x G=>.inl G)
  have hX:ownPostG M.heap.size (fJ (w.heap.size+1+1) (w.heap.size+1+1+1)) (fun pre W=>oE W y (mU b s.held pre)/\Fr [y] M W) (fun _ _ _=>False) (pre++[x]) W .normal { tmps:=#[],defers:=[] } w9:=
   ⟨⟨U.size,fun q o hB hq _=>(U.block q (uI.1 hq).1 (by simp only[aB];omega)).trans hq⟩,
    ⟨U.cell (p:=⟨w.heap.size+1+1,0,none⟩) (show w.heap.size+1+1<W.heap.size by omega) (by simp only[aB];omega),U.cell (p:=⟨w.heap.size+1+1+1,0,none⟩) (show w.heap.size+1+1+1<W.heap.size by omega) (by simp only[aB];omega)⟩,
    by rw[aDg,<- HK.o];exact c3,HF.o.trans U (fun x G=>.inl G)⟩
  clear hK hr c3 c4
  gi_wp2
  exact hX
end
section
open Go.RowKit
theorem uY{st:eC}:∀(L:List (List UInt8)) (k:Nat) (b:List UInt8),nC st k L=some b->b.length<=48*L.length
 | [],_,b,h=>by injection h with h;subst h;simp
 | s::L,k,b,h=>by
  unfold nC at h
  split at h
  ·cases h
  ·rename_i q f
   split at h
   ·obtain⟨c,d,rfl⟩:=Option.map_eq_some_iff.1 h;have h1:=uY L (k+1) c d;have h2:=eV f;simp only[lB,gD];omega
   ·cases h
theorem aGu{L:List (List UInt8)}{x:eC×List UInt8}(h:bB L=some x):x.2.length<=48*L.length:=by
 unfold bB at h
 split at h
 ·cases h
 ·rename_i s T
  split at h
  ·cases h
  ·rename_i p d
   split at h
   ·cases h
   ·obtain⟨b,c,rfl⟩:=Option.map_eq_some_iff.1 h;have:=uY _ _ _ c;rw[jC]at this
    show b.length<=_
    omega
theorem aBf:∀(n:Nat) (last:Option eC) (L:List (List UInt8)),∀x∈rA n last L,x.2.length<=48*L.length
 | 0,_,_,x,h=>by simp[rA]at h
 | n+1,last,L,x,h=>by
  unfold rA at h
  split at h
  ·cases h
  ·rename_i st b d
   have c:x∈(st,b)::rA n (some st) (L.drop st.count):=by
    cases last with
    | none=>simpa using h
    | some l=>
     simp only at h
     split at h
     ·cases h
     ·exact h
   rcases kB.1 c with rfl|c
   ·exact aGu d
   ·have:=aBf n _ _ x c;rw[mC]at this;omega
theorem aMT{D:DM}{log:Nat}(b:D.dead=false)(c:D.P=[])(d:log<=D.S.length):D.part 0 log=D.S.take log:=(aOw b c).view (by rw[jC];omega)
def aRt (w:World) (d n log:Nat) (D:DM) (H:PgM) (fp:List Nat) (e:Ending) (w':World):Prop:=
 ∃g lg bl bh fp',e=.returned (.tuple #[.pointer (some ⟨g,0,none⟩),.int .i64 0])/\yE w' g d lg bl bh (gG n log D H) fp'/\Fr fp w w'/\(∀k∈fp',k∈fp∨w.heap.size<=k)/\w.heap.size<=g/\w.heap.size<=lg/\w.heap.size<=bl/\w.heap.size<=bh
theorem aRN{w:World}{d n log:Nat}{D:DM}{H:PgM}(X:fF w d D L)(i:D.dead=false)(A:D.P=[])(h1:1<=n)(h2:n<=4096)(h3:1<=log)(d3:log+8*n<=D.S.length)(B:(tB (D.S.take log)).1<4294967295)(ht:iF n ((rA log none (D.S.take log)).map (·.2)) []=some H):
  Calls prog 27 #[.pointer (some ⟨d,0,none⟩),.int .i64 (n:Int),.int .i64 (log:Int)] w (aRt w d n log D H L):=by
 refine gA fun R HQ=>?_;have c:=aMT i A (by omega:log<=D.S.length);have c1:=(fF.ok X).most;have Y:aOo D 0 log=mY log (D.S.take log):=by unfold aOo aOn mY;rw[c];rfl
 have p:=lh (aOp (D:=D) (f:=0) (n:=log) (by omega) (by rw[c];exact B));rw[Y]at p;have HJ:=lh (aQo (f:=0) X i h3 (by omega) (by rw[c];exact B));rw[c]at HJ;have HD:=lh X;have Z:=lh (aLj X);have c2:=lh (aGj X);have HT:=lh ht
 have C:∀x∈(rA log none (D.S.take log)).map (·.2),x.length<=4194304:=fun x m=>by
  obtain⟨y,hy,rfl⟩:=cI.1 m;have:=aBf _ _ _ y hy;rw[jC]at this;omega
 have a0:=lh C;rw[i]at Z;have y1:IntKind.i64.wrap (8*(n:Int))=8*(n:Int):=by rw[iD];omega
 have y2:IntKind.i64.wrap ((D.S.length:Int)-8*(n:Int))=(D.S.length:Int)-8*(n:Int):=by rw[iD];omega
 clear X i A ht C c B Y;have d4:=@run_makeMap prog;have e1:decide ((n:Int)<1)=false:=by simp;omega
 have e2:decide ((4096:Int)<(n:Int))=false:=by simp;omega
 have e3:decide ((log:Int)<1)=false:=by simp;omega
 have e4:decide ((D.S.length:Int)-8*(n:Int)<(log:Int))=false:=by simp;omega
 go_enter func27,ntmps27
 go_wp2_with fail;refine Z.o.mono ?_;rintro e w' ⟨rfl,rfl⟩;go_wp2_with fail;refine c2.o.mono ?_;rintro e w' ⟨rfl,rfl⟩;go_wp2_with fail;refine HJ.o.mono ?_;rintro e b ⟨out,rfl,⟨vs,j⟩,t,F⟩;obtain⟨oA,oc,rfl,c8,c9⟩:=sA j.own;unfold maxLen at c9;have a1:=HD.o.fr F;have d2:=t.lt;have d5:=F.size;have g:=lh j;have a2:=lh t;have c3:=lh F;have a3:=lh a1;obtain⟨rows,b2⟩:=nm ((rA log none (D.S.take log)).map (·.2));rw[<- b2]at g HT a0 c8⊢;clear j t F a1 HJ b2;go_wp2_with fail;have q:Fr [] b (((b.alloc (.map #[] 0)).alloc (.map #[] 0)).alloc (.cells (uJ d w.heap.size b.heap.size (b.heap.size+1) (gG n log D [])).toArray 85)):=(((Fr.refl [] b).alloc _).alloc _).alloc _
 have a4:oE (((b.alloc (.map #[] 0)).alloc (.map #[] 0)).alloc (.cells (uJ d w.heap.size b.heap.size (b.heap.size+1) (gG n log D [])).toArray 85)) b.heap.size []:=
  (oE.new b).fr (((Fr.refl [] _).alloc _).alloc _)
 have a5:oE (((b.alloc (.map #[] 0)).alloc (.map #[] 0)).alloc (.cells (uJ d w.heap.size b.heap.size (b.heap.size+1) (gG n log D [])).toArray 85)) (b.heap.size+1) []:=by
  have:=(oE.new (b.alloc (.map #[] 0))).fr ((Fr.refl [] _).alloc (.cells (uJ d w.heap.size b.heap.size (b.heap.size+1) (gG n log D [])).toArray 85))
  rwa [xC]at this
 have a6:Blk (((b.alloc (.map #[] 0)).alloc (.map #[] 0)).alloc (.cells (uJ d w.heap.size b.heap.size (b.heap.size+1) (gG n log D [])).toArray 85)) (b.heap.size+1+1) 85 (uJ d w.heap.size b.heap.size (b.heap.size+1) (gG n log D [])):=by
  have:=Blk.new ((b.alloc (.map #[] 0)).alloc (.map #[] 0)) 85 (uJ d w.heap.size b.heap.size (b.heap.size+1) (gG n log D []))
  rwa [xC,xC]at this
 have d6:(((b.alloc (.map #[] 0)).alloc (.map #[] 0)).alloc (.cells (uJ d w.heap.size b.heap.size (b.heap.size+1) (gG n log D [])).toArray 85)).heap.size=b.heap.size+1+1+1:=by simp
 show Code.wp _ _ _ _ (((b.alloc (.map #[] 0)).alloc (.map #[] 0)).alloc (.cells (uJ d w.heap.size b.heap.size (b.heap.size+1) (gG n log D [])).toArray 85))
 generalize ((b.alloc (.map #[] 0)).alloc (.map #[] 0)).alloc (.cells (uJ d w.heap.size b.heap.size (b.heap.size+1) (gG n log D [])).toArray 85)=w3 at *;have E:=a3.o.lt;have I:=HD.o.lt
 have a7:yE w3 (b.heap.size+1+1) d w.heap.size b.heap.size (b.heap.size+1) (gG n log D []) L:=
  ⟨a6,⟨a2.o.fr q,a3.o.fr q,fun G=>by have:=I _ G;omega,p.o.at_,p.o.fit,p.o.num,p.o.ses⟩,a4,a5,by omega,fun G=>by have:=E _ G;omega,fun G=>by have:=E _ G;omega,fun G=>by have:=E _ G;omega,vG.nil _,vG.nil _,h2⟩
 have c4:=g.o.fr q;have c5:=lh a7;have a8:=lh q
 have r:∀x∈pfp (b.heap.size+1+1) w.heap.size b.heap.size (b.heap.size+1) L,x<w.heap.size+1∨b.heap.size<=x:=fun x m=>by
  simp only[pfp,kB]at m;rcases m with rfl|rfl|rfl|rfl|m
  ·omega
  ·omega
  ·omega
  ·omega
  ·have:=I _ m;omega
 have a9:=lh r;clear q a4 a5 a6 a7 c4 E r;go_wp2_with fail
 go_loopw [58] (fun v58 wr=>∃(k:Nat) (Q:PgM),k<=rows.length/\v58=.int .i64 (k:Int)/\iF n (rows.drop k) Q=some H/\fD w3 wr (b.heap.size+1+1) d w.heap.size b.heap.size (b.heap.size+1) (gG n log D Q) L) (fun v _=>rows.length-(intOf v).toNat)
 case atStart=>exact⟨0,[],rB _,rfl,HT.o,fD.same c5.o⟩
 case round=>
  obtain⟨k,Q,hk,rfl,b3,c',b4,b5,b6⟩:=hrel;have a':=lh b4;have N:=lh b5;have b0:=lh b6;have b1:=lh b3;clear b4 b5 b6 b3
  by_cases c0:k<rows.length
  ·have s:Fr (pfp (b.heap.size+1+1) w.heap.size b.heap.size (b.heap.size+1) L) b wr:=(a8.o.mono (by simp)).trans N.o (fun x m=>.inl m);have O:=g.o.fr s a9.o;obtain⟨ga,d0,z⟩:=tE O.own (by omega);obtain⟨u,hu⟩:∃u,vs[k]? = some u:=gx (by rw[O.len];exact c0);obtain⟨bs,U⟩:=gx (l:=rows) c0;obtain⟨gb,V,d1,b7,_⟩:=g.o.row k u bs hu U;have J:=V.fr s (fun G=>by have:=a9.o gb G;omega);obtain⟨uA,uc,uo,rfl,_⟩:=id V;have cu:=z k _ hu
   obtain⟨W,b8,b9⟩:∃W,aK n bs Q=some W/\iF n (rows.drop (k+1)) W=some H:=by
    have h:=b1.o;obtain⟨h3,h4⟩:=tD.1 U;rw[zM h3,h4]at h;unfold iF at h
    cases hq:aK n bs Q with
    | none=>rw[hq]at h;cases h
    | some W=>rw[hq]at h;exact⟨W,rfl,h⟩
   have c6:=lh (aOE a'.o J (by omega) (a0.o bs (rG U)) b8);have c7:=lh b9;obtain⟨rl,C⟩:=nm (rows.length);subst d0;clear s O z hu V d1 b7 J b8 b9 C;go_wp2_with fail;refine c6.o.mono ?_;rintro e w5 ⟨rfl,b'⟩;have HX:Hid (fD w3 w5 (b.heap.size+1+1) d w.heap.size b.heap.size (b.heap.size+1) (gG n log D W) L):=lh (fD.comp N.o b0.o b');clear b' cu;go_wp2_with fail
   go_roundw
   case rel=>exact⟨k+1,W,by omega,by go_num,c7.o,HX.o⟩
   case measure=>simp[intOf];omega
  ·obtain rfl:k=rows.length:=by omega
   have hH:Q=H:=by
    have:=b1.o;rw[nP (tA _)]at this;injection this
   subst hH
   have HX:Hid (aRt w d n log D Q L (.returned (.tuple #[.pointer (some ⟨b.heap.size+1+1,0,none⟩),.int .i64 0])) wr):=lh (by
    have M:Fr [] w w3:=c3.o.trans a8.o;refine⟨_,_,_,_,c',rfl,a'.o,(M.mono (T:=L) (by simp)).trans N.o (fun x m=>?_),fun x m=>?_,by omega,tA _,by omega,by omega⟩
    ·simp only[pfp,kB]at m;rcases m with rfl|rfl|rfl|rfl|m
     ·exact .inr (by omega)
     ·exact .inr (by omega)
     ·exact .inr (by omega)
     ·exact .inr (by omega)
     ·exact .inl m
    ·rcases b0.o x m with h|h
     ·exact .inl h
     ·exact .inr (by have:=M.size;omega))
   go_wp2_with fail;exact HQ.o _ _ HX.o
def PgX (w0 w:World) (d g:Nat) (s:PS) (X:Nat->Prop):Prop:=∃lg bl bh fp,yE w g d lg bl bh s fp/\(∀k∈pfp g lg bl bh fp,w0.heap.size<=k/\¬ X k)/\Fr [] w0 w/\∀k,X k->k<w.heap.size
section
variable {w0 w w' : World} {d g : Nat} {s s' : PS} {X Y : Nat -> Prop}
theorem PgX.step{lg:Nat}(h2:∀k∈pfp g lg n i L,w0.heap.size<=k/\¬ X k)(h3:Fr [] w0 w)(o:∀k,X k->k<w.heap.size)(q:fD w w' g d lg n i s' L):PgX w0 w' d g s' X/\Kp X w w':=by
 obtain⟨j,h1,m,p⟩:=q;have r:=h3.size;have f:=m.size;refine⟨⟨lg,n,i,j,h1,fun k b=>?_,h3.trans m (fun x c=>.inr (h2 x c).1),fun k b=>pO (o k b) f⟩,_,m,fun x c=>(h2 x c).2⟩;simp only[pfp,kB]at b;rcases b with rfl|rfl|rfl|rfl|b
 ·exact h2 _ (by simp[pfp])
 ·exact h2 _ (by simp[pfp])
 ·exact h2 _ (by simp[pfp])
 ·exact h2 _ (by simp[pfp])
 ·rcases p k b with h|h
  ·exact h2 k (by simp[pfp,h])
  ·exact⟨by omega,fun c=>by have:=o k c;omega⟩
theorem PgX.fr(h:PgX w0 w d g s X)(f:Fr [] w w'):PgX w0 w' d g s (fun k=>X k∨w.heap.size<=k/\k<w'.heap.size):=by
 obtain⟨lg,i,j,m,h1,h2,h3,n⟩:=h;have o:=f.size;refine⟨lg,i,j,m,h1.fr f,fun k c=>⟨(h2 k c).1,?_⟩,h3.trans f,?_⟩
 ·rintro(b|b)
  ·exact(h2 k c).2 b
  ·have:=h1.lt k c;omega
 ·rintro k (b|b)
  ·have:=n k b;omega
  ·exact b.2
theorem PgX.weak(h:PgX w0 w d g s X)(c:∀k,Y k->X k):PgX w0 w d g s Y:=by
 obtain⟨lg,f,i,j,h1,h2,h3,m⟩:=h;exact⟨lg,f,i,j,h1,fun k b=>⟨(h2 k b).1,fun n=>(h2 k b).2 (c k n)⟩,h3,fun k b=>m k (c k b)⟩
theorem PgX.stay(h:PgX w0 w d g s X)(c:Fr [] w w'):PgX w0 w' d g s X:=(h.fr c).weak fun _ b=>.inl b
theorem PgX.frame(h:PgX w0 w d g s X):Fr [] w0 w:=by obtain⟨_,_,_,_,_,_,h,_⟩:=h;exact h
theorem PgX.other{S:List Nat}(h:PgX w0 w d g s X)(c:Fr S w w')(p:∀x∈S,X x)(h0:∀x∈S,w0.heap.size<=x):PgX w0 w' d g s X:=by
 obtain⟨lg,f,i,j,h1,h2,h3,m⟩:=h;exact⟨lg,f,i,j,h1.fr c (fun k b n=>(h2 k b).2 (p k n)),h2,h3.trans c (fun x o=>.inr (h0 x o)),fun k b=>pO (m k b) c.size⟩
theorem PgX.disk(h:PgX w0 w d g s X):DkX w0 w d s.D X:=by
 obtain⟨lg,i,j,b,h1,h2,h3,c⟩:=h;exact⟨b,h1.jn.disk,fun k f=>h2 k (by simp[pfp,f]),h3,c⟩
theorem aOF{n log:Nat}{D:DM}{H:PgM}(h:DkX w0 w d D X)(c:D.dead=false)(f:D.P=[])(h1:1<=n)(h2:n<=4096)(h3:1<=log)(j:log+8*n<=D.S.length)(m:(tB (D.S.take log)).1<4294967295)(ht:iF n ((rA log none (D.S.take log)).map (·.2)) []=some H):
  Calls prog 27 #[.pointer (some ⟨d,0,none⟩),.int .i64 (n:Int),.int .i64 (log:Int)] w fun e w'=>∃g,e=.returned (.tuple #[.pointer (some ⟨g,0,none⟩),.int .i64 0])/\PgX w0 w' d g (gG n log D H) X/\Kp X w w':=by
 obtain⟨y,z,p,t,u⟩:=h;refine(aRN z c f h1 h2 h3 j m ht).mono ?_;rintro e w' ⟨g,lg,A,B,q,C,E,r,F,k1,k2,G,I⟩;have J:=t.size;have o:=r.size;have new:∀k,w.heap.size<=k->w0.heap.size<=k/\¬ X k:=fun k b=>⟨by omega,fun i=>by have:=u k i;omega⟩;refine⟨g,C,⟨lg,A,B,q,E,fun k b=>?_,t.trans r (fun x i=>.inr (p x i).1),fun k b=>pO (u k b) o⟩,y,r,fun x i=>(p x i).2⟩;simp only[pfp,kB]at b;rcases b with rfl|rfl|rfl|rfl|b
 ·exact new _ k1
 ·exact new _ k2
 ·exact new _ G
 ·exact new _ I
 ·rcases F k b with h|h
  ·exact p k h
  ·exact new k h
theorem aGv(h:PgX w0 w d g s X)(c:s.br=false)(k:Nat)(o:k<s.n)(v:Value)(b:List UInt8)(f:Nat)(p:cA w v b f)(q:b.length<=512):
  Calls prog 150 #[.pointer (some ⟨g,0,none⟩),.int .i64 (k:Int),v] w fun e w'=>e=.returned (.int .i64 0)/\PgX w0 w' d g (s.write k b) X/\Kp X w w':=by
 obtain⟨lg,r,t,u,h1,h2,h3,i⟩:=h;exact(aQv h1 c k o v b f p q).mono fun e w' ⟨j,m⟩=>⟨j,PgX.step h2 h3 i m⟩
theorem aOG(h:PgX w0 w d g s X)(b:s.D.done+400000<1099511627776):
  Calls prog 35 #[.pointer (some ⟨g,0,none⟩)] w fun e w'=>e=.returned (.int .i64 s.commit.2)/\PgX w0 w' d g s.commit.1 X/\Kp X w w':=by
 obtain⟨lg,j,k,m,h1,h2,h3,c⟩:=h;exact(aOC h1 b).mono fun e w' ⟨f,i⟩=>⟨f,PgX.step h2 h3 c i⟩
theorem aLy(h:PgX w0 w d g s X)(b:s.D.done+200000<1099511627776):
  Calls prog 15 #[.pointer (some ⟨g,0,none⟩)] w fun e w'=>e=.returned (.int .i64 s.check.2)/\PgX w0 w' d g s.check.1 X/\Kp X w w':=by
 obtain⟨lg,j,k,m,h1,h2,h3,c⟩:=h;exact(aLw h1 b).mono fun e w' ⟨f,i⟩=>⟨f,PgX.step h2 h3 c i⟩
theorem aKk(h:PgX w0 w d g s X):
  Calls prog 33 #[.pointer (some ⟨g,0,none⟩)] w fun e w'=>e=.returned (.tuple #[])/\PgX w0 w' d g { s with late:=[] } X/\Kp X w w':=by
 obtain⟨lg,i,j,k,h1,h2,h3,b⟩:=h;exact(aJY h1).mono fun e w' ⟨c,f⟩=>⟨c,PgX.step h2 h3 b f⟩
theorem aKl(h:PgX w0 w d g s X)(b:s.br=false)(c:aAG s)(k:Nat)(f:k<s.n):Calls prog 94 #[.pointer (some ⟨g,0,none⟩),.int .i64 (k:Int)] w (aLx w (s.page k)):=by
 obtain⟨lg,i,j,m,h1,_⟩:=h;exact aRM h1 b c k f
end
theorem zE.free{c:Nat}{s:PS}{C:Nat->List UInt8}(h:zE c s C)(q:c+4<4294967296)(g:s.D.limit = -1)(d:514*s.late.length+48<=48*s.l.n)(i:2<=s.l.n):
  s.commit.2=0/\zE (c+3) s.commit.1 (aEq C s.late)/\s.commit.1.late=[]/\s.commit.1.n=s.n/\s.commit.1.l.n=s.l.n/\s.commit.1.D.limit = -1:=by
 have h1:=h.late.few;have h2:=eO h.late.mem;have h3:=h.fit;have r:=h.ok.most;rcases h.committed q with ⟨j,k,b,m,o,p⟩|⟨_,_,_,_,_,_,f⟩|⟨_,_,b,_⟩
 ·exact⟨j,k,b,m,o,p g⟩
 ·unfold pA at f
  split at f<;>omega
 ·exact absurd g b

open Go.RowKit

open Go.RowKit
end
section
abbrev Ky:=List UInt8
def klt (a b:Ky):Prop:=Lib.compareBytes a b<0
instance (a b:Ky):Decidable (klt a b):=by unfold klt;infer_instance
theorem aMU:∀a b:Ky,Lib.compareBytes a b = -1∨Lib.compareBytes a b=0∨Lib.compareBytes a b=1
 | [],[]=>.inr (.inl rfl)
 | [],_::_=>.inl rfl
 | _::_,[]=>.inr (.inr rfl)
 | a::u,b::bs=>by
  unfold Lib.compareBytes
  split
  ·exact .inl rfl
  ·split
   ·exact .inr (.inr rfl)
   ·exact aMU u bs
theorem aHO:∀ {a b:Ky},Lib.compareBytes a b=0->a=b
 | [],[],_=>rfl
 | [],_::_,h=>by cases h
 | _::_,[],h=>by cases h
 | a::u,b::bs,h=>by
  unfold Lib.compareBytes at h
  split at h
  ·cases h
  ·split at h
   ·cases h
   ·rename_i h1 h2
    have e:a=b:=UInt8.le_antisymm (UInt8.not_lt.1 h2) (UInt8.not_lt.1 h1);rw[e,aHO h]
theorem aHP:∀a:Ky,Lib.compareBytes a a=0
 | []=>rfl
 | a::u=>by
  unfold Lib.compareBytes;rw[eA (UInt8.lt_irrefl a),eA (UInt8.lt_irrefl a)];exact aHP u
theorem aDh:∀a b:Ky,Lib.compareBytes b a = - Lib.compareBytes a b
 | [],[]=>rfl
 | [],_::_=>rfl
 | _::_,[]=>rfl
 | a::u,b::bs=>by
  have c:=aDh u bs;unfold Lib.compareBytes
  by_cases h1:a<b
  ·have h2:¬ b<a:=fun h=>UInt8.lt_irrefl a (UInt8.lt_trans h1 h);rw[eA h2,iA h1,iA h1];rfl
  ·by_cases h2:b<a
   ·rw[iA h2,eA h1,iA h2]
   ·rw[eA h2,eA h1,eA h1,eA h2];exact c
theorem zB(a:Ky):¬ klt a a:=by unfold klt;rw[aHP];decide
theorem vD:∀ {a b c:Ky},klt a b->klt b c->klt a c
 | [],[],_,h,_=>absurd h (zB _)
 | _::_,[],_,h,_=>by unfold klt Lib.compareBytes at h;cases h
 | [],_::_,[],_,h=>by unfold klt Lib.compareBytes at h;cases h
 | [],_::_,_::_,_,_=>by unfold klt Lib.compareBytes;decide
 | _::_,_::_,[],_,h=>by unfold klt Lib.compareBytes at h;cases h
 | a::u,b::bs,c::cs,h1,h2=>by
  have g:=@vD u bs cs;unfold klt Lib.compareBytes at h1 h2⊢;unfold klt at g;have L:∀x y:UInt8,x<y↔x.toNat<y.toNat:=fun x y=>UInt8.lt_iff_toNat_lt;simp only[L]at h1 h2⊢
  by_cases j:a.toNat<b.toNat
  ·by_cases f:b.toNat<c.toNat
   ·rw[iA (by omega)];decide
   ·rw[eA f]at h2
    by_cases d:c.toNat<b.toNat
    ·rw[iA d]at h2;cases h2
    ·rw[iA (by omega)];decide
  ·rw[eA j]at h1
   by_cases i:b.toNat<a.toNat
   ·rw[iA i]at h1;cases h1
   ·rw[eA i]at h1
    by_cases f:b.toNat<c.toNat
    ·rw[iA (by omega)];decide
    ·rw[eA f]at h2
     by_cases d:c.toNat<b.toNat
     ·rw[iA d]at h2;cases h2
     ·rw[eA d]at h2;rw[eA (by omega),eA (by omega)];exact g h1 h2
theorem kQ{a b:Ky}(h:klt a b):¬ klt b a:=fun h2=>zB a (vD h h2)
theorem wO{a b:Ky}(h1:¬ klt a b)(h2:¬ klt b a):a=b:=by
 have h:=aDh a b;unfold klt at h1 h2;exact aHO (by omega)
theorem aAH{a b c:Ky}(h1:¬ klt b a)(h2:klt b c):klt a c:=by
 by_cases h:klt a b
 ·exact vD h h2
 ·rw[wO h h1];exact h2
theorem jV{a b c:Ky}(h1:klt a b)(h2:¬ klt c b):klt a c:=by
 by_cases h:klt b c
 ·exact vD h1 h
 ·rw[<- wO h h2];exact h1
theorem aMV{a b c:Ky}(h1:¬ klt b a)(h2:¬ klt c b):¬ klt c a:=fun h=>h1 (aAH h2 h)
def zR (lo:Option Ky) (k:Ky):Prop:=∀a,lo=some a->¬ klt k a
def lQ (hi:Option Ky) (k:Ky):Prop:=∀b,hi=some b->klt k b
structure It where
 key:Ky
 v:List UInt8
 at_:Nat
structure Nd where
 lf:Bool
 first:Nat
 l:List It
def b16 (n:Nat):List UInt8:=[UInt8.ofNat (n / 256),UInt8.ofNat n]
def ib (lf:Bool) (x:It):List UInt8:=if lf then [UInt8.ofNat x.key.length,UInt8.ofNat x.v.length]++x.key++x.v else [UInt8.ofNat x.key.length]++x.key++b16 x.at_
def Nd.head (n:Nd):List UInt8:=(if n.lf then 1 else 2)::(b16 n.l.length++if n.lf then [] else b16 n.first)
def Nd.written (n:Nd):List UInt8:=n.head++n.l.flatMap (ib n.lf)
def ibn (lf:Bool) (x:It):Nat:=if lf then 2+x.key.length+x.v.length else 3+x.key.length
def Nd.size (n:Nd):Nat:=(if n.lf then 3 else 5)+(n.l.map (ibn n.lf)).sum
theorem aRO(lf:Bool)(x:It):(ib lf x).length=ibn lf x:=by unfold ib ibn b16;split<;>simp<;>omega
theorem aGw(lf:Bool):∀l:List It,(l.flatMap (ib lf)).length=(l.map (ibn lf)).sum
 | []=>rfl
 | x::l=>by rw[nH,lB,aRO,aGw lf l];rfl
theorem Nd.head_len(n:Nd):n.head.length=if n.lf then 3 else 5:=by unfold Nd.head b16;cases n.lf<;>simp
theorem Nd.written_len(n:Nd):n.written.length=n.size:=by
 unfold Nd.written Nd.size;rw[lB,aGw,n.head_len]
structure It.ok (lf:Bool) (x:It):Prop where
 k1:1<=x.key.length
 k2:x.key.length<=96
 v:x.v.length<=64
 at_:x.at_<65536
 bare:if lf then x.at_=0 else x.v=[]
structure Nd.ok (n:Nd):Prop where
 few:n.l.length<65536
 item:∀x∈n.l,x.ok n.lf
 first:n.first<65536
 bare:n.lf=true->n.first=0
def r16 (b:List UInt8):Nat:=(b.getD 0 0).toNat*256+(b.getD 1 0).toNat
theorem oG{n:Nat}(h:n<65536)(r:List UInt8):r16 (b16 n++r)=n:=by
 show(UInt8.ofNat (n / 256)).toNat*256+(UInt8.ofNat n).toNat=n
 rw[yN,yN];omega
def aDi (lf:Bool):Nat->List UInt8->List It
 | 0,_=>[]
 | k+1,b=>
  if lf then ⟨(b.drop 2).take (b.getD 0 0).toNat,(b.drop (2+(b.getD 0 0).toNat)).take (b.getD 1 0).toNat,0⟩::aDi lf k (b.drop (2+(b.getD 0 0).toNat+(b.getD 1 0).toNat))
  else ⟨(b.drop 1).take (b.getD 0 0).toNat,[],r16 (b.drop (1+(b.getD 0 0).toNat))⟩::aDi lf k (b.drop (3+(b.getD 0 0).toNat))
theorem aOH(lf:Bool):∀(l:List It) (r:List UInt8),(∀x∈l,x.ok lf)->aDi lf l.length (l.flatMap (ib lf)++r)=l
 | [],_,_=>rfl
 | x::l,r,h=>by
  have d:=h x (sB ..);have f:=aOH lf l r (fun y m=>h y (uC _ m));have g:(UInt8.ofNat x.key.length).toNat=x.key.length:=by rw[yN];have:=d.k2;omega
  have j:(UInt8.ofNat x.v.length).toNat=x.v.length:=by rw[yN];have:=d.v;omega
  have b:=d.bare;rw[nH,qF,gD];generalize l.flatMap (ib lf)++r=q at f⊢;obtain⟨key,v,at_⟩:=x
  simp only at g j b
  cases lf with
  | true=>
   rw[iA rfl]at b;have e:ib true ⟨key,v,at_⟩++q=UInt8.ofNat key.length::UInt8.ofNat v.length::(key++(v++q)):=by simp[ib]
   rw[e];unfold aDi;rw[iA rfl];have g0:∀z:List UInt8,(UInt8.ofNat key.length::z).getD 0 0=UInt8.ofNat key.length:=fun _=>rfl;have k:∀(y:UInt8) (z:List UInt8),(y::UInt8.ofNat v.length::z).getD 1 0=UInt8.ofNat v.length:=fun _ _=>rfl;rw[g0,k,g,j]
   have c:(UInt8.ofNat key.length::UInt8.ofNat v.length::(key++(v++q))).drop (2+key.length)=v++q:=by
    rw[show 2+key.length=key.length+1+1 by omega,List.drop_succ_cons,List.drop_succ_cons,aN]
   have i:(UInt8.ofNat key.length::UInt8.ofNat v.length::(key++(v++q))).drop (2+key.length+v.length)=q:=by
    rw[<- List.drop_drop,c,aN]
   rw[c,i,f,show(UInt8.ofNat key.length::UInt8.ofNat v.length::(key++(v++q))).drop 2=key++(v++q) from rfl,rK,rK,b]
  | false=>
   rw[eA (by decide)]at b;have e:ib false ⟨key,v,at_⟩++q=UInt8.ofNat key.length::(key++(b16 at_++q)):=by simp[ib]
   rw[e];unfold aDi;rw[eA (by decide)];have g0:∀z:List UInt8,(UInt8.ofNat key.length::z).getD 0 0=UInt8.ofNat key.length:=fun _=>rfl;rw[g0,g]
   have c:(UInt8.ofNat key.length::(key++(b16 at_++q))).drop (1+key.length)=b16 at_++q:=by
    rw[show 1+key.length=key.length+1 by omega,List.drop_succ_cons,aN]
   have i:(UInt8.ofNat key.length::(key++(b16 at_++q))).drop (3+key.length)=q:=by
    rw[show 3+key.length=(1+key.length)+2 by omega,<- List.drop_drop,c];rfl
   rw[c,i,f,oG d.at_,show(UInt8.ofNat key.length::(key++(b16 at_++q))).drop 1=key++(b16 at_++q) from rfl,rK,b]
def aHQ (b:List UInt8):Nd:=
 if b.getD 0 0=1 then ⟨true,0,aDi true (r16 (b.drop 1)) (b.drop 3)⟩ else ⟨false,r16 (b.drop 3),aDi false (r16 (b.drop 1)) (b.drop 5)⟩
theorem rd_nd{n:Nd}(h:n.ok)(r:List UInt8):aHQ (n.written++r)=n:=by
 have hi:=aOH n.lf n.l r h.item;obtain⟨lf,first,l⟩:=n;unfold Nd.written;rw[qF]
 simp only at hi⊢
 generalize l.flatMap (ib lf)++r=q at hi⊢
 cases lf with
 | true=>
  have f:=h.bare rfl
  simp only at f
  have e:Nd.head ⟨true,first,l⟩++q=1::(b16 l.length++q):=by unfold Nd.head;simp
  have b:(1::(b16 l.length++q)).getD 0 0=(1:UInt8):=rfl;have c:(1::(b16 l.length++q)).drop 1=b16 l.length++q:=rfl;have d:(1::(b16 l.length++q)).drop 3=q:=rfl;rw[e];unfold aHQ;rw[b,iA rfl,c,d,oG h.few,hi,f]
 | false=>
  have e:Nd.head ⟨false,first,l⟩++q=2::(b16 l.length++(b16 first++q)):=by unfold Nd.head;simp
  have b:(2::(b16 l.length++(b16 first++q))).getD 0 0=(2:UInt8):=rfl;have c:(2::(b16 l.length++(b16 first++q))).drop 1=b16 l.length++(b16 first++q):=rfl;have d:(2::(b16 l.length++(b16 first++q))).drop 3=b16 first++q:=rfl;have g:(2::(b16 l.length++(b16 first++q))).drop 5=q:=rfl;rw[e];unfold aHQ;rw[b,eA (by decide),c,d,g,oG h.few,oG h.first,hi]
open Classical in
noncomputable def aMW (b:List UInt8):Option Nd:=if (aHQ b).ok/\b=jH (aHQ b).written/\(aHQ b).size<=512 then some (aHQ b) else none
theorem aQw{n:Nd}(h:n.ok)(b:n.size<=512):aMW (jH n.written)=some n:=by
 have e:aHQ (jH n.written)=n:=rd_nd h _;unfold aMW;rw[e,iA ⟨h,rfl,b⟩]
theorem aHR{b:List UInt8}{n:Nd}(h:aMW b=some n):n.ok/\b=jH n.written/\n.size<=512:=by
 unfold aMW at h
 split at h
 ·rename_i h1
  injection h with h;rw[<- h];exact h1
 ·cases h
section
variable {α : Type}
def tV (x:Nat×α):List (Nat×α)->List (Nat×α)
 | []=>[x]
 | y::m=>if x.1<y.1 then x::y::m else y::tV x m
def vY (m:List (Nat×α)) (k:Nat) (b:α):List (Nat×α):=tV (k,b) (m.filter fun p=>!decide (p.1=k))
def xF (m:List (Nat×α)) (k:Nat):Option α:=(m.find? fun p=>decide (p.1=k)).map (·.2)
def aAI (m:List (Nat×α)) (k:Nat):List (Nat×α):=m.filter fun p=>!decide (p.1=k)
theorem aHS(x:Nat×α)(k:Nat):∀m:List (Nat×α),(∀p∈m,p.1≠x.1)->xF (tV x m) k=if k=x.1 then some x.2 else xF m k
 | [],_=>by
  unfold tV xF
  by_cases h:x.1=k
  ·rw[uT (by simpa using h),iA h.symm];rfl
  ·rw[uN (by simpa using h),eA (fun e=>h e.symm)]
 | y::m,hm=>by
  have b:=aHS x k m (fun p d=>hm p (uC _ d));have c:=hm y (sB ..);unfold tV
  split
  ·unfold xF
   by_cases h:x.1=k
   ·rw[uT (by simpa using h),iA h.symm];rfl
   ·rw[uN (by simpa using h),eA (fun e=>h e.symm)]
  ·unfold xF at b⊢
   by_cases h:y.1=k
   ·rw[uT (by simpa using h),uT (by simpa using h),eA (fun e=>c (by rw[h,e]))]
   ·rw[uN (by simpa using h),uN (by simpa using h)];exact b
theorem nU(m:List (Nat×α))(k j:Nat):xF (aAI m k) j=if j=k then none else xF m j:=by
 unfold xF aAI
 induction m with
 | nil=>by_cases h:j=k<;>simp[h]
 | cons p m c=>
  by_cases b:p.1=k
  ·rw[List.filter_cons_of_neg (by simpa using b),c]
   by_cases h:j=k
   ·rw[iA h,iA h]
   ·rw[eA h,eA h,uN (by simp;omega)]
  ·rw[List.filter_cons_of_pos (by simpa using b)]
   by_cases h1:p.1=j
   ·rw[uT (by simpa using h1),uT (by simpa using h1),eA (by omega)]
   ·rw[uN (by simpa using h1),uN (by simpa using h1)];exact c
theorem wY(m:List (Nat×α))(k j:Nat)(b:α):xF (vY m k b) j=if j=k then some b else xF m j:=by
 unfold vY;rw[aHS (k,b) j _ (fun p c=>by simpa using(wI.1 c).2)]
 by_cases h:j=k
 ·rw[iA h,iA h]
 ·rw[eA h,eA h];have:=nU m k j;rw[eA h]at this;exact this
theorem aHT(k:Nat):xF ([]:List (Nat×α)) k=none:=rfl
def gI (m:List (Nat×α)):Prop:=m.Pairwise fun p q=>p.1<q.1
theorem aDj{x y:Nat×α}:∀ {m:List (Nat×α)},y∈tV x m↔y=x∨y∈m
 | []=>by simp[tV]
 | z::m=>by
  unfold tV
  split
  ·simp
  ·rw[kB,aDj,kB]
   constructor
   ·rintro(h|h|h)
    ·exact .inr (.inl h)
    ·exact .inl h
    ·exact .inr (.inr h)
   ·rintro(h|h|h)
    ·exact .inr (.inl h)
    ·exact .inl h
    ·exact .inr (.inr h)
theorem gI.ins{x:Nat×α}:∀ {m:List (Nat×α)},gI m->(∀p∈m,p.1≠x.1)->gI (tV x m)
 | [],_,_=>by simp[tV,gI]
 | y::m,h,hx=>by
  obtain⟨h1,h2⟩:=xE.1 h;have d:=hx y (sB ..);unfold tV
  split
  ·rename_i c
   refine xE.2 ⟨fun p b=>?_,h⟩;rcases kB.1 b with rfl|b
   ·exact c
   ·have:=h1 p b;omega
  ·refine xE.2 ⟨fun p b=>?_,gI.ins h2 (fun p b=>hx p (uC _ b))⟩;rcases aDj.1 b with rfl|b
   ·omega
   ·exact h1 p b
theorem gI.del{m:List (Nat×α)}(h:gI m)(k:Nat):gI (aAI m k):=List.Pairwise.filter _ h
theorem gI.put{m:List (Nat×α)}(h:gI m)(k:Nat)(b:α):gI (vY m k b):=(h.del k).ins fun p c=>by simpa using(wI.1 c).2
theorem xY{m:List (Nat×α)}{k:Nat}{b:α}(h:xF m k=some b):(k,b)∈m:=by
 unfold xF at h;obtain⟨p,c,rfl⟩:=Option.map_eq_some_iff.1 h;have h1:=List.find?_some c;have h2:=List.mem_of_find?_eq_some c;simp only[yI]at h1;rw[<- h1];exact h2
end
end
end Go.Proofs.YtebjhcjbfaaejaaGreatDoor
