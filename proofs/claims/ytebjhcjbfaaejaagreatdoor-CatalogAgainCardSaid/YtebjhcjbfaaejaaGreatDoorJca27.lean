/-
  Joined: CatR CatS CatT CatU CatV
-/
import Derived.Test.YtebjhcjbfaaejaaGreatDoorJca26
set_option maxRecDepth 100000
set_option maxHeartbeats 32000000
namespace Go.Proofs.YtebjhcjbfaaejaaGreatDoor
open Go.Proofs.Tryz
variable {k:Nat}{w':World}{α:Type}
section
open Go.RowKit
section
variable {F : Fence} {n : Nat} {P : Program}
def aPQ {α:Type} (B:Nat) (Kp:World->World->Prop) (I:List α->World->Prop) (xs:List α) (W:World):Exit->Act->World->Prop
 | .normal,_,W'=>yS B W W'/\Kp W W'/\I xs W'
 | .ret,_,_=>False
 | .exit _,_,_=>False
 | .goto _,_,_=>False
 | .panic _,_,_=>False
 | .outgrown,_,_=>False
theorem yV {α:Type} {g:Operand} {ps:Array Tmp} {assign body:Code} {Q:Exit -> Act -> World -> Prop} {a:Act} {w:World}
  (hro:F.round=none) (h1:1<=n) {gf:Nat} {lb:Array Value} (hg:a.eval g=.func (.func gf) #[] lb) (hFg:F.fn gf) (eg:∀ args w,(callFunc gf args).run P w=.ok (.enter gf args) w)
  {encs:α -> Array Value} {Kp:World -> World -> Prop} {S:List α -> Prop} {T:List α -> α -> Prop} {N Bb:Nat} (hBb:Bb < w.heap.size)
  (hseq:∀ (l:Nat) (J:List α -> World -> Prop) (W:World),Fr [] w W -> (∀ pre W W',J pre W -> Fr [Bb] W W' -> J pre W') ->
   (∀ pre x W1,T pre x -> J pre W1 -> pre.length < N -> YieldAt F (n - 1 - 1) P l (encs x) W1 fun e W'=>e=.returned (.bool true)/\J (pre ++ [x]) W'/\Kp W1 W') ->
   J [] W -> CallsIn F (n - 1) P gf (#[.func (.yield l) #[] #[]] ++ lb) W fun e W'=>(∃ v,e=.returned v)/\∃ xs,S xs/\J xs W')
  (hKt:∀ {A B C:World},Kp A B -> Kp B C -> Kp A C) (hKb:∀ (W:World) (l:Nat) (o o':Obj),w.heap.size<=l -> W.heap[l]? = some o -> o.isCells=false -> Kp W (W.putObj l o')) (hps:∀ x,(encs x).size=ps.size)
  (I:List α -> World -> Prop) (hI:AbJ w.heap.size I) (hIB:∀ pre W W',I pre W -> Fr [Bb] W W' -> I pre W') (h0:I [] w)
  (M:List α -> α -> Act -> World -> Prop) (hM:∀ pre x a1 W o o',M pre x a1 W -> W.heap[w.heap.size+1]? = some o -> o.isCells=false -> M pre x a1 (W.putObj (w.heap.size+1) o'))
  (hassign:∀ (l:Nat) (pre:List α) (x:α) (W:World) (K:Act -> World -> Prop),w.heap.size+2<=W.heap.size -> T pre x -> I pre W -> pre.length < N -> (∀ a1 W1,yS w.heap.size W W1 -> Kp W W1 -> M pre x a1 W1 -> K a1 W1) ->
   assign.wpIn (F.inRound l) (n - 1 - 1) P (Exit.then K (fun _ _ _=>False)) { tmps:=(ps.zip (encs x)).foldl (fun t (p,v)=>t.setIfInBounds p v) a.tmps,defers:=[] } W)
  (hbody:∀ (l:Nat) (pre:List α) (x:α) (a1:Act) (W:World),w.heap.size+2<=W.heap.size -> T pre x -> M pre x a1 W -> pre.length < N -> body.wpIn (F.inRound l) (n - 1 - 1) P (aPQ w.heap.size Kp I (pre ++ [x]) W) a1 W)
  (hdone:∀ (xs:List α) (W:World),w.heap.size+2<=W.heap.size -> S xs -> I xs W -> W.heap[w.heap.size]? = some (.deferred (some [])) -> Q .normal { a with defers:={ target:=.collected w.heap.size,args:=#[] } :: a.defers } W):
  (Code.rangeFunc g ps assign body).wpIn F n P Q a w:=by
 refine wpIn_rangeFunc ?_;intro fn hfn;rw[hro];obtain⟨rec,hrec⟩:∃ rec:LoopState -> Option Code -> Loop,rec=fun st pe=>{ state:=st,pending:=pe,fn,tmps:=a.tmps,params:=ps,assign,body,defers:=w.heap.size }:=⟨_,rfl⟩;obtain⟨W1,hW1⟩:∃ W1,(w.alloc (.deferred (some []))).alloc (.loop (rec .ready none))=W1:=⟨_,rfl⟩
 have hL1:W1.heap[w.heap.size+1]? = some (.loop (rec .ready none)):=by
  rw[<- hW1];have:=Go.World.alloc_heap_new (w.alloc (.deferred (some []))) (.loop (rec .ready none));rwa [xC] at this
 have hK1:W1.heap[w.heap.size]? = some (.deferred (some [])):=by
  rw[<- hW1];exact(Go.RowKit.Below.heap_alloc _ _ _ (by simp)).trans (Go.World.alloc_heap_new w _)
 have hI1:I [] W1:=by rw[<- hW1];exact hI.alloc _ _ _ (hI.alloc _ _ _ h0 (.inl rfl)) (.inr (by simp))
 have hb1:Fr [] w W1:=by rw[<- hW1];exact((Fr.refl [] w).alloc _).alloc _
 refine⟨w.heap.size+1,[{ target:=.collected w.heap.size,args:=#[] }],W1,{ target:=.fn (.func gf) lb,args:=#[.func (.yield (w.heap.size+1)) #[] #[]] },W1,gf,
  #[.func (.yield (w.heap.size+1)) #[] #[]] ++ lb,W1,?_,?_,?_,?_,fun _=>h1,?_⟩
 ·rw[<- hW1,hrec];exact run_enterLoop_outer _ _ _ _ _
 ·simp only[resolve,hg]
  simp[go_sem]
 ·intro f' hf';simp[Target.leads] at hf';subst hf';exact hFg
 ·simp[invoke,go_sem,eg]
 ·refine(hseq (w.heap.size+1)
   (fun pre W=>I pre W/\W.heap[w.heap.size+1]? = some (.loop (rec .ready none))/\W.heap[w.heap.size]? = some (.deferred (some [])))
   W1 hb1 (fun s A B hs hf=>⟨hIB _ _ _ hs.1 hf,by
    have h1:=(uI.1 hs.2.1).1;rw[hf.block _ h1 (by simp;omega)];exact hs.2.1,by
    have h1:=(uI.1 hs.2.2).1;rw[hf.block _ h1 (by simp;omega)];exact hs.2.2⟩) ?_ ⟨hI1,hL1,hK1⟩).mono ?_
  ·rintro pre x W hT ⟨hi,hl,hk⟩ hlen;have hy:=run_yield (P:=P) (args:=encs x) hl (by rw[hrec];exact hps x);rw[hrec] at hy;refine⟨fn,_,assign,body,hy,roundIn_of_wpIn hfn (hassign _ pre x W _ (aAq (uI.1 hl).1) hT hi hlen fun a1 W0 hk0 hkp0 hm0=>?_)⟩;have hl0:W0.heap[w.heap.size+1]? = some (.loop (rec .ready none)):=hk0.2.2.trans hl;have hd0:W0.heap[w.heap.size]? = some (.deferred (some [])):=hk0.2.1.trans hk;have hlt:w.heap.size+1 < W0.heap.size:=(uI.1 hl0).1;refine⟨_,run_beginRound hl0 (by rw[hrec]),?_⟩;have hl2:(W0.putObj (w.heap.size+1) (.loop { rec .ready none with state:=.busy })).heap[w.heap.size+1]? = some (.loop { rec .ready none with state:=.busy }):=Go.World.putObj_heap_same hlt;have hk2:(W0.putObj (w.heap.size+1) (.loop { rec .ready none with state:=.busy })).heap[w.heap.size]? = some (.deferred (some [])):=(Go.World.putObj_heap_other (by omega)).trans hd0;have hw2:Kp W (W0.putObj (w.heap.size+1) (.loop { rec .ready none with state:=.busy })):=hKt hkp0 (hKb _ _ _ _ (by omega) hl0 rfl);refine wpIn_mono (hbody _ pre x a1 _ (aAq (uI.1 hl2).1) hT (hM _ _ _ _ _ _ hm0 hl0 rfl) hlen) ?_;rintro e a3 W3 hp
   cases e with
   | normal=>
    obtain⟨hk3,hkp3,hi3⟩:=hp;have hl3:=hk3.2.2.trans hl2;have hr:=run_endRound (P:=P) none hl3;rw[hrec] at hr hl3;exact⟨_,_,hr,rfl,⟨hI.put _ _ _ _ hi3 hl3 rfl,(Go.World.putObj_heap_same (uI.1 hl3).1).trans (by rw[hrec];rfl),(Go.World.putObj_heap_other (by omega)).trans (hk3.2.1.trans hk2)⟩,hKt (hKt hw2 hkp3) (hKb _ _ _ _ (by omega) hl3 rfl)⟩
   | ret=>exact hp.elim
   | exit id=>exact hp.elim
   | goto t=>exact hp.elim
   | panic ch=>exact hp.elim
   | outgrown=>exact hp.elim
  ·rintro e W2 ⟨⟨v,rfl⟩,xs,hS,hi,hl,hk⟩;exact⟨none,_,by have:=run_endLoop (P:=P) hl (by rw[hrec];simp);rw[hrec] at this;exact this,hdone xs _ (aAq (uI.1 (Go.World.putObj_heap_same (uI.1 hl).1)).1) hS (hI.put _ _ _ _ hi hl rfl) ((Go.World.putObj_heap_other (by omega)).trans hk)⟩
end
section
variable {P : Program} {ops : Array Oper} {Q : Exit -> Act -> World -> Prop} {n l : Nat}
theorem oO(f:∀a w,¬Q .outgrown a w):∀(L:List Oper),(∀o∈L,∀c,o.op≠.defer c)->∀a w,wpList P ops Q L a w->wpListIn (Fence.wide.inRound l) n P ops Q L a w
 | [],_,_,_,h=>h
 | o::L,hd,a,w,h=>by
  unfold wpList at h;unfold wpListIn
  split
  ·rename_i b
   rw[iA b]at h;rcases h with h|⟨_,g,w',h⟩
   ·exact aDe (hd o (sB ..)) (Oper.wp_mono (fun a w h=>oO f L (fun p d=>hd p (uC _ d)) a w h) h)
   ·exact absurd h (f _ _)
  ·rename_i b
   rw[eA b]at h;exact⟨fun _ _=>trivial,oO f L (fun p d=>hd p (uC _ d)) _ _ h⟩
theorem aAY{L:List Oper}{a:Act}{w:World}(c:sY L.toArray=true)(d:∀a w,¬Q .outgrown a w)(h:wpList P L.toArray Q L a w):(Code.region k L.toArray false).wpIn (Fence.wide.inRound l) n P Q a w:=
 wpIn_region_lit (oO d L (fun o b=>by
  obtain⟨i,hi⟩:=List.getElem?_of_mem b;exact tY c (i:=i) (by simpa using hi)) _ _ h)
end
end
section
open Go.RowKit Go.Shelf
attribute [local go_sem] Oper.semAt_some
theorem aNH{w:World}{q off n c:Nat}(p:Pt){rest:List UInt8}(b:p.ok)(h:BAt w q off (p.bytes++rest))(d:n=(p.bytes++rest).length)(g:n<=c)(f:n<=1000000):
  Calls prog 104 #[.slice (some ⟨q,off,none⟩) n c] w (zU p q rest w):=
 match p,b,h,d with
 | .str s,b,h,d=>aNF s b.1 h d g f
 | .num m,b,h,d=>aNG m b h d g f
def aPR (W:World) (b:Nat):Nat:=match W.cell? ⟨b,0,none⟩ with|some (.slice _ n _)=>n|_=>0
def KpB (B q:Nat) (W W':World):Prop:=W.heap.size<=W'.heap.size/\W'.heap[B]? = W.heap[B]? /\ W'.heap[q]? = W.heap[q]?
theorem aIX(p:Pt):∃(b:Int) (c:ByteArray) (d:Int),p.vals=[.int .i64 b,.bool false,.bool false,.string { data:=#[] },.int .i64 0,.string c,.int .i64 d]:=by
 cases p with
 | str s=>exact⟨_,_,_,rfl⟩
 | num m=>exact⟨_,_,_,rfl⟩
theorem aPS(p:Pt):0<p.bytes.length:=by cases p<;>exact Nat.succ_pos _
theorem aPT(n l Bb q:Nat)(P:List Pt)(b1:∀p∈P,p.ok)(Z:(aD P).length<=1000000)(hn:1<=n)(b4:q≠Bb)(J:List Pt->World->Prop)
 (hJ:∀pre W D,J pre W->Fr [Bb] W D->J pre D)
 (hY:∀pre (x:Pt) W,(pre=P.take pre.length/\P[pre.length]? = some x)->J pre W->pre.length<P.length->YieldAt Fence.wide (n-1) prog l #[.agg x.vals.toArray,.bool true] W fun e D=>e=.returned (.bool true)/\J (pre++[x]) D/\KpB Bb q W D)
 (W:World){off c:Nat}(hb:Blk W Bb 67 [.slice (some ⟨q,off,none⟩) (aD P).length c])(hc:(aD P).length<=c)(hB:BAt W q off (aD P))(h0:J [] W):
  CallsIn Fence.wide n prog 103 #[.func (.yield l) #[] #[],.pointer (some ⟨Bb,0,none⟩)] W fun e D=>(∃v,e=.returned v)/\∃ys,ys=P/\J ys D:=by
 have a2:=lh b1;have a3:=lh Z;refine callsIn_of_wp func103 rfl trivial ?_ rfl;simp only[ntmps103,eT,gD,List.length_nil,Nat.reduceAdd,Nat.reduceSub,Array.replicate_succ,aAi,List.push_toArray,List.append_toArray,eH,zI]
 gi_wp2
 gi_loopw [4] (fun v4 wr=>∃k off c,k<=P.length/\J (P.take k) wr/\Blk wr Bb 67 [.slice (some ⟨q,off,none⟩) (aD (P.drop k)).length c]/\(aD (P.drop k)).length<=c/\BAt wr q off (aD (P.drop k)))
  (fun _ W=>aPR W Bb)
 case atStart=>exact⟨0,off,c,rB _,h0,hb,hc,hB⟩
 case round=>
  obtain⟨k,O,c1,hk,A,f,B,C⟩:=hrel;clear hb hc hB h0
  by_cases s:k<P.length
  ·obtain⟨p,Q⟩:=gx (l:=P) s;have E:=a2.o p (rG Q)
   have h:aD (P.drop k)=p.bytes++aD (P.drop (k+1)):=by
    rw[zM s];have:P[k]=p:=by rw[xD s]at Q;exact fG Q
    rw[this]
    rfl
   have u:(aD (P.drop k)).length<=1000000:=by
    have h1:aD P=aD (P.take k)++aD (P.drop k):=by unfold aD;rw[<- qP,bN]
    have h2:=congrArg List.length h1;rw[lB]at h2;have:=a3.o;omega
   obtain⟨rest,g⟩:∃rest,aD (P.drop (k+1))=rest:=⟨_,rfl⟩;rw[g]at h;rw[h]at f B C u;obtain⟨a0,a5,a6,hv⟩:=aIX p;have j:=aNH p E C rfl B u;unfold zU at j;rw[hv]at j;have F:=lh j;have HV:=lh hv;clear j hv;obtain⟨nn,r⟩:∃nn,(p.bytes++rest).length=nn:=⟨_,rfl⟩;rw[r]at f B F;have a4:=lh r
   have b6:(0:Int)<(nn:Int):=by have h1:=aPS p;have h2:nn=p.bytes.length+rest.length:=(by rw[<- r,lB]);omega
   have cb:=f.at_ (i:=0) rfl;have zb:=f.free;have G:=lh f;have a7:=lh A;have y:=lh g;have HP:=lh Q;have b7:=lh h;clear f A g Q h E u r C
   gi_wp2_with (refine⟨trivial,?_⟩;gi_at_call 104;refine(nM.2 F.o).mono ?_;rintro e S ⟨d,c3,rfl,T,U,V⟩)
   have H:Fr [] wr (S.alloc (.cells #[.int .i64 a0,.bool false,.bool false,.string { data:=#[] },.int .i64 0,.string a5,.int .i64 a6] 107)):=V.trans ((Fr.refl [] S).alloc _);have I:BAt (S.alloc (.cells #[.int .i64 a0,.bool false,.bool false,.string { data:=#[] },.int .i64 0,.string a5,.int .i64 a6] 107)) q d rest:=U.fr ((Fr.refl [] S).alloc _);have L:=lh H;have a8:=lh I;have a9:=lh T;clear H I T U V cb zb;generalize S.alloc (.cells #[.int .i64 a0,.bool false,.bool false,.string { data:=#[] },.int .i64 0,.string a5,.int .i64 a6] 107)=w4 at *;have m:(P.take k).length=k:=by rw[jC];omega
   obtain⟨fn,tmps,a1,b5,hy,hR⟩:=hY (P.take k) p w4 ⟨by rw[m],by rw[m];exact HP.o⟩ (hJ _ _ _ a7.o (L.o.mono (by simp))) (by rw[m];exact s);rw[HV.o]at hy;have b8:∀W:World,(binOp .eql 67 (.slice (some ⟨q,d,none⟩) rest.length c3) (.slice none 0 0)).run prog W=.ok (.bool false) W:=fun W=>by kernel_rfl
   clear m;rw[hy]
   gi_wp2
   refine hR.mono ?_;rintro e w5 ⟨rfl,b0,b9,X,Y⟩;have z:Hid (Blk w5 Bb 67 [.slice (some ⟨q,O,none⟩) nn c1]):=lh (X.trans (G.o.fr L.o));have zb:=z.o.free;have cb:=z.o.at_ (i:=0) rfl
   gi_wp2
   have M:Fr [Bb] w5 (w5.setCell ⟨Bb,0,none⟩ (.slice (some ⟨q,d,none⟩) rest.length c3)):=(Fr.refl _ _).setCell (.inl (by simp)) _;have t:=z.o.set_ 0 (.slice (some ⟨q,d,none⟩) rest.length c3);have a':P.take (k+1)=P.take k++[p]:=by rw[oM,HP.o];rfl
   refine⟨⟨k+1,d,c3,by omega,?_,?_,?_,?_⟩,?_⟩
   ·rw[a'];exact hJ _ _ _ b0 M
   ·rw[y.o];exact t
   ·rw[y.o];exact a9.o
   ·rw[y.o];intro i b hb;have h1:=a8.o i b hb;have h2:w5.cell? ⟨q,d+i,none⟩=some (.int .u8 (b.toNat:Int)):=(World.cell?_of_block (w:=w4) Y).trans h1;exact zQ M h2 (by simpa using b4)
   ·unfold aPR;rw[t.at_ (i:=0) rfl,G.o.at_ (i:=0) rfl]
    show rest.length<nn
    have h1:=a4.o;have h2:=aPS p;rw[lB]at h1;omega
  ·obtain rfl:k=P.length:=by omega
   have N:aD (P.drop P.length)=[]:=by rw[List.drop_length];rfl
   rw[N]at f;have cb:=f.at_ (i:=0) rfl;have hj:=A;rw[List.take_length]at hj;have HJ:=lh hj;clear hj f N
   gi_wp2
   go_end0
   exact⟨⟨_,rfl⟩,_,rfl,HJ.o⟩
end
section
open Go.RowKit Go.Shelf
attribute [local go_sem] Oper.semAt_some
theorem aNI(A:Option Addr)(n c:Nat)(w:World):Calls prog 73 #[.slice A n c] w fun e w'=>e=.returned (.func (.func 103) #[] #[.pointer (some ⟨w.heap.size,0,none⟩)])/\w'=w.alloc (.cells #[.slice A n c] 67):=by
 have b:∀(fn:Fn) (first cap:Array Value) (w:World),(Instr.makeFunc fn first cap).run prog w=.ok (.func fn first cap) w:=fun _ _ _ _=>rfl;refine gA fun R d=>?_
 go_enter func73,ntmps73
 go_wp2_with fail;exact d.o _ _ ⟨rfl,rfl⟩
structure aNJ (w:World) (pre:List Pt) (W:World):Prop where
 fr:Fr [] w W
 sz:w.heap.size+4<=W.heap.size
 out:∃v,Blk W (w.heap.size+2) 101 [v]/\W.ownsRow (w.heap.size+6) 107 7 v pre.length (bI pre)
 b2:Blk W w.heap.size 101 [.slice none 0 0]
 b3:Blk W (w.heap.size+1) 27 [.int .i64 0]
theorem aNJ.go{w W:World}{pre:List Pt}{S:List Nat}(h:aNJ w pre W)(b:Fr S W w')(f:∀x∈S,x=w.heap.size+3∨x=w.heap.size+5):aNJ w pre w':=by
 obtain⟨v,i,g⟩:=h.out;have c:∀k,(k<3∨6<=k∨k=4)->w.heap.size+k∉S:=fun k m d=>by rcases f _ d with h|h<;>omega
 refine⟨h.fr.trans b fun x j=>.inr (by rcases f x j with h|h<;>omega),aF h.sz b.size,⟨v,i.fr b (c 2 (by omega)),iB g b fun q l d=>?_⟩,h.b2.fr b (c 0 (by omega)),h.b3.fr b (c 1 (by omega))⟩;have:=lF g q l;rcases f q d with h|h<;>omega
def decF (w:World) (q off n c g:Nat) (x:Pt):Act:=
 { tmps:=#[.slice (some ⟨q,off,none⟩) n c,undef,.pointer (some ⟨w.heap.size,0,none⟩),.pointer (some ⟨w.heap.size+1,0,none⟩),.pointer (some ⟨w.heap.size+2,0,none⟩),.pointer (some ⟨g,0,none⟩),.bool true,
   .slice (some ⟨q,off,none⟩) n c,.func (.func 103) #[] #[.pointer (some ⟨w.heap.size+3,0,none⟩)],.agg x.vals.toArray,.bool true,undef,undef,undef,undef,undef,undef,undef,undef,undef,undef,undef,undef],defers:=[] }
def DecM (w:World) (q off n c:Nat) (pre:List Pt) (x:Pt) (a1:Act) (W:World):Prop:=
 ∃g,a1=decF w q off n c g x/\Blk W g 107 x.vals/\w.heap.size+6<=g/\aNJ w pre W
theorem aEd{w:World}{q off n c:Nat}(P:List Pt)(c9:∀p∈P,p.ok)(hP:P.length<=15)(hB:BAt w q off (aD P))(L:q<w.heap.size)(hn:n=(aD P).length)(hc:n<=c)(c':n<=1000000):
  Calls prog 41 #[.slice (some ⟨q,off,none⟩) n c] w fun e w'=>∃v,e=.returned (.tuple #[v,.int .i64 0])/\w'.ownsRow (w.heap.size+6) 107 7 v P.length (bI P)/\Fr [] w w':=by
 refine gA fun R HQ=>?_;have d0:=lh c9;have b4:=lh hP;have HB:=lh hB;have a2:=lh L;have HN:=lh hn;have HC:=lh hc;have d1:=lh c';obtain⟨wb,E⟩:=nm (((w.alloc (.cells #[.slice none 0 0] 101)).alloc (.cells #[.int .i64 0] 27)).alloc (.cells #[.slice none 0 0] 101));have f:wb.heap.size=w.heap.size+3:=by rw[E];simp
 obtain⟨wl,d⟩:=nm (wb.alloc (.cells #[.slice (some ⟨q,off,none⟩) n c] 67));have a9:wl.heap.size=w.heap.size+4:=by rw[d];simp[f]
 have b0:Fr [] w wl:=by rw[d,E];exact((((Fr.refl [] w).alloc _).alloc _).alloc _).alloc _
 have b5:aNJ w [] wl:=by
  refine⟨b0,by omega,⟨.slice none 0 0,?_,vF _ _ _ _⟩,?_,?_⟩
  ·rw[d,E];have:=Blk.new ((w.alloc (.cells #[.slice none 0 0] 101)).alloc (.cells #[.int .i64 0] 27)) 101 [.slice none 0 0];rw[xC,xC]at this;exact this.alloc _
  ·rw[d,E];exact(((Blk.new w 101 [.slice none 0 0]).alloc _).alloc _).alloc _
  ·rw[d,E];have:=Blk.new (w.alloc (.cells #[.slice none 0 0] 101)) 27 [.int .i64 0];rw[xC]at this;exact(this.alloc _).alloc _
 have b6:Blk wl (w.heap.size+3) 67 [.slice (some ⟨q,off,none⟩) n c]:=by rw[d,<- f];exact Blk.new wb _ [.slice (some ⟨q,off,none⟩) n c]
 have d2:=lh b5;have d3:=lh b6;have z:=lh a9;have d4:=lh b0;have d5:=lh E;have d6:=lh d;have e6:=lh f;clear c9 hP hB L hn hc c' E d f a9 b0 b5 b6;refine(nM (n:=5)).1 ?_;refine Go.callsIn_of_wp_marks func41 rfl trivial ?_ rfl;simp only[ntmps41,eT,gD,List.length_nil,Nat.reduceAdd,Nat.reduceSub,Array.replicate_succ,aAi,List.push_toArray,List.append_toArray,eH,zI]
 gi_wp2_with (refine⟨trivial,?_⟩;gi_at_call 73;refine(nM.2 (aNI _ _ _ _)).mono ?_;rintro e w' ⟨rfl,rfl⟩)
 rw[show((((w.alloc (.cells #[.slice none 0 0] 101)).alloc (.cells #[.int .i64 0] 27)).alloc (.cells #[.slice none 0 0] 101)).alloc (.cells #[.slice (some ⟨q,off,none⟩) n c] 67))=wl by rw[d6.o,d5.o]];rw[show w.heap.size+1+1+1=w.heap.size+3 by omega,show w.heap.size+1+1=w.heap.size+2 by omega]
 refine yV (F:=Fence.wide) (n:=5) (T:=fun pre (x:Pt)=>pre=P.take pre.length/\P[pre.length]? = some x) (N:=P.length) (Bb:=w.heap.size+3) (S:=fun ys=>ys=P) (Kp:=KpB (w.heap.size+3) q) rfl (by omega) (gf:=103) (lb:=#[.pointer (some ⟨w.heap.size+3,0,none⟩)]) (encs:=fun x:Pt=>#[.agg x.vals.toArray,.bool true]) rfl trivial (Go.Proofs.enters_of func103 (by kernel_rfl) rfl) (by rw[z.o];omega)
  (fun l J W hW hJ hY h0=>aPT 4 l (w.heap.size+3) q P d0.o (by have:=HN.o;have:=d1.o;omega) (by omega) (by have:=a2.o;omega) J hJ hY W (by rw[<- HN.o];exact d3.o.fr hW) (by have:=HN.o;have:=HC.o;omega) ((HB.o.fr d4.o).fr hW) h0)
  (fun h1 h2=>⟨aF h1.1 h2.1,h2.2.1.trans h1.2.1,h2.2.2.trans h1.2.2⟩) ?kb (fun _=>rfl)
  (fun pre W=>aNJ w pre W) ?ai (fun pre W W' h hf=>h.go hf (by intro x Y;left;exact aB.1 Y)) d2.o
  (DecM w q off n c) ?am ?assign ?body ?done
 case kb=>
  intro W l o o' hl ho _;have h1:=a2.o;have h2:=z.o;exact⟨by simp,Go.World.putObj_heap_other (by omega),Go.World.putObj_heap_other (by omega)⟩
 case ai=>
  refine⟨fun s W h=>h.go ((Fr.refl [] W).drew) (by simp),fun s W o h _=>h.go ((Fr.refl [] W).alloc o) (by simp),fun s W o o' h hl ho=>h.go (S:=[w.heap.size+5]) ((Fr.refl _ W).grown (Go.grownBy_putObj' _ _ o') (fun r e=>by cases e;exact .inl (by rw[z.o];simp))) (by simp)⟩
 case am=>
  rintro pre x a1 W o o' ⟨g,rfl,hb,hg,hi⟩ hl ho;have hf:Fr [w.heap.size+5] W (W.putObj (wl.heap.size+1) o'):=(Fr.refl _ W).grown (Go.grownBy_putObj' _ _ o') (fun r e=>by cases e;exact .inl (by rw[z.o];simp));exact⟨g,rfl,hb.fr hf (by simp;omega),hg,hi.go hf (by simp)⟩
 case assign=>
  intro l pre x W K a7 hT hi c5 hK;obtain⟨a0,a5,a6,hv⟩:=aIX x;have I:w.heap.size+6<=W.heap.size:=by rw[z.o]at a7;omega
  have B:Fr [] W (W.alloc (.cells x.vals.toArray 107)):=(Fr.refl [] W).alloc _
  have a3:=hK (decF w q off n c W.heap.size x) (W.alloc (.cells x.vals.toArray 107)) ⟨B.size,B.block _ (by omega) (by simp),B.block _ (by omega) (by simp)⟩ ⟨B.size,B.block _ (by omega) (by simp),B.block _ (by have:=a2.o;omega) (by simp)⟩
   ⟨W.heap.size,rfl,Blk.new W _ x.vals,I,hi.go B (by simp)⟩
  unfold decF at a3;rw[hv]at a3⊢;have HK:=lh a3;clear hK a3 hv hT hi
  gi_wp2
  exact HK.o
 case done=>
  rintro xs W hW rfl hi hD;obtain⟨v,y,ho⟩:=hi.out;obtain⟨A,X,rfl,_,_⟩:=sA ho;have c4:=y.at_ (i:=0) rfl;have c2:=hi.b2.at_ (i:=0) rfl;have c3:=hi.b3.at_ (i:=0) rfl;have z2:=hi.b2.free;have z3:=hi.b3.free;have HI:=lh hi;have Z:=lh ho;have HD:=lh hD;have HW:=lh hW;clear hi ho y hD hW
  gi_wp2
  have f:=z.o;have O:Fr [w.heap.size] W (W.setCell ⟨w.heap.size,0,none⟩ (.slice A xs.length X)):=(Fr.refl _ _).setCell (.inl (by simp)) _;have h2:=HI.o.b2.set_ 0 (.slice A xs.length X);have h3:=HI.o.b3.fr O;generalize W.setCell ⟨w.heap.size,0,none⟩ (.slice A xs.length X)=W1 at *;have C:Fr [w.heap.size+1] W1 (W1.setCell ⟨w.heap.size+1,0,none⟩ (.int .i64 0)):=(Fr.refl _ _).setCell (.inl (by simp)) _;have h4:=h3.set_ 0 (.int .i64 0);have h5:=(show Blk W1 w.heap.size 101 [.slice A xs.length X] from h2).fr C
  have d7:(W1.setCell ⟨w.heap.size+1,0,none⟩ (.int .i64 0)).heap[wl.heap.size]? = some (.deferred (some [])):=by
   have d:=(uI.1 HD.o).1;rw[C.block _ (by have:=O.size;omega) (by simp;omega),O.block _ d (by simp;omega)];exact HD.o
  generalize W1.setCell ⟨w.heap.size+1,0,none⟩ (.int .i64 0)=W2 at *;have a4:Fr [wl.heap.size] W2 (W2.putObj wl.heap.size (.deferred none)):=(Fr.refl _ _).grown (Go.grownBy_putObj' _ _ _) (fun r e=>by cases e;exact .inl (by simp));have h6:=(show Blk W2 (w.heap.size+1) 27 [.int .i64 0] from h4).fr a4 (by simp;omega);have h7:=h5.fr a4 (by simp;omega);have g6:=h6.at_ (i:=0) rfl;have g7:=h7.at_ (i:=0) rfl;refine⟨by simp,.inl ⟨_,_,rfl,run_takeDeferred d7,.tuple #[.slice A xs.length X,.int .i64 0],?_,?_⟩⟩
  ·simp[results,f41,go_sem,g6,g7]
  ·have hn:∀k,k<6->w.heap.size+k∉([]:List Nat)/\∀q,(Value.slice A xs.length X).ownBlock=some q->q≠w.heap.size+k:=fun k hk=>⟨by simp,fun q L e=>by have:=lF Z.o q L;omega⟩
   refine HQ.o _ _ ⟨_,rfl,iB (iB (iB Z.o O fun q L G=>(hn 0 (by omega)).2 q L (aB.1 G)) C fun q L G=>(hn 1 (by omega)).2 q L (aB.1 G)) a4 fun q L G=>(hn 4 (by omega)).2 q L (by rw[aB.1 G,f]),
    ((HI.o.fr.trans O fun x Y=>.inr (by rw[aB.1 Y];exact tA _)).trans C fun x Y=>.inr (by rw[aB.1 Y];omega)).trans a4 fun x Y=>.inr (by rw[aB.1 Y];omega)⟩
 case body=>
  rintro l pre x a1 W a7 ⟨e1,e3⟩ ⟨g,rfl,hb,hg,hi⟩ c5;obtain⟨v,y,ho⟩:=hi.out;obtain⟨A,X,rfl,_,_⟩:=sA ho;have c4:=y.at_ (i:=0) rfl;have z4:=y.free;have d8:((pre.length:Int)==16)=false:=by rw[eI];have:=b4.o;omega
  have b8:=lh hb;have HG:=lh hg;have HI:=lh hi;have Z:=lh ho;have b9:=lh y;have Q:Hid (pre.length<=15):=lh (by have:=b4.o;omega);obtain⟨m,G⟩:∃m,pre.length=m:=⟨_,rfl⟩;rw[G]at c4 d8 Z b9 Q;have HM:=lh G;clear hb hg hi ho y e1 e3 c5 G a7;unfold decF
  iterate 40 (first|go_values|gi_guarded|gi_step|gi_upon)
  obtain⟨iu,hi,c6,I,e4⟩:=Go.info_parts aAV;refine aAY (by kernel_rfl) (fun _ _ h=>h) ?_;refine rn rfl (by go_simp<;>with_reducible rfl) ?_;simp only[nrm];refine lp fun K hK=>?_;refine Go.wp_load_mid 107 (.tmp 5) rfl g 0 rfl x.vals _ (fun j u hu=>by rw[cC];exact b8.o.at_ hu) Go.Proofs.Tryz.underlying107 rfl (by rw[nE];exact qJ) (hK _ _ ?_);simp only[nrm];clear hK;refine lp fun K hK=>?_;refine dD (.tmp 19) rfl Go.Proofs.Tryz.underlying101 hi c6 x.vals rfl (by rw[nE];exact I) (by rw[nE];rfl) (by rw[nE];omega) (by rw[nE];omega) (hK _ _ ?_);simp only[nrm];clear hK;have U:=Blk.new W 107 x.vals;have C:Fr [] W (W.alloc (.cells x.vals.toArray 107)):=(Fr.refl [] W).alloc _;have d9:(W.alloc (.cells x.vals.toArray 107)).heap.size=W.heap.size+1:=by simp
  change Blk (W.alloc (.cells x.vals.toArray 107)) _ _ _ at U
  generalize W.alloc (.cells x.vals.toArray 107)=w2 at *;have t:=lh C;have d':=lh U;clear C U;have e8:(bI pre).length=m*7:=by rw[aDY,HM.o]
  refine lp fun K hK=>?_;refine eD (.tmp 18) (.tmp 20) rfl 107 7 72 Go.Proofs.Tryz.underlying101 hi c6 I e4 rfl (by omega) (.slice A m X) m (bI pre) rfl (jK (iB Z.o t.o (by simp))) ⟨W.heap.size,0,none⟩ 1 1 x.vals rfl (by rw[nE]) (fun j u hu=>by rw[Go.Addr.add_mid,cC];exact d'.o.at_ hu) (xQ x) (by omega) (by unfold maxLen;have:=Q.o;omega) (by have:=Q.o;omega) (W.heap.size+1) d9 fun g7 c7 w7 e5 H a' e7=>hK _ _ ?_;simp only[nrm];clear hK
  have M:∀k,k<6->w.heap.size+k∉(Value.slice A m X).ownBlock.toList:=fun k hk G=>by
   have h1:=lF Z.o _ (by simpa using G);omega
  have V:=(b9.o.fr t.o).fr H (M 2 (by omega));have b7:=V.at_ (i:=0) rfl;have z7:=V.free;refine lp fun K hK=>?_;refine pB (w':=w7.setCell ⟨w.heap.size+2,0,none⟩ (.slice (some ⟨g7,0,none⟩) (m+1) c7)) (by go_simp) (hK _ _ ?_);simp only[Act.put];clear hK;refine sE ?_;have D:Fr [w.heap.size+2] w7 (w7.setCell ⟨w.heap.size+2,0,none⟩ (.slice (some ⟨g7,0,none⟩) (m+1) c7)):=(Fr.refl _ _).setCell (.inl (by simp)) _;have b':=V.set_ 0 (.slice (some ⟨g7,0,none⟩) (m+1) c7);obtain⟨w8,c8⟩:=nm (w7.setCell ⟨w.heap.size+2,0,none⟩ (.slice (some ⟨g7,0,none⟩) (m+1) c7));have b1:Blk w8 (w.heap.size+2) 101 [.slice (some ⟨g7,0,none⟩) (m+1) c7]:=by rw[c8];exact b'
  rw[<- c8]at D⊢;have a7:=HI.o.sz;have e9:w.heap.size+6<=W.heap.size:=aF HG.o (Nat.le_of_lt b8.o.lt)
  have a8:∀b,b<w.heap.size+6->b≠w.heap.size+2->(w.heap.size<=b->b∉(Value.slice A m X).ownBlock.toList)->w8.heap[b]? = W.heap[b]?:=fun b hb U y=>by
   have e0:b∉(Value.slice A m X).ownBlock.toList:=fun G=>by
    have h1:=lF Z.o _ (by simpa using G);omega
   rw[D.block b (by have:=t.o.size;have:=H.size;omega) (by simpa using U),H.block b (by have:=t.o.size;omega) e0,t.o.block b (by omega) (by simp)]
  have f:=z.o;have e':=a2.o;have c0:W.heap.size<=w8.heap.size:=aF t.o.size (aF H.size D.size);have c1:Fr [] w w8:=((HI.o.fr.trans t.o).trans H fun x Y=>.inr (by have:=lF Z.o x (by simpa using Y);omega)).trans D fun x Y=>.inr (by rw[aB.1 Y];omega);refine⟨⟨c0,a8 _ (by omega) (by omega) (fun _=>?_),a8 _ (by omega) (by omega) (fun _=>?_)⟩,⟨c0,a8 _ (by omega) (by omega) (fun _=>M 3 (by omega)),a8 _ (by omega) (by omega) (fun h=>by omega)⟩,c1,by omega,⟨_,b1,?_⟩,?_,?_⟩
  ·rw[f];exact M 4 (by omega)
  ·rw[f];exact M 5 (by omega)
  ·have e:(pre++[x]).length=m+1:=by rw[lB,HM.o];rfl
   have e2:bI pre++x.vals=bI (pre++[x]):=by unfold bI;rw[qP];simp
   rw[e,<- e2];refine iB (vP e5 fun q L=>?_) D ?_
   ·have:g7=q:=by simpa[Value.ownBlock]using L
    subst this;rcases a' with h|h
    ·exact lF Z.o _ h
    ·omega
   ·intro q L G;have h1:g7=q:=by simpa[Value.ownBlock]using L
    have h2:q=w.heap.size+2:=aB.1 G;rcases a' with h|h
    ·have:=lF Z.o _ h;omega
    ·omega
  ·exact((HI.o.b2.fr t.o).fr H (M 0 (by omega))).fr D
  ·exact((HI.o.b3.fr t.o).fr H (M 1 (by omega))).fr D
end
section
open Go.RowKit Go.Shelf
def ddF:Int->List Int->List Int
 | _,[]=>[]
 | p,x::l=>if x=p then ddF p l else x::ddF x l
def dd:List Int->List Int
 | []=>[]
 | x::l=>x::ddF x l
theorem aEe:∀(l:List Int) (p b:Int),ddF p (l++[b])=if b=l.getLastD p then ddF p l else ddF p l++[b]
 | [],p,b=>rfl
 | x::l,p,b=>by
  rw[zI,List.getLastD_cons];unfold ddF
  by_cases c:x=p
  ·subst c;rw[iA rfl,iA rfl,aEe l x b]
  ·rw[eA c,eA c,aEe l x b]
   split
   ·rfl
   ·rfl
theorem aRe{l:List Int}(c:l≠[])(b:Int):dd (l++[b])=if b=l.getLastD 0 then dd l else dd l++[b]:=by
 cases l with
 | nil=>exact absurd rfl c
 | cons x l=>
  show x::ddF x (l++[b])=if b=(x::l).getLastD 0 then x::ddF x l else x::ddF x l++[b]
  rw[List.getLastD_cons,aEe]
  split
  ·rfl
  ·rfl
theorem aNK{L:List Int}{k:Nat}{a:Int}(h:L[k]? = some a):(L.take (k+1)).getLastD 0=a:=by
 rw[oM,h]
 simp[List.getLastD_eq_getLast?]
theorem aMk{L:List Int}{k:Nat}{a b:Int}(c:L[k]? = some a)(d:L[k+1]? = some b):dd (L.take (k+1+1))=if b=a then dd (L.take (k+1)) else dd (L.take (k+1))++[b]:=by
 have h1:L.take (k+1+1)=L.take (k+1)++[b]:=by rw[oM,d];rfl
 have h2:L.take (k+1)≠[]:=fun h=>by
  have h3:=congrArg List.length h;rw[jC,List.length_nil]at h3;have:=(tD.1 c).1;omega
 rw[h1,aRe h2,aNK c]
theorem aIY{L:List Int}(h:L.length<2):dd L=L:=by
 match L,h with
 | [],_=>rfl
 | [x],_=>rfl
theorem aNL(n:Nat):(Builtin.zeroCells (Value.int .i64 0).cells n).toList=List.replicate n (.int .i64 0):=by
 simp only[Builtin.zeroCells,Value.cells];refine List.eq_replicate_iff.2 ⟨by simp,fun u b=>?_⟩
 simp[Nat.mod_one]at b
 exact b.2.symm
theorem aRf(w:World)(g:Nat)(b:Array Value):Fr [g] w (w.setRow g b):=(Fr.refl [g] w).setRow (.inl (by simp)) _
def bT (x:Int):Value:=.int .i64 x
theorem aIZ{w:World}{v:Value}{H:Nat}{L:List Int}(ho:w.ownsRow H 3 1 v L.length (L.map bT))(hn:L.length<=1000000)(hH:H<=w.heap.size):
  Calls prog 46 #[v] w fun e w'=>∃v' g,e=.returned v'/\iH w' v' (dd L).length ((dd L).map bT) g/\H<=g/\Fr v.ownBlock.toList w w':=by
 refine gA fun R HQ=>?_;rcases ho.2 with ⟨rfl,h0⟩|⟨g,cap,cur,rfl,hg,hh,a5,f5,c6,ht⟩
 ·have hl:L=[]:=tO.1 h0;subst hl;have HX:=lh (HQ.o (.returned (.slice none 0 0)) w ⟨_,w.heap.size,rfl,iH.nil _ _ _,hH,Fr.refl _ _⟩);clear ho h0
  go_enter func46,ntmps46
  go_wp2_with fail;exact HX.o
 ·obtain⟨n,a6⟩:∃n,L.length=n:=⟨_,rfl⟩;rw[a6]at hn a5 ht⊢;have Y:Blk w g 3 cur.toList:=by unfold Blk;rw[hh]
  have zG:∀(i:Nat) (a:Int),L[i]? = some a->cur.toList[i]? = some (bT a):=fun i a O=>by
   have h1:(cur.toList.take (n*1))[i]? = (L.map bT)[i]?:=by rw[ht]
   rw[xG,iA (by have:=(tD.1 O).1;omega),zH,O]at h1;exact h1
  obtain⟨C,hC⟩:∃C,cur.toList=C:=⟨_,rfl⟩;rw[hC]at Y zG;have a':n<=C.length:=by rw[<- hC];simp[c6];omega
  have b0:∀k,k<=n->C.take k=(L.take k).map bT:=fun k hk=>by
   have h1:=congrArg (List.take k) ht;rw[hC,List.take_take,<- List.map_take]at h1
   rwa [iT (by omega)]at h1
  have c9:=lh b0;have HB:=lh Y;have s:=lh zG;have l:=lh a6;have HG:=lh hg;have E:=lh a';clear ho hh c6 ht a6 Y zG hC hg a' hH b0
  go_enter func46,ntmps46
  by_cases h2:n<2
  ·have b1:decide ((n:Int)<2)=true:=dT (by omega)
   have HX:=lh (HQ.o (.returned (.slice (some ⟨g,0,none⟩) n cap)) w ⟨_,g,rfl,by
    rw[aIY (by rw[l.o];exact h2),l.o]
    exact⟨_,cap,0,rfl,a5,fun _=>⟨rfl,fun j u r=>by
     rw[zH,Option.map_eq_some_iff]at r;obtain⟨a,O,rfl⟩:=r;rw[cC];exact HB.o.at_ (s.o j a O)⟩⟩,HG.o,Fr.refl _ _⟩)
   clear h2;go_wp2_with fail;exact HX.o
  ·have b1:decide ((n:Int)<2)=false:=dF (by omega)
   go_wp2_with fail;clear b1
   go_loopg [3] (n-1) (fun j v3 wr=>∃k:Nat,1<=k/\k+j=n/\v3=.int .i64 (k:Int)/\dd (L.take k)=L.take k/\Fr [] w wr)
   case atStart=>exact⟨1,tA _,by omega,rfl,aIY (by rw[jC];omega),Fr.refl _ _⟩
   case round=>
    obtain⟨k,f6,c7,rfl,T,hf⟩:=hrel
    by_cases f7:k<n
    ·obtain⟨U,a7⟩:∃U,U+1=k:=⟨k-1,by omega⟩;obtain⟨a,O⟩:∃a,L[U]? = some a:=gx (by rw[l.o];omega);obtain⟨b,Y⟩:∃b,L[k]? = some b:=gx (by rw[l.o];omega);have y:=HB.o.fr hf;have ca:=y.at_ (s.o _ _ O);have cb:=y.at_ (s.o _ _ Y);unfold bT at ca cb;have F:dd (L.take (k+1))=if b=a then dd (L.take k) else dd (L.take k)++[b]:=by subst a7;exact aMk O Y
     have b4:=lh F;have c':=lh y;have HF:=lh hf;have b5:=lh T;have b6:L.take (k+1)=L.take k++[b]:=by rw[oM,Y];rfl
     have d0:=lh b6;have d1:=lh a7;have e0:IntKind.i64.wrap ((k:Int)-1)=(U:Int):=by rw[iD];omega
     have e4:(k:Int)<(n:Int):=by omega
     have e5:(U:Int)<(n:Int):=by omega
     have e6:U<n:=by omega
     have e7:¬ cap=k:=by omega
     have b7:k<=n:=by omega
     have d2:=lh c7;clear F y hf T O Y b6 a7 c7;go_upto_region 6 with fail
     have G:wr.drew.cell? ⟨g,U,none⟩=some (.int .i64 a):=ca;have I:wr.drew.cell? ⟨g,k,none⟩=some (.int .i64 b):=cb;refine lA (fun W=>W.cell? ⟨g,U,none⟩=some (.int .i64 a)/\W.cell? ⟨g,k,none⟩=some (.int .i64 b)) [0,1,2,3,4,5,6,7,8,9] (by kernel_rfl) ?_;refine tks [0,1,2,3,4,5,6,7,8,9] ?_
     iterate 10 (refine tk rfl rfl ⟨G,I⟩ rfl (fun _ hW=>by(obtain⟨y1,y2⟩:=hW;go_simp)<;>with_reducible rfl) ?_;simp only[nrm])
     refine tke ?_;refine _root_.Go.Proofs.YtebjhcjbfaaejaaGreatDoor.wd ?_ _;have b8:=lh (HF.o.trans ((Fr.refl [] wr).drew));have d3:=lh (c'.o.fr ((Fr.refl [] wr).drew));clear ca cb G I;generalize wr.drew=wd at *
     by_cases B:b=a
     ·have d4:(b==a)=true:=by rw[beq_iff_eq];exact B
      have f:dd (L.take (k+1))=L.take k:=by rw[b4.o,iA B,b5.o]
      have a3:=lh f;clear f B;go_wp2_with fail;obtain⟨m,hm⟩:∃m,n-k=m:=⟨_,rfl⟩;obtain⟨c2,c8⟩:∃c2,cap-k=c2:=⟨_,rfl⟩;rw[hm,c8];have Q:Hid (k+m=n/\U+1=k/\1<=m):=lh ⟨by omega,d1.o,by omega⟩;clear hm c8;obtain⟨wo,rfl⟩:=nm (wr)
      go_loopg [3,5] (m-1) (fun j v3 v5 wr=>∃(q d:Nat) (D:List Value),1<=d/\d+j=m/\k<=q/\q+1<=k+d/\v3=.int .i64 (q:Int)/\v5=.int .i64 (d:Int)/\Blk wr g 3 D/\D.length=C.length/\(∀i,k+d<=i+1->D[i]? = C[i]?)/\D.take q=(dd (L.take (k+d))).map bT/\Fr [g] w wr)
      case atStart=>exact⟨k,1,C,tA _,by have:=Q.o;omega,tA _,tA _,rfl,rfl,d3.o,rfl,fun _ _=>rfl,by rw[a3.o];exact c9.o k b7,b8.o.mono (by simp)⟩
      case round=>
       obtain⟨q,d,D,h1,h2,h3,h4,rfl,rfl,hD,a8,N,A,V⟩:=hrel
       by_cases f8:d<m
       ·obtain⟨p,hp⟩:∃p,p+1=d:=⟨d-1,by omega⟩;obtain⟨a2,a9⟩:∃a,L[k+p]? = some a:=gx (by have:=Q.o;rw[l.o];omega);obtain⟨b2,X⟩:∃b,L[k+d]? = some b:=gx (by have:=Q.o;rw[l.o];omega);have ca:=hD.at_ ((N _ (by omega)).trans (s.o _ _ a9));have cb:=hD.at_ ((N (k+d) (by omega)).trans (s.o _ _ X));unfold bT at ca cb;have F:dd (L.take (k+d+1))=if b2=a2 then dd (L.take (k+d)) else dd (L.take (k+d))++[b2]:=by subst hp;exact aMk (k:=k+p) a9 X
        have Z:=lh F;have HD:=lh hD;have S:=lh a8;have a4:=lh N;have b9:=lh A;have d5:=lh V;have e8:=lh hp;have H2:=lh h2;have d6:=lh X;have d7:IntKind.i64.wrap ((d:Int)-1)=(p:Int):=by rw[iD];have:=Q.o;omega
        have e1:(d:Int)<(m:Int):=by omega
        have e9:(p:Int)<(m:Int):=by omega
        have e':p<m:=by omega
        have f0:(q:Int)<(n:Int):=by have:=Q.o;omega
        have f1:q<n:=by have:=Q.o;omega
        clear F hD a8 N A V a9 X hp h2;go_upto_region 11 with fail
        have G:wr.drew.cell? ⟨g,k+p,none⟩=some (.int .i64 a2):=ca;have I:wr.drew.cell? ⟨g,k+d,none⟩=some (.int .i64 b2):=cb;refine lA (fun W=>W.cell? ⟨g,k+p,none⟩=some (.int .i64 a2)/\W.cell? ⟨g,k+d,none⟩=some (.int .i64 b2)) [0,1,2,3,4,5,6,7,8,9] (by kernel_rfl) ?_;refine tks [0,1,2,3,4,5,6,7,8,9] ?_
        iterate 10 (refine tk rfl rfl ⟨G,I⟩ rfl (fun _ hW=>by(obtain⟨y1,y2⟩:=hW;go_simp)<;>with_reducible rfl) ?_;simp only[nrm])
        refine tke ?_;refine _root_.Go.Proofs.YtebjhcjbfaaejaaGreatDoor.wd ?_ _;have b':=lh (d5.o.trans ((Fr.refl [g] wr).drew) (fun x hx=>.inl hx));have J:=lh (HD.o.fr ((Fr.refl [] wr).drew));clear ca cb G I;generalize wr.drew=we at *;have d8:IntKind.i64.wrap ((d:Int)+1)=((d+1:Nat):Int):=by rw[iD];have:=Q.o;omega
        by_cases h:b2=a2
        ·have c0:(b2==a2)=true:=by rw[beq_iff_eq];exact h
         have f:dd (L.take (k+(d+1)))=dd (L.take (k+d)):=by rw[<- rT,Z.o,iA h]
         have M:=lh f;clear f h;go_wp2_with fail
         go_roundg (m-(d+1))
         case measure=>have:=H2.o;omega
         case rel=>exact⟨q,d+1,D,by omega,by omega,h3,by omega,rfl,rfl,J.o,S.o,fun i hi=>a4.o i (by omega),by rw[M.o];exact b9.o,b'.o⟩
        ·have c0:(b2==a2)=false:=by rw[eI];exact h
         have f:dd (L.take (k+(d+1)))=dd (L.take (k+d))++[b2]:=by rw[<- rT,Z.o,eA h]
         have M:=lh f;have d9:=J.o.at_ ((a4.o (k+d) (by omega)).trans (s.o (k+d) b2 d6.o));unfold bT at d9;obtain⟨u,r⟩:∃u,D[q]? = some u:=gx (by have:=S.o;have:=E.o;omega);have cq:=J.o.at_ r;have zq:=J.o.free q;have f2:IntKind.i64.wrap ((q:Int)+1)=((q+1:Nat):Int):=by rw[iD];omega
         clear f h r;go_wp2_with fail
         go_roundg (m-(d+1))
         case measure=>have:=H2.o;omega
         case rel=>
          refine⟨q+1,d+1,D.set q (.int .i64 b2),by omega,by omega,by omega,by omega,rfl,rfl,J.o.set_ q _,by rw[List.length_set];exact S.o,fun i hi=>?_,?_,b'.o.trans ((Fr.refl [g] we).setCell (.inl (by simp)) _) fun x hx=>.inl hx⟩
          ·rw[List.getElem?_set_ne (by omega)];exact a4.o i (by omega)
          ·rw[M.o,List.map_append,<- b9.o,oM,List.take_set_of_le (tA _),List.getElem?_set_self (by have:=S.o;have:=E.o;omega)]
           rfl
       ·obtain rfl:d=m:=by omega
        have f3:q<n:=by have:=Q.o;omega
        have e2:k+d=n:=Q.o.1;have d':L.take (k+d)=L:=zF (by rw[l.o];omega);rw[d']at A
        have c1:(dd L).length=q:=by
         have h9:=congrArg List.length A;rw[jC,lI]at h9;have:=E.o;omega
        have a0:=aBm (P:=prog) (t:=55) (ty:=0) (c:=cap-q) Go.Proofs.Tryz.underlying55 (z:=.int .i64 0) (by kernel_rfl) hD (n:=n-q) (off:=q) (zs:=List.replicate (n-q) (.int .i64 0)) (by omega) (aNL _) (by rw[zT];have:=E.o;omega) (by intro u r;rw[List.eq_of_mem_replicate r];rfl);have c3:=qU (cur:=D) (cs:=List.replicate (n-q) (.int .i64 0)) (off:=q) (m:=q) (tA _) (by have:=E.o;omega);have a1:=hD.row_ (splice D q (List.replicate (n-q) (.int .i64 0)))
        have HX:=lh (HQ.o (.returned (.slice (some ⟨g,0,none⟩) q cap)) (wr.setRow g (splice D q (List.replicate (n-q) (.int .i64 0))).toArray) ⟨_,g,rfl,by
         rw[c1];refine⟨_,cap,0,rfl,by omega,fun _=>⟨rfl,fun j u r=>?_⟩⟩;rw[cC];refine a1.at_ ?_;have hj:j<q:=by have:=(tD.1 r).1;rw[lI,c1]at this;exact this
         rw[<- A]at r;rw[<- c3]at r;rw[xG,iA hj]at r;exact r,HG.o,V.trans (aRf wr g _) fun x hx=>.inl hx⟩)
        have c4:=lh a0;have e3:q<=n:=by omega
        have f4:¬ cap=q:=by omega
        clear a0 c3 a1 A N hD a8 V;go_upto_region 14 with fail
        refine fE ?_
        iterate 3 (refine rn rfl (by go_simp<;>with_reducible rfl) ?_;simp only[nrm])
        refine qQ rfl (.tmp 56) 55 rfl (.slice (some ⟨g,q,none⟩) (n-q) (cap-q)) rfl c4.o ?_;simp only[Act.put];refine sE ?_;go_wp2_with fail;exact HX.o
     ·have d4:(b==a)=false:=by rw[eI];exact B
      have f:dd (L.take (k+1))=L.take (k+1):=by rw[b4.o,eA B,b5.o,d0.o]
      have a3:=lh f;have d8:IntKind.i64.wrap ((k:Int)+1)=((k+1:Nat):Int):=by rw[iD];omega
      clear f B;go_wp2_with fail
      go_roundg (n-(k+1))
      case measure=>have:=d2.o;omega
      case rel=>exact⟨k+1,by omega,by omega,rfl,a3.o,b8.o⟩
    ·obtain rfl:k=n:=by omega
     have y:=HB.o.fr hf
     have c5:dd L=L:=by
      have:=T
      rwa [zF (by rw[l.o];exact tA _)]at this
     have HX:=lh (HQ.o (.returned (.slice (some ⟨g,0,none⟩) k cap)) wr ⟨_,g,rfl,by
      rw[c5,l.o]
      exact⟨_,cap,0,rfl,a5,fun _=>⟨rfl,fun j u r=>by
       rw[zH,Option.map_eq_some_iff]at r;obtain⟨a,O,rfl⟩:=r;rw[cC];exact y.at_ (s.o j a O)⟩⟩,HG.o,hf.mono (by simp)⟩)
     clear y c5 hf T;go_wp2_with fail;exact HX.o
end
section
open Go.RowKit Go.ChangeMaps Go.MapKept Go.Maps Go.Sort Go.Shelf
theorem aNM:(prog.info? 3).map (fun i=>(i.zero,i.size,i.bytes))=some (some (.int .i64 0),1,8):=by kernel_rfl
def aR (s:Ky) (L:En) (ids:List Int):Prop:=
 L.length=ids.length/\∀(i:Nat) (e:Ky×List UInt8),L[i]? = some e->∃a j:Nat,e.1=nB s [a,j]/\a<4294967296/\j<4294967296/\ids[i]? = some (a:Int)
section
variable {w0 w w' : World} {dk g st ca : Nat} {x x' : SE} {X Y : Nat -> Prop}
def IdRel (wb:World) (ids:List Int) (j:Nat) (v9 v31:Value) (wr:World):Prop:=
 ∃k:Nat,k+j=ids.length/\v31=.int .i64 (k:Int)/\wr.ownsRow wb.heap.size 3 1 v9 k ((ids.take k).map bT)/\Fr [] wb wr
def uX (l:List Int) (n:Int) (w:World) (e:Ending) (w':World):Prop:=
 ∃v g,e=.returned (.tuple #[v,.int .i64 n])/\iH w' v l.length (l.map bT) g/\w.heap.size<=g/\Fr [] w w'
theorem aPU(h:CtX w0 w dk g st ca x X)(f:(x.E 1).length<=1000000)(cs:ByteArray)(hi:isS x (bA cs)=false):
  Calls prog 21 #[.pointer (some ⟨ca,0,none⟩),.string cs] w (uX [] 6 w):=by
 refine gA fun R j=>?_;have c:=lh (wU h f cs);have d:isC x cs=6:=by unfold isC;rw[hi];rfl
 rw[d]at c;clear h f hi d
 go_enter func21,ntmps21
 go_wp2_with fail;refine c.o.mono ?_;rintro e w1 ⟨rfl,b⟩;have i:=lh (j.o _ _ ⟨_,w1.heap.size,rfl,iH.nil _ _ _,b.size,b⟩);clear b;go_wp2_with fail;exact i.o
theorem aPV(h:CtX w0 w dk g st ca x X){N:Nat}(k:rD N x.E)(hN:N<=900000)(cs:ByteArray)(a8:isS x (bA cs)=true){b:List Int}(r:aR (bA cs) (rC (x.E 0) (nmK (bA cs))) b):
  Calls prog 21 #[.pointer (some ⟨ca,0,none⟩),.string cs] w (uX (dd b) 0 w):=by
 refine gA fun R HQ=>?_;have a9:=lh (wU h (by have:=k.few 1;omega) cs);have e0:isC x cs=0:=by unfold isC;rw[a8];rfl
 rw[e0]at a9;have S:=aEc a8;have hz:=uF S;have a':=zA cs;have H:=lh h;have HN:=lh hN;have b1:=lh k;have HZ:=lh hz.1;have b4:Hid (cs.size<=1000):=lh (by omega);obtain⟨KY,A⟩:∃K,nmK (bA cs)=K:=⟨_,rfl⟩
 have b5:Hid (∀(W:World),Calls prog 45 #[.string cs,.slice none 0 0] W fun e w'=>∃v',e=.returned v'/\(∃q,cA w' v' KY q/\W.heap.size<=q)/\Fr [] W w'):=lh fun W=>by
  have:=rN (w:=W) cs [] hz.1 (by omega) (by simp) (by simp) (v:=.slice none 0 0) (g:=0) (iH.nil _ _ _)
  rwa [<- nL,A]at this
 have b6:KY.length<=96/\1<=KY.length:=by rw[<- A,nL,sH];simp;omega
 have b7:=lh b6;have f6:Hid (aft KY≠[]):=lh (by rw[<- A,nL];exact pV _ _);rw[A]at r;obtain⟨L,hL⟩:∃L,rC (x.E 0) KY=L:=⟨_,rfl⟩
 have y:Hid (L.length<=900000):=lh (by
  have h1:=k.few 0;have h2:(rC (x.E 0) KY).length<=(x.E 0).length:=yW ..;rw[<- hL];omega)
 rw[hL]at r;have b8:=lh r;have f7:=lh hL;clear h k hN a8 e0 S hz a' A b6 r hL
 go_enter func21,ntmps21
 go_wp2_with fail;refine a9.o.mono ?_;rintro e w1 ⟨rfl,d7⟩;have b':=lh d7;clear d7;go_wp2_with fail;refine(b5.o w1).mono ?_;rintro e w3 ⟨vk,rfl,⟨q,hk,hq⟩,d8⟩;have c0:=lh (b'.o.trans d8);have c3:=vE hk (by have:=b7.o;omega);have T:=lh (aAX (H.o.fr c0.o) (b1.o.rise 0) (by have:=b1.o.few 0;have:=HN.o;omega) hk (.inr ⟨by have:=b'.o.size;omega,c3⟩) f6.o (by have:=b7.o;omega));rw[f7.o]at T;clear hk hq d8 c3 b5;go_wp2_with fail;refine T.o.mono ?_;rintro e wb ⟨ov,cl,rfl,D,he,d9⟩;clear T;obtain⟨Ao,co,rfl,_,_⟩:=sA D;have HO:=lh D;have HE:=lh he;have c4:=lh (c0.o.trans d9);clear D he d9;obtain⟨n,S⟩:∃n,L.length=n:=⟨_,rfl⟩;rw[S]at HO y⊢;have f8:=lh S;have s:Hid (b.length=n):=lh (by rw[<- b8.o.1];exact S);clear S;obtain⟨iu,h5,h6,d',h7⟩:=Go.info_parts aNM;go_wp2_with fail
 go_loopg [9,31] n (fun j v9 v31 wr=>IdRel wb b j v9 v31 wr)
 case atStart=>exact⟨0,by rw[s.o];omega,rfl,vF _ _ _ _,Fr.refl _ _⟩
 case round=>
  obtain⟨i,hi,rfl,hb,hf⟩:=hrel;rw[s.o]at hi;have HB:=lh hb;have U:=lh hf;clear hb hf
  by_cases i1:i<n
  ·obtain⟨e,he⟩:∃e,L[i]? = some e:=gx (by rw[f8.o];exact i1);obtain⟨a,j,F,ha,hj,e1⟩:=b8.o.2 i e he;have c5:(b.take (i+1)).map bT=(b.take i).map bT++[.int .i64 (a:Int)]:=by rw[oM,e1,List.map_append];rfl
   have f9:=lh c5;obtain⟨go,rfl,d⟩:=tE HO.o (by omega);obtain⟨k1,v1,e2,e3,⟨q1,G,h8⟩,⟨q2,e4,h9⟩⟩:=lG.at_ HE.o he;have ck:=aA U.o (d _ _ e2);have cv:=aA U.o (d _ _ e3);have V:=G.fr U.o;rw[F,<- uS cs [a,j]]at V;obtain⟨A1,c1,_,rfl,_,_⟩:=_root_.id G;obtain⟨A2,c2,_,rfl,_,_⟩:=_root_.id e4
   have Z:Hid (wr.rangeAt go (i*2) [.slice A1 e.1.length c1,.slice A2 e.2.length c2]):=lh (by
    intro j u f
    match j,f with
    | 0,f=>obtain rfl:=fG f;exact ck
    | 1,f=>obtain rfl:=fG f;exact cv
    | j+2,f=>simp at f)
   have i2:(i:Int)<(n:Int):=by omega
   have a0:e.1.length=(aD (qN cs [a,j])).length:=by rw[F,uS]
   have a1:=aDZ (l:=qN cs [a,j]) (by
    intro p hp;rcases kB.1 hp with rfl|hp
    ·exact⟨HZ.o,b4.o⟩
    ·obtain⟨m,hm,rfl⟩:=cI.1 hp;simp only[kB,yG,aG]at hm;rcases hm with rfl|rfl
     ·exact ha
     ·exact hj)
   have J:q1<wb.heap.size:=vE G (by rw[F,sH];omega)
   have c6:=lh (show ∀p∈qN cs [a,j],p.ok from by
    intro p hp;rcases kB.1 hp with rfl|hp
    ·exact⟨HZ.o,b4.o⟩
    ·obtain⟨m,hm,rfl⟩:=cI.1 hp;simp only[kB,yG,aG]at hm;rcases hm with rfl|rfl
     ·exact ha
     ·exact hj)
   rw[a0]at Z;have M:cA wr (.slice A1 (aD (qN cs [a,j])).length c1) (aD (qN cs [a,j])) q1:=by rw[<- a0];exact V
   obtain⟨P,rfl,_,e6,e7⟩:=BAt.of M (by rw[uS,sH];omega);have f':=lh e7;have c':=lh e6;have g0:Hid (q1<wr.heap.size):=lh (pO J U.o.size);have d0:Hid ((aD (qN cs [a,j])).length<=1000000):=lh (by rw[vU]at a1;simp at a1;omega);obtain⟨nk,a3⟩:∃nk,(aD (qN cs [a,j])).length=nk:=⟨_,rfl⟩;rw[a3]at Z c' d0;have g1:=lh a3;clear d e2 e3 G h8 e4 h9 ck cv he c5 F e1 V M a0 a1 J e6 e7 a3 ha hj;go_upto_region 10 with fail
   refine fE ?_;refine rn rfl (by go_simp<;>with_reducible rfl) ?_;simp only[nrm];refine lp fun K hK=>?_;refine Go.wp_load_mid 100 (.tmp 33) rfl go (i*2) rfl [.slice (some ⟨q1,P,none⟩) nk c1,.slice A2 e.2.length c2] _ Z.o Go.Proofs.Tryz.underlying100 rfl (by kernel_rfl) (hK _ _ ?_);simp only[nrm];clear hK;refine lp fun K hK=>?_;refine yB 100 rfl (.agg #[.slice none 0 0,.slice none 0 0]) [.slice none 0 0,.slice none 0 0] xS rfl fun wa a7 z f0=>hK _ _ ?_;simp only[nrm];clear hK;obtain⟨b9,a4⟩:=nm (wr.heap.size);rw[<- a4]at a7⊢;have g2:=lh a4;have g3:=lh z;have i3:=lh f0;have d1:=lh a7;clear a4 z f0 a7;refine lp fun K hK=>?_;refine yA 100 (.tmp 11) (.tmp 34) rfl [.slice (some ⟨q1,P,none⟩) nk c1,.slice A2 e.2.length c2] rfl rfl d1.o vS rfl (by intro u f;simp only[kB,yG,aG]at f;rcases f with rfl|rfl<;>rfl) fun w4 f1 f2 h'=>hK _ _ ?_;simp only[Act.put];clear hK;have g4:=lh f1;have B:Hid (Fr [] wr w4):=lh (g3.o.trans f2 fun q hq=>.inr (by rw[aB.1 hq,g2.o];exact tA _));clear f1 f2 h';refine sE ?_;have b0:=g4.o.at_ (i:=0) rfl;have d2:=lh (aEd (n:=nk) (c:=c1) (qN cs [a,j]) c6.o (by rw[vU];simp) (f'.o.fr B.o) (by have:=g0.o;have:=B.o.size;omega) g1.o.symm c'.o d0.o);go_wp2_with fail;refine d2.o.mono ?_;rintro e5 t ⟨vd,rfl,I,a5⟩;have O:(qN cs [a,j]).length=3:=by rw[vU];rfl
   rw[O]at I;obtain⟨Ad,cd,rfl,_,_⟩:=sA I;obtain⟨gd,rfl,e8⟩:=tE I (by omega);have g5:=e8 13 (.int .i64 (a:Int)) rfl;have d3:=lh (U.o.trans (B.o.trans a5));have C:=lh (iB HB.o (B.o.trans a5) (by simp));clear I e8 a5 d2 O b0;obtain⟨A9,c9,rfl,_,_⟩:=sA C.o;go_upto_region 14 with fail
   refine fE ?_
   iterate 5 (refine rn rfl (by go_simp<;>with_reducible rfl) ?_;simp only[nrm])
   refine lp fun K hK=>?_;refine xB (v:=.slice (some ⟨t.heap.size,0,none⟩) 1 1) (w':=t.alloc (.cells #[.int .i64 (a:Int)] 3)) (by go_simp<;>rfl) (hK _ _ ?_);simp only[nrm];clear hK;have a2:=Blk.new t 3 [.int .i64 (a:Int)];have d4:Fr [] t (t.alloc (.cells #[.int .i64 (a:Int)] 3)):=(Fr.refl [] t).alloc _;have d5:(t.alloc (.cells #[.int .i64 (a:Int)] 3)).heap.size=t.heap.size+1:=by simp
   change Blk (t.alloc (.cells #[.int .i64 (a:Int)] 3)) _ _ _ at a2
   generalize t.alloc (.cells #[.int .i64 (a:Int)] 3)=w6 at *;have d6:=lh d4;have g6:=lh a2;clear d4 a2;refine lp fun K hK=>?_;refine eD (.tmp 48) (.tmp 53) rfl 3 1 8 Go.Proofs.Tryz.underlying55 h5 h6 d' h7 rfl (by omega) (.slice A9 i c9) i ((b.take i).map bT) rfl (jK (iB C.o d6.o (by simp))) ⟨t.heap.size,0,none⟩ 1 1 [.int .i64 (a:Int)] rfl rfl (fun j u f=>by rw[Go.Addr.add_mid,cC];exact g6.o.at_ f) (by intro u f;simp only[kB,yG,aG]at f;subst f;rfl) (by omega) (by unfold maxLen;have:=y.o;omega) (by have:=y.o;omega) (t.heap.size+1) d5 fun g7 c7 w7 f3 f4 Q f5=>hK _ _ ?_;simp only[nrm];clear hK;refine rn rfl (by go_simp<;>with_reducible rfl) ?_;simp only[nrm];refine sE ?_;have i4:=d3.o.size
   have g9:Hid (w7.ownsRow wb.heap.size 3 1 (.slice (some ⟨g7,0,none⟩) (i+1) c7) (i+1) ((b.take (i+1)).map bT)):=lh (by
    rw[f9.o]
    exact vP f3 fun g' i0=>by
     have e:g7=g':=by simpa[Value.ownBlock]using i0
     subst e;rcases Q with h|h
     ·exact lF C.o _ h
     ·omega)
   have h0:Hid (Fr [] wb w7):=lh ((FrB.of f4 fun x hx=>lF C.o x (by simpa using hx)).after (d3.o.trans d6.o) (tA _));clear f3 f4 Q f5 d5 g5;have i5:IntKind.i64.wrap ((i:Int)+1)=((i+1:Nat):Int):=by have:=y.o;rw[iD];omega
   go_wp2_with fail
   go_roundg (n-(i+1))
   case measure=>omega
   case rel=>exact⟨i+1,by rw[s.o];omega,rfl,g9.o,h0.o⟩
  ·obtain rfl:i=n:=by omega
   have D:=HB.o;rw[zF (by rw[s.o];exact tA _)]at D;have h3:=lh (aIZ (L:=b) (by rw[s.o];exact D) (by rw[s.o];have:=y.o;omega) U.o.size);obtain⟨A9,c9,rfl,_,_⟩:=sA D;have h4:=lh D;clear D;go_wp2_with fail;refine h3.o.mono ?_;rintro e w8 ⟨v8,g8,rfl,a6,e9,e'⟩;have z:Fr [] wb w8:=(FrB.of e' fun x hx=>lF h4.o x (by simpa using hx)).after U.o (tA _);have HX:=lh (HQ.o _ _ ⟨v8,g8,rfl,a6,aF c4.o.size e9,c4.o.trans z⟩);obtain⟨A8,c8,_,rfl,_,_⟩:=_root_.id a6;clear a6 e9 e' z;go_wp2_with fail;exact HX.o
end
end
end Go.Proofs.YtebjhcjbfaaejaaGreatDoor
