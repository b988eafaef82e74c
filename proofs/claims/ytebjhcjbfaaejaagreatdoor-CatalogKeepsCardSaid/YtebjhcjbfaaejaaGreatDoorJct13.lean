/-
  Joined: CatR CatS CatT CatU CatV CatW CatX CatY CbA CbB CbC CbD
-/
import Derived.Test.YtebjhcjbfaaejaaGreatDoorJct12
set_option maxRecDepth 100000
set_option maxHeartbeats 32000000
open Go.Value renaming int->ii,slice->si,string->sj,pointer->pi,tuple->tl,bool->ij,agg->il
open Go.IntKind renaming i64->ip,u8->ix,wrap->Wi
open Go.Obj renaming cells->iy
open Go.Ending renaming returned->iz
open Or renaming inl->Ii,inr->Ij
open List renaming length->li,replicate->ji,take_add_one->eJ,map_cons->xJ,flatMap_append->vO,length_nil->qP,mem_flatMap->wR,size_toArray->uU,push_toArray->aBi,append_toArray->aBj,takeWhile_cons->aDw,replicate_succ->aDx,zip_eq_zipWith->aHy
open Option renaming map_eq_some_iff->mI
open Go renaming info_parts->oJ,wp_load_mid->xQ
open Go.Proofs.Tryz renaming underlying35->rV,underlying91->rY,underlying55->aBc,underlying101->aDy,underlying100->aHx
namespace Go.Proofs.YtebjhcjbfaaejaaGreatDoor
open Go.Proofs.Tryz
variable {k:Nat}{w':World}{u:Value}{F:List Value}{α:Type}
section
open Go.RowKit
variable {F:Fence}{n l:Nat}{P:Program}{ops:Array Oper}{Q:Exit->Act->World->Prop}
def aSd {α:Type} (B:Nat) (Kp:World->World->Prop) (I:List α->World->Prop) (xs:List α) (W:World):Exit->Act->World->Prop
 | .normal,_,W'=>pU B W W'/\Kp W W'/\I xs W'
 | .ret,_,_=>False
 | .exit _,_,_=>False
 | .goto _,_,_=>False
 | .panic _,_,_=>False
 | .outgrown,_,_=>False
theorem rX {α:Type} {g:Operand} {ps:Array Tmp} {assign body:Code} {Q:Exit -> Act -> World -> Prop} {a:Act} {w:World} (hro:F.round=none) (h1:1<=n) {gf:Nat} {lb:Array Value} (hg:a.eval g=.func (.func gf) #[] lb) (hFg:F.fn gf) (eg:∀ args w,(callFunc gf args).run P w=.ok (.enter gf args) w) {encs:α -> Array Value} {Kp:World -> World -> Prop} {S:List α -> Prop} {T:List α -> α -> Prop} {N Bb:Nat} (hBb:Bb < w.heap.size) (hseq:∀ (l:Nat) (J:List α -> World -> Prop) (W:World),Fr [] w W -> (∀ pre W W',J pre W -> Fr [Bb] W W' -> J pre W') ->(∀ pre x W1,T pre x -> J pre W1 -> li pre < N -> YieldAt F (n - 1 - 1) P l (encs x) W1 λe W'=>e=iz (ij true)/\J (pre ++ [x]) W'/\Kp W1 W') ->J [] W -> CallsIn F (n - 1) P gf (#[.func (.yield l) #[] #[]] ++ lb) W λe W'=>(∃ v,e=iz v)/\∃ xs,S xs/\J xs W') (hKt:∀ {A B C:World},Kp A B -> Kp B C -> Kp A C) (hKb:∀ (W:World) (l:Nat) (o o':Obj),w.heap.size<=l -> W.heap[l]? = some o -> o.isCells=false -> Kp W (W.putObj l o')) (hps:∀ x,(encs x).size=ps.size) (I:List α -> World -> Prop) (hI:AbJ w.heap.size I) (hIB:∀ pre W W',I pre W -> Fr [Bb] W W' -> I pre W') (h0:I [] w) (M:List α -> α -> Act -> World -> Prop) (hM:∀ pre x a1 W o o',M pre x a1 W -> W.heap[w.heap.size+1]? = some o -> o.isCells=false -> M pre x a1 (W.putObj (w.heap.size+1) o')) (hassign:∀ (l:Nat) (pre:List α) (x:α) (W:World) (K:Act -> World -> Prop),w.heap.size+2<=W.heap.size -> T pre x -> I pre W -> li pre < N -> (∀ a1 W1,pU w.heap.size W W1 -> Kp W W1 -> M pre x a1 W1 -> K a1 W1) ->assign.wpIn (F.inRound l) (n - 1 - 1) P (Exit.then K (λ_ _ _=>False)) { tmps:=(ps.zip (encs x)).foldl (λt (p,v)=>t.setIfInBounds p v) a.tmps,defers:=[] } W) (hbody:∀ (l:Nat) (pre:List α) (x:α) (a1:Act) (W:World),w.heap.size+2<=W.heap.size -> T pre x -> M pre x a1 W -> li pre < N -> body.wpIn (F.inRound l) (n - 1 - 1) P (aSd w.heap.size Kp I (pre ++ [x]) W) a1 W) (hdone:∀ (xs:List α) (W:World),w.heap.size+2<=W.heap.size -> S xs -> I xs W -> W.heap[w.heap.size]? = some (.deferred (some [])) -> Q .normal { a with defers:={ target:=.collected w.heap.size,args:=#[] } :: a.defers } W): (Code.rangeFunc g ps assign body).wpIn F n P Q a w:=by
 refine wpIn_rangeFunc ?_;intro fn hfn;rw[hro];obtain⟨rec,hrec⟩:∃ rec:LoopState -> Option Code -> Loop,rec=λst pe=>{ state:=st,pending:=pe,fn,tmps:=a.tmps,params:=ps,assign,body,defers:=w.heap.size }:=⟨_,rfl⟩;obtain⟨W1,hW1⟩:∃ W1,(w.alloc (.deferred (some []))).alloc (.loop (rec .ready none))=W1:=⟨_,rfl⟩;have hL1:W1.heap[w.heap.size+1]? = some (.loop (rec .ready none)):=by rw[<- hW1];have:=World.alloc_heap_new (w.alloc (.deferred (some []))) (.loop (rec .ready none));rwa [qB] at this
 have hK1:W1.heap[w.heap.size]? = some (.deferred (some [])):=by rw[<- hW1];exact(Below.heap_alloc _ _ _ (by simp)).trans (World.alloc_heap_new w _)
 have hI1:I [] W1:=by rw[<- hW1];exact hI.alloc _ _ _ (hI.alloc _ _ _ h0 (Ii rfl)) (Ij (by simp))
 have hb1:Fr [] w W1:=by rw[<- hW1];exact((jj [] w).alloc _).alloc _
 refine⟨w.heap.size+1,[{ target:=.collected w.heap.size,args:=#[] }],W1,{ target:=.fn (.func gf) lb,args:=#[.func (.yield (w.heap.size+1)) #[] #[]] },W1,gf,#[.func (.yield (w.heap.size+1)) #[] #[]] ++ lb,W1,?_,?_,?_,?_,λ_=>h1,?_⟩;·rw[<- hW1,hrec];exact run_enterLoop_outer _ _ _ _ _
 ·simp only[resolve,hg];simp[go_sem]
 ·intro f' hf';simp[Target.leads] at hf';subst hf';exact hFg
 ·simp[invoke,go_sem,eg]
 refine(hseq (w.heap.size+1) (λpre W=>I pre W/\W.heap[w.heap.size+1]? = some (.loop (rec .ready none))/\W.heap[w.heap.size]? = some (.deferred (some []))) W1 hb1 (λs A B hs hf=>⟨hIB _ _ _ hs.1 hf,by
   have h1:=(wJ.1 hs.2.1).1;rw[hf.block _ h1 (by simp;omega)];exact hs.2.1,by
   have h1:=(wJ.1 hs.2.2).1;rw[hf.block _ h1 (by simp;omega)];exact hs.2.2⟩) ?_ ⟨hI1,hL1,hK1⟩).mono ?_
 ·rintro pre x W hT ⟨hi,hl,hk⟩ hlen;have hy:=run_yield (P:=P) (args:=encs x) hl (by rw[hrec];exact hps x);rw[hrec] at hy;refine⟨fn,_,assign,body,hy,roundIn_of_wpIn hfn (hassign _ pre x W _ (aBo (wJ.1 hl).1) hT hi hlen λa1 W0 hk0 hkp0 hm0=>?_)⟩;have hl0:W0.heap[w.heap.size+1]? = some (.loop (rec .ready none)):=hk0.2.2.trans hl;have hd0:W0.heap[w.heap.size]? = some (.deferred (some [])):=hk0.2.1.trans hk;have hlt:w.heap.size+1 < W0.heap.size:=(wJ.1 hl0).1;refine⟨_,run_beginRound hl0 (by rw[hrec]),?_⟩;have hl2:(W0.putObj (w.heap.size+1) (.loop { rec .ready none with state:=.busy })).heap[w.heap.size+1]? = some (.loop { rec .ready none with state:=.busy }):=World.putObj_heap_same hlt;have hk2:(W0.putObj (w.heap.size+1) (.loop { rec .ready none with state:=.busy })).heap[w.heap.size]? = some (.deferred (some [])):=(World.putObj_heap_other (by omega)).trans hd0;have hw2:Kp W (W0.putObj (w.heap.size+1) (.loop { rec .ready none with state:=.busy })):=hKt hkp0 (hKb _ _ _ _ (by omega) hl0 rfl);refine wpIn_mono (hbody _ pre x a1 _ (aBo (wJ.1 hl2).1) hT (hM _ _ _ _ _ _ hm0 hl0 rfl) hlen) ?_;rintro e a3 W3 hp;cases e with
  | normal=>obtain⟨hk3,hkp3,hi3⟩:=hp;have hl3:=hk3.2.2.trans hl2;have hr:=run_endRound (P:=P) none hl3;rw[hrec] at hr hl3;exact⟨_,_,hr,rfl,⟨hI.put _ _ _ _ hi3 hl3 rfl,(World.putObj_heap_same (wJ.1 hl3).1).trans (by rw[hrec];rfl),(World.putObj_heap_other (by omega)).trans (hk3.2.1.trans hk2)⟩,hKt (hKt hw2 hkp3) (hKb _ _ _ _ (by omega) hl3 rfl)⟩
  | ret=>exact hp.elim
  | exit id=>exact hp.elim
  | goto t=>exact hp.elim
  | panic ch=>exact hp.elim
  | outgrown=>exact hp.elim
 rintro e W2 ⟨⟨v,rfl⟩,xs,hS,hi,hl,hk⟩;exact⟨none,_,by have:=run_endLoop (P:=P) hl (by rw[hrec];simp);rw[hrec] at this;exact this,hdone xs _ (aBo (wJ.1 (World.putObj_heap_same (wJ.1 hl).1)).1) hS (hI.put _ _ _ _ hi hl rfl) ((World.putObj_heap_other (by omega)).trans hk)⟩
theorem qQ(d:∀a w,¬Q .outgrown a w):∀(L:List Oper),(∀o∈L,∀c,o.op≠.defer c)->∀a w,wpList P ops Q L a w->wpListIn (Fence.wide.inRound l) n P ops Q L a w
 | [],_,_,_,b=>b
 | o::L,hd,a,w,b=>by
  unfold wpList at b;unfold wpListIn;split
  ·rename_i f;rw[iA f]at b;obtain b|⟨_,i,j,b⟩:=b
   ·exact aEm (hd o (eC ..)) (Oper.wp_mono (λa w b=>qQ d L (λg h=>hd g (jD _ h)) a w b) b)
   exact absurd b (d _ _)
  rename_i f;rw[eA f]at b;exact⟨λ_ _=>trivial,qQ d L (λg h=>hd g (jD _ h)) _ _ b⟩
theorem aBY{L:List Oper}{a:Act}{w:World}(b:aAi L.toArray=true)(c:∀a w,¬Q .outgrown a w)(h:wpList P L.toArray Q L a w):(Code.region k L.toArray false).wpIn (Fence.wide.inRound l) n P Q a w:=wpIn_region_lit (qQ c L (λg f=>by obtain⟨i,d⟩:=List.getElem?_of_mem f;exact aAj b (i:=i) (by simpa using d)) _ _ h)
end
section
open Go.RowKit Go.Shelf
attribute [local go_sem] Oper.semAt_some
theorem aPL{w:World}{q off n c:Nat}(p:Pt){rest:List UInt8}(b:p.ok)(h:BAt w q off (p.bytes++rest))(d:n=li (p.bytes++rest))(g:n<=c)(f:n<=1000000): Calls prog 104 #[si (some ⟨q,off,none⟩) n c] w (oW p q rest w):=
 match p,b,h,d with
 | .str s,b,h,d=>aPJ s b.1 h d g f
 | .num m,b,h,d=>aPK m b h d g f
def aSe (W:World) (b:Nat):Nat:=match W.cell? ⟨b,0,none⟩ with|some (.slice _ n _)=>n|_=>0
def KpB (B q:Nat) (W W':World):Prop:=W.heap.size<=W'.heap.size/\W'.heap[B]? = W.heap[B]? /\ W'.heap[q]? = W.heap[q]?
theorem aKH(p:Pt):∃(b:Int) (c:ByteArray) (d:Int),p.vals=[ii ip b,ij false,ij false,sj { data:=#[] },ii ip 0,sj c,ii ip d]:=by
 cases p with
 | str s=>exact⟨_,_,_,rfl⟩
 | num m=>exact⟨_,_,_,rfl⟩
theorem aSf(p:Pt):0<li p.bytes:=by cases p<;>exact Nat.succ_pos _
theorem aSg(n l Bb q:Nat)(P:List Pt)(f:∀p∈P,p.ok)(g:li (pD P)<=1000000)(a1:1<=n)(O:q≠Bb)(d:List Pt->World->Prop) (H:∀pre W b,d pre W->Fr [Bb] W b->d pre b) (Q:∀pre (x:Pt) W,(pre=P.take (li pre)/\P[li pre]? = some x)->d pre W->li pre<li P->YieldAt Fence.wide (n-1) prog l #[il x.vals.toArray,ij true] W λe b=>e=iz (ij true)/\d (pre++[x]) b/\KpB Bb q W b) (W:World){off c:Nat}(z:Blk W Bb 67 [si (some ⟨q,off,none⟩) (li (pD P)) c])(h:li (pD P)<=c)(i:BAt W q off (pD P))(h0:d [] W): CallsIn Fence.wide n prog 103 #[.func (.yield l) #[] #[],pi (some Bb)] W λe b=>(∃v,e=iz v)/\∃ys,ys=P/\d ys b:=by
 have⟨U,V⟩:=hh2 f g;refine callsIn_of_wp func103 rfl trivial ?_ rfl;simp only[ntmps103,uU,bD,qP,Nat.reduceAdd,Nat.reduceSub,Array.replicate_succ,aBh,aBi,aBj,nG,lI];gi_wp2;gi_loopw [4] (λv4 wr=>∃b off c,b<=li P/\d (P.take b) wr/\Blk wr Bb 67 [si (some ⟨q,off,none⟩) (li (pD (P.drop b))) c]/\li (pD (P.drop b))<=c/\BAt wr q off (pD (P.drop b))) (λ_ W=>aSe W Bb);·exact⟨0,off,c,uB _,h0,z,h,i⟩
 obtain⟨b,J,L,X,A,d,k,B⟩:=hrel;by_cases m:b<li P
 ·obtain⟨p,h⟩:=gx (l:=P) m;have I:=U.o p (kF h);have j:pD (P.drop b)=p.bytes++pD (P.drop (b+1)):=by
   rw[xM m];have:P[b]=p:=(by rw[kE m]at h;exact tE h);rw[this];rfl
  have y:li (pD (P.drop b))<=1000000:=by have f:pD P=pD (P.take b)++pD (P.drop b):=(by unfold pD;rw[<- vO,bL]);have i:=congrArg List.length f;rw[iB]at i;have:=V.o;omega
  obtain⟨rest,F⟩:∃rest,pD (P.drop (b+1))=rest:=⟨_,rfl⟩;rw[F]at j;rw[j]at d k B y;obtain⟨r,t,u,G⟩:=aKH p;have g:=aPL p I B rfl k y;unfold oW at g;rw[G]at g;have⟨C,HV⟩:=hh2 g G;obtain⟨g,y⟩:∃g,li (p.bytes++rest)=g:=⟨_,rfl⟩;rw[y]at d k C;have B:=lh y;have S:(0:Int)<(g:Int):=(by have f:=aSf p;have i:g=li p.bytes+li rest:=(by rw[<- y,iB]);omega);have y:=d.a 0;have G:=d.free;have⟨D,Z,s,HP⟩:=hh4 d A F h;have T:=lh j;gi_wp2_with (refine⟨trivial,?_⟩;gi_at_call 104;refine(uN.2 C.o).mono ?_;rintro e j ⟨h,k,rfl,M,N,I⟩);have F:Fr [] wr (j.alloc (iy #[r,ij false,ij false,sj { data:=#[] },ii ip 0,sj t,u] 107)):=I.trans ((jj [] j).alloc _);have I:BAt (j.alloc (iy #[r,ij false,ij false,sj { data:=#[] },ii ip 0,sj t,u] 107)) q h rest:=N.fr ((jj [] j).alloc _);have⟨E,a3,a4⟩:=hh3 F I M;generalize j.alloc (iy #[r,ij false,ij false,sj { data:=#[] },ii ip 0,sj t,u] 107)=u at *;have j:li (P.take b)=b:=(by rw[pB];omega);obtain⟨N,Y,R,a0,r,t⟩:=Q (P.take b) p u ⟨by rw[j],by rw[j];exact HP.o⟩ (H _ _ _ Z.o (E.o.mono (by simp))) (by rw[j];exact m);rw[HV.o]at r;have M:∀W:World,(binOp .eql 67 (si (some ⟨q,h,none⟩) (li rest) k) (si none 0 0)).run prog W=.ok (ij false) W:=λW=>(by kernel_rfl);rw[r];gi_wp2;refine t.mono ?_;rintro e j ⟨rfl,F,Q,r,I⟩;have m:Hid (Blk j Bb 67 [si (some ⟨q,J,none⟩) g L]):=lh (r.trans (D.o.fr E.o));have G:=m.o.free;have y:=m.o.a 0;gi_wp2;have r:Fr [Bb] j (j.setCell Bb (si (some ⟨q,h,none⟩) (li rest) k)):=(jj _ _).setCell (Ii (by simp)) _;have t:=m.o.set_ 0 (si (some ⟨q,h,none⟩) (li rest) k);have m:P.take (b+1)=P.take b++[p]:=(by rw[eJ,HP.o];rfl);refine⟨⟨b+1,h,k,by omega,?_,?_,?_,?_⟩,?_⟩;·rw[m];exact H _ _ _ F r
  ·rw[s.o];exact t
  ·rw[s.o];exact a4.o
  ·rw[s.o];intro k m z;have f:=a3.o k m z;have i:j.cell? ⟨q,h+k,none⟩=some (ii ix (m.toNat:Int)):=(World.cell?_of_block (w:=u) I).trans f;exact yD r i (by simpa using O)
  unfold aSe;rw[t.a 0,D.o.a 0];show li rest<g;have f:=B.o;have i:=aSf p;rw[iB]at f;omega
 obtain rfl:b=li P:=(by omega);have b:pD (P.drop (li P))=[]:=(by rw[List.drop_length];rfl);rw[b]at d;have y:=d.a 0;have b:=A;rw[List.take_length]at b;have d:=lh b;gi_wp2;go_end0;exact⟨⟨_,rfl⟩,_,rfl,d.o⟩
attribute [local go_sem] Oper.semAt_some
theorem aPM(A:Option Addr)(n c:Nat)(w:World):Calls prog 73 #[si A n c] w λe b=>e=iz (.func (.func 103) #[] #[pi w])/\b=w.alloc (iy #[si A n c] 67):=by have d:∀(fn:Fn) (first cap:Array Value) (w:World),(Instr.makeFunc fn first cap).run prog w=.ok (.func fn first cap) w:=λ_ _ _ _=>rfl;refine cA λf b=>?_;go_enter func73,ntmps73;go_wp2_with fail;exact b.o _ _ ⟨rfl,rfl⟩
structure aPN (w:World) (pre:List Pt) (W:World):Prop where
 fr:Fr [] w W
 sz:w.heap.size+4<=W.heap.size
 out:∃v,Blk W (w.heap.size+2) 101 [v]/\W.ownsRow (w.heap.size+6) 107 7 v pre.length (cJ pre)
 b2:Blk W w.heap.size 101 [.slice none 0 0]
 b3:Blk W (w.heap.size+1) 27 [.int .i64 0]
theorem aPN.go{w W:World}{c:List Pt}{S:List Nat}(h:aPN w c W)(b:Fr S W w')(f:∀x∈S,x=w.heap.size+3∨x=w.heap.size+5):aPN w c w':=by
 obtain⟨j,k,i⟩:=h.out;have d:∀c,(c<3∨6<=c∨c=4)->w.heap.size+c∉S:=λc l g=>by rcases f _ g with h|h<;>omega
 refine⟨h.fr.trans b λx c=>Ij (by rcases f x c with h|h<;>omega),vD h.sz b.size,⟨j,k.fr b (d 2 (by omega)),fB i b λc j g=>?_⟩,h.b2.fr b (d 0 (by omega)),h.b3.fr b (d 1 (by omega))⟩;have:=sC i c j;rcases f c g with h|h<;>omega
def decF (w:World) (q off n c g:Nat) (x:Pt):Act:=
 { tmps:=#[.slice (some ⟨q,off,none⟩) n c,undef,.pointer (some ⟨w.heap.size,0,none⟩),.pointer (some ⟨w.heap.size+1,0,none⟩),.pointer (some ⟨w.heap.size+2,0,none⟩),.pointer (some ⟨g,0,none⟩),.bool true,
   .slice (some ⟨q,off,none⟩) n c,.func (.func 103) #[] #[.pointer (some ⟨w.heap.size+3,0,none⟩)],.agg x.vals.toArray,.bool true,undef,undef,undef,undef,undef,undef,undef,undef,undef,undef,undef,undef],defers:=[] }
def DecM (w:World) (q off n c:Nat) (pre:List Pt) (x:Pt) (a1:Act) (W:World):Prop:=
 ∃g,a1=decF w q off n c g x/\Blk W g 107 x.vals/\w.heap.size+6<=g/\aPN w pre W
theorem aFp{w:World}{q off n c:Nat}(P:List Pt)(o:∀p∈P,p.ok)(r:li P<=15)(s:BAt w q off (pD P))(l:q<w.heap.size)(D:n=li (pD P))(u:n<=c)(x:n<=1000000): Calls prog 41 #[si (some ⟨q,off,none⟩) n c] w λe w'=>∃v,e=iz (tl #[v,ii ip 0])/\w'.ownsRow (w.heap.size+6) 107 7 v (li P) (cJ P)/\Fr [] w w':=by
 refine cA λa9 a1=>?_;have⟨c',b1,HB,Z,HN,HC,d0⟩:=hh7 o r s l D u x;obtain⟨f,b⟩:=nm (((w.alloc (iy #[si none 0 0] 101)).alloc (iy #[ii ip 0] 27)).alloc (iy #[si none 0 0] 101));have t:f.heap.size=w.heap.size+3:=by rw[b];simp
 obtain⟨k,j⟩:=nm (f.alloc (iy #[si (some ⟨q,off,none⟩) n c] 67));have g:k.heap.size=w.heap.size+4:=by rw[j];simp[t]
 have d:Fr [] w k:=by rw[j,b];exact((((jj [] w).alloc _).alloc _).alloc _).alloc _
 have h:aPN w [] k:=by
  refine⟨d,by omega,⟨si none 0 0,?_,gD _ _ _ _⟩,?_,?_⟩;·rw[j,b];have:=jl ((w.alloc (iy #[si none 0 0] 101)).alloc (iy #[ii ip 0] 27)) 101 [si none 0 0];rw[qB,qB]at this;exact this.alloc _
  ·rw[j,b];exact(((jl w 101 [si none 0 0]).alloc _).alloc _).alloc _
  rw[j,b];have:=jl (w.alloc (iy #[si none 0 0] 101)) 27 [ii ip 0];rw[qB]at this;exact(this.alloc _).alloc _
 have m:Blk k (w.heap.size+3) 67 [si (some ⟨q,off,none⟩) n c]:=by rw[j,<- t];exact jl f _ [si (some ⟨q,off,none⟩) n c]
 have⟨d1,d2,y,d3,d4,d5,e5⟩:=hh7 h m g d b j t;clear o r s l D u x b j t g d h m;refine(uN (n:=5)).1 ?_;refine callsIn_of_wp_marks func41 rfl trivial ?_ rfl;simp only[ntmps41,uU,bD,qP,Nat.reduceAdd,Nat.reduceSub,Array.replicate_succ,aBh,aBi,aBj,nG,lI];gi_wp2_with (refine⟨trivial,?_⟩;gi_at_call 73;refine(uN.2 (aPM _ _ _ _)).mono ?_;rintro e w' ⟨rfl,rfl⟩);rw[show((((w.alloc (iy #[si none 0 0] 101)).alloc (iy #[ii ip 0] 27)).alloc (iy #[si none 0 0] 101)).alloc (iy #[si (some ⟨q,off,none⟩) n c] 67))=k by rw[d5.o,d4.o]];rw[show w.heap.size+1+1+1=w.heap.size+3 by omega,show w.heap.size+1+1=w.heap.size+2 by omega];refine rX (F:=Fence.wide) (n:=5) (T:=λg (d:Pt)=>g=P.take (li g)/\P[li g]? = some d) (N:=li P) (Bb:=w.heap.size+3) (S:=λb=>b=P) (Kp:=KpB (w.heap.size+3) q) rfl (by omega) (gf:=103) (lb:=#[pi (some ⟨w.heap.size+3,0,none⟩)]) (encs:=λd:Pt=>#[il d.vals.toArray,ij true]) rfl trivial (enters_of func103 (by kernel_rfl) rfl) (by rw[y.o];omega) (λO f b u h m o=>aSg 4 O (w.heap.size+3) q P c'.o (by have:=HN.o;have:=d0.o;omega) (by omega) (by have:=Z.o;omega) f h m b (by rw[<- HN.o];exact d2.o.fr u) (by have:=HN.o;have:=HC.o;omega) ((HB.o.fr d3.o).fr u) o) (λA B=>⟨vD A.1 B.1,B.2.1.trans A.2.1,B.2.2.trans A.2.2⟩) ?_ (λ_=>rfl) (λg b=>aPN w g b) ?_ (λg b a' h o=>h.go o (by intro d r;left;exact xA.1 r)) d1.o (DecM w q off n c) ?_ ?_ ?_ ?_;·intro b O f m x s _;have A:=Z.o;have B:=y.o;exact⟨by simp,World.putObj_heap_other (by omega),World.putObj_heap_other (by omega)⟩
 ·refine⟨λz b h=>h.go ((jj [] b).drew) (by simp),λz b f h _=>h.go ((jj [] b).alloc f) (by simp),λz b f m h x s=>h.go (S:=[w.heap.size+5]) ((jj _ b).grown (grownBy_putObj' _ _ m) (λW e=>by cases e;exact Ii (by rw[y.o];simp))) (by simp)⟩
 ·rintro g d a0 b f m ⟨Q,rfl,H,M,f⟩ x s;have o:Fr [w.heap.size+5] b (b.putObj (k.heap.size+1) m):=(jj _ b).grown (grownBy_putObj' _ _ m) (λW e=>by cases e;exact Ii (by rw[y.o];simp));exact⟨Q,rfl,H.fr o (by simp;omega),M,f.go o (by simp)⟩
 ·intro O g d b K L z f V hK;obtain⟨a6,a7,a8,x⟩:=aKH d;have I:w.heap.size+6<=b.heap.size:=by rw[y.o]at L;omega
  have m:Fr [] b (b.alloc (iy d.vals.toArray 107)):=(jj [] b).alloc _;have o:=hK (decF w q off n c b.heap.size d) (b.alloc (iy d.vals.toArray 107)) ⟨m.size,m.block _ (by omega) (by simp),m.block _ (by omega) (by simp)⟩ ⟨m.size,m.block _ (by omega) (by simp),m.block _ (by have:=Z.o;omega) (by simp)⟩ ⟨b.heap.size,rfl,jl b _ d.vals,I,f.go m (by simp)⟩;unfold decF at o;rw[x]at o⊢;have m:=lh o;clear hK o x z f;gi_wp2;exact m.o
 ·rintro O g d a0 b L ⟨G,O⟩ ⟨Q,rfl,H,M,f⟩ V;obtain⟨v,x,s⟩:=f.out;obtain⟨m,o,rfl,_,_⟩:=jA s;have U:=x.a 0;have Y:=x.free;have E:((li g:Int)==16)=false:=by rw[lE];have:=b1.o;omega
  have⟨b6,HG,HI,X,b8⟩:=hh5 H M f s x;have D:Hid (li g<=15):=lh (by have:=b1.o;omega);obtain⟨k,j⟩:∃k,li g=k:=⟨_,rfl⟩;rw[j]at U E X b8 D;have J:=lh j;clear H M f s x G O V j L;unfold decF;iterate 40 (first|go_values|gi_guarded|gi_step|gi_upon)
  obtain⟨R,f,G,I,O⟩:=oJ aBV;refine aBY (by kernel_rfl) (λ_ _ h=>h) ?_;refine ab ?_;refine lp λK hK=>xQ 107 (.tmp 5) rfl Q 0 rfl d.vals _ (λQ U s=>by rw[nB];exact b6.o.at_ s) Go.Proofs.Tryz.underlying107 rfl (by rw[iF];exact qK) (hK _ _ ?_);simp only[nrm];clear hK;refine lp λK hK=>qC (.tmp 19) rfl aDy f G d.vals rfl (by rw[iF];exact I) (by rw[iF];rfl) (by rw[iF];omega) (by rw[iF];omega) (hK _ _ ?_);simp only[nrm];clear hK;have E:=jl b 107 d.vals;have C:Fr [] b (b.alloc (iy d.vals.toArray 107)):=(jj [] b).alloc _;have M:(b.alloc (iy d.vals.toArray 107)).heap.size=b.heap.size+1:=by simp
  change Blk (b.alloc (iy d.vals.toArray 107)) _ _ _ at E;generalize b.alloc (iy d.vals.toArray 107)=a1 at *;have⟨i,d9⟩:=hh2 C E;clear C E;have V:li (cJ g)=k*7:=by rw[aFk,J.o]
  refine lp λK hK=>fC (.tmp 18) (.tmp 20) rfl 107 7 72 aDy f G I O rfl (by omega) (si m k o) k (cJ g) rfl (gF (fB X.o i.o (by simp))) ⟨b.heap.size,0,none⟩ 1 1 d.vals rfl (by rw[iF]) (λQ U s=>by rw[Go.Addr.add_mid,nB];exact d9.o.at_ s) (zS d) (by omega) (by unfold maxLen;have:=D.o;omega) (by have:=D.o;omega) (b.heap.size+1) M λu f I Q C M a0=>hK _ _ ?_;simp only[nrm];clear hK;have D:∀z,z<6->w.heap.size+z∉(si m k o).ownBlock.toList:=λz W j=>by have A:=sC X.o _ (by simpa using j);omega
  have z:=(b8.o.fr i.o).fr C (D 2 (by omega));have U:=z.a 0;have W:=z.free;refine lp λK hK=>rB (w':=I.setCell ⟨w.heap.size+2,0,none⟩ (si (some ⟨u,0,none⟩) (k+1) f)) (by go_simp) (hK _ _ ?_);simp only[Act.put];clear hK;refine wB ?_;have s:Fr [w.heap.size+2] I (I.setCell ⟨w.heap.size+2,0,none⟩ (si (some ⟨u,0,none⟩) (k+1) f)):=(jj _ _).setCell (Ii (by simp)) _;have O:=z.set_ 0 (si (some ⟨u,0,none⟩) (k+1) f);obtain⟨G,z⟩:=nm (I.setCell ⟨w.heap.size+2,0,none⟩ (si (some ⟨u,0,none⟩) (k+1) f));have I:Blk G (w.heap.size+2) 101 [si (some ⟨u,0,none⟩) (k+1) f]:=by rw[z];exact O
  rw[<- z]at s⊢;have L:=HI.o.sz;have L:w.heap.size+6<=b.heap.size:=vD HG.o (Nat.le_of_lt b6.o.lt);have z:∀f,f<w.heap.size+6->f≠w.heap.size+2->(w.heap.size<=f->f∉(si m k o).ownBlock.toList)->G.heap[f]? = b.heap[f]?:=λf H E x=>by have x:f∉(si m k o).ownBlock.toList:=λj=>(by have A:=sC X.o _ (by simpa using j);omega);rw[s.block f (by have:=i.o.size;have:=C.size;omega) (by simpa using E),C.block f (by have:=i.o.size;omega) x,i.o.block f (by omega) (by simp)]
  have t:=y.o;have m:=Z.o;have f:b.heap.size<=G.heap.size:=vD i.o.size (vD C.size s.size);have b:Fr [] w G:=((HI.o.fr.trans i.o).trans C λd r=>Ij (by have:=sC X.o d (by simpa using r);omega)).trans s λd r=>Ij (by rw[xA.1 r];omega);refine⟨⟨f,z _ (by omega) (by omega) (λ_=>?_),z _ (by omega) (by omega) (λ_=>?_)⟩,⟨f,z _ (by omega) (by omega) (λ_=>D 3 (by omega)),z _ (by omega) (by omega) (λh=>by omega)⟩,b,by omega,⟨_,I,?_⟩,?_,?_⟩;·rw[t];exact D 4 (by omega)
  ·rw[t];exact D 5 (by omega)
  ·have e:li (g++[d])=k+1:=(by rw[iB,J.o];rfl);have b:cJ g++d.vals=cJ (g++[d]):=(by unfold cJ;rw[vO];simp);rw[e,<- b];refine fB (wL Q λq l=>?_) s ?_
   ·have:u=q:=(by simpa[Value.ownBlock]using l);subst this;obtain h|h:=M
    ·exact sC X.o _ h
    omega
   intro q l j;have A:u=q:=(by simpa[Value.ownBlock]using l);have B:q=w.heap.size+2:=xA.1 j;obtain h|h:=M;·have:=sC X.o _ h;omega
   omega
  ·exact((HI.o.b2.fr i.o).fr C (D 0 (by omega))).fr s
  exact((HI.o.b3.fr i.o).fr C (D 1 (by omega))).fr s
 rintro E b u rfl f z;obtain⟨v,x,s⟩:=f.out;obtain⟨m,o,rfl,_,_⟩:=jA s;have U:=x.a 0;have a2:=f.b2.a 0;have a3:=f.b3.a 0;have a4:=f.b2.free;have a5:=f.b3.free;have⟨HI,X,HD,HW⟩:=hh4 f s z u;clear f s x z u;gi_wp2;have t:=y.o;have G:Fr [w.heap.size] b (b.setCell ⟨w.heap.size,0,none⟩ (si m (li E) o)):=(jj _ _).setCell (Ii (by simp)) _;have B:=HI.o.b2.set_ 0 (si m (li E) o);have z:=HI.o.b3.fr G;generalize b.setCell ⟨w.heap.size,0,none⟩ (si m (li E) o)=u at *;have C:Fr [w.heap.size+1] u (u.setCell ⟨w.heap.size+1,0,none⟩ (ii ip 0)):=(jj _ _).setCell (Ii (by simp)) _;have Y:=z.set_ 0 (ii ip 0);have z:=(show Blk u w.heap.size 101 [si m (li E) o] from B).fr C;have R:(u.setCell ⟨w.heap.size+1,0,none⟩ (ii ip 0)).heap[k.heap.size]? = some (.deferred (some [])):=by have j:=(wJ.1 HD.o).1;rw[C.block _ (by have:=G.size;omega) (by simp;omega),G.block _ j (by simp;omega)];exact HD.o
 generalize u.setCell ⟨w.heap.size+1,0,none⟩ (ii ip 0)=j at *;have J:Fr [k.heap.size] j (j.putObj k.heap.size (.deferred none)):=(jj _ _).grown (grownBy_putObj' _ _ _) (λW e=>by cases e;exact Ii (by simp));have k:=(show Blk j (w.heap.size+1) 27 [ii ip 0] from Y).fr J (by simp;omega);have j:=z.fr J (by simp;omega);have z:=k.a 0;have u:=j.a 0;refine⟨by simp,Ii ⟨_,_,rfl,run_takeDeferred R,tl #[si m (li E) o,ii ip 0],?_,?_⟩⟩;·simp[results,f41,go_sem,z,u]
 have D:∀z,z<6->w.heap.size+z∉([]:List Nat)/\∀q,(si m (li E) o).ownBlock=some q->q≠w.heap.size+z:=λz W=>⟨by simp,λq l e=>by have:=sC X.o q l;omega⟩;refine a1.o _ _ ⟨_,rfl,fB (fB (fB X.o G λq l j=>(D 0 (by omega)).2 q l (xA.1 j)) C λq l j=>(D 1 (by omega)).2 q l (xA.1 j)) J λq l j=>(D 4 (by omega)).2 q l (by rw[xA.1 j,t]),((HI.o.fr.trans G λd r=>Ij (by rw[xA.1 r];exact tA _)).trans C λd r=>Ij (by rw[xA.1 r];omega)).trans J λd r=>Ij (by rw[xA.1 r];omega)⟩
def ddF:Int->List Int->List Int
 | _,[]=>[]
 | p,x::l=>if x=p then ddF p l else x::ddF x l
def dd:List Int->List Int
 | []=>[]
 | x::l=>x::ddF x l
theorem aFq:∀(l:List Int) (p b:Int),ddF p (l++[b])=if b=l.getLastD p then ddF p l else ddF p l++[b]
 | [],p,b=>rfl
 | x::l,p,b=>by
  rw[lI,List.getLastD_cons];unfold ddF;by_cases c:x=p;·subst c;rw[iA rfl,iA rfl,aFq l x b]
  rw[eA c,eA c,aFq l x b];split;·rfl
  rfl
theorem aTG{l:List Int}(c:l≠[])(b:Int):dd (l++[b])=if b=l.getLastD 0 then dd l else dd l++[b]:=by
 cases l with
 | nil=>exact absurd rfl c
 | cons d l=>
  show d::ddF d (l++[b])=if b=(d::l).getLastD 0 then d::ddF d l else d::ddF d l++[b]
  rw[List.getLastD_cons,aFq];split;·rfl
  rfl
theorem aPO{L:List Int}{k:Nat}{a:Int}(h:L[k]? = some a):(L.take (k+1)).getLastD 0=a:=by rw[eJ,h];simp[List.getLastD_eq_getLast?]
theorem aOe{L:List Int}{k:Nat}{a b:Int}(c:L[k]? = some a)(d:L[k+1]? = some b):dd (L.take (k+1+1))=if b=a then dd (L.take (k+1)) else dd (L.take (k+1))++[b]:=by
 have f:L.take (k+1+1)=L.take (k+1)++[b]:=by rw[eJ,d];rfl
 have g:L.take (k+1)≠[]:=λi=>by have h:=congrArg List.length i;rw[pB,qP]at h;have:=(uC.1 c).1;omega
 rw[f,aTG g,aPO c]
theorem aKI{L:List Int}(h:li L<2):dd L=L:=by
 match L,h with
 | [],_=>rfl
 | [x],_=>rfl
theorem aPP(n:Nat):(Builtin.zeroCells (ii ip 0).cells n).toList=ji n (ii ip 0):=by simp only[Builtin.zeroCells,Value.cells];refine List.eq_replicate_iff.2 ⟨by simp,λc b=>?_⟩;simp[Nat.mod_one]at b;exact b.2.symm
theorem aTH(w:World)(g:Nat)(b:Array Value):Fr [g] w (w.setRow g b):=(jj [g] w).setRow (Ii (by simp)) _
def oP (x:Int):Value:=.int .i64 x
theorem aKJ{w:World}{v:Value}{H:Nat}{L:List Int}(ho:w.ownsRow H 3 1 v (li L) (L.map oP))(hn:li L<=1000000)(hH:H<=w): Calls prog 46 #[v] w λe w'=>∃v' g,e=iz v'/\kH w' v' (li (dd L)) ((dd L).map oP) g/\H<=g/\Fr v.ownBlock.toList w w':=by
 refine cA λR HQ=>?_;obtain⟨rfl,h0⟩|⟨g,cap,cur,rfl,hg,hh,S,e2,c5,ht⟩:=ho.2;·have hl:L=[]:=uO.1 h0;subst hl;have N:=lh (HQ.o (iz (si none 0 0)) w ⟨_,w,rfl,kH.nil _ _ _,hH,jj _ _⟩);go_enter func46,ntmps46;go_wp2_with fail;exact N.o
 obtain⟨n,f⟩:∃n,li L=n:=⟨_,rfl⟩;rw[f]at hn S ht⊢;have U:Blk w g 3 cur.toList:=by unfold Blk;rw[hh]
 have wH:∀(i:Nat) (a:Int),L[i]? = some a->cur.toList[i]? = some (oP a):=λi a F=>by have h1:(cur.toList.take (n*1))[i]? = (L.map oP)[i]?:=(by rw[ht]);rw[uH,iA (by have:=(uC.1 F).1;omega),wI,F]at h1;exact h1
 obtain⟨C,hC⟩:∃C,cur.toList=C:=⟨_,rfl⟩;rw[hC]at U wH;have s:n<=li C:=by rw[<- hC];simp[c5];omega
 have b1:∀k,k<=n->C.take k=(L.take k).map oP:=λk hk=>by have h1:=congrArg (List.take k) ht;rw[hC,List.take_take,<- List.map_take]at h1;rwa [gO (by omega)]at h1
 have HB:=lh U;go_enter func46,ntmps46;by_cases h2:n<2
 ·have b4:decide ((n:Int)<2)=true:=dT;have N:=lh (HQ.o (iz (si g n cap)) w ⟨_,g,rfl,by
   rw[aKI (by rw[f];exact h2),f];exact⟨_,cap,0,rfl,S,λ_=>⟨rfl,λj u l=>by rw[wI,mI]at l;obtain⟨a,F,rfl⟩:=l;rw[nB];exact HB.o.at_ (wH j a F)⟩⟩,hg,jj _ _⟩)
  go_wp2_with fail;exact N.o
 have b4:decide ((n:Int)<2)=false:=dF;go_wp2_with fail;go_loopg [3] (n-1) (λj v3 wr=>∃k:Nat,1<=k/\k+j=n/\v3=ii ip (k:Int)/\dd (L.take k)=L.take k/\Fr [] w wr);·exact⟨1,tA _,by omega,rfl,aKI (by rw[pB];omega),jj _ _⟩
 obtain⟨k,e3,c6,rfl,a8,hf⟩:=hrel;by_cases e4:k<n
 ·obtain⟨G,a9⟩:∃G,G+1=k:=⟨k-1,by omega⟩;obtain⟨a,F⟩:∃a,L[G]? = some a:=gx (by rw[f];omega);obtain⟨b,U⟩:∃b,L[k]? = some b:=gx (by rw[f];omega);have x:=HB.o.fr hf;have X:=x.at_ (wH _ _ F);have cb:=x.at_ (wH _ _ U);unfold oP at X cb;have y:dd (L.take (k+1))=if b=a then dd (L.take k) else dd (L.take k)++[b]:=by subst a9;exact aOe F U
  have Y:=lh a8;have b5:L.take (k+1)=L.take k++[b]:=(by rw[eJ,U];rfl);have b6:=lh a9;have c8:Wi ip ((k:Int)-1)=(G:Int):=ak;have d1:(k:Int)<(n:Int):=(by omega);have d2:(G:Int)<(n:Int):=(by omega);have d3:G<n:=(by omega);have d4:¬ cap=k:=(by omega);have Z:k<=n:=(by omega);go_upto_region 6 with fail;have O:wr.drew.cell? ⟨g,G,none⟩=some (ii ip a):=X;have Q:wr.drew.cell? ⟨g,k,none⟩=some (ii ip b):=cb;refine aj (λW=>W.cell? ⟨g,G,none⟩=some (ii ip a)/\W.cell? ⟨g,k,none⟩=some (ii ip b)) [0,1,2,3,4,5,6,7,8,9] ?_;refine tks [0,1,2,3,4,5,6,7,8,9] ?_;iterate 10 (refine ac ⟨O,Q⟩ ?_)
  refine tke ?_;refine _root_.Go.Proofs.YtebjhcjbfaaejaaGreatDoor.wd ?_ _;have a0:=lh (hf.trans ((jj [] wr).drew));have b7:=lh (x.fr ((jj [] wr).drew));generalize wr.drew=wd at *;by_cases M:b=a
  ·have b8:(b==a)=true:=(by rw[beq_iff_eq];exact M);have h:dd (L.take (k+1))=L.take k:=(by rw[y,iA M,Y.o]);go_wp2_with fail;obtain⟨m,hm⟩:∃m,n-k=m:=⟨_,rfl⟩;obtain⟨c2,c7⟩:∃c2,cap-k=c2:=⟨_,rfl⟩;rw[hm,c7];have E:Hid (k+m=n/\G+1=k/\1<=m):=lh ⟨by omega,b6.o,by omega⟩;obtain⟨wo,rfl⟩:=nm (wr);go_loopg [3,5] (m-1) (λj v3 v5 wr=>∃(q d:Nat) (D:List Value),1<=d/\d+j=m/\k<=q/\q+1<=k+d/\v3=ii ip (q:Int)/\v5=ii ip (d:Int)/\Blk wr g 3 D/\li D=li C/\(∀i,k+d<=i+1->D[i]? = C[i]?)/\D.take q=(dd (L.take (k+d))).map oP/\Fr [g] w wr)
   case atStart=>exact⟨k,1,C,tA _,by have:=E.o;omega,tA _,tA _,rfl,rfl,b7.o,rfl,λ_ _=>rfl,by rw[h];exact b1 k Z,a0.o.mono (by simp)⟩
   case round=>
    obtain⟨q,d,D,h1,h2,h3,h4,rfl,rfl,hD,I,B,J,a'⟩:=hrel;by_cases e5:d<m
    ·obtain⟨p,hp⟩:∃p,p+1=d:=⟨d-1,by omega⟩;obtain⟨V,b0⟩:∃a,L[k+p]? = some a:=gx (by have:=E.o;rw[f];omega);obtain⟨b2,T⟩:∃b,L[k+d]? = some b:=gx (by have:=E.o;rw[f];omega);have X:=hD.at_ ((B _ (by omega)).trans (wH _ _ b0));have cb:=hD.at_ ((B (k+d) (by omega)).trans (wH _ _ T));unfold oP at X cb;have y:dd (L.take (k+d+1))=if b2=V then dd (L.take (k+d)) else dd (L.take (k+d))++[b2]:=by subst hp;exact aOe (k:=k+p) b0 T
     have a1:=lh J;have d5:=lh hp;have b9:Wi ip ((d:Int)-1)=(p:Int):=(by rw[yB];have:=E.o;omega);have c9:(d:Int)<(m:Int):=(by omega);have d6:(p:Int)<(m:Int):=(by omega);have d7:p<m:=(by omega);have d8:(q:Int)<(n:Int):=(by have:=E.o;omega);have d9:q<n:=(by have:=E.o;omega);go_upto_region 11 with fail;have O:wr.drew.cell? ⟨g,k+p,none⟩=some (ii ip V):=X;have Q:wr.drew.cell? ⟨g,k+d,none⟩=some (ii ip b2):=cb;refine aj (λW=>W.cell? ⟨g,k+p,none⟩=some (ii ip V)/\W.cell? ⟨g,k+d,none⟩=some (ii ip b2)) [0,1,2,3,4,5,6,7,8,9] ?_;refine tks [0,1,2,3,4,5,6,7,8,9] ?_;iterate 10 (refine ac ⟨O,Q⟩ ?_)
     refine tke ?_;refine _root_.Go.Proofs.YtebjhcjbfaaejaaGreatDoor.wd ?_ _;have a3:=lh (a'.trans ((jj [g] wr).drew) (λx hx=>Ii hx));have A:=lh (hD.fr ((jj [] wr).drew));generalize wr.drew=we at *;have b':Wi ip ((d:Int)+1)=((d+1:Nat):Int):=(by rw[yB];have:=E.o;omega);by_cases r:b2=V
     ·have a4:(b2==V)=true:=(by rw[beq_iff_eq];exact r);have h:dd (L.take (k+(d+1)))=dd (L.take (k+d)):=(by rw[<- yP,y,iA r]);go_wp2_with fail;go_roundg (m-(d+1))
      case measure=>have:=h2;omega
      case rel=>exact⟨q,d+1,D,by omega,by omega,h3,by omega,rfl,rfl,A.o,I,λi hi=>B i (by omega),by rw[h];exact a1.o,a3.o⟩
     have a4:(b2==V)=false:=(by rw[lE];exact r);have h:dd (L.take (k+(d+1)))=dd (L.take (k+d))++[b2]:=(by rw[<- yP,y,eA r]);have c0:=A.o.at_ ((B (k+d) (by omega)).trans (wH (k+d) b2 T));unfold oP at c0;obtain⟨u,l⟩:∃u,D[q]? = some u:=gx (by have:=I;have:=s;omega);have cq:=A.o.at_ l;have zq:=A.o.free q;have d':Wi ip ((q:Int)+1)=((q+1:Nat):Int):=ak;go_wp2_with fail;go_roundg (m-(d+1))
     case measure=>have:=h2;omega
     case rel=>
      refine⟨q+1,d+1,D.set q (ii ip b2),by omega,by omega,by omega,by omega,rfl,rfl,A.o.set_ q _,by rw[List.length_set];exact I,λi hi=>?_,?_,a3.o.trans ((jj [g] we).setCell (Ii (by simp)) _) λx hx=>Ii hx⟩;·rw[List.getElem?_set_ne (by omega)];exact B i (by omega)
      rw[h,tQ,<- a1.o,eJ,List.take_set_of_le (tA _),List.getElem?_set_self (by have:=I;have:=s;omega)];rfl
    obtain rfl:d=m:=(by omega);have e0:q<n:=(by have:=E.o;omega);have c':k+d=n:=E.o.1;have c1:L.take (k+d)=L:=zF (by rw[f];omega);rw[c1]at J;have a5:li (dd L)=q:=(by have h9:=congrArg List.length J;rw[pB,cH]at h9;have:=s;omega);have a6:=aCo (P:=prog) (t:=55) (ty:=0) (c:=cap-q) aBc (z:=ii ip 0) (by kernel_rfl) hD (n:=n-q) (off:=q) (zs:=ji (n-q) (ii ip 0)) (by omega) (aPP _) (by rw[kV];have:=s;omega) (by intro u l;rw[List.eq_of_mem_replicate l];rfl);have c3:=cW (cur:=D) (cs:=ji (n-q) (ii ip 0)) (off:=q) (m:=q) (tA _) (by have:=s;omega);have a7:=hD.row_ (splice D q (ji (n-q) (ii ip 0)));have N:=lh (HQ.o (iz (si g q cap)) (wr.setRow g (splice D q (ji (n-q) (ii ip 0))).toArray) ⟨_,g,rfl,by rw[a5];refine⟨_,cap,0,rfl,by omega,λ_=>⟨rfl,λj u l=>?_⟩⟩;rw[nB];refine a7.at_ ?_;have hj:j<q:=(by have:=(uC.1 l).1;rw[cH,a5]at this;exact this);rw[<- J]at l;rw[<- c3]at l;rw[uH,iA hj]at l;exact l,hg,a'.trans (aTH wr g _) λx hx=>Ii hx⟩);have d0:q<=n:=(by omega);have e1:¬ cap=q:=(by omega);go_upto_region 14 with fail;refine sB ?_;iterate 3 (refine ab ?_)
    refine sS rfl (.tmp 56) 55 rfl (si (some ⟨g,q,none⟩) (n-q) (cap-q)) rfl a6 ?_;simp only[Act.put];refine wB ?_;go_wp2_with fail;exact N.o
  have b8:(b==a)=false:=(by rw[lE];exact M);have h:dd (L.take (k+1))=L.take (k+1):=(by rw[y,eA M,Y.o,b5]);have b':Wi ip ((k:Int)+1)=((k+1:Nat):Int):=ak;go_wp2_with fail;go_roundg (n-(k+1))
  case measure=>have:=c6;omega
  case rel=>exact⟨k+1,by omega,by omega,rfl,h,a0.o⟩
 obtain rfl:k=n:=(by omega);have x:=HB.o.fr hf;have c4:dd L=L:=by have:=a8;rwa [zF (by rw[f];exact tA _)]at this
 have N:=lh (HQ.o (iz (si g k cap)) wr ⟨_,g,rfl,by rw[c4,f];exact⟨_,cap,0,rfl,S,λ_=>⟨rfl,λj u l=>by rw[wI,mI]at l;obtain⟨a,F,rfl⟩:=l;rw[nB];exact x.at_ (wH j a F)⟩⟩,hg,hf.mono (by simp)⟩);go_wp2_with fail;exact N.o
end
section
open Go.RowKit Go.ChangeMaps Go.MapKept Go.Maps Go.Sort Go.Shelf
theorem aGF:(prog.info? 3).map (λb=>(b.zero,b.size,b.bytes))=some (some (ii ip 0),1,8):=by kernel_rfl
def bT (s:Ky) (L:En) (ids:List Int):Prop:=
 L.length=ids.length/\∀(i:Nat) (e:Ky×List UInt8),L[i]? = some e->∃a j:Nat,e.1=zB s [a,j]/\a<4294967296/\j<4294967296/\ids[i]? = some (a:Int)
section
variable {w0 w:World}{dk g st ca:Nat}{x:SE}{X Y:Nat->Prop}
def IdRel (wb:World) (ids:List Int) (j:Nat) (v9 v31:Value) (wr:World):Prop:=
 ∃k:Nat,k+j=ids.length/\v31=.int .i64 (k:Int)/\wr.ownsRow wb.heap.size 3 1 v9 k ((ids.take k).map oP)/\Fr [] wb wr
def uR (l:List Int) (n:Int) (w:World) (e:Ending) (w':World):Prop:=
 ∃v g,e=.returned (.tuple #[v,.int .i64 n])/\kH w' v l.length (l.map oP) g/\w.heap.size<=g/\Fr [] w w'
theorem aSh(h:CtX w0 w dk g st ca x X)(i:li (x.E 1)<=1000000)(cs:ByteArray)(hi:isS x (bA cs)=false): Calls prog 21 #[pi ca,sj cs] w (uR [] 6 w):=by
 refine cA λj f=>?_;have b:=lh (lW h i cs);have c:isC x cs=6:=by unfold isC;rw[hi];rfl
 rw[c]at b;go_enter func21,ntmps21;go_wp2_with fail;refine b.o.mono ?_;rintro e d ⟨rfl,b⟩;have c:=lh (f.o _ _ ⟨_,d,rfl,kH.nil _ _ _,b.size,b⟩);go_wp2_with fail;exact c.o
theorem Z18{P:Prop} (h:P:=by
 have HF7:Hid (Fr [] wb w7):=lh ((FrB.of hf7 fun x hx=>sC HB5.o x (by simpa using hx)).after (HF5.o.trans HF6.o) (tA _));clear ho7 hf7 hat7 hlt7 hz6 d13;have hwk:IntKind.i64.wrap ((i:Int)+1)=((i+1:Nat):Int):=by have:=HLN.o;rw[yB];omega
 go_wp2_with fail
 go_roundg (n - (i+1))
 case measure=>omega
 case rel=>exact⟨i+1,by rw[HNI.o];omega,rfl,HO7.o,HF7.o⟩):P:=h
theorem aSi(h:CtX w0 w dk g st ca x X){N:Nat}(k:mE N x.E)(B:N<=900000)(cs:ByteArray)(q:isS x (bA cs)=true){b:List Int}(r:bT (bA cs) (eD (x.E 0) (nmK (bA cs))) b): Calls prog 21 #[pi (some ⟨ca,0,none⟩),sj cs] w (uR (dd b) 0 w):=by
 refine cA λd2 b8=>?_;have s:=lh (lW h (by have:=k.few 1;omega) cs);have t:isC x cs=0:=by unfold isC;rw[q];rfl
 rw[t]at s;have d:=aFo q;have p:=mG d;have C:=yA cs;have⟨H,HN,a8,HZ⟩:=hh4 h B k p.1;have U:Hid (cs.size<=1000):=lh (by omega);obtain⟨f,j⟩:∃K,nmK (bA cs)=K:=⟨_,rfl⟩;have y:Hid (∀(m:World),Calls prog 45 #[sj cs,si none 0 0] m λe w'=>∃v',e=iz v'/\(∃u,dA w' v' f u/\m.heap.size<=u)/\Fr [] m w'):=lh λm=>by have:=mP (w:=m) cs [] p.1 (by omega) (by simp) (by simp) (v:=si none 0 0) (g:=0) (kH.nil _ _ _);rwa [<- uM,j]at this
 have z:li f<=96/\1<=li f:=by rw[<- j,uM,qI];simp;omega
 have A:=lh z;have D:Hid (aft f≠[]):=lh (by rw[<- j,uM];exact iX _ _);rw[j]at r;obtain⟨L,m⟩:∃L,eD (x.E 0) f=L:=⟨_,rfl⟩;have HLN:Hid (li L<=900000):=lh (by have b9:=k.few 0;have c0:li (eD (x.E 0) f)<=li (x.E 0):=pO ..;rw[<- m];omega);rw[m]at r;have⟨b5,e9⟩:=hh2 r m;clear h k B q t d p C j z r m;go_enter func21,ntmps21;go_wp2_with fail;refine s.o.mono ?_;rintro e j ⟨rfl,f⟩;have m:=lh f;clear f;go_wp2_with fail;refine(y.o j).mono ?_;rintro e c2 ⟨c3,rfl,⟨u,j,F⟩,s⟩;have q:=lh (m.o.trans s);have p:=sF j (by have:=A.o;omega);have f:=lh (aBX (H.o.fr q.o) (a8.o.rise 0) (by have:=a8.o.few 0;have:=HN.o;omega) j (Ij ⟨by have:=m.o.size;omega,p⟩) D.o (by have:=A.o;omega));rw[e9.o]at f;clear j F s p y;go_wp2_with fail;refine f.o.mono ?_;rintro e wb ⟨c5,c7,rfl,m,p,j⟩;clear f;obtain⟨c8,c9,rfl,_,_⟩:=jA m;have⟨HO,HE,b'⟩:=hh3 m p (q.o.trans j);clear m p j;obtain⟨n,d⟩:∃n,li L=n:=⟨_,rfl⟩;rw[d]at HO HLN⊢;have q:=lh d;have HNI:Hid (li b=n):=lh (by rw[<- b5.o.1];exact d);clear d;obtain⟨c',b1,b2,b3,b4⟩:=oJ aGF;go_wp2_with fail;go_loopg [9,31] n (λd v9 v31 wr=>IdRel wb b d v9 v31 wr);·exact⟨0,by rw[HNI.o];omega,rfl,gD _ _ _ _,jj _ _⟩
 obtain⟨i,s,rfl,f,j⟩:=hrel;rw[HNI.o]at s;have⟨HB,Q⟩:=hh2 f j;clear f j;by_cases f:i<n
 ·obtain⟨e,p⟩:∃e,L[i]? = some e:=gx (by rw[q.o];exact f);obtain⟨a,d,y,G,I,R⟩:=b5.o.2 i e p;have V:(b.take (i+1)).map oP=(b.take i).map oP++[ii ip (a:Int)]:=(by rw[eJ,R,tQ];rfl);have a7:=lh V;obtain⟨a0,rfl,J⟩:=tD HO.o (by omega);obtain⟨d0,v1,a1,a2,⟨q,z,b6⟩,⟨d1,a3,b7⟩⟩:=fH.at_ HE.o p;have W:=aA Q.o (J _ _ a1);have Y:=aA Q.o (J _ _ a2);have A:=z.fr Q.o;rw[y,<- mU cs [a,d]]at A;obtain⟨a4,s,_,rfl,_,_⟩:=_root_.id z;obtain⟨M,O,_,rfl,_,_⟩:=_root_.id a3;have B:Hid (wr.rangeAt a0 (i*2) [si a4 (li e.1) s,si M (li e.2) O]):=lh (by
   intro d S f;match d,f with
   | 0,f=>obtain rfl:=tE f;exact W
   | 1,f=>obtain rfl:=tE f;exact Y
   | d+2,f=>simp at f)
  have c1:(i:Int)<(n:Int):=(by omega);have C:li e.1=li (pD (lP cs [a,d])):=(by rw[y,mU]);have D:=aFl (l:=lP cs [a,d]) (by
   intro T j;obtain rfl|j:=bB.1 j;·exact⟨HZ.o,U.o⟩
   obtain⟨a5,t,rfl⟩:=kI.1 j;simp only[bB,kC,dC]at t;obtain rfl|rfl:=t;·exact G
   exact I)
  have Z:q<wb.heap.size:=sF z (by rw[y,qI];omega);have a9:=lh (show ∀T∈lP cs [a,d],T.ok from by
   intro T j;obtain rfl|j:=bB.1 j;·exact⟨HZ.o,U.o⟩
   obtain⟨a5,t,rfl⟩:=kI.1 j;simp only[bB,kC,dC]at t;obtain rfl|rfl:=t;·exact G
   exact I)
  rw[C]at B;have T:dA wr (si a4 (li (pD (lP cs [a,d]))) s) (pD (lP cs [a,d])) q:=(by rw[<- C];exact A);obtain⟨a4,rfl,_,a5,a6⟩:=BAt.of T (by rw[mU,qI];omega);have⟨f1,c4⟩:=hh2 a6 a5;have a':Hid (q<wr.heap.size):=lh (iL Z Q.o.size);have U:Hid (li (pD (lP cs [a,d]))<=1000000):=lh (by rw[kW]at D;simp at D;omega);obtain⟨j,t⟩:∃j,li (pD (lP cs [a,d]))=j:=⟨_,rfl⟩;rw[t]at B c4 U;have b0:=lh t;clear J a1 a2 z b6 a3 b7 W Y p V y R A T C D Z a5 a6 t G I;go_upto_region 10 with fail;refine sB ?_;refine ab ?_;refine lp λK hK=>xQ 100 (.tmp 33) rfl a0 (i*2) rfl [si (some ⟨q,a4,none⟩) j s,si M (li e.2) O] _ B.o aHx rfl (by kernel_rfl) (hK _ _ ?_);simp only[nrm];clear hK;refine lp λK hK=>gB 100 rfl (il #[si none 0 0,si none 0 0]) [si none 0 0,si none 0 0] oU rfl λJ y p z=>hK _ _ ?_;simp only[nrm];clear hK;obtain⟨C,t⟩:=nm (wr.heap.size);rw[<- t]at y⊢;have⟨f4,f5,h0,c6⟩:=hh4 t p z y;clear t p z y;refine lp λK hK=>pA 100 (.tmp 11) (.tmp 34) rfl [si (some ⟨q,a4,none⟩) j s,si M (li e.2) O] rfl rfl c6.o nU rfl (by intro S f;simp only[bB,kC,dC]at f;rcases f with rfl|rfl<;>rfl) λA t y B=>hK _ _ ?_;simp only[Act.put];clear hK;have z:=lh t;have q:Hid (Fr [] wr A):=lh (f5.o.trans y λu F=>Ij (by rw[xA.1 F,f4.o];exact tA _));clear t y B;refine wB ?_;have A:=z.o.a 0;have u:=lh (aFp (n:=j) (c:=s) (lP cs [a,d]) a9.o (by rw[kW];simp) (f1.o.fr q.o) (by have:=a'.o;have:=q.o.size;omega) b0.o.symm c4.o U.o);go_wp2_with fail;refine u.o.mono ?_;rintro B j ⟨D,rfl,s,t⟩;have y:li (lP cs [a,d])=3:=(by rw[kW];rfl);rw[y]at s;obtain⟨F,G,rfl,_,_⟩:=jA s;obtain⟨I,rfl,z⟩:=tD s (by omega);have d13:=z 13 (ii ip (a:Int)) rfl;have⟨HF5,HB5⟩:=hh2 (Q.o.trans (q.o.trans t)) (fB HB.o (q.o.trans t) (by simp));clear s z t u y A;obtain⟨t,u,rfl,_,_⟩:=jA HB5.o;go_upto_region 14 with fail;refine sB ?_;iterate 5 (refine ab ?_)
  refine lp λK hK=>tB (v:=si (some ⟨j.heap.size,0,none⟩) 1 1) (w':=j.alloc (iy #[ii ip (a:Int)] 3)) (by go_simp<;>rfl) (hK _ _ ?_);simp only[nrm];clear hK;have q:=jl j 3 [ii ip (a:Int)];have s:Fr [] j (j.alloc (iy #[ii ip (a:Int)] 3)):=(jj [] j).alloc _;have hz6:(j.alloc (iy #[ii ip (a:Int)] 3)).heap.size=j.heap.size+1:=(by simp);change Blk (j.alloc (iy #[ii ip (a:Int)] 3)) _ _ _ at q;generalize j.alloc (iy #[ii ip (a:Int)] 3)=z at *;have⟨HF6,f7⟩:=hh2 s q;clear s q;refine lp λK hK=>fC (.tmp 48) (.tmp 53) rfl 3 1 8 aBc b1 b2 b3 b4 rfl (by omega) (si t i u) i ((b.take i).map oP) rfl (gF (fB HB5.o HF6.o (by simp))) ⟨j.heap.size,0,none⟩ 1 1 [ii ip (a:Int)] rfl rfl (λd S f=>by rw[Go.Addr.add_mid,nB];exact f7.o.at_ f) (by intro S f;simp only[bB,kC,dC]at f;subst f;rfl) (by omega) (by unfold maxLen;have:=HLN.o;omega) (by have:=HLN.o;omega) (j.heap.size+1) hz6 λd f w7 ho7 hf7 hat7 hlt7=>hK _ _ ?_;simp only[nrm];clear hK;refine ab ?_;refine wB ?_;have y:=HF5.o.size;have HO7:Hid (w7.ownsRow wb.heap.size 3 1 (si (some ⟨d,0,none⟩) (i+1) f) (i+1) ((b.take (i+1)).map oP)):=lh (by
   rw[a7.o];exact wL ho7 λf j=>by
    have e:d=f:=(by simpa[Value.ownBlock]using j);subst e;obtain h|h:=hat7;·exact sC HB5.o _ h
    omega)
  exact Z18
 obtain rfl:i=n:=(by omega);have m:=HB.o;rw[zF (by rw[HNI.o];exact tA _)]at m;have d:=lh (aKJ (L:=b) (by rw[HNI.o];exact m) (by rw[HNI.o];have:=HLN.o;omega) Q.o.size);obtain⟨t,u,rfl,_,_⟩:=jA m;have q:=lh m;clear m;go_wp2_with fail;refine d.o.mono ?_;rintro e m ⟨v8,s,rfl,d,f,j⟩;have p:Fr [] wb m:=(FrB.of j λx hx=>sC q.o x (by simpa using hx)).after Q.o (tA _);have m:=lh (b8.o _ _ ⟨v8,s,rfl,d,vD b'.o.size f,b'.o.trans p⟩);obtain⟨q,s,_,rfl,_,_⟩:=_root_.id d;clear d f j p;go_wp2_with fail;exact m.o
end
theorem aGG:(prog.info? 9).map (λb=>(b.zero,b.size,b.bytes))=some (some (sj { data:=#[] }),1,16):=by kernel_rfl
theorem rU(s:ByteArray):pD [Pt.str s]=nmK (bA s):=by show nmK (bA s)++[]=_;rw[jH]
theorem aUM{E:En}(b:sI E)(c:li E<=9223372036854775807):(goE [] none 9223372036854775807 [] E).1=E:=by
 rw[aNN b];have e:E.filter (inB [] none)=E:=List.filter_eq_self.2 λe _=>by unfold inB zO;have:=sN e.1;simp[this]
 rw[e,zF c]
def aUf (L:En) (ids:List ByteArray):Prop:=
 L.length=ids.length/\∀(i:Nat) (e:Ky×List UInt8),L[i]? = some e->∃s:ByteArray,ids[i]? = some s/\e.1=nmK (bA s)/\NoZ (bA s)/\s.size<=1000
section
variable {w0 w:World}{dk g st ca:Nat}{x:SE}{X Y:Nat->Prop}
def CoRel (wb:World) (ids:List ByteArray) (j:Nat) (v6 v23:Value) (wr:World):Prop:=
 ∃k:Nat,k+j=ids.length/\v23=.int .i64 (k:Int)/\wr.ownsRow wb.heap.size 9 1 v6 k ((ids.take k).map Value.string)/\Fr [] wb wr
def aUN (l:List ByteArray) (w:World) (e:Ending) (w':World):Prop:=
 ∃v,e=.returned (.tuple #[v,.int .i64 0])/\w'.ownsRow w.heap.size 9 1 v l.length (l.map Value.string)/\Fr [] w w'
theorem aPQ(h:CtX w0 w dk g st ca x X){N:Nat}(b:mE N x.E)(m:N<=900000){d:List ByteArray}(r:aUf (x.E 1) d): Calls prog 18 #[pi (some ⟨ca,0,none⟩)] w (aUN d w):=by
 refine cA λc4 b5=>?_;have f:=lh (aOa h.sx (t:=1) (by omega) (low:=[]) (up:=none) (fv:=si none 0 0) (tv:=si none 0 0) (gf:=ca) (most:=9223372036854775807) (dA.nil w ca) h.xc rfl (by omega) (by have:=b.few 1;omega));unfold aKu at f;rw[aUM (b.rise 1) (by have:=b.few 1;omega)]at f;have b6:=lh h;have k:=h.blk.a 1;obtain⟨j,l⟩:∃j,x.E 1=j:=⟨_,rfl⟩;have HLN:Hid (li j<=900000):=lh (by rw[<- l];have:=b.few 1;omega);rw[l]at r f;have p:=lh r;clear h b m r l;go_enter func18,ntmps18;go_wp2_with fail;refine f.o.mono ?_;rintro e wb ⟨b8,b9,rfl,l,m,q⟩;clear f k;obtain⟨b',c0,rfl,_,_⟩:=jA l;have⟨HO,HE,a1⟩:=hh3 l m q;clear l m q;obtain⟨n,f⟩:∃n,li j=n:=⟨_,rfl⟩;rw[f]at HO HLN⊢;have u:=lh f;have HNI:Hid (li d=n):=lh (by rw[<- p.o.1];exact f);clear f;obtain⟨c1,a',b0,b1,b2⟩:=oJ aGG;go_wp2_with fail;go_loopg [6,23] n (λs v6 v23 wr=>CoRel wb d s v6 v23 wr);·exact⟨0,by rw[HNI.o];omega,rfl,gD _ _ _ _,jj _ _⟩
 obtain⟨i,y,rfl,f,q⟩:=hrel;rw[HNI.o]at y;have⟨HB,Z⟩:=hh2 f q;clear f q;by_cases f:i<n
 ·obtain⟨e,m⟩:∃e,j[i]? = some e:=gx (by rw[u.o];exact f);obtain⟨f,T,y,U,u⟩:=p.o.2 i e m;have J:(d.take (i+1)).map sj=(d.take i).map sj++[sj f]:=(by rw[eJ,T,tQ];rfl);have a5:=lh J;obtain⟨V,rfl,D⟩:=tD HO.o (by omega);obtain⟨c2,v1,W,Y,⟨p,z,b3⟩,⟨c3,R,b4⟩⟩:=fH.at_ HE.o m;have L:=aA Z.o (D _ _ W);have M:=aA Z.o (D _ _ Y);have A:=z.fr Z.o;rw[y,<- rU]at A;obtain⟨H,k,_,rfl,_,_⟩:=_root_.id z;obtain⟨F,G,_,rfl,_,_⟩:=_root_.id R;have B:Hid (wr.rangeAt V (i*2) [si H (li e.1) k,si F (li e.2) G]):=lh (by
   intro s I j;match s,j with
   | 0,j=>obtain rfl:=tE j;exact L
   | 1,j=>obtain rfl:=tE j;exact M
   | s+2,j=>simp at j)
  have b7:(i:Int)<(n:Int):=(by omega);have C:li e.1=li (pD ([Pt.str f])):=(by rw[y,rU]);have O:p<wb.heap.size:=sF z (by rw[y];simp[nmK]);have a7:=lh (show ∀q∈[Pt.str f],q.ok from by
   intro q q;obtain rfl|q:=bB.1 q;·exact⟨U,u⟩
   cases q)
  rw[C]at B;have Q:dA wr (si H (li (pD ([Pt.str f]))) k) (pD ([Pt.str f])) p:=(by rw[<- C];exact A);obtain⟨a0,rfl,_,a2,a3⟩:=BAt.of Q (by rw[rU];simp[nmK]);have⟨c',a4⟩:=hh2 a3 a2;have a8:Hid (p<wr.heap.size):=lh (iL O Z.o.size);have S:Hid (li (pD ([Pt.str f]))<=1000000):=lh (by rw[rU];have:=yA f;simp[nmK];omega);obtain⟨q,H⟩:∃q,li (pD ([Pt.str f]))=q:=⟨_,rfl⟩;rw[H]at B a4 S;have a9:=lh H;clear D W Y z b3 R b4 L M m J y T A Q C O a2 a3 H U u;go_upto_region 7 with fail;refine sB ?_;refine ab ?_;refine lp λK hK=>xQ 100 (.tmp 25) rfl V (i*2) rfl [si (some ⟨p,a0,none⟩) q k,si F (li e.2) G] _ B.o aHx rfl (by kernel_rfl) (hK _ _ ?_);simp only[nrm];clear hK;refine lp λK hK=>gB 100 rfl (il #[si none 0 0,si none 0 0]) [si none 0 0,si none 0 0] oU rfl λO y z A=>hK _ _ ?_;simp only[nrm];clear hK;obtain⟨H,m⟩:=nm (wr.heap.size);rw[<- m]at y⊢;have⟨d2,d3,e4,a6⟩:=hh4 m z A y;clear m z A y;refine lp λK hK=>pA 100 (.tmp 8) (.tmp 26) rfl [si (some ⟨p,a0,none⟩) q k,si F (li e.2) G] rfl rfl a6.o nU rfl (by intro I j;simp only[bB,kC,dC]at j;rcases j with rfl|rfl<;>rfl) λy p z B=>hK _ _ ?_;simp only[Act.put];clear hK;have A:=lh p;have m:Hid (Fr [] wr y):=lh (d3.o.trans z λC y=>Ij (by rw[xA.1 y,d2.o];exact tA _));clear p z B;refine wB ?_;have D:=A.o.a 0;have z:=lh (aFp (n:=q) (c:=k) ([Pt.str f]) a7.o (by simp) (c'.o.fr m.o) (by have:=a8.o;have:=m.o.size;omega) a9.o.symm a4.o S.o);go_wp2_with fail;refine z.o.mono ?_;rintro F k ⟨G,rfl,p,q⟩;have A:li ([Pt.str f])=1:=rfl;rw[A]at p;obtain⟨J,L,rfl,_,_⟩:=jA p;obtain⟨M,rfl,B⟩:=tD p (by omega);have d13:=B 5 (sj f) rfl;have⟨HF5,HB5⟩:=hh2 (Z.o.trans (m.o.trans q)) (fB HB.o (m.o.trans q) (by simp));clear p B q z A D;obtain⟨q,z,rfl,_,_⟩:=jA HB5.o;go_upto_region 11 with fail;refine sB ?_;iterate 5 (refine ab ?_)
  refine lp λK hK=>tB (v:=si (some ⟨k.heap.size,0,none⟩) 1 1) (w':=k.alloc (iy #[sj f] 9)) (by go_simp<;>rfl) (hK _ _ ?_);simp only[nrm];clear hK;have m:=jl k 9 [sj f];have p:Fr [] k (k.alloc (iy #[sj f] 9)):=(jj [] k).alloc _;have hz6:(k.alloc (iy #[sj f] 9)).heap.size=k.heap.size+1:=(by simp);change Blk (k.alloc (iy #[sj f] 9)) _ _ _ at m;generalize k.alloc (iy #[sj f] 9)=A at *;have⟨HF6,d5⟩:=hh2 p m;clear p m;refine lp λK hK=>fC (.tmp 40) (.tmp 45) rfl 9 1 16 underlying50 a' b0 b1 b2 rfl (by omega) (si q i z) i ((d.take i).map sj) rfl (gF (fB HB5.o HF6.o (by simp))) ⟨k.heap.size,0,none⟩ 1 1 [sj f] rfl rfl (λs I j=>by rw[Go.Addr.add_mid,nB];exact d5.o.at_ j) (by intro I j;simp only[bB,kC,dC]at j;subst j;rfl) (by omega) (by unfold maxLen;have:=HLN.o;omega) (by have:=HLN.o;omega) (k.heap.size+1) hz6 λf j w7 ho7 hf7 hat7 hlt7=>hK _ _ ?_;simp only[nrm];clear hK;refine ab ?_;refine wB ?_;have m:=HF5.o.size;have HO7:Hid (w7.ownsRow wb.heap.size 9 1 (si (some ⟨f,0,none⟩) (i+1) j) (i+1) ((d.take (i+1)).map sj)):=lh (by
   rw[a5.o];exact wL ho7 λj k=>by
    have e:f=j:=(by simpa[Value.ownBlock]using k);subst e;obtain h|h:=hat7;·exact sC HB5.o _ h
    omega)
  exact Z18
 obtain rfl:i=n:=(by omega);have l:=HB.o;rw[zF (by rw[HNI.o];exact tA _)]at l;obtain⟨q,z,rfl,_,_⟩:=jA l;have u:=a1.o.size;have f:=lh (b5.o _ _ ⟨_,rfl,by rw[HNI.o];exact wL (gF l) λC y=>vD u (sC l C y),a1.o.trans Z.o⟩);clear l;go_wp2_with fail;exact f.o
theorem aPR{s:PS}{E:Nat->En}(f:PgX w0 w dk g s X)(t:s.br=false)(c:aCA s)(H:kK s.page s.n E): Calls prog 28 #[pi (some ⟨g,0,none⟩)] w λe b=>∃st ca,e=iz (tl #[pi (some ⟨ca,0,none⟩),ii ip 0])/\CtX w0 b dk g st ca ⟨s,E⟩ (yC X w b)/\Fr [] w b:=by
 have d:=lh (aUB f t c H);refine cA λz y=>?_;clear f t c H;go_enter func28,ntmps28;go_wp2_with fail;refine d.o.mono ?_;rintro e b ⟨st,rfl,f,h⟩;have⟨A,B⟩:=hh2 f h;clear f h d;obtain⟨d,i⟩:=nm (b.alloc (iy #[pi (some ⟨g,0,none⟩),pi (some ⟨st,0,none⟩)] 79));have h:Fr [] b d:=by rw[i];exact(jj [] b).alloc _
 have k:Blk d b.heap.size 79 [pi (some ⟨g,0,none⟩),pi (some ⟨st,0,none⟩)]:=by rw[i];exact jl b _ [pi (some ⟨g,0,none⟩),pi (some ⟨st,0,none⟩)]
 have q:=B.o.trans h;have f:=A.o.fr h;have r:=B.o.size;have u:=k.lt;have v:CtX w0 d dk g st b.heap.size ⟨s,E⟩ (yC X w d):=by
  have x:∀j,yC X w d j->yC (yC X w b) b d j:=λj l=>by
   obtain l|⟨m,p⟩:=l;·exact Ii (Ii l)
   by_cases l:j<b.heap.size;·exact Ii (Ij ⟨m,l⟩)
   exact Ij ⟨by omega,p⟩
  have j:yC X w d st:=by
   obtain d|⟨m,p⟩:=A.o.xs;·exact Ii d
   exact Ij ⟨m,iL p h.size⟩
  exact⟨⟨f.px.weak x,f.blk,j,f.br,f.calm,f.store⟩,k,Ij ⟨r,u⟩⟩
 have d:=lh (y.o _ _ ⟨st,b.heap.size,rfl,v,q⟩);rw[i]at d;clear v q f r u h k i;go_wp2_with fail;exact d.o
end
theorem Rep.isS{x:SE}{c:Ct}(h:Rep x.E c)(s:Ky):isS x s=pK c s:=by
 unfold Go.Proofs.YtebjhcjbfaaejaaGreatDoor.isS;cases b:nmB s with
 | false=>rw[h.no b];rfl
 | true=>rw[h.has b];rfl
def aFF (c:Ct) (s:Ky) (id:Int):List UInt8×Bool×Int:=
 if pK c s=false then ([],false,6) else match (txC c s).find? fun t=>decide ((t.1:Int)=id) with
  | some t=>(t.2,true,0)
  | none=>([],false,0)
theorem aGH(s:Ky)(n:Nat)(b:List UInt8):(wM s n b).flatMap (·.2)=b:=by have c:=aTq b;unfold wM;rw[List.flatMap_map];rw[<- List.flatMap_def]at c;exact c
theorem aTI(s:Ky)(n:Nat)(b:List UInt8):(wM s n b).isEmpty=false:=by
 have f:=aFc b;unfold wM;cases d:(List.range (np b)).map λc=>(zB s [n,c],pc b c) with
 | nil=>have:=congrArg List.length d;simp at this;omega
 | cons=>rfl
def aIE (c:Ct) (s:Ky):List Int:=(txC c s).map fun t=>(t.1:Int)
theorem aIF(p:Int)(l:List Int):∀m,ddF p (ji m p++l)=ddF p l
 | 0=>rfl
 | m+1=>by rw[aDx,lI];show(if p=p then ddF p (ji m p++l) else p::ddF p (ji m p++l))=_;rw[iA rfl,aIF p l m]
theorem aKK:∀(l:Tx) (p:Int),(∀b∈l,p<(b.1:Int))->l.Pairwise (λa c=>a.1<c.1)->ddF p (l.flatMap λb=>ji (np b.2) (b.1:Int))=l.map λb=>(b.1:Int)
 | [],_,_,_=>rfl
 | b::l,p,hp,hl=>by
  obtain⟨d,f⟩:=lF.1 hl;obtain⟨c,g⟩:∃c,np b.2=c+1:=⟨np b.2-1,by have:=aFc b.2;omega⟩;have c:¬ (b.1:Int)=p:=by have:=hp b (eC ..);omega
  rw[xG,g,aDx,lI,xJ];unfold ddF;rw[eA c,aIF,aKK l _ (λb c=>by have:=d b c;omega) f]
theorem aTJ{l:Tx}(d:l.Pairwise (λa b=>a.1<b.1)):dd (l.flatMap λb=>ji (np b.2) (b.1:Int))=l.map λb=>(b.1:Int):=by
 cases l with
 | nil=>rfl
 | cons b l=>obtain⟨f,g⟩:=lF.1 d;obtain⟨c,h⟩:∃c,np b.2=c+1:=⟨np b.2-1,by have:=aFc b.2;omega⟩;rw[xG,h,aDx,lI,xJ];show(b.1:Int)::ddF _ _=_;rw[aIF,aKK l _ (λb c=>by have:=f b c;omega) g]
theorem bT.append{s:Ky}{A B:En}{a b:List Int}(c:bT s A a)(f:bT s B b):bT s (A++B) (a++b):=by
 refine⟨by rw[iB,iB,c.1,f.1],λn e d=>?_⟩;by_cases m:n<li A;·rw[yK m]at d;obtain⟨g,h,i,j,k,l⟩:=c.2 n e d;exact⟨g,h,i,j,k,by rw[yK (by rw[<- c.1];exact m)];exact l⟩
 rw[mJ (by omega)]at d;obtain⟨g,h,i,j,k,l⟩:=f.2 _ e d;exact⟨g,h,i,j,k,by rw[mJ (by rw[<- c.1];omega),<- c.1];exact l⟩
theorem bT.one{s:Ky}{n:Nat}{b:List UInt8}(h:n<4294967296)(k:li b<=65536):bT s (wM s n b) (ji (np b) (n:Int)):=by
 have i:=aRM k;refine⟨by unfold wM;simp,λg e c=>?_⟩;unfold wM at c;rw[wI,mI]at c;obtain⟨d,f,rfl⟩:=c;have j:d<np b:=kO.1 (kF f);have c:g<np b:=by have:=(uC.1 f).1;simpa using this
 exact⟨n,d,rfl,h,by omega,by rw[List.getElem?_replicate,iA c]⟩
theorem bT.all{s:Ky}:∀(l:Tx),(∀b∈l,b.1<4294967296/\li b.2<=65536)->bT s (l.flatMap λb=>wM s b.1 b.2) (l.flatMap λb=>ji (np b.2) (b.1:Int))
 | [],_=>⟨rfl,λd e c=>by simp at c⟩
 | b::l,h=>by rw[xG,xG];exact(bT.one (h b (eC ..)).1 (h b (eC ..)).2).append (bT.all l λb c=>h b (jD _ c))
section
variable {w0 w:World}{dk g st ca:Nat}{x:SE}{X:Nat->Prop}
theorem aAN(h:CtX w0 w dk g st ca x X){N:Nat}(i:mE N x.E)(q:N<=900000){c:Ct}(m:Rep x.E c)(cs:ByteArray)(b:Int): Calls prog 23 #[pi ca,sj cs,b] w (aCS (aFF c (bA cs) b) w):=by
 unfold aFF;rw[<- m.isS];cases l:isS x (bA cs) with
 | false=>
  have d:isC x cs=6:=by unfold isC;rw[l];rfl
  have:=aKE h i q cs b (Ii l);rw[d]at this;exact this
 | true=>
  rw[eA (by decide)];have r:isC x cs=0:=by unfold isC;rw[l];rfl
  rw[m.isS]at l;obtain⟨k,o,s⟩:=sJ.1 l;rw[<- s,m.ok.tx o];have p:=m.ok.fit k o;cases n:idB b with
  | false=>have f:(k.2.find? λd=>decide ((d.1:Int)=b))=none:=List.find?_eq_none.2 λd j=>(by have:=(p d j).1;rw[uG];intro e;rw[idB,eI]at n;exact n ⟨by omega,by omega⟩);rw[f];have:=aKE h i q cs b (Ij n);rwa [r]at this
  | true=>
   have t:=cK.1 n;have r:eD (x.E 0) (zB (bA cs) [b.toNat])=match k.2.find? λd=>decide ((d.1:Int)=b) with|some d=>wM k.1 d.1 d.2|none=>[]:=by
    rw[<- s];cases f:k.2.find? λd=>decide ((d.1:Int)=b) with
    | none=>refine m.none o (by omega) λd j e=>?_;have:=List.find?_eq_none.1 f d j;rw[uG]at this;omega
    | some d=>have j:=List.mem_of_find?_eq_some f;have s:=List.find?_some f;rw[uG]at s;rw[show b.toNat=d.1 by omega];exact m.text o j
   have o:li ((eD (x.E 0) (zB (bA cs) [b.toNat])).flatMap (·.2))<=65536:=by
    rw[r];cases f:k.2.find? λd=>decide ((d.1:Int)=b) with
    | none=>simp
    | some d=>simp only[];rw[aGH];exact(p d (List.mem_of_find?_eq_some f)).2
   have j:=aSb h i q cs b (by rw[m.isS];exact l) n o;rw[r]at j;cases f:k.2.find? λd=>decide ((d.1:Int)=b) with
   | none=>rw[f]at j;exact j
   | some d=>rw[f]at j;simp only[]at j;rw[aGH,aTI]at j;exact j
theorem aOf(h:CtX w0 w dk g st ca x X){N:Nat}(b:mE N x.E)(n:N<=900000){c:Ct}(f:Rep x.E c)(cs:ByteArray): Calls prog 21 #[pi ca,sj cs] w (if pK c (bA cs)=true then uR (aIE c (bA cs)) 0 w else uR [] 6 w):=by
 rw[<- f.isS];cases j:isS x (bA cs) with
 | false=>rw[eA (by decide)];exact aSh h (by have:=b.few 1;omega) cs j
 | true=>
  rw[iA rfl];have k:=j;rw[f.isS]at k;obtain⟨i,d,l⟩:=sJ.1 k;have m:bT (bA cs) (eD (x.E 0) (nmK (bA cs))) (i.2.flatMap λk=>ji (np k.2) (k.1:Int)):=by rw[<- l,f.texts d];exact bT.all _ (f.ok.fit i d)
  have k:=aSi h b n cs j m;rw[aTJ (f.ok.ids i d)]at k;unfold aIE;rw[<- l,f.ok.tx d];exact k
theorem aUO{E:Nat->En}{c:Ct}(d:Rep E c):aUf (E 1) (c.map λb=>⟨b.1.toArray⟩):=by rw[d.names];refine⟨by simp,λh e g=>?_⟩;rw[wI,mI]at g;obtain⟨b,f,rfl⟩:=g;have g:=mG (d.ok.name b (kF f));exact⟨⟨b.1.toArray⟩,by rw[wI,f];rfl,by simp[bA],by simpa[bA]using g.1,by show b.1.toArray.size<=1000;rw[uU];omega⟩
end
end
section
open Go.RowKit Go.Shelf
theorem pW:∀(n:Nat) (l:List UInt8),li l<=n->iH n l=iH (li l) l
 | 0,l,h=>by rw[uO.1 (by omega:li l=0)];rfl
 | n+1,[],_=>rfl
 | n+1,c::cs,h=>by
  show iH (n+1) (c::cs)=iH (li cs+1) (c::cs);unfold iH;dsimp only;cases d:xC (c::cs) with
  | none=>rfl
  | some f=>obtain⟨g,b⟩:=f;obtain⟨f,i,_⟩:=iN d;have d:li ((c::cs).drop b)<=li cs:=(by rw[vB,bD];omega);simp only[bD]at h;show iH n ((c::cs).drop b)=iH (li cs) ((c::cs).drop b);rw[pW n _ (by omega),pW (li cs) _ d]
theorem aSj(c:UInt8)(l:List UInt8){n:Nat}(d:li (c::l)<=n):aIr (c::l)=(sQ c&&decide (jU 0 (eM n (c::l))=(li (c::l):Int))):=by
 have f:li ((c::l).takeWhile nC)<=li (c::l):=(List.takeWhile_sublist nC).length_le;rw[aGy,aKd n _ d,pW n _ (by omega),Bool.and_assoc];congr 1;show(iH _ _&&_)=_;cases g:iH (li ((c::l).takeWhile nC)) ((c::l).takeWhile nC) with
 | true=>
  rw[iA rfl];show(true&&decide _)=decide (((0+_:Nat):Int)=_);rw[Bool.true_and,nB];by_cases b:li ((c::l).takeWhile nC)=li (c::l);·rw[yJ b,yJ (by omega)]
  rw[vH b,vH (by omega)]
 | false=>rw[eA (by decide)];show(false&&_)=decide ((-1:Int)=_);rw[Bool.false_and,vH (by omega)]
theorem aSk{w:World}(s:ByteArray)(D:s.size<=1000000):RV 83 #[sj s] w (ij (aIr (bA s))):=by
 have k:=yA s;have h:=aNP s;refine cA λt b=>?_;cases d:bA s with
 | nil=>rw[d]at b;have g:=lh (b.o (iz (ij false)) w ⟨rfl,jj _ _⟩);rw[d]at h;clear d k;go_enter func83,ntmps83;go_wp2_with fail;exact g.o
 | cons c m=>
  have r:∀f,(Instr.index 9 (sj s) (ii ip 0)).run prog f=.ok (ii ix (c.toNat:Int)) f:=λf=>eX (s:=s) (i:=0) (c:=c) (by rw[d];rfl) ip f;rw[d]at h;have h:=lh (λf:World=>aUF (w:=f) s 0 (uB _) (by omega));rw[d,List.drop_zero]at h;rw[d]at b;have j:=lh (λf=>aKh c f);have p:s.size=li (c::m):=by rw[<- d];exact k.symm
  have l:=aSj c m (n:=s.size) (by omega);obtain⟨f,q⟩:∃f,jU 0 (eM s.size (c::m))=f:=⟨_,rfl⟩;rw[q]at l h;rw[l]at b;have m:=lh p;clear d k q l p;cases d:sQ c with
  | false=>rw[d]at b j;have g:=lh (b.o (iz (ij false)) w ⟨rfl,jj _ _⟩);clear d;go_enter func83,ntmps83;go_wp2_with fail;refine(j.o _).mono ?_;rintro e k ⟨rfl,rfl⟩;go_wp2_with fail;exact g.o
  | true=>
   rw[d]at b j;clear d;go_enter func83,ntmps83;go_wp2_with fail;refine(j.o _).mono ?_;rintro e k ⟨rfl,rfl⟩;go_wp2_with fail;refine(h.o w).mono ?_;rintro e k ⟨rfl,d⟩;have j:=lh d;clear d h;by_cases d:f=(s.size:Int);·have g:=lh (b.o (iz (ij true)) k ⟨by rw[<- m.o,yJ d];rfl,j.o⟩);have h:(f==(s.size:Int))=true:=(by rw[beq_iff_eq];exact d);clear d;go_wp2_with fail;exact g.o
   have g:=lh (b.o (iz (ij false)) k ⟨by rw[<- m.o,vH d];rfl,j.o⟩);have h:(f==(s.size:Int))=false:=(by rw[lE];exact d);clear d;go_wp2_with fail;exact g.o
theorem aMR{w:World}(s:ByteArray):RV 53 #[sj s] w (ij (nmB (bA s))):=by
 have c:=yA s;refine cA λg HQ=>?_;by_cases h:s.size<=32
 ·have HN:=lh (aSk (w:=w) s (by omega));obtain⟨q,d⟩:∃q,aIr (bA s)=q:=⟨_,rfl⟩;have b:nmB (bA s)=q:=by unfold nmB;rw[c,yJ h,d];rfl
  rw[b]at HQ;rw[d]at HN;have f:(s.size:Int)<=32:=by omega
  clear d b c h;go_enter func53,ntmps53;exact Z46
 have b:nmB (bA s)=false:=by unfold nmB;rw[c,vH h];rfl
 rw[b]at HQ;have HX:=lh (HQ.o (iz (ij false)) w ⟨rfl,jj _ _⟩);have f:¬ (s.size:Int)<=32:=by omega
 clear b c h;go_enter func53,ntmps53;go_wp2_with fail;exact HX.o
def pG (t:Nat×List UInt8):List Value:=[.int .i64 (t.1:Int),.string ⟨t.2.toArray⟩]
def TxV (D:Nat->Prop) (w:World) (u:Value) (l:Tx):Prop:=w.ownsRow 0 95 2 u l.length (l.flatMap pG)/\∀q,u.ownBlock=some q->D q
def qW:Ct->List Value->List Value
 | y::c,u::us=>.string ⟨y.1.toArray⟩::u::qW c us
 | _,_=>[]
structure CtV (D:Nat->Prop) (w:World) (v:Value) (c:Ct) (us:List Value):Prop where
 len:us.length=c.length
 own:w.ownsRow 0 93 2 v c.length (qW c us)
 blk:∀q,v.ownBlock=some q->D q
 txs:∀(i:Nat) (y:Ky×Tx) (u:Value),c[i]? = some y->us[i]? = some u->TxV D w u y.2
theorem aSl(f:α->List Value)(c:∀a,li (f a)=2):∀(l:List α) (i:Nat) (a:α),l[i]? = some a->∀j,j<2->(l.flatMap f)[i*2+j]? = (f a)[j]?
 | [],i,a,h,_,_=>by simp at h
 | b::l,0,a,h,j,hj=>by simp only[zP,yG]at h;subst h;rw[xG,yK (by rw[c];omega),Nat.zero_mul,nB]
 | b::l,i+1,a,h,j,hj=>by rw[xG,mJ (by rw[c];omega),c,show(i+1)*2+j-2=i*2+j by omega];exact aSl f c l i a (by simpa using h) j hj
theorem aKL:∀(c:Ct) (b:List Value) (i:Nat) (y:Ky×Tx) (u:Value),c[i]? = some y->b[i]? = some u->(qW c b)[i*2]? = some (sj ⟨y.1.toArray⟩)/\(qW c b)[i*2+1]? = some u
 | [],_,i,y,u,h,_=>by simp at h
 | z::c,[],i,y,u,_,h=>by simp at h
 | z::c,x::b,0,y,u,h,h2=>by simp only[zP,yG]at h h2;subst h h2;exact⟨rfl,rfl⟩
 | z::c,x::b,i+1,y,u,h,h2=>by have:=aKL c b i y u (by simpa using h) (by simpa using h2);unfold qW;rw[show(i+1)*2=i*2+1+1 by omega];exact this
theorem gR{w:World}{b:Nat}{e:TypeId}{d m n:Nat}{A:Option Addr}{c:Nat}(h:w.ownsRow b e d (si A n c) m F):n=m:=by obtain⟨_,_,d,_⟩:=jA h;injection d
theorem TxV.at_{D:Nat->Prop}{w:World}{A:Option Addr}{n cap:Nat}{l:Tx}(h:TxV D w (si A n cap) l){i:Nat}{t:Nat×List UInt8}(ht:l[i]? = some t):∃g,A=some ⟨g,0,none⟩/\w.cell? ⟨g,i*2,none⟩=some (ii ip (t.1:Int))/\w.cell? ⟨g,i*2+1,none⟩=some (sj ⟨t.2.toArray⟩):=by have j:=(uC.1 ht).1;have c:=gR h.1;have b:=h.1;rw[<- c]at b;obtain⟨g,f,c⟩:=tD b (by omega);have b:=aSl pG (λ_=>rfl) l i t ht 0 (by omega);have d:=aSl pG (λ_=>rfl) l i t ht 1 (by omega);exact⟨g,f,c (i*2) _ (by rw[gV]at b;rw[b];rfl),c _ _ (by rw[d];rfl)⟩
theorem CtV.at_{D:Nat->Prop}{w:World}{A:Option Addr}{n cap:Nat}{c:Ct}(h:CtV D w (si A n cap) c F){i:Nat}{y:Ky×Tx}(f:c[i]? = some y):∃g u,A=some ⟨g,0,none⟩/\F[i]? = some u/\w.cell? ⟨g,i*2,none⟩=some (sj ⟨y.1.toArray⟩)/\w.cell? ⟨g,i*2+1,none⟩=some u/\TxV D w u y.2:=by have j:=(uC.1 f).1;have d:=gR h.own;have b:=h.own;rw[<- d]at b;obtain⟨g,k,d⟩:=tD b (by omega);obtain⟨u,b⟩:∃u,F[i]? = some u:=gx (by rw[h.len];exact j);obtain⟨j,l⟩:=aKL c F i y u f b;exact⟨g,u,k,b,d _ _ j,d _ _ l,h.txs i y u f b⟩
theorem TxV.fr{D:Nat->Prop}{S:List Nat}{w w':World}{u:Value}{l:Tx}(h:TxV D w u l)(b:Fr S w w')(c:∀q,D q->q∉S:=by simp):TxV D w' u l:=⟨fB h.1 b λq d=>c q (h.2 q d),h.2⟩
theorem CtV.fr{D:Nat->Prop}{S:List Nat}{w w':World}{v:Value}{c:Ct}(h:CtV D w v c F)(b:Fr S w w')(d:∀q,D q->q∉S:=by simp):CtV D w' v c F:=⟨h.len,fB h.own b λq f=>d q (h.blk q f),h.blk,λf g i j k=>(h.txs f g i j k).fr b d⟩
theorem lN(s:ByteArray):s.toList=bA s:=by rw[ByteArray.toList_eq];rfl
def fnd (s:Ky):Nat->Ct->Int
 | _,[]=>-1
 | k,y::c=>if y.1=s then (k:Int) else fnd s (k+1) c
theorem aOg(s:Ky):∀(c:Ct) (k:Nat),(pK c s=false/\fnd s k c = -1)∨(pK c s=true/\∃(i:Nat) (y:Ky×Tx),fnd s k c=((k+i:Nat):Int)/\c[i]? = some y/\y.1=s)
 | [],k=>Ii ⟨rfl,rfl⟩
 | y::c,k=>by
  unfold fnd pK;rw[List.any_cons];by_cases b:y.1=s;·rw[iA b,yJ b];exact Ij ⟨rfl,0,y,rfl,rfl,b⟩
  rw[eA b,vH b,Bool.false_or];obtain⟨b,d⟩|⟨b,i,f,d,g,h⟩:=aOg s c (k+1);·exact Ii ⟨b,d⟩
  exact Ij ⟨b,i+1,f,by rw[d];omega,by simpa using g,h⟩
theorem fO{D:Nat->Prop}{w:World}{v:Value}{c:Ct}(h:CtV D w v c F)(P:li c<=1000000)(s:ByteArray): RV 48 #[il #[v],sj s] w (ii ip (fnd (bA s) 0 c)):=by
 refine cA λB m=>?_;obtain⟨g,i,rfl,_,_⟩:=jA h.own;obtain⟨d,j⟩:∃d,li c=d:=⟨_,rfl⟩;rw[j]at h P⊢;obtain⟨k,b⟩:=nm (w.alloc (iy #[si g d i] 37));have f:Fr [] w k:=by rw[b];exact(jj [] w).alloc _
 have l:Blk k w.heap.size 37 [si g d i]:=by rw[b];exact jl w _ [si g d i]
 have t:=l.a 0;have⟨H,r,M⟩:=hh3 (h.fr f) j f;clear h j f l;go_enter func48,ntmps48;go_upto_region 1 with fail;rw[<- b];clear b;go_wp2_with fail;go_loopg [5] d (λf v5 wr=>∃b:Nat,b+f=d/\v5=ii ip (b:Int)/\fnd (bA s) 0 c=fnd (bA s) b (c.drop b)/\wr=k);·exact⟨0,by omega,rfl,by rw[List.drop_zero],rfl⟩
 obtain⟨b,x,rfl,f,rfl⟩:=hrel;by_cases j:b<d
 ·obtain⟨g,i⟩:∃g,c[b]? = some g:=gx (by rw[r.o];exact j);obtain⟨y,z,rfl,n,A,p,q⟩:=H.o.at_ i;have k:c.drop b=g::c.drop (b+1):=by
   rw[xM (by rw[r.o];exact j)];congr 1;rw[kE (by rw[r.o];exact j)]at i;exact tE i
  have u:(b:Int)<(d:Int):=(by omega);rw[k]at f;have l:=lh f;clear f k i n p q;by_cases i:g.1=bA s;·have k:(g.1==s.toList)=true:=(by rw[beq_iff_eq,i,lN]);have j:=lh (m.o (iz (ii ip (b:Int))) wr ⟨by rw[l.o];unfold fnd;rw[iA i],M.o⟩);clear i;go_wp2_with fail;exact j.o
  have k:(g.1==s.toList)=false:=(by rw[lE,lN];exact i);have g:fnd (bA s) 0 c=fnd (bA s) (b+1) (c.drop (b+1)):=by
   rw[l.o];conv=>lhs;unfold fnd
   rw[eA i]
  have k:=lh g;clear i g;go_wp2_with fail;go_roundg (d-(b+1))
  case measure=>omega
  case rel=>exact⟨b+1,by omega,rfl,k.o,rfl⟩
 obtain rfl:b=d:=(by omega);have d:c.drop b=[]:=sO (by rw[r.o];exact tA _);rw[d]at f;have j:=lh (m.o (iz (ii ip (-1))) wr ⟨by rw[f];rfl,M.o⟩);clear f d;go_wp2_with fail;exact j.o
theorem rW{s:Ky}{c:Ct}(h:OkC c):(pK c s=false/\fnd s 0 c = -1)∨(pK c s=true/\∃(i:Nat) (y:Ky×Tx),fnd s 0 c=(i:Int)/\c[i]? = some y/\y.1=s/\txC c s=y.2):=by
 obtain b|⟨b,i,y,g,d,f⟩:=aOg s c 0;·exact Ii b
 exact Ij ⟨b,i,y,by rw[g,nB],d,f,by rw[<- f];exact h.tx (kF d)⟩
theorem xK{l:List α}{k:Nat}{t:α}(h:l[k]? = some t):l.drop k=t::l.drop (k+1):=by have b:=(uC.1 h).1;rw[xM b];congr 1;rw[kE b]at h;exact tE h
theorem Z51{P:Prop} (h:P:=by
 go_wp2_with fail;exact qD (by simp[results,Tryz.results25,go_sem]) rfl HX.o):P:=h
theorem get23{D:Nat->Prop}{w:World}{v:Value}{c:Ct}(h:CtV D w v c F)(q:OkC c)(d:li c<=1000000)(ht:∀y∈c,li y.2<=1000000)(s:ByteArray)(z:Int): Calls prog 25 #[il #[v],sj s,ii ip z] w (aCS (aFF c (bA s) z) w):=by
 refine cA λL i=>?_;obtain⟨g,j,rfl,_,_⟩:=jA h.own;have m:=d;obtain⟨b,k⟩:∃b,li c=b:=⟨_,rfl⟩;rw[k]at h d⊢;obtain⟨p,f⟩:=_root_.Go.Proofs.YtebjhcjbfaaejaaGreatDoor.nm (w.alloc (iy #[si g b j] 37));have d:Fr [] w p:=by rw[f];exact(jj [] w).alloc _
 have n:Blk p w.heap.size 37 [si g b j]:=by rw[f];exact jl w _ [si g b j]
 have⟨HB,H,HN,V,l⟩:=hh5 n (h.fr d) k d (fO (h.fr d) m s);have g:=rW (s:=bA s) q;have r:=lh ht;unfold aFF at i;clear h k d ht q m n;go_enter func25,ntmps25;go_upto_region 1 with fail;rw[<- f];clear f;have k:=HB.o.a 0;obtain⟨f,g⟩|⟨f,m,y,g,j,q,n⟩:=g;·rw[g]at l;rw[f]at i;clear f g;go_wp2_with fail;refine l.o.mono ?_;rintro e p ⟨rfl,d⟩;have HX:=lh (i.o _ _ ⟨rfl,V.o.trans d⟩);clear d;exact Z51
 rw[g]at l;rw[f,n,eA (by decide)]at i;have⟨HY,W⟩:=hh2 j (r.o y (kF j));have r:(m:Int)<(b:Int):=by have:=(uC.1 j).1;rw[HN.o]at this;omega
 have t:m<b:=by omega
 clear f g j q n;go_wp2_with fail;refine l.o.mono ?_;rintro e p ⟨rfl,d⟩;have m:=lh (V.o.trans d);obtain⟨u,x,rfl,_,_,j,b⟩:=(H.o.fr d).at_ HY.o;have q:=aA d k;obtain⟨A,B,rfl,_,_⟩:=jA b.1;obtain⟨g,f⟩:∃g,li y.2=g:=⟨_,rfl⟩;rw[f]at b j W;have⟨M,G⟩:=hh2 b f;clear b f d k;go_wp2_with fail;go_loopg [10] g (λd v10 wr=>∃b:Nat,b+d=g/\v10=ii ip (b:Int)/\(y.2.find? λf=>decide ((f.1:Int)=z))=((y.2.drop b).find? λf=>decide ((f.1:Int)=z))/\wr=p);·exact⟨0,by omega,rfl,by rw[List.drop_zero],rfl⟩
 obtain⟨b,C,rfl,d,rfl⟩:=hrel;by_cases j:b<g
 ·obtain⟨f,k⟩:∃f,y.2[b]? = some f:=gx (by rw[G.o];exact j);obtain⟨E,rfl,I,J⟩:=M.o.at_ k;rw[xK k,List.find?_cons]at d;have p:(b:Int)<(g:Int):=(by omega);by_cases j:(f.1:Int)=z
  ·rw[yJ j]at d;rw[d]at i;have n:((f.1:Int)==z)=true:=(by rw[beq_iff_eq];exact j);have HX:=lh (i.o _ _ ⟨rfl,m.o⟩);clear d j k;exact Z51
  rw[vH j]at d;have n:((f.1:Int)==z)=false:=(by rw[lE];exact j);have f:=lh d;have n:Wi ip ((b:Int)+1)=((b+1:Nat):Int):=(by have:=W.o;rw[yB];omega);clear d j k;go_wp2_with fail;go_roundg (g-(b+1))
  case measure=>omega
  case rel=>exact⟨b+1,by omega,rfl,f.o,rfl⟩
 obtain rfl:b=g:=(by omega);rw[sO (by rw[G.o];exact tA _),List.find?_nil]at d;rw[d]at i;have HX:=lh (i.o _ _ ⟨rfl,m.o⟩);clear d;exact Z51
theorem aUg{D:Nat->Prop}{w:World}{v:Value}{c:Ct}(h:CtV D w v c F)(r:OkC c)(d:li c<=1000000)(ht:∀y∈c,li y.2<=1000000)(s:ByteArray): Calls prog 26 #[il #[v],sj s] w (if pK c (bA s)=true then uR (aIE c (bA s)) 0 w else uR [] 6 w):=by
 refine cA λa0 m=>?_;obtain⟨i,j,rfl,_,_⟩:=jA h.own;have l:=d;obtain⟨b,k⟩:∃b,li c=b:=⟨_,rfl⟩;rw[k]at h d⊢;obtain⟨q,d⟩:=_root_.Go.Proofs.YtebjhcjbfaaejaaGreatDoor.nm (w.alloc (iy #[si i b j] 37));have g:Fr [] w q:=by rw[d];exact(jj [] w).alloc _
 have n:Blk q w.heap.size 37 [si i b j]:=by rw[d];exact jl w _ [si i b j]
 have⟨HB,H,HN,HF,f⟩:=hh5 n (h.fr g) k g (fO (h.fr g) l s);have i:=rW (s:=bA s) r;have x:=lh ht;unfold aIE at m;clear h k g ht r l n;go_enter func26,ntmps26;go_upto_region 1 with fail;rw[<- d];clear d;have t:=HB.o.a 0;obtain⟨i,j⟩|⟨i,q,y,j,l,z,u⟩:=i;·rw[j]at f;rw[i,eA (by decide)]at m;clear i j;go_wp2_with fail;refine f.o.mono ?_;rintro e k ⟨rfl,d⟩;have n:=HF.o.trans d;have r:=lh (m.o _ _ ⟨_,k.heap.size,rfl,kH.nil _ _ _,n.size,n⟩);clear d n;go_wp2_with fail;exact r.o
 rw[j]at f;rw[i,u,iA rfl]at m;have⟨HY,HM⟩:=hh2 l (x.o y (kF l));have O:(q:Int)<(b:Int):=by have:=(uC.1 l).1;rw[HN.o]at this;omega
 have P:q<b:=by omega
 clear i j l z u;go_wp2_with fail;refine f.o.mono ?_;rintro e k ⟨rfl,d⟩;have n:=lh (HF.o.trans d);obtain⟨V,x,rfl,_,_,l,b⟩:=(H.o.fr d).at_ HY.o;have q:=aA d t;obtain⟨W,X,rfl,_,_⟩:=jA b.1;obtain⟨j,i⟩:∃j,li y.2=j:=⟨_,rfl⟩;rw[i]at b l HM;have⟨a4,G,a5,a6⟩:=hh4 b i q l;clear b i d t;obtain⟨Y,C,J,L,N⟩:=oJ aGF;go_wp2_with fail;clear q l;go_loopg [7,8] j (λB v7 v8 wr=>∃b:Nat,b+B=j/\v8=ii ip (b:Int)/\wr.ownsRow k.heap.size 3 1 v7 b ((y.2.take b).map λd=>oP (d.1:Int))/\Fr [] k wr);·exact⟨0,by omega,rfl,gD _ _ _ _,jj _ _⟩
 obtain⟨b,Z,rfl,i,g⟩:=hrel;have⟨M,p⟩:=hh2 i g;have q:=aA g a5.o;have l:=aA g a6.o;clear i g;by_cases t:b<j
 ·obtain⟨d,g⟩:∃d,y.2[b]? = some d:=gx (by rw[G.o];exact t);obtain⟨R,rfl,t,u⟩:=a4.o.at_ g;have E:Hid (((y.2.take (b+1)).map λd=>oP (d.1:Int))=((y.2.take b).map λd=>oP (d.1:Int))++[ii ip (d.1:Int)]):=lh (by rw[eJ,g,tQ];rfl);have S:(b:Int)<(j:Int):=(by omega);have I:=aA p.o t;obtain⟨z,A,rfl,_,_⟩:=jA M.o;clear g t u;go_upto_region 8 with fail;refine sB ?_;iterate 11 (refine ab ?_)
  refine lp λK hK=>tB (v:=si (some ⟨wr.heap.size,0,none⟩) 1 1) (w':=wr.alloc (iy #[ii ip (d.1:Int)] 3)) (by go_simp<;>rfl) (hK _ _ ?_);simp only[nrm];clear hK;have g:=jl wr 3 [ii ip (d.1:Int)];have t:Fr [] wr (wr.alloc (iy #[ii ip (d.1:Int)] 3)):=(jj [] wr).alloc _;have u:(wr.alloc (iy #[ii ip (d.1:Int)] 3)).heap.size=wr.heap.size+1:=(by simp);change Blk (wr.alloc (iy #[ii ip (d.1:Int)] 3)) _ _ _ at g;generalize wr.alloc (iy #[ii ip (d.1:Int)] 3)=a1 at *;have⟨Q,a9⟩:=hh2 t g;clear t g;refine lp λK hK=>fC (.tmp 25) (.tmp 36) rfl 3 1 8 aBc C J L N rfl (by omega) (si z b A) b ((y.2.take b).map λd=>oP (d.1:Int)) rfl (gF (fB M.o Q.o (by simp))) ⟨wr.heap.size,0,none⟩ 1 1 [ii ip (d.1:Int)] rfl rfl (λB x g=>by rw[Go.Addr.add_mid,nB];exact a9.o.at_ g) (by intro x g;simp only[bB,kC,dC]at g;subst g;rfl) (by omega) (by unfold maxLen;have:=HM.o;omega) (by have:=HM.o;omega) (wr.heap.size+1) u λg L t x B C N=>hK _ _ ?_;simp only[nrm];clear hK;refine ab ?_;refine wB ?_;have T:=n.o.size;have U:=p.o.size;have J:Hid (t.ownsRow k.heap.size 3 1 (si (some ⟨g,0,none⟩) (b+1) L) (b+1) ((y.2.take (b+1)).map λd=>oP (d.1:Int))):=lh (by
   rw[E.o];exact wL x λd E=>by
    have e:g=d:=(by simpa[Value.ownBlock]using E);subst e;obtain h|h:=C;·exact sC M.o _ h
    omega)
  have d:Hid (Fr [] k t):=lh ((p.o.trans Q.o).trans B λg t=>Ij (by exact sC M.o g (by simpa using t)));have t:Wi ip ((b:Int)+1)=((b+1:Nat):Int):=(by have:=HM.o;rw[yB];omega);clear x B C N u I q l;go_wp2_with fail;go_roundg (j-(b+1))
  case measure=>omega
  case rel=>exact⟨b+1,by omega,rfl,J.o,d.o⟩
 obtain rfl:b=j:=(by omega);have i:=M.o;rw[zF (by rw[G.o];exact tA _)]at i;obtain⟨g,j,l,q⟩:=kH.of_own i k.heap.size;obtain⟨z,A,rfl,_,_⟩:=jA i;have d:w.heap.size<=g:=by
  by_cases k:0<b;·exact vD n.o.size (sC i _ (l k))
  rw[q (by omega)];exact n.o.size
 have r:=lh (m.o _ _ ⟨_,g,rfl,by rw[cH,G.o,List.map_map];exact j,d,n.o.trans p.o⟩);clear i j l q d;go_wp2_with fail;exact r.o
theorem Z35{P:Prop} (h:P:=by
 go_wp2_with fail
 go_roundg (n - (i+1))
 case measure=>omega
 case rel=>exact⟨i+1,by omega,rfl,HO7.o,HF7.o⟩):P:=h
theorem aTK{D:Nat->Prop}{w:World}{v:Value}{c:Ct}(h:CtV D w v c F)(f:li c<=1000000): Calls prog 39 #[il #[v]] w λe w'=>∃v' g,e=iz v'/\kH w' v' (li c) (c.map λd=>sj ⟨d.1.toArray⟩) g/\w.heap.size<=g/\Fr [] w w':=by
 refine cA λU I=>?_;obtain⟨l,p,rfl,_,_⟩:=jA h.own;have L:=f;obtain⟨n,q⟩:∃n,li c=n:=⟨_,rfl⟩;rw[q]at h f⊢;obtain⟨j,k⟩:=_root_.Go.Proofs.YtebjhcjbfaaejaaGreatDoor.nm (w.alloc (iy #[si l n p] 37));have f:Fr [] w j:=by rw[k];exact(jj [] w).alloc _
 have s:Blk j w.heap.size 37 [si l n p]:=by rw[k];exact jl w _ [si l n p]
 have⟨Z,H,B,C⟩:=hh4 s (h.fr f) q f;have l:j.heap.size=w.heap.size+1:=by rw[k];simp
 have M:=lh l;go_enter func39,ntmps39;go_upto_region 1 with fail;rw[<- k];obtain⟨S,z,A,E,G⟩:=oJ aGG;have N:=Z.o.a 0;go_wp2_with fail;go_loopg [3,4] n (λu v3 v4 wr=>∃i:Nat,i+u=n/\v4=ii ip (i:Int)/\wr.ownsRow j.heap.size 9 1 v3 i ((c.take i).map λd=>sj ⟨d.1.toArray⟩)/\Fr [] j wr);·exact⟨0,by omega,rfl,gD _ _ _ _,jj _ _⟩
 obtain⟨i,T,rfl,k,f⟩:=hrel;have⟨m,b⟩:=hh2 k f;have O:=(Z.o.fr f).a 0;by_cases l:i<n
 ·obtain⟨d,f⟩:∃d,c[i]? = some d:=gx (by rw[B.o];exact l);obtain⟨g,q,rfl,_,p,_,_⟩:=(H.o.fr b.o).at_ f;have l:Hid (((c.take (i+1)).map λd=>sj ⟨d.1.toArray⟩)=((c.take i).map λd=>sj ⟨d.1.toArray⟩)++[sj ⟨d.1.toArray⟩]):=lh (by rw[eJ,f,tQ];rfl);have Q:(i:Int)<(n:Int):=(by omega);obtain⟨f,s⟩:∃f:ByteArray,f=⟨d.1.toArray⟩:=⟨_,rfl⟩;rw[<- s]at p l;obtain⟨s,t,rfl,_,_⟩:=jA m.o;go_upto_region 5 with fail;refine sB ?_;iterate 7 (refine ab ?_)
  refine lp λK hK=>tB (v:=si wr 1 1) (w':=wr.alloc (iy #[sj f] 9)) (by go_simp<;>rfl) (hK _ _ ?_);simp only[nrm];have p:=jl wr 9 [sj f];have x:Fr [] wr (wr.alloc (iy #[sj f] 9)):=(jj [] wr).alloc _;have y:(wr.alloc (iy #[sj f] 9)).heap.size=wr.heap.size+1:=(by simp);change Blk (wr.alloc (iy #[sj f] 9)) _ _ _ at p;generalize wr.alloc (iy #[sj f] 9)=V at *;have⟨r,J⟩:=hh2 x p;refine lp λK hK=>fC (.tmp 12) (.tmp 19) rfl 9 1 16 underlying50 z A E G rfl (by omega) (si s i t) i ((c.take i).map λd=>sj ⟨d.1.toArray⟩) rfl (gF (fB m.o r.o (by simp))) ⟨wr.heap.size,0,none⟩ 1 1 [sj f] rfl rfl (λu q f=>by rw[Go.Addr.add_mid,nB];exact J.o.at_ f) (by intro q f;simp only[bB,kC,dC]at f;subst f;rfl) (by omega) (by unfold maxLen;omega) (by omega) (wr.heap.size+1) y λf q p u x y A=>hK _ _ ?_;simp only[nrm];refine ab ?_;refine wB ?_;have z:=b.o.size;have HO7:Hid (p.ownsRow j.heap.size 9 1 (si f (i+1) q) (i+1) ((c.take (i+1)).map λd=>sj ⟨d.1.toArray⟩)):=lh (by
   rw[l.o];exact wL u λd l=>by
    have e:f=d:=(by simpa[Value.ownBlock]using l);subst e;obtain h|h:=y;·exact sC m.o _ h
    omega)
  have HF7:Hid (Fr [] j p):=lh ((b.o.trans r.o).trans x λd f=>Ij (by exact sC m.o d (by simpa using f)));have u:Wi ip ((i:Int)+1)=((i+1:Nat):Int):=ak;exact Z35
 obtain rfl:i=n:=(by omega);have k:=m.o;rw[zF (by rw[B.o];exact tA _)]at k;obtain⟨d,l,p,q⟩:=kH.of_own k j.heap.size;obtain⟨s,t,rfl,_,_⟩:=jA k;have f:w.heap.size<=d:=by
  by_cases j:0<i;·exact vD C.o.size (sC k _ (p j))
  rw[q (by omega)];exact C.o.size
 have j:=lh (I.o _ _ ⟨_,d,rfl,by rw[B.o];exact l,f,C.o.trans b.o⟩);go_wp2_with fail;exact j.o
theorem aBZ:(prog.info? 95).map (λb=>(b.zero,b.size,b.bytes))=some (some (il #[ii ip 0,sj { data:=#[] }]),2,24):=by kernel_rfl
def dJ (l:Tx) (n:Int):Tx:=l.filter fun t=>!decide ((t.1:Int)=n)
theorem lX(t:Nat×List UInt8):∀u∈pG t,u.oneCell'=true:=by intro u b;simp only[pG,bB,kC,dC]at b;rcases b with rfl|rfl<;>rfl
def TxO (b:Nat) (w:World) (u:Value) (l:Tx):Prop:=w.ownsRow b 95 2 u l.length (l.flatMap pG)
theorem TxO.v{b:Nat}{w:World}{u:Value}{l:Tx}(h:TxO b w u l){D:Nat->Prop}(c:∀q,b<=q->D q):TxV D w u l:=⟨gF h,λq d=>c q (sC h q d)⟩
theorem sW(l:Tx):li (l.flatMap pG)=li l*2:=by
 induction l with
 | nil=>rfl
 | cons c l b=>rw[xG,iB,b,bD];show 2+_=_;omega
def WtRel (w:World) (l:Tx) (id:Int) (n j:Nat) (v5 v6:Value) (wr:World):Prop:=
 ∃i:Nat,i+j=n/\v6=.int .i64 (i:Int)/\TxO w.heap.size wr v5 (dJ (l.take i) id)/\Fr [] w wr
theorem aCw{D:Nat->Prop}{w:World}{u:Value}{l:Tx}(h:TxV D w u l)(d:li l<=1000000)(b:Int): Calls prog 57 #[u,b] w λe c=>∃u',e=iz u'/\TxO w c u' (dJ l b)/\Fr [] w c:=by
 refine cA λQ F=>?_;obtain⟨J,L,rfl,_,_⟩:=jA h.1;obtain⟨n,t⟩:∃n,li l=n:=⟨_,rfl⟩;rw[t]at h d⊢;have f:=lh h;obtain⟨M,y,z,A,E⟩:=oJ aBZ;go_enter func57,ntmps57;go_wp2_with fail;go_loopg [5,6] n (λk v5 v6 wr=>WtRel w l b n k v5 v6 wr);·exact⟨0,by omega,rfl,gD _ _ _ _,jj _ _⟩
 obtain⟨i,N,rfl,g,j⟩:=hrel;have m:=lh g;by_cases p:i<n
 ·obtain⟨c,d⟩:∃c,l[i]? = some c:=gx (by rw[t];exact p);have p:=f.o.fr j;obtain⟨B,rfl,r,s⟩:=p.at_ d;have f:dJ (l.take (i+1)) b=if (c.1:Int)=b then dJ (l.take i) b else dJ (l.take i) b++[c]:=by
   unfold dJ;rw[eJ,d,List.filter_append];by_cases h:(c.1:Int)=b;·rw[iA h];simp[h]
   rw[eA h];simp[h]
  have G:(i:Int)<(n:Int):=(by omega);have H:Wi ip ((i:Int)+1)=((i+1:Nat):Int):=ak;by_cases d:(c.1:Int)=b
  ·have p:((c.1:Int)==b)=true:=(by rw[beq_iff_eq];exact d);have q:Hid (dJ (l.take (i+1)) b=dJ (l.take i) b):=lh (by rw[f,iA d]);go_wp2_with fail;go_roundg (n-(i+1))
   case measure=>omega
   case rel=>exact⟨i+1,by omega,rfl,by rw[q.o];exact m.o,j⟩
  have p:((c.1:Int)==b)=false:=(by rw[lE];exact d);have q:Hid (dJ (l.take (i+1)) b=dJ (l.take i) b++[c]):=lh (by rw[f,eA d]);have C:Hid (wr.rangeAt B (i*2) (pG c)):=lh (by
   intro k u f;match k,f with
   | 0,f=>obtain rfl:=tE f;exact r
   | 1,f=>obtain rfl:=tE f;exact s
   | k+2,f=>simp[pG]at f)
  obtain⟨d,p⟩:∃d,li (dJ (l.take i) b)=d:=⟨_,rfl⟩;have I:d<=1000000:=(by rw[<- p];have r:li (dJ (l.take i) b)<=li (l.take i):=pO ..;rw[pB]at r;omega);obtain⟨v,x,rfl,_,_⟩:=jA m.o;have r:Hid (wr.ownsRow w 95 2 (si v d x) d ((dJ (l.take i) b).flatMap pG)):=lh (by have s:=m.o;unfold TxO at s;rw[p]at s;exact s);rw[p];go_upto_region 6 with fail;refine sB ?_;iterate 4 (refine ab ?_)
  refine lp λK hK=>xQ 95 (.tmp 23) rfl B (i*2) rfl (pG c) _ C.o underlying95 rfl (by kernel_rfl) (hK _ _ ?_);simp only[nrm];refine lp λK hK=>qC (.tmp 24) rfl rY y z (pG c) rfl A rfl (by simp[pG]) (by simp[pG]) (hK _ _ ?_);simp only[nrm];have B:=jl wr 95 (pG c);have s:Fr [] wr (wr.alloc (iy (pG c).toArray 95)):=(jj [] wr).alloc _;have C:(wr.alloc (iy (pG c).toArray 95)).heap.size=wr.heap.size+1:=(by simp);generalize wr.alloc (iy (pG c).toArray 95)=O at *;refine lp λK hK=>fC (.tmp 20) (.tmp 25) rfl 95 2 24 rY y z A E rfl (by omega) (si v d x) d ((dJ (l.take i) b).flatMap pG) rfl (gF (fB r.o s (by simp))) ⟨wr,0,none⟩ 1 1 (pG c) rfl rfl (λk u f=>by rw[Go.Addr.add_mid,nB];exact B.at_ f) (lX c) (by omega) (by unfold maxLen;omega) (by omega) (wr.heap.size+1) C λk y f z A B E=>hK _ _ ?_;simp only[nrm];refine ab ?_;refine wB ?_;have C:=j.size;have HO7:Hid (TxO w f (si k (d+1) y) (dJ (l.take (i+1)) b)):=lh (by
   rw[q.o];unfold TxO;rw[iB,p,vO];show f.ownsRow _ _ 2 _ (d+1) (_++(pG c++[]));rw[jH];exact wL z λc d=>by
    have e:k=c:=(by simpa[Value.ownBlock]using d);subst e;obtain h|h:=B;·exact sC r.o _ h
    omega)
  have HF7:Hid (Fr [] w f):=lh ((j.trans s).trans A λc d=>Ij (sC r.o c (by simpa using d)));exact Z35
 obtain rfl:i=n:=(by omega);have g:=m.o;rw[zF (by rw[t];exact tA _)]at g;have c:=lh (F.o _ _ ⟨_,rfl,g,j⟩);obtain⟨v,x,rfl,_,_⟩:=jA g;go_wp2_with fail;exact c.o
theorem aSm(l:Tx)(n:Nat):dJ l (n:Int)=lU l n:=by
 unfold dJ lU;refine List.filter_congr λc _=>?_;congr 1;by_cases b:c.1=n;·rw[yJ b,yJ (by omega)]
 rw[vH b,vH (by omega)]
theorem TxO.cells{b:Nat}{w:World}{A:Option Addr}{n cap:Nat}{l:Tx}(h:TxO b w (si A n cap) l)(k:0<n):∃g,A=some ⟨g,0,none⟩/\b<=g/\∀(j:Nat) (u:Value),(l.flatMap pG)[j]? = some u->w.cell? ⟨g,j,none⟩=some u:=by have d:=gR h;have c:=h;unfold TxO at c;rw[<- d]at c;obtain⟨g,d,f⟩:=tD c k;exact⟨g,d,sC h g (by rw[d];rfl),f⟩
theorem TxO.fr{b:Nat}{w w':World}{u:Value}{l:Tx}(h:TxO b w u l){S:List Nat}(c:Fr S w w')(d:∀q,u.ownBlock=some q->q∉S:=by simp):TxO b w' u l:=fB h c d
theorem TxO.cap{b:Nat}{w:World}{A:Option Addr}{n cap:Nat}{l:Tx}(h:TxO b w (si A n cap) l):n=li l/\n<=cap:=by refine⟨gR h,?_⟩;obtain⟨_,_,c,d,_⟩:=jA h;injection c with _ c f;omega
theorem TxO.snoc{b:Nat}{w w':World}{v:Value}{l:Tx}{i:Tx}{k m:Nat}(h:TxO b w v l)(d:li l=k)(f:li i=m)(g:w'.ownsRow 0 95 2 u (k+m) (l.flatMap pG++i.flatMap pG))(c:∀q,u.ownBlock=some q->v.ownBlock=some q∨b<=q):TxO b w' u (l++i):=by
 unfold TxO;rw[iB,d,f,vO];refine wL g λq j=>?_;obtain i|i:=c q j;·exact sC h q i
 exact i
theorem Z59{P:Prop} (h:P:=by
 go_wp2_with fail
 go_roundg (m - (k+1))
 case measure=>omega
 case rel=>exact⟨k+1,by omega,rfl,HQ1.o,HQ2.o,rfl⟩):P:=h
theorem aSn {D:Nat -> Prop} {w:World} {u:Value} {l:Tx} (h:TxV D w u l) (hl:li l<=1000000) (n:Nat) (s:ByteArray): Calls Tryz.prog 56 #[u,ii ip (n:Int),sj s] w λe w'=>∃ u',e=iz u'/\TxO w.heap.size w' u' (with_ l n (bA s))/\Fr [] w w':=by
 refine cA λR HQ=>?_;have HWO:=lh (aCw h hl (n:Int));rw[aSm] at HWO;obtain⟨A,cap,rfl,_,_⟩:=jA h.1;have hwl:li (lU l n)<=1000000:=vD (pO ..) hl;unfold with_ at HQ;obtain⟨L,hL⟩:∃ L,lU l n=L:=⟨_,rfl⟩;rw[hL] at HWO HQ hwl;clear h hL hl;obtain⟨iu,hi',hz',hsz',hby⟩:=oJ aBZ;go_enter Tryz.func56,Tryz.ntmps56;go_wp2_with fail;refine HWO.o.mono ?_;rintro e w1 ⟨u1,rfl,ho1,hf1⟩;obtain⟨A1,c1,rfl,_,_⟩:=jA ho1;obtain⟨m,hm⟩:∃ m,li L=m:=⟨_,rfl⟩;have hcm:=TxO.cap ho1;rw[hm] at ho1 hcm hwl ⊢;have HO1:=lh ho1;have HF1:=lh hf1;have HM:=lh hm;have HCM:=lh hcm.2;clear ho1 hf1 hm hcm HWO;go_upto_block 0 with fail;go_cut [8] (λv8 wc=>∃ k:Nat,k<=m/\v8=ii ip (k:Int)/\(L.takeWhile λt=>decide (t.1 < n))=L.take k/\(L.dropWhile λt=>decide (t.1 < n))=L.drop k/\wc=w1)
 ·go_wp2_with fail;go_loopg [8] m (λj v8 wr=>∃ k:Nat,k+j=m/\v8=ii ip (k:Int)/\(L.takeWhile λt=>decide (t.1 < n))=L.take k ++ ((L.drop k).takeWhile λt=>decide (t.1 < n))/\(L.dropWhile λt=>decide (t.1 < n))=((L.drop k).dropWhile λt=>decide (t.1 < n))/\wr=w1)
  case atStart=>exact⟨0,by omega,rfl,by simp,by simp,rfl⟩
  case round=>
   obtain⟨k,hk,rfl,hq1,hq2,rfl⟩:=hrel;by_cases hkm:k < m
   ·obtain⟨t,ht⟩:∃ t,L[k]? = some t:=gx (by rw[HM.o];exact hkm);have hfl:=HO1.o.v (D:=λ_=>True) (λ_ _=>trivial);obtain⟨g,rfl,ct1,ct2⟩:=hfl.at_ ht;rw[xK ht,aDw] at hq1;rw[xK ht,List.dropWhile_cons] at hq2;have hI:(k:Int) < (m:Int):=(by omega);have hwk:Wi ip ((k:Int)+1)=((k+1:Nat):Int):=(by rw[yB];omega);have htk:L.take (k+1)=L.take k ++ [t]:=(by rw[eJ,ht];rfl);by_cases htn:t.1 < n
    ·have htI:(t.1:Int) < (n:Int):=(by omega);rw[yJ htn,iA rfl] at hq1 hq2;have HQ1:Hid ((L.takeWhile λt=>decide (t.1 < n))=L.take (k+1) ++ ((L.drop (k+1)).takeWhile λt=>decide (t.1 < n))):=lh (by rw[hq1,htk,uF];rfl);have HQ2:=lh hq2;clear hq1 hq2 ht htk hfl htn ct2;go_wp2_with fail;go_roundg (m - (k+1))
     case measure=>omega
     case rel=>exact⟨k+1,by omega,rfl,HQ1.o,HQ2.o,rfl⟩
    have htI:¬ (t.1:Int) < (n:Int):=(by omega);rw[vH htn,eA (by decide),jH] at hq1;rw[vH htn,eA (by decide),<- xK ht] at hq2;have HQ1:=lh hq1;have HQ2:=lh hq2;clear hq1 hq2 ht htk hfl htn ct2;go_wp2_with fail;go_meet
    case rel=>exact⟨k,by omega,rfl,HQ1.o,HQ2.o,rfl⟩
   obtain rfl:k=m:=(by omega);have hd0:L.drop k=[]:=sO (by rw[HM.o];exact tA _);rw[hd0,List.takeWhile_nil,jH] at hq1;rw[hd0,List.dropWhile_nil] at hq2;have HQ1:=lh hq1;have HQ2:Hid ((L.dropWhile λt=>decide (t.1 < n))=L.drop k):=lh (by rw[hq2,hd0]);clear hq1 hq2 hd0;go_wp2_with fail;go_meet
   case rel=>exact⟨k,tA _,rfl,HQ1.o,HQ2.o,rfl⟩
 obtain⟨k,hkm,rfl,hq1,hq2,rfl⟩:=hcut;rw[hq1,hq2] at HQ;clear hq1 hq2;have hkl:li (L.take k)=k:=by rw[pB,HM.o];omega
 have hdl:li (L.drop k)=m - k:=by rw[vB,HM.o]
 have hall:L.flatMap pG=(L.take k).flatMap pG ++ (L.drop k).flatMap pG:=by rw[<- vO,bL]
 have HSRC:Hid (0 < m -> ∃ g,A1=some ⟨g,0,none⟩/\w.heap.size<=g/\(∀ (j:Nat) (u:Value),((L.take k).flatMap pG)[j]? = some u -> wc.cell? ⟨g,j,none⟩=some u)/\∀ (j:Nat) (u:Value),((L.drop k).flatMap pG)[j]? = some u -> wc.cell? ⟨g,k * 2+j,none⟩=some u):=lh λh0=>by
  obtain⟨g,hg,hb,hc⟩:=HO1.o.cells h0;refine⟨g,hg,hb,λj u hu=>hc j u ?_,λj u hu=>hc _ u ?_⟩;·rw[hall,yK (uC.1 hu).1];exact hu
  rw[hall,mJ (by rw[sW,hkl];omega),sW,hkl,aDe];exact hu
 have HKL:=lh hkl;have HDL:=lh hdl;have hkc:k<=c1:=by have:=HCM.o;omega
 clear hkl hdl hall;go_upto_region 6 with fail;refine sB ?_;iterate 4 (refine rn rfl (by go_simp <;> with_reducible rfl) ?_;simp only[nrm])
 refine lp λK hK=>?_;refine iE (.tmp 27) (.tmp 30) rfl 95 2 24 rY hi' hz' hsz' hby rfl (by omega) none 0 0 [] rfl (gD _ _ _ _) A1 k c1 ((L.take k).flatMap pG) rfl (by rw[sW,HKL.o]) (λh0=>by obtain⟨g,hg,_,hc,_⟩:=HSRC.o (by omega);exact⟨_,hg,λj u hu=>by rw[Go.Addr.add_mid,nB];exact hc j u hu⟩) (λu hu=>by obtain⟨t,_,hu⟩:=wR.1 hu;exact lX t u hu) (by unfold maxLen;omega) (by omega) wc.heap.size rfl λA2 c2 w2 ho2 hf2 hat2=>hK _ _ ?_;simp only[nrm];clear hK;refine rn rfl (by go_simp <;> with_reducible rfl) ?_;simp only[nrm];refine wB ?_;have hs1:=HF1.o.size;have HO2:Hid (TxO w.heap.size w2 (si A2 (0+k) c2) (L.take k)):=lh (TxO.snoc (l:=[]) (w:=wc) (v:=si none 0 0) (gD _ _ _ _) rfl HKL.o ho2 λq hq=>by
  obtain h | h:=hat2 q hq;·exact Ii h
  exact Ij (by omega))
 have HF2:Hid (Fr [] wc w2):=lh hf2;have HA2:Hid (∀ q,(si A2 (0+k) c2).ownBlock=some q -> q=wc.heap.size):=lh λq hq=>by
  obtain h | h:=hat2 q hq;·cases h
  exact h
 clear ho2 hf2 hat2;rw[nB] at HO2 HA2 ⊢;go_upto_region 7 with fail;refine sB ?_;iterate 4 (refine rn rfl (by go_simp <;> with_reducible rfl) ?_;simp only[nrm])
 refine lp λK hK=>qC (.tmp 35) rfl rY hi' hz' [ii ip (n:Int),sj s] rfl hsz' rfl (by simp) (by simp) (hK _ _ ?_);simp only[nrm];clear hK;have hb6:=jl w2 95 [ii ip (n:Int),sj s];have hf6:Fr [] w2 (w2.alloc (iy #[ii ip (n:Int),sj s] 95)):=(jj [] w2).alloc _;have hz6:(w2.alloc (iy #[ii ip (n:Int),sj s] 95)).heap.size=w2.heap.size+1:=by simp
 change Blk (w2.alloc (iy #[ii ip (n:Int),sj s] 95)) _ _ _ at hb6;generalize w2.alloc (iy #[ii ip (n:Int),sj s] 95)=w6 at *;have HF6:=lh hf6;have HB6:=lh hb6;clear hf6 hb6;have HO6:Hid (w6.ownsRow w.heap.size 95 2 (si A2 k c2) k ((L.take k).flatMap pG)):=lh (by have h9:=HO2.o.fr HF6.o;unfold TxO at h9;rw[HKL.o] at h9;exact h9);refine lp λK hK=>?_;refine fC (.tmp 32) (.tmp 36) rfl 95 2 24 rY hi' hz' hsz' hby rfl (by omega) (si A2 k c2) k ((L.take k).flatMap pG) rfl (gF HO6.o) ⟨w2.heap.size,0,none⟩ 1 1 [ii ip (n:Int),sj s] rfl rfl (λj u hu=>by rw[Go.Addr.add_mid,nB];exact HB6.o.at_ hu) (by intro u hu;simp only[bB,kC,dC] at hu;rcases hu with rfl | rfl <;> rfl) (by omega) (by unfold maxLen;omega) (by omega) (w2.heap.size+1) hz6 λg7 c7 w7 ho7 hf7 hat7 hlt7=>hK _ _ ?_;simp only[nrm];clear hK;refine rn rfl (by go_simp <;> with_reducible rfl) ?_;simp only[nrm];refine wB ?_;have hs2:=HF2.o.size;have HO7:Hid (TxO w.heap.size w7 (si (some ⟨g7,0,none⟩) (k+1) c7) (L.take k ++ [(n,bA s)])):=lh (TxO.snoc (HO2.o.fr HF6.o) HKL.o rfl ho7 λq hq=>by
  have e:g7=q:=(by simpa[Value.ownBlock] using hq);subst e;obtain h | h:=hat7;·exact Ii h
  exact Ij (by omega))
 have HF7:Hid (Fr [] w w7):=lh ((HF1.o.trans (HF2.o.trans HF6.o)).trans hf7 λx hx=>Ij (sC HO6.o x (by simpa using hx)));have HFC:Hid (Fr (si A2 k c2).ownBlock.toList wc w7):=lh (((HF2.o.trans HF6.o).mono (by simp)).trans hf7 λx hx=>Ii hx);clear ho7 hf7 hat7 hlt7 hz6;go_upto_region 8 with fail;refine sB ?_;iterate 4 (refine rn rfl (by go_simp <;> with_reducible rfl) ?_;simp only[nrm])
 refine lp λK hK=>?_;refine iE (.tmp 38) (.tmp 41) rfl 95 2 24 rY hi' hz' hsz' hby rfl (by omega) (some ⟨g7,0,none⟩) (k+1) c7 ((L.take k ++ [(n,bA s)]).flatMap pG) rfl (by have h9:=HO7.o;unfold TxO at h9;rw[iB,HKL.o] at h9;exact gF h9) _ (m - k) _ ((L.drop k).flatMap pG) rfl (by rw[sW,HDL.o]) (λh0=>by
  obtain⟨g,hg,_,_,hc⟩:=HSRC.o (by omega);refine⟨⟨g,k * 2,none⟩,?_,λj u hu=>?_⟩;·have hck:¬ c1=k:=(by have:=HCM.o;omega);simp[hck,hg,Go.Addr.add_mid]
  rw[Go.Addr.add_mid];have h9:=hc j u hu;exact yD HFC.o h9 (λhq=>by have:=HA2.o g (by simpa using hq);have:=dI h9;omega)) (λu hu=>by obtain⟨t,_,hu⟩:=wR.1 hu;exact lX t u hu) (by unfold maxLen;omega) (by omega) w7.heap.size rfl λA8 c8 w8 ho8 hf8 hat8=>hK _ _ ?_
 simp only[nrm];clear hK;refine rn rfl (by go_simp <;> with_reducible rfl) ?_;simp only[nrm];refine wB ?_;have ho:=TxO.snoc HO7.o (by rw[iB,HKL.o];rfl) HDL.o ho8 λq hq=>by
  obtain h | h:=hat8 q hq;·exact Ii h
  have:=HF7.o.size;exact Ij (by omega)
 have hfa:Fr [] w w8:=HF7.o.trans hf8 λx hx=>Ij (sC HO7.o x (by simpa using hx));rw[uF] at ho;have HX:=lh (HQ.o _ _ ⟨_,rfl,ho,hfa⟩);clear ho hfa ho8 hf8 hat8;go_wp2_with fail;all_goals exact HX.o
def clR (p:(Ky×Tx)×Value):List Value:=[.string ⟨p.1.1.toArray⟩,p.2]
theorem aFr:∀a b:Ky,Op.bytesLess a b=decide (klt a b)
 | [],[]=>rfl
 | [],_::_=>rfl
 | _::_,[]=>rfl
 | x::a,y::b=>by
  have c:=aFr a b;unfold Op.bytesLess;rw[c];unfold klt;conv=>rhs;unfold Lib.compareBytes
  by_cases c:x<y;·simp[c]
  by_cases d:y<x;·have f:(x==y)=false:=(by simpa using λe:x=y=>absurd (e▸d) (by rw[e]at d;exact λg=>absurd g (by rw[e]at c;exact c)));simp[c,d,f]
  have f:x=y:=by have g:¬ x.toNat<y.toNat:=c;have c:¬ y.toNat<x.toNat:=d;exact UInt8.toNat_inj.1 (by omega)
  simp[f]
def CoO (b:Nat) (w:World) (u:Value) (L:List ((Ky×Tx)×Value)):Prop:=w.ownsRow b 93 2 u L.length (L.flatMap clR)
theorem mX:∀(c:Ct) (b:List Value),li b=li c->qW c b=(c.zip b).flatMap clR
 | [],_,_=>rfl
 | y::c,[],h=>by simp at h
 | y::c,u::b,h=>by rw[List.zip_cons_cons,xG,<- mX c b (by simpa using h)];rfl
theorem sU(L:List ((Ky×Tx)×Value)):li (L.flatMap clR)=li L*2:=by
 induction L with
 | nil=>rfl
 | cons c d b=>rw[xG,iB,b,bD];show 2+_=_;omega
theorem aCa:(prog.info? 93).map (λb=>(b.zero,b.size,b.bytes))=some (some (il #[sj { data:=#[] },si none 0 0]),2,40):=by kernel_rfl
theorem CoO.cells{b:Nat}{w:World}{A:Option Addr}{n cap:Nat}{l:List ((Ky×Tx)×Value)}(h:CoO b w (si A n cap) l)(k:0<n):∃g,A=some ⟨g,0,none⟩/\b<=g/\∀(j:Nat) (u:Value),(l.flatMap clR)[j]? = some u->w.cell? ⟨g,j,none⟩=some u:=by have d:=gR h;have c:=h;unfold CoO at c;rw[<- d]at c;obtain⟨g,d,f⟩:=tD c k;exact⟨g,d,sC h g (by rw[d];rfl),f⟩
theorem CoO.fr{b:Nat}{w w':World}{u:Value}{l:List ((Ky×Tx)×Value)}(h:CoO b w u l){S:List Nat}(c:Fr S w w')(d:∀q,u.ownBlock=some q->q∉S:=by simp):CoO b w' u l:=fB h c d
theorem CoO.snoc{b:Nat}{w w':World}{v:Value}{l i:List ((Ky×Tx)×Value)}{k m:Nat}(h:CoO b w v l)(d:li l=k)(f:li i=m)(g:w'.ownsRow 0 93 2 u (k+m) (l.flatMap clR++i.flatMap clR))(c:∀q,u.ownBlock=some q->v.ownBlock=some q∨b<=q):CoO b w' u (l++i):=by
 unfold CoO;rw[iB,d,f,vO];refine wL g λq j=>?_;obtain i|i:=c q j;·exact sC h q i
 exact i
theorem aAO{c:Ct}(h:li F=li c):li (c.zip F)=li c:=by rw[List.length_zip,h,Nat.min_self]
theorem CtV.co{D:Nat->Prop}{w:World}{v:Value}{c:Ct}(h:CtV D w v c F):CoO 0 w v (c.zip F):=by have:=h.own;rw[mX c F h.len]at this;unfold CoO;rw[aAO h.len];exact this
theorem aOh{D:Nat->Prop}{w:World}{v:Value}{c:Ct}(h:CtV D w v c F):∀p∈c.zip F,∀u∈clR p,u.oneCell'=true:=by rintro⟨f,g⟩ i u d;obtain⟨j,b⟩:=List.getElem?_of_mem i;rw[List.getElem?_zip_eq_some]at b;obtain⟨i,k,rfl,_,_⟩:=jA (h.txs j f g b.1 b.2).1;simp only[clR,bB,kC,dC]at d;rcases d with rfl|rfl<;>rfl
theorem CtV.of_co{D:Nat->Prop}{w:World}{v:Value}{c:Ct}{b:Nat}(f:li F=li c)(d:CoO b w v (c.zip F))(g:∀q,b<=q->D q)(ht:∀p∈c.zip F,TxV D w p.2 p.1.2):CtV D w v c F:=by refine⟨f,?_,λq h=>g q (sC d q h),λi h j k l=>ht (h,j) (kF (i:=i) (by rw[List.getElem?_zip_eq_some];exact⟨k,l⟩))⟩;rw[mX c F f];unfold CoO at d;rw[aAO f]at d;exact gF d
theorem CtV.all{D:Nat->Prop}{w:World}{v:Value}{c:Ct}(h:CtV D w v c F):∀p∈c.zip F,TxV D w p.2 p.1.2:=by rintro⟨d,f⟩ g;obtain⟨i,b⟩:=List.getElem?_of_mem g;rw[List.getElem?_zip_eq_some]at b;exact h.txs i d f b.1 b.2
theorem TxV.more{D D':Nat->Prop}{w:World}{u:Value}{l:Tx}(h:TxV D w u l)(b:∀q,D q->D' q):TxV D' w u l:=⟨h.1,λq c=>b q (h.2 q c)⟩
theorem CtV.more{D D':Nat->Prop}{w:World}{v:Value}{c:Ct}(h:CtV D w v c F)(b:∀q,D q->D' q):CtV D' w v c F:=⟨h.len,h.own,λq d=>b q (h.blk q d),λd f g i j=>(h.txs d f g i j).more b⟩
theorem lD:(prog.info? 37).map (·.size)=some 1:=by kernel_rfl
theorem aSo {D:Nat -> Prop} {w:World} {v:Value} {c:Ct} {us:List Value} (h:CtV D w v c us) (hl:li c<=1000000) (hD:∀ q,D q -> q < w.heap.size) (s:ByteArray): Calls Tryz.prog 54 #[il #[v],sj s] w λe w'=>∃ v' us',e=iz (il #[v'])/\CtV (λq=>D q ∨ w.heap.size<=q) w' v' (aAG c (bA s)) us'/\(∀ q,v'.ownBlock=some q -> w.heap.size<=q)/\Fr [] w w':=by
 refine cA λR HQ=>?_;obtain⟨A,cap,rfl,hcap2,_⟩:=jA h.own;obtain⟨m,hm⟩:∃ m,li c=m:=⟨_,rfl⟩;have hco:=h.co;rw[hm] at h hl hcap2 hco ⊢;obtain⟨wb,hwb⟩:=nm ((w.alloc (iy #[si A m cap] 37)).alloc (iy #[si none 0 0] 37));have hf:Fr [] w wb:=by rw[hwb];exact((jj [] w).alloc _).alloc _
 have hb2:Blk wb w.heap.size 37 [si A m cap]:=by rw[hwb];exact(jl w _ [si A m cap]).alloc _
 have hb4:Blk wb (w.heap.size+1) 37 [si none 0 0]:=by rw[hwb];have:=jl (w.alloc (iy #[si A m cap] 37)) 37 [si none 0 0];rwa [qB] at this
 have HH:=lh (h.fr hf);have HDD:=lh hD;have HM:=lh hm;have HF:=lh hf;have HB2:=lh hb2;have HB4:=lh hb4;have HCP:=lh hcap2;have HCO:=lh (hco.fr hf);clear h hD hm hf hb2 hb4 hcap2 hco;unfold aAG at HQ;obtain⟨iu,hi',hz',hsz',hby⟩:=oJ aCa;go_enter Tryz.func54,Tryz.ntmps54;go_upto_region 1 with fail;rw[<- hwb];clear hwb;have c0:=HB2.o.at_ (i:=0) rfl;go_upto_block 0 with fail;go_cut [5] (λv5 wc=>∃ k:Nat,k<=m/\v5=ii ip (k:Int)/\(c.takeWhile λx=>decide (klt x.1 (bA s)))=c.take k/\(c.dropWhile λx=>decide (klt x.1 (bA s)))=c.drop k/\wc=wb)
 ·go_wp2_with fail;go_loopg [5] m (λj v5 wr=>∃ k:Nat,k+j=m/\v5=ii ip (k:Int)/\(c.takeWhile λx=>decide (klt x.1 (bA s)))=c.take k ++ ((c.drop k).takeWhile λx=>decide (klt x.1 (bA s)))/\(c.dropWhile λx=>decide (klt x.1 (bA s)))=((c.drop k).dropWhile λx=>decide (klt x.1 (bA s)))/\wr=wb)
  case atStart=>exact⟨0,by omega,rfl,by simp,by simp,rfl⟩
  case round=>
   obtain⟨k,hk,rfl,hq1,hq2,rfl⟩:=hrel;by_cases hkm:k < m
   ·obtain⟨y,hy⟩:∃ y,c[k]? = some y:=gx (by rw[HM.o];exact hkm);obtain⟨g,u,rfl,hu,cn,hcu,htu⟩:=HH.o.at_ hy;rw[xK hy,aDw] at hq1;rw[xK hy,List.dropWhile_cons] at hq2;have hI:(k:Int) < (m:Int):=(by omega);have hwk:Wi ip ((k:Int)+1)=((k+1:Nat):Int):=(by rw[yB];omega);have htk:c.take (k+1)=c.take k ++ [y]:=(by rw[eJ,hy];rfl);by_cases hlt:klt y.1 (bA s)
    ·have hls:Op.bytesLess y.1 s.toList=true:=(by rw[aFr,lN,yJ hlt]);rw[yJ hlt,iA rfl] at hq1 hq2;have HQ1:Hid ((c.takeWhile λx=>decide (klt x.1 (bA s)))=c.take (k+1) ++ ((c.drop (k+1)).takeWhile λx=>decide (klt x.1 (bA s)))):=lh (by rw[hq1,htk,uF];rfl);have HQ2:=lh hq2;clear hq1 hq2 hy htk hlt hu hcu htu;go_wp2_with fail;go_roundg (m - (k+1))
     case measure=>omega
     case rel=>exact⟨k+1,by omega,rfl,HQ1.o,HQ2.o,rfl⟩
    have hls:Op.bytesLess y.1 s.toList=false:=(by rw[aFr,lN,vH hlt]);rw[vH hlt,eA (by decide),jH] at hq1;rw[vH hlt,eA (by decide),<- xK hy] at hq2;have HQ1:=lh hq1;have HQ2:=lh hq2;clear hq1 hq2 hy htk hlt hu hcu htu;go_wp2_with fail;go_meet
    case rel=>exact⟨k,by omega,rfl,HQ1.o,HQ2.o,rfl⟩
   obtain rfl:k=m:=(by omega);have hd0:c.drop k=[]:=sO (by rw[HM.o];exact tA _);rw[hd0,List.takeWhile_nil,jH] at hq1;rw[hd0,List.dropWhile_nil] at hq2;have HQ1:=lh hq1;have HQ2:Hid ((c.dropWhile λx=>decide (klt x.1 (bA s)))=c.drop k):=lh (by rw[hq2,hd0]);clear hq1 hq2 hd0;go_wp2_with fail;go_meet
   case rel=>exact⟨k,tA _,rfl,HQ1.o,HQ2.o,rfl⟩
 obtain⟨k,hkm,rfl,hq1,hq2,rfl⟩:=hcut;rw[hq1,hq2] at HQ;clear hq1 hq2;have hul:=HH.o.len;obtain⟨L,hL⟩:∃ L,c.zip us=L:=⟨_,rfl⟩;have hlm:li L=m:=by rw[<- hL,aAO hul,HM.o]
 have hone:=aOh HH.o;rw[hL] at HCO hone;have hkl:li (L.take k)=k:=by rw[pB,hlm];omega
 have hdl:li (L.drop k)=m - k:=by rw[vB,hlm]
 have hall:L.flatMap clR=(L.take k).flatMap clR ++ (L.drop k).flatMap clR:=by rw[<- vO,bL]
 have HSRC:Hid (0 < m -> ∃ g,A=some ⟨g,0,none⟩/\(∀ (j:Nat) (u:Value),((L.take k).flatMap clR)[j]? = some u -> wc.cell? ⟨g,j,none⟩=some u)/\∀ (j:Nat) (u:Value),((L.drop k).flatMap clR)[j]? = some u -> wc.cell? ⟨g,k * 2+j,none⟩=some u):=lh λh0=>by
  obtain⟨g,hg,hb,hc⟩:=HCO.o.cells h0;refine⟨g,hg,λj u hu=>hc j u ?_,λj u hu=>hc _ u ?_⟩;·rw[hall,yK (uC.1 hu).1];exact hu
  rw[hall,mJ (by rw[sU,hkl];omega),sU,hkl,aDe];exact hu
 have HKL:=lh hkl;have HDL:=lh hdl;have HONE:=lh hone;have HL:=lh hL;have HUL:=lh hul;have hkc:k<=cap:=by have:=HCP.o;omega
 clear hkl hdl hall hone hlm hL hul;go_upto_region 5 with fail;refine sB ?_;iterate 5 (refine rn rfl (by go_simp <;> with_reducible rfl) ?_;simp only[nrm])
 refine lp λK hK=>?_;refine iE (.tmp 24) (.tmp 28) rfl 93 2 40 rV hi' hz' hsz' hby rfl (by omega) none 0 0 [] rfl (gD _ _ _ _) A k cap ((L.take k).flatMap clR) rfl (by rw[sU,HKL.o]) (λh0=>by obtain⟨g,hg,hc,_⟩:=HSRC.o (by omega);exact⟨_,hg,λj u hu=>by rw[Go.Addr.add_mid,nB];exact hc j u hu⟩) (λu hu=>by obtain⟨t,ht,hu⟩:=wR.1 hu;exact HONE.o t (yM ht) u hu) (by unfold maxLen;omega) (by omega) wc.heap.size rfl λA2 c2 w2 ho2 hf2 hat2=>hK _ _ ?_;simp only[nrm];clear hK;refine rn rfl (by go_simp <;> with_reducible rfl) ?_;simp only[nrm];refine wB ?_;have hs1:w.heap.size+2<=wc.heap.size:=HB4.o.lt;have HO2:Hid (CoO (w.heap.size+2) w2 (si A2 (0+k) c2) (L.take k)):=lh (CoO.snoc (l:=[]) (w:=wc) (v:=si none 0 0) (gD _ _ _ _) rfl HKL.o ho2 λq hq=>by
  obtain h | h:=hat2 q hq;·exact Ii h
  exact Ij (by omega))
 have HF2:Hid (Fr [] wc w2):=lh hf2;have HA2:Hid (∀ q,(si A2 (0+k) c2).ownBlock=some q -> q=wc.heap.size):=lh λq hq=>by
  obtain h | h:=hat2 q hq;·cases h
  exact h
 clear ho2 hf2 hat2 c0;rw[nB] at HO2 HA2 ⊢;go_upto_region 6 with fail;refine sB ?_;iterate 3 (refine rn rfl (by go_simp <;> with_reducible rfl) ?_;simp only[nrm])
 refine lp λK hK=>qC (.tmp 32) rfl rV hi' hz' [sj s,si none 0 0] rfl hsz' rfl (by simp) (by simp) (hK _ _ ?_);simp only[nrm];clear hK;have hb6:=jl w2 93 [sj s,si none 0 0];have hf6:Fr [] w2 (w2.alloc (iy #[sj s,si none 0 0] 93)):=(jj [] w2).alloc _;have hz6:(w2.alloc (iy #[sj s,si none 0 0] 93)).heap.size=w2.heap.size+1:=by simp
 change Blk (w2.alloc (iy #[sj s,si none 0 0] 93)) _ _ _ at hb6;generalize w2.alloc (iy #[sj s,si none 0 0] 93)=w6 at *;have HF6:=lh hf6;have HB6:=lh hb6;clear hf6 hb6;have HO6:Hid (w6.ownsRow (w.heap.size+2) 93 2 (si A2 k c2) k ((L.take k).flatMap clR)):=lh (by have h9:=HO2.o.fr HF6.o;unfold CoO at h9;rw[HKL.o] at h9;exact h9);refine lp λK hK=>?_;refine fC (.tmp 30) (.tmp 33) rfl 93 2 40 rV hi' hz' hsz' hby rfl (by omega) (si A2 k c2) k ((L.take k).flatMap clR) rfl (gF HO6.o) ⟨w2.heap.size,0,none⟩ 1 1 [sj s,si none 0 0] rfl rfl (λj u hu=>by rw[Go.Addr.add_mid,nB];exact HB6.o.at_ hu) (by intro u hu;simp only[bB,kC,dC] at hu;rcases hu with rfl | rfl <;> rfl) (by omega) (by unfold maxLen;omega) (by omega) (w2.heap.size+1) hz6 λg7 c7 w7 ho7 hf7 hat7 hlt7=>hK _ _ ?_;simp only[nrm];clear hK;refine rn rfl (by go_simp <;> with_reducible rfl) ?_;simp only[nrm];refine wB ?_;have hs2:=HF2.o.size;have HO7:Hid (CoO (w.heap.size+2) w7 (si (some ⟨g7,0,none⟩) (k+1) c7) (L.take k ++ [((bA s,[]),si none 0 0)])):=lh (CoO.snoc (HO2.o.fr HF6.o) HKL.o rfl ho7 λq hq=>by
  have e:g7=q:=(by simpa[Value.ownBlock] using hq);subst e;obtain h | h:=hat7;·exact Ii h
  exact Ij (by omega))
 have HFC:Hid (Fr (si A2 k c2).ownBlock.toList wc w7):=lh (((HF2.o.trans HF6.o).mono (by simp)).trans hf7 λx hx=>Ii hx);have HG7:Hid (wc.heap.size<=g7):=lh (by
  obtain h | h:=hat7;·have:=HA2.o g7 h;omega
  omega)
 have hb27:w7.cell? ⟨w.heap.size,0,none⟩=some (si A m cap):=yD HFC.o (HB2.o.at_ (i:=0) rfl) (λhq=>by have h1:=HA2.o _ (by simpa using hq);have h2:=HB2.o.lt;omega);have HB47:Hid (Blk w7 (w.heap.size+1) 37 [si none 0 0]):=lh (HB4.o.fr HFC.o (λhq=>by have h1:=HA2.o _ (by simpa using hq);have h2:=HB4.o.lt;omega));clear ho7 hf7 hat7 hlt7 hz6;go_upto_region 7 with fail;refine sB ?_;iterate 5 (refine rn rfl (by go_simp <;> with_reducible rfl) ?_;simp only[nrm])
 refine lp λK hK=>?_;refine iE (.tmp 35) (.tmp 39) rfl 93 2 40 rV hi' hz' hsz' hby rfl (by omega) (some ⟨g7,0,none⟩) (k+1) c7 ((L.take k ++ [((bA s,[]),si none 0 0)]).flatMap clR) rfl (by have h9:=HO7.o;unfold CoO at h9;rw[iB,HKL.o] at h9;exact gF h9) _ (m - k) _ ((L.drop k).flatMap clR) rfl (by rw[sU,HDL.o]) (λh0=>by
  obtain⟨g,hg,_,hc⟩:=HSRC.o (by omega);refine⟨⟨g,k * 2,none⟩,?_,λj u hu=>?_⟩;·have hck:¬ cap=k:=(by have:=HCP.o;omega);simp[hck,hg,Go.Addr.add_mid]
  rw[Go.Addr.add_mid];have h9:=hc j u hu;exact yD HFC.o h9 (λhq=>by have:=HA2.o g (by simpa using hq);have:=dI h9;omega)) (λu hu=>by obtain⟨t,ht,hu⟩:=wR.1 hu;exact HONE.o t (pJ ht) u hu) (by unfold maxLen;omega) (by omega) w7.heap.size rfl λA8 c8 w8 ho8 hf8 hat8=>hK _ _ ?_
 simp only[nrm];clear hK;refine rn rfl (by go_simp <;> with_reducible rfl) ?_;simp only[nrm];refine wB ?_;have hs7:=HFC.o.size;have ho:=CoO.snoc HO7.o (by rw[iB,HKL.o];rfl) HDL.o ho8 λq hq=>by
  obtain h | h:=hat8 q hq;·exact Ii h
  exact Ij (by omega)
 have hfc:Fr [] wc w8:=((jj [] wc).trans HFC.o λx hx=>Ij (by rw[HA2.o x (by simpa using hx)];exact tA _)).trans hf8 λx hx=>Ij (by have e:x=g7:=(by simpa[Value.ownBlock] using hx);rw[e];exact HG7.o);have hul:=HUL.o;have hz1:L.take k=(c.take k).zip (us.take k):=by rw[<- HL.o,aHy,List.take_zipWith];rfl
 have hz2:L.drop k=(c.drop k).zip (us.drop k):=by rw[<- HL.o,aHy,List.drop_zipWith];rfl
 have hzz:L.take k ++ [((bA s,[]),si none 0 0)] ++ L.drop k=(c.take k ++ (bA s,[]) :: c.drop k).zip (us.take k ++ si none 0 0 :: us.drop k):=by rw[List.zip_append (by rw[pB,pB,hul]),List.zip_cons_cons,<- hz1,<- hz2,uF];rfl
 have hct:CtV (λq=>D q ∨ w.heap.size+2<=q) w8 (si A8 (k+1+(m - k)) c8) (c.take k ++ (bA s,[]) :: c.drop k) (us.take k ++ si none 0 0 :: us.drop k):=by
  refine CtV.of_co (b:=w.heap.size+2) ?_ (by rw[<- hzz];exact ho) (λq hq=>Ij hq) λp hp=>?_;·rw[iB,iB,bD,bD,pB,pB,vB,vB,hul]
  rw[<- hzz] at hp;have hold:=HH.o.all;rw[HL.o] at hold;simp only[sD,xA] at hp;obtain(hp | rfl) | hp:=hp;·exact((hold p (yM hp)).fr hfc).more λq hq=>Ii hq
  ·exact⟨gD _ _ _ _,λq hq=>by cases hq⟩
  exact((hold p (pJ hp)).fr hfc).more λq hq=>Ii hq
 have HCT:=lh hct;have HFA:=lh (HF.o.trans hfc);have HOB:Hid (∀ q,(si A8 (k+1+(m - k)) c8).ownBlock=some q -> w.heap.size<=q):=lh λq hq=>by have:=sC ho q hq;omega
 have HB8:=lh (HB4.o.fr hfc);clear hct hfc ho hz1 hz2 hzz hul ho8 hf8 hat8 hb27;generalize k+1+(m - k)=n8 at *;go_upto_region 8 with fail;refine sB ?_;iterate 2 (refine rn rfl (by go_simp <;> with_reducible rfl) ?_;simp only[nrm])
 refine lp λK hK=>pA 37 (.tmp 4) (.tmp 42) rfl [si A8 n8 c8] rfl rfl HB8.o lD rfl (by intro u hu;simp only[bB,kC,dC] at hu;subst hu;rfl) λw9 hb9 hf9 hz9=>hK _ _ ?_;simp only[Act.put];clear hK;refine wB ?_;have HB9:=lh hb9;have HX:=lh (HQ.o _ _ ⟨_,_,rfl,(HCT.o.fr hf9 (λq hq hm=>by have:=xA.1 hm;obtain h | h:=hq;have:=HDD.o q h;omega;omega)).more (λq hq=>by obtain h | h:=hq;exact Ii h;exact Ij (by omega)),HOB.o,HFA.o.trans hf9 λq hq=>Ij (by rw[xA.1 hq];omega)⟩);go_wp2_with fail;all_goals exact cI rfl rfl HB9.o Go.Proofs.Tryz.underlying37 rfl (by kernel_rfl) HX.o
end
end Go.Proofs.YtebjhcjbfaaejaaGreatDoor
