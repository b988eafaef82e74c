/-
  Joined: CatI CatJ CatK CatM CatL CatN CatO CcA CatP CatQ
-/
import Derived.Defers
import Derived.Test.YtebjhcjbfaaejaaGreatDoorJct11
set_option maxRecDepth 100000
set_option maxHeartbeats 32000000
open Go.Value renaming int->ii,slice->si,string->sj,pointer->pi,tuple->tl,bool->ij,agg->il
open Go.IntKind renaming i64->ip,u8->ix,wrap->Wi
open Go.Obj renaming cells->iy
open Go.Ending renaming returned->iz
open Or renaming inl->Ii,inr->Ij
open List renaming length->li,take_add_one->eJ,flatMap_append->vO,length_nil->qP,size_toArray->uU,push_toArray->aBi,append_toArray->aBj
open UInt8 renaming ofNat->Ot
open Go renaming wp_load_mid->xQ
open Go.Proofs.Tryz renaming underlying9->nO,underlying5->aBd,underlying65->aDA
namespace Go.Proofs.YtebjhcjbfaaejaaGreatDoor
open Go.Proofs.Tryz
variable {n k i:Nat}{T:TypeId}{α:Type}
section
open Go.RowKit
variable {F:Fence}{P:Program}
def pU (B:Nat) (W W':World):Prop:=W.heap.size<=W'.heap.size/\W'.heap[B]? = W.heap[B]? /\ W'.heap[B+1]? = W.heap[B+1]?
def aRU {α:Type} (B:Nat) (Kp:World->World->Prop) (I:List α->World->Prop) (Ix:Code->List α->World->Prop) (xs:List α) (W:World):Exit->Act->World->Prop
 | .normal,_,W'=>pU B W W'/\Kp W W'/\I xs W'
 | .ret,_,W'=>pU B W W'/\Ix .ret xs W'
 | .exit id,_,W'=>pU B W W'/\Ix (.exit id) xs W'
 | .goto t,_,W'=>pU B W W'/\Ix (.goto t) xs W'
 | .panic _,_,_=>False
 | .outgrown,_,_=>False
structure AbJ {β:Type} (B:Nat) (I:β->World->Prop):Prop where
 drew:∀s W,I s W->I s W.drew
 alloc:∀s W o,I s W->W.heap.size=B∨W.heap.size=B+1->I s (W.alloc o)
 put:∀s W o o',I s W->W.heap[B+1]? = some o->o.isCells=false->I s (W.putObj (B+1) o')
theorem Z29{P:Prop} (h:P:=by
 exact⟨none,_,by have:=run_endLoop (P:=P) hl (by rw[hrec];simp);rw[hrec] at this;exact this,hdone xs _ (aBo (wJ.1 (World.putObj_heap_same (wJ.1 hl).1)).1) hS (hI.put _ _ _ _ hi hl rfl) ((World.putObj_heap_other (by omega)).trans hk)⟩):P:=h
theorem Z79{P:Prop} (h:P:=by
 rw[<- hW1];have:=World.alloc_heap_new (w.alloc (.deferred (some []))) (.loop (rec .ready none));rwa [qB] at this):P:=h
theorem qX {α:Type} {g:Operand} {ps:Array Tmp} {assign body:Code} {Q:Exit -> Act -> World -> Prop} {a:Act} {w:World} (hro:F.round=none) (h1:1<=n) {gf:Nat} {lb:Array Value} (hg:a.eval g=.func (.func gf) #[] lb) (hFg:F.fn gf) (eg:∀ args w,(callFunc gf args).run P w=.ok (.enter gf args) w) {encs:α -> Array Value} {Kp:World -> World -> Prop} {S Sp:List α -> Prop} {T:List α -> α -> Prop} {N:Nat} {w0:World} (hseq:∀ (l:Nat) (J Jx:List α -> World -> Prop) (W:World),Below w0.heap.size w0 W -> (∀ pre W,J pre W -> J pre W.drew) ->(∀ pre x W1,T pre x -> J pre W1 -> li pre < N -> YieldAt F (n - 1 - 1) P l (encs x) W1 λe W'=>(e=iz (ij true)/\J (pre ++ [x]) W'/\Kp W1 W') ∨ (e=iz (ij false)/\Jx (pre ++ [x]) W')) ->J [] W -> CallsIn F (n - 1) P gf (#[.func (.yield l) #[] #[]] ++ lb) W λe W'=>(∃ v,e=iz v)/\((∃ xs,S xs/\J xs W') ∨ (∃ pre,Sp pre/\Jx pre W'))) (hKt:∀ {A B C:World},Kp A B -> Kp B C -> Kp A C) (hKb:∀ (W:World) (l:Nat) (o o':Obj),w.heap.size<=l -> W.heap[l]? = some o -> o.isCells=false -> Kp W (W.putObj l o')) (hb0:Below w0.heap.size w0 w) (hps:∀ x,(encs x).size=ps.size) (I:List α -> World -> Prop) (Ix:Code -> List α -> World -> Prop) (hI:AbJ w.heap.size I) (hIx:∀ c,AbJ w.heap.size (Ix c)) (h0:I [] w) (a₁:α -> Act) (hassign:∀ (l:Nat) (x:α) (W:World) (K:Act -> World -> Prop),K (a₁ x) W ->assign.wpIn (F.inRound l) (n - 1 - 1) P (Exit.then K (λ_ _ _=>False)) { tmps:=(ps.zip (encs x)).foldl (λt (p,v)=>t.setIfInBounds p v) a.tmps,defers:=[] } W) (hbody:∀ (l:Nat) (pre:List α) (x:α) (W:World),w.heap.size+2<=W.heap.size -> T pre x -> I pre W -> li pre < N -> body.wpIn (F.inRound l) (n - 1 - 1) P (aRU w.heap.size Kp I Ix (pre ++ [x]) W) (a₁ x) W) (hdone:∀ (xs:List α) (W:World),w.heap.size+2<=W.heap.size -> S xs -> I xs W -> W.heap[w.heap.size]? = some (.deferred (some [])) -> Q .normal { a with defers:={ target:=.collected w.heap.size,args:=#[] } :: a.defers } W) (hstop:∀ (c:Code) (pre:List α) (W:World),w.heap.size+2<=W.heap.size -> Sp pre -> Ix c pre W -> W.heap[w.heap.size]? = some (.deferred (some [])) -> c.wpIn F n P Q { a with defers:={ target:=.collected w.heap.size,args:=#[] } :: a.defers } W): (Code.rangeFunc g ps assign body).wpIn F n P Q a w:=by
 refine wpIn_rangeFunc ?_;intro fn hfn;rw[hro];obtain⟨rec,hrec⟩:∃ rec:LoopState -> Option Code -> Loop,rec=λst pe=>{ state:=st,pending:=pe,fn,tmps:=a.tmps,params:=ps,assign,body,defers:=w.heap.size }:=⟨_,rfl⟩;obtain⟨W1,hW1⟩:∃ W1,(w.alloc (.deferred (some []))).alloc (.loop (rec .ready none))=W1:=⟨_,rfl⟩;have hL1:W1.heap[w.heap.size+1]? = some (.loop (rec .ready none)):=by rw[<- hW1];have:=World.alloc_heap_new (w.alloc (.deferred (some []))) (.loop (rec .ready none));rwa [qB] at this
 have hK1:W1.heap[w.heap.size]? = some (.deferred (some [])):=by rw[<- hW1];exact(Below.heap_alloc _ _ _ (by simp)).trans (World.alloc_heap_new w _)
 have hI1:I [] W1:=by rw[<- hW1];exact hI.alloc _ _ _ (hI.alloc _ _ _ h0 (Ii rfl)) (Ij (by simp))
 have hb1:Below w0.heap.size w0 W1:=by rw[<- hW1];exact hb0.trans ((((Below.refl _ w).alloc (tA _) _).alloc (by simp) _).mono hb0.size)
 refine⟨w.heap.size+1,[{ target:=.collected w.heap.size,args:=#[] }],W1,{ target:=.fn (.func gf) lb,args:=#[.func (.yield (w.heap.size+1)) #[] #[]] },W1,gf,#[.func (.yield (w.heap.size+1)) #[] #[]] ++ lb,W1,?_,?_,?_,?_,λ_=>h1,?_⟩;·rw[<- hW1,hrec];exact run_enterLoop_outer _ _ _ _ _
 ·simp only[resolve,hg];simp[go_sem]
 ·intro f' hf';simp[Target.leads] at hf';subst hf';exact hFg
 ·simp[invoke,go_sem,eg]
 refine(hseq (w.heap.size+1) (λpre W=>I pre W/\W.heap[w.heap.size+1]? = some (.loop (rec .ready none))/\W.heap[w.heap.size]? = some (.deferred (some []))) (λpre W=>∃ c,Ix c pre W/\W.heap[w.heap.size+1]? = some (.loop (rec .done (some c)))/\W.heap[w.heap.size]? = some (.deferred (some []))) W1 hb1 (λs A hs=>⟨hI.drew _ _ hs.1,hs.2⟩) ?_ ⟨hI1,hL1,hK1⟩).mono ?_
 ·rintro pre x W hT ⟨hi,hl,hk⟩ hlen;have hlt:w.heap.size+1 < W.heap.size:=(wJ.1 hl).1;have hy:=run_yield (P:=P) (args:=encs x) hl (by rw[hrec];exact hps x);rw[hrec] at hy;refine⟨fn,_,assign,body,hy,roundIn_of_wpIn hfn (hassign _ x W _ ⟨_,run_beginRound hl (by rw[hrec]),?_⟩)⟩;have hl2:(W.putObj (w.heap.size+1) (.loop { rec .ready none with state:=.busy })).heap[w.heap.size+1]? = some (.loop { rec .ready none with state:=.busy }):=World.putObj_heap_same hlt;have hk2:(W.putObj (w.heap.size+1) (.loop { rec .ready none with state:=.busy })).heap[w.heap.size]? = some (.deferred (some [])):=(World.putObj_heap_other (by omega)).trans hk;have hw2:Kp W (W.putObj (w.heap.size+1) (.loop { rec .ready none with state:=.busy })):=hKb _ _ _ _ (by omega) hl rfl;refine wpIn_mono (hbody _ pre x _ (aBo (wJ.1 hl2).1) hT (hI.put _ _ _ _ hi hl rfl) hlen) ?_;have fin:∀ (jump:Option Code) (W3:World),pU w.heap.size (W.putObj (w.heap.size+1) (.loop { rec .ready none with state:=.busy })) W3 ->(Instr.endRound (w.heap.size+1) jump).run P W3=.ok (ij jump.isNone) (W3.putObj (w.heap.size+1) (.loop (rec (if jump.isNone then .ready else .done) jump))) /\W3.heap[w.heap.size+1]? = some (.loop { rec .ready none with state:=.busy }) /\(W3.putObj (w.heap.size+1) (.loop (rec (if jump.isNone then .ready else .done) jump))).heap[w.heap.size+1]? = some (.loop (rec (if jump.isNone then .ready else .done) jump)) /\(W3.putObj (w.heap.size+1) (.loop (rec (if jump.isNone then .ready else .done) jump))).heap[w.heap.size]? = some (.deferred (some [])):=λjump W3 hk3=>by
   have hl3:=hk3.2.2.trans hl2;have:=run_endRound (P:=P) jump hl3;rw[hrec] at this ⊢;exact⟨this,by rw[hrec] at hl3;exact hl3,World.putObj_heap_same (wJ.1 hl3).1,(World.putObj_heap_other (by omega)).trans (hk3.2.1.trans hk2)⟩
  rintro e a3 W3 hp;cases e with
  | normal=>obtain⟨hk3,hkp3,hi3⟩:=hp;obtain⟨hr,hl3,hl4,hk4⟩:=fin none W3 hk3;exact⟨_,_,hr,Ii ⟨rfl,⟨hI.put _ _ _ _ hi3 hl3 rfl,hl4,hk4⟩,hKt (hKt hw2 hkp3) (hKb _ _ _ _ (by omega) hl3 rfl)⟩⟩
  | ret=>obtain⟨hk3,hi3⟩:=hp;obtain⟨hr,hl3,hl4,hk4⟩:=fin (some .ret) W3 hk3;exact⟨_,_,hr,Ij ⟨rfl,.ret,(hIx _).put _ _ _ _ hi3 hl3 rfl,hl4,hk4⟩⟩
  | exit id=>obtain⟨hk3,hi3⟩:=hp;obtain⟨hr,hl3,hl4,hk4⟩:=fin (some (.exit id)) W3 hk3;exact⟨_,_,hr,Ij ⟨rfl,.exit id,(hIx _).put _ _ _ _ hi3 hl3 rfl,hl4,hk4⟩⟩
  | goto t=>obtain⟨hk3,hi3⟩:=hp;obtain⟨hr,hl3,hl4,hk4⟩:=fin (some (.goto t)) W3 hk3;exact⟨_,_,hr,Ij ⟨rfl,.goto t,(hIx _).put _ _ _ _ hi3 hl3 rfl,hl4,hk4⟩⟩
  | panic ch=>exact hp.elim
  | outgrown=>exact hp.elim
 rintro e W2 ⟨⟨v,rfl⟩,(⟨xs,hS,hi,hl,hk⟩ | ⟨pre,hSp,c,hi,hl,hk⟩)⟩;·exact⟨none,_,by have:=run_endLoop (P:=P) hl (by rw[hrec];simp);rw[hrec] at this;exact this,hdone xs _ (aBo (wJ.1 (World.putObj_heap_same (wJ.1 hl).1)).1) hS (hI.put _ _ _ _ hi hl rfl) ((World.putObj_heap_other (by omega)).trans hk)⟩
 exact⟨some c,_,by have:=run_endLoop (P:=P) hl (by rw[hrec];simp);rw[hrec] at this;exact this,hstop c pre _ (aBo (wJ.1 (World.putObj_heap_same (wJ.1 hl).1)).1) hSp ((hIx c).put _ _ _ _ hi hl rfl) ((World.putObj_heap_other (by omega)).trans hk)⟩
end
section
open Go.RowKit Go.Shelf
attribute [local go_sem] Oper.semAt_some
def aKA (g off ln k:Nat):Value:=.slice (some ⟨g,off+64*k,none⟩) (min 64 (ln-64*k)) (min 64 (ln-64*k))
theorem aMP(n l p r g off c m cap:Nat)(A:Option Addr)(h:0<c->A=some ⟨g,off,none⟩)(X:c<=cap)(Y:m=(c+63) / 64)(M:c<=100000)(N:1<=n)(b f:List (Fin m)->World->Prop) (i:∀pre (x:Fin m) W,pre=uL m x.1->b pre W->li pre<m->YieldAt Fence.wide (n-1) prog l #[aKA g off c x.1] W λe d=>
   (e=iz (ij true)/\b (pre++[x]) d/\iK p r W d)∨(e=iz (ij false)/\f (pre++[x]) d))
 (s:∀pre W,b pre W->b pre W.drew)
 (W:World)(P:W.cell? p=some (si A c cap))(Q:W.cell? r=some (ii ip 64))(h0:b [] W): CallsIn Fence.wide n prog 115 #[.func (.yield l) #[] #[],pi p,pi r] W λe d=>(∃v,e=iz v) /\((∃ys,ys=List.finRange m/\b ys d)∨(∃pre,True/\f pre d)):=by
 refine callsIn_of_wp func115 rfl trivial ?_ rfl;simp only[ntmps115,uU,bD,qP,Nat.reduceAdd,Nat.reduceSub,Array.replicate_succ,aBh,aBi,aBj,nG,lI]
 gi_wp2
 gi_loopw [4] (λf wr=>∃d:Nat,d<=m/\f=ii ip ((64*d:Nat):Int)/\b (uL m d) wr/\wr.cell? p=some (si A c cap)/\wr.cell? r=some (ii ip 64)) (λf _=>64*m-(intOf f).toNat)
 ·exact⟨0,uB _,rfl,h0,P,Q⟩
 ·obtain⟨d,b,rfl,t,k,o⟩:=hrel;by_cases j:d<m
  ·obtain⟨G,H,I,J,q,B⟩:=i _ ⟨d,j⟩ wr.drew rfl (s _ _ t) (by rw[yY b];exact j);have C:64*d<c:=(by have:=Y;omega);obtain rfl:=h (by omega);obtain⟨f,y⟩:∃f,min 64 (c-64*d)=f:=⟨_,rfl⟩;obtain⟨b,h⟩:∃b,64*d=b:=⟨_,rfl⟩;obtain⟨s,u⟩:∃s,64*(d+1)=s:=⟨_,rfl⟩;obtain⟨i,L⟩:∃i,b+f=i:=⟨_,rfl⟩;unfold aKA at q;dsimp only at q;rw[y,h]at q;rw[h];have D:0<f:=(by omega);have q:=xH Go.Proofs.Tryz.underlying67 iM (some ⟨g,off,none⟩) c cap b ip (by omega);rw[eA (by omega)]at q;simp only[tO,Go.Addr.add_mid]at q;have E:∀(y:Array TypeId) (z:TypeId) (W:World),(Builtin.min_ y z #[ii ip 64,ii ip ((c-b:Nat):Int)]).run prog W=.ok (ii ip (f:Int)) W:=λy z W=>by
    rw[run_min_int2];split;·have e:((c-b:Nat):Int)=(f:Int):=(by omega);rw[e]
    have e:(64:Int)=(f:Int):=(by omega);rw[e]
   have y:Wi ip ((b:Int)+(f:Int))=(i:Int):=ak;have z:Wi ip ((b:Int)+64)=(s:Int):=ak;have s:=aEn (some ⟨g,off,none⟩) c cap b i (by omega) (by omega);rw[eA (by omega),show i-b=f by omega]at s;simp only[tO,Go.Addr.add_mid]at s;have F:(b:Int)<(c:Int):=(by omega);gi_wp2;refine lM (λW=>W.cell? p=some (si (some ⟨g,off,none⟩) c cap)/\W.cell? r=some (ii ip 64)) [0,1,2,3,4,5] (by kernel_rfl) ?_;refine tks [0,1,2] ?_;iterate 3 (refine ac ⟨k,o⟩ ?_)
   refine tke ?_;refine tv 3 (si (some ⟨g,off+b,none⟩) (c-b) (cap-b)) rfl rfl ⟨k,o⟩ (Ii ⟨rfl,λW _=>gH rfl rfl rfl rfl (q W)⟩) ?_;simp only[nrm];refine tks [4,5] ?_;iterate 2 (refine ac ⟨k,o⟩ ?_)
   refine tke ?_;refine af 6 (λf=>absurd f (by decide +kernel)) ?_;refine wd ?_ _;have i:wr.drew.cell? p=some (si (some ⟨g,off,none⟩) c cap):=k;have k:wr.drew.cell? r=some (ii ip 64):=o;gi_wp2;refine B.mono ?_;rintro e B (⟨rfl,q,f⟩|⟨rfl,s⟩)
   ·have o:=f.1.trans i;have i:=f.2.trans k;gi_wp2;go_roundw
    case rel=>exact⟨d+1,j,by rw[u],by rw[xV j];exact q,o,i⟩
    case measure=>have:=u;have:=h;have:=j;simp[intOf];omega
   gi_wp2;refine qD (results_none rfl _ _ _) rfl ?_;exact⟨⟨_,rfl⟩,Ij ⟨_,trivial,s⟩⟩
  obtain rfl:d=m:=(by omega);obtain⟨b,h⟩:∃b,64*d=b:=⟨_,rfl⟩;rw[h];have d:¬ (b:Int)<(c:Int):=(by have:=Y;omega);clear h;gi_wp2;go_end0;exact⟨⟨_,rfl⟩,Ii (by have b:=t;unfold uL at b;rwa [zF (by simp)]at b)⟩
end
section
open Go.RowKit Go.ChangeMaps Go.MapKept Go.Maps Go.Sort Go.Shelf
theorem aFm{d:Func}{R:Ending->World->Prop}{tmps:Array Value}{w:World}{k:Tmp}{b:Nat}{n:Int}(f:d.results=#[.cell k 27])(g:tmps.getD k undef=pi b)(i:w.cell? b=some (ii ip n))(h:R (iz (ii ip n)) w):bodyPost prog d R .ret ⟨tmps,[]⟩ w:=by
 refine qD (v:=ii ip n) ?_ rfl h;have c:tmps[k]?.getD undef=pi b:=by simpa using g
 simp[results,f,c,go_sem,i]
section
variable {w0 w w':World}{dk g st ca:Nat}{x:SE}{X Y:Nat->Prop}
theorem CtX.other(h:CtX w0 w dk g st ca x X){b:Nat}(d:Fr [b] w w')(f:X b)(h0:w0<=b)(h1:st≠b)(h2:ca≠b):CtX w0 w' dk g st ca x X:=⟨⟨h.sx.px.other d (by intro i c;rw[xA.1 c];exact f) (by intro i c;rw[xA.1 c];exact h0),h.sx.blk.fr d (by simp[h1]),h.sx.xs,h.sx.br,h.sx.calm,h.sx.store⟩,h.blk.fr d (by simp[h2]),h.xc⟩
theorem Kp.new{b:Nat}(d:Fr [b] w w')(f:¬ X b):Kp X w w':=⟨[b],d,by intro g c;rw[xA.1 c];exact f⟩
theorem aRV(h:CtX w0 w dk g st ca x X)(d c:Int)(cs f:ByteArray)(hi:idB c=false): Calls prog 58 #[pi ca,il #[d,sj cs,c,sj f]] w (tJ w0 dk g st ca x X (x,1) w):=by refine cA λj f=>?_;have d:=lh (λi:World=>lJ (w:=i) c);rw[hi]at d;go_enter func58,ntmps58;go_wp2_with fail;refine(d.o _).mono ?_;rintro e c ⟨rfl,rfl⟩;go_wp2_with fail;refine aFm rfl rfl (b:=w.heap.size+1+1) (n:=1) (by go_simp) (f.o _ _ (tJ.none h ((((jj [] w).alloc _).alloc _).alloc _)))
theorem aFn(b:Array Value)(w:World):(callFunc 84 b).run prog w=.ok (.enter 84 b) w:=by kernel_rfl
theorem aRW(h:CtX w0 w dk g st ca x X)(j d:Int)(cs f:ByteArray)(hi:idB d=true)(i:65536<f.size): Calls prog 58 #[pi (some ca),il #[j,sj cs,d,sj f]] w (tJ w0 dk g st ca x X (x,4) w):=by
 refine cA λl j=>?_;have⟨H,c⟩:=hh2 h (λk:World=>lJ (w:=k) d);rw[hi]at c;have d:(65536:Int)<(f.size:Int):=by omega
 clear h hi i;go_enter func58,ntmps58;go_wp2_with fail;refine(c.o _).mono ?_;rintro e f ⟨rfl,rfl⟩;go_wp2_with fail;refine aFm rfl rfl (b:=w.heap.size+1+1) (n:=4) (by go_simp) (j.o _ _ (tJ.none H.o ((((jj [] w).alloc _).alloc _).alloc _)))
theorem Z24{P:Prop} (h:P:=by
 have:=mP (w:=W.alloc (.cells #[.int .i64 id] 3)) cs [id.toNat] hz.1 (by omega) (by simp;omega) (by simp) (HIL.o W);rw[hKY,qB] at this;exact this):P:=h
theorem aTv(h:CtX w0 w dk g st ca x X){N:Nat}(B:mE N x.E)(z:N<=900000){c:Ct}(A:Rep x.E c)(p id:Int)(cs f:ByteArray)(C:nmB (bA cs)=true)(hi:idB id=true)(U:f.size<=65536)(i:(cutS x (zB (bA cs) [id.toNat])).2≠0): Calls prog 58 #[pi (some ⟨ca,0,none⟩),il #[ii ip p,sj cs,ii ip id,sj f]] w (tJ w0 dk g st ca x X (cutS x (zB (bA cs) [id.toNat])) w):=by
 refine cA λa2 G=>?_;have⟨H,HN,b2,b3⟩:=hh4 h z B A.keys;have hz:=mG C;have D:=yA cs;have s:=lh (λW:World=>lJ (w:=W) id);rw[hi]at s;have HIL:=lh (λW=>aAM W id hi);have J:=cK.1 hi;obtain⟨j,hKY⟩:∃K,zB (bA cs) [id.toNat]=K:=⟨_,rfl⟩;rw[hKY]at i G;obtain⟨⟨R,F⟩,q⟩:∃y,cutS x j=y:=⟨_,rfl⟩;have M:Hid (∀(W:World),Calls prog 45 #[sj cs,si (some ⟨W.heap.size,0,none⟩) 1 1] (W.alloc (iy #[ii ip id] 3)) λe w'=>∃v',e=iz v'/\(∃m,dA w' v' j m/\W.heap.size+1<=m)/\Fr [] (W.alloc (iy #[ii ip id] 3)) w'):=lh λW=>by exact Z24
 have t:li j<=96/\1<=li j:=by rw[<- hKY,qI];simp;omega
 have I:=lh t;have S:Hid (aft j≠[]):=lh (by rw[<- hKY];exact iX _ _);rw[q]at i G;have T:=lh q;have V:(F !=0)=true:=by rw[nJ];exact i
 have Y:¬ (65536:Int)<(f.size:Int):=by omega
 obtain⟨d,k⟩:=nm (((w.alloc (iy #[pi (some ⟨ca,0,none⟩)] 30)).alloc (iy #[ii ip p,sj cs,ii ip id,sj f] 65)).alloc (iy #[ii ip 0] 27));have u:Fr [] w d:=by rw[k];exact(((jj [] w).alloc _).alloc _).alloc _
 have L:Hid (Blk d w.heap.size 30 [pi (some ⟨ca,0,none⟩)]):=lh (by rw[k];exact((jl w _ [pi (some ⟨ca,0,none⟩)]).alloc _).alloc _);have r:Hid (Blk d (w.heap.size+1) 65 [ii ip p,sj cs,ii ip id,sj f]):=lh (by rw[k];have:=(jl (w.alloc (iy #[pi (some ⟨ca,0,none⟩)] 30)) 65 [ii ip p,sj cs,ii ip id,sj f]).alloc (iy #[ii ip 0] 27);rwa [qB]at this);have O:Hid (Blk d (w.heap.size+2) 27 [ii ip 0]):=lh (by rw[k];have:=jl ((w.alloc (iy #[pi (some ⟨ca,0,none⟩)] 30)).alloc (iy #[ii ip p,sj cs,ii ip id,sj f] 65)) 27 [ii ip 0];rwa [qB,qB]at this);have Q:=lh u;clear h B z A hi hKY q t hz D J HIL C i u U;go_enter func58,ntmps58;go_upto_region 1 with fail;rw[show w.heap.size+1+1=w.heap.size+2 by omega,<- k];clear k;have k:=L.o.a 0;have p:=r.o.a 1;have q:=r.o.a 2;have Z:=r.o.a 3;go_wp2_with fail;refine(s.o _).mono ?_;rintro e a0 ⟨rfl,rfl⟩;go_upto_region 5 with fail;refine aj (λW=>W.cell? ⟨w.heap.size,0,none⟩=some (pi (some ⟨ca,0,none⟩))/\W.cell? ⟨w.heap.size+1,1,none⟩=some (sj cs)/\W.cell? ⟨w.heap.size+1,2,none⟩=some (ii ip id)) [0,1,2,3,4,8,9,10] ?_;have f:Fr [] d d.drew:=(jj [] d).drew;have J:=lh (Q.o.trans f);replace k:=aA f k;replace p:=aA f p;replace q:=aA f q;have L:=lh (O.o.fr f);clear f;generalize d.drew=f at *;refine tks [0,1,2,3,4] ?_;iterate 5 (refine ac ⟨k,p,q⟩ ?_)
 refine tke ?_;refine ag 5 λK hK=>?_;obtain⟨z,r⟩:=nm (f.alloc (iy #[ii ip id] 3));have d:Fr [] f z:=by rw[r];exact(jj [] f).alloc _
 have s:=aA d k;have t:=aA d p;have u:=aA d q;refine tB (v:=si (some ⟨f.heap.size,0,none⟩) 1 1) (w':=z) (by rw[r];go_simp<;>rfl) (hK _ _ (λ_=>⟨s,t,u⟩) ?_);simp only[nrm];clear hK;have z:=lh (M.o f);rw[<- r]at z;refine ag 6 λK hK=>kA (l:=[.tmp 23,.tmp 26]) rfl [sj cs,si (some ⟨f.heap.size,0,none⟩) 1 1] rfl (kN _) ((z.o).mono ?_);rintro e Q ⟨a1,rfl,⟨m,q,k⟩,f⟩;have p:=aA f s;have A:=aA f t;have C:=aA f u;refine⟨_,rfl,hK _ _ (λ_=>⟨p,A,C⟩) ?_⟩;simp only[nrm];clear hK;have D:Fr [] w Q:=J.o.trans (d.trans f);have M:=sF q (by have:=I.o;omega);have U:=lh (H.o.fr D);have O:=lh (aCR U.o b2.o HN.o b3.o q (Ij ⟨by have:=J.o.size;omega,M⟩) S.o (by have:=I.o;omega));obtain⟨S,U,_,rfl,_,_⟩:=_root_.id q;have J:=lh D;have I:w.heap.size+2<Q.heap.size:=by have:=dI p;have:=L.o.lt;have:=d.size;have:=f.size;omega
 have Q:=lh (L.o.fr (d.trans f));clear q k d f D M z s t u r;refine ag 7 λK hK=>kA (l:=[.tmp 21,.tmp 27]) rfl [pi (some ⟨ca,0,none⟩),si S (li j) U] rfl (aFn _) (O.o.mono ?_);rintro e u ⟨rfl,r,s,d⟩;have f:=d.cell p (Ij ⟨tA _,by omega⟩);have j:=d.cell A (Ij ⟨by omega,by omega⟩);have q:=d.cell C (Ij ⟨by omega,by omega⟩);have t:=lh (d.blk Q.o (Ij ⟨by omega,I⟩));rw[T.o]at r s⊢;refine⟨_,rfl,hK _ _ (λ_=>⟨f,j,q⟩) ?_⟩;simp only[nrm];clear hK;have⟨c4,c5,c6⟩:=hh3 r s ((Kp.of J.o).more (Kp.less d λm k=>Ii k));clear r s d p A C O;refine tks [8,9,10] ?_;iterate 3 (refine ac ⟨f,j,q⟩ ?_)
 refine tke ?_;refine af 11 (λ_=>⟨f,j,q⟩) ?_;refine af 12 (λ_=>⟨f,j,q⟩) ?_;refine _root_.Go.Proofs.YtebjhcjbfaaejaaGreatDoor.wd ?_ _;have f:=t.o.a 0;have j:=t.o.free;go_wp2_with fail;have d:Fr [w.heap.size+2] u (u.setCell ⟨w.heap.size+2,0,none⟩ (ii ip F)):=(jj _ _).setCell (Ii (by simp)) _;have p:=H.o.lt _ H.o.sx.xs;have q:=H.o.lt _ H.o.xc;refine aFm rfl rfl (b:=w.heap.size+2) (n:=F) (World.cell?_setCell_same _ _ _ f) (G.o _ _ ⟨rfl,(c4.o.other d (Ij ⟨by omega,I⟩) (vD H.o.frame.size (by omega)) (by omega) (by omega)).weak (λm k=>Ii k) H.o.sx.xs H.o.xc,c5.o,c6.o.more (Kp.new d λd=>by have:=H.o.lt _ d;omega)⟩)
end
structure nW (w0:World) (dk g st ca:Nat) (y:SE) (Z:Nat->Prop) (b7 bE:Nat) (wl:World) (n7 ve:Int) (s0:PS) (W:World):Prop where
 ex:∃X':Nat->Prop,CtX w0 W dk g st ca y X'/\(∀q,Z q->X' q)/\(∀q,wl.heap.size<=q->q<wl.heap.size+2->q<W.heap.size->X' q)
 wr:Wr s0 y.s
 kp:Kp (fun q=>Z q/\q≠b7/\q≠bE) wl W
 c7:Blk W b7 3 [.int .i64 n7]
 ce:Blk W bE 27 [.int .i64 ve]
section
variable {w0 wl W W':World}{dk g st ca b7 bE:Nat}{y:SE}{Z X:Nat->Prop}{n7 ve:Int}{s0:PS}
theorem Kp.size(h:Kp X W W'):W.heap.size<=W':=by obtain⟨_,b,_⟩:=h;exact b.size
theorem Kp.block(h:Kp X W W'){q:Nat}(d:X q)(f:q<W):W'.heap[q]? = W.heap[q]?:=by obtain⟨g,b,c⟩:=h;exact b.block q f λb=>c q b d
theorem nW.drew(h:nW w0 dk g st ca y Z b7 bE wl n7 ve s0 W):nW w0 dk g st ca y Z b7 bE wl n7 ve s0 W.drew:=by obtain⟨c,a,d,f⟩:=h.ex;have b:Fr [] W W.drew:=(jj [] W).drew;exact⟨⟨c,a.stay b,d,f⟩,h.wr,h.kp.more (Kp.of b),h.c7.fr b,h.ce.fr b⟩
theorem nW.alloc(h:nW w0 dk g st ca y Z b7 bE wl n7 ve s0 W)(c:Obj):nW w0 dk g st ca y Z b7 bE wl n7 ve s0 (W.alloc c):=by
 obtain⟨l,a,f,i⟩:=h.ex;have b:Fr [] W (W.alloc c):=(jj [] W).alloc c;refine⟨⟨_,a.fr b,λc d=>Ii (f c d),λc f j k=>?_⟩,h.wr,h.kp.more (Kp.of b),h.c7.fr b,h.ce.fr b⟩;by_cases d:c<W;·exact Ii (i c f j d)
 exact Ij ⟨by omega,k⟩
theorem nW.putObj(h:nW w0 dk g st ca y Z b7 bE wl n7 ve s0 W)(f:∀q,Z q->q<wl)(i:Z st)(j:Z ca)(m:Z b7)(n:Z bE)(h0:w0.heap.size<=wl)(p:wl.heap.size+1<W)(k:Obj):nW w0 dk g st ca y Z b7 bE wl n7 ve s0 (W.putObj (wl.heap.size+1) k):=by
 obtain⟨l,a,o,c⟩:=h.ex;have b:Fr [wl.heap.size+1] W (W.putObj (wl.heap.size+1) k):=(jj _ _).grown (grownBy_putObj' _ _ k) (λd e=>by cases e;exact Ii (by simp));have r:=f st i;have d:=f ca j;have s:=f b7 m;have t:=f bE n;refine⟨⟨l,a.other b (c _ (by omega) (by omega) p) (by omega) (by omega) (by omega),o,λq d l o=>c q d l ?_⟩,h.wr,h.kp.more (Kp.new b λc=>?_),h.c7.fr b (by simp;omega),h.ce.fr b (by simp;omega)⟩;·have:=b.size;omega
 have:=f _ c.1;omega
theorem nW.setE(h:nW w0 dk g st ca y Z b7 bE wl n7 ve s0 W)(i:Z bE)(h0:w0<=bE)(h1:st≠bE)(h2:ca≠bE)(h3:b7≠bE)(v:Int):nW w0 dk g st ca y Z b7 bE wl n7 v s0 (W.setCell bE (ii ip v)):=by obtain⟨d,a,c,f⟩:=h.ex;have b:Fr [bE] W (W.setCell bE (ii ip v)):=(jj _ _).setCell (Ii (by simp)) _;refine⟨⟨d,a.other b (c _ i) h0 h1 h2,c,λc d j k=>f c d j (by simpa using k)⟩,h.wr,h.kp.more (Kp.new b λc=>c.2.2 rfl),h.c7.fr b (by simpa using h3),h.ce.set_ 0 (ii ip v)⟩
end
theorem aKB{W:World}{C:Nat}{b:List UInt8}{k:Nat}(h:dA W (si n (li b) C) b n)(m:64*k<li b):dA W (aKA n 0 (li b) k) (pc b k) n:=by
 obtain⟨j,l,f,d,o,c⟩:=h;injection d with g p i;subst i;obtain⟨e,i⟩:=c (by omega);rw[<- g]at e;have c:f=0:=by injection e with e;injection e with _ e;exact e.symm
 subst c;have c:li (pc b k)=min 64 (li b-64*k):=by unfold pc;rw[pB,vB]
 refine⟨_,_,0+64*k,by unfold aKA;rw[c],by rw[c];exact tA _,λ_=>⟨rfl,λd f c=>?_⟩⟩;unfold pc at c;rw[vN,dK,uH]at c;split at c;·rw[zK]at c;have:=i _ f c;rw[nB]at this;rw[nB];exact this
 cases c
attribute [local go_sem] Oper.semAt_some
theorem kX(s:Ky)(n:Nat)(b:List UInt8):∀(m j:Nat) (x:SE),layS s n b j (m+1) x=if (layS s n b j m x).2=0 then putS (layS s n b j m x).1 0 (zB s [n,j+m]) (pc b (j+m)) else layS s n b j m x
 | 0,j,x=>by
  show(if _=0 then layS s n b (j+1) 0 _ else _)=if (0:Int)=0 then putS x 0 (zB s [n,j+0]) (pc b (j+0)) else _
  rw[iA rfl,gV];split;·rename_i c;show(_,(0:Int))=_;rw[<- c];rfl
  rfl
 | m+1,j,x=>by
  have d:∀m,layS s n b j (m+1) x=if (putS x 0 (zB s [n,j]) (pc b j)).2=0 then layS s n b (j+1) m (putS x 0 (zB s [n,j]) (pc b j)).1 else putS x 0 (zB s [n,j]) (pc b j):=λ_=>rfl
  rw[d (m+1),d m];by_cases c:(putS x 0 (zB s [n,j]) (pc b j)).2=0;·rw[iA c,iA c,kX s n b m (j+1),show j+1+m=j+(m+1) by omega]
  rw[eA c,eA c,eA c]
theorem aGC(s:Ky)(n:Nat)(b:List UInt8)(j m:Nat)(x:SE)(h:(layS s n b j m x).2≠0):∀i,layS s n b j (m+i) x=layS s n b j m x
 | 0=>rfl
 | i+1=>by have c:=aGC s n b j m x h i;rw[show m+(i+1)=(m+i)+1 by omega,kX,c,eA h]
theorem qU{F:Fence}{n:Nat}{P:Program}{i:Func}{R:Ending->World->Prop}{l m:Array Value}(j:∀w,(results i l).run P w=(results i m).run P w):∀(g:List Deferred) (u:FrameMode) (w:World),LeavesInM F n P i l R g u w->LeavesInM F n P i m R g u w
 | [],.returning,w,⟨v,h1,h2⟩=>⟨v,(j w).symm.trans h1,h2⟩
 | [],.panicking _,_,b=>b
 | [],.run,_,b=>b
 | d::g,u,w,⟨h0,b⟩=>⟨h0,b.imp (λ⟨k,c,a,f,h⟩=>⟨k,c,a,f,qU j g u c h⟩) λ⟨a,k,o,p,q,f,h,e,r⟩=>⟨a,k,o,p,q,f,h,e,r.mono λf h c b=>by
   cases f with
   | returned v=>exact qU j g _ c b
   | panicked chain=>exact qU j g _ c b
   | outgrown=>exact b⟩⟩
theorem eG{F:Fence}{n:Nat}{P:Program}{b:Func}{R:Ending->World->Prop}{c:List PanicEntry}{a:Act}{w:World}{d k:Nat}{t:TypeId}{v:Value}(g:b.results=#[.cell k t])(i:d≠k)(h:bodyPostM F n P b R (.panic c) (a.put (some d) v) w):bodyPostM F n P b R (.panic c) a w:=
 qU (λw=>by
  have e:(a.put (some d) v).tmps.getD k undef=a.tmps.getD k undef:=by simp only[Act.put,Array.getD_eq_getD_getElem?];rw[Array.getElem?_setIfInBounds,eA i]
  have f:(a.put (some d) v).tmps[k]?.getD undef=a.tmps[k]?.getD undef:=by simpa using e
  unfold results;rw[g];simp[f]) a.defers _ w h
theorem aRX(w:World)(n:Int)(k:Nat)(b:idB n=true):kH (w.alloc (iy #[n,k] 3)) (si w 2 2) 2 ([n.toNat,k].map λn:Nat=>ii ip (n:Int)) w:=by
 have c:=cK.1 b;have e:((n.toNat:Nat):Int)=n:=by omega
 show kH _ _ 2 [ii ip ((n.toNat:Nat):Int),ii ip (k:Int)] _;rw[e];exact kH.of_blk (jl w 3 [n,k]) 2 2 (tA _)
theorem aKC(A:Option Addr)(n c:Nat)(w:World):Calls prog 82 #[si A n c,ii ip 64] w λe b=>
  e=iz (.func (.func 115) #[] #[pi w,pi (some (w.heap.size+1:Nat))])/\b=(w.alloc (iy #[si A n c] 67)).alloc (iy #[ii ip 64] 3):=by
 refine cA λd b=>?_
 go_enter func82,ntmps82
 go_wp2_with fail;exact b.o _ _ ⟨rfl,rfl⟩
section
variable {w0 w w':World}{dk g st ca:Nat}{x:SE}{X Y:Nat->Prop}
theorem aTw(h:CtX w0 w dk g st ca x X){N:Nat}(q:mE N x.E)(C:N<=900000){c:Ct}(D:Rep x.E c)(a6 id:Int)(cs B:ByteArray)(I:nmB (bA cs)=true)(hi:idB id=true)(Y:B.size<=65536)(f:(cutS x (zB (bA cs) [id.toNat])).2=0): Calls prog 58 #[pi (some ⟨ca,0,none⟩),il #[ii ip a6,sj cs,ii ip id,sj B]] w (tJ w0 dk g st ca x X (layS (bA cs) id.toNat (bA B) 0 (np (bA B)) (cutS x (zB (bA cs) [id.toNat])).1) w):=by
 refine cA λd1 a7=>?_;have⟨H,HN,s0,s1⟩:=hh4 h C q D.keys;have hz:=mG I;have f2:=yA cs;have u:=lh (λW:World=>lJ (w:=W) id);rw[hi]at u;have HIL:=lh (λW=>aAM W id hi);have L:=cK.1 hi;obtain⟨G,hKY⟩:∃K,zB (bA cs) [id.toNat]=K:=⟨_,rfl⟩;rw[hKY]at f a7;obtain⟨⟨A,m⟩,O⟩:∃J,cutS x G=J:=⟨_,rfl⟩;have U:Hid (∀(W:World),Calls prog 45 #[sj cs,si (some ⟨W.heap.size,0,none⟩) 1 1] (W.alloc (iy #[ii ip id] 3)) λe w'=>∃v',e=iz v'/\(∃j,dA w' v' G j/\W.heap.size+1<=j)/\Fr [] (W.alloc (iy #[ii ip id] 3)) w'):=lh λW=>by exact Z24
 have g3:Hid (∀(W:World) (k:Nat),k<4294967296->Calls prog 45 #[sj cs,si (some ⟨W.heap.size,0,none⟩) 2 2] (W.alloc (iy #[ii ip id,ii ip (k:Int)] 3)) λe w'=>∃v',e=iz v'/\(∃j,dA w' v' (zB (bA cs) [id.toNat,k]) j/\W.heap.size+1<=j)/\Fr [] (W.alloc (iy #[ii ip id,ii ip (k:Int)] 3)) w'):=lh λW k a2=>by have:=mP (w:=W.alloc (iy #[ii ip id,ii ip (k:Int)] 3)) cs [id.toNat,k] hz.1 (by omega) (by simp;omega) (by simp) (aRX W id k hi);rw[qB]at this;exact this
 have c8:Hid (∀k,li (zB (bA cs) [id.toNat,k])<=96/\1<=li (zB (bA cs) [id.toNat,k])):=lh λk=>by rw[qI];simp;omega
 have c1:li G<=96/\1<=li G:=by rw[<- hKY,qI];simp;omega
 have M:=lh c1;have a5:Hid (aft G≠[]):=lh (by rw[<- hKY];exact iX _ _);rw[O]at f a7;have a':=lh O;have c9:Hid (li (bA cs)<=100):=lh (by omega);have g4:Hid (mE N A.E):=lh (by have:=mE.cutS q G;rw[O]at this;exact this);obtain rfl:m=0:=f;have v8:¬ (65536:Int)<(B.size:Int):=by omega
 obtain⟨f,m⟩:=nm (((w.alloc (iy #[pi (some ⟨ca,0,none⟩)] 30)).alloc (iy #[ii ip a6,sj cs,ii ip id,sj B] 65)).alloc (iy #[ii ip 0] 27));have y:Fr [] w f:=by rw[m];exact(((jj [] w).alloc _).alloc _).alloc _
 have z:Hid (Blk f w.heap.size 30 [pi (some ⟨ca,0,none⟩)]):=lh (by rw[m];exact((jl w _ [pi (some ⟨ca,0,none⟩)]).alloc _).alloc _);have r:Hid (Blk f (w.heap.size+1) 65 [ii ip a6,sj cs,ii ip id,sj B]):=lh (by rw[m];have:=(jl (w.alloc (iy #[pi (some ⟨ca,0,none⟩)] 30)) 65 [ii ip a6,sj cs,ii ip id,sj B]).alloc (iy #[ii ip 0] 27);rwa [qB]at this);have V:Hid (Blk f (w.heap.size+2) 27 [ii ip 0]):=lh (by rw[m];have:=jl ((w.alloc (iy #[pi (some ⟨ca,0,none⟩)] 30)).alloc (iy #[ii ip a6,sj cs,ii ip id,sj B] 65)) 27 [ii ip 0];rwa [qB,qB]at this);have⟨s7,e6⟩:=hh2 y Y;clear h q C D hi hKY O c1 hz f2 L HIL I y Y;refine(uN (n:=5)).1 ?_;refine callsIn_of_wp_marks func58 rfl trivial ?_ rfl;simp only[ntmps58,uU,bD,qP,Nat.reduceAdd,Nat.reduceSub,Array.replicate_succ,aBh,aBi,aBj,nG,lI];have q:=lh m;clear m;gi_wp2_with (refine⟨trivial,?_⟩;gi_at_call 47;refine(uN.2 (u.o _)).mono ?_;rintro e w' ⟨rfl,rfl⟩);rw[show w.heap.size+1+1=w.heap.size+2 by omega,<- q.o];have u:=z.o.a 0;have m:=r.o.a 1;have q:=r.o.a 2;refine lM (λW=>W.cell? ⟨w.heap.size,0,none⟩=some (pi (some ⟨ca,0,none⟩))/\W.cell? ⟨w.heap.size+1,1,none⟩=some (sj cs)/\W.cell? ⟨w.heap.size+1,2,none⟩=some (ii ip id)) [0,1,2,3,4,8,9,10] (by kernel_rfl) ?_;have C:Fr [] f f.drew:=(jj [] f).drew;have Q:=lh (s7.o.trans C);replace u:=aA C u;replace m:=aA C m;replace q:=aA C q;have⟨j5,i2,i3⟩:=hh3 (V.o.fr C) (r.o.fr C) (z.o.fr C);clear C;generalize f.drew=a0 at *;refine ae 0 ⟨u,m,q⟩ ?_ (hQ:=λ_ _ _ h=>eG (d:=21) (k:=4) rfl (by decide) h);refine ae 1 ⟨u,m,q⟩ ?_ (hQ:=λ_ _ _ h=>eG (d:=22) (k:=4) rfl (by decide) h);refine ae 2 ⟨u,m,q⟩ ?_ (hQ:=λ_ _ _ h=>eG (d:=23) (k:=4) rfl (by decide) h);refine ae 3 ⟨u,m,q⟩ ?_ (hQ:=λ_ _ _ h=>eG (d:=24) (k:=4) rfl (by decide) h);refine ae 4 ⟨u,m,q⟩ ?_ (hQ:=λ_ _ _ h=>eG (d:=25) (k:=4) rfl (by decide) h);refine ag 5 λK hK=>?_;obtain⟨b2,L⟩:=nm (a0.alloc (iy #[ii ip id] 3));have D:Fr [] a0 b2:=by rw[L];exact(jj [] a0).alloc _
 have f:=aA D u;have r:=aA D m;have z:=aA D q;refine tB (v:=si (some ⟨a0.heap.size,0,none⟩) 1 1) (w':=b2) (by rw[L];go_simp<;>rfl) (hK _ _ (λ_=>⟨f,r,z⟩) ?_);simp only[nrm];clear hK;have a3:=lh (U.o a0);rw[<- L]at a3;refine ag 6 λK hK=>?_;refine kA (l:=[.tmp 23,.tmp 26]) rfl [sj cs,si (some ⟨a0.heap.size,0,none⟩) 1 1] rfl (kN _) ((a3.o).mono ?_);rintro e y ⟨f0,rfl,⟨j,a2,I⟩,a1⟩;have U:=aA a1 f;have Z:=aA a1 r;have R:=aA a1 z;refine⟨_,rfl,hK _ _ (λ_=>⟨U,Z,R⟩) ?_⟩;simp only[nrm];clear hK;have V:Fr [] w y:=Q.o.trans (D.trans a1);have a8:=sF a2 (by have:=M.o;omega);have b0:=lh (H.o.fr V);have a9:=lh (aCR b0.o s0.o HN.o s1.o a2 (Ij ⟨by have:=Q.o.size;omega,a8⟩) a5.o (by have:=M.o;omega));obtain⟨c2,c3,_,rfl,_,_⟩:=_root_.id a2;have b0:=lh V;have a5:w.heap.size+2<y.heap.size:=by have:=dI U;have:=j5.o.lt;have:=D.size;have:=a1.size;omega
 have⟨c5,k1⟩:=hh2 (j5.o.fr (D.trans a1)) (D.trans a1);clear a2 I D a1 V a8 a3 f r z L;refine ag 7 λK hK=>?_;refine kA (l:=[.tmp 21,.tmp 27]) rfl [pi (some ⟨ca,0,none⟩),si c2 (li G) c3] rfl (aFn _) (a9.o.mono ?_);rintro e f ⟨rfl,e0,a8,Q⟩;have r:=Q.cell U (Ij ⟨tA _,by omega⟩);have z:=Q.cell Z (Ij ⟨by omega,by omega⟩);have M:=Q.cell R (Ij ⟨by omega,by omega⟩);have b1:=lh (Q.blk c5.o (Ij ⟨by omega,a5⟩));rw[a'.o]at e0 a8⊢;refine⟨_,rfl,hK _ _ (λ_=>⟨r,z,M⟩) ?_⟩;simp only[nrm];clear hK;have⟨k2,t0,t1,t2⟩:=hh4 Q e0 a8 ((Kp.of b0.o).more (Kp.less Q λj I=>Ii I));clear e0 a8 Q U Z R a9;refine ae 8 ⟨r,z,M⟩ ?_ (hQ:=λ_ _ _ h=>eG (d:=20) (k:=4) rfl (by decide) h);refine ae 9 ⟨r,z,M⟩ ?_ (hQ:=λ_ _ _ h=>eG (d:=29) (k:=4) rfl (by decide) h);refine ae 10 ⟨r,z,M⟩ ?_ (hQ:=λ_ _ _ h=>eG (d:=30) (k:=4) rfl (by decide) h);refine af 11 (λ_=>⟨r,z,M⟩) ?_;refine af 12 (λ_=>⟨r,z,M⟩) ?_;refine _root_.Go.Proofs.YtebjhcjbfaaejaaGreatDoor.wd ?_ _;have⟨d2,i4⟩:=hh2 (k2.o.blk (i2.o.fr k1.o) (Ij ⟨by omega,by omega⟩)) (k2.o.blk (i3.o.fr k1.o) (Ij ⟨by omega,by omega⟩));have c7:Hid (y.heap.size<=f.heap.size):=lh (by obtain⟨_,b6,_⟩:=k2.o;exact b6.size);have a8:=lh a5;clear a5 r z M;obtain⟨Q,M⟩:=nm (f.alloc (iy #[ii ip 0] 3));have U:Fr [] f Q:=by rw[M];exact(jj [] f).alloc _
 have Z:Blk Q f.heap.size 3 [ii ip 0]:=by rw[M];exact jl f _ [ii ip 0]
 obtain⟨R,r,c4,j4,z,a5⟩:=aBR Q B (by have:=e6.o;omega);rw[M]at c4;have b0:=d2.o.at_ (i:=3) (v:=sj B) rfl;have c':=d2.o.lt;have⟨n9,n',o0,h5,o1⟩:=hh5 U Z z a5 M;clear U Z z a5 M;gi_wp2_with (refine⟨trivial,?_⟩;gi_at_call 82;refine(uN.2 (aKC _ _ _ _)).mono ?_;rintro e w' ⟨rfl,rfl⟩);obtain⟨wl,M⟩:=nm ((r.alloc (iy #[si (some ⟨f.heap.size+1,0,none⟩) B.size R] 67)).alloc (iy #[ii ip 64] 3));have U:Fr [] r wl:=by rw[M];exact((jj [] r).alloc _).alloc _
 have a9:wl.heap.size=r.heap.size+2:=by rw[M];simp
 have b3:Blk wl r.heap.size 67 [si (some ⟨f.heap.size+1,0,none⟩) B.size R]:=by rw[M];exact(jl r _ [si (some ⟨f.heap.size+1,0,none⟩) B.size R]).alloc _
 have b4:Blk wl (r.heap.size+1) 3 [ii ip 64]:=by rw[M];have:=jl (r.alloc (iy #[si (some ⟨f.heap.size+1,0,none⟩) B.size R] 67)) 3 [ii ip 64];rwa [qB]at this
 have b7:Q.heap.size=f.heap.size+1:=by rw[o1.o];simp
 rw[<- M];have⟨e7,k4,o6,h7⟩:=hh4 (n9.o.trans (h5.o.trans U)) b3 b4 a9;have z:=o0.o.fr U;rw[b7]at z;obtain⟨b,hb⟩:∃b,bA B=b:=⟨_,rfl⟩;have Q:li b=B.size:=by rw[<- hb];exact yA B
 rw[hb]at z a7;obtain⟨Z,c6⟩:∃Z,B.size=Z:=⟨_,rfl⟩;rw[c6]at z Q e6 k4⊢;have d0:Hid (dA wl (si (some ⟨f.heap.size+1,0,none⟩) (li b) R) b (f.heap.size+1)):=lh (by rw[Q];exact z);have a':=lh Q;have d6:Z<=R:=by obtain⟨j6,c,j7,h1,a5,_⟩:=z;injection h1 with _ _ h1;rw[h1,<- Q];exact a5
 have b5:Hid (CtX w0 wl dk g st ca A (yC (yC X w y) f wl)):=lh (t0.o.fr e7.o);have b8:=n'.o.fr (h5.o.trans U);have b9:=b1.o.fr e7.o;have b':=d2.o.fr e7.o;have c0:=i4.o.fr e7.o;have⟨p1,d3,i5,e9⟩:=hh4 b9 b' c0 b8;have d4:Hid (w.heap.size+2<y.heap.size/\y.heap.size<=f.heap.size/\f.heap.size+1<=r.heap.size/\w.heap.size<=y.heap.size):=lh ⟨a8.o,c7.o,by have:=h5.o.size;omega,by have:=a8.o;omega⟩;clear U a9 b3 b4 b7 M z hb Q c6 b8 b9 b' c0 c4 b0 c' n9 n' o0 h5 o1 j5 i2 i3 c5 k1 b1 d2 i4;have f3:Hid (st<w.heap.size/\ca<w.heap.size/\w0.heap.size<=w.heap.size):=lh ⟨H.o.lt _ H.o.sx.xs,H.o.lt _ H.o.xc,H.o.frame.size⟩;have f4:Hid (f.heap.size<wl.heap.size/\w.heap.size+2<f.heap.size):=lh (by have h1:=e9.o.lt;have a5:=d4.o;omega);have Q:Hid (yC (yC X w y) f wl st/\yC (yC X w y) f wl ca/\yC (yC X w y) f wl f.heap.size/\yC (yC X w y) f wl (w.heap.size+2)):=lh ⟨Ii (Ii H.o.sx.xs),Ii (Ii H.o.xc),Ij ⟨tA _,e9.o.lt⟩,Ii (Ij ⟨by omega,a8.o⟩)⟩;obtain⟨U,z⟩:=nm ((Z+63) / 64);have d5:=lh z;clear z;have g5:Hid (Z≠0->np b=U):=lh (by intro h;unfold np;rw[a'.o,d5.o];omega);have g6:Hid (Z=0->np b=1/\U=0/\b=[]):=lh (by intro h;have:=d5.o;have hb:=a'.o;refine⟨by unfold np;rw[hb,h];decide,by omega,uO.1 (by omega)⟩);have b1:∀(t:Array Value) (W:World) (J:SE) (a9 a8:Int),t.getD 4 undef=pi (some ⟨w.heap.size+2,0,none⟩)->nW w0 dk g st ca J (yC (yC X w y) f wl) f.heap.size (w.heap.size+2) wl a9 a8 A.s W->W.heap[wl.heap.size]? = some (.deferred (some []))->layS (bA cs) id.toNat b 0 (np b) A=(J,a8) ->LeavesInM Fence.wide 5 prog f58 t d1 [{ target:=.collected wl.heap.size,args:=#[] }] .returning W:=λt W J a9 a8 b8 z b4 Y=>by
  have M:wl.heap.size<W.heap.size:=(wJ.1 b4).1;have b6:Fr [wl.heap.size] W (W.putObj wl.heap.size (.deferred none)):=(jj _ _).grown (grownBy_putObj' _ _ _) (λd1 e=>by cases e;exact Ii (by simp));obtain⟨c6,m,q,b0⟩:=z.ex;have e5:=f3.o;have e8:=f4.o;have b3:=z.ce.fr b6 (by simp only[xA];omega);have b7:=b3.a 0;refine⟨by simp,Ii ⟨_,_,rfl,run_takeDeferred b4,ii ip a8,?_,?_⟩⟩;·have a8:t[4]?.getD undef=pi (some ⟨w.heap.size+2,0,none⟩):=(by simpa using b8);simp[results,f58,go_sem,a8,b7]
  refine a7.o _ _ ?_;rw[Y];refine⟨rfl,(m.other b6 (b0 _ (tA _) (by omega) M) (by omega) (by omega) (by omega)).weak (λj I=>q j (Ii (Ii I))) H.o.sx.xs H.o.xc,t1.o.trans z.wr,t2.o.more ((Kp.of e7.o).more ((Kp.less z.kp λj I=>⟨Ii (Ii I),?_,?_⟩).more (Kp.new b6 λe4=>?_)))⟩;·have:=H.o.lt j I;omega
  ·have:=H.o.lt j I;omega
  have:=H.o.lt _ e4;omega
 have f6:=lh b1;clear b1;refine qX (F:=Fence.wide) (n:=5) (T:=λM (x:Fin U)=>M=uL U x.1) (N:=U) (S:=λa7=>a7=List.finRange U) (Sp:=λ_=>True) (w0:=wl) (Kp:=iK r.heap.size (r.heap.size+1)) rfl (by omega) (gf:=115) (lb:=#[pi (some ⟨r.heap.size,0,none⟩),pi (some ⟨r.heap.size+1,0,none⟩)]) (encs:=λx:Fin U=>#[aKA (f.heap.size+1) 0 Z x.1]) rfl trivial (enters_of func115 (by kernel_rfl) rfl) (λl a7 b0 W a8 b1 b3 b7=>aMP 4 l r.heap.size (r.heap.size+1) (f.heap.size+1) 0 Z U R (some ⟨f.heap.size+1,0,none⟩) (λ_=>rfl) d6 d5.o (by have:=e6.o;omega) (by omega) a7 b0 b3 b1 W (vT (k4.o.a 0) a8) (vT (o6.o.a 0) a8) b7) iK.trans ?_ (Below.refl _ _) (λ_=>rfl) (λM W=>(layS (bA cs) id.toNat b 0 (li M) A).2=0/\nW w0 dk g st ca (layS (bA cs) id.toNat b 0 (li M) A).1 (yC (yC X w y) f wl) f.heap.size (w.heap.size+2) wl (li M) 0 A.s W) (λc M W=>c=.ret/\(layS (bA cs) id.toNat b 0 (li M) A).2≠0/\li M<=U/\nW w0 dk g st ca (layS (bA cs) id.toNat b 0 (li M) A).1 (yC (yC X w y) f wl) f.heap.size (w.heap.size+2) wl ((li M:Int)-1) (layS (bA cs) id.toNat b 0 (li M) A).2 A.s W) ?_ ?_ ?_ (λa7=>{ tmps:=#[pi (some ⟨ca,0,none⟩),il #[ii ip a6,sj cs,ii ip id,sj B],pi (some ⟨w.heap.size,0,none⟩),pi (some ⟨w.heap.size+1,0,none⟩),pi (some ⟨w.heap.size+2,0,none⟩),ii ip (li (eD (x.E 0) G):Int),ii ip 0,pi (some ⟨f.heap.size,0,none⟩),aKA (f.heap.size+1) 0 Z a7.1,undef,ij false,pi (some ⟨w.heap.size+1,2,none⟩),ii ip id,ij true,ij false,ij (decide (65536<(Z:Int))),pi (some ⟨w.heap.size+1,3,none⟩),sj B,ii ip (Z:Int),ij (decide (65536<(Z:Int))),tl #[ii ip (li (eD (x.E 0) G):Int),ii ip 0],pi (some ⟨ca,0,none⟩),pi (some ⟨w.heap.size+1,1,none⟩),sj cs,pi (some ⟨w.heap.size+1,2,none⟩),ii ip id,si (some ⟨a0.heap.size,0,none⟩) 1 1,si c2 (li G) c3,tl #[ii ip (li (eD (x.E 0) G):Int),ii ip 0],ii ip (li (eD (x.E 0) G):Int),ii ip 0,ii ip 0,ij false,undef,pi (some ⟨w.heap.size+1,3,none⟩),sj B,si (some ⟨f.heap.size+1,0,none⟩) Z R,.func (.func 115) #[] #[pi (some ⟨r.heap.size,0,none⟩),pi (some ⟨r.heap.size+1,0,none⟩)],aKA (f.heap.size+1) 0 Z a7.1,undef,undef,undef,undef,undef,undef,undef,undef,undef,undef,undef,undef,undef,undef,undef,undef,undef,undef,undef,undef,undef,undef,undef,undef,undef,undef,undef,undef,undef,undef,undef],defers:=[] }) ?_ ?_ ?_ ?_;·intro W l o o' Y j8 _;have v9:=h7.o;exact Z70
 ·exact⟨λ_ W h=>⟨h.1,h.2.drew⟩,λ_ W o h _=>⟨h.1,h.2.alloc o⟩,λ_ W o o' h Y _=>⟨h.1,h.2.putObj b5.o.lt Q.o.1 Q.o.2.1 Q.o.2.2.1 Q.o.2.2.2 b5.o.frame.size (wJ.1 Y).1 o'⟩⟩
 ·exact λc=>⟨λ_ W h=>⟨h.1,h.2.1,h.2.2.1,h.2.2.2.drew⟩,λ_ W o h _=>⟨h.1,h.2.1,h.2.2.1,h.2.2.2.alloc o⟩,λ_ W o o' h Y _=>⟨h.1,h.2.1,h.2.2.1,h.2.2.2.putObj b5.o.lt Q.o.1 Q.o.2.1 Q.o.2.2.1 Q.o.2.2.2 b5.o.frame.size (wJ.1 Y).1 o'⟩⟩
 ·exact⟨rfl,⟨_,b5.o,λ_ h=>h,λj h1 a5 i8=>by omega⟩,Wr.refl _,Kp.of (jj _ _),e9.o,p1.o⟩
 ·intro l a7 W K hK;gi_wp2;exact hK
 ·rintro l M ⟨k,i1⟩ W a8 rfl ⟨G,z⟩ _;have Y:li (uL U k)=k:=yY (by omega);rw[Y]at G z;have R:li (uL U k++[(⟨k,i1⟩:Fin U)])=k+1:=by rw[iB,Y];rfl
  obtain⟨J,O⟩:∃J,layS (bA cs) id.toNat b 0 k A=J:=⟨_,rfl⟩;have B:=kX (bA cs) id.toNat b k 0 A;rw[O,nB]at B;rw[O]at G z;rw[iA G]at B;obtain⟨d1,c7⟩:∃d1,putS J.1 0 (zB (bA cs) [id.toNat,k]) (pc b k)=d1:=⟨_,rfl⟩;rw[c7]at B;have c1:64*k<li b:=by have:=d5.o;have:=a'.o;omega
  have f7:k<4294967296:=by have:=e6.o;have:=a'.o;omega
  have a0:mE (N+k) J.1.E:=by have:=mE.layS (bA cs) c9.o id.toNat b k 0 g4.o;rwa [O]at this
  have f8:li (J.1.E 0)<=1000000:=by have:=a0.few 0;have:=HN.o;have:=e6.o;have:=a'.o;omega
  obtain⟨g2,a7⟩:=d1;have⟨h8,f5,a4,g1⟩:=hh4 B R z c7;have g7:=d4.o;have g8:=z.kp.size;have c9:yC (yC X w y) f wl w.heap.size/\w.heap.size≠f.heap.size/\w.heap.size≠w.heap.size+2:=⟨Ii (Ij ⟨tA _,by omega⟩),by omega,by omega⟩;have a6:yC (yC X w y) f wl (w.heap.size+1)/\w.heap.size+1≠f.heap.size/\w.heap.size+1≠w.heap.size+2:=⟨Ii (Ij ⟨by omega,by omega⟩),by omega,by omega⟩;have e':yC (yC X w y) f wl (f.heap.size+1)/\f.heap.size+1≠f.heap.size/\f.heap.size+1≠w.heap.size+2:=⟨Ij ⟨by omega,by have:=h7.o;omega⟩,by omega,by omega⟩;obtain⟨c6,b3,e1,e2⟩:=z.ex;have⟨p6,h9,c5⟩:=hh3 b3 e1 e2;have u:=z.kp.cell (i5.o.a 0) c9;have m:=z.kp.cell (d3.o.a 1) a6;have q:=z.kp.cell (d3.o.a 2) a6;have J:=b3.blk.a 1;have a9:=z.c7.a 0;have⟨p7,b1,x0⟩:=hh3 (z.kp.bytes d0.o e') a8 G;clear B R z c7 O G a0 Y b3 e1 e2;gi_wp2;refine jQ (λW=>W.cell? ⟨w.heap.size,0,none⟩=some (pi (some ⟨ca,0,none⟩))/\W.cell? ⟨ca,1,none⟩=some (pi (some ⟨st,0,none⟩))/\W.cell? ⟨w.heap.size+1,1,none⟩=some (sj cs)/\W.cell? ⟨w.heap.size+1,2,none⟩=some (ii ip id)/\W.cell? ⟨f.heap.size,0,none⟩=some (ii ip (k:Int))) [0,1,2,3,4,5,6,7,8,11] (by kernel_rfl) (by kernel_rfl) (λ_ _ h=>h) ?_;have C:Fr [] W W.drew:=(jj [] W).drew;replace u:=aA C u;replace m:=aA C m;replace q:=aA C q;replace J:=aA C J;replace a9:=aA C a9;have d6:=lh C;clear C;generalize W.drew=R at *;refine tks [0,1,2,3,4,5,6,7,8,11] ?_;iterate 10 (refine ac ⟨u,J,m,q,a9⟩ ?_)
  refine tke ?_;refine ag 9 λK hK=>?_;obtain⟨b2,L⟩:=nm (R.alloc (iy #[ii ip id,ii ip (k:Int)] 3));have D:Fr [] R b2:=by rw[L];exact(jj [] R).alloc _
  refine tB (v:=si (some ⟨R.heap.size,0,none⟩) 2 2) (w':=b2) (by rw[L];go_simp<;>rfl) (hK _ _ (λ_=>⟨aA D u,aA D J,aA D m,aA D q,aA D a9⟩) ?_);simp only[nrm];clear hK;have a3:=lh (g3.o R k f7);rw[<- L]at a3;refine ag 10 λK hK=>?_;refine kA (l:=[.tmp 44,.tmp 48]) rfl [sj cs,si (some ⟨R.heap.size,0,none⟩) 2 2] rfl (kN _) ((a3.o).mono ?_);rintro e a8 ⟨f0,rfl,⟨j,a2,I⟩,a1⟩;have V:Fr [] R a8:=D.trans a1;have b7:=aA V u;have b8:=aA V m;have b9:=aA V q;have b':=aA V J;have f1:=aA V a9;refine⟨_,rfl,hK _ _ (λ_=>⟨b7,b',b8,b9,f1⟩) ?_⟩;simp only[nrm];clear hK;have b0:Fr [] W a8:=d6.o.trans V;have d7:=sF a2 (by have:=(c8.o k).2;omega);have c':=lh (p6.o.fr b0);have B:yC c6 W a8 (f.heap.size+1):=Ii (h9.o _ e'.1);have c0:=lh (aMO c'.o (t:=0) (by omega) a2 (Ij ⟨by have:=d6.o.size;omega,d7⟩) (aKB (p7.o.fr b0) c1) B (c8.o k).2 (c8.o k).1 (aUH b k) f8);rw[g1.o,a'.o]at c0;have a0:=lh b0;clear a2 I D a1 V b0 d7 L a3 B;refine ag 12 λK hK=>?_;refine kA (l:=[.tmp 42,.const (ii ip 0),.tmp 49,.tmp 50]) rfl [pi (some ⟨st,0,none⟩),ii ip ((0:Nat):Int),f0,aKA (f.heap.size+1) 0 Z k] rfl (mW _) (c0.o.mono ?_);rintro e O ⟨rfl,e3,L,B⟩;have Y:∀j,yC (yC X w y) f wl j->yC c6 W a8 j:=λj I=>Ii (h9.o j I);have c1:=B.cell b7 (Y _ c9.1);have c2:=B.cell b8 (Y _ a6.1);have c3:=B.cell b9 (Y _ a6.1);have c4:=B.cell b' c'.o.xc;have G:=B.cell f1 (Y _ Q.o.2.2.1);refine⟨_,rfl,hK _ _ (λ_=>⟨c1,c4,c2,c3,G⟩) ?_⟩;simp only[nrm];clear hK;refine af 13 (λ_=>⟨c1,c4,c2,c3,G⟩) ?_;refine _root_.Go.Proofs.YtebjhcjbfaaejaaGreatDoor.wd ?_ _;have d0:=B.blk (a4.o.c7.fr a0.o) (Y _ Q.o.2.2.1);have a':=B.blk (a4.o.ce.fr a0.o) (Y _ Q.o.2.2.2);have d8:=a4.o.kp.more ((Kp.of a0.o).more (Kp.less B (X:=λj=>yC (yC X w y) f wl j/\j≠f.heap.size/\j≠w.heap.size+2) λj I=>Y j I.1));have f':=a4.o.wr.trans L;have G:∀j,wl.heap.size<=j->j<wl.heap.size+2->yC c6 W a8 j:=λj h1 a5=>Ii (c5.o j h1 a5 (by have:=b1.o;omega));have g0:=B.size;have g9:=a0.o.size;have d':O.heap[wl.heap.size]? = W.heap[wl.heap.size]?:=(B.block (G _ (tA _) (by omega)) (by have:=b1.o;omega)).trans (a0.o.block _ (by have:=b1.o;omega) (by simp));have g':O.heap[wl.heap.size+1]? = W.heap[wl.heap.size+1]?:=(B.block (G _ (by omega) (by omega)) (by have:=b1.o;omega)).trans (a0.o.block _ (by have:=b1.o;omega) (by simp));have h0:yC (yC X w y) f wl r.heap.size/\yC (yC X w y) f wl (r.heap.size+1):=⟨Ij ⟨by omega,by have:=h7.o;omega⟩,Ij ⟨by omega,by have:=h7.o;omega⟩⟩;have⟨q1,i',j0,q2,q3,j1,q4,j2,q5⟩:=hh9 e3 d0 a' d8 f' G d' g' B;have⟨i0,d9⟩:=hh2 h0 Y;have f9:Hid (W.heap.size<=O.heap.size):=lh (vD g9 g0);have i9:=d0.free 0;have h2:=a'.free 0;have h3:=a'.a 0;clear e3 L B d0 a' d8 f' G g0 g9 d' g' h0 Y c1 c2 c3 c4 u m q J a9 b7 b8 b9 b' f1 c0;have G:r.heap.size≠f.heap.size/\r.heap.size≠w.heap.size+2/\r.heap.size+1≠f.heap.size/\r.heap.size+1≠w.heap.size+2:=by omega
  have a9:=a4.o.kp.cell (k4.o.a 0) ⟨i0.o.1,G.1,G.2.1⟩;have f1:=a4.o.kp.cell (o6.o.a 0) ⟨i0.o.2,G.2.2.1,G.2.2.2⟩;have f':=q5.o.cell (aA a0.o a9) (d9.o _ i0.o.1);have g0:=q5.o.cell (aA a0.o f1) (d9.o _ i0.o.2);have g9:Hid (O.cell? ⟨r.heap.size,0,none⟩=W.cell? ⟨r.heap.size,0,none⟩/\O.cell? ⟨r.heap.size+1,0,none⟩=W.cell? ⟨r.heap.size+1,0,none⟩):=lh ⟨f'.trans a9.symm,g0.trans f1.symm⟩;have g':Hid (r.heap.size<O.heap.size/\r.heap.size+1<O.heap.size):=lh ⟨dI f',dI g0⟩;have h0:=lh G;have h4:Hid (st<w.heap.size/\ca<w.heap.size/\w0.heap.size<=w.heap.size):=lh ⟨H.o.lt _ H.o.sx.xs,H.o.lt _ H.o.xc,H.o.frame.size⟩;have h6:Hid (wl.heap.size+2<=O.heap.size):=lh (vD b1.o f9.o);have h':Hid (f.heap.size<wl.heap.size/\w.heap.size+2<wl.heap.size):=lh ⟨b5.o.lt _ Q.o.2.2.1,b5.o.lt _ Q.o.2.2.2⟩;clear a9 f1 f' g0 G c9 a6 e' g7 g8;by_cases f1:a7=0
  ·subst f1;obtain⟨a9,hz⟩:∃a9:Int,a9=((k+1:Nat):Int):=⟨_,rfl⟩;have j3:Wi ip ((k:Int)+1)=a9:=ak;have b5:=lh hz;clear hz;gi_wp2;have G:Fr [f.heap.size] O (O.setCell ⟨f.heap.size,0,none⟩ (ii ip a9)):=(jj _ _).setCell (Ii (by simp)) _;have g0:=h0.o;have e5:=h4.o;have i6:=h6.o;have i7:=d4.o;have f':=g'.o;have e8:=h'.o;have e':=i'.o.set_ 0 (ii ip a9);rw[b5.o]at e'⊢;rw[b5.o]at G;refine⟨⟨vD f9.o G.size,(G.block _ (by omega) (by simp only[xA];omega)).trans q4.o,(G.block _ (by omega) (by simp only[xA];omega)).trans j2.o⟩,⟨(G.cell (p:=⟨r.heap.size,0,none⟩) f'.1 (by simp only[xA];omega)).trans g9.o.1,(G.cell (p:=⟨r.heap.size+1,0,none⟩) f'.2 (by simp only[xA];omega)).trans g9.o.2⟩,?_,?_⟩
   ·rw[f5.o,h8.o]
   rw[f5.o,h8.o];exact⟨⟨_,q1.o.other G (d9.o _ Q.o.2.2.1) (by omega) (by omega) (by omega),d9.o,λj h1 a5 _=>j1.o j h1 a5⟩,q3.o,q2.o.more (Kp.new G λe4=>e4.2.1 rfl),e',j0.o.fr G (by simp only[xA];omega)⟩
  have v5:(a7 !=0)=true:=(by rw[nJ];exact f1);have r:=lh f1;clear f1;gi_wp2;have G:Fr [w.heap.size+2] O (O.setCell ⟨w.heap.size+2,0,none⟩ (ii ip a7)):=(jj _ _).setCell (Ii (by simp)) _;have g0:=h0.o;have e5:=h4.o;have i6:=h6.o;have i7:=d4.o;have f':=g'.o;have e8:=h'.o;have e':=j0.o.set_ 0 (ii ip a7);have e0:Blk (O.setCell ⟨w.heap.size+2,0,none⟩ (ii ip a7)) f.heap.size 3 [ii ip (((k+1:Nat):Int)-1)]:=by have e:((k+1:Nat):Int)-1=(k:Int):=(by omega);rw[e];exact i'.o.fr G (by simp only[xA];omega)
  refine⟨⟨vD f9.o G.size,(G.block _ (by omega) (by simp only[xA];omega)).trans q4.o,(G.block _ (by omega) (by simp only[xA];omega)).trans j2.o⟩,rfl,?_,?_,?_⟩;·rw[f5.o,h8.o];exact r.o
  ·rw[f5.o];exact i1
  rw[f5.o,h8.o];exact⟨⟨_,q1.o.other G (d9.o _ Q.o.2.2.2) (by omega) (by omega) (by omega),d9.o,λj h1 a5 _=>j1.o j h1 a5⟩,q3.o,q2.o.more (Kp.new G λe4=>e4.2.2 rfl),e0,e'⟩
 ·rintro e4 W M rfl ⟨hz,z⟩ b4;have b1:=lh M;clear M;rw[List.length_finRange]at hz z;have⟨a4,HD,b5⟩:=hh3 z b4 hz;have e0:=z.c7.a 0;have h3:=z.ce.a 0;have h2:=z.ce.free 0;clear z b4 hz;by_cases r:Z=0
  ·obtain⟨a9,z,b4⟩:=g6.o r;have f7:(0:Nat)<4294967296:=(by omega);have g7:=d4.o;have g8:=a4.o.kp.size;have c9:yC (yC X w y) f wl w.heap.size/\w.heap.size≠f.heap.size/\w.heap.size≠w.heap.size+2:=⟨Ii (Ij ⟨tA _,by omega⟩),by omega,by omega⟩;have a6:yC (yC X w y) f wl (w.heap.size+1)/\w.heap.size+1≠f.heap.size/\w.heap.size+1≠w.heap.size+2:=⟨Ii (Ij ⟨by omega,by omega⟩),by omega,by omega⟩;obtain⟨c6,b3,e1,e2⟩:=a4.o.ex;have⟨p6,h9,c5⟩:=hh3 b3 e1 e2;have u:=a4.o.kp.cell (i5.o.a 0) c9;have m:=a4.o.kp.cell (d3.o.a 1) a6;have q:=a4.o.kp.cell (d3.o.a 2) a6;have J:=b3.blk.a 1;have⟨x2,v6,x3⟩:=hh3 b4 a9 z;have v7:((U:Int)==0)=true:=(by rw[beq_iff_eq];omega);have v0:Hid (CtX w0 W dk g st ca A c6):=lh (by have:=b3;rw[z]at this;exact this);have f8:li (A.E 0)<=1000000:=(by have:=g4.o.few 0;have:=HN.o;omega);have M:Hid (nW w0 dk g st ca A (yC (yC X w y) f wl) f.heap.size (w.heap.size+2) wl (U:Int) 0 A.s W):=lh (by have:=a4.o;rw[z]at this⊢;exact this);have Z:Hid (wl.heap.size<W.heap.size):=lh (wJ.1 HD.o).1;obtain⟨⟨g2,a7⟩,c7⟩:∃d1,putS A 0 (zB (bA cs) [id.toNat,0]) []=d1:=⟨_,rfl⟩;have g1:=lh c7;have v1:Hid (layS (bA cs) id.toNat b 0 (np b) A=(g2,a7)):=lh (by
    rw[a9,kX];show(if (0:Int)=0 then putS A 0 (zB (bA cs) [id.toNat,0+0]) (pc b (0+0)) else _)=_;rw[iA rfl,b4];exact c7)
   clear b3 e1 e2 a9 z b4 r c7;gi_wp2;refine lM (λW=>W.cell? ⟨w.heap.size,0,none⟩=some (pi (some ⟨ca,0,none⟩))/\W.cell? ⟨ca,1,none⟩=some (pi (some ⟨st,0,none⟩))/\W.cell? ⟨w.heap.size+1,1,none⟩=some (sj cs)/\W.cell? ⟨w.heap.size+1,2,none⟩=some (ii ip id)) [0,1,2,3,4,5,6,7] (by kernel_rfl) ?_;have C:Fr [] W W.drew:=(jj [] W).drew;replace u:=aA C u;replace m:=aA C m;replace q:=aA C q;replace J:=aA C J;have d6:=lh C;clear C e0 h3 h2;generalize W.drew=R at *;refine ae 0 ⟨u,J,m,q⟩ ?_ (hQ:=λ_ _ _ h=>eG (d:=59) (k:=4) rfl (by decide) h);refine ae 1 ⟨u,J,m,q⟩ ?_ (hQ:=λ_ _ _ h=>eG (d:=60) (k:=4) rfl (by decide) h);refine ae 2 ⟨u,J,m,q⟩ ?_ (hQ:=λ_ _ _ h=>eG (d:=61) (k:=4) rfl (by decide) h);refine ae 3 ⟨u,J,m,q⟩ ?_ (hQ:=λ_ _ _ h=>eG (d:=62) (k:=4) rfl (by decide) h);refine ae 4 ⟨u,J,m,q⟩ ?_ (hQ:=λ_ _ _ h=>eG (d:=63) (k:=4) rfl (by decide) h);refine ae 5 ⟨u,J,m,q⟩ ?_ (hQ:=λ_ _ _ h=>eG (d:=64) (k:=4) rfl (by decide) h);refine ae 6 ⟨u,J,m,q⟩ ?_ (hQ:=λ_ _ _ h=>eG (d:=65) (k:=4) rfl (by decide) h);refine ae 7 ⟨u,J,m,q⟩ ?_ (hQ:=λ_ _ _ h=>eG (d:=66) (k:=4) rfl (by decide) h);refine ag 8 λK hK=>?_;obtain⟨b2,L⟩:=nm (R.alloc (iy #[ii ip id,ii ip ((0:Nat):Int)] 3));have D:Fr [] R b2:=(by rw[L];exact(jj [] R).alloc _);refine tB (v:=si (some ⟨R.heap.size,0,none⟩) 2 2) (w':=b2) (by rw[L];go_simp<;>rfl) (hK _ _ (λ_=>⟨aA D u,aA D J,aA D m,aA D q⟩) ?_);simp only[nrm];clear hK;have a3:=lh (g3.o R 0 f7);rw[<- L]at a3;refine ag 9 λK hK=>?_;refine kA (l:=[.tmp 64,.tmp 67]) rfl [sj cs,si (some ⟨R.heap.size,0,none⟩) 2 2] rfl (kN _) ((a3.o).mono ?_);rintro e a8 ⟨f0,rfl,⟨j,a2,I⟩,a1⟩;have V:Fr [] R a8:=D.trans a1;have b7:=aA V u;have b8:=aA V m;have b9:=aA V q;have b':=aA V J;refine⟨_,rfl,hK _ _ (λ_=>⟨b7,b',b8,b9⟩) ?_⟩;simp only[nrm];clear hK;have b0:Fr [] W a8:=d6.o.trans V;have d7:=sF a2 (by have:=(c8.o 0).2;omega);have c':=lh (v0.o.fr b0);have c0:=lh (aMO c'.o (t:=0) (by omega) a2 (Ij ⟨by have:=d6.o.size;omega,d7⟩) (dA.nil a8 ca) c'.o.xc (c8.o 0).2 (c8.o 0).1 (by simp) f8);rw[g1.o]at c0;have a0:=lh b0;clear a2 I D a1 V b0 d7 L a3;refine ag 10 λK hK=>?_;refine kA (l:=[.tmp 62,.const (ii ip 0),.tmp 68,.const (si none 0 0)]) rfl [pi (some ⟨st,0,none⟩),ii ip ((0:Nat):Int),f0,si none 0 0] rfl (mW _) (c0.o.mono ?_);rintro e O ⟨rfl,e3,L,B⟩;have Y:∀j,yC (yC X w y) f wl j->yC c6 W a8 j:=λj I=>Ii (h9.o j I);have c1:=B.cell b7 (Y _ c9.1);have c2:=B.cell b8 (Y _ a6.1);have c3:=B.cell b9 (Y _ a6.1);have c4:=B.cell b' c'.o.xc;refine⟨_,rfl,hK _ _ (λ_=>⟨c1,c4,c2,c3⟩) ?_⟩;simp only[nrm];clear hK;have d0:=B.blk (M.o.c7.fr a0.o) (Y _ Q.o.2.2.1);have a':=B.blk (M.o.ce.fr a0.o) (Y _ Q.o.2.2.2);have d8:=M.o.kp.more ((Kp.of a0.o).more (Kp.less B (X:=λj=>yC (yC X w y) f wl j/\j≠f.heap.size/\j≠w.heap.size+2) λj I=>Y j I.1));have C:=a0.o.size;have D:=B.size;have I:Hid (nW w0 dk g st ca g2 (yC (yC X w y) f wl) f.heap.size (w.heap.size+2) wl (U:Int) 0 A.s O):=lh ⟨⟨_,e3,Y,λj h1 a5 i8=>by
    by_cases v4:j<W.heap.size;·exact Ii (c5.o j h1 a5 v4)
    have V:=b1.o;omega⟩,M.o.wr.trans L,d8,d0,a'⟩
   have d':O.heap[wl.heap.size]? = W.heap[wl.heap.size]?:=(B.block (Ii (c5.o _ (tA _) (by omega) Z.o)) (by have:=Z.o;omega)).trans (a0.o.block _ Z.o (by simp));have f:Hid (O.heap[wl.heap.size]? = some (.deferred (some []))):=lh (d'.trans HD.o);have Z:=a'.free 0;have R:=a'.a 0;have G:Fr [w.heap.size+2] O (O.setCell ⟨w.heap.size+2,0,none⟩ (ii ip a7)):=(jj _ _).setCell (Ii (by simp)) _;have v2:=lh G;have e5:=f3.o;have j:=aB G (by simp only[xA];omega) c1;have y:=aB G (by simp only[xA];omega) c2;have A:=aB G (by simp only[xA];omega) c3;have M:=aB G (by simp only[xA];omega) c4;clear e3 L B d0 a' d8 C D d' Y c1 c2 c3 c4 u m q J b7 b8 b9 b' c0 G;refine ah 11 λK hK=>?_;refine rB (w':=O.setCell ⟨w.heap.size+2,0,none⟩ (ii ip a7)) (by go_simp) (hK _ _ (λ_=>⟨j,M,y,A⟩) ?_);simp only[Act.put];clear hK;refine _root_.Go.Proofs.YtebjhcjbfaaejaaGreatDoor.wd ?_ _;gi_wp2;have e8:=f4.o;refine f6.o _ _ _ _ _ rfl (I.o.setE Q.o.2.2.2 (by omega) (by omega) (by omega) (by omega) a7) ?_ v1.o;exact(v2.o.block _ (wJ.1 f.o).1 (by simp only[xA];omega)).trans f.o
  have z:((U:Int)==0)=false:=(by rw[lE];have:=d5.o;omega);have v3:=lh r;clear r;gi_wp2;have e5:=f3.o;have e8:=f4.o;refine f6.o _ _ _ _ _ rfl (a4.o.setE Q.o.2.2.2 (by omega) (by omega) (by omega) (by omega) 0) ?_ (by rw[g5.o v3.o];exact Prod.ext rfl b5.o);have b6:Fr [w.heap.size+2] W (W.setCell ⟨w.heap.size+2,0,none⟩ (ii ip 0)):=(jj _ _).setCell (Ii (by simp)) _;exact(b6.block _ (wJ.1 HD.o).1 (by simp only[xA];omega)).trans HD.o
 rintro c M W _ _ ⟨rfl,e0,f2,z⟩ b4;have e4:li M≠0:=λh=>e0 (by rw[h];rfl);have r:Z≠0:=λh=>by have:=(g6.o h).2.1;omega
 have a9:=aGC (bA cs) id.toNat b 0 (li M) A e0 (U-li M);rw[show li M+(U-li M)=U by omega]at a9;have⟨a4,HD⟩:=hh2 z b4;have e':Hid (layS (bA cs) id.toNat b 0 (np b) A=((layS (bA cs) id.toNat b 0 (li M) A).1,(layS (bA cs) id.toNat b 0 (li M) A).2)):=lh (by rw[g5.o r,a9]);clear a9 e4 r e0 f2 z b4;gi_wp2;exact f6.o _ _ _ _ _ rfl a4.o HD.o e'.o
theorem aTx(h:CtX w0 w dk g st ca x X){N:Nat}(b:mE N x.E)(i:N<=900000){c:Ct}(j:Rep x.E c)(l d:Int)(cs f:ByteArray)(k:nmB (bA cs)=true): Calls prog 58 #[pi ca,il #[l,sj cs,d,sj f]] w (tJ w0 dk g st ca x X (aCv x (bA cs) d (bA f)) w):=by
 unfold aCv;cases n:idB d with
 | false=>rw[iA rfl];exact aRV h l d cs f n
 | true=>
  rw[eA (by decide),yA];by_cases m:65536<f.size;·rw[iA m];exact aRW h l d cs f n m
  rw[eA m];by_cases m:(cutS x (zB (bA cs) [d.toNat])).2=0;·rw[iA m];exact aTw h b i j l d cs f k n (by omega) m
  rw[eA m];exact aTv h b i j l d cs f k n (by omega) m
theorem aFo{s:Ky}(h:isS x s=true):nmB s=true:=by unfold isS at h;rw[tN]at h;exact h.1
theorem aRY(h:CtX w0 w dk g st ca x X){N:Nat}(b:mE N x.E)(i:N<=900000)(c:Int)(cs d:ByteArray): Calls prog 34 #[pi ca,il #[ii ip 1,sj cs,c,sj d]] w (tJ w0 dk g st ca x X (aAK x (bA cs)) w):=by refine cA λn l=>?_;have f:Fr [] w (w.alloc (iy #[ii ip 1,sj cs,c,sj d] 65)):=(jj [] w).alloc _;have j:=lh (aRR (h.stay f) b i 1 c cs d);go_enter Go.Proofs.Tryz.func34,Go.Proofs.Tryz.ntmps34;go_wp2_with fail;refine j.o.mono ?_;rintro e m ⟨rfl,d,j,k⟩;have c:=lh (l.o _ _ ⟨rfl,d,j,(Kp.of f).more k⟩);go_wp2_with fail;exact c.o
theorem aTy(h:CtX w0 w dk g st ca x X)(c d:Int)(cs f:ByteArray)(h1:c≠1)(h2:c≠2)(h3:c≠3)(b:c≠4): Calls prog 34 #[pi (some ca),il #[c,sj cs,d,sj f]] w (tJ w0 dk g st ca x X (x,1) w):=by
 refine cA λm f=>?_;have d:=lh h;have i:(c==1)=false:=by rw[lE];exact h1
 have j:(c==2)=false:=by rw[lE];exact h2
 have k:(c==3)=false:=by rw[lE];exact h3
 have l:(c==4)=false:=by rw[lE];exact b
 clear h h1 h2 h3 b;go_enter Go.Proofs.Tryz.func34,Go.Proofs.Tryz.ntmps34;go_wp2_with fail;exact f.o _ _ (tJ.none d.o ((jj [] w).alloc _))
theorem Z10{P:Prop} (h:P:=by
 have e6:isC x cs=6:=by unfold isC;rw[hi];rfl
 rw[e6] at HIS;rw[hi] at HQ;simp only[vG] at HQ;clear h hfew hN hR hf hb hi e6 he
 go_enter Go.Proofs.Tryz.func34,Go.Proofs.Tryz.ntmps34
 go_wp2_with fail;refine HIS.o.mono ?_;rintro e w1 ⟨rfl,hf1⟩;have HX:=lh (HQ.o _ _ (tJ.none H.o (HF.o.trans hf1)));clear hf1;go_wp2_with fail;exact HX.o):P:=h
theorem Z66{P:Prop} (h:P:=by
 simp only[nrm];clear hK;go_wp2_with fail;refine HCT.o.mono ?_;rintro e w2 ⟨rfl,h1,h2,h3⟩;have HX:=lh (HQ.o _ _ ⟨rfl,h1,h2,(Kp.of HFA.o).more h3⟩);clear h1 h2 h3 HCT he;go_wp2_with fail;exact HX.o):P:=h
theorem aRZ(h:CtX w0 w dk g st ca x X){N:Nat}(hfew:mE N x.E)(hN:N<=900000){c:Ct}(hR:Rep x.E c)(d:Int)(cs f:ByteArray): Calls prog 34 #[pi (some ca),il #[ii ip 2,sj cs,d,sj f]] w (tJ w0 dk g st ca x X (if isS x (bA cs)=false then (x,6) else aGu x (bA cs)) w):=by
 refine cA λp HQ=>?_;have hf:Fr [] w (w.alloc (iy #[ii ip 2,sj cs,d,sj f] 65)):=(jj [] w).alloc _;have hb:Blk (w.alloc (iy #[ii ip 2,sj cs,d,sj f] 65)) w.heap.size 65 [ii ip 2,sj cs,d,sj f]:=jl w _ [ii ip 2,sj cs,d,sj f];have⟨HIS,HF,H,b,l,m,n⟩:=hh7 (lW (h.stay hf) (by have:=hfew.few 1;omega) cs) hf h hfew hN hR hb;have he:∀j w,(callFunc 60 j).run prog w=.ok (.enter 60 j) w:=λj w=>by kernel_rfl
 cases hi:isS x (bA cs) with
 | false=>exact Z10
 | true=>
  have j:isC x cs=0:=by unfold isC;rw[hi];rfl
  rw[j]at HIS;have j:=aFo hi;rw[hi]at HQ;simp only[yR,eF]at HQ;have k:=lh j;go_enter Go.Proofs.Tryz.func34,Go.Proofs.Tryz.ntmps34;go_wp2_with fail;refine HIS.o.mono ?_;rintro e w1 ⟨rfl,hf1⟩;have⟨HFA,i⟩:=hh2 (HF.o.trans hf1) (n.o.fr hf1);have HCT:=lh (aRS (H.o.stay HFA.o) b.o l.o m.o 2 d cs f k.o);go_upto_region 14 with fail;refine sB ?_;refine ab ?_;refine lp λK hK=>xQ 65 (.tmp 3) rfl w.heap.size 0 rfl [ii ip 2,sj cs,d,sj f] _ (λf j d=>by rw[nB];exact i.o.at_ d) aDA rfl (by kernel_rfl) (hK _ _ ?_);exact Z66
theorem aTz(h:CtX w0 w dk g st ca x X){N:Nat}(hfew:mE N x.E)(hN:N<=900000){c:Ct}(hR:Rep x.E c)(d:Int)(cs f:ByteArray): Calls prog 34 #[pi (some ca),il #[ii ip 3,sj cs,d,sj f]] w (tJ w0 dk g st ca x X (if isS x (bA cs)=false then (x,6) else aCv x (bA cs) d (bA f)) w):=by
 refine cA λp HQ=>?_;have hf:Fr [] w (w.alloc (iy #[ii ip 3,sj cs,d,sj f] 65)):=(jj [] w).alloc _;have hb:Blk (w.alloc (iy #[ii ip 3,sj cs,d,sj f] 65)) w.heap.size 65 [ii ip 3,sj cs,d,sj f]:=jl w _ [ii ip 3,sj cs,d,sj f];have⟨HIS,HF,H,b,l,m,n⟩:=hh7 (lW (h.stay hf) (by have:=hfew.few 1;omega) cs) hf h hfew hN hR hb;have he:∀j w,(callFunc 58 j).run prog w=.ok (.enter 58 j) w:=λj w=>by kernel_rfl
 cases hi:isS x (bA cs) with
 | false=>exact Z10
 | true=>
  have j:isC x cs=0:=by unfold isC;rw[hi];rfl
  rw[j]at HIS;have j:=aFo hi;rw[hi]at HQ;simp only[yR,eF]at HQ;have k:=lh j;go_enter Go.Proofs.Tryz.func34,Go.Proofs.Tryz.ntmps34;go_wp2_with fail;refine HIS.o.mono ?_;rintro e w1 ⟨rfl,hf1⟩;have⟨HFA,i⟩:=hh2 (HF.o.trans hf1) (n.o.fr hf1);have HCT:=lh (aTx (H.o.stay HFA.o) b.o l.o m.o 3 d cs f k.o);go_upto_region 14 with fail;refine sB ?_;refine ab ?_;refine lp λK hK=>xQ 65 (.tmp 3) rfl w.heap.size 0 rfl [ii ip 3,sj cs,d,sj f] _ (λf j d=>by rw[nB];exact i.o.at_ d) aDA rfl (by kernel_rfl) (hK _ _ ?_);exact Z66
theorem aSa(h:CtX w0 w dk g st ca x X){N:Nat}(hfew:mE N x.E)(hN:N<=900000){c:Ct}(hR:Rep x.E c)(d:Int)(cs f:ByteArray): Calls prog 34 #[pi (some ca),il #[ii ip 4,sj cs,d,sj f]] w (tJ w0 dk g st ca x X (if isS x (bA cs)=false then (x,6) else aAJ x (bA cs) d) w):=by
 refine cA λp HQ=>?_;have hf:Fr [] w (w.alloc (iy #[ii ip 4,sj cs,d,sj f] 65)):=(jj [] w).alloc _;have hb:Blk (w.alloc (iy #[ii ip 4,sj cs,d,sj f] 65)) w.heap.size 65 [ii ip 4,sj cs,d,sj f]:=jl w _ [ii ip 4,sj cs,d,sj f];have⟨HIS,HF,H,b,l,m,n⟩:=hh7 (lW (h.stay hf) (by have:=hfew.few 1;omega) cs) hf h hfew hN hR hb;have he:∀j w,(callFunc 61 j).run prog w=.ok (.enter 61 j) w:=λj w=>by kernel_rfl
 cases hi:isS x (bA cs) with
 | false=>exact Z10
 | true=>
  have j:isC x cs=0:=by unfold isC;rw[hi];rfl
  rw[j]at HIS;have j:=aFo hi;rw[hi]at HQ;simp only[yR,eF]at HQ;have k:=lh j;go_enter Go.Proofs.Tryz.func34,Go.Proofs.Tryz.ntmps34;go_wp2_with fail;refine HIS.o.mono ?_;rintro e w1 ⟨rfl,hf1⟩;have⟨HFA,i⟩:=hh2 (HF.o.trans hf1) (n.o.fr hf1);have HCT:=lh (aRT (H.o.stay HFA.o) b.o l.o m.o 4 d cs f k.o);go_upto_region 14 with fail;refine sB ?_;refine ab ?_;refine lp λK hK=>xQ 65 (.tmp 3) rfl w.heap.size 0 rfl [ii ip 4,sj cs,d,sj f] _ (λf j d=>by rw[nB];exact i.o.at_ d) aDA rfl (by kernel_rfl) (hK _ _ ?_);exact Z66
theorem aTA(h:CtX w0 w dk g st ca x X){N:Nat}(b:mE N x.E)(d:N<=900000){c:Ct}(i:Rep x.E c)(f j:Int)(cs k:ByteArray): Calls prog 34 #[pi ca,il #[f,sj cs,j,sj k]] w (tJ w0 dk g st ca x X (oneS x ⟨f,bA cs,j,bA k⟩) w):=by
 unfold oneS;by_cases n:f=1;·subst n;rw[iA rfl];exact aRY h b d j cs k
 rw[eA n];by_cases l:f=2;·subst l;rw[iA (Ii rfl),iA rfl];exact aRZ h b d i j cs k
 by_cases m:f=3;·subst m;rw[iA (Ij (Ii rfl)),eA l,iA rfl];exact aTz h b d i j cs k
 by_cases o:f=4;·subst o;rw[iA (Ij (Ij rfl)),eA l,eA m];exact aSa h b d i j cs k
 rw[eA (by rintro(h|h|h);exact l h;exact m h;exact o h)];exact aTy h f j cs k n l m o
end
structure OpV where
 what:Int
 cs:ByteArray
 id:Int
 ts:ByteArray
def OpV.op (o:OpV):OpC:=⟨o.what,bA o.cs,o.id,bA o.ts⟩
def OpV.cells (o:OpV):List Value:=[.int .i64 o.what,.string o.cs,.int .i64 o.id,.string o.ts]
theorem aGD:∀(l:List OpC) (x:SE) (b:OpC),(allS x l).2=0->allS x (l++[b])=oneS (allS x l).1 b
 | [],x,b,_=>by
  show(if (oneS x b).2=0 then ((oneS x b).1,0) else oneS x b)=oneS x b;split;·rename_i c;rw[<- c]
  rfl
 | p::l,x,b,c=>by
  unfold allS at c;rw[lI];show(if (oneS x p).2=0 then allS (oneS x p).1 (l++[b]) else oneS x p)=_;by_cases d:(oneS x p).2=0;·rw[iA d]at c;rw[iA d,aGD l _ b c];conv=>rhs;unfold allS;rw[iA d]
  rw[eA d]at c;exact absurd c d
theorem aGE:∀(l l2:List OpC) (x:SE),(allS x l).2≠0->allS x (l++l2)=allS x l
 | [],_,_,h=>absurd rfl h
 | p::l,l2,x,h=>by
  unfold allS at h⊢;rw[lI];by_cases b:(oneS x p).2=0;·rw[iA b]at h⊢;show(if (oneS x p).2=0 then allS (oneS x p).1 (l++l2) else oneS x p)=_;rw[iA b,aGE l l2 _ h]
  show(if (oneS x p).2=0 then allS (oneS x p).1 (l++l2) else oneS x p)=_;rw[eA b,eA b]
theorem nP{d:Func}{tmps:Array Value}{w:World}{k:Tmp}{b:Nat}{n:Int}(f:d.results=#[.cell k 27])(g:tmps.getD k undef=pi b)(h:w.cell? b=some (ii ip n)):(results d tmps).run prog w=.ok (ii ip n) w:=by
 have c:tmps[k]?.getD undef=pi b:=by simpa using g
 simp[results,f,c,go_sem,h]
theorem yD{S:List Nat}{w w':World}(h:Fr S w w'){p:Addr}{v:Value}(b:w.cell? p=some v)(c:p.block∉S):w'.cell? p=some v:=by rw[h.cell (xF w _ b) c];exact b
theorem aTB:(prog.info? 65).map (·.size)=some 4:=by kernel_rfl
theorem aTC:(prog.info? 65).map (·.zero)=some (some (il #[ii ip 0,sj ByteArray.empty,ii ip 0,sj ByteArray.empty])):=by kernel_rfl
section
variable {w0 w w':World}{dk g st ca:Nat}{x:SE}{X Y:Nat->Prop}
theorem aPI{w:World}(b:w.cell? k=some (ii ip 0)): CallsD prog 32 #[pi k,pi n] .returning w λe c d=>c=.returning/\(e=iz (tl #[])/\d=w):=by go_enter_d func32,ntmps32;go_wp2_with fail;refine⟨rfl,tl #[],by simp[results,Tryz.results32],rfl,rfl⟩
theorem aKD{w:World}{s:PS}{n:Int}{v1:Value}(c:PgX w0 w dk g s X)(j:w.cell? i=some (ii ip n))(h2:w.cell? k=some (pi ca))(b:Blk w ca 79 [pi g,v1])(d:n≠0): CallsD prog 32 #[pi i,pi k] .returning w λe h f=>h=.returning/\(e=iz (tl #[])/\PgX w0 f dk g { s with late:=[] } X/\Kp X w f):=by
 have f:=lh (aMa c);have h:=b.a 0;have l:(n==0)=false:=by rw[lE];exact d
 clear c b d;go_enter_d func32,ntmps32;go_wp2_with fail;refine f.o.mono ?_;rintro e m ⟨rfl,f,h2⟩;go_wp2_with fail;refine⟨rfl,tl #[],by simp[results,Tryz.results32],rfl,f,h2⟩
def aUe (w0:World) (dk g _st _ca:Nat) (x:SE) (X:Nat->Prop) (l:List OpC) (w:World) (e:Ending) (w':World):Prop:=
 e=.returned (.int .i64 (doS x l).2)/\Wr x.s (allS x l).1.s/\kK (allS x l).1.s.page x.s.n (allS x l).1.E/\PgX w0 w' dk g (doS x l).1.s X/\Kp X w w'
def DoRel (w0 wb:World) (dk g st ca b4:Nat) (x:SE) (Y:Nat->Prop) (L:List OpC) (j:Nat) (v12:Value) (wr:World):Prop:=
 ∃k:Nat,k+j=L.length/\v12=.int .i64 (k:Int)/\(allS x (L.take k)).2=0/\CtX w0 wr dk g st ca (allS x (L.take k)).1 Y/\Wr x.s (allS x (L.take k)).1.s/\Kp (fun q=>Y q/\q≠b4) wb wr/\Blk wr b4 27 [.int .i64 0]
theorem aIA(h:CtX w0 w dk g st ca x X){N:Nat}(r:mE N x.E){c:Ct}(u:Rep x.E c){L:List OpV}(y:∀o∈L,OkO o.op)(C:N+25*li L<=900000)(F:x.s.D.done+400000<1099511627776){v:Value}{A:Nat}(i:kH w v (li L) (L.map OpV.cells).flatten A)(I:0<li L->X A): Calls prog 13 #[pi (some ⟨ca,0,none⟩),v] w (aUe w0 dk g st ca x X (L.map OpV.op) w):=by
 refine cA λb7 T=>?_;have a8:∀(fn:Fn) (first cap:Array Value) (w:World),(Instr.makeFunc fn first cap).run prog w=.ok (.func fn first cap) w:=λ_ _ _ _=>rfl;obtain⟨b,d⟩:=nm ((w.alloc (iy #[pi (some ⟨ca,0,none⟩)] 30)).alloc (iy #[ii ip 0] 27));have B:Blk b w.heap.size 30 [pi (some ⟨ca,0,none⟩)]:=by rw[d];exact(jl w _ [pi (some ⟨ca,0,none⟩)]).alloc _
 have j:Blk b (w.heap.size+1) 27 [ii ip 0]:=by rw[d];have:=jl (w.alloc (iy #[pi (some ⟨ca,0,none⟩)] 30)) 27 [ii ip 0];rwa [show(w.alloc (iy #[pi (some ⟨ca,0,none⟩)] 30)).heap.size=w.heap.size+1 by simp]at this
 have l:Fr [] w b:=by rw[d];exact((jj [] w).alloc _).alloc _
 obtain⟨b5,b6,t,rfl,Q,p⟩:=i;have⟨H,e8,HN,e9,HL,e',c6,c8,J⟩:=hh9 h r C u y F B j l;have⟨M,c9⟩:=hh2 p I;have m:li (L.map OpV.op)=li L:=cH ..;have q:=lh m;obtain⟨n,i⟩:∃n,li L=n:=⟨_,rfl⟩;rw[i]at HN q M c9⊢;have P:=lh i;have a':n<=900000:=by have:=HN.o;omega
 clear h r C u y F B l p I m i Q;go_enter_defers func13,ntmps13;go_upto_region 4 with fail;rw[<- d];clear d j;go_wp2_with fail;go_loopg [12] n (λi v12 wr=>DoRel w0 b dk g st ca (w.heap.size+1) x (yC X w b) (L.map OpV.op) i v12 wr);·exact⟨0,by rw[q.o];omega,rfl,rfl,H.o.fr J.o,Wr.refl _,Kp.of (jj _ _),c8.o⟩
 obtain⟨d,u,rfl,m,p,r,j,l⟩:=hrel;rw[q.o]at u;have⟨O,HW,a9,H0,d0⟩:=hh5 p r j m l;have a1:=l.free;have u:=c6.o.lt;have b0:w.heap.size+2<=b.heap.size:=by have:=c8.o.lt;omega
 have C:=(j.blk c6.o ⟨Ij ⟨tA _,u⟩,by omega⟩).a 0;clear p r j m l;by_cases b:d<n
 ·obtain⟨o,Y⟩:∃o,L[d]? = some o:=gx (by rw[P.o];exact b);have l:=aGD ((L.map OpV.op).take d) x o.op H0.o;have F:(L.map OpV.op).take (d+1)=(L.map OpV.op).take d++[o.op]:=(by rw[eJ,wI,Y];rfl);rw[<- F]at l;have b1:=lh F;have I:=lh l;have V:=mE.allS ((L.map OpV.op).take d) e8.o (λj b=>by
   obtain⟨Z,y,rfl⟩:=kI.1 (yM b);exact HL.o Z y)
  have a2:li ((L.map OpV.op).take d)<=n:=(by rw[pB,q.o];omega);have P:=lh V;have a3:Hid (N+25*li ((L.map OpV.op).take d)<=900000):=lh (by have:=HN.o;omega);have Q:Hid (∃a0,Rep (allS x ((L.map OpV.op).take d)).1.E a0):=lh (by
   obtain⟨a,m⟩|a:=aMF c ((L.map OpV.op).take d) e9.o;·exact⟨_,m (by rw[<- a];exact H0.o)⟩
   rw[H0.o]at a;cases a)
  obtain⟨u,S⟩:∃u,(allS x ((L.map OpV.op).take d)).1=u:=⟨_,rfl⟩;rw[S]at O HW I P Q;have b2:=lh S;obtain⟨m,R⟩:=M.o (by omega);subst m;have r:=c9.o (by omega);have a4:=H.o.lt _ r;have W:∀i p,o.cells[i]? = some p->wr.cell? ⟨A,t+d*4+i,none⟩=some p:=λi p m=>by have a5:i<4:=(uC.1 m).1;have a6:=mQ (k:=4) (L.map OpV.cells) (λb9 a7=>by obtain⟨Z,_,rfl⟩:=kI.1 a7;rfl) d o.cells (by rw[wI,Y];rfl) i a5;have Y:=R (4*d+i) p (by rw[a6];exact m);have Z:=aA J.o Y;have Y:=a9.o.cell Z ⟨Ii r,by omega⟩;rwa [show t+(4*d+i)=t+d*4+i by omega]at Y
  have⟨f4,g'⟩:=hh2 W r;clear l F V a2 S R a4 r W;have R:(d:Int)<(n:Int):=(by omega);go_upto_region 6 with fail;refine sB ?_;refine ab ?_;refine lp λK hK=>xQ 65 (.tmp 14) rfl A (t+d*4) rfl o.cells _ f4.o aDA rfl (by kernel_rfl) (hK _ _ ?_);simp only[nrm];clear hK;refine lp λK hK=>gB 65 rfl (il #[ii ip 0,sj ByteArray.empty,ii ip 0,sj ByteArray.empty]) [ii ip 0,sj ByteArray.empty,ii ip 0,sj ByteArray.empty] aTC rfl λa2 t A F=>hK _ _ ?_;simp only[nrm];clear hK;obtain⟨Z,r⟩:=nm (wr.heap.size);rw[<- r]at t⊢;have⟨f5,f6,f7⟩:=hh3 r A t;clear r A F t;refine lp λK hK=>pA 65 (.tmp 6) (.tmp 15) rfl o.cells rfl rfl f7.o aTB rfl (by intro p m;simp only[OpV.cells,bB,kC,dC]at m;rcases m with rfl|rfl|rfl|rfl<;>rfl) λF r A S=>hK _ _ ?_;simp only[Act.put];clear hK;have Y:=lh r;have t:Hid (Fr [] wr F):=lh (f6.o.trans A λj b=>Ij (by rw[xA.1 b,f5.o];exact tA _));clear r A S;refine wB ?_;have V:=aA t.o C;clear C a1;obtain⟨a0,W⟩:=Q.o;have S:=lh (aTA (O.o.stay t.o) P.o a3.o W o.what o.id o.cs o.ts);obtain⟨F,A⟩:∃F,oneS u ⟨o.what,bA o.cs,o.id,bA o.ts⟩=F:=⟨_,rfl⟩;rw[A]at S;have l:=I.o;rw[show oneS u o.op=F from A]at l;have r:=lh l;clear A l W I Q P;go_upto_region 7 with fail;refine sB ?_;refine ab ?_;refine lp λK hK=>xQ 65 (.tmp 6) rfl Z 0 rfl o.cells _ (λi p m=>by rw[nB];exact Y.o.at_ m) aDA rfl (by kernel_rfl) (hK _ _ ?_);simp only[nrm];clear hK;go_wp2_with fail;refine S.o.mono ?_;rintro e p ⟨rfl,l,m,i⟩;have A:=lh (i.blk (d0.o.fr t.o) (Ij ⟨by omega,by omega⟩));have Z:=A.o.free;have W:=A.o.a 0;have I:=i.cell V (Ij ⟨tA _,by omega⟩);have⟨d4,b3,d5⟩:=hh3 l (HW.o.trans m) (a9.o.more ((Kp.of t.o).more (Kp.less i λj b=>b.1)));clear l m i V S;obtain⟨P,i⟩:=F;by_cases m:i=0
  ·subst m;have l:Fr [w.heap.size+1] p (p.setCell ⟨w.heap.size+1,0,none⟩ (ii ip 0)):=(jj _ p).setCell (Ii (by simp)) _;have t:=H.o.lt _ H.o.sx.xs;have u:=H.o.lt _ H.o.xc;have⟨U,G,z⟩:=hh3 (d4.o.other l (Ij ⟨by omega,by omega⟩) (by have:=H.o.frame.size;omega) (by omega) (by omega)) (d5.o.more (Kp.new l λb=>b.2 rfl)) (A.o.set_ 0 (ii ip 0));clear l t u;go_wp2_with fail;go_roundg (n-(d+1))
   case measure=>omega
   case rel=>exact⟨d+1,by rw[q.o];omega,rfl,by rw[r.o],by rw[r.o];exact U.o,by rw[r.o];exact b3.o,G.o,z.o⟩
  have a0:(i==0)=false:=(by rw[lE];exact m);have l:Fr [w.heap.size+1] p ((p.setCell ⟨w.heap.size+1,0,none⟩ (ii ip i)).setCell ⟨w.heap.size+1,0,none⟩ (ii ip i)):=((jj _ p).setCell (Ii (by simp)) _).setCell (Ii (by simp)) _;have t:=H.o.lt _ H.o.sx.xs;have u:=H.o.lt _ H.o.xc;have⟨U,G,z,f8,b4⟩:=hh5 (d4.o.other l (Ij ⟨by omega,by omega⟩) (by have:=H.o.frame.size;omega) (by omega) (by omega)) (d5.o.more (Kp.new l λb=>b.2 rfl)) ((A.o.set_ 0 (ii ip i)).set_ 0 (ii ip i)) (aGE ((L.map OpV.op).take (d+1)) ((L.map OpV.op).drop (d+1)) x (by rw[r.o];exact m)) (yD l I (by simp));clear t u l;go_wp2_with fail;refine leaves_cons (f:=32) (args:=#[pi (some ⟨w.heap.size+1,0,none⟩),pi (some ⟨w.heap.size,0,none⟩)]) (by simp) (by simp[go_sem]) ?_;refine(aKD U.o.sx.px (z.o.a 0) b4.o U.o.blk m).mono ?_;rintro e Q S ⟨rfl,rfl,y,A⟩;have F:=A.blk z.o (Ij ⟨by omega,by omega⟩);have I:allS x (L.map OpV.op)=(P,i):=(by rw[<- bL (d+1) (L.map OpV.op),f8.o,r.o]);have p:doS x (L.map OpV.op)=(⟨{ P.s with late:=[] },x.E⟩,i):=(by unfold doS;rw[I];exact iA m);exact⟨ii ip i,nP rfl rfl (F.a 0),T.o _ _ ⟨by rw[p],by rw[I];exact b3.o,by rw[I,<- b3.o.same.n];exact U.o.sx.store,by rw[p];exact y.weak λj b=>Ii b,(Kp.of J.o).more ((Kp.less G.o λj b=>⟨Ii b,by have:=H.o.lt j b;omega⟩).more (Kp.less A λj b=>Ii b))⟩⟩
 obtain rfl:d=n:=(by omega);rw[zF (by rw[q.o];exact tA _)]at H0 O HW;have I:=lh (aQN O.o.sx.px (by rw[HW.o.same.D];exact e'.o));have Y:=O.o.blk.a 0;go_wp2_with fail;refine I.o.mono ?_;rintro e q ⟨rfl,V,d⟩;have n:=lh (d.blk d0.o (Ij ⟨by omega,by omega⟩));have a1:=n.o.free;have W:=n.o.a 0;have W:=d.cell C (Ij ⟨tA _,by omega⟩);have P:=d.blk O.o.blk O.o.xc;have B:=d.blk O.o.sx.blk O.o.sx.xs;have t:=H.o.lt _ H.o.sx.xs;have u:=H.o.lt _ H.o.xc;obtain⟨i,r⟩:∃i,(allS x (L.map OpV.op)).1.s.commit.2=i:=⟨_,rfl⟩;rw[r];have l:Fr [w.heap.size+1] q (q.setCell ⟨w.heap.size+1,0,none⟩ (ii ip i)):=(jj _ q).setCell (Ii (by simp)) _;have⟨d8,G,z,b4,f9,d9,b8⟩:=hh7 (V.other l (by intro j b;rw[xA.1 b];exact Ij ⟨by omega,by omega⟩) (by intro j b;rw[xA.1 b];have:=H.o.frame.size;omega)) ((a9.o.more (Kp.less d λj b=>b.1)).more (Kp.new l λb=>b.2 rfl)) (n.o.set_ 0 (ii ip i)) (yD l W (by simp)) (P.fr l (by simp;omega)) O.o.sx.store r;clear V d P B t u l r C Y I O;go_wp2_with fail;refine leaves_cons (f:=32) (args:=#[pi (some ⟨w.heap.size+1,0,none⟩),pi (some ⟨w.heap.size,0,none⟩)]) (by simp) (by simp[go_sem]) ?_;have d:¬ (allS x (L.map OpV.op)).2≠0:=λh=>h H0.o;by_cases m:i=0;·have p:doS x (L.map OpV.op)=(⟨(allS x (L.map OpV.op)).1.s.commit.1,(allS x (L.map OpV.op)).1.E⟩,0):=(by unfold doS;rw[eA d,eA (by rw[b8.o];exact λh=>h m)]);subst m;refine(aPI (z.o.a 0)).mono ?_;rintro e Q S ⟨rfl,rfl,rfl⟩;exact⟨ii ip 0,nP rfl rfl (z.o.a 0),T.o _ _ ⟨by rw[p],HW.o,by rw[<- HW.o.same.n];exact d9.o,by rw[p];exact d8.o.weak λj b=>Ii b,(Kp.of J.o).more (Kp.less G.o λj b=>⟨Ii b,by have:=H.o.lt j b;omega⟩)⟩⟩
 have p:doS x (L.map OpV.op)=(⟨{ (allS x (L.map OpV.op)).1.s.commit.1 with late:=[] },x.E⟩,i):=(by unfold doS;rw[eA d,iA (by rw[b8.o];exact m),b8.o]);refine(aKD d8.o (z.o.a 0) b4.o f9.o m).mono ?_;rintro e Q S ⟨rfl,rfl,y,A⟩;have F:=A.blk z.o (Ij ⟨by omega,by omega⟩);exact⟨ii ip i,nP rfl rfl (F.a 0),T.o _ _ ⟨by rw[p],HW.o,by rw[<- HW.o.same.n];exact d9.o,by rw[p];exact y.weak λj b=>Ii b,(Kp.of J.o).more ((Kp.less G.o λj b=>⟨Ii b,by have:=H.o.lt j b;omega⟩).more (Kp.less A λj b=>Ii b))⟩⟩
end
end
section
open Go.RowKit Go.ChangeShapes Go.WideShapes Go.Deep
def aOc (W:World) (v:Value) (L:List OpV):Prop:=
 ∃A c g off,v=.slice A L.length c/\L.length<=c/\L.length<=maxLen/\∀(j:Nat) (o:OpV),L[j]? = some o->A=some ⟨g,off,none⟩/\∀(i:Nat) (u:Value),o.cells[i]? = some u->W.cell? ⟨g,off+j*4+i,none⟩=some u
structure RdA where
 v:Value
 L:List OpV
 chk:Bool
structure RdA.at_ (W:World) (g off:Nat) (o:RdA):Prop where
 c0:W.cell? ⟨g,off,none⟩=some o.v
 c1:W.cell? ⟨g,off+1,none⟩=some (.bool o.chk)
 a:aOc W o.v o.L
def aIB (W:World) (v:Value) (l:List RdA):Prop:=
 ∃A c g off,v=.slice A l.length c/\l.length<=maxLen/\∀(j:Nat) (o:RdA),l[j]? = some o->A=some ⟨g,off,none⟩/\o.at_ W g (off+j*2)
theorem aOc.sl{W:World}{v:Value}{L:List OpV}(h:aOc W v L):∃g,kH W v (li L) (L.map OpV.cells).flatten g/\(0<li L->g<W):=by
 obtain⟨b,c,g,f,rfl,d,_,i⟩:=h;refine⟨g,⟨b,c,f,rfl,d,λm=>?_⟩,λm=>?_⟩
 ·obtain⟨d,j⟩:=gx (l:=L) m;refine⟨(i 0 d j).1,λb q p=>?_⟩;have c:(L.map OpV.cells).flatten.length=li L*4:=by
   have:∀l:List OpV,(l.map OpV.cells).flatten.length=li l*4:=λl=>by
    induction l with
    | nil=>rfl
    | cons a l n=>rw[List.map_cons,List.flatten_cons,iB,n,bD];show 4+_=_;omega
   exact this L
  have s:b<li L*4:=by rw[<- c];exact(uC.1 p).1
  obtain⟨c,o⟩:∃c,L[b / 4]? = some c:=gx (by omega);have n:=mQ (k:=4) (L.map OpV.cells) (λt r=>by obtain⟨c,_,rfl⟩:=kI.1 r;rfl) (b / 4) c.cells (by rw[wI,o];rfl) (b%4) (by omega);rw[show 4*(b / 4)+b%4=b by omega,p]at n;have p:=(i (b / 4) c o).2 (b%4) q n.symm;rwa [show f+b / 4*4+b%4=f+b by omega]at p
 obtain⟨d,j⟩:=gx (l:=L) m;have:=xF W _ ((i 0 d j).2 0 (ii ip d.what) rfl);exact this
section
variable {H:Type}{P:Program}{enc:TypeId×Value->H}
theorem aUK{W:World}{t e ts:TypeId}{B F G I:Field}{v:Value}{x:DataW H×List MemPlace}(ht:P.underlying t=some (.slice e))(he:P.underlying e=some (.struct #[B,F,G,I])) (C:oneCellFields P #[B,F,G,I]=true)(hC:P.cellsOf e=4)(h0:B.type=T)(h1:F.type=ts)(h2:G.type=T)(h3:I.type=ts) (D:P.underlying T=some (.int ip))(E:P.underlying ts=some .string) (h:DataW.trod enc P W 0 (λ_=>true) true n t [v]=some x):∃L,aOc W v L:=by
 obtain⟨A,len,cap,rfl,a0,a1,a2,U⟩:=lZ ht he C hC h;by_cases hz:len=0;·subst hz;exact⟨[],A,cap,0,0,rfl,uB _,by simp,λj o hj=>by simp at hj⟩
 obtain⟨a,rfl,Q⟩:=U 0 (by omega);obtain⟨u,_,_,b,_⟩:=Q 0 B rfl;obtain⟨g,off,rfl⟩:=aDB (w:=W) (a:=a) (v:=u) (by simpa using b);obtain⟨l,hl,hp⟩:=aCH (p:=λi (o:OpV)=>∀(k:Nat) (u:Value),o.cells[k]? = some u->W.cell? ⟨g,off+i*4+k,none⟩=some u) len (λi hi=>by
  obtain⟨a',S,c⟩:=U i hi;obtain rfl:a'=⟨g,off,none⟩:=(by injection S with S;exact S.symm);obtain⟨u0,n0,y0,d,f⟩:=c 0 B rfl;obtain⟨u1,n1,y1,m,q⟩:=c 1 F rfl;obtain⟨u2,n2,y2,r,s⟩:=c 2 G rfl;obtain⟨u3,n3,y3,y,z⟩:=c 3 I rfl;rw[aHA]at d m r y;rw[h0]at f;rw[h1]at q;rw[h2]at s;rw[h3]at z;obtain⟨V,e0,_,w0⟩:=DataW.trod_int D f;obtain⟨X,e1,_⟩:=DataW.trod_string E q;obtain⟨Y,e2,_,w2⟩:=DataW.trod_int D s;obtain⟨Z,e3,_⟩:=DataW.trod_string E z;have J:u0=ii ip V:=(by simpa using e0);have M:u1=sj X:=(by simpa using e1);have N:u2=ii ip Y:=(by simpa using e2);have O:u3=sj Z:=(by simpa using e3);subst J;subst M;subst N;subst O;refine⟨⟨V,X,Y,Z⟩,λk u b=>?_⟩;match k,b with
  | 0,b=>obtain rfl:=tE b;simpa using d
  | 1,b=>obtain rfl:=tE b;simpa[yP]using m
  | 2,b=>obtain rfl:=tE b;simpa[yP]using r
  | 3,b=>obtain rfl:=tE b;simpa[yP]using y
  | k+4,b=>simp[OpV.cells]at b)
 exact⟨l,some ⟨g,off,none⟩,cap,g,off,by rw[hl],by omega,by omega,λj o hj=>⟨rfl,hp j o hj⟩⟩
theorem aOd{W:World}{t e C D ts tk:TypeId}{q s g0 E F G:Field}{v:Value}{x:DataW H×List MemPlace}(ht:P.underlying t=some (.slice e))(he:P.underlying e=some (.struct #[q,s])) (r:oneCellFields P #[q,s]=true)(hC:P.cellsOf e=2)(h0:q.type=T)(h1:s.type=tk)(I:P.underlying T=some (.slice C))(J:P.underlying C=some (.struct #[g0,E,F,G])) (b:oneCellFields P #[g0,E,F,G]=true)(M:P.cellsOf C=4)(k0:g0.type=D)(k1:E.type=ts)(k2:F.type=D)(k3:G.type=ts) (N:P.underlying D=some (.int ip))(O:P.underlying ts=some .string)(Q:P.underlying tk=some .bool) (h:DataW.trod enc P W 0 (λ_=>true) true n t [v]=some x):∃l,aIB W v l:=by
 obtain⟨A,len,cap,rfl,V,X,Y,S⟩:=lZ ht he r hC h;by_cases hz:len=0;·subst hz;exact⟨[],A,cap,0,0,rfl,by simp,λj o hj=>by simp at hj⟩
 obtain⟨a,rfl,z⟩:=S 0 (by omega);obtain⟨u,_,_,Z,_⟩:=z 0 q rfl;obtain⟨g,off,rfl⟩:=aDB (w:=W) (a:=a) (v:=u) (by simpa using Z);obtain⟨l,hl,hp⟩:=aCH (p:=λi (o:RdA)=>o.at_ W g (off+i*2)) len (λi hi=>by obtain⟨a',B,c⟩:=S i hi;obtain rfl:a'=⟨g,off,none⟩:=(by injection B with B;exact B.symm);obtain⟨u0,n0,y0,d,f⟩:=c 0 q rfl;obtain⟨u1,n1,y1,k,m⟩:=c 1 s rfl;rw[aHA]at d k;rw[h0]at f;rw[h1]at m;obtain⟨L,hL⟩:=aUK I J b M k0 k1 k2 k3 N O f;obtain⟨U,e1,_⟩:=DataW.trod_bool Q m;have y:u1=ij U:=(by simpa using e1);subst y;exact⟨⟨u0,L,U⟩,by simpa using d,by simpa[yP]using k,hL⟩);exact⟨l,some ⟨g,off,none⟩,cap,g,off,by rw[hl],by omega,λj o hj=>⟨rfl,hp j o hj⟩⟩
end
end
section
open Go.RowKit Go.ChangeMaps Go.MapKept Go.Maps Go.Sort Go.Shelf
def aCS (r:List UInt8×Bool×Int) (w:World) (e:Ending) (w':World):Prop:=
 e=.returned (.tuple #[.string ⟨r.1.toArray⟩,.bool r.2.1,.int .i64 r.2.2])/\Fr [] w w'
section
variable {w0 w w':World}{dk g st ca:Nat}{x:SE}{X:Nat->Prop}
def GtRel (_w wb:World) (L:En) (j:Nat) (v12 v42:Value) (wr:World):Prop:=
 ∃k:Nat,k+j=L.length/\v42=.int .i64 (k:Int)/\Buf wr wb.heap.size v12 ((L.take k).flatMap (·.2))/\Fr [] wb wr
theorem Z76{P:Prop} (h:P:=by
 go_wp2_with fail;exact qD (by simp[results,Tryz.results23,go_sem]) rfl HX.o):P:=h
theorem aKE(h:CtX w0 w dk g st ca x X){N:Nat}(f:mE N x.E)(n:N<=900000)(cs:ByteArray)(d:Int)(l:isS x (bA cs)=false∨idB d=false): Calls prog 23 #[pi ca,sj cs,d] w (aCS ([],false,isC x cs) w):=by
 refine cA λq c=>?_;have b:=lh (lW h (by have:=f.few 1;omega) cs);have k:=lh (λi:World=>lJ (w:=i) d);cases j:isS x (bA cs) with
 | false=>
  have i:isC x cs=6:=by unfold isC;rw[j];rfl
  rw[i]at b c;go_enter func23,ntmps23;go_wp2_with fail;refine b.o.mono ?_;rintro e p ⟨rfl,i⟩;have HX:=lh (c.o _ _ ⟨rfl,i⟩);exact Z76
 | true=>
  have m:isC x cs=0:=by unfold isC;rw[j];rfl
  rw[m]at b c;have m:idB d=false:=by
   obtain h|h:=l;·rw[j]at h;cases h
   exact h
  rw[m]at k;go_enter func23,ntmps23;go_wp2_with fail;refine b.o.mono ?_;rintro e p ⟨rfl,i⟩;have HX:=lh (c.o _ _ ⟨rfl,i⟩);go_wp2_with fail;refine(k.o _).mono ?_;rintro e b ⟨rfl,rfl⟩;exact Z76
theorem aSb(h:CtX w0 w dk g st ca x X){N:Nat}(k:mE N x.E)(hN:N<=900000)(cs:ByteArray)(id:Int)(G:isS x (bA cs)=true)(r:idB id=true)(hV:li ((eD (x.E 0) (zB (bA cs) [id.toNat])).flatMap (·.2))<=65536): Calls prog 23 #[pi (some ⟨ca,0,none⟩),sj cs,ii ip id] w (aCS ((eD (x.E 0) (zB (bA cs) [id.toNat])).flatMap (·.2),!(eD (x.E 0) (zB (bA cs) [id.toNat])).isEmpty,0) w):=by
 refine cA λR HQ=>?_;have Q:=lh (lW h (by have:=k.few 1;omega) cs);have S:=lh (λW:World=>lJ (w:=W) id);have e0:isC x cs=0:=by unfold isC;rw[G];rfl
 rw[e0]at Q;rw[r]at S;have I:=aFo G;have hz:=mG I;have T:=yA cs;have H:=lh h;have HN:=lh hN;have t:=lh k;have HIL:=lh (λW=>aAM W id r);have U:=cK.1 r;obtain⟨J,hKY⟩:∃K,zB (bA cs) [id.toNat]=K:=⟨_,rfl⟩;rw[hKY]at HQ;have V:Hid (∀(W:World),Calls prog 45 #[sj cs,si (some ⟨W.heap.size,0,none⟩) 1 1] (W.alloc (iy #[ii ip id] 3)) λe w'=>∃v',e=iz v'/\(∃q,dA w' v' J q/\W.heap.size+1<=q)/\Fr [] (W.alloc (iy #[ii ip id] 3)) w'):=lh λW=>by exact Z24
 have Z:li J<=96/\1<=li J:=by rw[<- hKY,qI];simp;omega
 have a0:=lh Z;have c8:Hid (aft J≠[]):=lh (by rw[<- hKY];exact iX _ _);rw[hKY]at hV;have HV:=lh hV;clear h k hN G r e0 I hz T U hKY Z HIL hV;go_enter func23,ntmps23;go_wp2_with fail;refine Q.o.mono ?_;rintro e w1 ⟨rfl,b3⟩;have a1:=lh b3;clear b3;go_wp2_with fail;refine(S.o _).mono ?_;rintro e w2 ⟨rfl,rfl⟩;go_wp2_with fail;have a2:Fr [] w1 (w1.alloc (iy #[ii ip id] 3)):=(jj [] w1).alloc _;have a3:=lh (a1.o.trans a2);clear a2;refine(V.o w1).mono ?_;rintro e w3 ⟨vk,rfl,⟨q,hk,hq⟩,b4⟩;have a4:=lh (a3.o.trans b4);have a5:=sF hk (by have:=a0.o;omega);have a6:=lh (aBX (H.o.fr a4.o) (t.o.rise 0) (by have:=t.o.few 0;have:=HN.o;omega) hk (Ij ⟨by have:=a1.o.size;omega,a5⟩) c8.o (by have:=a0.o;omega));clear hk hq b4 a5 V a3;go_wp2_with fail;refine a6.o.mono ?_;obtain⟨L,hL⟩:∃L,eD (x.E 0) J=L:=⟨_,rfl⟩;have a7:Hid (li L<=900000):=lh (by have h1:=t.o.few 0;have h2:li (eD (x.E 0) J)<=li (x.E 0):=pO ..;have:=HN.o;rw[<- hL];omega);rw[hL];rw[hL]at HQ HV;rintro e wb ⟨ov,cl,rfl,ho,M,b5⟩;clear hL a6;obtain⟨Ao,co,rfl,_,_⟩:=jA ho;have HO:=lh ho;have HE:=lh M;have c9:=lh (a4.o.trans b5);clear ho M b5;obtain⟨n,I⟩:∃n,li L=n:=⟨_,rfl⟩;rw[I]at HO a7⊢;have c:=lh I;clear I;go_wp2_with fail;go_loopg [12,42] n (λj v12 v42 wr=>GtRel w wb L j v12 v42 wr);·exact⟨0,by rw[c.o];omega,rfl,gD _ _ _ _,jj _ _⟩
 obtain⟨i,hi,rfl,hb,hf⟩:=hrel;rw[c.o]at hi;have HB:=lh hb;have y:=lh hf;clear hb hf;by_cases e1:i<n
 ·obtain⟨e,M⟩:∃e,L[i]? = some e:=gx (by rw[c.o];exact e1);have m:(L.take (i+1)).flatMap (·.2)=(L.take i).flatMap (·.2)++e.2:=(by rw[eJ,M,vO];simp);have z:li ((L.take (i+1)).flatMap (·.2))<=65536:=by
   have h1:li (L.flatMap (·.2))=li ((L.take (i+1)).flatMap (·.2))+li ((L.drop (i+1)).flatMap (·.2)):=(by rw[<- iB,<- vO,bL]);have:=HV.o;omega
  rw[m,iB]at z;obtain⟨O,f⟩:∃O,(L.take i).flatMap (·.2)=O:=⟨_,rfl⟩;rw[f]at HB m z;have c':=lh m;obtain⟨go,rfl,b⟩:=tD HO.o (by omega);obtain⟨k1,v1,b6,b7,⟨q1,b8,d8⟩,⟨q2,B,d9⟩⟩:=fH.at_ HE.o M;have ck:=aA y.o (b _ _ b6);have cv:=aA y.o (b _ _ b7);have d0:=lh (B.fr y.o);obtain⟨A1,c1,_,rfl,_,_⟩:=_root_.id b8;obtain⟨A2,c2,_,rfl,_,_⟩:=_root_.id B;have d1:Hid (wr.rangeAt go (i*2) [si A1 (li e.1) c1,si A2 (li e.2) c2]):=lh (by
   intro j u l;match j,l with
   | 0,l=>obtain rfl:=tE l;exact ck
   | 1,l=>obtain rfl:=tE l;exact cv
   | j+2,l=>simp at l)
  have e2:(i:Int)<(n:Int):=(by omega);have a8:Hid (li O<=1048576):=lh (by omega);have a9:Hid (li e.2<=1048576):=lh (by omega);clear b b6 b7 b8 d8 B d9 ck cv M m z f;go_upto_region 12 with fail;refine sB ?_;refine ab ?_;refine lp λK hK=>xQ 100 (.tmp 44) rfl go (i*2) rfl [si A1 (li e.1) c1,si A2 (li e.2) c2] _ d1.o Tryz.underlying100 rfl (by kernel_rfl) (hK _ _ ?_);simp only[nrm];clear hK;refine lp λK hK=>gB 100 rfl (il #[si none 0 0,si none 0 0]) [si none 0 0,si none 0 0] oU rfl λwa D c3 c4=>hK _ _ ?_;simp only[nrm];clear hK;obtain⟨b9,C⟩:=nm (wr.heap.size);rw[<- C]at D⊢;have d2:=lh C;have d3:=lh c3;have e3:=lh c4;have d4:=lh D;clear C c3 c4 D;refine lp λK hK=>?_;refine pA 100 (.tmp 14) (.tmp 45) rfl [si A1 (li e.1) c1,si A2 (li e.2) c2] rfl rfl d4.o nU rfl (by intro u l;simp only[bB,kC,dC]at l;rcases l with rfl|rfl<;>rfl) λw4 c5 c6 d'=>hK _ _ ?_;simp only[Act.put];clear hK;have d5:=lh c5;have p:Hid (Fr [] wr w4):=lh (d3.o.trans c6 λq hq=>Ij (by rw[xA.1 hq,d2.o];exact tA _));clear c5 c6 d';refine wB ?_;have b1:=d5.o.a 1;have A:=lh (HB.o.fr p.o);obtain⟨Av,cv,rfl⟩:=A.o.shape;have s:wb.heap.size<=w4.heap.size:=vD y.o.size p.o.size;have d6:=lh s;clear s;go_upto_region 13 with fail;refine sB ?_;iterate 3 (refine ab ?_)
  refine lp λK hK=>tG (.tmp 46) (.tmp 48) rfl rfl A.o d6.o (d0.o.fr p.o) a8.o a9.o λv7 w7 F=>hK _ _ ?_;simp only[nrm];clear hK;refine ab ?_;refine wB ?_;have a':=lh F.buf;rw[<- c'.o]at a';have d7:=lh (F.fr0 A.o (tA _) (y.o.trans p.o));clear F b1;have e4:Wi ip ((i:Int)+1)=((i+1:Nat):Int):=(by have:=a7.o;rw[yB];omega);go_wp2_with fail;go_roundg (n-(i+1))
  case measure=>omega
  case rel=>exact⟨i+1,by rw[c.o];omega,rfl,a'.o,d7.o⟩
 obtain rfl:i=n:=(by omega);have d:=HB.o;rw[zF (by rw[c.o];exact tA _)]at d;obtain⟨O,f⟩:∃O,L.flatMap (·.2)=O:=⟨_,rfl⟩;rw[f]at d HQ;clear f;have b0:=y.o.size;obtain⟨q,b',_⟩:=jX rfl d b0;have e5:=oN (P:=prog) (w:=wr) (src:=67) (e:=5) (dst:=9) Go.Proofs.Tryz.underlying67 aBd nO b';have b2:(!L.isEmpty)=decide (0<(i:Int)):=by rw[<- c.o];cases L<;>simp<;>omega
 have HX:=lh (HQ.o _ _ ⟨rfl,c9.o.trans y.o⟩);rw[b2]at HX;obtain⟨Av,cv,rfl⟩:=d.shape;clear d b0 b' b2;exact Z76
end
end
section
open Go.RowKit Go.Shelf
def BAt (w:World) (q off:Nat) (bs:List UInt8):Prop:=∀(i:Nat) (b:UInt8),bs[i]? = some b->w.cell? ⟨q,off+i,none⟩=some (.int .u8 (b.toNat:Int))
theorem BAt.fr{w w':World}{q off:Nat}{bs:List UInt8}(h:BAt w q off bs)(c:Fr [] w w'):BAt w' q off bs:=λb d f=>aA c (h b d f)
theorem BAt.drop{w:World}{q off:Nat}{bs:List UInt8}(h:BAt w q off bs){k c:Nat}(f:k<=li bs)(g:li bs<=c): ∃off',(if c=k then some (⟨q,off,none⟩:Addr) else (some (⟨q,off,none⟩:Addr)).map (·.add k))=some ⟨q,off',none⟩/\BAt w q off' (bs.drop k)/\li bs-k=li (bs.drop k):=by
 by_cases i:c=k;·refine⟨off,by rw[iA i],λd j b=>?_,by rw[vB]⟩;rw[sO (by omega)]at b;cases b
 refine⟨off+k,by rw[eA i,tO,Go.Addr.add_mid],λd j b=>?_,by rw[vB]⟩;rw[zK]at b;rw[show off+k+d=off+(k+d) by omega];exact h _ _ b
theorem BAt.tail{w:World}{q off:Nat}{x:UInt8}{bs:List UInt8}(h:BAt w q off (x::bs)):BAt w q (off+1) bs:=λb c d=>by have:=h (b+1) c (by simpa using d);rwa [show off+(b+1)=off+1+b by omega]at this
theorem BAt.of{w:World}{A:Option Addr}{n c q:Nat}{bs:List UInt8}(h:dA w (si A n c) bs q)(h0:0<li bs):∃off,A=some ⟨q,off,none⟩/\n=li bs/\li bs<=c/\BAt w q off bs:=by obtain⟨off,b,d⟩:=dA.get h h0;obtain⟨g,i,j,f,k,_⟩:=h;injection f with _ f l;exact⟨off,b,f,by omega,d⟩
theorem aKF:∀(s r:List UInt8),NoZ s->Lib.indexByte (s++0::r) 0=(li s:Int)
 | [],_,_=>rfl
 | b::s,r,h=>by
  have c:(b==0)=false:=by rw[lE];exact h b (eC ..)
  have d:=aKF s r λf g=>h f (jD _ g);rw[lI];unfold Lib.indexByte;rw[eA (by rw[c];decide),d,eA (by simp),bD];omega
theorem aIC(bs:List UInt8):Lib.bytesOf (bs.map λb=>(b.toNat:Int))=bs:=by
 unfold Lib.bytesOf;rw[List.map_map];conv=>rhs;rw[<- List.map_id bs]
 apply List.map_congr_left;intro b _;simp
theorem aTD{w:World}{q off c:Nat}{s r:List UInt8}(h:BAt w q off (s++0::r))(j:NoZ s){n:Nat}(d:n=li (s++0::r)): Calls prog 175 #[si (some ⟨q,off,none⟩) n c,ii ix 0] w λe b=>e=iz (ii ip (li s:Int))/\w=b:=by have b:=Lib.run_indexByteSlice (P:=prog) (w:=w) q off n c ((s++0::r).map λc=>(c.toNat:Int)) (by rw[cH,d]) (λf i=>by have g:=h f ((s++0::r)[f]'(by omega)) (kE _);rw[g,vR,wI,kE (by omega)];rfl) 0;rw[aIC,show(0:Int).toNat.toUInt8=0 from rfl,aKF s r j]at b;have f:=lh b;clear b h d;refine cA λg b=>?_;go_enter func175,ntmps175;go_wp2_with fail;rw[run_callFunc_extern func197 (by kernel_rfl) (by kernel_rfl) (by kernel_rfl) (e:=Extern.BytealgIndexByte.indexByte) (by kernel_rfl),f.o];simp only[Result.andThen];rw[Oper.upon_value];go_wp2_with fail;exact b.o _ _ ⟨rfl,rfl⟩
def oW (p:Pt) (q:Nat) (rest:List UInt8) (w:World) (e:Ending) (w':World):Prop:=
 ∃off' c',e=.returned (.tuple #[.agg p.vals.toArray,.slice (some ⟨q,off',none⟩) rest.length c'])/\rest.length<=c'/\BAt w' q off' rest/\Fr [] w w'
theorem Z50{P:Prop} (h:P:=by
 go_wp2_with fail;exact qD (vC rfl rfl HB9.o Go.Proofs.Tryz.underlying107 rfl (by kernel_rfl)) rfl HX.o):P:=h
theorem aSc{w:World}{q off n c:Nat}(s:ByteArray){rest:List UInt8}(E:NoZ (bA s))(h:BAt w q off (bA s++0::0::rest))(F:n=li (bA s++0::0::rest))(f:n<=c)(V:n<=1000000): Calls prog 137 #[si (some ⟨q,off,none⟩) n c] w (oW (.str s) q rest w):=by
 refine cA λT N=>?_;obtain⟨b,i⟩:∃b,li (bA s)=b:=⟨_,rfl⟩;have m:n=b+2+li rest:=by rw[F];simp;omega
 have HX:=lh (fun(W:World) (d:Fr [] w W)=>aTD (c:=c) (h.fr d) E F);rw[i]at HX;have r:(bA s++0::0::rest)[b+1]? = some 0:=by rw[mJ (by omega),show b+1-li (bA s)=1 by omega];rfl
 obtain⟨A,B,l,C⟩:=h.drop (k:=b+2) (c:=c) (by rw[<- F];omega) (by rw[<- F];exact f);have t:(bA s++0::0::rest).drop (b+2)=rest:=by rw[List.drop_append,sO (by omega),show b+2-li (bA s)=2 by omega];rfl
 rw[t]at l C;have G:Hid ((if c=b+2 then some (⟨q,off,none⟩:Addr) else some ⟨q,off+(b+2),none⟩)=some ⟨q,A,none⟩):=lh (by rw[<- B,tO,Go.Addr.add_mid]);have I:Hid (n-(b+2)=li rest):=lh (by omega);have u:=h (b+1) 0 r;obtain⟨g,j⟩:=nm (w.alloc (iy yU.toArray 107));have d:Fr [] w g:=by rw[j];exact(jj [] w).alloc _
 have f:Blk g w.heap.size 107 yU:=by rw[j];exact jl w _ yU
 have x:=HX.o g d;have y:=aA d u;have J:=lh l;have L:Hid (dA w (si (some ⟨q,off,none⟩) b c) (bA s) q):=lh ⟨_,c,off,by rw[i],by omega,λ_=>⟨rfl,λD U z=>by rw[sH,Option.map_eq_some_iff]at z;obtain⟨M,f,rfl⟩:=z;exact h D M (by rw[yK (uC.1 f).1];exact f)⟩⟩;have⟨X,HB,HM,p⟩:=hh4 d f i m;have O:b<=1000000:=by omega
 have z:li rest<=c-(b+2):=by omega
 have M:=lh z;clear h F E r B l C t d f HX i u z m;go_enter func137,ntmps137;go_upto_region 1 with fail;rw[show w.alloc (iy #[ii ip 0,ij false,ij false,sj { data:=#[] },ii ip 0,sj { data:=#[] },ii ip 0] 107)=g from j.symm];clear j;go_wp2_with fail;go_loopg [0,4] 0 (λD v0 v4 wr=>v0=si (some ⟨q,off,none⟩) n c/\v4=si none 0 0/\wr=g);·exact⟨rfl,rfl,rfl⟩
 obtain⟨rfl,rfl,rfl⟩:=hrel;go_wp2_with fail;refine x.mono ?_;rintro e t ⟨rfl,rfl⟩;clear x;have j:decide ((n:Int)<=(b:Int)+1)=false:=by rw[eI];have:=p.o;omega
 have m:b<=c:=by have:=p.o;omega
 go_upto_region 5 with fail;refine sB ?_;iterate 4 (refine ab ?_)
 refine lp λK hK=>tG (.tmp 19) (.tmp 22) rfl (H:=wr.heap.size) (v:=si none 0 0) (bs:=[]) rfl (gD _ _ _ _) (tA _) (L.o.fr X.o) (by simp) (by rw[HM.o];omega) λv7 g f=>hK _ _ ?_;simp only[nrm];clear hK;refine ab ?_;refine wB ?_;have d:Fr [] wr g:=f.fr;rw[nG]at f;obtain⟨u,i,_⟩:=jX rfl f.buf d.size;have l:=oN (P:=prog) (w:=g) (src:=67) (e:=5) (dst:=9) Go.Proofs.Tryz.underlying67 aBd nO i;obtain⟨x,z,rfl⟩:=f.buf.shape;have g:(⟨(bA s).toArray⟩:ByteArray)=s:=rfl;rw[g]at l;have l:=aA d y;have⟨Q,S⟩:=hh2 (HB.o.fr d) (X.o.trans d);clear f i g d y j;have i:Wi ip ((b:Int)+1)=((b+1:Nat):Int):=ak;have j:Wi ip ((b:Int)+2)=((b+2:Nat):Int):=ak;have r:((b+1:Nat):Int)<(n:Int):=by have:=p.o;omega
 go_upto_region 11 with fail;rw[G.o,I.o];refine sB ?_;iterate 4 (refine ab ?_)
 refine lp λK hK=>pA 107 (.tmp 2) (.tmp 39) rfl (Pt.str s).vals rfl rfl Q.o (by rw[iF];exact qK) (by rw[iF];rfl) (zS (.str s)) λf d g y=>hK _ _ ?_;simp only[Act.put];clear hK;refine ab ?_;refine wB ?_;have HB9:=lh d;have d:Fr [] w f:=S.o.trans g λq f=>Ij (by rw[xA.1 f];exact tA _);have HX:=lh (N.o _ _ ⟨A,c-(b+2),rfl,M.o,J.o.fr d,d⟩);clear d;exact Z50
theorem aKG(b:Array Value)(w:World):(callFunc 137 b).run prog w=.ok (.enter 137 b) w:=by kernel_rfl
theorem aPJ{w:World}{q off n c:Nat}(s:ByteArray){rest:List UInt8}(r:NoZ (bA s))(h:BAt w q off ((Pt.str s).bytes++rest))(H:n=li ((Pt.str s).bytes++rest))(X:n<=c)(W:n<=1000000): Calls prog 104 #[si (some ⟨q,off,none⟩) n c] w (oW (.str s) q rest w):=by
 refine cA λz u=>?_;have j:(Pt.str s).bytes++rest=64::(bA s++0::0::rest):=by show(64::bA s++[0,0])++rest=_;simp
 rw[j]at h H;have g:w.cell? ⟨q,off,none⟩=some (ii ix 64):=h 0 64 rfl;have k:=h.tail;have m:n=li (bA s++0::0::rest)+1:=by rw[H,bD]
 have v:2<n:=by rw[m];simp;omega
 have x:¬ c=1:=by omega
 have t:=lh (xF w _ g);obtain⟨i,f⟩:=nm (w.alloc (iy yU.toArray 107));have b:Fr [] w i:=by rw[f];exact(jj [] w).alloc _
 have d:Blk i w.heap.size 107 yU:=by rw[f];exact jl w _ yU
 have p:=lh (aSc (c:=c-1) (n:=n-1) s r (k.fr b) (by omega) (by omega) (by omega));have y:=aA b g;have⟨N,O⟩:=hh2 b d;clear h H j g k m b d r;go_enter func104,ntmps104;go_upto_region 1 with fail;rw[show w.alloc (iy #[ii ip 0,ij false,ij false,sj { data:=#[] },ii ip 0,sj { data:=#[] },ii ip 0] 107)=i from f.symm];clear f;go_upto_region 14 with fail;refine sB ?_;refine ab ?_;refine lp λK hK=>kA (l:=[.tmp 40]) rfl [si (some ⟨q,off+1,none⟩) (n-1) (c-1)] rfl (aKG _) (p.o.mono ?_);rintro e r ⟨i,m,rfl,f,g,b⟩;refine⟨_,rfl,hK _ _ ?_⟩;simp only[nrm];clear hK;have⟨B,C,Q,S⟩:=hh4 (N.o.trans b) (O.o.fr b) g f;clear f g b p;iterate 2 (refine ab ?_)
 refine lp λK hK=>pA 107 (.tmp 2) (.tmp 42) rfl (Pt.str s).vals rfl rfl C.o (by rw[iF];exact qK) (by rw[iF];rfl) (zS (.str s)) λj b k A=>hK _ _ ?_;simp only[Act.put];clear hK;refine ab ?_;refine wB ?_;have HB9:=lh b;have f:Fr [] w j:=B.o.trans k λq b=>Ij (by rw[xA.1 b];exact tA _);have g:BAt j q i rest:=λj p d=>yD k (Q.o j p d) (λb=>by have d:q=w.heap.size:=xA.1 b;have b:=t.o;exact absurd b (by rw[d];exact fT _));have HX:=lh (u.o _ _ ⟨i,m,rfl,S.o,g,f⟩);clear f g;exact Z50
theorem BAt.tail4{w:World}{q off:Nat}{a b c d:UInt8}{bs:List UInt8}(h:BAt w q off (a::b::c::d::bs)):w.cell? ⟨q,off,none⟩=some (ii ix (a.toNat:Int))/\w.cell? ⟨q,off+1,none⟩=some (ii ix (b.toNat:Int))/\w.cell? ⟨q,off+2,none⟩=some (ii ix (c.toNat:Int))/\w.cell? ⟨q,off+3,none⟩=some (ii ix (d.toNat:Int)):=⟨h 0 a rfl,h 1 b rfl,h 2 c rfl,h 3 d rfl⟩
theorem aMQ(x u k:Nat)(b:u<2^k)(ht:x*2^k+u<9223372036854775808):bits .or ip ((x*2^k:Nat):Int) (u:Int)=((x*2^k+u:Nat):Int):=by show Wi ip ((BitVec.ofInt 64 ((x*2^k:Nat):Int) ||| BitVec.ofInt 64 (u:Int)).toNat:Int)=_;have c:=Nat.shiftLeft_add_eq_or_of_lt b x;rw[Nat.shiftLeft_eq]at c;rw[BitVec.toNat_or,iO,iO,jO,jO,aL (by omega),aL (by omega),<- c];rw[yB];omega
theorem aUL(b c d f:UInt8):bits .or ip (bits .or ip (bits .or ip ((b.toNat:Int)*16777216) ((c.toNat:Int)*65536)) ((d.toNat:Int)*256)) (f.toNat:Int)=((b.toNat*16777216+c.toNat*65536+d.toNat*256+f.toNat:Nat):Int):=by
 have j:=b.toNat_lt;have k:=c.toNat_lt;have l:=d.toNat_lt;have m:=f.toNat_lt;have g:((b.toNat:Int)*16777216)=((b.toNat*2^24:Nat):Int):=by omega
 have h:((c.toNat:Int)*65536)=((c.toNat*65536:Nat):Int):=by omega
 have i:((d.toNat:Int)*256)=((d.toNat*256:Nat):Int):=by omega
 rw[g,h,i,aMQ _ _ 24 (by omega) (by omega),show b.toNat*2^24+c.toNat*65536=(b.toNat*256+c.toNat)*2^16 by omega,aMQ _ _ 16 (by omega) (by omega),show(b.toNat*256+c.toNat)*2^16+d.toNat*256=(b.toNat*65536+c.toNat*256+d.toNat)*2^8 by omega,aMQ _ _ 8 (by omega) (by omega)]
theorem aID(u:UInt8):Wi ip (u.toNat:Int)=(u.toNat:Int):=by have:=u.toNat_lt;rw[yB];omega
theorem aTE(b c d f:UInt8):bits .or ip (bits .or ip (bits .or ip (Wi ip (Wi ip (b.toNat:Int)*16777216)) (Wi ip (Wi ip (c.toNat:Int)*65536))) (Wi ip (Wi ip (d.toNat:Int)*256))) (Wi ip (f.toNat:Int))=((b.toNat*16777216+c.toNat*65536+d.toNat*256+f.toNat:Nat):Int):=by have g:=b.toNat_lt;have h:=c.toNat_lt;have i:=d.toNat_lt;have j:=f.toNat_lt;rw[aID,aID,aID,aID,show Wi ip ((b.toNat:Int)*16777216)=(b.toNat:Int)*16777216 by rw[yB];omega,show Wi ip ((c.toNat:Int)*65536)=(c.toNat:Int)*65536 by rw[yB];omega,show Wi ip ((d.toNat:Int)*256)=(d.toNat:Int)*256 by rw[yB];omega];exact aUL b c d f
theorem aTF{m:Nat}(b:m<4294967296):((Ot (m / 16777216)).toNat*16777216+(Ot (m / 65536)).toNat*65536+(Ot (m / 256)).toNat*256+(Ot m).toNat=m):=by simp only[aT];omega
theorem aPK{w:World}{q off n c:Nat}(m:Nat){rest:List UInt8}(G:m<4294967296)(h:BAt w q off ((Pt.num m).bytes++rest))(i:n=li ((Pt.num m).bytes++rest))(S:n<=c)(T:n<=1000000): Calls prog 104 #[si (some ⟨q,off,none⟩) n c] w (oW (.num m) q rest w):=by
 refine cA λQ I=>?_;obtain⟨k,z⟩:∃x,x=Ot (m / 16777216):=⟨_,rfl⟩;obtain⟨l,A⟩:∃x,x=Ot (m / 65536):=⟨_,rfl⟩;obtain⟨p,B⟩:∃x,x=Ot (m / 256):=⟨_,rfl⟩;obtain⟨r,C⟩:∃x,x=Ot m:=⟨_,rfl⟩;have D:(Pt.num m).bytes++rest=80::k::l::p::r::rest:=by rw[z,A,B,C];rfl
 have j:=aTE k l p r;rw[show k.toNat*16777216+l.toNat*65536+p.toNat*256+r.toNat=m by rw[z,A,B,C];exact aTF G]at j;rw[D]at h i;have s:w.cell? ⟨q,off,none⟩=some (ii ix 80):=h 0 80 rfl;obtain⟨t,u,v,y⟩:=h.tail.tail4;have E:=h.tail.tail.tail.tail.tail;simp only[bD]at i;have F:=lh (xF w _ s);have J:¬ c=1:=by omega
 have H:4<=n-1:=by omega
 obtain⟨f,d⟩:=nm (w.alloc (iy yU.toArray 107));have b:Fr [] w f:=by rw[d];exact(jj [] w).alloc _
 have g:Blk f w.heap.size 107 yU:=by rw[d];exact jl w _ yU
 have L:=aA b s;replace t:=aA b t;replace u:=aA b u;replace v:=aA b v;replace y:=aA b y;have⟨HF,HB,H5,O,HV⟩:=hh5 b g E i j;clear h i D s E b g G z A B C j;go_enter func104,ntmps104;go_upto_region 1 with fail;rw[show w.alloc (iy #[ii ip 0,ij false,ij false,sj { data:=#[] },ii ip 0,sj { data:=#[] },ii ip 0] 107)=f from d.symm];clear d;go_upto_region 17 with fail;have d:Fr [] f f.drew:=(jj [] f).drew;have s:=aA d t;have t:=aA d u;have u:=aA d v;have v:=aA d y;obtain⟨b,j⟩:∃b,n-1=b:=⟨_,rfl⟩;obtain⟨i,y⟩:∃i,c-1=i:=⟨_,rfl⟩;rw[j,y];rw[j]at H;have C:0<b:=by omega
 have D:(4:Int)<=(b:Int):=by omega
 have E:(0:Int)<(b:Int):=by omega
 have G:(1:Int)<(b:Int):=by omega
 have H:(2:Int)<(b:Int):=by omega
 have M:(3:Int)<(b:Int):=by omega
 obtain⟨j,N,y,z⟩:=(H5.o:BAt w q (off+1+1+1+1+1) rest)|> λh=>(show BAt w q (off+1+4) rest from h) |> λh=>((show ∃j,(if i=4 then some (⟨q,off+1,none⟩:Addr) else some ⟨q,off+1+4,none⟩)=some ⟨q,j,none⟩/\BAt w q j rest/\b-4=li rest from by
  by_cases b:i=4;·refine⟨off+1,by rw[iA b],λA B g=>?_,by have:=O.o;omega⟩;have:=(uC.1 g).1;have:=O.o;omega
  exact⟨off+1+4,by rw[eA b],h,by have:=O.o;omega⟩))
 refine aj (λb=>b.cell? ⟨q,off+1,none⟩=some (ii ix (k.toNat:Int))/\b.cell? ⟨q,off+1+1,none⟩=some (ii ix (l.toNat:Int))/\b.cell? ⟨q,off+1+2,none⟩=some (ii ix (p.toNat:Int))/\b.cell? ⟨q,off+1+3,none⟩=some (ii ix (r.toNat:Int))) [0,1,2,3,4,5,6,7,8,9,10,11,12,13,14,15,16,17,18,19,20,21,22,23,24] ?_;refine tks [0,1,2,3,4,5,6,7,8,9,10,11,12,13,14,15,16,17,18,19,20,21,22,23,24] ?_;iterate 25 (refine ac ⟨s,t,u,v⟩ ?_)
 refine tke ?_;rw[HV.o];have⟨Y,Z,HH,HL⟩:=hh4 (HB.o.fr d) (HF.o.trans d) ((y.fr HF.o).fr d) z;clear y z d;generalize f.drew=z at *;refine ah 25 λK hK=>pA 107 (.tmp 2) (.tmp 71) rfl (Pt.num m).vals rfl rfl Y.o (by rw[iF];exact qK) (by rw[iF];rfl) (zS (.num m)) λr l b y=>hK _ _ (λ_=>⟨yD b s ?_,yD b t ?_,yD b u ?_,yD b v ?_⟩) ?_;rotate_left;all_goals try (intro d;have f:q=w.heap.size:=xA.1 d;have k:=F.o;exact absurd k (by rw[f];exact fT _))
 simp only[Act.put];clear hK;have HB9:=lh l;have l:Fr [] w r:=Z.o.trans b λq d=>Ij (by rw[xA.1 d];exact tA _);have p:BAt r q j rest:=λA B g=>yD b (HH.o A B g) (λd=>by have f:q=w.heap.size:=xA.1 d;have k:=F.o;exact absurd k (by rw[f];exact fT _));have HX:=lh (I.o _ _ ⟨j,i-4,rfl,by have:=O.o;have:=HL.o;omega,p,l⟩);clear l p;refine af 26 (λh=>absurd h (by decide +kernel)) ?_;refine _root_.Go.Proofs.YtebjhcjbfaaejaaGreatDoor.wd ?_ _;exact Z50
end
end Go.Proofs.YtebjhcjbfaaejaaGreatDoor
