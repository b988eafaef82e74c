/-
  Joined: CatN CatO CcA CatP CatQ
-/
import Derived.Defers
import Derived.Test.YtebjhcjbfaaejaaGreatDoorJca25
set_option maxRecDepth 100000
set_option maxHeartbeats 32000000
namespace Go.Proofs.YtebjhcjbfaaejaaGreatDoor
open Go.Proofs.Tryz
variable {n k j:Nat}{T:TypeId}
section
open Go.RowKit Go.ChangeMaps Go.MapKept Go.Maps Go.Sort Go.Shelf
section
variable {w0 w w' : World} {dk g st ca : Nat} {x x' : SE} {X Y : Nat -> Prop}
theorem aQU(h:CtX w0 w dk g st ca x X){N:Nat}(b:rD N x.E)(i:N<=900000){c:Ct}(j:Rep x.E c)(what id:Int)(cs ts:ByteArray)(k:nmB (bA cs)=true):
  Calls prog 58 #[.pointer (some ⟨ca,0,none⟩),.agg #[.int .i64 what,.string cs,.int .i64 id,.string ts]] w (qI w0 dk g st ca x X (qZ x (bA cs) id (bA ts)) w):=by
 unfold qZ
 cases hi:idB id with
 | false=>rw[iA rfl];exact aPI h what id cs ts hi
 | true=>
  rw[eA (by decide),zA]
  by_cases f:65536<ts.size
  ·rw[iA f];exact aPJ h what id cs ts hi f
  ·rw[eA f]
   by_cases d:(cutS x (nB (bA cs) [id.toNat])).2=0
   ·rw[iA d];exact aQT h b i j what id cs ts k hi (by omega) d
   ·rw[eA d];exact aQS h b i j what id cs ts k hi (by omega) d
theorem aEc{s:Ky}(h:isS x s=true):nmB s=true:=by unfold isS at h;rw[tN]at h;exact h.1
theorem aPL(h:CtX w0 w dk g st ca x X){N:Nat}(b:rD N x.E)(f:N<=900000)(id:Int)(cs ts:ByteArray):
  Calls prog 34 #[.pointer (some ⟨ca,0,none⟩),.agg #[.int .i64 1,.string cs,.int .i64 id,.string ts]] w (qI w0 dk g st ca x X (kW x (bA cs)) w):=by
 refine gA fun R k=>?_;have c:Fr [] w (w.alloc (.cells #[.int .i64 1,.string cs,.int .i64 id,.string ts] 65)):=(Fr.refl [] w).alloc _;have d:=lh (aPE (h.stay c) b f 1 id cs ts);have i:=lh c;have H:=lh h;clear h b f c
 go_enter Go.Proofs.Tryz.func34,Go.Proofs.Tryz.ntmps34
 go_wp2_with fail;refine d.o.mono ?_;rintro e w1 ⟨rfl,h1,h2,h3⟩;have j:=lh (k.o _ _ ⟨rfl,h1,h2,(Kp.of i.o).more h3⟩);clear h1 h2 h3 d;go_wp2_with fail;exact j.o
theorem aQV(h:CtX w0 w dk g st ca x X)(what id:Int)(cs ts:ByteArray)(h1:what≠1)(h2:what≠2)(h3:what≠3)(b:what≠4):
  Calls prog 34 #[.pointer (some ⟨ca,0,none⟩),.agg #[.int .i64 what,.string cs,.int .i64 id,.string ts]] w (qI w0 dk g st ca x X (x,1) w):=by
 refine gA fun R c=>?_;have H:=lh h;have d:(what==1)=false:=by rw[eI];exact h1
 have f:(what==2)=false:=by rw[eI];exact h2
 have i:(what==3)=false:=by rw[eI];exact h3
 have j:(what==4)=false:=by rw[eI];exact b
 clear h h1 h2 h3 b
 go_enter Go.Proofs.Tryz.func34,Go.Proofs.Tryz.ntmps34
 go_wp2_with fail;exact c.o _ _ (qI.none H.o ((Fr.refl [] w).alloc _))
theorem aPM(h:CtX w0 w dk g st ca x X){N:Nat}(b:rD N x.E)(z:N<=900000){c:Ct}(A:Rep x.E c)(id:Int)(cs ts:ByteArray):
  Calls prog 34 #[.pointer (some ⟨ca,0,none⟩),.agg #[.int .i64 2,.string cs,.int .i64 id,.string ts]] w (qI w0 dk g st ca x X (if isS x (bA cs)=false then (x,6) else aDS x (bA cs)) w):=by
 refine gA fun R i=>?_;have n:Fr [] w (w.alloc (.cells #[.int .i64 2,.string cs,.int .i64 id,.string ts] 65)):=(Fr.refl [] w).alloc _;have p:Blk (w.alloc (.cells #[.int .i64 2,.string cs,.int .i64 id,.string ts] 65)) w.heap.size 65 [.int .i64 2,.string cs,.int .i64 id,.string ts]:=Blk.new w _ [.int .i64 2,.string cs,.int .i64 id,.string ts];have f:=lh (wU (h.stay n) (by have:=b.few 1;omega) cs);have B:=lh n;have H:=lh h;have q:=lh b;have G:=lh z;have I:=lh A;have J:=lh p;have C:∀y w,(callFunc 60 y).run prog w=.ok (.enter 60 y) w:=fun y w=>by kernel_rfl
 cases hi:isS x (bA cs) with
 | false=>
  have D:isC x cs=6:=by unfold isC;rw[hi];rfl
  rw[D]at f;rw[hi]at i;simp only[mH]at i;clear h b z A n p hi D C
  go_enter Go.Proofs.Tryz.func34,Go.Proofs.Tryz.ntmps34
  go_wp2_with fail;refine f.o.mono ?_;rintro e w1 ⟨rfl,d⟩;have r:=lh (i.o _ _ (qI.none H.o (B.o.trans d)));clear d;go_wp2_with fail;exact r.o
 | true=>
  have F:isC x cs=0:=by unfold isC;rw[hi];rfl
  rw[F]at f;have k:=aEc hi;rw[hi]at i;simp only[bQ,dE]at i;have s:=lh k;clear h b z A n p hi F k
  go_enter Go.Proofs.Tryz.func34,Go.Proofs.Tryz.ntmps34
  go_wp2_with fail;refine f.o.mono ?_;rintro e w1 ⟨rfl,d⟩;have l:=lh (B.o.trans d);have t:=lh (J.o.fr d);have m:=lh (aPF (H.o.stay l.o) q.o G.o I.o 2 id cs ts s.o);clear d f;go_upto_region 14 with fail
  refine fE ?_;refine rn rfl (by go_simp<;>with_reducible rfl) ?_;simp only[nrm];refine lp fun K hK=>?_;refine Go.wp_load_mid 65 (.tmp 3) rfl w.heap.size 0 rfl [.int .i64 2,.string cs,.int .i64 id,.string ts] _ (fun j u M=>by rw[cC];exact t.o.at_ M) Go.Proofs.Tryz.underlying65 rfl (by kernel_rfl) (hK _ _ ?_);simp only[nrm];clear hK;go_wp2_with fail;refine m.o.mono ?_;rintro e O ⟨rfl,h1,h2,h3⟩;have r:=lh (i.o _ _ ⟨rfl,h1,h2,(Kp.of l.o).more h3⟩);clear h1 h2 h3 m C;go_wp2_with fail;exact r.o
theorem aQW(h:CtX w0 w dk g st ca x X){N:Nat}(b:rD N x.E)(z:N<=900000){c:Ct}(A:Rep x.E c)(id:Int)(cs ts:ByteArray):
  Calls prog 34 #[.pointer (some ⟨ca,0,none⟩),.agg #[.int .i64 3,.string cs,.int .i64 id,.string ts]] w (qI w0 dk g st ca x X (if isS x (bA cs)=false then (x,6) else qZ x (bA cs) id (bA ts)) w):=by
 refine gA fun R i=>?_;have n:Fr [] w (w.alloc (.cells #[.int .i64 3,.string cs,.int .i64 id,.string ts] 65)):=(Fr.refl [] w).alloc _;have p:Blk (w.alloc (.cells #[.int .i64 3,.string cs,.int .i64 id,.string ts] 65)) w.heap.size 65 [.int .i64 3,.string cs,.int .i64 id,.string ts]:=Blk.new w _ [.int .i64 3,.string cs,.int .i64 id,.string ts];have f:=lh (wU (h.stay n) (by have:=b.few 1;omega) cs);have B:=lh n;have H:=lh h;have q:=lh b;have G:=lh z;have I:=lh A;have J:=lh p;have C:∀y w,(callFunc 58 y).run prog w=.ok (.enter 58 y) w:=fun y w=>by kernel_rfl
 cases hi:isS x (bA cs) with
 | false=>
  have D:isC x cs=6:=by unfold isC;rw[hi];rfl
  rw[D]at f;rw[hi]at i;simp only[mH]at i;clear h b z A n p hi D C
  go_enter Go.Proofs.Tryz.func34,Go.Proofs.Tryz.ntmps34
  go_wp2_with fail;refine f.o.mono ?_;rintro e w1 ⟨rfl,d⟩;have r:=lh (i.o _ _ (qI.none H.o (B.o.trans d)));clear d;go_wp2_with fail;exact r.o
 | true=>
  have F:isC x cs=0:=by unfold isC;rw[hi];rfl
  rw[F]at f;have k:=aEc hi;rw[hi]at i;simp only[bQ,dE]at i;have s:=lh k;clear h b z A n p hi F k
  go_enter Go.Proofs.Tryz.func34,Go.Proofs.Tryz.ntmps34
  go_wp2_with fail;refine f.o.mono ?_;rintro e w1 ⟨rfl,d⟩;have l:=lh (B.o.trans d);have t:=lh (J.o.fr d);have m:=lh (aQU (H.o.stay l.o) q.o G.o I.o 3 id cs ts s.o);clear d f;go_upto_region 14 with fail
  refine fE ?_;refine rn rfl (by go_simp<;>with_reducible rfl) ?_;simp only[nrm];refine lp fun K hK=>?_;refine Go.wp_load_mid 65 (.tmp 3) rfl w.heap.size 0 rfl [.int .i64 3,.string cs,.int .i64 id,.string ts] _ (fun j u M=>by rw[cC];exact t.o.at_ M) Go.Proofs.Tryz.underlying65 rfl (by kernel_rfl) (hK _ _ ?_);simp only[nrm];clear hK;go_wp2_with fail;refine m.o.mono ?_;rintro e O ⟨rfl,h1,h2,h3⟩;have r:=lh (i.o _ _ ⟨rfl,h1,h2,(Kp.of l.o).more h3⟩);clear h1 h2 h3 m C;go_wp2_with fail;exact r.o
theorem aPN(h:CtX w0 w dk g st ca x X){N:Nat}(b:rD N x.E)(z:N<=900000){c:Ct}(A:Rep x.E c)(id:Int)(cs ts:ByteArray):
  Calls prog 34 #[.pointer (some ⟨ca,0,none⟩),.agg #[.int .i64 4,.string cs,.int .i64 id,.string ts]] w (qI w0 dk g st ca x X (if isS x (bA cs)=false then (x,6) else jW x (bA cs) id) w):=by
 refine gA fun R i=>?_;have n:Fr [] w (w.alloc (.cells #[.int .i64 4,.string cs,.int .i64 id,.string ts] 65)):=(Fr.refl [] w).alloc _;have p:Blk (w.alloc (.cells #[.int .i64 4,.string cs,.int .i64 id,.string ts] 65)) w.heap.size 65 [.int .i64 4,.string cs,.int .i64 id,.string ts]:=Blk.new w _ [.int .i64 4,.string cs,.int .i64 id,.string ts];have f:=lh (wU (h.stay n) (by have:=b.few 1;omega) cs);have B:=lh n;have H:=lh h;have q:=lh b;have G:=lh z;have I:=lh A;have J:=lh p;have C:∀y w,(callFunc 61 y).run prog w=.ok (.enter 61 y) w:=fun y w=>by kernel_rfl
 cases hi:isS x (bA cs) with
 | false=>
  have D:isC x cs=6:=by unfold isC;rw[hi];rfl
  rw[D]at f;rw[hi]at i;simp only[mH]at i;clear h b z A n p hi D C
  go_enter Go.Proofs.Tryz.func34,Go.Proofs.Tryz.ntmps34
  go_wp2_with fail;refine f.o.mono ?_;rintro e w1 ⟨rfl,d⟩;have r:=lh (i.o _ _ (qI.none H.o (B.o.trans d)));clear d;go_wp2_with fail;exact r.o
 | true=>
  have F:isC x cs=0:=by unfold isC;rw[hi];rfl
  rw[F]at f;have k:=aEc hi;rw[hi]at i;simp only[bQ,dE]at i;have s:=lh k;clear h b z A n p hi F k
  go_enter Go.Proofs.Tryz.func34,Go.Proofs.Tryz.ntmps34
  go_wp2_with fail;refine f.o.mono ?_;rintro e w1 ⟨rfl,d⟩;have l:=lh (B.o.trans d);have t:=lh (J.o.fr d);have m:=lh (aPG (H.o.stay l.o) q.o G.o I.o 4 id cs ts s.o);clear d f;go_upto_region 14 with fail
  refine fE ?_;refine rn rfl (by go_simp<;>with_reducible rfl) ?_;simp only[nrm];refine lp fun K hK=>?_;refine Go.wp_load_mid 65 (.tmp 3) rfl w.heap.size 0 rfl [.int .i64 4,.string cs,.int .i64 id,.string ts] _ (fun j u M=>by rw[cC];exact t.o.at_ M) Go.Proofs.Tryz.underlying65 rfl (by kernel_rfl) (hK _ _ ?_);simp only[nrm];clear hK;go_wp2_with fail;refine m.o.mono ?_;rintro e O ⟨rfl,h1,h2,h3⟩;have r:=lh (i.o _ _ ⟨rfl,h1,h2,(Kp.of l.o).more h3⟩);clear h1 h2 h3 m C;go_wp2_with fail;exact r.o
theorem aQX(h:CtX w0 w dk g st ca x X){N:Nat}(b:rD N x.E)(d:N<=900000){c:Ct}(i:Rep x.E c)(what id:Int)(cs ts:ByteArray):
  Calls prog 34 #[.pointer (some ⟨ca,0,none⟩),.agg #[.int .i64 what,.string cs,.int .i64 id,.string ts]] w (qI w0 dk g st ca x X (oneS x ⟨what,bA cs,id,bA ts⟩) w):=by
 unfold oneS
 by_cases h1:what=1
 ·subst h1;rw[iA rfl];exact aPL h b d id cs ts
 ·rw[eA h1]
  by_cases h2:what=2
  ·subst h2;rw[iA (.inl rfl),iA rfl];exact aPM h b d i id cs ts
  ·by_cases h3:what=3
   ·subst h3;rw[iA (.inr (.inl rfl)),eA h2,iA rfl];exact aQW h b d i id cs ts
   ·by_cases f:what=4
    ·subst f;rw[iA (.inr (.inr rfl)),eA h2,eA h3];exact aPN h b d i id cs ts
    ·rw[eA (by rintro(h|h|h);exact h2 h;exact h3 h;exact f h)];exact aQV h what id cs ts h1 h2 h3 f
end
structure OpV where
 what:Int
 cs:ByteArray
 id:Int
 ts:ByteArray
def OpV.op (o:OpV):OpC:=⟨o.what,bA o.cs,o.id,bA o.ts⟩
def OpV.cells (o:OpV):List Value:=[.int .i64 o.what,.string o.cs,.int .i64 o.id,.string o.ts]
theorem aFo:∀(l:List OpC) (x:SE) (o:OpC),(allS x l).2=0->allS x (l++[o])=oneS (allS x l).1 o
 | [],x,o,_=>by
  show(if (oneS x o).2=0 then ((oneS x o).1,0) else oneS x o)=oneS x o
  split
  ·rename_i h
   rw[<- h]
  ·rfl
 | p::l,x,o,h=>by
  unfold allS at h;rw[zI]
  show(if (oneS x p).2=0 then allS (oneS x p).1 (l++[o]) else oneS x p)=_
  by_cases h1:(oneS x p).2=0
  ·rw[iA h1]at h;rw[iA h1,aFo l _ o h]
   conv=>rhs;unfold allS;rw[iA h1]
  ·rw[eA h1]at h;exact absurd h h1
theorem aFp:∀(l l2:List OpC) (x:SE),(allS x l).2≠0->allS x (l++l2)=allS x l
 | [],_,_,h=>absurd rfl h
 | p::l,l2,x,h=>by
  unfold allS at h⊢;rw[zI]
  by_cases h1:(oneS x p).2=0
  ·rw[iA h1]at h⊢
   show(if (oneS x p).2=0 then allS (oneS x p).1 (l++l2) else oneS x p)=_
   rw[iA h1,aFp l l2 _ h]
  ·show(if (oneS x p).2=0 then allS (oneS x p).1 (l++l2) else oneS x p)=_
   rw[eA h1,eA h1]
theorem aT{d:Func}{tmps:Array Value}{w:World}{k:Tmp}{b:Nat}{n:Int}(f:d.results=#[.cell k 27])(g:tmps.getD k undef=.pointer (some ⟨b,0,none⟩))(h:w.cell? ⟨b,0,none⟩=some (.int .i64 n)):(results d tmps).run prog w=.ok (.int .i64 n) w:=by
 have c:tmps[k]?.getD undef=.pointer (some ⟨b,0,none⟩):=by simpa using g
 simp[results,f,c,go_sem,h]
theorem zQ{S:List Nat}{w w':World}(h:Fr S w w'){p:Addr}{v:Value}(b:w.cell? p=some v)(c:p.block∉S):w'.cell? p=some v:=by
 rw[h.cell (cF w _ b) c];exact b
theorem aQY:(prog.info? 65).map (·.size)=some 4:=by kernel_rfl
theorem aQZ:(prog.info? 65).map (·.zero)=some (some (.agg #[.int .i64 0,.string ByteArray.empty,.int .i64 0,.string ByteArray.empty])):=by kernel_rfl
section
variable {w0 w w' : World} {dk g st ca : Nat} {x x' : SE} {X Y : Nat -> Prop}
theorem aNE{w:World}(c:w.cell? ⟨k,0,none⟩=some (.int .i64 0)):
  CallsD prog 32 #[.pointer (some ⟨k,0,none⟩),.pointer (some ⟨n,0,none⟩)] .returning w fun e b w'=>b=.returning/\(e=.returned (.tuple #[])/\w'=w):=by
 go_enter_d func32,ntmps32
 go_wp2_with fail;refine⟨rfl,.tuple #[],by simp[results,Tryz.results32],rfl,rfl⟩
theorem aIS{w:World}{s:PS}{n:Int}{v1:Value}(d:PgX w0 w dk g s X)(q:w.cell? ⟨j,0,none⟩=some (.int .i64 n))(h2:w.cell? ⟨k,0,none⟩=some (.pointer (some ⟨ca,0,none⟩)))(b:Blk w ca 79 [.pointer (some ⟨g,0,none⟩),v1])(f:n≠0):
  CallsD prog 32 #[.pointer (some ⟨j,0,none⟩),.pointer (some ⟨k,0,none⟩)] .returning w fun e p w'=>p=.returning/\(e=.returned (.tuple #[])/\PgX w0 w' dk g { s with late:=[] } X/\Kp X w w'):=by
 have c:=lh (aKk d);have c0:=b.at_ (i:=0) rfl;have h:(n==0)=false:=by rw[eI];exact f
 clear d b f
 go_enter_d func32,ntmps32
 go_wp2_with fail;refine c.o.mono ?_;rintro e w1 ⟨rfl,h1,h2⟩;have l:=lh h1;have m:=lh h2;clear h1 h2 c;go_wp2_with fail;refine⟨rfl,.tuple #[],by simp[results,Tryz.results32],rfl,l.o,m.o⟩
def aIT (w0:World) (dk g _st _ca:Nat) (x:SE) (X:Nat->Prop) (l:List OpC) (w:World) (e:Ending) (w':World):Prop:=
 e=.returned (.int .i64 (doS x l).2)/\Wr x.s (allS x l).1.s/\oI (allS x l).1.s.page x.s.n (allS x l).1.E/\PgX w0 w' dk g (doS x l).1.s X/\Kp X w w'
def DoRel (w0 wb:World) (dk g st ca b4:Nat) (x:SE) (Y:Nat->Prop) (L:List OpC) (j:Nat) (v12:Value) (wr:World):Prop:=
 ∃k:Nat,k+j=L.length/\v12=.int .i64 (k:Int)/\(allS x (L.take k)).2=0/\CtX w0 wr dk g st ca (allS x (L.take k)).1 Y/\Wr x.s (allS x (L.take k)).1.s/\Kp (fun q=>Y q/\q≠b4) wb wr/\Blk wr b4 27 [.int .i64 0]
theorem aHb(h:CtX w0 w dk g st ca x X){N:Nat}(a8:rD N x.E){c:Ct}(hR:Rep x.E c){L:List OpV}(hL:∀o∈L,OkO o.op)(hN:N+25*L.length<=900000)(a0:x.s.D.done+400000<1099511627776){v:Value}{go:Nat}(hv:iH w v L.length (L.map OpV.cells).flatten go)(e6:0<L.length->X go):
  Calls prog 13 #[.pointer (some ⟨ca,0,none⟩),v] w (aIT w0 dk g st ca x X (L.map OpV.op) w):=by
 refine gA fun R HQ=>?_;have g5:∀(fn:Fn) (first cap:Array Value) (w:World),(Instr.makeFunc fn first cap).run prog w=.ok (.func fn first cap) w:=fun _ _ _ _=>rfl;obtain⟨wb,V⟩:=nm ((w.alloc (.cells #[.pointer (some ⟨ca,0,none⟩)] 30)).alloc (.cells #[.int .i64 0] 27));have a1:Blk wb w.heap.size 30 [.pointer (some ⟨ca,0,none⟩)]:=by rw[V];exact(Blk.new w _ [.pointer (some ⟨ca,0,none⟩)]).alloc _
 have c4:Blk wb (w.heap.size+1) 27 [.int .i64 0]:=by
  rw[V];have:=Blk.new (w.alloc (.cells #[.pointer (some ⟨ca,0,none⟩)] 30)) 27 [.int .i64 0]
  rwa [show(w.alloc (.cells #[.pointer (some ⟨ca,0,none⟩)] 30)).heap.size=w.heap.size+1 by simp]at this
 have c5:Fr [] w wb:=by rw[V];exact((Fr.refl [] w).alloc _).alloc _
 obtain⟨A,cc,off,rfl,f9,W⟩:=hv;have H:=lh h;have e7:=lh a8;have HN:=lh hN;have e8:=lh hR;have HL:=lh hL;have e9:=lh a0;have c6:=lh a1;have c7:=lh c4;have J:=lh c5;have M:=lh W;have c8:=lh e6;have a5:(L.map OpV.op).length=L.length:=lI ..;have t:=lh a5;obtain⟨n,hn⟩:∃n,L.length=n:=⟨_,rfl⟩;rw[hn]at HN t M c8⊢;have e':=lh hn;have g6:n<=900000:=by have:=HN.o;omega
 clear h a8 hN hR hL a0 a1 c5 W e6 a5 hn f9
 go_enter_defers func13,ntmps13
 go_upto_region 4 with fail
 rw[<- V];clear V c4;go_wp2_with fail
 go_loopg [12] n (fun j v12 wr=>DoRel w0 wb dk g st ca (w.heap.size+1) x (kC X w wb) (L.map OpV.op) j v12 wr)
 case atStart=>exact⟨0,by rw[t.o];omega,rfl,rfl,H.o.fr J.o,Wr.refl _,Kp.of (Fr.refl _ _),c7.o⟩
 case round=>
  obtain⟨i,hi,rfl,h0,hc,hw,b9,b'⟩:=hrel;rw[t.o]at hi;have O:=lh hc;have HW:=lh hw;have a9:=lh b9;have H0:=lh h0;have c9:=lh b';have z4:=b'.free;have d0:=c6.o.lt;have g3:w.heap.size+2<=wb.heap.size:=by have:=c7.o.lt;omega
  have p2:=(b9.blk c6.o ⟨.inr ⟨tA _,d0⟩,by omega⟩).at_ (i:=0) rfl;clear hc hw b9 h0 b'
  by_cases g2:i<n
  ·obtain⟨o,ho⟩:∃o,L[i]? = some o:=gx (by rw[e'.o];exact g2);have C:=aFo ((L.map OpV.op).take i) x o.op H0.o;have a':(L.map OpV.op).take (i+1)=(L.map OpV.op).take i++[o.op]:=by rw[oM,zH,ho];rfl
   rw[<- a']at C;have g7:=lh a';have b0:=lh C
   have d1:=rD.allS ((L.map OpV.op).take i) e7.o (fun q d=>by
    obtain⟨p,hp,rfl⟩:=cI.1 (rO d);exact HL.o p hp)
   have f0:((L.map OpV.op).take i).length<=n:=by rw[jC,t.o];omega
   have b1:=lh d1;have f1:Hid (N+25*((L.map OpV.op).take i).length<=900000):=lh (by have:=HN.o;omega)
   have b2:Hid (∃c',Rep (allS x ((L.map OpV.op).take i)).1.E c'):=lh (by
    rcases aKQ c ((L.map OpV.op).take i) e8.o with ⟨a,b⟩|a
    ·exact⟨_,b (by rw[<- a];exact H0.o)⟩
    ·rw[H0.o]at a;cases a)
   obtain⟨y,hy⟩:∃y,(allS x ((L.map OpV.op).take i)).1=y:=⟨_,rfl⟩;rw[hy]at O HW b0 b1 b2;have g8:=lh hy;obtain⟨hA,d'⟩:=M.o (by omega);subst hA;have F:=c8.o (by omega);have f2:=H.o.lt _ F
   have a6:∀j u,o.cells[j]? = some u->wr.cell? ⟨go,off+i*4+j,none⟩=some u:=fun j u hu=>by
    have hj:j<4:=(tD.1 hu).1;have h1:=tU (k:=4) (L.map OpV.cells) (fun cs f'=>by obtain⟨p,_,rfl⟩:=cI.1 f';rfl) i o.cells (by rw[zH,ho];rfl) j hj;have h2:=d' (4*i+j) u (by rw[h1];exact hu);have h3:=aA J.o h2;have h4:=a9.o.cell h3 ⟨.inl F,by omega⟩
    rwa [show off+(4*i+j)=off+i*4+j by omega]at h4
   have f3:=lh a6;have g9:=lh F;clear C a' d1 f0 hy d' f2 F a6;have g':(i:Int)<(n:Int):=by omega
   go_upto_region 6 with fail
   refine fE ?_;refine rn rfl (by go_simp<;>with_reducible rfl) ?_;simp only[nrm];refine lp fun K hK=>?_;refine Go.wp_load_mid 65 (.tmp 14) rfl go (off+i*4) rfl o.cells _ f3.o Go.Proofs.Tryz.underlying65 rfl (by kernel_rfl) (hK _ _ ?_);simp only[nrm];clear hK;refine lp fun K hK=>?_;refine yB 65 rfl (.agg #[.int .i64 0,.string ByteArray.empty,.int .i64 0,.string ByteArray.empty]) [.int .i64 0,.string ByteArray.empty,.int .i64 0,.string ByteArray.empty] aQZ rfl fun wa c3 e4 g0=>hK _ _ ?_;simp only[nrm];clear hK;obtain⟨b6,c2⟩:=nm (wr.heap.size);rw[<- c2]at c3⊢;have f4:=lh c2;have f5:=lh e4;have f6:=lh c3;clear c2 e4 g0 c3;refine lp fun K hK=>?_;refine yA 65 (.tmp 6) (.tmp 15) rfl o.cells rfl rfl f6.o aQY rfl (by intro u hu;simp only[OpV.cells,kB,yG,aG]at hu;rcases hu with rfl|rfl|rfl|rfl<;>rfl) fun w4 a7 e5 g1=>hK _ _ ?_;simp only[Act.put];clear hK;have d2:=lh a7;have a2:Hid (Fr [] wr w4):=lh (f5.o.trans e5 fun q d=>.inr (by rw[aB.1 d,f4.o];exact tA _));clear a7 e5 g1;refine sE ?_;have q2:=aA a2.o p2;clear p2 z4;obtain⟨c',e0⟩:=b2.o;have P:=lh (aQX (O.o.stay a2.o) b1.o f1.o e0 o.what o.id o.cs o.ts);obtain⟨r,hr⟩:∃r,oneS y ⟨o.what,bA o.cs,o.id,bA o.ts⟩=r:=⟨_,rfl⟩;rw[hr]at P;have C:=b0.o;rw[show oneS y o.op=r from hr]at C;have Q:=lh C;clear hr C e0 b0 b2 b1;go_upto_region 7 with fail
   refine fE ?_;refine rn rfl (by go_simp<;>with_reducible rfl) ?_;simp only[nrm];refine lp fun K hK=>?_;refine Go.wp_load_mid 65 (.tmp 6) rfl b6 0 rfl o.cells _ (fun j u hu=>by rw[cC];exact d2.o.at_ hu) Go.Proofs.Tryz.underlying65 rfl (by kernel_rfl) (hK _ _ ?_);simp only[nrm];clear hK;go_wp2_with fail;refine P.o.mono ?_;rintro e w8 ⟨rfl,e1,e2,a4⟩;have a3:=lh (a4.blk (c9.o.fr a2.o) (.inr ⟨by omega,by omega⟩));have ze:=a3.o.free;have ce:=a3.o.at_ (i:=0) rfl;have q8:=a4.cell q2 (.inr ⟨tA _,by omega⟩);have d3:=lh e1;have b3:=lh (HW.o.trans e2);have d4:=lh (a9.o.more ((Kp.of a2.o).more (Kp.less a4 fun q d=>d.1)));clear e1 e2 a4 q2 P;obtain⟨r1,B⟩:=r
   by_cases m:B=0
   ·subst m;have l:Fr [w.heap.size+1] w8 (w8.setCell ⟨w.heap.size+1,0,none⟩ (.int .i64 0)):=(Fr.refl _ w8).setCell (.inl (by simp)) _;have S:=H.o.lt _ H.o.sx.xs;have T:=H.o.lt _ H.o.xc;have U:=lh (d3.o.other l (.inr ⟨by omega,by omega⟩) (by have:=H.o.frame.size;omega) (by omega) (by omega));have G:=lh (d4.o.more (Kp.new l fun d=>d.2 rfl));have z:=lh (a3.o.set_ 0 (.int .i64 0));clear l S T;go_wp2_with fail
    go_roundg (n-(i+1))
    case measure=>omega
    case rel=>exact⟨i+1,by rw[t.o];omega,rfl,by rw[Q.o],by rw[Q.o];exact U.o,by rw[Q.o];exact b3.o,G.o,z.o⟩
   ·have g4:(B==0)=false:=by rw[eI];exact m
    have l:Fr [w.heap.size+1] w8 ((w8.setCell ⟨w.heap.size+1,0,none⟩ (.int .i64 B)).setCell ⟨w.heap.size+1,0,none⟩ (.int .i64 B)):=((Fr.refl _ w8).setCell (.inl (by simp)) _).setCell (.inl (by simp)) _;have S:=H.o.lt _ H.o.sx.xs;have T:=H.o.lt _ H.o.xc;have U:=lh (d3.o.other l (.inr ⟨by omega,by omega⟩) (by have:=H.o.frame.size;omega) (by omega) (by omega));have G:=lh (d4.o.more (Kp.new l fun d=>d.2 rfl));have z:=lh ((a3.o.set_ 0 (.int .i64 B)).set_ 0 (.int .i64 B));have f7:=lh (aFp ((L.map OpV.op).take (i+1)) ((L.map OpV.op).drop (i+1)) x (by rw[Q.o];exact m));have b4:=lh (zQ l q8 (by simp));clear S T l;go_wp2_with fail;refine leaves_cons (f:=32) (args:=#[.pointer (some ⟨w.heap.size+1,0,none⟩),.pointer (some ⟨w.heap.size,0,none⟩)]) (by simp) (by simp[go_sem]) ?_;refine(aIS U.o.sx.px (z.o.at_ (i:=0) rfl) b4.o U.o.blk m).mono ?_;rintro e u' w' ⟨rfl,rfl,hp,hk⟩;have b5:=hk.blk z.o (.inr ⟨by omega,by omega⟩);have ha:allS x (L.map OpV.op)=(r1,B):=by rw[<- bN (i+1) (L.map OpV.op),f7.o,Q.o]
    have hd:doS x (L.map OpV.op)=(⟨{ r1.s with late:=[] },x.E⟩,B):=by unfold doS;rw[ha];exact iA m
    exact⟨.int .i64 B,aT rfl rfl (b5.at_ (i:=0) rfl),HQ.o _ _ ⟨by rw[hd],by rw[ha];exact b3.o,by rw[ha,<- b3.o.same.n];exact U.o.sx.store,by rw[hd];exact hp.weak fun q d=>.inl d,
     (Kp.of J.o).more ((Kp.less G.o fun q d=>⟨.inl d,by have:=H.o.lt q d;omega⟩).more (Kp.less hk fun q d=>.inl d))⟩⟩
  ·obtain rfl:i=n:=by omega
   rw[zF (by rw[t.o];exact tA _)]at H0 O HW;have d5:=lh (aOG O.o.sx.px (by rw[HW.o.same.D];exact e9.o));have c0:=O.o.blk.at_ (i:=0) rfl;go_wp2_with fail;refine d5.o.mono ?_;rintro e w1 ⟨rfl,e3,I⟩;have b7:=lh (I.blk c9.o (.inr ⟨by omega,by omega⟩));have z1:=b7.o.free;have ce:=b7.o.at_ (i:=0) rfl;have q1:=I.cell p2 (.inr ⟨tA _,by omega⟩);have d6:=I.blk O.o.blk O.o.xc;have a1:=I.blk O.o.sx.blk O.o.sx.xs;have S:=H.o.lt _ H.o.sx.xs;have T:=H.o.lt _ H.o.xc;obtain⟨B,Z⟩:∃B,(allS x (L.map OpV.op)).1.s.commit.2=B:=⟨_,rfl⟩;rw[Z];have l:Fr [w.heap.size+1] w1 (w1.setCell ⟨w.heap.size+1,0,none⟩ (.int .i64 B)):=(Fr.refl _ w1).setCell (.inl (by simp)) _;have d7:=lh (e3.other l (by intro q d;rw[aB.1 d];exact .inr ⟨by omega,by omega⟩) (by intro q d;rw[aB.1 d];have:=H.o.frame.size;omega));have G:=lh ((a9.o.more (Kp.less I fun q d=>d.1)).more (Kp.new l fun d=>d.2 rfl));have z:=lh (b7.o.set_ 0 (.int .i64 B));have b4:=lh (zQ l q1 (by simp));have f8:=lh (d6.fr l (by simp;omega));have d8:=lh O.o.sx.store;have b8:=lh Z;clear e3 I d6 a1 S T l Z p2 c0 d5 O;go_wp2_with fail;refine leaves_cons (f:=32) (args:=#[.pointer (some ⟨w.heap.size+1,0,none⟩),.pointer (some ⟨w.heap.size,0,none⟩)]) (by simp) (by simp[go_sem]) ?_;have d9:¬ (allS x (L.map OpV.op)).2≠0:=fun h=>h H0.o
   by_cases m:B=0
   ·have hd:doS x (L.map OpV.op)=(⟨(allS x (L.map OpV.op)).1.s.commit.1,(allS x (L.map OpV.op)).1.E⟩,0):=by unfold doS;rw[eA d9,eA (by rw[b8.o];exact fun h=>h m)]
    subst m;refine(aNE (z.o.at_ (i:=0) rfl)).mono ?_;rintro e u' w' ⟨rfl,rfl,rfl⟩
    exact⟨.int .i64 0,aT rfl rfl (z.o.at_ (i:=0) rfl),HQ.o _ _ ⟨by rw[hd],HW.o,by rw[<- HW.o.same.n];exact d8.o,by rw[hd];exact d7.o.weak fun q d=>.inl d,
     (Kp.of J.o).more (Kp.less G.o fun q d=>⟨.inl d,by have:=H.o.lt q d;omega⟩)⟩⟩
   ·have hd:doS x (L.map OpV.op)=(⟨{ (allS x (L.map OpV.op)).1.s.commit.1 with late:=[] },x.E⟩,B):=by unfold doS;rw[eA d9,iA (by rw[b8.o];exact m),b8.o]
    refine(aIS d7.o (z.o.at_ (i:=0) rfl) b4.o f8.o m).mono ?_;rintro e u' w' ⟨rfl,rfl,hp,hk⟩;have b5:=hk.blk z.o (.inr ⟨by omega,by omega⟩)
    exact⟨.int .i64 B,aT rfl rfl (b5.at_ (i:=0) rfl),HQ.o _ _ ⟨by rw[hd],HW.o,by rw[<- HW.o.same.n];exact d8.o,by rw[hd];exact hp.weak fun q d=>.inl d,
     (Kp.of J.o).more ((Kp.less G.o fun q d=>⟨.inl d,by have:=H.o.lt q d;omega⟩).more (Kp.less hk fun q d=>.inl d))⟩⟩
end
end
section
open Go.RowKit Go.ChangeShapes Go.WideShapes Go.Deep
def aMj (W:World) (v:Value) (L:List OpV):Prop:=
 ∃A c g off,v=.slice A L.length c/\L.length<=c/\L.length<=maxLen/\∀(j:Nat) (o:OpV),L[j]? = some o->A=some ⟨g,off,none⟩/\∀(i:Nat) (u:Value),o.cells[i]? = some u->W.cell? ⟨g,off+j*4+i,none⟩=some u
structure RdA where
 v:Value
 L:List OpV
 chk:Bool
structure RdA.at_ (W:World) (g off:Nat) (o:RdA):Prop where
 c0:W.cell? ⟨g,off,none⟩=some o.v
 c1:W.cell? ⟨g,off+1,none⟩=some (.bool o.chk)
 a:aMj W o.v o.L
def aLc (W:World) (v:Value) (l:List RdA):Prop:=
 ∃A c g off,v=.slice A l.length c/\l.length<=maxLen/\∀(j:Nat) (o:RdA),l[j]? = some o->A=some ⟨g,off,none⟩/\o.at_ W g (off+j*2)
theorem aMj.sl{W:World}{v:Value}{L:List OpV}(h:aMj W v L):∃g,iH W v L.length (L.map OpV.cells).flatten g/\(0<L.length->g<W.heap.size):=by
 obtain⟨A,c,g,off,rfl,q,_,b⟩:=h;refine⟨g,⟨A,c,off,rfl,q,fun h0=>?_⟩,fun h0=>?_⟩
 ·obtain⟨o,f⟩:=gx (l:=L) h0;refine⟨(b 0 o f).1,fun j u n=>?_⟩
  have d:(L.map OpV.cells).flatten.length=L.length*4:=by
   have:∀l:List OpV,(l.map OpV.cells).flatten.length=l.length*4:=fun l=>by
    induction l with
    | nil=>rfl
    | cons a l r=>rw[yJ,bR,lB,r,gD];show 4+_=_;omega
   exact this L
  have s:j<L.length*4:=by rw[<- d];exact(tD.1 n).1
  obtain⟨p,m⟩:∃p,L[j / 4]? = some p:=gx (by omega);have h1:=tU (k:=4) (L.map OpV.cells) (fun cs i=>by obtain⟨p,_,rfl⟩:=cI.1 i;rfl) (j / 4) p.cells (by rw[zH,m];rfl) (j%4) (by omega);rw[show 4*(j / 4)+j%4=j by omega,n]at h1;have h2:=(b (j / 4) p m).2 (j%4) u h1.symm
  rwa [show off+j / 4*4+j%4=off+j by omega]at h2
 ·obtain⟨o,f⟩:=gx (l:=L) h0;have:=cF W _ ((b 0 o f).2 0 (.int .i64 o.what) rfl);exact this
section
variable {H : Type} {enc : TypeId × Value -> H} {P : Program}
theorem aRZ{W:World}{t e ts:TypeId}{B F G I:Field}{v:Value}{x:DataW H×List MemPlace}(ht:P.underlying t=some (.slice e))(he:P.underlying e=some (.struct #[B,F,G,I]))
 (C:oneCellFields P #[B,F,G,I]=true)(hC:P.cellsOf e=4)(h0:B.type=T)(h1:F.type=ts)(h2:G.type=T)(h3:I.type=ts)
 (D:P.underlying T=some (.int .i64))(E:P.underlying ts=some .string)
 (h:DataW.trod enc P W 0 (fun _=>true) true n t [v]=some x):∃L,aMj W v L:=by
 obtain⟨A,len,cap,rfl,a0,a1,a2,V⟩:=vX ht he C hC h
 by_cases hz:len=0
 ·subst hz;exact⟨[],A,cap,0,0,rfl,rB _,by simp,fun j o U=>by simp at U⟩
 ·obtain⟨a,rfl,Q⟩:=V 0 (by omega);obtain⟨u,_,_,b,_⟩:=Q 0 B rfl;obtain⟨g,off,rfl⟩:=aHj (w:=W) (a:=a) (v:=u) (by simpa using b)
  obtain⟨l,hl,hp⟩:=aGf (p:=fun i (o:OpV)=>∀(k:Nat) (u:Value),o.cells[k]? = some u->W.cell? ⟨g,off+i*4+k,none⟩=some u) len (fun i hi=>by
   obtain⟨a',S,c⟩:=V i hi;obtain rfl:a'=⟨g,off,none⟩:=by injection S with S;exact S.symm
   obtain⟨u0,n0,y0,d,f⟩:=c 0 B rfl;obtain⟨u1,n1,y1,m,q⟩:=c 1 F rfl;obtain⟨u2,n2,y2,r,s⟩:=c 2 G rfl;obtain⟨u3,n3,y3,y,z⟩:=c 3 I rfl;rw[aNX]at d m r y;rw[h0]at f;rw[h1]at q;rw[h2]at s;rw[h3]at z;obtain⟨X,e0,_,w0⟩:=DataW.trod_int D f;obtain⟨Y,e1,_⟩:=DataW.trod_string E q;obtain⟨Z,e2,_,w2⟩:=DataW.trod_int D s;obtain⟨z3,e3,_⟩:=DataW.trod_string E z;have J:u0=.int .i64 X:=by simpa using e0
   have M:u1=.string Y:=by simpa using e1
   have N:u2=.int .i64 Z:=by simpa using e2
   have O:u3=.string z3:=by simpa using e3
   subst J;subst M;subst N;subst O;refine⟨⟨X,Y,Z,z3⟩,fun k u b=>?_⟩
   match k,b with
   | 0,b=>obtain rfl:=fG b;simpa using d
   | 1,b=>obtain rfl:=fG b;simpa[rT]using m
   | 2,b=>obtain rfl:=fG b;simpa[rT]using r
   | 3,b=>obtain rfl:=fG b;simpa[rT]using y
   | k+4,b=>simp[OpV.cells]at b)
  exact⟨l,some ⟨g,off,none⟩,cap,g,off,by rw[hl],by omega,by omega,fun j o U=>⟨rfl,hp j o U⟩⟩
theorem aRa{W:World}{t e D E ts tk:TypeId}{q s g0 F G I:Field}{v:Value}{x:DataW H×List MemPlace}(ht:P.underlying t=some (.slice e))(he:P.underlying e=some (.struct #[q,s]))
 (r:oneCellFields P #[q,s]=true)(hC:P.cellsOf e=2)(h0:q.type=T)(h1:s.type=tk)(J:P.underlying T=some (.slice D))(M:P.underlying D=some (.struct #[g0,F,G,I]))
 (b:oneCellFields P #[g0,F,G,I]=true)(N:P.cellsOf D=4)(k0:g0.type=E)(k1:F.type=ts)(k2:G.type=E)(k3:I.type=ts)
 (O:P.underlying E=some (.int .i64))(Q:P.underlying ts=some .string)(S:P.underlying tk=some .bool)
 (h:DataW.trod enc P W 0 (fun _=>true) true n t [v]=some x):∃l,aLc W v l:=by
 obtain⟨A,len,cap,rfl,X,Y,Z,U⟩:=vX ht he r hC h
 by_cases hz:len=0
 ·subst hz;exact⟨[],A,cap,0,0,rfl,by simp,fun j o C=>by simp at C⟩
 ·obtain⟨a,rfl,z⟩:=U 0 (by omega);obtain⟨u,_,_,hu,_⟩:=z 0 q rfl;obtain⟨g,off,rfl⟩:=aHj (w:=W) (a:=a) (v:=u) (by simpa using hu)
  obtain⟨l,hl,hp⟩:=aGf (p:=fun i (o:RdA)=>o.at_ W g (off+i*2)) len (fun i hi=>by
   obtain⟨a',B,c⟩:=U i hi;obtain rfl:a'=⟨g,off,none⟩:=by injection B with B;exact B.symm
   obtain⟨u0,n0,y0,d,f⟩:=c 0 q rfl;obtain⟨u1,n1,y1,k,m⟩:=c 1 s rfl;rw[aNX]at d k;rw[h0]at f;rw[h1]at m;obtain⟨L,hL⟩:=aRZ J M b N k0 k1 k2 k3 O Q f;obtain⟨V,e1,_⟩:=DataW.trod_bool S m;have y:u1=.bool V:=by simpa using e1
   subst y;exact⟨⟨u0,L,V⟩,by simpa using d,by simpa[rT]using k,hL⟩)
  exact⟨l,some ⟨g,off,none⟩,cap,g,off,by rw[hl],by omega,fun j o C=>⟨rfl,hp j o C⟩⟩
end
end
section
open Go.RowKit Go.ChangeMaps Go.MapKept Go.Maps Go.Sort Go.Shelf
def aHc (r:List UInt8×Bool×Int) (w:World) (e:Ending) (w':World):Prop:=
 e=.returned (.tuple #[.string ⟨r.1.toArray⟩,.bool r.2.1,.int .i64 r.2.2])/\Fr [] w w'
section
variable {w0 w w' : World} {dk g st ca : Nat} {x x' : SE} {X Y : Nat -> Prop}
def GtRel (_w wb:World) (L:En) (j:Nat) (v12 v42:Value) (wr:World):Prop:=
 ∃k:Nat,k+j=L.length/\v42=.int .i64 (k:Int)/\Buf wr wb.heap.size v12 ((L.take k).flatMap (·.2))/\Fr [] wb wr
theorem aIU(h:CtX w0 w dk g st ca x X){N:Nat}(c:rD N x.E)(p:N<=900000)(cs:ByteArray)(id:Int)(l:isS x (bA cs)=false∨idB id=false):
  Calls prog 23 #[.pointer (some ⟨ca,0,none⟩),.string cs,.int .i64 id] w (aHc ([],false,isC x cs) w):=by
 refine gA fun R j=>?_;have d:=lh (wU h (by have:=c.few 1;omega) cs);have f:=lh (fun W:World=>kI (w:=W) id)
 cases hi:isS x (bA cs) with
 | false=>
  have m:isC x cs=6:=by unfold isC;rw[hi];rfl
  rw[m]at d j;clear h c p hi m l
  go_enter func23,ntmps23
  go_wp2_with fail;refine d.o.mono ?_;rintro e w1 ⟨rfl,b⟩;have k:=lh (j.o _ _ ⟨rfl,b⟩);clear b;go_wp2_with fail;exact eF (by simp[results,Tryz.results23,go_sem]) rfl k.o
 | true=>
  have n:isC x cs=0:=by unfold isC;rw[hi];rfl
  rw[n]at d j
  have i:idB id=false:=by
   rcases l with h|h
   ·rw[hi]at h;cases h
   ·exact h
  rw[i]at f;clear h c p hi n l i
  go_enter func23,ntmps23
  go_wp2_with fail;refine d.o.mono ?_;rintro e w1 ⟨rfl,b⟩;have k:=lh (j.o _ _ ⟨rfl,b⟩);clear b;go_wp2_with fail;refine(f.o _).mono ?_;rintro e q ⟨rfl,rfl⟩;go_wp2_with fail;exact eF (by simp[results,Tryz.results23,go_sem]) rfl k.o
theorem aPO(h:CtX w0 w dk g st ca x X){N:Nat}(l:rD N x.E)(hN:N<=900000)(cs:ByteArray)(id:Int)(I:isS x (bA cs)=true)(s:idB id=true)(hV:((rC (x.E 0) (nB (bA cs) [id.toNat])).flatMap (·.2)).length<=65536):
  Calls prog 23 #[.pointer (some ⟨ca,0,none⟩),.string cs,.int .i64 id] w (aHc ((rC (x.E 0) (nB (bA cs) [id.toNat])).flatMap (·.2),!(rC (x.E 0) (nB (bA cs) [id.toNat])).isEmpty,0) w):=by
 refine gA fun R HQ=>?_;have S:=lh (wU h (by have:=l.few 1;omega) cs);have T:=lh (fun W:World=>kI (w:=W) id);have e0:isC x cs=0:=by unfold isC;rw[I];rfl
 rw[e0]at S;rw[s]at T;have J:=aEc I;have hz:=uF J;have U:=zA cs;have H:=lh h;have HN:=lh hN;have y:=lh l;have V:=lh (fun W=>sZ W id s);have Z:=mL.1 s;obtain⟨M,d⟩:∃K,nB (bA cs) [id.toNat]=K:=⟨_,rfl⟩;rw[d]at HQ
 have a0:Hid (∀(W:World),Calls prog 45 #[.string cs,.slice (some ⟨W.heap.size,0,none⟩) 1 1] (W.alloc (.cells #[.int .i64 id] 3)) fun e w'=>∃v',e=.returned v'/\(∃q,cA w' v' M q/\W.heap.size+1<=q)/\Fr [] (W.alloc (.cells #[.int .i64 id] 3)) w'):=lh fun W=>by
  have:=rN (w:=W.alloc (.cells #[.int .i64 id] 3)) cs [id.toNat] hz.1 (by omega) (by simp;omega) (by simp) (V.o W);rw[d,xC]at this;exact this
 have a1:M.length<=96/\1<=M.length:=by rw[<- d,sH];simp;omega
 have a2:=lh a1;have c9:Hid (aft M≠[]):=lh (by rw[<- d];exact pV _ _);rw[d]at hV;have HV:=lh hV;clear h l hN I s e0 J hz U Z d a1 V hV
 go_enter func23,ntmps23
 go_wp2_with fail;refine S.o.mono ?_;rintro e w1 ⟨rfl,b5⟩;have a3:=lh b5;clear b5;go_wp2_with fail;refine(T.o _).mono ?_;rintro e w2 ⟨rfl,rfl⟩;go_wp2_with fail;have a4:Fr [] w1 (w1.alloc (.cells #[.int .i64 id] 3)):=(Fr.refl [] w1).alloc _;have a5:=lh (a3.o.trans a4);clear a4;refine(a0.o w1).mono ?_;rintro e w3 ⟨vk,rfl,⟨q,hk,hq⟩,b6⟩;have a6:=lh (a5.o.trans b6);have a7:=vE hk (by have:=a2.o;omega);have a8:=lh (aAX (H.o.fr a6.o) (y.o.rise 0) (by have:=y.o.few 0;have:=HN.o;omega) hk (.inr ⟨by have:=a3.o.size;omega,a7⟩) c9.o (by have:=a2.o;omega));clear hk hq b6 a7 a0 a5;go_wp2_with fail;refine a8.o.mono ?_;obtain⟨L,hL⟩:∃L,rC (x.E 0) M=L:=⟨_,rfl⟩
 have a9:Hid (L.length<=900000):=lh (by
  have h1:=y.o.few 0;have h2:(rC (x.E 0) M).length<=(x.E 0).length:=yW ..;have:=HN.o;rw[<- hL];omega)
 rw[hL];rw[hL]at HQ HV;rintro e wb ⟨ov,cl,rfl,ho,O,b7⟩;clear hL a8;obtain⟨Ao,co,rfl,_,_⟩:=sA ho;have HO:=lh ho;have HE:=lh O;have c':=lh (a6.o.trans b7);clear ho O b7;obtain⟨n,J⟩:∃n,L.length=n:=⟨_,rfl⟩;rw[J]at HO a9⊢;have c:=lh J;clear J;go_wp2_with fail
 go_loopg [12,42] n (fun j v12 v42 wr=>GtRel w wb L j v12 v42 wr)
 case atStart=>exact⟨0,by rw[c.o];omega,rfl,vF _ _ _ _,Fr.refl _ _⟩
 case round=>
  obtain⟨i,hi,rfl,hb,hf⟩:=hrel;rw[c.o]at hi;have HB:=lh hb;have z:=lh hf;clear hb hf
  by_cases e2:i<n
  ·obtain⟨e,O⟩:∃e,L[i]? = some e:=gx (by rw[c.o];exact e2);have p:(L.take (i+1)).flatMap (·.2)=(L.take i).flatMap (·.2)++e.2:=by rw[oM,O,qP];simp
   have A:((L.take (i+1)).flatMap (·.2)).length<=65536:=by
    have h1:(L.flatMap (·.2)).length=((L.take (i+1)).flatMap (·.2)).length+((L.drop (i+1)).flatMap (·.2)).length:=by
     rw[<- lB,<- qP,bN]
    have:=HV.o;omega
   rw[p,lB]at A;obtain⟨Q,k⟩:∃Q,(L.take i).flatMap (·.2)=Q:=⟨_,rfl⟩;rw[k]at HB p A;have d0:=lh p;obtain⟨go,rfl,b⟩:=tE HO.o (by omega);obtain⟨k1,v1,b8,b',⟨q1,c3,d9⟩,⟨q2,C,d'⟩⟩:=lG.at_ HE.o O;have ck:=aA z.o (b _ _ b8);have cv:=aA z.o (b _ _ b');have d1:=lh (C.fr z.o);obtain⟨A1,c1,_,rfl,_,_⟩:=_root_.id c3;obtain⟨A2,c2,_,rfl,_,_⟩:=_root_.id C
   have d2:Hid (wr.rangeAt go (i*2) [.slice A1 e.1.length c1,.slice A2 e.2.length c2]):=lh (by
    intro j u m
    match j,m with
    | 0,m=>obtain rfl:=fG m;exact ck
    | 1,m=>obtain rfl:=fG m;exact cv
    | j+2,m=>simp at m)
   have e3:(i:Int)<(n:Int):=by omega
   have a':Hid (Q.length<=1048576):=lh (by omega);have b0:Hid (e.2.length<=1048576):=lh (by omega);clear b b8 b' c3 d9 C d' ck cv O p A k;go_upto_region 12 with fail
   refine fE ?_;refine rn rfl (by go_simp<;>with_reducible rfl) ?_;simp only[nrm];refine lp fun K hK=>?_;refine Go.wp_load_mid 100 (.tmp 44) rfl go (i*2) rfl [.slice A1 e.1.length c1,.slice A2 e.2.length c2] _ d2.o Go.Proofs.Tryz.underlying100 rfl (by kernel_rfl) (hK _ _ ?_);simp only[nrm];clear hK;refine lp fun K hK=>?_;refine yB 100 rfl (.agg #[.slice none 0 0,.slice none 0 0]) [.slice none 0 0,.slice none 0 0] xS rfl fun wa F c5 c6=>hK _ _ ?_;simp only[nrm];clear hK;obtain⟨b9,D⟩:=nm (wr.heap.size);rw[<- D]at F⊢;have d3:=lh D;have d4:=lh c5;have e4:=lh c6;have d5:=lh F;clear D c5 c6 F;refine lp fun K hK=>?_;refine yA 100 (.tmp 14) (.tmp 45) rfl [.slice A1 e.1.length c1,.slice A2 e.2.length c2] rfl rfl d5.o vS rfl (by intro u m;simp only[kB,yG,aG]at m;rcases m with rfl|rfl<;>rfl) fun w4 c7 c8 e1=>hK _ _ ?_;simp only[Act.put];clear hK;have d6:=lh c7;have r:Hid (Fr [] wr w4):=lh (d4.o.trans c8 fun q hq=>.inr (by rw[aB.1 hq,d3.o];exact tA _));clear c7 c8 e1;refine sE ?_;have b1:=d6.o.at_ (i:=1) rfl;have B:=lh (HB.o.fr r.o);obtain⟨Av,cv,rfl⟩:=B.o.shape;have t:wb.heap.size<=w4.heap.size:=aF z.o.size r.o.size;have d7:=lh t;clear t;go_upto_region 13 with fail
   refine fE ?_
   iterate 3 (refine rn rfl (by go_simp<;>with_reducible rfl) ?_;simp only[nrm])
   refine lp fun K hK=>?_;refine yF (.tmp 46) (.tmp 48) rfl rfl B.o d7.o (d1.o.fr r.o) a'.o b0.o fun v7 w7 G=>hK _ _ ?_;simp only[nrm];clear hK;refine rn rfl (by go_simp<;>with_reducible rfl) ?_;simp only[nrm];refine sE ?_;have b2:=lh G.buf;rw[<- d0.o]at b2;have d8:=lh (G.fr0 B.o (tA _) (z.o.trans r.o));clear G b1;have e5:IntKind.i64.wrap ((i:Int)+1)=((i+1:Nat):Int):=by have:=a9.o;rw[iD];omega
   go_wp2_with fail
   go_roundg (n-(i+1))
   case measure=>omega
   case rel=>exact⟨i+1,by rw[c.o];omega,rfl,b2.o,d8.o⟩
  ·obtain rfl:i=n:=by omega
   have f:=HB.o;rw[zF (by rw[c.o];exact tA _)]at f;obtain⟨Q,k⟩:∃Q,L.flatMap (·.2)=Q:=⟨_,rfl⟩;rw[k]at f HQ;clear k;have b3:=z.o.size;obtain⟨q,c4,_⟩:=qV rfl f b3;have e6:=eM (P:=prog) (w:=wr) (src:=67) (e:=5) (dst:=9) Go.Proofs.Tryz.underlying67 Go.Proofs.Tryz.underlying5 Go.Proofs.Tryz.underlying9 c4
   have b4:(!L.isEmpty)=decide (0<(i:Int)):=by
    rw[<- c.o]
    cases L<;>simp<;>omega
   have HX:=lh (HQ.o _ _ ⟨rfl,c'.o.trans z.o⟩);rw[b4]at HX;obtain⟨Av,cv,rfl⟩:=f.shape;clear f b3 c4 b4;go_wp2_with fail;exact eF (by simp[results,Tryz.results23,go_sem]) rfl HX.o
end
end
section
open Go.RowKit Go.Shelf
def BAt (w:World) (q off:Nat) (bs:List UInt8):Prop:=∀(i:Nat) (b:UInt8),bs[i]? = some b->w.cell? ⟨q,off+i,none⟩=some (.int .u8 (b.toNat:Int))
theorem BAt.fr{w w':World}{q off:Nat}{bs:List UInt8}(h:BAt w q off bs)(d:Fr [] w w'):BAt w' q off bs:=fun i b c=>aA d (h i b c)
theorem BAt.drop{w:World}{q off:Nat}{bs:List UInt8}(h:BAt w q off bs){k c:Nat}(g:k<=bs.length)(j:bs.length<=c):
  ∃off',(if c=k then some (⟨q,off,none⟩:Addr) else (some (⟨q,off,none⟩:Addr)).map (·.add k))=some ⟨q,off',none⟩/\BAt w q off' (bs.drop k)/\bs.length-k=(bs.drop k).length:=by
 by_cases f:c=k
 ·refine⟨off,by rw[iA f],fun i b d=>?_,by rw[mC]⟩;rw[nP (by omega)]at d
  cases d
 ·refine⟨off+k,by rw[eA f,yP,Go.Addr.add_mid],fun i b d=>?_,by rw[mC]⟩;rw[xJ]at d;rw[show off+k+i=off+(k+i) by omega];exact h _ _ d
theorem BAt.tail{w:World}{q off:Nat}{x:UInt8}{bs:List UInt8}(h:BAt w q off (x::bs)):BAt w q (off+1) bs:=fun i b c=>by
 have:=h (i+1) b (by simpa using c)
 rwa [show off+(i+1)=off+1+i by omega]at this
theorem BAt.of{w:World}{A:Option Addr}{n c q:Nat}{bs:List UInt8}(h:cA w (.slice A n c) bs q)(h0:0<bs.length):∃off,A=some ⟨q,off,none⟩/\n=bs.length/\bs.length<=c/\BAt w q off bs:=by
 obtain⟨off,h1,h2⟩:=cA.get h h0;obtain⟨g,c',b,d,i,_⟩:=h;injection d with _ f j;exact⟨off,h1,f,by omega,h2⟩
theorem aIV:∀(s r:List UInt8),NoZ s->Lib.indexByte (s++0::r) 0=(s.length:Int)
 | [],_,_=>rfl
 | b::s,r,h=>by
  have d:(b==0)=false:=by rw[eI];exact h b (sB ..)
  have f:=aIV s r fun c g=>h c (uC _ g);rw[zI];unfold Lib.indexByte;rw[eA (by rw[d];decide),f,eA (by simp),gD];omega
theorem aHd(bs:List UInt8):Lib.bytesOf (bs.map fun c=>(c.toNat:Int))=bs:=by
 unfold Lib.bytesOf;rw[List.map_map]
 conv=>rhs;rw[<- List.map_id bs]
 apply List.map_congr_left
 intro x _
 simp
theorem aRb{w:World}{q off c:Nat}{s r:List UInt8}(h:BAt w q off (s++0::r))(j:NoZ s){n:Nat}(d:n=(s++0::r).length):
  Calls prog 175 #[.slice (some ⟨q,off,none⟩) n c,.int .u8 0] w fun e w'=>e=.returned (.int .i64 (s.length:Int))/\w=w':=by
 have b:=Lib.run_indexByteSlice (P:=prog) (w:=w) q off n c ((s++0::r).map fun c=>(c.toNat:Int)) (by rw[lI,d]) (fun i hi=>by
  have h1:=h i ((s++0::r)[i]'(by omega)) (xD _);rw[h1,wP,zH,xD (by omega)]
  rfl) 0
 rw[aHd,show(0:Int).toNat.toUInt8=0 from rfl,aIV s r j]at b;have f:=lh b;clear b h d;refine gA fun R g=>?_
 go_enter func175,ntmps175
 go_wp2_with fail;rw[Go.run_callFunc_extern func197 (by kernel_rfl) (by kernel_rfl) (by kernel_rfl) (e:=Extern.BytealgIndexByte.indexByte) (by kernel_rfl),f.o];simp only[Result.andThen];rw[Oper.upon_value];go_wp2_with fail;exact g.o _ _ ⟨rfl,rfl⟩
def zU (p:Pt) (q:Nat) (rest:List UInt8) (w:World) (e:Ending) (w':World):Prop:=
 ∃off' c',e=.returned (.tuple #[.agg p.vals.toArray,.slice (some ⟨q,off',none⟩) rest.length c'])/\rest.length<=c'/\BAt w' q off' rest/\Fr [] w w'
theorem aPP{w:World}{q off n c:Nat}(s:ByteArray){rest:List UInt8}(hz:NoZ (bA s))(h:BAt w q off (bA s++0::0::rest))(G:n=(bA s++0::0::rest).length)(hc:n<=c)(a4:n<=1000000):
  Calls prog 137 #[.slice (some ⟨q,off,none⟩) n c] w (zU (.str s) q rest w):=by
 refine gA fun R HQ=>?_;obtain⟨m,I⟩:∃m,(bA s).length=m:=⟨_,rfl⟩;have t:n=m+2+rest.length:=by rw[G];simp;omega
 have x:=lh (fun(W:World) (r:Fr [] w W)=>aRb (c:=c) (h.fr r) hz G);rw[I]at x
 have Y:(bA s++0::0::rest)[m+1]? = some 0:=by
  rw[dK (by omega),show m+1-(bA s).length=1 by omega]
  rfl
 obtain⟨l,h1,h2,h3⟩:=h.drop (k:=m+2) (c:=c) (by rw[<- G];omega) (by rw[<- G];exact hc)
 have y:(bA s++0::0::rest).drop (m+2)=rest:=by
  rw[List.drop_append,nP (by omega),show m+2-(bA s).length=2 by omega]
  rfl
 rw[y]at h2 h3;have J:Hid ((if c=m+2 then some (⟨q,off,none⟩:Addr) else some ⟨q,off+(m+2),none⟩)=some ⟨q,l,none⟩):=lh (by rw[<- h1,yP,Go.Addr.add_mid]);have M:Hid (n-(m+2)=rest.length):=lh (by omega);have c1:=h (m+1) 0 Y;obtain⟨E,i⟩:=nm (w.alloc (.cells mT.toArray 107));have r:Fr [] w E:=by rw[i];exact(Fr.refl [] w).alloc _
 have z:Blk E w.heap.size 107 mT:=by rw[i];exact Blk.new w _ mT
 have A:=x.o E r;have B:=aA r c1;have H2:=lh h2
 have N:Hid (cA w (.slice (some ⟨q,off,none⟩) m c) (bA s) q):=lh ⟨_,c,off,by rw[I],by omega,fun _=>⟨rfl,fun j u hu=>by
  rw[uG,Option.map_eq_some_iff]at hu;obtain⟨b,z,rfl⟩:=hu;exact h j b (by rw[kM (tD.1 z).1];exact z)⟩⟩
 have Z:=lh r;have HB:=lh z;have HM:=lh I;have p:=lh t;have a0:m<=1000000:=by omega
 have C:rest.length<=c-(m+2):=by omega
 have O:=lh C;clear h G hz Y h1 h2 h3 y r z x I c1 C t
 go_enter func137,ntmps137
 go_upto_region 1 with fail
 rw[show w.alloc (.cells #[.int .i64 0,.bool false,.bool false,.string { data:=#[] },.int .i64 0,.string { data:=#[] },.int .i64 0] 107)=E from i.symm];clear i;go_wp2_with fail
 go_loopg [0,4] 0 (fun j v0 v4 wr=>v0=.slice (some ⟨q,off,none⟩) n c/\v4=.slice none 0 0/\wr=E)
 case atStart=>exact⟨rfl,rfl,rfl⟩
 case round=>
  obtain⟨rfl,rfl,rfl⟩:=hrel;go_wp2_with fail;refine A.mono ?_;rintro e w1 ⟨rfl,rfl⟩;clear A;have d1:decide ((n:Int)<=(m:Int)+1)=false:=by rw[qK];have:=p.o;omega
  have a1:m<=c:=by have:=p.o;omega
  go_upto_region 5 with fail
  refine fE ?_
  iterate 4 (refine rn rfl (by go_simp<;>with_reducible rfl) ?_;simp only[nrm])
  refine lp fun K hK=>?_;refine yF (.tmp 19) (.tmp 22) rfl (H:=wr.heap.size) (v:=.slice none 0 0) (bs:=[]) rfl (vF _ _ _ _) (tA _) (N.o.fr Z.o) (by simp) (by rw[HM.o];omega) fun v7 w7 g=>hK _ _ ?_;simp only[nrm];clear hK;refine rn rfl (by go_simp<;>with_reducible rfl) ?_;simp only[nrm];refine sE ?_;have d:Fr [] wr w7:=g.fr;rw[eH]at g;obtain⟨q7,F,_⟩:=qV rfl g.buf d.size;have Q:=eM (P:=prog) (w:=w7) (src:=67) (e:=5) (dst:=9) Go.Proofs.Tryz.underlying67 Go.Proofs.Tryz.underlying5 Go.Proofs.Tryz.underlying9 F;obtain⟨Av,cv,rfl⟩:=g.buf.shape;have D:(⟨(bA s).toArray⟩:ByteArray)=s:=rfl;rw[D]at Q;have c7:=aA d B;have S:=lh (HB.o.fr d);have T:=lh (Z.o.trans d);clear g F D d B d1;have x1:IntKind.i64.wrap ((m:Int)+1)=((m+1:Nat):Int):=by rw[iD];omega
  have x2:IntKind.i64.wrap ((m:Int)+2)=((m+2:Nat):Int):=by rw[iD];omega
  have a2:((m+1:Nat):Int)<(n:Int):=by have:=p.o;omega
  go_upto_region 11 with fail
  rw[J.o,M.o];refine fE ?_
  iterate 4 (refine rn rfl (by go_simp<;>with_reducible rfl) ?_;simp only[nrm])
  refine lp fun K hK=>?_;refine yA 107 (.tmp 2) (.tmp 39) rfl (Pt.str s).vals rfl rfl S.o (by rw[nE];exact qJ) (by rw[nE];rfl) (xQ (.str s)) fun w9 V X a3=>hK _ _ ?_;simp only[Act.put];clear hK;refine rn rfl (by go_simp<;>with_reducible rfl) ?_;simp only[nrm];refine sE ?_;have U:=lh V;have f:Fr [] w w9:=T.o.trans X fun q hq=>.inr (by rw[aB.1 hq];exact tA _);have x:=lh (HQ.o _ _ ⟨l,c-(m+2),rfl,O.o,H2.o.fr f,f⟩);clear f;go_wp2_with fail;exact eF (mJ rfl rfl U.o Go.Proofs.Tryz.underlying107 rfl (by kernel_rfl)) rfl x.o
theorem aIW(b:Array Value)(w:World):(callFunc 137 b).run prog w=.ok (.enter 137 b) w:=by kernel_rfl
theorem aNF{w:World}{q off n c:Nat}(s:ByteArray){rest:List UInt8}(M:NoZ (bA s))(h:BAt w q off ((Pt.str s).bytes++rest))(I:n=((Pt.str s).bytes++rest).length)(Y:n<=c)(X:n<=1000000):
  Calls prog 104 #[.slice (some ⟨q,off,none⟩) n c] w (zU (.str s) q rest w):=by
 refine gA fun R V=>?_;have k:(Pt.str s).bytes++rest=64::(bA s++0::0::rest):=by show(64::bA s++[0,0])++rest=_;simp
 rw[k]at h I;have c0:w.cell? ⟨q,off,none⟩=some (.int .u8 64):=h 0 64 rfl;have h2:=h.tail;have m:n=(bA s++0::0::rest).length+1:=by rw[I,gD]
 have h0:2<n:=by rw[m];simp;omega
 have N:¬ c=1:=by omega
 have A:=lh (cF w _ c0);obtain⟨F,d⟩:=nm (w.alloc (.cells mT.toArray 107));have y:Fr [] w F:=by rw[d];exact(Fr.refl [] w).alloc _
 have z:Blk F w.heap.size 107 mT:=by rw[d];exact Blk.new w _ mT
 have p:=lh (aPP (c:=c-1) (n:=n-1) s M (h2.fr y) (by omega) (by omega) (by omega));have cb:=aA y c0;have O:=lh y;have P:=lh z;clear h I k c0 h2 m y z M
 go_enter func104,ntmps104
 go_upto_region 1 with fail
 rw[show w.alloc (.cells #[.int .i64 0,.bool false,.bool false,.string { data:=#[] },.int .i64 0,.string { data:=#[] },.int .i64 0] 107)=F from d.symm];clear d;go_upto_region 14 with fail
 refine fE ?_;refine rn rfl (by go_simp<;>with_reducible rfl) ?_;simp only[nrm];refine lp fun K hK=>?_;refine jA (l:=[.tmp 40]) rfl [.slice (some ⟨q,off+1,none⟩) (n-1) (c-1)] rfl (aIW _) (p.o.mono ?_);rintro e w7 ⟨g,c',rfl,t,u,j⟩;refine⟨_,rfl,hK _ _ ?_⟩;simp only[nrm];clear hK;have B:=lh (O.o.trans j);have C:=lh (P.o.fr j);have Q:=lh u;have S:=lh t;clear t u j p
 iterate 2 (refine rn rfl (by go_simp<;>with_reducible rfl) ?_;simp only[nrm])
 refine lp fun K hK=>?_;refine yA 107 (.tmp 2) (.tmp 42) rfl (Pt.str s).vals rfl rfl C.o (by rw[nE];exact qJ) (by rw[nE];rfl) (xQ (.str s)) fun J G x W=>hK _ _ ?_;simp only[Act.put];clear hK;refine rn rfl (by go_simp<;>with_reducible rfl) ?_;simp only[nrm];refine sE ?_;have D:=lh G;have f:Fr [] w J:=B.o.trans x fun q H=>.inr (by rw[aB.1 H];exact tA _)
 have r:BAt J q g rest:=fun i b z=>zQ x (Q.o i b z) (fun H=>by
  have E:q=w.heap.size:=aB.1 H;have T:=A.o;exact absurd T (by rw[E];exact dR _))
 have U:=lh (V.o _ _ ⟨g,c',rfl,S.o,r,f⟩);clear f r;go_wp2_with fail;exact eF (mJ rfl rfl D.o Go.Proofs.Tryz.underlying107 rfl (by kernel_rfl)) rfl U.o
theorem BAt.tail4{w:World}{q off:Nat}{a b c d:UInt8}{bs:List UInt8}(h:BAt w q off (a::b::c::d::bs)):w.cell? ⟨q,off,none⟩=some (.int .u8 (a.toNat:Int))/\w.cell? ⟨q,off+1,none⟩=some (.int .u8 (b.toNat:Int))/\w.cell? ⟨q,off+2,none⟩=some (.int .u8 (c.toNat:Int))/\w.cell? ⟨q,off+3,none⟩=some (.int .u8 (d.toNat:Int)):=
 ⟨h 0 a rfl,h 1 b rfl,h 2 c rfl,h 3 d rfl⟩
theorem aLd(x u k:Nat)(b:u<2^k)(ht:x*2^k+u<9223372036854775808):bits .or .i64 ((x*2^k:Nat):Int) (u:Int)=((x*2^k+u:Nat):Int):=by
 show IntKind.i64.wrap ((BitVec.ofInt 64 ((x*2^k:Nat):Int) ||| BitVec.ofInt 64 (u:Int)).toNat:Int)=_
 have h:=Nat.shiftLeft_add_eq_or_of_lt b x;rw[Nat.shiftLeft_eq]at h;rw[BitVec.toNat_or,kP,kP,lP,lP,pK (by omega),pK (by omega),<- h];rw[iD];omega
theorem aSa(b c d f:UInt8):bits .or .i64 (bits .or .i64 (bits .or .i64 ((b.toNat:Int)*16777216) ((c.toNat:Int)*65536)) ((d.toNat:Int)*256)) (f.toNat:Int)=((b.toNat*16777216+c.toNat*65536+d.toNat*256+f.toNat:Nat):Int):=by
 have h0:=b.toNat_lt;have h1:=c.toNat_lt;have h2:=d.toNat_lt;have h3:=f.toNat_lt;have g:((b.toNat:Int)*16777216)=((b.toNat*2^24:Nat):Int):=by omega
 have h:((c.toNat:Int)*65536)=((c.toNat*65536:Nat):Int):=by omega
 have i:((d.toNat:Int)*256)=((d.toNat*256:Nat):Int):=by omega
 rw[g,h,i,aLd _ _ 24 (by omega) (by omega),show b.toNat*2^24+c.toNat*65536=(b.toNat*256+c.toNat)*2^16 by omega,aLd _ _ 16 (by omega) (by omega),
  show(b.toNat*256+c.toNat)*2^16+d.toNat*256=(b.toNat*65536+c.toNat*256+d.toNat)*2^8 by omega,aLd _ _ 8 (by omega) (by omega)]
theorem aHe(u:UInt8):IntKind.i64.wrap (u.toNat:Int)=(u.toNat:Int):=by have:=u.toNat_lt;rw[iD];omega
theorem aRc(b c d f:UInt8):bits .or .i64 (bits .or .i64 (bits .or .i64 (IntKind.i64.wrap (IntKind.i64.wrap (b.toNat:Int)*16777216)) (IntKind.i64.wrap (IntKind.i64.wrap (c.toNat:Int)*65536))) (IntKind.i64.wrap (IntKind.i64.wrap (d.toNat:Int)*256))) (IntKind.i64.wrap (f.toNat:Int))=((b.toNat*16777216+c.toNat*65536+d.toNat*256+f.toNat:Nat):Int):=by
 have h0:=b.toNat_lt;have h1:=c.toNat_lt;have h2:=d.toNat_lt;have h3:=f.toNat_lt;rw[aHe,aHe,aHe,aHe,show IntKind.i64.wrap ((b.toNat:Int)*16777216)=(b.toNat:Int)*16777216 by rw[iD];omega,show IntKind.i64.wrap ((c.toNat:Int)*65536)=(c.toNat:Int)*65536 by rw[iD];omega,show IntKind.i64.wrap ((d.toNat:Int)*256)=(d.toNat:Int)*256 by rw[iD];omega];exact aSa b c d f
theorem aRd{m:Nat}(b:m<4294967296):((UInt8.ofNat (m / 16777216)).toNat*16777216+(UInt8.ofNat (m / 65536)).toNat*65536+(UInt8.ofNat (m / 256)).toNat*256+(UInt8.ofNat m).toNat=m):=by
 simp only[yQ];omega
theorem aNG{w:World}{q off n c:Nat}(m:Nat){rest:List UInt8}(hm:m<4294967296)(h:BAt w q off ((Pt.num m).bytes++rest))(V:n=((Pt.num m).bytes++rest).length)(hc:n<=c)(a6:n<=1000000):
  Calls prog 104 #[.slice (some ⟨q,off,none⟩) n c] w (zU (.num m) q rest w):=by
 refine gA fun R HQ=>?_;obtain⟨Q,u⟩:∃x,x=UInt8.ofNat (m / 16777216):=⟨_,rfl⟩;obtain⟨S,y⟩:∃x,x=UInt8.ofNat (m / 65536):=⟨_,rfl⟩;obtain⟨T,z⟩:∃x,x=UInt8.ofNat (m / 256):=⟨_,rfl⟩;obtain⟨U,A⟩:∃x,x=UInt8.ofNat m:=⟨_,rfl⟩;have D:(Pt.num m).bytes++rest=80::Q::S::T::U::rest:=by rw[u,y,z,A];rfl
 have k:=aRc Q S T U;rw[show Q.toNat*16777216+S.toNat*65536+T.toNat*256+U.toNat=m by rw[u,y,z,A];exact aRd hm]at k;rw[D]at h V;have c0:w.cell? ⟨q,off,none⟩=some (.int .u8 80):=h 0 80 rfl;obtain⟨c1,c2,c3,c4⟩:=h.tail.tail4;have h5:=h.tail.tail.tail.tail.tail;simp only[gD]at V;have E:=lh (cF w _ c0);have a3:¬ c=1:=by omega
 have X:4<=n-1:=by omega
 obtain⟨B,l⟩:=nm (w.alloc (.cells mT.toArray 107));have s:Fr [] w B:=by rw[l];exact(Fr.refl [] w).alloc _
 have C:Blk B w.heap.size 107 mT:=by rw[l];exact Blk.new w _ mT
 have cb:=aA s c0
 replace c1:=aA s c1
 replace c2:=aA s c2
 replace c3:=aA s c3
 replace c4:=aA s c4
 have HF:=lh s;have HB:=lh C;have H5:=lh h5;have P:=lh V;have HV:=lh k;clear h V D c0 h5 s C hm u y z A k
 go_enter func104,ntmps104
 go_upto_region 1 with fail
 rw[show w.alloc (.cells #[.int .i64 0,.bool false,.bool false,.string { data:=#[] },.int .i64 0,.string { data:=#[] },.int .i64 0] 107)=B from l.symm];clear l;go_upto_region 17 with fail
 have d:Fr [] B B.drew:=(Fr.refl [] B).drew;have F:=aA d c1;have G:=aA d c2;have H:=aA d c3;have I:=aA d c4;obtain⟨p,M⟩:∃p,n-1=p:=⟨_,rfl⟩;obtain⟨N,a1⟩:∃N,c-1=N:=⟨_,rfl⟩;rw[M,a1];rw[M]at X;have a4:0<p:=by omega
 have n4:(4:Int)<=(p:Int):=by omega
 have n0:(0:Int)<(p:Int):=by omega
 have n1:(1:Int)<(p:Int):=by omega
 have n2:(2:Int)<(p:Int):=by omega
 have n3:(3:Int)<(p:Int):=by omega
 obtain⟨f,h1,h2,h3⟩:=(H5.o:BAt w q (off+1+1+1+1+1) rest)|> fun h=>(show BAt w q (off+1+4) rest from h) |> fun h=>((show ∃f,(if N=4 then some (⟨q,off+1,none⟩:Addr) else some ⟨q,off+1+4,none⟩)=some ⟨q,f,none⟩/\BAt w q f rest/\p-4=rest.length from by
  by_cases hk:N=4
  ·refine⟨off+1,by rw[iA hk],fun i b C=>?_,by have:=P.o;omega⟩;have:=(tD.1 C).1;have:=P.o;omega
  ·exact⟨off+1+4,by rw[eA hk],h,by have:=P.o;omega⟩))
 refine lA (fun W=>W.cell? ⟨q,off+1,none⟩=some (.int .u8 (Q.toNat:Int))/\W.cell? ⟨q,off+1+1,none⟩=some (.int .u8 (S.toNat:Int))/\W.cell? ⟨q,off+1+2,none⟩=some (.int .u8 (T.toNat:Int))/\W.cell? ⟨q,off+1+3,none⟩=some (.int .u8 (U.toNat:Int))) [0,1,2,3,4,5,6,7,8,9,10,11,12,13,14,15,16,17,18,19,20,21,22,23,24] (by kernel_rfl) ?_;refine tks [0,1,2,3,4,5,6,7,8,9,10,11,12,13,14,15,16,17,18,19,20,21,22,23,24] ?_
 iterate 25 (refine tk rfl rfl ⟨F,G,H,I⟩ rfl (fun _ hW=>by(obtain⟨y1,y2,y3,y4⟩:=hW;go_simp)<;>with_reducible rfl) ?_;simp only[nrm])
 refine tke ?_;rw[HV.o];have Y:=lh (HB.o.fr d);have Z:=lh (HF.o.trans d);have HH:=lh ((h2.fr HF.o).fr d);have HL:=lh h3;clear h2 h3 d;generalize B.drew=wd at *;refine xA (j:=25) none rfl rfl (by kernel_rfl) rfl fun K hK=>?_;refine yA 107 (.tmp 2) (.tmp 71) rfl (Pt.num m).vals rfl rfl Y.o (by rw[nE];exact qJ) (by rw[nE];rfl) (xQ (.num m)) fun w9 a2 g a5=>hK _ _ (fun _=>⟨zQ g F ?_,zQ g G ?_,zQ g H ?_,zQ g I ?_⟩) ?_
 rotate_left
 all_goals try (intro O;have t:q=w.heap.size:=aB.1 O;have h9:=E.o;exact absurd h9 (by rw[t];exact dR _))
 simp only[Act.put];clear hK;have a0:=lh a2;have r:Fr [] w w9:=Z.o.trans g fun q O=>.inr (by rw[aB.1 O];exact tA _)
 have J:BAt w9 q f rest:=fun i b C=>zQ g (HH.o i b C) (fun O=>by
  have t:q=w.heap.size:=aB.1 O;have h9:=E.o;exact absurd h9 (by rw[t];exact dR _))
 have HX:=lh (HQ.o _ _ ⟨f,N-4,rfl,by have:=P.o;have:=HL.o;omega,J,r⟩);clear r J;refine sp 26 rfl rfl rfl fun K hK=>?_;refine nA (v:=?aq18_26) ?yq18_26 (hK _ _ (fun h=>absurd h (by decide +kernel)) ?_)
 case yq18_26=>go_simp<;>with_reducible rfl
 simp only[nrm];refine _root_.Go.Proofs.YtebjhcjbfaaejaaGreatDoor.wd ?_ _;go_wp2_with fail;exact eF (mJ rfl rfl a0.o Go.Proofs.Tryz.underlying107 rfl (by kernel_rfl)) rfl HX.o
end
end Go.Proofs.YtebjhcjbfaaejaaGreatDoor
