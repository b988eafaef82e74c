/-
  Joined: CatW CatX CbA CcB CcH CgA CgB CcJ
-/
import Derived.BigQuiet
import Derived.Test.YtebjhcjbfaaejaaGreatDoorJca27
set_option maxRecDepth 100000
set_option maxHeartbeats 32000000
namespace Go.Proofs.YtebjhcjbfaaejaaGreatDoor
open Go.Proofs.Tryz
variable {i j m:Nat}{w':World}{S:PS}{α:Type}
section
open Go.RowKit Go.ChangeMaps Go.MapKept Go.Maps Go.Sort Go.Shelf
theorem aNN:(prog.info? 9).map (fun i=>(i.zero,i.size,i.bytes))=some (some (.string { data:=#[] }),1,16):=by kernel_rfl
theorem cT(s:ByteArray):aD [Pt.str s]=nmK (bA s):=by
 show nmK (bA s)++[]=_
 rw[dI]
theorem aSb{E:En}(b:tH E)(c:E.length<=9223372036854775807):(goE [] none 9223372036854775807 [] E).1=E:=by
 rw[aLW b]
 have e:E.filter (inB [] none)=E:=List.filter_eq_self.2 fun e _=>by
  unfold inB iN;have:=jM e.1
  simp[this]
 rw[e,zF c]
def aRy (L:En) (ids:List ByteArray):Prop:=
 L.length=ids.length/\∀(i:Nat) (e:Ky×List UInt8),L[i]? = some e->∃s:ByteArray,ids[i]? = some s/\e.1=nmK (bA s)/\NoZ (bA s)/\s.size<=1000
section
variable {w0 w w' : World} {dk g st ca : Nat} {x x' : SE} {X Y : Nat -> Prop}
def CoRel (wb:World) (ids:List ByteArray) (j:Nat) (v6 v23:Value) (wr:World):Prop:=
 ∃k:Nat,k+j=ids.length/\v23=.int .i64 (k:Int)/\wr.ownsRow wb.heap.size 9 1 v6 k ((ids.take k).map Value.string)/\Fr [] wb wr
def aSc (l:List ByteArray) (w:World) (e:Ending) (w':World):Prop:=
 ∃v,e=.returned (.tuple #[v,.int .i64 0])/\w'.ownsRow w.heap.size 9 1 v l.length (l.map Value.string)/\Fr [] w w'
theorem sV(h:CtX w0 w dk g st ca x X){N:Nat}(b:rD N x.E)(hN:N<=900000){d:List ByteArray}(y:aRy (x.E 1) d):
  Calls prog 18 #[.pointer (some ⟨ca,0,none⟩)] w (aSc d w):=by
 refine gA fun R HQ=>?_;have m:=lh (aMi h.sx (t:=1) (by omega) (low:=[]) (up:=none) (fv:=.slice none 0 0) (tv:=.slice none 0 0) (gf:=ca) (most:=9223372036854775807) (cA.nil w ca) h.xc rfl (by omega) (by have:=b.few 1;omega));unfold aIK at m;rw[aSb (b.rise 1) (by have:=b.few 1;omega)]at m;have H:=lh h;have c1:=h.blk.at_ (i:=1) rfl;obtain⟨L,hL⟩:∃L,x.E 1=L:=⟨_,rfl⟩;have z:Hid (L.length<=900000):=lh (by rw[<- hL];have:=b.few 1;omega);rw[hL]at y m;have a2:=lh y;clear h b hN y hL
 go_enter func18,ntmps18
 go_wp2_with fail;refine m.o.mono ?_;rintro e wb ⟨ov,cl,rfl,C,he,b4⟩;clear m c1;obtain⟨Ao,co,rfl,_,_⟩:=sA C;have HO:=lh C;have HE:=lh he;have a3:=lh b4;clear C he b4;obtain⟨n,hn⟩:∃n,L.length=n:=⟨_,rfl⟩;rw[hn]at HO z⊢;have d3:=lh hn;have r:Hid (d.length=n):=lh (by rw[<- a2.o.1];exact hn);clear hn;obtain⟨iu,e4,e6,b5,e7⟩:=Go.info_parts aNN;go_wp2_with fail
 go_loopg [6,23] n (fun j v6 v23 wr=>CoRel wb d j v6 v23 wr)
 case atStart=>exact⟨0,by rw[r.o];omega,rfl,vF _ _ _ _,Fr.refl _ _⟩
 case round=>
  obtain⟨i,hi,rfl,hb,hf⟩:=hrel;rw[r.o]at hi;have HB:=lh hb;have HF:=lh hf;clear hb hf
  by_cases f1:i<n
  ·obtain⟨e,he⟩:∃e,L[i]? = some e:=gx (by rw[d3.o];exact f1);obtain⟨s,b6,F,hz,D⟩:=a2.o.2 i e he;have a4:(d.take (i+1)).map Value.string=(d.take i).map Value.string++[Value.string s]:=by rw[oM,b6,List.map_append];rfl
   have d4:=lh a4;obtain⟨go,rfl,f⟩:=tE HO.o (by omega);obtain⟨k1,v1,b7,b8,⟨q1,G,e8⟩,⟨q2,b',e9⟩⟩:=lG.at_ HE.o he;have ck:=aA HF.o (f _ _ b7);have cv:=aA HF.o (f _ _ b8);have S:=G.fr HF.o;rw[F,<- cT]at S;obtain⟨A1,c1,_,rfl,_,_⟩:=_root_.id G;obtain⟨A2,c2,_,rfl,_,_⟩:=_root_.id b'
   have T:Hid (wr.rangeAt go (i*2) [.slice A1 e.1.length c1,.slice A2 e.2.length c2]):=lh (by
    intro j u k
    match j,k with
    | 0,k=>obtain rfl:=fG k;exact ck
    | 1,k=>obtain rfl:=fG k;exact cv
    | j+2,k=>simp at k)
   have f2:(i:Int)<(n:Int):=by omega
   have U:e.1.length=(aD ([Pt.str s])).length:=by rw[F,cT]
   have J:q1<wb.heap.size:=vE G (by rw[F];simp[nmK])
   have a5:=lh (show ∀p∈[Pt.str s],p.ok from by
    intro p hp;rcases kB.1 hp with rfl|hp
    ·exact⟨hz,D⟩
    ·cases hp)
   rw[U]at T;have M:cA wr (.slice A1 (aD ([Pt.str s])).length c1) (aD ([Pt.str s])) q1:=by rw[<- U];exact S
   obtain⟨P,rfl,_,c0,c3⟩:=BAt.of M (by rw[cT];simp[nmK]);have d5:=lh c3;have a6:=lh c0;have d6:Hid (q1<wr.heap.size):=lh (pO J HF.o.size);have a7:Hid ((aD ([Pt.str s])).length<=1000000):=lh (by rw[cT];have:=zA s;simp[nmK];omega);obtain⟨nk,W⟩:∃nk,(aD ([Pt.str s])).length=nk:=⟨_,rfl⟩;rw[W]at T a6 a7;have d7:=lh W;clear f b7 b8 G e8 b' e9 ck cv he a4 F b6 S M U J c0 c3 W hz D;go_upto_region 7 with fail
   refine fE ?_;refine rn rfl (by go_simp<;>with_reducible rfl) ?_;simp only[nrm];refine lp fun K hK=>?_;refine Go.wp_load_mid 100 (.tmp 25) rfl go (i*2) rfl [.slice (some ⟨q1,P,none⟩) nk c1,.slice A2 e.2.length c2] _ T.o Go.Proofs.Tryz.underlying100 rfl (by kernel_rfl) (hK _ _ ?_);simp only[nrm];clear hK;refine lp fun K hK=>?_;refine yB 100 rfl (.agg #[.slice none 0 0,.slice none 0 0]) [.slice none 0 0,.slice none 0 0] xS rfl fun wa a1 c5 c6=>hK _ _ ?_;simp only[nrm];clear hK;obtain⟨b9,Z⟩:=nm (wr.heap.size);rw[<- Z]at a1⊢;have d8:=lh Z;have d9:=lh c5;have f3:=lh c6;have a8:=lh a1;clear Z c5 c6 a1;refine lp fun K hK=>?_;refine yA 100 (.tmp 8) (.tmp 26) rfl [.slice (some ⟨q1,P,none⟩) nk c1,.slice A2 e.2.length c2] rfl rfl a8.o vS rfl (by intro u k;simp only[kB,yG,aG]at k;rcases k with rfl|rfl<;>rfl) fun w4 c8 c' e'=>hK _ _ ?_;simp only[Act.put];clear hK;have d':=lh c8;have A:Hid (Fr [] wr w4):=lh (d9.o.trans c' fun q hq=>.inr (by rw[aB.1 hq,d8.o];exact tA _));clear c8 c' e';refine sE ?_;have b0:=d'.o.at_ (i:=0) rfl;have a9:=lh (aEd (n:=nk) (c:=c1) ([Pt.str s]) a5.o (by simp) (d5.o.fr A.o) (by have:=d6.o;have:=A.o.size;omega) d7.o.symm a6.o a7.o);go_wp2_with fail;refine a9.o.mono ?_;rintro e5 l ⟨vd,rfl,I,a0⟩;have O:([Pt.str s]).length=1:=rfl;rw[O]at I;obtain⟨Ad,cd,rfl,_,_⟩:=sA I;obtain⟨gd,rfl,c4⟩:=tE I (by omega);have e0:=c4 5 (.string s) rfl;have a':=lh (HF.o.trans (A.o.trans a0));have B:=lh (iB HB.o (A.o.trans a0) (by simp));clear I c4 a0 a9 O b0;obtain⟨A9,c9,rfl,_,_⟩:=sA B.o;go_upto_region 11 with fail
   refine fE ?_
   iterate 5 (refine rn rfl (by go_simp<;>with_reducible rfl) ?_;simp only[nrm])
   refine lp fun K hK=>?_;refine xB (v:=.slice (some ⟨l.heap.size,0,none⟩) 1 1) (w':=l.alloc (.cells #[.string s] 9)) (by go_simp<;>rfl) (hK _ _ ?_);simp only[nrm];clear hK;have V:=Blk.new l 9 [.string s];have b1:Fr [] l (l.alloc (.cells #[.string s] 9)):=(Fr.refl [] l).alloc _;have b2:(l.alloc (.cells #[.string s] 9)).heap.size=l.heap.size+1:=by simp
   change Blk (l.alloc (.cells #[.string s] 9)) _ _ _ at V
   generalize l.alloc (.cells #[.string s] 9)=w6 at *;have b3:=lh b1;have e1:=lh V;clear b1 V;refine lp fun K hK=>?_;refine eD (.tmp 40) (.tmp 45) rfl 9 1 16 underlying50 e4 e6 b5 e7 rfl (by omega) (.slice A9 i c9) i ((d.take i).map Value.string) rfl (jK (iB B.o b3.o (by simp))) ⟨l.heap.size,0,none⟩ 1 1 [.string s] rfl rfl (fun j u k=>by rw[Go.Addr.add_mid,cC];exact e1.o.at_ k) (by intro u k;simp only[kB,yG,aG]at k;subst k;rfl) (by omega) (by unfold maxLen;have:=z.o;omega) (by have:=z.o;omega) (l.heap.size+1) b2 fun g7 c7 w7 d0 d1 Q d2=>hK _ _ ?_;simp only[nrm];clear hK;refine rn rfl (by go_simp<;>with_reducible rfl) ?_;simp only[nrm];refine sE ?_;have f4:=a'.o.size
   have e2:Hid (w7.ownsRow wb.heap.size 9 1 (.slice (some ⟨g7,0,none⟩) (i+1) c7) (i+1) ((d.take (i+1)).map Value.string)):=lh (by
    rw[d4.o]
    exact vP d0 fun g' f0=>by
     have e:g7=g':=by simpa[Value.ownBlock]using f0
     subst e;rcases Q with h|h
     ·exact lF B.o _ h
     ·omega)
   have e3:Hid (Fr [] wb w7):=lh ((FrB.of d1 fun x hx=>lF B.o x (by simpa using hx)).after (a'.o.trans b3.o) (tA _));clear d0 d1 Q d2 b2 e0;have f5:IntKind.i64.wrap ((i:Int)+1)=((i+1:Nat):Int):=by have:=z.o;rw[iD];omega
   go_wp2_with fail
   go_roundg (n-(i+1))
   case measure=>omega
   case rel=>exact⟨i+1,by rw[r.o];omega,rfl,e2.o,e3.o⟩
  ·obtain rfl:i=n:=by omega
   have C:=HB.o;rw[zF (by rw[r.o];exact tA _)]at C;obtain⟨A9,c9,rfl,_,_⟩:=sA C;have D:=a3.o.size;have HX:=lh (HQ.o _ _ ⟨_,rfl,by rw[r.o];exact vP (jK C) fun q hq=>aF D (lF C q hq),a3.o.trans HF.o⟩);clear C;go_wp2_with fail;exact HX.o
theorem aFq{s:PS}{E:Nat->En}(F:PgX w0 w dk g s X)(t:s.br=false)(c:aAG s)(G:oI s.page s.n E):
  Calls prog 28 #[.pointer (some ⟨g,0,none⟩)] w fun e w'=>∃st ca,e=.returned (.tuple #[.pointer (some ⟨ca,0,none⟩),.int .i64 0])/\CtX w0 w' dk g st ca ⟨s,E⟩ (kC X w w')/\Fr [] w w':=by
 have y:=lh (aRR F t c G);refine gA fun R H=>?_;clear F t c G
 go_enter func28,ntmps28
 go_wp2_with fail;refine y.o.mono ?_;rintro e w1 ⟨st,rfl,C,D⟩;have z:=lh C;have A:=lh D;clear C D y;obtain⟨j,f⟩:=nm (w1.alloc (.cells #[.pointer (some ⟨g,0,none⟩),.pointer (some ⟨st,0,none⟩)] 79));have d:Fr [] w1 j:=by rw[f];exact(Fr.refl [] w1).alloc _
 have i:Blk j w1.heap.size 79 [.pointer (some ⟨g,0,none⟩),.pointer (some ⟨st,0,none⟩)]:=by rw[f];exact Blk.new w1 _ [.pointer (some ⟨g,0,none⟩),.pointer (some ⟨st,0,none⟩)]
 have k:=A.o.trans d;have b:=z.o.fr d;have l:=A.o.size;have m:=i.lt
 have p:CtX w0 j dk g st w1.heap.size ⟨s,E⟩ (kC X w j):=by
  have r:∀q,kC X w j q->kC (kC X w w1) w1 j q:=fun q v=>by
   rcases v with v|⟨h1,h2⟩
   ·exact .inl (.inl v)
   ·by_cases h3:q<w1.heap.size
    ·exact .inl (.inr ⟨h1,h3⟩)
    ·exact .inr ⟨by omega,h2⟩
  have u:kC X w j st:=by
   rcases z.o.xs with h|⟨h1,h2⟩
   ·exact .inl h
   ·exact .inr ⟨h1,pO h2 d.size⟩
  exact⟨⟨b.px.weak r,b.blk,u,b.br,b.calm,b.store⟩,i,.inr ⟨l,m⟩⟩
 have B:=lh (H.o _ _ ⟨st,w1.heap.size,rfl,p,k⟩);rw[f]at B;clear p k b l m d i f;go_wp2_with fail;exact B.o
end
theorem Rep.isS{x:SE}{c:Ct}(h:Rep x.E c)(s:Ky):isS x s=vQ c s:=by
 unfold Go.Proofs.YtebjhcjbfaaejaaGreatDoor.isS
 cases b:nmB s with
 | false=>rw[h.no b];rfl
 | true=>rw[h.has b];rfl
def aPW (c:Ct) (s:Ky) (id:Int):List UInt8×Bool×Int:=
 if vQ c s=false then ([],false,6) else match (txC c s).find? fun t=>decide ((t.1:Int)=id) with
  | some t=>(t.2,true,0)
  | none=>([],false,0)
theorem aFr(s:Ky)(n:Nat)(b:List UInt8):(pL s n b).flatMap (·.2)=b:=by
 have h:=aQM b;unfold pL;rw[List.flatMap_map];rw[<- List.flatMap_def]at h;exact h
theorem aRg(s:Ky)(n:Nat)(b:List UInt8):(pL s n b).isEmpty=false:=by
 have h:=aDQ b;unfold pL
 cases c:(List.range (np b)).map fun j=>(nB s [n,j],pc b j) with
 | nil=>
  have:=congrArg List.length c
  simp at this
  omega
 | cons=>rfl
def idsC (c:Ct) (s:Ky):List Int:=(txC c s).map fun t=>(t.1:Int)
theorem aHf(p:Int)(l:List Int):∀m,ddF p (List.replicate m p++l)=ddF p l
 | 0=>rfl
 | m+1=>by
  rw[List.replicate_succ,zI]
  show(if p=p then ddF p (List.replicate m p++l) else p::ddF p (List.replicate m p++l))=_
  rw[iA rfl,aHf p l m]
theorem aJa:∀(l:Tx) (p:Int),(∀t∈l,p<(t.1:Int))->l.Pairwise (fun a b=>a.1<b.1)->ddF p (l.flatMap fun t=>List.replicate (np t.2) (t.1:Int))=l.map fun t=>(t.1:Int)
 | [],_,_,_=>rfl
 | t::l,p,hp,hl=>by
  obtain⟨h1,h2⟩:=xE.1 hl;obtain⟨m,d⟩:∃m,np t.2=m+1:=⟨np t.2-1,by have:=aDQ t.2;omega⟩;have c:¬ (t.1:Int)=p:=by have:=hp t (sB ..);omega
  rw[nH,d,List.replicate_succ,zI,yJ];unfold ddF;rw[eA c,aHf,aJa l _ (fun u f=>by have:=h1 u f;omega) h2]
theorem aRh{l:Tx}(f:l.Pairwise (fun a b=>a.1<b.1)):dd (l.flatMap fun t=>List.replicate (np t.2) (t.1:Int))=l.map fun t=>(t.1:Int):=by
 cases l with
 | nil=>rfl
 | cons t l=>
  obtain⟨h1,h2⟩:=xE.1 f;obtain⟨m,c⟩:∃m,np t.2=m+1:=⟨np t.2-1,by have:=aDQ t.2;omega⟩;rw[nH,c,List.replicate_succ,zI,yJ]
  show(t.1:Int)::ddF _ _=_
  rw[aHf,aJa l _ (fun u d=>by have:=h1 u d;omega) h2]
theorem aR.append{s:Ky}{A B:En}{a b:List Int}(c:aR s A a)(g:aR s B b):aR s (A++B) (a++b):=by
 refine⟨by rw[lB,lB,c.1,g.1],fun i e d=>?_⟩
 by_cases hi:i<A.length
 ·rw[kM hi]at d;obtain⟨k,j,h1,h2,h3,f⟩:=c.2 i e d;exact⟨k,j,h1,h2,h3,by rw[kM (by rw[<- c.1];exact hi)];exact f⟩
 ·rw[dK (by omega)]at d;obtain⟨k,j,h1,h2,h3,f⟩:=g.2 _ e d;exact⟨k,j,h1,h2,h3,by rw[dK (by rw[<- c.1];omega),<- c.1];exact f⟩
theorem aR.one{s:Ky}{n:Nat}{b:List UInt8}(k:n<4294967296)(l:b.length<=65536):aR s (pL s n b) (List.replicate (np b) (n:Int)):=by
 have g:=aPy l;refine⟨by unfold pL;simp,fun i e d=>?_⟩;unfold pL at d;rw[zH,Option.map_eq_some_iff]at d;obtain⟨j,f,rfl⟩:=d;have h:j<np b:=vT.1 (rG f);have c:i<np b:=by have:=(tD.1 f).1;simpa using this
 exact⟨n,j,rfl,k,by omega,by rw[List.getElem?_replicate,iA c]⟩
theorem aR.all{s:Ky}:∀(l:Tx),(∀t∈l,t.1<4294967296/\t.2.length<=65536)->aR s (l.flatMap fun t=>pL s t.1 t.2) (l.flatMap fun t=>List.replicate (np t.2) (t.1:Int))
 | [],_=>⟨rfl,fun i e b=>by simp at b⟩
 | t::l,h=>by
  rw[nH,nH];exact(aR.one (h t (sB ..)).1 (h t (sB ..)).2).append (aR.all l fun u c=>h u (uC _ c))
section
variable {w0 w w' : World} {dk g st ca : Nat} {x x' : SE} {X Y : Nat -> Prop}
theorem aBL(h:CtX w0 w dk g st ca x X){N:Nat}(i:rD N x.E)(r:N<=900000){c:Ct}(m:Rep x.E c)(cs:ByteArray)(b:Int):
  Calls prog 23 #[.pointer (some ⟨ca,0,none⟩),.string cs,.int .i64 b] w (aHc (aPW c (bA cs) b) w):=by
 unfold aPW;rw[<- m.isS]
 cases d:isS x (bA cs) with
 | false=>
  have u:isC x cs=6:=by unfold isC;rw[d];rfl
  have:=aIU h i r cs b (.inl d);rw[u]at this;exact this
 | true=>
  rw[eA (by decide)];have v:isC x cs=0:=by unfold isC;rw[d];rfl
  rw[m.isS]at d;obtain⟨y,q,p⟩:=oL.1 d;rw[<- p,m.ok.tx q];have k:=m.ok.fit y q
  cases f:idB b with
  | false=>
   have j:(y.2.find? fun t=>decide ((t.1:Int)=b))=none:=List.find?_eq_none.2 fun t ht=>by
    have:=(k t ht).1;rw[yI];intro e;rw[idB,qK]at f;exact f ⟨by omega,by omega⟩
   rw[j];have:=aIU h i r cs b (.inr f)
   rwa [v]at this
  | true=>
   have z:=mL.1 f
   have o:rC (x.E 0) (nB (bA cs) [b.toNat])=match y.2.find? fun t=>decide ((t.1:Int)=b) with|some t=>pL y.1 t.1 t.2|none=>[]:=by
    rw[<- p]
    cases j:y.2.find? fun t=>decide ((t.1:Int)=b) with
    | none=>
     refine m.none q (by omega) fun t ht e=>?_;have:=List.find?_eq_none.1 j t ht;rw[yI]at this;omega
    | some t=>
     have ht:=List.mem_of_find?_eq_some j;have A:=List.find?_some j;rw[yI]at A;rw[show b.toNat=t.1 by omega];exact m.text q ht
   have B:((rC (x.E 0) (nB (bA cs) [b.toNat])).flatMap (·.2)).length<=65536:=by
    rw[o]
    cases j:y.2.find? fun t=>decide ((t.1:Int)=b) with
    | none=>simp
    | some t=>simp only[];rw[aFr];exact(k t (List.mem_of_find?_eq_some j)).2
   have l:=aPO h i r cs b (by rw[m.isS];exact d) f B;rw[o]at l
   cases j:y.2.find? fun t=>decide ((t.1:Int)=b) with
   | none=>rw[j]at l;exact l
   | some t=>
    rw[j]at l;simp only[]at l;rw[aFr,aRg]at l;exact l
theorem aMl(h:CtX w0 w dk g st ca x X){N:Nat}(b:rD N x.E)(o:N<=900000){c:Ct}(f:Rep x.E c)(cs:ByteArray):
  Calls prog 21 #[.pointer (some ⟨ca,0,none⟩),.string cs] w (if vQ c (bA cs)=true then uX (idsC c (bA cs)) 0 w else uX [] 6 w):=by
 rw[<- f.isS]
 cases d:isS x (bA cs) with
 | false=>
  rw[eA (by decide)];exact aPU h (by have:=b.few 1;omega) cs d
 | true=>
  rw[iA rfl];have l:=d;rw[f.isS]at l;obtain⟨y,j,i⟩:=oL.1 l
  have k:aR (bA cs) (rC (x.E 0) (nmK (bA cs))) (y.2.flatMap fun t=>List.replicate (np t.2) (t.1:Int)):=by
   rw[<- i,f.texts j];exact aR.all _ (f.ok.fit y j)
  have m:=aPV h b o cs d k;rw[aRh (f.ok.ids y j)]at m;unfold idsC;rw[<- i,f.ok.tx j];exact m
theorem aHg{E:Nat->En}{c:Ct}(f:Rep E c):aRy (E 1) (c.map fun y=>⟨y.1.toArray⟩):=by
 rw[f.names];refine⟨by simp,fun i e d=>?_⟩;rw[zH,Option.map_eq_some_iff]at d;obtain⟨y,b,rfl⟩:=d;have h:=uF (f.ok.name y (rG b));exact⟨⟨y.1.toArray⟩,by rw[zH,b];rfl,by simp[bA],by simpa[bA]using h.1,by show y.1.toArray.size<=1000;rw[eT];omega⟩
end
end
section
open Go.RowKit Go.Shelf
theorem aEf(s:ByteArray):s.toList=bA s:=by
 rw[ByteArray.toList_eq];rfl
theorem aFs{l m:List α}{k:Nat}{a:α}(h:l.take k=m.take k)(h1:l[k]? = some a)(h2:m[k]? = some a):l.take (k+1)=m.take (k+1):=by
 rw[oM,oM,h,h1,h2]
theorem aLe{a b:ByteArray}(h:a.toList=b.toList):a=b:=by
 rw[aEf,aEf]at h;exact aGP h
theorem aNO{w:World}{v1 v2:Value}{d l2:List Int}(h1:iH w v1 d.length (d.map bT) i)(h2:iH w v2 l2.length (l2.map bT) m)(W:d.length<=1000000000):
  Calls prog 22 #[v1,v2] w fun e w'=>∃b,e=.returned (.bool b)/\(b=true↔d=l2)/\Fr [] w w':=by
 refine gA fun R C=>?_;obtain⟨A1,c1,U,rfl,_,t⟩:=h1;obtain⟨A2,c2,V,rfl,_,u⟩:=h2
 by_cases c:d.length=l2.length
 ·obtain⟨n,v⟩:∃n,d.length=n:=⟨_,rfl⟩;have g:=c.symm.trans v;rw[v]at W t⊢;rw[g]at u⊢;have D:=lh v;have h:=lh g;have N:=lh t;have O:=lh u;clear c v g t u
  go_enter func22,ntmps22
  go_wp2_with fail
  go_loopg [5] n (fun j v5 wr=>∃k:Nat,k+j=n/\v5=.int .i64 (k:Int)/\d.take k=l2.take k/\Fr [] w wr)
  case atStart=>exact⟨0,by omega,rfl,rfl,Fr.refl _ _⟩
  case round=>
   obtain⟨k,hk,rfl,I,J⟩:=hrel;have F:=lh I;have r:=lh J;clear I J
   by_cases q:k<n
   ·obtain⟨a,A⟩:∃a,d[k]? = some a:=gx (by rw[D.o];exact q);obtain⟨b,B⟩:∃b,l2[k]? = some b:=gx (by rw[h.o];exact q);obtain⟨rfl,L⟩:=N.o (by omega);obtain⟨rfl,M⟩:=O.o (by omega);have X:wr.cell? ⟨i,U+k,none⟩=some (.int .i64 a):=aA r.o (L k (bT a) (by rw[zH,A];rfl));have Y:wr.cell? ⟨m,V+k,none⟩=some (.int .i64 b):=aA r.o (M k (bT b) (by rw[zH,B];rfl));have Z:(k:Int)<(n:Int):=by omega
    have P:IntKind.i64.wrap ((k:Int)+1)=((k+1:Nat):Int):=by rw[iD];omega
    have G:=lh A;have H:=lh B;clear A B L M;have go:∀nq,Fr [] w (wr.drewN nq):=fun nq=>r.o.drewN nq
    by_cases f:a=b
    ·subst f;have y:(a==a)=true:=by simp
     have Q:=lh (aFs F.o G.o H.o);go_upto_region 6 with fail
     go_quiet (fail)
     have S:=lh (go nq);clear go;go_wp2_with fail
     go_roundg (n-(k+1))
     case measure=>omega
     case rel=>exact⟨k+1,by omega,rfl,Q.o,S.o⟩
    ·have y:(a==b)=false:=by rw[eI];exact f
     have l:d≠l2:=fun e=>by
      have h3:=G.o;rw[e,H.o]at h3;exact f (fG h3).symm
     go_upto_region 6 with fail
     go_quiet (fail)
     have p:=lh (C.o _ _ ⟨false,rfl,by simp[l],go nq⟩);clear go l f;go_wp2_with fail;exact p.o
   ·obtain rfl:k=n:=by omega
    have z:=F.o;rw[zF (by rw[D.o];exact tA _),zF (by rw[h.o];exact tA _)]at z;have p:=lh (C.o _ _ ⟨true,rfl,by simp[z],r.o⟩);clear z;go_wp2_with fail;exact p.o
 ·have T:((d.length:Int)==(l2.length:Int))=false:=by rw[eI];omega
  have p:=lh (C.o _ _ ⟨false,rfl,by simp;intro e;exact c (by rw[e]),Fr.refl _ _⟩);clear t u c
  go_enter func22,ntmps22
  go_wp2_with fail;exact p.o
theorem aLf{w:World}{v1 v2:Value}{d l2:List ByteArray}(h1:iH w v1 d.length (d.map Value.string) i)(h2:iH w v2 l2.length (l2.map Value.string) m)(W:d.length<=1000000000):
  Calls prog 19 #[v1,v2] w fun e w'=>∃b,e=.returned (.bool b)/\(b=true↔d=l2)/\Fr [] w w':=by
 refine gA fun R C=>?_;obtain⟨A1,c1,U,rfl,_,t⟩:=h1;obtain⟨A2,c2,V,rfl,_,u⟩:=h2
 by_cases c:d.length=l2.length
 ·obtain⟨n,v⟩:∃n,d.length=n:=⟨_,rfl⟩;have g:=c.symm.trans v;rw[v]at W t⊢;rw[g]at u⊢;have D:=lh v;have h:=lh g;have N:=lh t;have O:=lh u;clear c v g t u
  go_enter func19,ntmps19
  go_wp2_with fail
  go_loopg [5] n (fun j v5 wr=>∃k:Nat,k+j=n/\v5=.int .i64 (k:Int)/\d.take k=l2.take k/\Fr [] w wr)
  case atStart=>exact⟨0,by omega,rfl,rfl,Fr.refl _ _⟩
  case round=>
   obtain⟨k,hk,rfl,I,J⟩:=hrel;have F:=lh I;have r:=lh J;clear I J
   by_cases q:k<n
   ·obtain⟨a,A⟩:∃a,d[k]? = some a:=gx (by rw[D.o];exact q);obtain⟨b,B⟩:∃b,l2[k]? = some b:=gx (by rw[h.o];exact q);obtain⟨rfl,L⟩:=N.o (by omega);obtain⟨rfl,M⟩:=O.o (by omega);have X:wr.cell? ⟨i,U+k,none⟩=some (.string a):=aA r.o (L k (Value.string a) (by rw[zH,A];rfl));have Y:wr.cell? ⟨m,V+k,none⟩=some (.string b):=aA r.o (M k (Value.string b) (by rw[zH,B];rfl));have Z:(k:Int)<(n:Int):=by omega
    have P:IntKind.i64.wrap ((k:Int)+1)=((k+1:Nat):Int):=by rw[iD];omega
    have G:=lh A;have H:=lh B;clear A B L M;have go:∀nq,Fr [] w (wr.drewN nq):=fun nq=>r.o.drewN nq
    by_cases f:a=b
    ·subst f;have y:(a.toList==a.toList)=true:=by simp
     have Q:=lh (aFs F.o G.o H.o);go_upto_region 6 with fail
     go_quiet (fail)
     have S:=lh (go nq);clear go;go_wp2_with fail
     go_roundg (n-(k+1))
     case measure=>omega
     case rel=>exact⟨k+1,by omega,rfl,Q.o,S.o⟩
    ·have y:(a.toList==b.toList)=false:=by rw[eI];exact fun e=>f (aLe e)
     have l:d≠l2:=fun e=>by
      have h3:=G.o;rw[e,H.o]at h3;exact f (fG h3).symm
     go_upto_region 6 with fail
     go_quiet (fail)
     have p:=lh (C.o _ _ ⟨false,rfl,by simp[l],go nq⟩);clear go l f;go_wp2_with fail;exact p.o
   ·obtain rfl:k=n:=by omega
    have z:=F.o;rw[zF (by rw[D.o];exact tA _),zF (by rw[h.o];exact tA _)]at z;have p:=lh (C.o _ _ ⟨true,rfl,by simp[z],r.o⟩);clear z;go_wp2_with fail;exact p.o
 ·have T:((d.length:Int)==(l2.length:Int))=false:=by rw[eI];omega
  have p:=lh (C.o _ _ ⟨false,rfl,by simp;intro e;exact c (by rw[e]),Fr.refl _ _⟩);clear t u c
  go_enter func19,ntmps19
  go_wp2_with fail;exact p.o
end
section
open Go.RowKit Go.ChangeMaps Go.MapKept Go.Maps Go.Sort Go.Shelf
theorem aPX:(prog.info? 65).map (fun i=>(i.zero,i.size,i.bytes))=some (some (.agg #[.int .i64 0,.string { data:=#[] },.int .i64 0,.string { data:=#[] }]),4,48):=by kernel_rfl
theorem aNP(o:OpV):∀u∈o.cells,u.oneCell'=true:=by
 intro u b;simp only[OpV.cells,kB,yG,aG]at b;rcases b with rfl|rfl|rfl|rfl<;>rfl
theorem aJb{w:World}{L:List OpV}{v:Value}{go:Nat}(hv:iH w v L.length (L.map OpV.cells).flatten go)(hl:L.length<=1000000):
  Calls prog 14 #[v] w fun e w'=>∃v' g,e=.returned v'/\iH w' v' L.length (L.map OpV.cells).flatten g/\w.heap.size<=g/\(0<L.length->g<w'.heap.size)/\Fr [] w w':=by
 refine gA fun R HQ=>?_;obtain⟨A,cap,off,rfl,_,C⟩:=hv;obtain⟨n,hn⟩:∃n,L.length=n:=⟨_,rfl⟩;rw[hn]at hl C HQ⊢;have HN:=lh hn;have Z:=lh C;clear hn C;obtain⟨iu,P,Q,y,a4⟩:=Go.info_parts aPX
 go_enter func14,ntmps14
 go_upto_region 3 with fail
 go_loopg [3,4] n (fun j v3 v4 wr=>∃i:Nat,i+j=n/\v4=.int .i64 (i:Int)/\wr.ownsRow w.heap.size 65 4 v3 i ((L.take i).flatMap OpV.cells)/\Fr [] w wr)
 case atStart=>exact⟨0,by omega,rfl,vF _ _ _ _,Fr.refl _ _⟩
 case round=>
  obtain⟨i,hi,rfl,l,hf⟩:=hrel;have G:=lh l;have X:=lh hf;clear l hf
  by_cases a6:i<n
  ·obtain⟨o,l⟩:∃o,L[i]? = some o:=gx (by rw[HN.o];exact a6);obtain⟨rfl,d⟩:=Z.o (by omega)
   have c:∀j u,o.cells[j]? = some u->wr.cell? ⟨go,off+i*4+j,none⟩=some u:=fun j u Y=>by
    have hj:j<4:=(tD.1 Y).1;have h1:=tU (k:=4) (L.map OpV.cells) (fun cs F=>by obtain⟨p,_,rfl⟩:=cI.1 F;rfl) i o.cells (by rw[zH,l];rfl) j hj;have h2:=d (4*i+j) u (by rw[h1];exact Y);have h3:=aA X.o h2
    rwa [show off+(4*i+j)=off+i*4+j by omega]at h3
   have a0:Hid ((L.take (i+1)).flatMap OpV.cells=(L.take i).flatMap OpV.cells++o.cells):=lh (by rw[oM,l,qP];show _++(o.cells++[])=_;rw[dI]);have hI:(i:Int)<(n:Int):=by omega
   have a7:IntKind.i64.wrap ((i:Int)+1)=((i+1:Nat):Int):=by rw[iD];omega
   obtain⟨A9,c9,rfl,_,_⟩:=sA G.o;obtain⟨b,cs,r,t⟩:=o;have a8:go<w.heap.size:=aP (d (4*i+0) _ (by rw[tU (k:=4) (L.map OpV.cells) (fun cs F=>by obtain⟨p,_,rfl⟩:=cI.1 F;rfl) i _ (by rw[zH,l];rfl) 0 (by omega)];rfl));have f:go∉(Value.slice A9 i c9).ownBlock.toList:=fun hq=>by have:=lF G.o go (by simpa using hq);omega
   clear l d;go_upto_region 5 with fail
   have d0:wr.drew.cell? ⟨go,off+i*4,none⟩=some (.int .i64 b):=c 0 _ rfl;have d1:wr.drew.cell? ⟨go,off+i*4+1,none⟩=some (.string cs):=c 1 _ rfl;have d2:wr.drew.cell? ⟨go,off+i*4+2,none⟩=some (.int .i64 r):=c 2 _ rfl;have d3:wr.drew.cell? ⟨go,off+i*4+3,none⟩=some (.string t):=c 3 _ rfl;refine lA (fun W=>W.cell? ⟨go,off+i*4,none⟩=some (.int .i64 b)/\W.cell? ⟨go,off+i*4+1,none⟩=some (.string cs)/\W.cell? ⟨go,off+i*4+2,none⟩=some (.int .i64 r)/\W.cell? ⟨go,off+i*4+3,none⟩=some (.string t)) [0,1,2,3,4,5,6,7,8,9,10,11,12,13,14,15,16,17,18,19,20,21] (by kernel_rfl) ?_;have H:Fr [] wr wr.drew:=(Fr.refl [] wr).drew;have I:=lh H;clear H c;generalize wr.drew=wd at *;refine tks [0,1,2,3,4,5,6,7,8,9,10,11,12,13,14,15,16,17,18,19,20,21] ?_
   iterate 22 (refine tk rfl rfl ⟨d0,d1,d2,d3⟩ rfl (fun _ hW=>by(obtain⟨y1,y2,y3,y4⟩:=hW;go_simp)<;>with_reducible rfl) ?_;simp only[nrm])
   refine tke ?_;refine sp 22 rfl rfl rfl fun K hK=>?_;refine dD (.tmp 32) rfl underlying44 P Q [.int .i64 b,.string cs,.int .i64 r,.string t] rfl y rfl (by simp) (by simp) ?_;have B:=Blk.new wd 65 [.int .i64 b,.string cs,.int .i64 r,.string t];have m:Fr [] wd (wd.alloc (.cells #[.int .i64 b,.string cs,.int .i64 r,.string t] 65)):=(Fr.refl [] wd).alloc _;have J:(wd.alloc (.cells #[.int .i64 b,.string cs,.int .i64 r,.string t] 65)).heap.size=wd.heap.size+1:=by simp
   change Blk (wd.alloc (.cells #[.int .i64 b,.string cs,.int .i64 r,.string t] 65)) _ _ _ at B
   generalize wd.alloc (.cells #[.int .i64 b,.string cs,.int .i64 r,.string t] 65)=w6 at *;have k0:=aA m d0;have k1:=aA m d1;have k2:=aA m d2;have k3:=aA m d3;refine hK _ _ (fun _=>⟨k0,k1,k2,k3⟩) ?_;simp only[nrm];clear hK;have M:=lh (I.o.trans m);have a1:=lh B;clear m B d0 d1 d2 d3;refine sp 23 rfl rfl rfl fun K hK=>?_;refine eD (.tmp 11) (.tmp 33) rfl 65 4 48 underlying44 P Q y a4 rfl (by omega) (.slice A9 i c9) i ((L.take i).flatMap OpV.cells) rfl (jK (iB G.o M.o (by simp))) ⟨wd.heap.size,0,none⟩ 1 1 [.int .i64 b,.string cs,.int .i64 r,.string t] rfl rfl (fun j u Y=>by rw[Go.Addr.add_mid,cC];exact a1.o.at_ Y) (aNP ⟨b,cs,r,t⟩) (by omega) (by unfold maxLen;omega) (by omega) (wd.heap.size+1) J fun g7 c7 w7 U q z V=>hK _ _ (fun _=>⟨zQ q k0 f,zQ q k1 f,zQ q k2 f,zQ q k3 f⟩) ?_;simp only[nrm];clear hK k0 k1 k2 k3;refine sp 24 rfl rfl rfl fun K hK=>?_;refine nA (v:=?aq1_24) ?yq1_24 (hK _ _ (fun h=>absurd h (by decide +kernel)) ?_)
   case yq1_24=>go_simp<;>with_reducible rfl
   simp only[nrm];refine _root_.Go.Proofs.YtebjhcjbfaaejaaGreatDoor.wd ?_ _;have a9:=X.o.size;have a':=I.o.size
   have a2:Hid (w7.ownsRow w.heap.size 65 4 (.slice (some ⟨g7,0,none⟩) (i+1) c7) (i+1) ((L.take (i+1)).flatMap OpV.cells)):=lh (by
    rw[a0.o]
    exact vP U fun g' a5=>by
     have e:g7=g':=by simpa[Value.ownBlock]using a5
     subst e;rcases z with h|h
     ·exact lF G.o _ h
     ·omega)
   have a3:Hid (Fr [] w w7):=lh ((X.o.trans M.o).trans q fun x hx=>.inr (lF G.o x (by simpa using hx)));clear U q z V J;go_wp2_with fail
   go_roundg (n-(i+1))
   case measure=>omega
   case rel=>exact⟨i+1,by omega,rfl,a2.o,a3.o⟩
  ·obtain rfl:i=n:=by omega
   have l:=G.o;rw[zF (by rw[HN.o];exact tA _)]at l;obtain⟨g9,S,D,T⟩:=iH.of_own l w.heap.size;obtain⟨A9,c9,rfl,_,_⟩:=sA l
   have N:w.heap.size<=g9:=by
    by_cases h0:0<i
    ·exact lF l _ (D h0)
    ·rw[T (by omega)];exact tA _
   have O:0<i->g9<wr.heap.size:=fun h0=>sF l _ (D h0);have HX:=lh (HQ.o _ _ ⟨_,g9,rfl,by rw[<- List.flatMap_def];exact S,N,O,X.o⟩);clear l S D T N O;go_wp2_with fail;exact HX.o
def OkRd (o:RdA):Prop:=o.L.length<=12/\∀p∈o.L,p.cs.size<=100/\p.ts.size<=1500
def OkRds (l:List RdA):Prop:=l.length<=20/\∀o∈l,OkRd o
theorem mW{l:List α}{k:Nat}{a:α}{p:α->Prop}(h:∀x∈l.take k,p x)(h1:l[k]? = some a)(c:p a):∀x∈l.take (k+1),p x:=fun x b=>by
 rw[oM,h1,pD]at b;rcases b with b|b
 ·exact h x b
 ·obtain rfl:x=a:=by simpa using b
  exact c
theorem aRi{W w:World}{v:Value}{l:List RdA}(hl:aLc W v l)(hf:Fr [] W w):
  Calls prog 7 #[v] w fun e w'=>∃b,e=.returned (.bool b)/\(b=true->OkRds l)/\Fr [] w w':=by
 refine gA fun R HQ=>?_;obtain⟨A,c,g,off,rfl,hm,M⟩:=hl;unfold maxLen at hm;obtain⟨n,Z⟩:∃n,l.length=n:=⟨_,rfl⟩;rw[Z]at hm⊢;have Q:=lh Z;have S:=lh M;have T:=lh hf;have r:=lh (HQ.o _ w ⟨false,rfl,(fun h=>by cases h),Fr.refl _ _⟩);clear M hf Z
 by_cases P:20<n
 ·have U:(20:Int)<(n:Int):=by omega
  clear P
  go_enter func7,ntmps7
  go_wp2_with fail;exact r.o
 ·have U:¬ (20:Int)<(n:Int):=by omega
  go_enter func7,ntmps7
  go_wp2_with fail
  go_loopg [3] n (fun j v3 wr=>∃i:Nat,i+j=n/\v3=.int .i64 (i:Int)/\(∀o∈l.take i,OkRd o)/\wr=w)
  case atStart=>exact⟨0,by omega,rfl,(fun o C=>by simp at C),rfl⟩
  case round=>
   obtain⟨i,hi,rfl,f,rfl⟩:=hrel;obtain⟨wo,rfl⟩:=nm (wr);have t:=lh f;clear f
   by_cases a1:i<n
   ·obtain⟨o,C⟩:∃o,l[i]? = some o:=gx (by rw[Q.o];exact a1);obtain⟨rfl,D⟩:=S.o i o C;obtain⟨A2,c2,g2,a5,F,N,O,u⟩:=D.a;obtain⟨q,G⟩:∃q,o.L.length=q:=⟨_,rfl⟩;rw[G]at F N O;have k0:=T.o.keep D.c0;rw[F]at k0;unfold maxLen at O;have hI:(i:Int)<(n:Int):=by omega
    have a6:IntKind.i64.wrap ((i:Int)+1)=((i+1:Nat):Int):=by rw[iD];omega
    have HO:=lh C;have I:=lh u;have B:=lh G;clear C D F u G
    by_cases a2:12<q
    ·have J:(12:Int)<(q:Int):=by omega
     clear a2;go_wp2_with fail;exact r.o
    ·have J:¬ (12:Int)<(q:Int):=by omega
     go_wp2_with fail
     go_loopg [4] q (fun j v4 a0=>∃k:Nat,k+j=q/\v4=.int .i64 (k:Int)/\(∀p∈o.L.take k,p.cs.size<=100/\p.ts.size<=1500)/\a0=wo)
     case atStart=>exact⟨0,by omega,rfl,(fun o C=>by simp at C),rfl⟩
     case round=>
      obtain⟨k,hk,rfl,d,rfl⟩:=hrel;have m:=lh d;clear d
      by_cases a3:k<q
      ·obtain⟨p,hp⟩:∃p,o.L[k]? = some p:=gx (by rw[B.o];exact a3);obtain⟨rfl,H⟩:=I.o k p hp;have q1:=T.o.keep (H 1 (.string p.cs) rfl);have q3:=T.o.keep (H 3 (.string p.ts) rfl);have a7:(k:Int)<(q:Int):=by omega
       have a4:IntKind.i64.wrap ((k:Int)+1)=((k+1:Nat):Int):=by rw[iD];omega
       have HP:=lh hp;clear hp H
       by_cases y:100<p.cs.size
       ·have V:(100:Int)<(p.cs.size:Int):=by omega
        clear y;go_wp2_with fail;exact r.o
       ·have V:¬ (100:Int)<(p.cs.size:Int):=by omega
        by_cases z:1500<p.ts.size
        ·have X:(1500:Int)<(p.ts.size:Int):=by omega
         clear z;go_wp2_with fail;exact r.o
        ·have X:¬ (1500:Int)<(p.ts.size:Int):=by omega
         have Y:=lh (mW m.o HP.o ⟨by omega,by omega⟩);clear y z;go_wp2_with fail
         go_roundg (q-(k+1))
         case measure=>omega
         case rel=>exact⟨k+1,by omega,rfl,Y.o,rfl⟩
      ·obtain rfl:k=q:=by omega
       have d:=m.o;rw[zF (by rw[B.o];exact tA _)]at d;have Y:=lh (mW (p:=OkRd) t.o HO.o ⟨by rw[B.o];omega,d⟩);clear d;go_wp2_with fail
       go_roundg (n-(i+1))
       case measure=>omega
       case rel=>exact⟨i+1,by omega,rfl,Y.o,rfl⟩
   ·obtain rfl:i=n:=by omega
    have f:=t.o;rw[zF (by rw[Q.o];exact tA _)]at f;have HX:=lh (HQ.o _ _ ⟨true,rfl,(fun _=>⟨by rw[Q.o];omega,f⟩),Fr.refl _ _⟩);clear f;go_wp2_with fail;exact HX.o
end
section
def Re (c d:CD):Prop:=∃pg:Nat->List UInt8,(∀k,k<c.n->pg k=c.pg k)/\d={ c with pg:=pg }
def ReO {α:Type} (o p:Option (CD×α)):Prop:=(o=none/\p=none)∨∃x y,o=some x/\p=some y/\y.2=x.2/\Re x.1 y.1
section
variable {c d : CD}
theorem Re.N(h:Re c d):d.N=c.N:=by
 obtain⟨pg,h,rfl⟩:=h
 funext k
 unfold CD.N
 simp only
 by_cases b:1<=k/\k<c.n
 ·simp only[b,and_self,mH];rw[h k b.2]
 ·simp only[b,dE]
theorem Re.nx(h:Re c d):d.nx=c.nx:=by
 obtain⟨pg,h,rfl⟩:=h
 funext k
 unfold CD.nx
 simp only
 by_cases b:k<c.n
 ·rw[h k b]
 ·simp only[b,decide_false,Bool.not_false,Bool.or_true,mH]
theorem Re.same(h:Re c d):d.n=c.n/\d.next=c.next/\d.head=c.head/\d.roots=c.roots/\d.M=c.M/\d.S=c.S/\d.e=c.e:=by
 obtain⟨pg,_,rfl⟩:=h;exact⟨rfl,rfl,rfl,rfl,rfl,rfl,rfl⟩
theorem Re.write(h:Re c d)(k:Nat)(n:Nd):Re (c.write k n) (d.write k n):=by obtain⟨pg,h,rfl⟩:=h;exact⟨pg,h,rfl⟩
theorem Re.free(h:Re c d)(k:Nat):Re (c.free k) (d.free k):=by obtain⟨pg,h,rfl⟩:=h;exact⟨pg,h,rfl⟩
theorem Re.root(h:Re c d)(t v:Nat):Re (c.root t v) (d.root t v):=by obtain⟨pg,h,rfl⟩:=h;exact⟨pg,h,rfl⟩
theorem Re.full(h:Re c d):Re c.full d.full:=by
 obtain⟨pg,h,rfl⟩:=h;unfold CD.full
 by_cases b:c.e=0
 ·rw[iA b,iA b];exact⟨pg,h,rfl⟩
 ·rw[eA b,eA b];exact⟨pg,h,rfl⟩
theorem Re.alloc(h:Re c d):d.alloc.2=c.alloc.2/\Re c.alloc.1 d.alloc.1:=by
 have f:=h.nx;have g:=h.full;obtain⟨i,j,k,_⟩:=h.same;obtain⟨pg,h,b⟩:=h;unfold CD.alloc;rw[f,i,j,k]
 by_cases h1:c.head≠0
 ·rw[iA h1,iA h1];exact⟨rfl,pg,h,by rw[b]⟩
 ·rw[eA h1,eA h1]
  by_cases h2:c.next<c.n
  ·rw[iA h2,iA h2];exact⟨rfl,pg,h,by rw[b]⟩
  ·rw[eA h2,eA h2];exact⟨rfl,g⟩
theorem Re.lay(h:Re c d)(k:Nat)(n:Nd):(d.lay k n).2=(c.lay k n).2/\Re (c.lay k n).1 (d.lay k n).1:=by
 unfold CD.lay
 by_cases h1:n.size<=512
 ·rw[iA h1,iA h1];exact⟨rfl,h.write k n⟩
 ·rw[eA h1,eA h1];obtain⟨a,b⟩:=h.alloc;rw[a];exact⟨rfl,(b.write _ _).write _ _⟩
theorem Re.layO(h:Re c d)(k:Nat)(n:Nd):ReO (some (c.lay k n)) (some (d.lay k n)):=.inr ⟨_,_,rfl,rfl,(h.lay k n).1,(h.lay k n).2⟩
theorem Re.ret(h:Re c d)(a:α):ReO (some (c,a)) (some (d,a)):=.inr ⟨_,_,rfl,rfl,rfl,h⟩
theorem ReO.none:ReO (none:Option (CD×α)) none:=.inl ⟨rfl,rfl⟩
theorem Re.put:∀(f:Nat) {c d:CD},Re c d->∀(k:Nat) (x:It),ReO (aBw f c k x) (aBw f d k x)
 | 0,_,_,_,_,_=>ReO.none
 | f+1,c,d,h,k,x=>by
  unfold aBw;rw[h.N]
  cases c.N k with
  | none=>exact ReO.none
  | some n=>
   simp only
   by_cases h1:n.lf=true
   ·rw[iA h1,iA h1];exact h.layO _ _
   ·rw[eA h1,eA h1];rcases Re.put f h (n.child (n.way x.key)) x with ⟨b,g⟩|⟨⟨c1,u⟩,⟨l,v⟩,b,g,j,i⟩
    ·rw[b,g];exact ReO.none
    ·rw[b,g]
     simp only at j i⊢
     subst j
     by_cases h2:v.2=0
     ·rw[iA h2,iA h2];exact i.ret _
     ·rw[eA h2,eA h2];exact i.layO _ _
theorem Re.join(h:Re c d)(at_:Nat)(n:Nd)(k:Nat):ReO (aBi c at_ n k) (aBi d at_ n k):=by
 unfold aBi;rw[h.N]
 cases c.N (n.child k) with
 | none=>exact ReO.none
 | some a=>
  cases c.N (n.child (k+1)) with
  | none=>exact ReO.none
  | some b=>
   cases n.l[k]? with
   | none=>exact ReO.none
   | some y=>
    simp only
    by_cases h1:(a.with_ y.key b).size<=512
    ·rw[iA h1,iA h1];exact((h.write _ _).free _).layO _ _
    ·rw[eA h1,eA h1];exact((h.write _ _).write _ _).layO _ _
theorem Re.mend(h:Re c d)(at_:Nat)(n:Nd)(k:Nat)(u:Ky×Nat):ReO (cZ c at_ n k u) (cZ d at_ n k u):=by
 unfold cZ;rw[h.N,h.same.2.2.2.2.2.2]
 by_cases h1:u.2≠0
 ·rw[iA h1,iA h1];exact h.layO _ _
 ·rw[eA h1,eA h1]
  cases c.N (n.child k) with
  | none=>exact ReO.none
  | some x=>
   simp only
   split
   ·exact h.ret _
   ·exact h.join _ _ _
theorem Re.cut:∀(f:Nat) {c d:CD},Re c d->∀(k:Nat) (key:Ky),ReO (dZ f c k key) (dZ f d k key)
 | 0,_,_,_,_,_=>ReO.none
 | f+1,c,d,h,k,key=>by
  unfold dZ;rw[h.N]
  cases c.N k with
  | none=>exact ReO.none
  | some n=>
   simp only
   by_cases h1:n.lf=true
   ·rw[iA h1,iA h1]
    split
    ·exact(h.write _ _).ret _
    ·exact h.ret _
   ·rw[eA h1,eA h1];rcases Re.cut f h (n.child (n.way key)) key with ⟨b,g⟩|⟨⟨c1,r,u⟩,⟨t,o,v⟩,b,g,m,i⟩
    ·rw[b,g];exact ReO.none
    ·rw[b,g];simp only[Prod.mk.injEq]at m i⊢;obtain⟨rfl,rfl⟩:=m
     split
     ·rcases i.mend k n (n.way key) v with ⟨j,l⟩|⟨x,y,j,l,p,q⟩
      ·rw[j,l];exact ReO.none
      ·rw[j,l];exact .inr ⟨_,_,rfl,rfl,by simp only;rw[p],q⟩
     ·exact i.ret _
theorem Re.grow(h:Re c d)(t:Nat)(u:Ky×Nat):Re (lE c t u) (lE d t u):=by
 unfold lE
 split
 ·exact h
 ·obtain⟨a,b⟩:=h.alloc;rw[a,h.same.2.2.2.1];exact(b.root _ _).write _ _
theorem Re.putC(h:Re c d)(t:Nat)(x:It):(putC c t x=none/\putC d t x=none)∨∃a b,putC c t x=some a/\putC d t x=some b/\Re a b:=by
 unfold Go.Proofs.YtebjhcjbfaaejaaGreatDoor.putC;rw[h.same.2.2.2.1]
 by_cases h1:c.roots t=0
 ·rw[iA h1,iA h1];obtain⟨a,b⟩:=h.alloc;rw[a];exact .inr ⟨_,_,rfl,rfl,(b.root _ _).write _ _⟩
 ·rw[eA h1,eA h1];rcases h.put 40 (c.roots t) x with ⟨f,g⟩|⟨⟨c1,u⟩,⟨k,v⟩,f,g,i,j⟩
  ·rw[f,g];exact .inl ⟨rfl,rfl⟩
  ·rw[f,g]
   simp only at i j
   subst i;exact .inr ⟨_,_,rfl,rfl,j.grow t v⟩
theorem Re.lower(h:Re c d)(t:Nat):(oK c t=none/\oK d t=none)∨∃a b,oK c t=some a/\oK d t=some b/\Re a b:=by
 unfold oK;rw[h.N,h.same.2.2.2.1,h.same.2.2.2.2.2.2]
 cases c.N (c.roots t) with
 | none=>exact .inl ⟨rfl,rfl⟩
 | some n=>
  simp only
  split
  ·exact .inr ⟨_,_,rfl,rfl,h⟩
  ·exact .inr ⟨_,_,rfl,rfl,(h.free _).root _ _⟩
theorem Re.delC(h:Re c d)(t:Nat)(key:Ky):ReO (delC c t key) (delC d t key):=by
 unfold Go.Proofs.YtebjhcjbfaaejaaGreatDoor.delC;rw[h.same.2.2.2.1]
 by_cases h1:c.roots t=0
 ·rw[iA h1,iA h1];exact h.ret _
 ·rw[eA h1,eA h1];rcases h.cut 40 (c.roots t) key with ⟨b,f⟩|⟨⟨c1,o,u⟩,⟨p,l,v⟩,b,f,k,g⟩
  ·rw[b,f];exact ReO.none
  ·rw[b,f];simp only[Prod.mk.injEq]at k g⊢;obtain⟨rfl,rfl⟩:=k
   split
   ·rcases(g.grow t v).lower t with ⟨i,j⟩|⟨x,y,i,j,m⟩
    ·rw[i,j];exact ReO.none
    ·rw[i,j];exact .inr ⟨_,_,rfl,rfl,rfl,m⟩
   ·exact g.ret _
end
theorem Re.begin{pg b:Nat->List UInt8}{n:Nat}(h0:0<n)(h:∀k,k<n->b k=pg k):Re (aC pg n) (aC b n):=by
 have c:=h 0 h0;refine⟨b,?_,?_⟩
 ·rw[(nG pg n).1,(nG pg n).2.1];exact h
 ·unfold aC;rw[c]
  split<;>rfl
structure aEg (s t:PS):Prop where
 pos:0<s.n
 n:t.n=s.n
 late:t.late=s.late
 pg:∀k,k<s.n->t.page k=s.page k
theorem aEg.write{s t:PS}(h:aEg s t)(k:Nat)(b:List UInt8):aEg (s.write k b) (t.write k b):=
 ⟨h.pos,h.n,by show cO t.late k _=cO s.late k _;rw[h.late],fun j c=>by rw[jO,jO,h.pg j c]⟩
theorem aEg.fold(f:α->Nat×List UInt8):∀(l:List α) {s t:PS},aEg s t->aEg (l.foldl (fun s p=>s.write (f p).1 (f p).2) s) (l.foldl (fun s p=>s.write (f p).1 (f p).2) t)
 | [],_,_,h=>h
 | _::l,_,_,h=>aEg.fold f l (h.write _ _)
theorem aEg.endS{s t:PS}(h:aEg s t){c d:CD}(k:Re c d):aEg (endS s c) (endS t d):=by
 obtain⟨_,b,f,g,i,j,_⟩:=k.same;unfold Go.Proofs.YtebjhcjbfaaejaaGreatDoor.endS pX vV;rw[i,j,show iJ d=iJ c by unfold iJ;rw[b,f,g]];exact((h.fold (fun p:Nat×Nd=>(p.1,p.2.written)) c.M).fold (fun p:Nat×Nat=>(p.1,b16 p.2)) c.S).write _ _
structure qL (x y:SE):Prop where
 s:aEg x.s y.s
 E:y.E=x.E
structure Tw (r q:SE×Int):Prop where
 a:q.2=r.2
 x:qL r.1 q.1
theorem Tw.mk'{x y:SE}(h:qL x y)(e:Int):Tw (x,e) (y,e):=⟨rfl,h⟩
section
variable {x y : SE}
theorem qL.begin(h:qL x y):Re (aC x.s.page x.s.n) (aC y.s.page y.s.n):=by rw[h.s.n];exact Re.begin h.s.pos h.s.pg
theorem qL.put(h:qL x y)(t:Nat)(k v:Ky):Tw (putS x t k v) (putS y t k v):=by
 unfold putS;rw[h.E];rcases h.begin.putC t ⟨k,v,0⟩ with ⟨c,d⟩|⟨a,b,c,d,f⟩
 ·rw[c,d];exact Tw.mk' h 5
 ·rw[c,d]
  simp only
  rw[f.same.2.2.2.2.2.2]
  split
  ·exact⟨rfl,h.s.endS f,rfl⟩
  ·exact Tw.mk' h 5
theorem qL.del(h:qL x y)(t:Nat)(k:Ky):Tw (delS x t k) (delS y t k):=by
 unfold delS;rw[h.E,h.begin.same.2.2.2.1]
 split
 ·exact⟨rfl,h.s,rfl⟩
 ·rcases h.begin.delC t k with ⟨c,d⟩|⟨⟨a,i⟩,⟨b,j⟩,c,d,g,f⟩
  ·rw[c,d];exact Tw.mk' h 5
  ·rw[c,d]
   simp only
   rw[f.same.2.2.2.2.2.2]
   split
   ·exact⟨rfl,h.s.endS f,rfl⟩
   ·exact Tw.mk' h 5
theorem Tw.cut:∀(L:En) {r q:SE×Int},Tw r q->Tw (cutL L r) (cutL L q)
 | [],_,_,h=>h
 | e::L,r,q,h=>by
  rw[wQ,wQ,h.a];refine Tw.cut L ?_
  split
  ·exact h.x.del 0 e.1
  ·exact h
theorem qL.cut(h:qL x y)(k:Ky):Tw (cutS x k) (cutS y k):=by
 unfold cutS;rw[h.E];exact Tw.cut _ (Tw.mk' h 0)
theorem qL.lay(s:Ky)(n:Nat)(b:List UInt8):∀(m j:Nat) {x y:SE},qL x y->Tw (layS s n b j m x) (layS s n b j m y)
 | 0,_,_,_,h=>Tw.mk' h 0
 | m+1,j,x,y,h=>by
  have c:=h.put 0 (nB s [n,j]) (pc b j);unfold layS;rw[c.a]
  split
  ·exact qL.lay s n b m (j+1) c.x
  ·exact c
theorem qL.one(h:qL x y)(o:OpC):Tw (oneS x o) (oneS y o):=by
 have hi:isS y o.coll=isS x o.coll:=by unfold isS;rw[h.E]
 unfold oneS;rw[hi]
 split
 ·unfold kW;rw[h.E]
  split
  ·exact Tw.mk' h _
  ·split
   ·exact Tw.mk' h _
   ·exact h.put _ _ _
 ·split
  ·split
   ·exact Tw.mk' h _
   ·split
    ·have b:=h.cut (nmK o.coll);unfold aDS;rw[b.a]
     split
     ·exact b.x.del _ _
     ·exact b
    ·split
     ·have b:=h.cut (nB o.coll [o.id.toNat]);unfold qZ
      split
      ·exact Tw.mk' h _
      ·split
       ·exact Tw.mk' h _
       ·rw[b.a]
        split
        ·exact qL.lay _ _ _ _ _ b.x
        ·exact b
     ·have b:=h.cut (nB o.coll [o.id.toNat]);unfold jW;rw[b.a,h.E]
      split
      ·exact Tw.mk' h _
      ·split
       ·exact Tw.mk' b.x _
       ·exact b
  ·exact Tw.mk' h _
theorem qL.all:∀(l:List OpC) {x y:SE},qL x y->Tw (allS x l) (allS y l)
 | [],_,_,h=>Tw.mk' h 0
 | o::l,x,y,h=>by
  have b:=h.one o;unfold allS;rw[b.a]
  split
  ·exact qL.all l b.x
  ·exact b
end
end
section
theorem aJc{D:DM}{l:LG}{b:List UInt8}(h:lC D l b=0):pA b.length<=l.n:=by
 unfold lC at h
 split at h
 ·cases h
 ·split at h
  ·cases h
  ·split at h
   ·cases h
   ·omega
section
variable {c c' N N' : Nat} {s t : PS} {C C' : Nat -> List UInt8} {x y : SE}
theorem zE.fits(h:zE c s C)(r:c+4<4294967296)(h0:s.commit.2=0)(m:s.late≠[]):pA (bD s.late).length<=s.l.n:=by
 have g:¬s.br=true:=by rw[h.br];decide
 have o:=h.n2;unfold PS.commit at h0;rw[eA g,eA m]at h0
 by_cases b:(s.append (bD s.late)).2≠0
 ·rw[iA b]at h0;exact absurd h0 b
 ·have b:(s.append (bD s.late)).2=0:=Decidable.not_not.1 b;unfold PS.append at b
  by_cases j:lC s.D s.l (bD s.late)≠5∨s.held=[]
  ·rw[iA j]at b;exact aJc b
  ·rw[eA j]at b
   have i:lC s.D s.l (bD s.late)=5:=by
    by_cases k:lC s.D s.l (bD s.late)=5
    ·exact k
    ·exact absurd (.inl k) j
   have p:aK s.n (bD s.late) s.held=some (gH s.held s.late):=kU (by omega) s.late s.held h.late.mem
   have d:s.laid (bD s.late)=s:=by
    rcases h.app (by omega) p (xL h.late m) with ⟨_,a,_⟩|⟨_,_,_,a⟩|⟨a,_⟩|⟨a,_⟩
    ·rw[i]at a;cases a
    ·exact a
    ·rw[i]at a;cases a
    ·rw[i]at a;cases a
   rw[d]at b;rcases h.checked (by omega) with ⟨f,_,_,_,_,q,_⟩|⟨f,_⟩
   ·rw[eA (by rw[f];decide)]at b;rw[<- q];exact aJc b
   ·rw[iA (by rw[f];decide)]at b;rw[f]at b
    cases b
theorem zE.code(h:zE c s C)(j:c+4<4294967296)(p:s.n<=100)(b:s.D.limit = -1)(q:s.l.n=400):s.commit.2=if s.late.length<=37 then 0 else 5:=by
 by_cases i:s.late=[]
 ·have f:¬s.br=true:=by rw[h.br];decide
  unfold PS.commit;rw[eA f,iA i,i]
  rfl
 ·have h1:=eO h.late.mem;have h2:=h.late.few;have g:=h.not4 j p;rcases h.committed j with ⟨d,_⟩|⟨d,_,_,_,_,_,m⟩|⟨_,_,o,_⟩
  ·have k:=h.fits j d i;rw[d,iA];unfold pA at k
   split at k<;>omega
  ·rw[d.resolve_left g,eA];unfold pA at m
   split at m<;>omega
  ·exact absurd b o
theorem zE.base(h:zE c s C){k:Nat}(b:k<s.n):({ s with late:=[] }:PS).page k=C k:=by
 have:=h.rolled.page_eq b;rw[this]
 rfl
theorem aSd{cx cy:Ct}(X:Liv c N x cx)(Y:Liv c' N' y cy)(h:qL x y){l:List OpC}(z:Wr x.s (allS x l).1.s)(A:Wr y.s (allS y l).1.s)(Z:c+4<4294967296)(q:c'+4<4294967296)(hn:x.s.n<=100)(P:x.s.l.n=400)(Q:y.s.l.n=400)(lx:x.s.D.limit = -1)(ly:y.s.D.limit = -1):
  Tw (doS x l) (doS y l):=by
 obtain⟨C,V,_⟩:=X.com.inv;obtain⟨C',r,_⟩:=Y.com.inv;have f:=qL.all l h;have H:=z.inv V;have g:=A.inv r
 have m:∀k,k<x.s.n->C' k=C k:=fun k d=>by
  have S:=V.page_eq d;have T:=r.page_eq (k:=k) (by rw[h.s.n];exact d);rw[X.late]at S;rw[Y.late]at T;have U:=h.s.pg k d;rw[S,T]at U;exact U
 have o:=z.same;have B:=A.same;have I:=H.code Z (by rw[o.n];exact hn) (by rw[o.D];exact lx) (by rw[o.l];exact P);have i:=g.code q (by rw[B.n,h.s.n];exact hn) (by rw[B.D];exact ly) (by rw[B.l];exact Q);rw[f.x.s.late,<- I]at i;unfold doS;rw[f.a]
 by_cases h1:(allS x l).2≠0
 ·rw[iA h1,iA h1]
  exact⟨rfl,⟨⟨f.x.s.pos,f.x.s.n,rfl,fun k d=>by
   have b:k<(allS x l).1.s.n:=d;have J:k<x.s.n:=by rw[<- o.n];exact b
   show PS.page { (allS y l).1.s with late:=[] } k=PS.page { (allS x l).1.s with late:=[] } k
   rw[H.base b,g.base (by rw[f.x.s.n];exact b),m k J]⟩,h.E⟩⟩
 ·rw[eA h1,eA h1,i];rcases H.committed Z with ⟨u,M,G,p,_⟩|⟨u,M,_,p,_⟩|⟨_,_,G,_⟩
  ·have F:(allS y l).1.s.commit.2=0:=by rw[i];exact u
   rcases g.committed q with ⟨_,O,W,v,_⟩|⟨j,_⟩|⟨j,_⟩
   ·rw[eA (by rw[u];decide),eA (by rw[u];decide)];refine⟨rfl,⟨⟨by show 0<(allS x l).1.s.commit.1.n;rw[p];exact f.x.s.pos,by show(allS y l).1.s.commit.1.n=(allS x l).1.s.commit.1.n;rw[p,v];exact f.x.s.n,by show(allS y l).1.s.commit.1.late=(allS x l).1.s.commit.1.late;rw[G,W],fun k d=>?_⟩,f.x.E⟩⟩;have d:k<(allS x l).1.s.commit.1.n:=d
    show(allS y l).1.s.commit.1.page k=(allS x l).1.s.commit.1.page k
    have b:k<(allS x l).1.s.n:=by rw[<- p];exact d
    rw[M.page_eq d,O.page_eq (by rw[v,f.x.s.n];exact b),G,W]
    show aEq C' (allS y l).1.s.late k=aEq C (allS x l).1.s.late k
    unfold aEq;rw[f.x.s.late,m k (by rw[<- o.n];exact b)]
   ·rw[F]at j;rcases j with h|h<;>cases h
   ·rw[F]at j
    cases j
  ·have L:(allS x l).1.s.commit.2≠0:=by rcases u with h|h<;>rw[h]<;>decide
   have F:(allS y l).1.s.commit.2≠0:=by rw[i];exact L
   rcases g.committed q with ⟨j,_⟩|⟨_,O,_,v,_⟩|⟨_,_,j,_⟩
   ·exact absurd j F
   ·rw[iA L,iA L];refine⟨rfl,⟨⟨by show 0<(allS x l).1.s.commit.1.n;rw[p];exact f.x.s.pos,by show(allS y l).1.s.commit.1.n=(allS x l).1.s.commit.1.n;rw[p,v];exact f.x.s.n,rfl,fun k d=>?_⟩,h.E⟩⟩;have d:k<(allS x l).1.s.commit.1.n:=d;have b:k<(allS x l).1.s.n:=by rw[<- p];exact d
    show PS.page { (allS y l).1.s.commit.1 with late:=[] } k=PS.page { (allS x l).1.s.commit.1 with late:=[] } k
    rw[M.base d,O.base (by rw[v,f.x.s.n];exact b),m k (by rw[<- o.n];exact b)]
   ·exact absurd (by rw[B.D];exact ly) j
  ·exact absurd (by rw[o.D];exact lx) G
end
structure aHh (c n:Nat) (D:DM) (x:SE):Prop where
 disk:∃C,eJ c n 400 D C/\∀k,k<n->C k=x.s.page k
 lim:D.limit = -1
 done:D.done<=300000*c
theorem DM.again{D:DM}(h1:D.P=[])(h2:D.dead=false)(h3:D.limit = -1):D.reopen []=D:=by
 cases D
 simp only at h1 h2 h3
 subst h1 h2 h3
 rfl
section
variable {c c' N N' n : Nat} {D : DM} {x y : SE} {cx : Ct}
theorem aHh.open_(h:aHh c n D x)(f:Liv c' N x cx)(b:x.s.n=n)(o:c+1<4294967296):
  ∃H,iF n ((rA 400 none (D.S.take 400)).map (·.2)) []=some H/\(tB (D.S.take 400)).1<4294967295/\D.dead=false/\D.P=[]/\400+8*n<=D.S.length/\1<=n/\n<=4096 /\
   qL x ⟨gG n 400 D H,x.E⟩/\Liv (c+1) N ⟨gG n 400 D H,x.E⟩ cx:=by
 obtain⟨C,h1,h2⟩:=h.disk;obtain⟨H,l,i,m⟩:=h1.open_ o
 have j:∀k,k<n->(gG n 400 D H).page k=x.s.page k:=fun k d=>by
  rw[i.page_eq (k:=k) d,<- h2 k d]
  rfl
 refine⟨H,l,m,h1.dead,h1.pend,h1.fit,h1.n1,h1.n2,⟨⟨by rw[b];exact h1.n1,b.symm,f.late.symm,fun k d=>j k (by rw[<- b];exact d)⟩,rfl⟩,⟨⟨C,i,?_⟩,by have:=h.done;show D.done<=300000*(c+1);omega⟩,rfl,f.few,f.rep⟩;have g:=f.com.store f.late;rw[b]at g;exact g.congr fun k d=>h2 k d
theorem Liv.offT(h:Liv c N y cx)(ht:qL x y)(d:y.s.n=n)(i:y.s.l.n=400)(f:y.s.D.limit = -1):aHh c n y.s.D x:=by
 obtain⟨C,h1,_⟩:=h.com.inv;have h2:=h1.closed [];rw[DM.again h1.pend h1.dead f,d,i]at h2;refine⟨⟨C,h2,fun k g=>?_⟩,f,h.com.done⟩;have b:k<y.s.n:=by rw[d];exact g
 have:=h1.page_eq b;rw[h.late]at this;rw[<- ht.s.pg k (by rw[<- ht.s.n];exact b),this]
 rfl
end
end
section
open Go.RowKit Go.ChangeMaps Go.MapKept Go.Maps Go.Sort Go.Shelf
section
variable {w0 w w' : World} {dk g st ca : Nat} {x : SE} {X : Nat -> Prop} {cc N : Nat} {c : Ct}
theorem CtX.done(h:CtX w0 w dk g st ca x X){l:List OpC}{e:Ending}(i:aIT w0 dk g st ca x X l w e w')(b:Liv cc N (doS x l).1 c):CtX w0 w' dk g st ca (doS x l).1 X:=by
 obtain⟨_,_,_,f,d⟩:=i;exact⟨⟨f,d.blk h.sx.blk h.sx.xs,h.sx.xs,b.com.br,b.com.calm,b.com.store b.late⟩,d.blk h.blk h.xc,h.xc⟩
theorem CtX.checked(h:CtX w0 w dk g st ca x X)(f:PgX w0 w' dk g S X)(d:Kp X w w')(b:Liv cc N ⟨S,x.E⟩ c):CtX w0 w' dk g st ca ⟨S,x.E⟩ X:=
 ⟨⟨f,d.blk h.sx.blk h.sx.xs,h.sx.xs,b.com.br,b.com.calm,b.com.store b.late⟩,d.blk h.blk h.xc,h.xc⟩
theorem Liv.check(h:Liv cc N x c)(i:cc+1<4294967296):
  (x.s.check.2=0/\Liv (cc+1) N ⟨x.s.check.1,x.E⟩ c/\x.s.check.1.n=x.s.n/\x.s.check.1.l.n=x.s.l.n/\(x.s.D.limit = -1->x.s.check.1.D.limit = -1)) ∨
  (x.s.check.2=10/\x.s.check.1.D.dead=true/\x.s.D.limit≠-1/\x.s.check.1.D.done<=300000*(cc+1)/\∀Q,OffC (cc+1) N x.s.n x.s.l.n (x.s.check.1.D.reopen Q) c):=by
 rcases h.com.check i with ⟨a,b,d,e,f,g⟩|⟨a,b,d,e,f⟩
 ·exact .inl ⟨a,⟨b,by show x.s.check.1.late=[];rw[d];exact h.late,h.few,h.rep⟩,e,f,g⟩
 ·exact .inr ⟨a,b,d,e,fun Q=>⟨x.E,f Q,h.few,h.rep⟩⟩
end
theorem aJd{w w1:World}{X:Nat->Prop}(h:Kp X w w1)(b:Fr [] w1 w'):Kp X w w':=h.more (Kp.of b)
theorem aSe{w0 w:World}{n log:Nat}{D:DM}{X:Nat->Prop}{N:Nat}{c:Ct}{H:PgM}{E:Nat->En}(h:DkX w0 w i D X)(b:D.dead=false)(d:D.P=[])(h1:1<=n)(h2:n<=4096)(h3:1<=log)(f:log+8*n<=D.S.length)(l:(tB (D.S.take log)).1<4294967295)(ht:iF n ((rA log none (D.S.take log)).map (·.2)) []=some H)(q:Liv j N ⟨gG n log D H,E⟩ c):
  Calls prog 9 #[.pointer (some ⟨i,0,none⟩),.int .i64 (n:Int),.int .i64 (log:Int)] w fun e w'=>∃g st t X',e=.returned (.tuple #[.pointer (some ⟨t,0,none⟩),.pointer (some ⟨g,0,none⟩),.int .i64 0])/\CtX w0 w' i g st t ⟨gG n log D H,E⟩ X'/\(∀k,X k->X' k)/\Kp X w w':=by
 have u:=lh (aOF h b d h1 h2 h3 f l ht);have z:=lh q.com.calm;have A:=lh q.com.br;have B:=lh (q.com.store q.late);refine gA fun R G=>?_;clear h b d h1 h2 h3 f l ht q
 go_enter func9,ntmps9
 go_wp2_with fail;refine u.o.mono ?_;rintro e w1 ⟨g,rfl,v,r⟩;have m:=lh (aFq v A.o z.o B.o);have C:=lh r;clear v r u;go_wp2_with fail;refine m.o.mono ?_;rintro e I ⟨st,t,rfl,p,y⟩;have F:=lh (G.o _ _ ⟨g,st,t,_,rfl,p,fun k r=>.inl r,aJd C.o y⟩);clear p y m;go_wp2_with fail;exact eF (by simp[results,Tryz.results9,go_sem]) rfl F.o
end
end Go.Proofs.YtebjhcjbfaaejaaGreatDoor
