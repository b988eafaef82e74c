/-
  Joined: Oh Oi Oj
-/
import Derived.Test.YtebjhcjbfaaejaaGreatDoorJca12
set_option maxRecDepth 100000
set_option maxHeartbeats 32000000
namespace Go.Proofs.YtebjhcjbfaaejaaGreatDoor
open Go.Proofs.Tryz
variable {n k m:Nat}{l:List UInt8}{u:Value}{F:List Value}{T:TypeId}
section
open Go.RowKit Go.Sort Go.Shelf
theorem wA{S:List Nat}{w w':World}(h:Fr S w w'){p:Addr}{v:Value}(c:p.block∉S)(b:w.cell? p=some v):w'.cell? p=some v:=by
 rw[h.cell (cF w _ b) c];exact b
theorem aEN(A:Option Addr)(n c hi:Nat)(h:hi<=c):∀w,(Instr.sliceAt 182 (.slice A n c) none (some (.int .i64 (hi:Int))) none).run prog w=.ok (.slice A hi c) w:=by
 intro w;have ht:prog.underlying 182=some (.slice 198):=Go.Proofs.Tryz.underlying182;have b:prog.elem 182=198:=by simp[Program.elem,ht]
 obtain⟨i,d,f⟩:=Option.map_eq_some_iff.1 pG;have g:∀w,(sizeOf 198).run prog w=.ok 3 w:=fun w=>by simp[sizeOf,typeInfo,go_sem,d,f]
 rw[Go.run_sliceAt_slice (h:=by rw[b];exact ht),run_slice_h (ht:=by rw[b];exact ht) (h0:=by omega) (h2:=by omega),b,g];have j:A.map (fun x=>x.add 0)=A:=by cases A<;>simp[Addr.add]
 simp[Result.andThen,sliced,j]
theorem aBo(g n c lo:Nat)(x:Int)(k:x=(lo:Int))(h1:lo<=n)(h2:lo<c):∀w,(Instr.sliceAt 182 (.slice (some ⟨g,0,none⟩) n c) (some (.int .i64 x)) none none).run prog w=.ok (.slice (some ⟨g,lo*3,none⟩) (n-lo) (c-lo)) w:=by
 intro w;subst k;have ht:prog.underlying 182=some (.slice 198):=Go.Proofs.Tryz.underlying182;have b:prog.elem 182=198:=by simp[Program.elem,ht]
 obtain⟨i,d,f⟩:=Option.map_eq_some_iff.1 pG;have j:∀w,(sizeOf 198).run prog w=.ok 3 w:=fun w=>by simp[sizeOf,typeInfo,go_sem,d,f]
 rw[Go.run_sliceAt_slice (h:=by rw[b];exact ht),run_slice_l (ht:=by rw[b];exact ht) (h0:=by omega) (h1:=by omega),b,j]
 simp[Result.andThen,sliced,Addr.add,show ¬ c=lo by omega]
 exact fun h=>h.symm
theorem NdV.make{D:Nat->Prop}{w0 w':World}{sv:Value}{n:Nd}{cs:List Value}(c:jF D w0 n.l cs)(b:w'.ownsRow w0.heap.size 198 3 sv n.l.length cs)(k:Fr [] w0 w')(f:∀q,w0.heap.size<=q->D q):
  NdV D w' w0.heap.size (.agg #[.int .i64 (dA n),.int .i64 (n.first:Int),sv]) n:=by
 refine⟨sv,cs,rfl,b,(c.re (D':=fun q=>D q/\sv.ownBlock≠some q) (fun q d h=>⟨d,fun e=>by have:=(b.lt q e).1;omega⟩) ⟨w0.heap.size+w'.heap.size,f _ (by omega),fun e=>by have:=sF b _ e;omega⟩).fr k (fun q d i=>by cases i),fun g j=>f g (b.lt g j).1⟩
theorem aBp{P:Program}{m:Func}{tmps:Array Value}{w:World}{k o h:Tmp}{t t':TypeId}{g:Nat}{cs:List Value}{d:TypeDesc}(r:m.results=#[.cell k t,.tmp o,.cell h t])(s:tmps.getD k undef=.pointer (some ⟨g,0,none⟩))(i:tmps.getD h undef=.pointer (some ⟨n,0,none⟩))(u:Blk w g t' cs)(j:Blk w n T F)
 (p:P.underlying t=some d)(v:d.isRow=true)(hi:(P.info? t).map (·.size)=some cs.length)(l:F.length=cs.length):(results m tmps).run P w=.ok (.tuple #[.agg cs.toArray,tmps.getD o undef,.agg F.toArray]) w:=by
 have q:=Go.run_loadVar_row (P:=P) w g t' t cs.toArray (0,0) d u p (by cases d<;>simp_all) (by simpa using hi);have c:=Go.run_loadVar_row (P:=P) w n T t F.toArray (0,0) d j p (by cases d<;>simp_all) (by simpa[l]using hi);have f:tmps[k]?.getD undef=.pointer (some ⟨g,0,none⟩):=by simpa using s
 have b:tmps[h]?.getD undef=.pointer (some ⟨n,0,none⟩):=by simpa using i
 simp[results,r,f,q,b,c,asAddr]
theorem iI(b:Array Value)(w:World):(callFunc 131 b).run prog w=.ok (.enter 131 b) w:=by kernel_rfl
theorem aRu{w:World}{g c k:Nat}{l:List It}{cs:List Value}(f:cs.length=l.length*3)(d:∀(j:Nat) (u:Value),cs[j]? = some u->w.cell? ⟨g,j,none⟩=some u)(h:k<=l.length)(i:l.length<=c):
  iH w (.slice (some ⟨g,0,none⟩) k c) k (cs.take (3*k)) g/\(cs.take (3*k)).length=k*3:=
 ⟨⟨_,c,0,rfl,by omega,fun _=>⟨rfl,fun j u b=>by
  rw[cC];have h1:=(tD.1 b).1;rw[List.getElem?_take_of_lt (by rw[jC]at h1;omega)]at b;exact d j u b⟩⟩,by rw[jC];omega⟩
theorem aLK{w:World}{g c k:Nat}{l:List It}{cs:List Value}(f:cs.length=l.length*3)(b:∀(j:Nat) (u:Value),cs[j]? = some u->w.cell? ⟨g,j,none⟩=some u)(h:k<=l.length)(i:l.length<=c):
  iH w (.slice (some ⟨g,k*3,none⟩) (l.length-k) (c-k)) (l.length-k) (cs.drop (3*k)) g/\(cs.drop (3*k)).length=(l.length-k)*3:=
 ⟨⟨_,c-k,k*3,rfl,by omega,fun _=>⟨rfl,fun j u d=>by
  rw[xJ,Nat.mul_comm]at d;exact b _ u d⟩⟩,by rw[mC];omega⟩
def aOP (D:Nat->Prop) (w:World) (n:Nd) (e:Ending) (w':World):Prop:=∃lv kv rv,e=.returned (.tuple #[lv,kv,rv])/\NdV D w' w.heap.size lv n.left/\(∃g,cA w' kv n.key g/\D g)/\NdV D w' w.heap.size rv n.right/\Fr [] w w'
theorem aId{D:Nat->Prop}{w:World}{base:Nat}{v:Value}{n:Nd}(h:NdV D w base v n)(c0:n.ok)(f8:n.size<=65536)(f0:1<=n.cutAt)(d4:n.cutAt<n.l.length)(hD:∀q,w.heap.size<=q->D q):
  Calls prog 189 #[v] w (aOP D w n):=by
 obtain⟨A,c,cs,rfl,hc,c2,Q,b0⟩:=h.parts;obtain⟨g,rfl,e9⟩:=b0 (by omega);obtain⟨x,hx⟩:∃x,n.l[n.cutAt]? = some x:=⟨_,xD d4⟩;obtain⟨kv,vv,av,H,i1,i2,e'⟩:=Q.at_ hx;obtain⟨wb,b1⟩:∃wb,wb=((w.alloc (.cells #[.int .i64 (dA n),.int .i64 (n.first:Int),.slice (some ⟨g,0,none⟩) n.l.length c] 184)).alloc (.cells znd.toArray 184)).alloc (.cells znd.toArray 184):=⟨_,rfl⟩;have c3:Fr [] w wb:=by rw[b1];exact(((Fr.refl [] w).alloc _).alloc _).alloc _
 have d5:Blk wb w.heap.size 184 [.int .i64 (dA n),.int .i64 (n.first:Int),.slice (some ⟨g,0,none⟩) n.l.length c]:=by rw[b1];exact((Blk.new w _ [.int .i64 (dA n),.int .i64 (n.first:Int),.slice (some ⟨g,0,none⟩) n.l.length c]).alloc _).alloc _
 have d6:Blk wb (w.heap.size+1) 184 znd:=by
  rw[b1];have:=Blk.new (w.alloc (.cells #[.int .i64 (dA n),.int .i64 (n.first:Int),.slice (some ⟨g,0,none⟩) n.l.length c] 184)) 184 znd;rw[xC]at this;exact this.alloc _
 have d7:Blk wb (w.heap.size+2) 184 znd:=by
  rw[b1];have:=Blk.new ((w.alloc (.cells #[.int .i64 (dA n),.int .i64 (n.first:Int),.slice (some ⟨g,0,none⟩) n.l.length c] 184)).alloc (.cells znd.toArray 184)) 184 znd
  rwa [xC,xC]at this
 have d8:=lh (aQA (h.fr c3) c0 f8);have d9:=lh d5;have d':=lh d6;have e0:=lh d7;have e1:=lh c3;have U:=lh e9;have HI:=lh Q;have f1:=lh c0;have HD:=lh hD;have HX:=lh hx;have e2:=lh e';have a0:=lh Q.len;have b7:=lh Q.one;have HG:Hid (g<w.heap.size):=lh (sF c2 g rfl);have e3:=lh H;have f2:=lh i2;have c1:Hid (n.key=x.key):=lh (by unfold Nd.key;rw[hx];rfl);have f9:=c0.few;clear d5 d6 d7 c3 e9 Q c0 c2 b0 h hD hx e' H i1 i2;refine gA fun R HQ=>?_;have e4:=lh f0;have B:=lh d4;clear f0 d4
 go_enter func189,ntmps189
 go_wp2_with (with_reducible refine mA rfl 184 rfl (.agg #[.int .i64 0,.int .i64 0,.slice none 0 0]) znd.toArray kD rfl ?_)
 rw[<- b1];refine d8.o.mono ?_;rintro e w1 ⟨rfl,b2⟩;have b8:=lh (e1.o.trans b2);have s:=lh (d9.o.fr b2);have a1:=lh (d'.o.fr b2);have a2:=lh (e0.o.fr b2);clear b2 d8 e1 d9 d' e0
 cases M:n.lf with
 | true=>
  have c4:dA n=1:=by unfold dA;rw[M];rfl
  have b9:n.half=n.cutAt:=by unfold Nd.cutAt;rw[iA M]
  rw[b9];rw[c4]at s;generalize T:n.cutAt=m at *;have HM:=lh T;have k0:=s.o.at_ (i:=0) rfl;have C:=s.o.at_ (i:=1) rfl;have E:=s.o.at_ (i:=2) rfl;clear T b9;go_wp2_with fail;refine(qH w1 1 _ _).mono ?_;rintro e J ⟨rfl,b3⟩;clear k0 C E;have F:Fr [] w1 J:=by rw[b3];exact(Fr.refl [] w1).alloc _
  have I:=lh (b8.o.trans F);have N:=lh (s.o.fr F);have a3:=lh (a1.o.fr F);have O:=lh (a2.o.fr F);have C:=N.o.at_ (i:=1) rfl;have E:=N.o.at_ (i:=2) rfl;have H:=aA I.o (U.o _ _ e3.o);have s1:=aRu (c:=c) a0.o (fun j u hj=>aA I.o (U.o j u hj)) (Nat.le_of_lt B.o) hc;have s2:=aLK (c:=c) a0.o (fun j u hj=>aA I.o (U.o j u hj)) (Nat.le_of_lt B.o) hc;have a4:=lh s1;have a5:=lh s2;have a6:=lh (aEN (some ⟨g,0,none⟩) n.l.length c m (by have:=B.o;omega));have a7:=lh (aBo g n.l.length c m (m:Int) rfl (by have:=B.o;omega) (by have:=B.o;omega));have g3:(m:Int)<(n.l.length:Int):=by have:=B.o;omega
  have a8:Hid (w.heap.size+3<=J.heap.size):=lh (by have:=O.o.lt;omega);obtain⟨⟨gk,b4,b5⟩,_,_⟩:=e2.o;have c5:=lh b4;have c6:=lh b5;obtain⟨Ak,ck,ok,rfl,_,_⟩:=b4;clear F b3 s1 s2 s a1 a2 b8 b5;go_wp2_with fail;refine lA (fun W=>W.cell? ⟨w.heap.size,1,none⟩=some (.int .i64 (n.first:Int))/\W.cell? ⟨w.heap.size,2,none⟩=some (.slice (some ⟨g,0,none⟩) n.l.length c)/\W.cell? ⟨g,m*3,none⟩=some (.slice Ak x.key.length ck)) [0,1,2,3,5,6,7,8,9,10,11,12,13,14,15,16,18] (by kernel_rfl) ?_;refine tks [0,1,2] ?_
  iterate 3 (refine tk rfl rfl ⟨C,E,H⟩ rfl (fun _ hW=>by(obtain⟨q1,q2,q3⟩:=hW;go_simp)<;>with_reducible rfl) ?_;simp only[nrm])
  refine tke ?_;refine tv 3 (.slice (some ⟨g,0,none⟩) m c) rfl rfl ⟨C,E,H⟩ (.inl ⟨rfl,fun W _=>mG rfl rfl rfl rfl (a6.o W)⟩) ?_;simp only[nrm];refine tks [6,7,8,9,10,11,12,13,14,15] ?_
  iterate 10 (refine tk rfl rfl ⟨C,E,H⟩ rfl (fun _ hW=>by(obtain⟨q1,q2,q3⟩:=hW;go_simp)<;>with_reducible rfl) ?_;simp only[nrm])
  refine tke ?_;refine tv 16 (.slice (some ⟨g,m*3,none⟩) (n.l.length-m) (c-m)) rfl rfl ⟨C,E,H⟩ (.inl ⟨rfl,fun W _=>mG rfl rfl rfl rfl (a7.o W)⟩) ?_;simp only[nrm];refine sp 4 rfl rfl rfl fun K hK=>?_;refine jA (l:=[.tmp 13]) rfl [.slice (some ⟨g,0,none⟩) m c] rfl (iI _) ((kJ (a4.o.1.fr (S:=[]) (Fr.refl [] J).drew (by simp)) a4.o.2 ?tt (by omega)).mono ?_)
  case tt=>exact fun u L=>b7.o u (rO L)
  rintro e w4 ⟨sl,rfl,p,b6⟩;obtain⟨Al,cl,rfl,d0,_⟩:=sA p;have d:Fr [] J w4:=((Fr.refl [] J).drew).trans b6;have c7:Hid (w4.ownsRow w.heap.size 198 3 (.slice Al m cl) m (cs.take (3*m))):=lh (wC p (fun q t=>by have:=(p.lt q t).1;have:=a8.o;have h0:J.drew.heap.size=J.heap.size:=rfl;omega));have c8:Hid (∀q,(Value.slice Al m cl).ownBlock=some q->J.heap.size<=q):=lh fun q t=>(p.lt q t).1;refine⟨_,rfl,hK _ _ (fun _=>⟨aA d C,aA d E,aA d H⟩) ?_⟩;simp only[nrm];clear hK p b6 d0;refine tks [5] ?_;refine tk rfl rfl ⟨aA d C,aA d E,aA d H⟩ rfl (fun _ _=>by go_simp<;>with_reducible rfl) ?_;simp only[nrm];refine tke ?_;refine sp 17 rfl rfl rfl fun K hK=>?_;refine jA (l:=[.tmp 26]) rfl [.slice (some ⟨g,m*3,none⟩) (n.l.length-m) (c-m)] rfl (iI _) ((kJ (a5.o.1.fr d) a5.o.2 ?tt (by omega)).mono ?_)
  case tt=>exact fun u L=>b7.o u (sK L)
  rintro e w5 ⟨sr,rfl,r,Z⟩;obtain⟨Ar,cr,rfl,d1,_⟩:=sA r;have b:Fr [] J w5:=d.trans Z;refine⟨_,rfl,hK _ _ (fun _=>⟨aA b C,aA b E,aA b H⟩) ?_⟩;simp only[nrm];clear hK d1;refine tks [18] ?_;refine tk rfl rfl ⟨aA b C,aA b E,aA b H⟩ rfl (fun _ _=>by go_simp<;>with_reducible rfl) ?_;simp only[nrm];refine tke ?_;have e5:w.heap.size+2<J.heap.size:=by have:=a8.o;omega
  have e6:=d.size;have f3:=HG.o;have V:=aA b C;have X:=aA b E;have Y:=aA b H;refine xA (j:=19) none rfl rfl (by kernel_rfl) rfl fun K hK=>?_;refine yA 184 (.tmp 2) (.tmp 15) rfl [.int .i64 1,.int .i64 0,.slice Al m cl] rfl rfl (a3.o.fr b) oB rfl ?tt fun w6 d2 f f6=>hK _ _ (fun _=>⟨wA f (by simp) V,wA f (by simp) X,wA f (by simp;omega) Y⟩) ?_
  case tt=>intro u L;simp at L;rcases L with rfl|rfl|rfl<;>rfl
  simp only[Act.put];clear hK;refine sp 20 rfl rfl rfl fun K hK=>?_;refine nA (v:=?aq1_20) ?yq1_20 (hK _ _ (fun _=>⟨wA f (by simp) V,wA f (by simp) X,wA f (by simp;omega) Y⟩) ?_)
  case yq1_20=>go_simp<;>with_reducible rfl
  simp only[nrm];refine xA (j:=21) none rfl rfl (by kernel_rfl) rfl fun K hK=>?_;refine yA 184 (.tmp 4) (.tmp 28) rfl [.int .i64 1,.int .i64 0,.slice Ar (n.l.length-m) cr] rfl rfl ((O.o.fr b).fr f) oB rfl ?tt fun w7 d3 z f7=>hK _ _ (fun _=>⟨wA z (by simp<;>omega) (wA f (by simp) V),wA z (by simp<;>omega) (wA f (by simp) X),wA z (by simp<;>omega) (wA f (by simp;omega) Y)⟩) ?_
  case tt=>intro u L;simp at L;rcases L with rfl|rfl|rfl<;>rfl
  simp only[Act.put];refine wd ?_ _;clear hK;have a9:=d2.fr z;have y:Fr [w.heap.size+1,w.heap.size+2] w5 w7:=(f.mono (fun q t=>.inl (by simp at t⊢;omega))).trans z (fun q t=>.inl (by simp at t⊢;omega));have G:Fr [] w w7:=((I.o.trans b).trans y (fun q t=>.inr (by simp at t;omega)));have a':=iB (iB c7.o Z (fun q t T=>by cases T)) y (fun q t T=>by have:=c8.o q t;simp at T;omega);have P:=wC (b':=w.heap.size) (iB r y (fun q t T=>by have:=(r.lt q t).1;simp at T;omega)) (fun q t=>by have:=(r.lt q t).1;omega);have el:n.left=⟨true,0,n.l.take m⟩:=by unfold Nd.left;rw[HM.o,M,f1.o.bare M]
  have er:n.right=⟨true,0,n.l.drop m⟩:=by unfold Nd.right;rw[iA M,HM.o]
  have HE:Hid (R (.returned (.tuple #[.agg #[.int .i64 1,.int .i64 0,.slice Al m cl],.slice Ak x.key.length ck,.agg #[.int .i64 1,.int .i64 0,.slice Ar (n.l.length-m) cr]])) w7):=lh (HQ.o _ _ ⟨_,_,_,rfl,
   by rw[el];exact NdV.make (n:=⟨true,0,n.l.take m⟩) (HI.o.take m).1 (by rw[show(n.l.take m).length=m by rw[jC];have:=B.o;omega];exact a') G HD.o,
   ⟨gk,by rw[c1.o];exact c5.o.fr G,c6.o⟩,
   by rw[er];exact NdV.make (n:=⟨true,0,n.l.drop m⟩) (HI.o.take m).2 (by rw[show(n.l.drop m).length=n.l.length-m by rw[mC]];exact P) G HD.o,G⟩)
  clear b y G a' P el er r Z f z d;go_wp2_with fail;exact eF (aBp rfl rfl rfl a9 d3 Go.Proofs.Tryz.underlying184 rfl oB rfl) rfl HE.o
 | false=>
  have c4:dA n=2:=by unfold dA;rw[M];rfl
  have b9:n.cutAt=min n.half (n.l.length-2):=by unfold Nd.cutAt;rw[eA (by rw[M];decide)]
  have e7:min ((n.half:Nat):Int) ((n.l.length:Int)-2)=(n.cutAt:Int):=by have:=e4.o;omega
  have f':IntKind.i64.wrap ((n.l.length:Int)-2)=(n.l.length:Int)-2:=by rw[iD];omega
  have e8:n.cutAt+1<n.l.length:=by have:=e4.o;omega
  rw[c4]at s;generalize T:n.cutAt=m at *;have HM:=lh T;have k0:=s.o.at_ (i:=0) rfl;have C:=s.o.at_ (i:=1) rfl;have E:=s.o.at_ (i:=2) rfl;have f4:=lh e7;have c9:=lh e8;have g0:=wi m (by omega)
  clear T b9 e7 e8;go_wp2_with fail;refine(qH w1 2 _ _).mono ?_;rintro e J ⟨rfl,b3⟩;clear k0 C E;have F:Fr [] w1 J:=by rw[b3];exact(Fr.refl [] w1).alloc _
  have I:=lh (b8.o.trans F);have N:=lh (s.o.fr F);have a3:=lh (a1.o.fr F);have O:=lh (a2.o.fr F);have C:=N.o.at_ (i:=1) rfl;have E:=N.o.at_ (i:=2) rfl;have H:=aA I.o (U.o _ _ e3.o);have i2:=aA I.o (U.o _ _ f2.o);have s1:=aRu (c:=c) a0.o (fun j u hj=>aA I.o (U.o j u hj)) (Nat.le_of_lt B.o) hc;have s2:=aLK (c:=c) (k:=m+1) a0.o (fun j u hj=>aA I.o (U.o j u hj)) (Nat.le_of_lt c9.o) hc;have a4:=lh s1;have a5:=lh s2;have a6:=lh (aEN (some ⟨g,0,none⟩) n.l.length c m (by have:=B.o;omega));have a7:=lh (aBo g n.l.length c (m+1) ((m:Int)+1) (by omega) (by have:=c9.o;omega) (by have:=c9.o;omega));have g3:(m:Int)<(n.l.length:Int):=by have:=B.o;omega
  have a8:Hid (w.heap.size+3<=J.heap.size):=lh (by have:=O.o.lt;omega);obtain⟨⟨gk,b4,b5⟩,_,f5⟩:=e2.o;subst f5;have c5:=lh b4;have c6:=lh b5;obtain⟨Ak,ck,ok,rfl,_,_⟩:=b4;clear F b3 s1 s2 s a1 a2 b8 b5;go_wp2_with fail;rw[f4.o];refine lA (fun W=>W.cell? ⟨w.heap.size,1,none⟩=some (.int .i64 (n.first:Int))/\W.cell? ⟨w.heap.size,2,none⟩=some (.slice (some ⟨g,0,none⟩) n.l.length c)/\W.cell? ⟨g,m*3,none⟩=some (.slice Ak x.key.length ck)/\W.cell? ⟨g,m*3+2,none⟩=some (.int .i64 (x.at_:Int))) [0,1,2,3,4,5,7,8,9,10,11,12,13,14,15,16,17,18,19,20,21,22,23,24,25,27] (by kernel_rfl) ?_;refine tks [0,1,2,3,4] ?_
  iterate 5 (refine tk rfl rfl ⟨C,E,H,i2⟩ rfl (fun _ hW=>by(obtain⟨q1,q2,q3,q4⟩:=hW;go_simp)<;>with_reducible rfl) ?_;simp only[nrm])
  refine tke ?_;refine tv 5 (.slice (some ⟨g,0,none⟩) m c) rfl rfl ⟨C,E,H,i2⟩ (.inl ⟨rfl,fun W _=>mG rfl rfl rfl rfl (a6.o W)⟩) ?_;simp only[nrm];refine tks [8,9,10,11,12,13,14,15,16,17,18,19,20,21,22,23,24] ?_
  iterate 17 (refine tk rfl rfl ⟨C,E,H,i2⟩ rfl (fun _ hW=>by(obtain⟨q1,q2,q3,q4⟩:=hW;go_simp)<;>with_reducible rfl) ?_;simp only[nrm])
  refine tke ?_;refine tv 25 (.slice (some ⟨g,(m+1)*3,none⟩) (n.l.length-(m+1)) (c-(m+1))) rfl rfl ⟨C,E,H,i2⟩ (.inl ⟨rfl,fun W _=>mG rfl rfl rfl rfl (a7.o W)⟩) ?_;simp only[nrm];refine sp 6 rfl rfl rfl fun K hK=>?_;refine jA (l:=[.tmp 40]) rfl [.slice (some ⟨g,0,none⟩) m c] rfl (iI _) ((kJ (a4.o.1.fr (S:=[]) (Fr.refl [] J).drew (by simp)) a4.o.2 ?tt (by omega)).mono ?_)
  case tt=>exact fun u L=>b7.o u (rO L)
  rintro e w4 ⟨sl,rfl,p,b6⟩;obtain⟨Al,cl,rfl,d0,_⟩:=sA p;have d:Fr [] J w4:=((Fr.refl [] J).drew).trans b6;have c7:Hid (w4.ownsRow w.heap.size 198 3 (.slice Al m cl) m (cs.take (3*m))):=lh (wC p (fun q t=>by have:=(p.lt q t).1;have:=a8.o;have h0:J.drew.heap.size=J.heap.size:=rfl;omega));have c8:Hid (∀q,(Value.slice Al m cl).ownBlock=some q->J.heap.size<=q):=lh fun q t=>(p.lt q t).1;refine⟨_,rfl,hK _ _ (fun _=>⟨aA d C,aA d E,aA d H,aA d i2⟩) ?_⟩;simp only[nrm];clear hK p b6 d0;refine tks [7] ?_;refine tk rfl rfl ⟨aA d C,aA d E,aA d H,aA d i2⟩ rfl (fun _ _=>by go_simp<;>with_reducible rfl) ?_;simp only[nrm];refine tke ?_;refine sp 26 rfl rfl rfl fun K hK=>?_;refine jA (l:=[.tmp 60]) rfl [.slice (some ⟨g,(m+1)*3,none⟩) (n.l.length-(m+1)) (c-(m+1))] rfl (iI _) ((kJ (a5.o.1.fr d) a5.o.2 ?tt (by omega)).mono ?_)
  case tt=>exact fun u L=>b7.o u (sK L)
  rintro e w5 ⟨sr,rfl,r,Z⟩;obtain⟨Ar,cr,rfl,d1,_⟩:=sA r;have b:Fr [] J w5:=d.trans Z;refine⟨_,rfl,hK _ _ (fun _=>⟨aA b C,aA b E,aA b H,aA b i2⟩) ?_⟩;simp only[nrm];clear hK d1;refine tks [27] ?_;refine tk rfl rfl ⟨aA b C,aA b E,aA b H,aA b i2⟩ rfl (fun _ _=>by go_simp<;>with_reducible rfl) ?_;simp only[nrm];refine tke ?_;have e5:w.heap.size+2<J.heap.size:=by have:=a8.o;omega
  have e6:=d.size;have f3:=HG.o;have V:=aA b C;have X:=aA b E;have Y:=aA b H;have c':=aA b i2;refine xA (j:=28) none rfl rfl (by kernel_rfl) rfl fun K hK=>?_;refine yA 184 (.tmp 2) (.tmp 42) rfl [.int .i64 2,.int .i64 (n.first:Int),.slice Al m cl] rfl rfl (a3.o.fr b) oB rfl ?tt fun w6 d2 f f6=>hK _ _ (fun _=>⟨wA f (by simp) V,wA f (by simp) X,wA f (by simp;omega) Y,wA f (by simp;omega) c'⟩) ?_
  case tt=>intro u L;simp at L;rcases L with rfl|rfl|rfl<;>rfl
  simp only[Act.put];clear hK;refine sp 29 rfl rfl rfl fun K hK=>?_;refine nA (v:=?aq2_29) ?yq2_29 (hK _ _ (fun _=>⟨wA f (by simp) V,wA f (by simp) X,wA f (by simp;omega) Y,wA f (by simp;omega) c'⟩) ?_)
  case yq2_29=>go_simp<;>with_reducible rfl
  simp only[nrm];refine xA (j:=30) none rfl rfl (by kernel_rfl) rfl fun K hK=>?_;refine yA 184 (.tmp 4) (.tmp 62) rfl [.int .i64 2,.int .i64 (x.at_:Int),.slice Ar (n.l.length-(m+1)) cr] rfl rfl ((O.o.fr b).fr f) oB rfl ?tt fun w7 d3 z f7=>hK _ _ (fun _=>⟨wA z (by simp<;>omega) (wA f (by simp) V),wA z (by simp<;>omega) (wA f (by simp) X),wA z (by simp<;>omega) (wA f (by simp;omega) Y),wA z (by simp<;>omega) (wA f (by simp;omega) c')⟩) ?_
  case tt=>intro u L;simp at L;rcases L with rfl|rfl|rfl<;>rfl
  simp only[Act.put];refine wd ?_ _;clear hK;have a9:=d2.fr z;have y:Fr [w.heap.size+1,w.heap.size+2] w5 w7:=(f.mono (fun q t=>.inl (by simp at t⊢;omega))).trans z (fun q t=>.inl (by simp at t⊢;omega));have G:Fr [] w w7:=((I.o.trans b).trans y (fun q t=>.inr (by simp at t;omega)));have a':=iB (iB c7.o Z (fun q t T=>by cases T)) y (fun q t T=>by have:=c8.o q t;simp at T;omega);have P:=wC (b':=w.heap.size) (iB r y (fun q t T=>by have:=(r.lt q t).1;simp at T;omega)) (fun q t=>by have:=(r.lt q t).1;omega);have el:n.left=⟨false,n.first,n.l.take m⟩:=by unfold Nd.left;rw[HM.o,M]
  have er:n.right=⟨false,x.at_,n.l.drop (m+1)⟩:=by unfold Nd.right;rw[eA (by rw[M];decide),HM.o,HX.o];rfl
  have HE:Hid (R (.returned (.tuple #[.agg #[.int .i64 2,.int .i64 (n.first:Int),.slice Al m cl],.slice Ak x.key.length ck,.agg #[.int .i64 2,.int .i64 (x.at_:Int),.slice Ar (n.l.length-(m+1)) cr]])) w7):=lh (HQ.o _ _ ⟨_,_,_,rfl,
   by rw[el];exact NdV.make (n:=⟨false,n.first,n.l.take m⟩) (HI.o.take m).1 (by rw[show(n.l.take m).length=m by rw[jC];have:=B.o;omega];exact a') G HD.o,
   ⟨gk,by rw[c1.o];exact c5.o.fr G,c6.o⟩,
   by rw[er];exact NdV.make (n:=⟨false,x.at_,n.l.drop (m+1)⟩) (HI.o.take (m+1)).2 (by rw[show(n.l.drop (m+1)).length=n.l.length-(m+1) by rw[mC]];exact P) G HD.o,G⟩)
  clear b y G a' P el er r Z f z d;go_wp2_with fail;exact eF (aBp rfl rfl rfl a9 d3 Go.Proofs.Tryz.underlying184 rfl oB rfl) rfl HE.o
section
variable {P : Program} {ops : Array Oper} {Q : Exit -> Act -> World -> Prop} {md : Region.Mode} {S : World -> Prop} {I : List Nat} {o : Oper} {a : Act} {w : World} {K : Act -> World -> Prop}
theorem aM{i j:Nat}(r s:Option Tmp){c d:Oper}{b:Array Bool}(g:ops[i]? = some c)(h:ops[j]? = some d)(l:c.dst=r)(m:d.dst=s)(t:Region.ready md ops b=[i,j])(p:c.guard=none)(q:d.guard=none)
 (h1:∀K:Act->World->Prop,(∀v w',(jN md ops I i=true->S w')->tF P md ops Q S I n (b.setIfInBounds i true) (a.put r v) w'->K (a.put c.dst v) w')->Oper.wp P c a w K Q)
 (h2:∀K:Act->World->Prop,(∀v w',(jN md ops I j=true->S w')->tF P md ops Q S I n (b.setIfInBounds j true) (a.put s v) w'->K (a.put d.dst v) w')->Oper.wp P d a w K Q):
  tF P md ops Q S I (n+1) b a w:=by
 subst l m;refine⟨fun h0=>absurd (t▸h0) (by simp),fun k f=>?_⟩;rw[t]at f;rcases kB.1 f with rfl|f
 ·refine wpOp_step g fun K hK=>?_;rw[iA (by simp[Region.wanted,p])];exact h1 K (fun v w' h1 h2=>hK _ w' ⟨h1,h2⟩)
 ·obtain rfl:k=j:=by simpa using f
  refine wpOp_step h fun K hK=>?_;rw[iA (by simp[Region.wanted,q])];exact h2 K (fun v w' h1 h2=>hK _ w' ⟨h1,h2⟩)
theorem iZ{t e g ty:TypeId}{q:Nat}(ht:P.underlying t=some (.slice e))(h2:P.underlying T=some (.slice g))(hi:(P.info? e).map (·.size)=some q)(A:Option Addr)(B:Option Addr)(n c d:Nat)(k:n<=c):
  (Builtin.append_ #[t,T] ty #[.slice A n c,.slice B 0 d]).run P w=.ok (.slice A n c) w:=by
 obtain⟨i,b,f⟩:=Option.map_eq_some_iff.1 hi;have h3:∀w,(underlying T).run P w=.ok (.slice g) w:=fun w=>by simp[underlying,go_sem,h2]
 have h:∀w,(underlying t).run P w=.ok (.slice e) w:=fun w=>by simp[underlying,go_sem,ht]
 have j:∀w,(sizeOf e).run P w=.ok q w:=fun w=>by simp[sizeOf,typeInfo,go_sem,b,f]
 unfold Builtin.append_
 cases A<;>cases B<;>simp[go_sem,h3,h,j,k,loadCellsFrom]
theorem tI{t:TypeId}(s x:Operand)(N:o.op=.call { callee:=.builtin .append,args:=#[s,x],argTypes:=#[t,t] })
 (e:TypeId){i:TypeInfo}{z:Value}(size bytes:Nat)(ht:P.underlying t=some (.slice e))(hi:P.info? e=some i)(Z:i.zero=some z)(f:i.size=size)(E:i.bytes=bytes)(F:z.cells.size=size)(h0:0<size)
 (A:Option Addr)(n b:Nat)(G:List Value)(O:a.eval s=.slice A n b)(k:w.ownsRow 0 e size (.slice A n b) n G)
 (B:Option Addr)(m c:Nat)(d:List Value)(T:a.eval x=.slice B m c)(hl:d.length=m*size)(p:0<m->∃y,B=some y/\∀j u,d[j]? = some u->w.cell? (y.add j)=some u)(h1:∀u∈d,u.oneCell'=true)
 (J:n+m<=maxLen)(l:(n+m)*bytes<=140737488355328)(H:Nat)(hH:w.heap.size=H)
 (h:∀A' cap w',w'.ownsRow 0 e size (.slice A' (n+m) cap) (n+m) (G++d)->Fr (Value.slice A n b).ownBlock.toList w w'->(∀q,(Value.slice A' (n+m) cap).ownBlock=some q->(Value.slice A n b).ownBlock=some q∨q=H)->K (a.put o.dst (.slice A' (n+m) cap)) w'):Oper.wp P o a w K Q:=by
 by_cases M:0<m
 ·obtain⟨y,rfl,U⟩:=p M
  exact eD s x N e size bytes ht hi Z f E F h0 _ n G O k y m c d T hl U h1 M J l H hH fun g cap w' W X Y k4=>h _ cap w' W X (fun q D=>by
   obtain rfl:g=q:=fG D;exact Y)
 ·obtain rfl:m=0:=by omega
  obtain rfl:d=[]:=tO.1 (by omega);obtain⟨_,_,C,L,_⟩:=sA k;injection C with _ _ V;have r:=iZ (P:=P) (w:=w) (ty:=o.type) ht ht (q:=size) (by rw[hi];simp[f]) A B n b c (by omega);refine nA (v:=.slice A n b) ?_ (h A b w (by simpa using k) (Fr.refl _ _) (fun q D=>.inl D));simp only[execOp,N,resolve,invoke,builtin,Go.Sem.run_bind,Go.Sem.run_pure,Go.Result.andThen_ok,List.map_toArray,yJ,List.map_nil,O,T,r]
end
theorem aLL{D:Nat->Prop}{w:World}{base:Nat}{v rv kv:Value}{n r:Nd}{key:Ky}(h:NdV D w base v n)(hr:NdV D w k rv r)(hk:cA w kv key m)(i5:D m)(i6:n.lf=r.lf)(j2:n.l.length<=600)(j3:r.l.length<=600)(hD:∀q,w.heap.size<=q->D q):
  Calls prog 215 #[v,kv,rv] w fun e w'=>∃ov,e=.returned ov/\NdV D w' w.heap.size ov (n.with_ key r)/\Fr [] w w':=by
 obtain⟨A,c,cs,rfl,hc,e6,b3,g2⟩:=h.parts;obtain⟨A2,c2,cs2,rfl,j1,g3,X,b4⟩:=hr.parts;obtain⟨s,a8⟩:=nm (((w.alloc (.cells #[.int .i64 (dA n),.int .i64 (n.first:Int),.slice A n.l.length c] 184)).alloc (.cells #[.int .i64 (dA r),.int .i64 (r.first:Int),.slice A2 r.l.length c2] 184)).alloc (.cells znd.toArray 184));have e9:Fr [] w s:=by rw[a8];exact(((Fr.refl [] w).alloc _).alloc _).alloc _
 have g7:Blk s w.heap.size 184 [.int .i64 (dA n),.int .i64 (n.first:Int),.slice A n.l.length c]:=by rw[a8];exact((Blk.new w _ [.int .i64 (dA n),.int .i64 (n.first:Int),.slice A n.l.length c]).alloc _).alloc _
 have g8:Blk s (w.heap.size+1) 184 [.int .i64 (dA r),.int .i64 (r.first:Int),.slice A2 r.l.length c2]:=by
  rw[a8];have:=Blk.new (w.alloc (.cells #[.int .i64 (dA n),.int .i64 (n.first:Int),.slice A n.l.length c] 184)) 184 [.int .i64 (dA r),.int .i64 (r.first:Int),.slice A2 r.l.length c2];rw[xC]at this;exact this.alloc _
 have g9:Blk s (w.heap.size+2) 184 znd:=by
  rw[a8];have:=Blk.new ((w.alloc (.cells #[.int .i64 (dA n),.int .i64 (n.first:Int),.slice A n.l.length c] 184)).alloc (.cells #[.int .i64 (dA r),.int .i64 (r.first:Int),.slice A2 r.l.length c2] 184)) 184 znd
  rwa [xC,xC]at this
 have e':Hid (s.heap.size=w.heap.size+3):=lh (by rw[a8,xC,xC,xC]);obtain⟨gs,i3,_,_⟩:=iH.of_own e6 w.heap.size;have g':=lh (i3.fr e9);have d7:=lh g7;have f0:=lh g8;have h2:=lh g9;have d8:=lh e9;have HI:=lh b3;have h4:=lh X;have HD:=lh hD;have h5:=lh b4;have a':=lh b3.len;have b7:=lh X.len;have h6:=lh b3.one;have e3:=lh X.one;have i7:=lh hk;have h7:=lh i5;have j0:=lh i6;obtain⟨Ak,ck,ok,rfl,_,_⟩:=hk;clear g7 g8 g9 e9 b3 X e6 g3 g2 b4 h hr hD i3 i5 i6;refine gA fun R HQ=>?_
 go_enter func215,ntmps215
 go_wp2_with (with_reducible refine mA rfl 184 rfl (.agg #[.int .i64 0,.int .i64 0,.slice none 0 0]) znd.toArray kD rfl ?_)
 rw[<- a8];have k0:=d7.o.at_ (i:=0) rfl;have k1:=d7.o.at_ (i:=1) rfl;have k2:=d7.o.at_ (i:=2) rfl;simp only[nrm]
 go_cut [7] (fun v7 W=>∃p F c',v7=.pointer (some ⟨p,0,none⟩)/\Blk W p 184 [.int .i64 (dA n),.int .i64 (n.first:Int),.slice F n.l.length c']/\W.ownsRow s.heap.size 198 3 (.slice F n.l.length c') n.l.length cs/\(Value.slice F n.l.length c').ownBlock≠some p/\s.heap.size<=p/\Fr [] s W)
 case first=>
  refine lA (fun W=>W.cell? ⟨w.heap.size,0,none⟩=some (.int .i64 (dA n))/\W.cell? ⟨w.heap.size,1,none⟩=some (.int .i64 (n.first:Int))/\W.cell? ⟨w.heap.size,2,none⟩=some (.slice A n.l.length c)) [0,1,2,3,4,5,7] (by kernel_rfl) ?_;refine tks [0,1,2,3,4,5] ?_
  iterate 6 (refine tk rfl rfl ⟨k0,k1,k2⟩ rfl (fun _ hW=>by(obtain⟨q0,q1,q2⟩:=hW;go_simp)<;>with_reducible rfl) ?_;simp only[nrm])
  refine tke ?_;refine aM (i:=6) (j:=8) (some 14) (some 7) rfl rfl rfl rfl (by kernel_rfl) rfl rfl (fun K hK=>?_) (fun K hK=>?_)
  ·refine jA (l:=[.tmp 13]) rfl [.slice A n.l.length c] rfl (iI _) ((kJ (g'.o.fr (S:=[]) (Fr.refl [] s).drew (by simp)) a'.o h6.o (by omega)).mono ?_);rintro e w4 ⟨sl,rfl,f,J⟩;obtain⟨F,c',rfl,_,_⟩:=sA f;have t:Fr [] s w4:=((Fr.refl [] s).drew).trans J;have f1:s.drew.heap.size=s.heap.size:=rfl;rw[f1]at f;refine⟨_,rfl,hK _ _ (fun _=>⟨aA t k0,aA t k1,aA t k2⟩) ?_⟩;simp only[nrm];clear hK;refine tv 7 (.agg #[.int .i64 (dA n),.int .i64 (n.first:Int),.slice F n.l.length c']) rfl rfl ⟨aA t k0,aA t k1,aA t k2⟩ (.inl ⟨rfl,fun W hW=>by go_simp⟩) ?_;simp only[nrm];have I:=sF f;refine sp 8 rfl rfl rfl fun K hK=>?_;refine yB 184 rfl (.agg #[.int .i64 0,.int .i64 0,.slice none 0 0]) znd kD rfl fun w5 b6 x e1=>hK _ _ (fun _=>⟨aA x (aA t k0),aA x (aA t k1),aA x (aA t k2)⟩) ?_;simp only[nrm];clear hK;refine xA (j:=9) none rfl rfl (by kernel_rfl) rfl fun K hK=>?_;refine yA 184 (.tmp 7) (.tmp 15) rfl [.int .i64 (dA n),.int .i64 (n.first:Int),.slice F n.l.length c'] rfl rfl b6 oB rfl ?tt fun w6 d6 a9 g6=>hK _ _ (fun h=>absurd h (by decide +kernel)) ?_
   case tt=>intro u Q;simp at Q;rcases Q with rfl|rfl|rfl<;>rfl
   simp only[Act.put];refine wd ?_ _;have i8:=t.size;have HX:Hid (∃p F c',Value.pointer (some ⟨w4.heap.size,0,none⟩)=.pointer (some ⟨p,0,none⟩)/\Blk w6 p 184 [.int .i64 (dA n),.int .i64 (n.first:Int),.slice F n.l.length c']/\w6.ownsRow s.heap.size 198 3 (.slice F n.l.length c') n.l.length cs/\(Value.slice F n.l.length c').ownBlock≠some p/\s.heap.size<=p/\Fr [] s w6):=lh ⟨w4.heap.size,F,c',rfl,d6,iB (iB f x (fun q b L=>by cases L)) a9 (fun q b L=>by have:=I q b;have:=aB.1 L;omega),fun e=>by have:=I _ e;omega,i8,(t.trans x).trans a9 (fun q b=>.inr (by have:=aB.1 b;omega))⟩;clear hK b6 x e1 d6 a9 g6 f J t I;go_wp2_with fail
   go_meet
   exact HX.o
  ·refine yB 184 rfl (.agg #[.int .i64 0,.int .i64 0,.slice none 0 0]) znd kD rfl fun w5 b6 x e1=>hK _ _ (fun _=>⟨aA x k0,aA x k1,aA x k2⟩) ?_;simp only[Act.put];clear hK;have f1:s.drew.heap.size=s.heap.size:=rfl;rw[f1]at b6 e1;have b8:Fr [] s w5:=((Fr.refl [] s).drew).trans x;refine sp 6 rfl rfl rfl fun K hK=>?_;refine jA (l:=[.tmp 13]) rfl [.slice A n.l.length c] rfl (iI _) ((kJ (g'.o.fr (S:=[]) b8 (by simp)) a'.o h6.o (by omega)).mono ?_);rintro e w4 ⟨sl,rfl,f,J⟩;obtain⟨F,c',rfl,_,_⟩:=sA f;refine⟨_,rfl,hK _ _ (fun _=>⟨aA J (aA x k0),aA J (aA x k1),aA J (aA x k2)⟩) ?_⟩;simp only[nrm];clear hK;refine tv 7 (.agg #[.int .i64 (dA n),.int .i64 (n.first:Int),.slice F n.l.length c']) rfl rfl ⟨aA J (aA x k0),aA J (aA x k1),aA J (aA x k2)⟩ (.inl ⟨rfl,fun W hW=>by go_simp⟩) ?_;simp only[nrm];have I:=f.lt;refine xA (j:=9) none rfl rfl (by kernel_rfl) rfl fun K hK=>?_;refine yA 184 (.tmp 7) (.tmp 15) rfl [.int .i64 (dA n),.int .i64 (n.first:Int),.slice F n.l.length c'] rfl rfl (b6.fr J) oB rfl ?tt2 fun w6 d6 a9 g6=>hK _ _ (fun h=>absurd h (by decide +kernel)) ?_
   case tt2=>intro u Q;simp at Q;rcases Q with rfl|rfl|rfl<;>rfl
   simp only[Act.put];refine wd ?_ _;have HX:Hid (∃p F c',Value.pointer (some ⟨s.heap.size,0,none⟩)=.pointer (some ⟨p,0,none⟩)/\Blk w6 p 184 [.int .i64 (dA n),.int .i64 (n.first:Int),.slice F n.l.length c']/\w6.ownsRow s.heap.size 198 3 (.slice F n.l.length c') n.l.length cs/\(Value.slice F n.l.length c').ownBlock≠some p/\s.heap.size<=p/\Fr [] s w6):=lh ⟨s.heap.size,F,c',rfl,d6,wC (iB f a9 (fun q b L=>by have:=(I q b).1;have:=aB.1 L;omega)) (fun q b=>by have:=(I q b).1;omega),fun e=>by have:=(I _ e).1;omega,tA _,(b8.trans J).trans a9 (fun q b=>.inr (by have:=aB.1 b;omega))⟩;clear hK b6 x e1 d6 a9 g6 f J b8 I;go_wp2_with fail
   go_meet
   exact HX.o
 case rest=>
  obtain⟨p,F,c',rfl,d1,d2,e7,e8,g4⟩:=hcut;clear k0 k1 k2;have h8:=lh d1;have e4:=lh d2;have f2:=lh e7;have h9:=lh g4;have f3:=lh e8;have k0:=d1.at_ (i:=0) rfl;have k1:=d1.at_ (i:=1) rfl;have k2:=d1.at_ (i:=2) rfl;have b9:=lh (d7.o.fr g4);have b0:=b9.o.at_ (i:=0) rfl;have b1:=b9.o.at_ (i:=1) rfl;have b2:=b9.o.at_ (i:=2) rfl;clear d1 d2 e7 e8 g4;have h':((w.alloc (.cells #[.int .i64 (dA n),.int .i64 (n.first:Int),.slice A n.l.length c] 184)).alloc (.cells #[.int .i64 (dA r),.int .i64 (r.first:Int),.slice A2 r.l.length c2] 184)).heap.size=w.heap.size+2:=by rw[xC,xC]
  rw[h'];clear h' a8
  cases e2:n.lf with
  | true=>
   have b':dA n=1:=by unfold dA;rw[e2];rfl
   rw[b']at b0 k0;go_wp2_with fail;refine(qH wc 1 _ _).mono ?_;rintro e w2 ⟨rfl,d3⟩;clear k0 k1 k2 b0 b1 b2;have T:Fr [] wc w2:=by rw[d3];exact(Fr.refl [] wc).alloc _
   have U:=lh (h8.o.fr T);have c0:=lh (iB e4.o T (fun q b L=>by cases L));have V:=lh (h9.o.trans T);have c1:=f2;have i9:Hid (cs.length=n.l.length*3):=a';have f4:Hid (jF D w n.l cs):=HI;have HW:Hid (n.with_ key r=⟨n.lf,n.first,n.l++r.l⟩):=lh (by unfold Nd.with_;rw[iA e2]);clear d3 T;clear b';have c3:=lh ((f0.o.fr V.o));have k1:=U.o.at_ (i:=1) rfl;have k2:=U.o.at_ (i:=2) rfl;have r2:=c3.o.at_ (i:=2) rfl;go_upto_region 4 with fail
   refine fE ?_
   iterate 4 (refine rn rfl (by go_simp<;>with_reducible rfl) ?_;simp only[nrm])
   refine lp fun K hK=>?_;obtain⟨ti,b5,Y,E,a4⟩:=mE wJ
   refine tI (.tmp 30) (.tmp 32) rfl 198 3 56 Go.Proofs.Tryz.underlying182 b5 Y E a4 rfl (by omega) F (n.l.length) c' cs rfl (wC c0.o (fun _ _=>rB _)) A2 r.l.length c2 cs2 rfl b7.o (fun h0=>by
    obtain⟨g,rfl,g5⟩:=h5.o h0;exact⟨_,rfl,fun j u Q=>by rw[Go.Addr.add_mid,cC];exact aA (d8.o.trans V.o) (g5 j u Q)⟩) e3.o (by unfold maxLen;omega) (by omega) w2.heap.size rfl fun G H w9 a6 F9 z=>hK _ _ ?_
   clear hK;simp only[nrm];have y:∀q,(Value.slice F (n.l.length) c').ownBlock=some q->s.heap.size<=q:=fun q b=>(c0.o.lt q b).1;have Z:∀q,q∈(Value.slice F (n.l.length) c').ownBlock.toList->s.heap.size<=q:=fun q b=>y q (by simpa using b);have a0:p∉(Value.slice F (n.l.length) c').ownBlock.toList:=fun L=>c1.o (by simpa using L);have f5:=e'.o;have f6:=f3.o;have f7:=U.o.lt;have f8:=V.o.size;have B:=U.o.fr F9 a0;have c4:=B.at_ (i:=2) rfl;have c5:=B.free 2;refine rn rfl (by go_simp<;>with_reducible rfl) ?_;simp only[nrm];refine lp fun K hK=>?_;refine pB (w':=w9.setCell ⟨p,2,none⟩ (.slice G (n.l.length+r.l.length) H)) (by go_simp) (hK _ _ ?_);clear hK;simp only[Act.put];refine sE ?_;have M:Fr [p] w9 (w9.setCell ⟨p,2,none⟩ (.slice G (n.l.length+r.l.length) H)):=(Fr.refl _ _).setCell (.inl (by simp)) _;have a1:=B.set_ 2 (.slice G (n.l.length+r.l.length) H);have a2:Fr [] s w9:=V.o.trans F9 (fun q b=>.inr (Z q b));have P:Fr [] s (w9.setCell ⟨p,2,none⟩ (.slice G (n.l.length+r.l.length) H)):=a2.trans M (fun q b=>.inr (by have:=aB.1 b;omega))
   have C:(Value.slice G (n.l.length+r.l.length) H).ownBlock≠some p:=fun e=>by
    rcases z p e with h1|h1
    ·exact c1.o h1
    ·omega
   have a3:(w9.setCell ⟨p,2,none⟩ (.slice G (n.l.length+r.l.length) H)).ownsRow s.heap.size 198 3 (.slice G (n.l.length+r.l.length) H) (n.l.length+r.l.length) (cs++cs2):=iB (wC a6 (fun q b=>by
    rcases z q b with h1|h1
    ·have:=y q h1;omega
    ·omega)) M (fun q b L=>by have:=aB.1 L;exact C (by rw[<- this];exact b))
   have f9:Hid (Blk (w9.setCell ⟨p,2,none⟩ (.slice G (n.l.length+r.l.length) H)) p 184 [.int .i64 (dA n),.int .i64 (n.first:Int),.slice G (n.l.length+r.l.length) H]):=lh a1;have f':=lh P;have a7:=lh a3;have c6:=lh (h2.o.fr P);have i0:p≠w.heap.size+2:=by omega
   clear M a1 a2 P C a3 z B c4 c5 a6 F9 Z a0 y k1 k2 r2 b5 Y E a4;generalize w9.setCell ⟨p,2,none⟩ (.slice G (n.l.length+r.l.length) H)=i' at *
   go_wp2_with (first
    | (refine iO rfl 184 (.tmp 7) rfl rfl f9.o Go.Proofs.Tryz.underlying184 rfl oB ?_)
    | (refine oD rfl 184 (.tmp 6) (.tmp 35) rfl [.int .i64 (dA n),.int .i64 (n.first:Int),.slice G (n.l.length+r.l.length) H] rfl rfl c6.o oB rfl ?tt ?_))
   case tt=>intro u Q;simp at Q;rcases Q with rfl|rfl|rfl<;>rfl
   intro d4 a5 O d5;have N:Fr [] w d4:=(d8.o.trans f'.o).trans O (fun q b=>.inr (by have:=aB.1 b;omega))
   have HE:Hid (R (.returned (.agg #[.int .i64 (dA n),.int .i64 (n.first:Int),.slice G (n.l.length+r.l.length) H])) d4):=lh (HQ.o _ _ ⟨_,rfl,by
    rw[HW.o];have g0:dA n=dA ⟨n.lf,n.first,n.l++r.l⟩:=rfl;rw[g0];refine NdV.make (n:=⟨n.lf,n.first,n.l++r.l⟩) (jF.append f4.o h4.o) ?_ N HD.o;have c7:(n.l++r.l).length=n.l.length+r.l.length:=by first|(simp;done)|(simp;omega)
    rw[show(⟨n.lf,n.first,n.l++r.l⟩:Nd).l.length=n.l.length+r.l.length from c7];exact wC (iB a7.o O (fun q b L=>by have:=(a7.o.lt q b).1;have:=aB.1 L;omega)) (fun q b=>by have:=(a7.o.lt q b).1;omega),N⟩)
   have c8:=lh a5;clear a5 O d5 N;go_wp2_with fail;exact yH (g:=w.heap.size+2) (t':=184) (cs:=[.int .i64 (dA n),.int .i64 (n.first:Int),.slice G (n.l.length+r.l.length) H]) (d:=_) rfl rfl c8.o Go.Proofs.Tryz.underlying184 rfl oB HE.o
  | false=>
   have b':dA n=2:=by unfold dA;rw[e2];rfl
   rw[b']at b0 k0;go_wp2_with fail;refine(qH wc 2 _ _).mono ?_;rintro e w2 ⟨rfl,d3⟩;clear k0 k1 k2 b0 b1 b2;have T:Fr [] wc w2:=by rw[d3];exact(Fr.refl [] wc).alloc _
   have d0:=lh (h8.o.fr T);have g1:=lh (iB e4.o T (fun q b L=>by cases L));have d':=lh (h9.o.trans T);have e5:=lh (f0.o.fr d'.o);have u1:=d0.o.at_ (i:=1) rfl;have u2:=d0.o.at_ (i:=2) rfl;have s1:=e5.o.at_ (i:=1) rfl;clear d3 T b';go_upto_region 3 with fail
   refine fE ?_
   iterate 7 (refine rn rfl (by go_simp<;>with_reducible rfl) ?_;simp only[nrm])
   refine lp fun K hK=>?_;obtain⟨ti,b5,Y,E,a4⟩:=mE wJ;refine dD (.tmp 25) rfl Go.Proofs.Tryz.underlying182 b5 Y [.slice Ak key.length ck,.slice none 0 0,.int .i64 (r.first:Int)] rfl E rfl (by simp) (by simp) (hK _ _ ?_);clear hK;simp only[nrm];have i1:=Blk.new w2 198 [.slice Ak key.length ck,.slice none 0 0,.int .i64 (r.first:Int)];have e0:Fr [] w2 (w2.alloc (.cells [.slice Ak key.length ck,.slice none 0 0,.int .i64 (r.first:Int)].toArray 198)):=(Fr.refl [] w2).alloc _;have i2:(w2.alloc (.cells [.slice Ak key.length ck,.slice none 0 0,.int .i64 (r.first:Int)].toArray 198)).heap.size=w2.heap.size+1:=by simp
   generalize w2.alloc (.cells [.slice Ak key.length ck,.slice none 0 0,.int .i64 (r.first:Int)].toArray 198)=w8 at *;have h3:∀u∈[Value.slice Ak key.length ck,.slice none 0 0,.int .i64 (r.first:Int)],u.oneCell'=true:=by intro u Q;simp at Q;rcases Q with rfl|rfl|rfl<;>rfl
   refine lp fun K hK=>?_;refine tI (.tmp 20) (.tmp 26) rfl 198 3 56 Go.Proofs.Tryz.underlying182 b5 Y E a4 rfl (by omega) F n.l.length c' cs rfl (wC (iB g1.o e0 (by simp)) (fun _ _=>rB _)) (some ⟨w2.heap.size,0,none⟩) 1 1 [.slice Ak key.length ck,.slice none 0 0,.int .i64 (r.first:Int)] rfl rfl (fun _=>⟨_,rfl,fun j u Q=>by rw[Go.Addr.add_mid,cC];exact i1.at_ Q⟩) h3 (by unfold maxLen;omega) (by omega) (w2.heap.size+1) i2 fun G H w9 a6 F9 z=>hK _ _ ?_;clear hK;simp only[nrm];have y:∀q,(Value.slice F n.l.length c').ownBlock=some q->s.heap.size<=q:=fun q b=>(g1.o.lt q b).1;have Z:∀q,q∈(Value.slice F n.l.length c').ownBlock.toList->s.heap.size<=q:=fun q b=>y q (by simpa using b);have a0:p∉(Value.slice F n.l.length c').ownBlock.toList:=fun L=>f2.o (by simpa using L);have f5:=e'.o;have f6:=f3.o;have f7:=d0.o.lt;have f8:=d'.o.size;have B:=(d0.o.fr e0).fr F9 a0;have c4:=B.at_ (i:=2) rfl;have c5:=B.free 2;refine rn rfl (by go_simp<;>with_reducible rfl) ?_;simp only[nrm];refine lp fun K hK=>?_;refine pB (w':=w9.setCell ⟨p,2,none⟩ (.slice G (n.l.length+1) H)) (by go_simp) (hK _ _ ?_);clear hK;simp only[Act.put];refine sE ?_;have M:Fr [p] w9 (w9.setCell ⟨p,2,none⟩ (.slice G (n.l.length+1) H)):=(Fr.refl _ _).setCell (.inl (by simp)) _;have a1:=B.set_ 2 (.slice G (n.l.length+1) H);have a2:Fr [] s w9:=(d'.o.trans e0).trans F9 (fun q b=>.inr (Z q b));have P:Fr [] s (w9.setCell ⟨p,2,none⟩ (.slice G (n.l.length+1) H)):=a2.trans M (fun q b=>.inr (by have:=aB.1 b;omega))
   have C:(Value.slice G (n.l.length+1) H).ownBlock≠some p:=fun e=>by
    rcases z p e with h1|h1
    ·exact f2.o h1
    ·omega
   have a3:(w9.setCell ⟨p,2,none⟩ (.slice G (n.l.length+1) H)).ownsRow s.heap.size 198 3 (.slice G (n.l.length+1) H) (n.l.length+1) (cs++[Value.slice Ak key.length ck,.slice none 0 0,.int .i64 (r.first:Int)]):=iB (wC a6 (fun q b=>by
    rcases z q b with h1|h1
    ·have:=y q h1;omega
    ·omega)) M (fun q b L=>by have:=aB.1 L;exact C (by rw[<- this];exact b))
   have U:Hid (Blk (w9.setCell ⟨p,2,none⟩ (.slice G (n.l.length+1) H)) p 184 [.int .i64 (dA n),.int .i64 (n.first:Int),.slice G (n.l.length+1) H]):=lh a1;have V:=lh P;have c0:=lh a3;have c1:=lh C;have i9:Hid ((cs++[Value.slice Ak key.length ck,.slice none 0 0,.int .i64 (r.first:Int)]).length=(n.l.length+1)*3):=lh (by have:=a'.o;simp;omega);have f4:Hid (jF D w (n.l++[(⟨key,[],r.first⟩:It)]) (cs++[Value.slice Ak key.length ck,.slice none 0 0,.int .i64 (r.first:Int)])):=lh (jF.append HI.o ⟨⟨⟨m,i7.o,h7.o⟩,⟨m,cA.nil _ _,h7.o⟩,rfl⟩,trivial⟩);have HW:Hid (n.with_ key r=⟨n.lf,n.first,(n.l++[(⟨key,[],r.first⟩:It)])++r.l⟩):=lh (by unfold Nd.with_;rw[eA (by rw[e2];decide)]);clear M a1 a2 P C a3 z B c4 c5 a6 F9 Z a0 y i1 e0 i2 h3 u1 u2 s1 b5 Y E a4 f7 f8 f5 f6 d0 g1 d' e5;generalize w9.setCell ⟨p,2,none⟩ (.slice G (n.l.length+1) H)=w3 at *;have c3:=lh ((f0.o.fr V.o));have k1:=U.o.at_ (i:=1) rfl;have k2:=U.o.at_ (i:=2) rfl;have r2:=c3.o.at_ (i:=2) rfl;go_upto_region 4 with fail
   refine fE ?_
   iterate 4 (refine rn rfl (by go_simp<;>with_reducible rfl) ?_;simp only[nrm])
   refine lp fun K hK=>?_;obtain⟨tj,i4,Y,E,a4⟩:=mE wJ
   refine tI (.tmp 30) (.tmp 32) rfl 198 3 56 Go.Proofs.Tryz.underlying182 i4 Y E a4 rfl (by omega) G (n.l.length+1) H (cs++[Value.slice Ak key.length ck,.slice none 0 0,.int .i64 (r.first:Int)]) rfl (wC c0.o (fun _ _=>rB _)) A2 r.l.length c2 cs2 rfl b7.o (fun h0=>by
    obtain⟨g,rfl,g5⟩:=h5.o h0;exact⟨_,rfl,fun j u Q=>by rw[Go.Addr.add_mid,cC];exact aA (d8.o.trans V.o) (g5 j u Q)⟩) e3.o (by unfold maxLen;omega) (by omega) w3.heap.size rfl fun B9 d9 x9 a6 F9 z=>hK _ _ ?_
   clear hK;simp only[nrm];have y:∀q,(Value.slice G (n.l.length+1) H).ownBlock=some q->s.heap.size<=q:=fun q b=>(c0.o.lt q b).1;have Z:∀q,q∈(Value.slice G (n.l.length+1) H).ownBlock.toList->s.heap.size<=q:=fun q b=>y q (by simpa using b);have a0:p∉(Value.slice G (n.l.length+1) H).ownBlock.toList:=fun L=>c1.o (by simpa using L);have f5:=e'.o;have f6:=f3.o;have f7:=U.o.lt;have f8:=V.o.size;have B:=U.o.fr F9 a0;have c4:=B.at_ (i:=2) rfl;have c5:=B.free 2;refine rn rfl (by go_simp<;>with_reducible rfl) ?_;simp only[nrm];refine lp fun K hK=>?_;refine pB (w':=x9.setCell ⟨p,2,none⟩ (.slice B9 (n.l.length+1+r.l.length) d9)) (by go_simp) (hK _ _ ?_);clear hK;simp only[Act.put];refine sE ?_;have M:Fr [p] x9 (x9.setCell ⟨p,2,none⟩ (.slice B9 (n.l.length+1+r.l.length) d9)):=(Fr.refl _ _).setCell (.inl (by simp)) _;have a1:=B.set_ 2 (.slice B9 (n.l.length+1+r.l.length) d9);have a2:Fr [] s x9:=V.o.trans F9 (fun q b=>.inr (Z q b));have P:Fr [] s (x9.setCell ⟨p,2,none⟩ (.slice B9 (n.l.length+1+r.l.length) d9)):=a2.trans M (fun q b=>.inr (by have:=aB.1 b;omega))
   have C:(Value.slice B9 (n.l.length+1+r.l.length) d9).ownBlock≠some p:=fun e=>by
    rcases z p e with h1|h1
    ·exact c1.o h1
    ·omega
   have a3:(x9.setCell ⟨p,2,none⟩ (.slice B9 (n.l.length+1+r.l.length) d9)).ownsRow s.heap.size 198 3 (.slice B9 (n.l.length+1+r.l.length) d9) (n.l.length+1+r.l.length) ((cs++[Value.slice Ak key.length ck,.slice none 0 0,.int .i64 (r.first:Int)])++cs2):=iB (wC a6 (fun q b=>by
    rcases z q b with h1|h1
    ·have:=y q h1;omega
    ·omega)) M (fun q b L=>by have:=aB.1 L;exact C (by rw[<- this];exact b))
   have f9:Hid (Blk (x9.setCell ⟨p,2,none⟩ (.slice B9 (n.l.length+1+r.l.length) d9)) p 184 [.int .i64 (dA n),.int .i64 (n.first:Int),.slice B9 (n.l.length+1+r.l.length) d9]):=lh a1;have f':=lh P;have a7:=lh a3;have c6:=lh (h2.o.fr P);have i0:p≠w.heap.size+2:=by omega
   clear M a1 a2 P C a3 z B c4 c5 a6 F9 Z a0 y k1 k2 r2 i4 Y E a4;generalize x9.setCell ⟨p,2,none⟩ (.slice B9 (n.l.length+1+r.l.length) d9)=i' at *
   go_wp2_with (first
    | (refine iO rfl 184 (.tmp 7) rfl rfl f9.o Go.Proofs.Tryz.underlying184 rfl oB ?_)
    | (refine oD rfl 184 (.tmp 6) (.tmp 35) rfl [.int .i64 (dA n),.int .i64 (n.first:Int),.slice B9 (n.l.length+1+r.l.length) d9] rfl rfl c6.o oB rfl ?tt ?_))
   case tt=>intro u Q;simp at Q;rcases Q with rfl|rfl|rfl<;>rfl
   intro d4 a5 O d5;have N:Fr [] w d4:=(d8.o.trans f'.o).trans O (fun q b=>.inr (by have:=aB.1 b;omega))
   have HE:Hid (R (.returned (.agg #[.int .i64 (dA n),.int .i64 (n.first:Int),.slice B9 (n.l.length+1+r.l.length) d9])) d4):=lh (HQ.o _ _ ⟨_,rfl,by
    rw[HW.o];have g0:dA n=dA ⟨n.lf,n.first,(n.l++[(⟨key,[],r.first⟩:It)])++r.l⟩:=rfl;rw[g0];refine NdV.make (n:=⟨n.lf,n.first,(n.l++[(⟨key,[],r.first⟩:It)])++r.l⟩) (jF.append f4.o h4.o) ?_ N HD.o;have c7:((n.l++[(⟨key,[],r.first⟩:It)])++r.l).length=n.l.length+1+r.l.length:=by first|(simp;done)|(simp;omega)
    rw[show(⟨n.lf,n.first,(n.l++[(⟨key,[],r.first⟩:It)])++r.l⟩:Nd).l.length=n.l.length+1+r.l.length from c7];exact wC (iB a7.o O (fun q b L=>by have:=(a7.o.lt q b).1;have:=aB.1 L;omega)) (fun q b=>by have:=(a7.o.lt q b).1;omega),N⟩)
   have c8:=lh a5;clear a5 O d5 N;go_wp2_with fail;exact yH (g:=w.heap.size+2) (t':=184) (cs:=[.int .i64 (dA n),.int .i64 (n.first:Int),.slice B9 (n.l.length+1+r.l.length) d9]) (d:=_) rfl rfl c8.o Go.Proofs.Tryz.underlying184 rfl oB HE.o
def Buf (w:World) (H:Nat) (v:Value) (bs:List UInt8):Prop:=w.ownsRow H 5 1 v bs.length (fA bs)
structure App (w:World) (H:Nat) (v:Value) (bs:List UInt8) (w':World) (v':Value):Prop where
 buf:Buf w' H v' bs
 fr:Fr v.ownBlock.toList w w'
 row:∀q,v'.ownBlock=some q->v.ownBlock=some q∨w.heap.size<=q
theorem Buf.shape{w:World}{H:Nat}{v:Value}{bs:List UInt8}(h:Buf w H v bs):∃A c,v=.slice A bs.length c:=by
 obtain⟨A,c,e,_⟩:=sA h;exact⟨A,c,e⟩
theorem Buf.fr{S:List Nat}{w w':World}{H:Nat}{v:Value}{bs:List UInt8}(h:Buf w H v bs)(b:Fr S w w')(c:∀q,v.ownBlock=some q->q∉S:=by simp):Buf w' H v bs:=iB h b c
theorem App.fr0{w0 w w':World}{H:Nat}{v:Value}{bs:List UInt8}(h:App w H v l w' u)(c:Buf w H v bs)(h0:w0.heap.size<=H)(d:Fr [] w0 w):Fr [] w0 w':=
 d.trans h.fr fun q b=>.inr (by have:=(c.lt q (by simpa using b)).1;omega)
theorem yF{o:Oper}{a:Act}{w:World}{K:Act->World->Prop}{Q:Exit->Act->World->Prop}(s x:Operand)(C:o.op=.call { callee:=.builtin .append,args:=#[s,x],argTypes:=#[67,67] })
 {H:Nat}{v:Value}{bs more:List UInt8}(D:a.eval s=v)(r:Buf w H v bs)(hH:H<=w.heap.size){g:Nat}(E:cA w (a.eval x) more g)(G:bs.length<=1048576)(I:more.length<=1048576)
 (h:∀v' w',App w H v (bs++more) w' v'->K (a.put o.dst v') w'):Oper.wp prog o a w K Q:=by
 obtain⟨J,hi,l,k,m⟩:=mE tM;obtain⟨A,c,rfl,_⟩:=sA r;obtain⟨B,d,off,n,_,b⟩:=E
 refine tI s x C 5 1 1 Go.Proofs.Tryz.underlying67 hi l k m rfl (by omega) A bs.length c (fA bs) D (wC r (fun _ _=>rB _)) B more.length d (fA more) n (by rw[kA];omega) (fun h0=>by
  obtain⟨t,y⟩:=b h0;exact⟨_,t,fun j u z=>by rw[Go.Addr.add_mid];exact y j u z⟩) (yC _) (by unfold maxLen;omega) (by omega) w.heap.size rfl fun L cap w' f F i=>?_
 have e:bs.length+more.length=(bs++more).length:=by simp
 rw[e]at f i⊢
 refine h _ w' ⟨?_,F,fun q p=>by
  rcases i q p with h1|h1
  ·exact .inl h1
  ·exact .inr (by omega)⟩
 rw[<- sC]at f
 exact wC f fun q p=>by
  rcases i q p with h1|h1
  ·exact(r.lt q h1).1
  ·omega
theorem jG{w:World}{H:Nat}{v:Value}{bs:List UInt8}(h:Buf w H v bs)(n:Nat)(_y:n<65536)(z:bs.length<=1000000)(hH:H<=w.heap.size):
  Calls prog 153 #[v,.int .i64 (n:Int)] w fun e w'=>∃m,e=.returned m/\App w H v (bs++b16 n) w' m:=by
 have s:=lh h;clear h
 go_enter func153,ntmps153
 go_upto_region 1 with fail
 refine fE ?_
 iterate 6 (refine rn rfl (by go_simp<;>with_reducible rfl) ?_;simp only[nrm])
 obtain⟨b,g⟩:=nm (UInt8.ofNat (n / 256));obtain⟨c,i⟩:=nm (UInt8.ofNat n);have j:IntKind.u8.wrap ((n:Int) / 256)=(b.toNat:Int):=by rw[g,yN,wT];omega
 have k:IntKind.u8.wrap (n:Int)=(c.toNat:Int):=by rw[i,yN,wT];omega
 rw[j,k];have t:Hid (b16 n=[b,c]):=lh (by rw[g,i];rfl);clear j k g i;refine lp fun K hK=>?_;refine xB (v:=.slice (some ⟨w.heap.size,0,none⟩) 2 2) (w':=w.alloc (.cells #[.int .u8 (b.toNat:Int),.int .u8 (c.toNat:Int)] 5)) (by simp[execOp,Act.eval,aAD,Result.andThen]) (hK _ _ ?_);simp only[nrm];clear hK;have l:Blk (w.alloc (.cells #[.int .u8 (b.toNat:Int),.int .u8 (c.toNat:Int)] 5)) w.heap.size 5 (fA [b,c]):=Blk.new w 5 (fA [b,c]);have f:Fr [] w (w.alloc (.cells #[.int .u8 (b.toNat:Int),.int .u8 (c.toNat:Int)] 5)):=(Fr.refl [] w).alloc _;have p:(w.alloc (.cells #[.int .u8 (b.toNat:Int),.int .u8 (c.toNat:Int)] 5)).heap.size=w.heap.size+1:=by simp
 generalize w.alloc (.cells #[.int .u8 (b.toNat:Int),.int .u8 (c.toNat:Int)] 5)=x at *;refine lp fun K hK=>?_;refine yF (.tmp 5) (.tmp 11) rfl rfl (s.o.fr f) (by omega) (cA.of_blk l 2 (tA _)) (by omega) (by simp) fun m w' d=>hK _ _ ?_;simp only[nrm];clear hK;refine rn rfl (by go_simp<;>with_reducible rfl) ?_;simp only[nrm];refine sE ?_
 have u:Hid (App w H v (bs++b16 n) w' m):=lh (by
  rw[t.o]
  exact⟨d.buf,(f.mono (by simp)).trans d.fr (fun q r=>.inl r),fun q r=>by
   rcases d.row q r with h1|h1
   ·exact .inl h1
   ·exact .inr (by omega)⟩)
 clear d l f p;go_wp2_with fail
 go_ret
 exact⟨_,rfl,u.o⟩
end
end Go.Proofs.YtebjhcjbfaaejaaGreatDoor
