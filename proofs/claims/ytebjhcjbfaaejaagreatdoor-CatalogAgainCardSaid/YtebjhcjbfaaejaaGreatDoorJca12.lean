/-
  Joined: Od Oe Of Og
-/
import Derived.Test.YtebjhcjbfaaejaaGreatDoorJca11
set_option maxRecDepth 100000
set_option maxHeartbeats 32000000
namespace Go.Proofs.YtebjhcjbfaaejaaGreatDoor
open Go.Proofs.Tryz
variable {k i j d s:Nat}{v:Value}{y:Ky}
section
open Go.RowKit Go.Sort Go.Shelf
def znd:List Value:=[.int .i64 0,.int .i64 0,.slice none 0 0]
theorem kD:(prog.info? 184).map (·.zero)=some (some (.agg #[.int .i64 0,.int .i64 0,.slice none 0 0])):=by kernel_rfl
theorem oB:(prog.info? 184).map (·.size)=some 3:=by kernel_rfl
theorem aKq(b:Array Value)(w:World):(callFunc 173 b).run prog w=.ok (.enter 173 b) w:=by kernel_rfl
theorem mJ{P:Program}{c:Func}{tmps:Array Value}{w:World}{k f:Tmp}{t t':TypeId}{g:Nat}{cs:List Value}{d:TypeDesc}(i:c.results=#[.cell k t,.tmp f])(j:tmps.getD k undef=.pointer (some ⟨g,0,none⟩))(l:Blk w g t' cs)
 (m:P.underlying t=some d)(n:d.isRow=true)(hi:(P.info? t).map (·.size)=some cs.length):(results c tmps).run P w=.ok (.tuple #[.agg cs.toArray,tmps.getD f undef]) w:=by
 have h:=Go.run_loadVar_row (P:=P) w g t' t cs.toArray (0,0) d l m (by cases d<;>simp_all) (by simpa using hi);have b:tmps[k]?.getD undef=.pointer (some ⟨g,0,none⟩):=by simpa using j
 simp[results,i,b,h,asAddr]
theorem qH(w:World)(k:Int)(a b:Value):Calls prog 99 #[.agg #[.int .i64 k,a,b]] w fun e w'=>e=.returned (.bool (k==1))/\w'=w.alloc (.cells #[.int .i64 k,a,b] 184):=by
 go_enter func99,ntmps99
 go_wp2
 go_ret
 exact⟨rfl,rfl⟩
theorem aOM(n:Nd):(dA n==1)=n.lf:=by unfold dA;cases n.lf<;>rfl
theorem gZ{w:World}{a b:Value}(n:Nd):RV 99 #[.agg #[.int .i64 (dA n),a,b]] w (.bool n.lf):=
 (qH w (dA n) a b).mono fun e w' ⟨c,d⟩=>⟨by rw[c,aOM],by rw[d];exact(Fr.refl [] w).alloc _⟩
def aLG (W:World) (B2 rb B5 g:Nat) (n:Nd) (r:List UInt8) (iv:Value) (wr:World):Prop:=
 ∃(k:Nat) (sv:Value) (cs:List Value),k<=n.l.length/\iv=.int .i64 (k:Int)/\Blk wr B2 184 znd/\Blk wr B5 184 [.int .i64 (dA n),.int .i64 (n.first:Int),sv] /\
  wr.ownsRow (W.heap.size+3) 198 3 sv k cs/\jF (fun q=>W.heap.size+3<=q/\sv.ownBlock≠some q) wr (n.l.take k) cs/\RdI wr rb g ((n.l.drop k).flatMap (ib n.lf)++r)/\Fr [] W wr/\W.heap.size+3<=wr.heap.size
theorem aON{w:World}{v:Value}{n:Nd}{r:List UInt8}{g:Nat}(hv:cA w v (n.written++r) g)(e':(n.written++r).length=512)(j1:n.ok):
  Calls prog 132 #[v] w fun e w'=>∃nv,e=.returned (.tuple #[nv,.bool true])/\NdV (fun q=>w.heap.size<=q) w' w.heap.size nv n/\Fr [] w w':=by
 obtain⟨A,c,off,rfl,hc,Z⟩:=hv;obtain⟨rfl,M⟩:=Z (by omega);clear Z
 have l6:g<w.heap.size:=by
  have:=cF w _ (M 0 _ (xD (by rw[kA];omega)));exact this
 refine gA fun R HQ=>?_;rw[e']at hc⊢;obtain⟨W1,a4⟩:=nm ((w.alloc (.cells znd.toArray 184)).alloc (.cells #[.slice (some ⟨g,off,none⟩) 512 c,.bool false] 257));have f0:Fr [] w W1:=by rw[a4];exact((Fr.refl [] w).alloc _).alloc _
 have a5:Blk W1 w.heap.size 184 znd:=by rw[a4];exact(Blk.new w _ znd).alloc _
 have J:RdI W1 (w.heap.size+1) g (n.written++r):=by
  refine⟨off,c,?_,by omega,fun j u hj=>aA f0 (M j u hj)⟩;rw[e',a4];have:=Blk.new (w.alloc (.cells znd.toArray 184)) 257 [.slice (some ⟨g,off,none⟩) 512 c,.bool false]
  rwa [show(w.alloc (.cells znd.toArray 184)).heap.size=w.heap.size+1 by simp]at this
 have g3:W1.heap.size=w.heap.size+2:=by rw[a4];simp
 have c6:g≠w.heap.size+1:=by omega
 obtain⟨u,hu⟩:∃u:UInt8,u=if n.lf then 1 else 2:=⟨_,rfl⟩
 have g4:((u.toNat:Nat):Int)=dA n:=by rw[hu];unfold dA;cases n.lf<;>rfl
 have e0:n.written++r=u::(b16 n.l.length++((if n.lf then [] else b16 n.first)++(n.l.flatMap (ib n.lf)++r))):=by rw[hu];unfold Nd.written Nd.head;simp
 rw[e0]at J;have g5:=lh (aGB J c6);have j2:=lh f0;have j3:=lh a5;have j4:=lh g3;have a1:=lh j1;have j5:=lh g4;have j6:=lh a4;clear M f0 a5 J g3 j1 e0 g4 hu a4
 go_enter func132,ntmps132
 go_wp2_with (with_reducible refine mA rfl 184 rfl (.agg #[.int .i64 0,.int .i64 0,.slice none 0 0]) znd.toArray kD rfl ?_)
 rw[<- j6.o];refine g5.o.mono ?_;rintro e z ⟨rfl,i4,g0,d8⟩;rw[j5.o];have g6:=lh i4;have g7:=lh ((j2.o.mono (S:=[]) (T:=[w.heap.size+1]) (by simp)).trans g0);have d':=lh (j3.o.fr g0);have C:Hid (z.heap.size=w.heap.size+2):=lh (by have:=j4.o;omega);clear i4 g0 d8 g5
 go_wp2_with (first
  | (with_reducible refine mA rfl 184 rfl (.agg #[.int .i64 0,.int .i64 0,.slice none 0 0]) znd.toArray kD rfl ?_)
  | (refine vA (W:=z) rfl 184 (.tmp 5) (.tmp 13) rfl [.int .i64 (dA n),.int .i64 0,.slice none 0 0] rfl rfl rfl oB rfl ?z1 ?_))
 case z1=>intro x O;simp at O;rcases O with rfl|rfl|rfl<;>rfl
 intro w3 g2 d9 l3;have c7:=lh g2;have c8:=lh (g7.o.trans d9);have f1:=lh (g6.o.fr d9 (by simp) (by simp));have P:=lh (d'.o.fr d9);have c':Hid (w3.heap.size=w.heap.size+3):=lh (by have:=C.o;omega);have k0:=g2.at_ (i:=0) rfl;have d3:=lh (eS (k:=2) f1.o (by rw[lB];show 2<=2+_;omega) c6);clear g2 d9 l3 g7 g6 d'
 cases G:n.lf
 case' true=>
  have D:dA n=1:=by unfold dA;rw[G];rfl
  rw[D]at k0;go_wp2_with fail;refine d3.o.mono ?_;rintro e w4 ⟨v4,rfl,b6,b7,b8,b9⟩
  have er:r16 ((b16 n.l.length++((if n.lf then [] else b16 n.first)++(n.l.flatMap (ib n.lf)++r))).take 2)=n.l.length:=by
   have:=oG a1.o.few []
   rwa [dI]at this
  have hh:=lJ b6 (by rw[jC,lB];show 2<=min 2 (2+_);omega);rw[er]at hh;have HH:=lh hh;have a6:=lh b8;have f2:=lh b9;have a7:=lh b7;clear b6 b7 b8 b9 er hh k0;go_wp2_with fail;refine HH.o.mono ?_;rintro e w5 ⟨rfl,q5,N⟩;have L:Fr [w.heap.size+1] w3 w5:=by rw[N];exact a6.o.drewN _
  have d:=c7.o.fr L (by have:=C.o;simp;omega);have k0:=d.at_ (i:=0) rfl;rw[D]at k0;have k1:=d.at_ (i:=1) rfl;have k2:=d.at_ (i:=2) rfl;have a8:=lh d;have F:=lh L;have a9:=lh N;clear d L N HH;go_wp2_with fail;refine(qH w5 1 _ _).mono ?_;rintro e w6 ⟨rfl,b'⟩;have m:Fr [] w5 w6:=by rw[b'];exact(Fr.refl [] w5).alloc _
  have j7:=m.size;have Q:n.first=0:=a1.o.bare G;have a':=lh ((P.o.fr F.o).fr m);have b0:Hid (Blk w6 z.heap.size 184 [.int .i64 (dA n),.int .i64 (n.first:Int),.slice none 0 0]):=lh (by rw[Q];exact a8.o.fr m)
  have f3:Hid (RdI w6 (w.heap.size+1) g ((n.l.drop 0).flatMap (ib n.lf)++r)):=lh (by
   have h0:(b16 n.l.length++((if n.lf then [] else b16 n.first)++(n.l.flatMap (ib n.lf)++r))).drop 2=n.l.flatMap (ib n.lf)++r:=by rw[G];rfl
   have h1:=a7.o;rw[h0]at h1;have h2:Fr [] w4 w5:=by rw[a9.o];exact(Fr.refl [] w4).drewN _
   exact(h1.fr h2 (by simp) (by simp)).fr m (by simp) (by simp))
  have b1:Hid (Fr [] w w6):=lh (((c8.o.trans F.o).trans m).mono (fun x O=>.inr (by simp at O;omega)));have f4:Hid (w.heap.size+3<=w6.heap.size):=lh (by have:=c'.o;have:=F.o.size;omega);have j8:=lh G;clear m j7 Q b' k0 k1 k2 a8 F a9 a6 f2 a7 c7 f1 P c' c8 d3 D G;go_wp2_with fail
 case' false=>
  have D:dA n=2:=by unfold dA;rw[G];rfl
  rw[D]at k0;go_wp2_with fail;refine d3.o.mono ?_;rintro e w4 ⟨v4,rfl,b6,b7,b8,b9⟩
  have er:r16 ((b16 n.l.length++((if n.lf then [] else b16 n.first)++(n.l.flatMap (ib n.lf)++r))).take 2)=n.l.length:=by
   have:=oG a1.o.few []
   rwa [dI]at this
  have hh:=lJ b6 (by rw[jC,lB];show 2<=min 2 (2+_);omega);rw[er]at hh;have HH:=lh hh;have a6:=lh b8;have f2:=lh b9;have a7:=lh b7;clear b6 b7 b8 b9 er hh k0;go_wp2_with fail;refine HH.o.mono ?_;rintro e w5 ⟨rfl,q5,N⟩;have L:Fr [w.heap.size+1] w3 w5:=by rw[N];exact a6.o.drewN _
  have d:=c7.o.fr L (by have:=C.o;simp;omega);have k0:=d.at_ (i:=0) rfl;rw[D]at k0;have k1:=d.at_ (i:=1) rfl;have k2:=d.at_ (i:=2) rfl;have a8:=lh d;have F:=lh L;have a9:=lh N;clear d L N HH;go_wp2_with fail;refine(qH w5 2 _ _).mono ?_;rintro e w6 ⟨rfl,b'⟩;have m:Fr [] w5 w6:=by rw[b'];exact(Fr.refl [] w5).alloc _
  have e1:=a8.o.fr m
  have g8:Hid (RdI w6 (w.heap.size+1) g (b16 n.first++(n.l.flatMap (ib n.lf)++r))):=lh (by
   have h0:(b16 n.l.length++((if n.lf then [] else b16 n.first)++(n.l.flatMap (ib n.lf)++r))).drop 2=b16 n.first++(n.l.flatMap (ib n.lf)++r):=by rw[G];rfl
   have h1:=a7.o;rw[h0]at h1;have h2:Fr [] w4 w5:=by rw[a9.o];exact(Fr.refl [] w4).drewN _
   exact(h1.fr h2 (by simp) (by simp)).fr m (by simp) (by simp))
  have e2:=lh ((P.o.fr F.o).fr m);have e3:=lh e1;have g':=lh ((c8.o.trans F.o).trans m);have h3:Hid (w.heap.size+3<=w6.heap.size):=lh (by have:=c'.o;have:=F.o.size;have:=m.size;omega);have h4:=lh (eS (k:=2) g8.o (by rw[lB];show 2<=2+_;omega) c6);clear k0 k1 k2 m e1 b' a8 F a9 a6 f2 a7 c7 f1 P c' c8 d3 g8;go_wp2_with fail;refine h4.o.mono ?_;rintro e w7 ⟨v7,rfl,i5,c3,c4,f6⟩
  have j9:r16 ((b16 n.first++(n.l.flatMap (ib n.lf)++r)).take 2)=n.first:=by
   have:=oG a1.o.first []
   rwa [dI]at this
  have f5:=lJ i5 (by rw[jC,lB];show 2<=min 2 (2+_);omega);rw[j9]at f5;have h5:=lh f5;have d4:=lh c4;have d5:=lh c3;have e4:w.heap.size+3<=w7.heap.size:=by have:=h3.o;omega
  have h6:=lh e4;clear i5 c3 c4 f6 f5 e4 h4 h3;go_wp2_with fail;refine h5.o.mono ?_;rintro e w8 ⟨rfl,q8,i6⟩;have U:Fr [] w7 w8:=by rw[i6];exact(Fr.refl [] w7).drewN _
  have d6:Fr [w.heap.size+1] w6 w8:=d4.o.trans U;have l7:=U.size;have f6:=h6.o;have b2:=e3.o.fr d6 (by have:=C.o;simp;omega);have j':=b2.at_ (i:=1) rfl;have k3:=b2.free;have k4:=b2.lt;have d7:Fr [z.heap.size] w8 (w8.setCell ⟨z.heap.size,1,none⟩ (.int .i64 (n.first:Int))):=(Fr.refl _ _).setCell (.inl (by simp)) _;have a':=lh ((e2.o.fr d6).fr d7 (by have:=C.o;simp;omega));have b0:Hid (Blk (w8.setCell ⟨z.heap.size,1,none⟩ (.int .i64 (n.first:Int))) z.heap.size 184 [.int .i64 (dA n),.int .i64 (n.first:Int),.slice none 0 0]):=lh (b2.set_ 1 (.int .i64 (n.first:Int)))
  have f3:Hid (RdI (w8.setCell ⟨z.heap.size,1,none⟩ (.int .i64 (n.first:Int))) (w.heap.size+1) g ((n.l.drop 0).flatMap (ib n.lf)++r)):=lh (by
   have h0:(b16 n.first++(n.l.flatMap (ib n.lf)++r)).drop 2=n.l.flatMap (ib n.lf)++r:=rfl;have h1:=d5.o;rw[h0]at h1;exact(h1.fr U (by simp) (by simp)).fr d7 (by have:=C.o;simp;omega) (by have:=C.o;simp;omega))
  have b1:Hid (Fr [] w (w8.setCell ⟨z.heap.size,1,none⟩ (.int .i64 (n.first:Int)))):=lh (((g'.o.trans d6).mono (fun x O=>.inr (by simp at O;omega))).trans d7 (fun x O=>.inr (by have:=C.o;simp at O;omega)));have f4:Hid (w.heap.size+3<=(w8.setCell ⟨z.heap.size,1,none⟩ (.int .i64 (n.first:Int))).heap.size):=lh (by simp[World.setCell];omega);have j8:=lh G;clear U d6 b2 d7 e2 e3 g' d5 d4 h6 h5 i6 D G;go_wp2_with fail;clear j' k3 k4;generalize w8.setCell ⟨z.heap.size,1,none⟩ (.int .i64 (n.first:Int))=m1 at *
 all_goals
  go_loopw [7] (fun v wr=>aLG w w.heap.size (w.heap.size+1) z.heap.size g n r v wr) (fun v _=>n.l.length-(intOf v).toNat)
  case atStart=>exact⟨0,.slice none 0 0,[],rB _,rfl,a'.o,b0.o,vF _ _ _ _,trivial,f3.o,b1.o,f4.o⟩
  case round=>
   obtain⟨k,sv,cs,hk,rfl,a5,d,c5,e8,J,i7,l'⟩:=hrel;clear a' b0 f3 b1 f4;have c0:=d.at_ (i:=0) rfl;have c1:=d.at_ (i:=1) rfl;have c2:=d.at_ (i:=2) rfl;have r1:wr.cell? ⟨w.heap.size+1,1,none⟩=some (.bool false):=by obtain⟨_,_,hb,_⟩:=id J;exact hb.at_ (i:=1) rfl
   obtain⟨I,f,rfl,f9,m0⟩:=sA c5;have s:=lh a5;have h7:=lh d;have p:=lh c5;have e5:=lh e8;have k5:=lh J;have h8:=lh i7;have l8:=a1.o.few;have l5:(((k:Nat):Int)<(n.l.length:Int))↔k<n.l.length:=by omega
   clear a5 d c5 e8 J i7
   by_cases D:k<n.l.length
   ·obtain⟨x,O⟩:=gx (l:=n.l) D;have h9:=a1.o.item x (rG O)
    have b3:n.l.drop k=x::n.l.drop (k+1):=by
     obtain⟨h1,h2⟩:=tD.1 O;rw[zM h1,h2]
    have b4:n.l.take (k+1)=n.l.take k++[x]:=by
     obtain⟨h1,h2⟩:=tD.1 O;rw[jP h1,h2]
    have b5:=k5.o.fr ((Fr.refl [] wr).drew) (by simp) (by simp);rw[b3,nH,qF]at b5;have HI:=lh (aQx b5 h9 c6 (by show g<wr.heap.size;omega));have k6:=lh b4;clear O b3 b4 b5 h9;go_wp2_with fail;refine lA (fun W=>W.cell? ⟨z.heap.size,0,none⟩=some (.int .i64 (dA n))/\W.cell? ⟨z.heap.size,2,none⟩=some (.slice I k f)) [0,1,2,3,4,8] (by kernel_rfl) ?_;refine tks [0,1,2,3,4] ?_
    iterate 5 (refine tk rfl rfl ⟨c0,c2⟩ rfl (fun _ hW=>by(obtain⟨q0,q2⟩:=hW;go_simp)<;>with_reducible rfl) ?_;simp only[nrm])
    refine tke ?_;refine sp 5 rfl rfl rfl fun K hK=>?_;refine jA (l:=[.tmp 47,.tmp 49]) rfl [.pointer (some ⟨w.heap.size+1,0,none⟩),.int .i64 (dA n)] rfl (aKq _) (HI.o.mono ?_);rintro e w7 ⟨kv,vv,rfl,g1,c3,c4⟩;have t:Fr [w.heap.size+1] wr w7:=((Fr.refl [w.heap.size+1] wr).drew).trans c4;have k7:=p.o;have k8:=sF p.o;have V:∀q,(Value.slice I k f).ownBlock=some q->w.heap.size+3<=q:=fun q b=>(p.o.lt q b).1;have d8:w.heap.size+1<z.heap.size/\z.heap.size<w.heap.size+3:=by have:=C.o;omega
    have X:=h7.o.fr t (by simp;omega);have e6:=s.o.fr t;have f7:=lh (iB p.o t (fun q b=>by have:=V q b;simp;omega));have f8:=lh (e5.o.fr t (fun q b B=>by have:=b.1;have:=aB.1 B;omega));have d5:=lh c3;have d4:=lh (h8.o.trans t (fun x O=>.inr (by simp at O;omega)));have f6:=t.size;have k9:=lh g1;have H:=lh X;have h':=lh e6;have e7:=g1.one;refine⟨_,rfl,hK _ _ (fun _=>⟨X.at_ (i:=0) rfl,X.at_ (i:=2) rfl⟩) ?_⟩;simp only[nrm];clear c3 c4 t X e6 hK g1 k7;refine sp 6 rfl rfl rfl fun K hK=>?_;obtain⟨ti,i8,i9,e9,l1⟩:=mE wJ;refine dD (.tmp 50) rfl Go.Proofs.Tryz.underlying182 i8 i9 [kv,vv,.int .i64 (x.at_:Int)] rfl e9 rfl (by simp) (by simp) (hK _ _ (fun _=>⟨(H.o.alloc _).at_ (i:=0) rfl,(H.o.alloc _).at_ (i:=2) rfl⟩) ?_);simp only[nrm];clear hK;have i0:=Blk.new w7 198 [kv,vv,.int .i64 (x.at_:Int)];have E:Fr [] w7 (w7.alloc (.cells [kv,vv,.int .i64 (x.at_:Int)].toArray 198)):=(Fr.refl [] w7).alloc _;have f9:(w7.alloc (.cells [kv,vv,.int .i64 (x.at_:Int)].toArray 198)).heap.size=w7.heap.size+1:=by simp
    generalize w7.alloc (.cells [kv,vv,.int .i64 (x.at_:Int)].toArray 198)=w8 at *;have f':(Value.slice I k f).ownBlock≠some z.heap.size:=fun e=>by have:=V _ e;omega
    refine sp 7 rfl rfl rfl fun K hK=>?_;refine eD (.tmp 46) (.tmp 51) rfl 198 3 56 Go.Proofs.Tryz.underlying182 i8 i9 e9 l1 rfl (by omega) (.slice I k f) k cs rfl (wC (iB f7.o E (by simp)) (fun _ _=>rB _)) ⟨w7.heap.size,0,none⟩ 1 1 [kv,vv,.int .i64 (x.at_:Int)] rfl rfl (fun j u hu=>by rw[Go.Addr.add_mid,cC];exact i0.at_ hu) e7 (by omega) (by unfold maxLen;omega) (by omega) (w7.heap.size+1) f9 fun g9 c9 w9 i' F9 a0 j0=>hK _ _ (fun _=>⟨((H.o.fr E).fr F9 (by simpa using f')).at_ (i:=0) rfl,((H.o.fr E).fr F9 (by simpa using f')).at_ (i:=2) rfl⟩) ?_;simp only[nrm];clear hK;have a2:∀q,q∈(Value.slice I k f).ownBlock.toList->w.heap.size+3<=q:=fun q b=>V q (by simpa using b);have a3:=(H.o.fr E).fr F9 (fun B=>by have:=a2 _ B;omega)
    have k':w.heap.size+3<=g9:=by
     rcases a0 with h|h
     ·exact V _ h
     ·omega
    have Y:∀q,(Value.slice I k f).ownBlock=some q->q<wr.heap.size:=k8
    have i1:jF (fun q=>w.heap.size+3<=q/\(Value.slice I k f).ownBlock≠some q/\q≠g9) w8 (n.l.take k) cs:=(f8.o.fr E (fun q b B=>by cases B)).re (fun q b l4=>⟨b.1,b.2,fun e=>by
     rcases a0 with h|h
     ·exact b.2 (by rw[e];exact h)
     ·omega⟩) ⟨w.heap.size+3+g9+wr.heap.size,by omega,fun e=>by have:=Y _ e;omega,by omega⟩
    have i2:ItC (fun q=>w.heap.size+3<=q/\(Value.slice I k f).ownBlock≠some q/\q≠g9) w8 x kv vv (.int .i64 (x.at_:Int)):=(k9.o.re (D':=fun q=>w.heap.size+3<=q/\(Value.slice I k f).ownBlock≠some q/\q≠g9) (fun q (b:wr.heap.size<=q) l4=>⟨by omega,fun e=>by have:=Y _ e;omega,fun e=>by
     rcases a0 with h|h
     ·have:=Y _ h;omega
     ·omega⟩) ⟨w.heap.size+3+g9+wr.heap.size,by omega,fun e=>by have:=Y _ e;omega,by omega⟩).fr E (fun q b B=>by cases B)
    refine tks [8] ?_;refine tk rfl rfl ⟨a3.at_ (i:=0) rfl,a3.at_ (i:=2) rfl⟩ rfl (fun _ hW=>by(obtain⟨q0,q2⟩:=hW;go_simp)<;>with_reducible rfl) ?_;simp only[nrm];refine tke ?_;refine xA (j:=9) none rfl rfl (by kernel_rfl) rfl fun K hK=>?_;refine pB (w':=w9.setCell ⟨z.heap.size,2,none⟩ (.slice (some ⟨g9,0,none⟩) (k+1) c9)) (by have o2:=a3.at_ (i:=2) rfl;have of:=a3.free 2;go_simp) (hK _ _ (fun h=>absurd h (by decide +kernel)) ?_);simp only[Act.put];refine wd ?_ _;have y:Fr [z.heap.size] w9 (w9.setCell ⟨z.heap.size,2,none⟩ (.slice (some ⟨g9,0,none⟩) (k+1) c9)):=(Fr.refl _ _).setCell (.inl (by simp)) _;have l9:=F9.size
    have HX:Hid (aLG w w.heap.size (w.heap.size+1) z.heap.size g n r (.int .i64 ((k:Int)+1)) (w9.setCell ⟨z.heap.size,2,none⟩ (.slice (some ⟨g9,0,none⟩) (k+1) c9))):=lh ⟨k+1,.slice (some ⟨g9,0,none⟩) (k+1) c9,cs++[kv,vv,.int .i64 (x.at_:Int)],D,by go_num,
     (((h'.o.fr E).fr F9 (fun B=>by have:=a2 _ B;omega)).fr y (by simp;omega)),a3.set_ 2 (.slice (some ⟨g9,0,none⟩) (k+1) c9),
     iB (wC i' (fun q b=>by have:g9=q:=fG b;omega)) y (fun q b B=>by have:g9=q:=fG b;have:=aB.1 B;omega),by
      rw[k6.o];exact(((jF.append (l2:=[x]) (cs2:=[kv,vv,.int .i64 (x.at_:Int)]) i1 ⟨i2,trivial⟩).fr F9 (fun q b B=>absurd (by simpa using B) b.2.1)).fr y (fun q b B=>by have:=b.1;have:=aB.1 B;omega)).weak (fun q b=>⟨b.1,fun e=>b.2.2 (fG e).symm⟩),
     ((d5.o.fr E (by simp) (by simp)).fr F9 (fun B=>by have:=a2 _ B;omega) (fun B=>by have:=a2 _ B;omega)).fr y (by simp;omega) (by simp;omega),
     ((d4.o.trans E).trans F9 (fun q b=>.inr (by have:=a2 q b;omega))).trans y (fun q b=>.inr (by simp at b;omega)),by simp[World.setCell];omega⟩
    clear hK y a3 F9 a2 i' k' i0 E f9 f' e7 i1 i2 a0 j0;generalize w9.setCell ⟨z.heap.size,2,none⟩ (.slice (some ⟨g9,0,none⟩) (k+1) c9)=m2 at *;go_wp2_with fail
    go_roundw
    case rel=>exact HX.o
    case measure=>simp[intOf];omega
   ·obtain rfl:k=n.l.length:=by omega
    have d8:=C.o;rw[d8]at c0 c1 c2;have d0:=s.o.at_ (i:=0) rfl;have d1:=s.o.at_ (i:=1) rfl;have d2:=s.o.at_ (i:=2) rfl;have df:=s.o.free;have dl:=s.o.lt;have y:Fr [w.heap.size] wr ((((wr.setCell ⟨w.heap.size,0,none⟩ (.int .i64 (dA n))).setCell ⟨w.heap.size,1,none⟩ (.int .i64 (n.first:Int))).setCell ⟨w.heap.size,2,none⟩ (.slice I n.l.length f)).drew):=((((Fr.refl [w.heap.size] wr).setCell (.inl (by simp)) _).setCell (.inl (by simp)) _).setCell (.inl (by simp)) _).drew;have l0:Hid (Blk ((((wr.setCell ⟨w.heap.size,0,none⟩ (.int .i64 (dA n))).setCell ⟨w.heap.size,1,none⟩ (.int .i64 (n.first:Int))).setCell ⟨w.heap.size,2,none⟩ (.slice I n.l.length f)).drew) w.heap.size 184 [.int .i64 (dA n),.int .i64 (n.first:Int),.slice I n.l.length f]):=lh (((s.o.set_ 0 (.int .i64 (dA n))).set_ 1 (.int .i64 (n.first:Int))).set_ 2 (.slice I n.l.length f)).drew
    have i3:Hid (∃nv,Ending.returned (.tuple #[.agg #[.int .i64 (dA n),.int .i64 (n.first:Int),.slice I n.l.length f],.bool true])=.returned (.tuple #[nv,.bool true])/\NdV (fun q=>w.heap.size<=q) ((((wr.setCell ⟨w.heap.size,0,none⟩ (.int .i64 (dA n))).setCell ⟨w.heap.size,1,none⟩ (.int .i64 (n.first:Int))).setCell ⟨w.heap.size,2,none⟩ (.slice I n.l.length f)).drew) w.heap.size nv n/\Fr [] w ((((wr.setCell ⟨w.heap.size,0,none⟩ (.int .i64 (dA n))).setCell ⟨w.heap.size,1,none⟩ (.int .i64 (n.first:Int))).setCell ⟨w.heap.size,2,none⟩ (.slice I n.l.length f)).drew)):=lh ⟨_,rfl,⟨.slice I n.l.length f,cs,rfl,wC (iB p.o y (fun q b B=>by have:=(p.o.lt q b).1;have:=aB.1 B;omega)) (fun q b=>by have:=(p.o.lt q b).1;omega),by
     have h:=e5.o;rw[zF (tA _)]at h;exact(h.fr y (fun q b B=>by have:=b.1;have:=aB.1 B;omega)).weak (fun q b=>⟨by have:=b.1;show w.heap.size<=q;omega,b.2⟩),fun q b=>by have:=(p.o.lt q b).1;show w.heap.size<=q;omega⟩,h8.o.trans y (fun q b=>.inr (by have:=aB.1 b;omega))⟩
    clear y;go_wp2_with fail
    go_region
    all_goals go_wp2_with fail
    all_goals exact eF (mJ rfl rfl l0.o Go.Proofs.Tryz.underlying184 rfl oB) rfl (HQ.o _ _ i3.o)
theorem NdV.parts{D:Nat->Prop}{w:World}{base:Nat}{v:Value}{n:Nd}(h:NdV D w base v n):
  ∃A c cs,v=.agg #[.int .i64 (dA n),.int .i64 (n.first:Int),.slice A n.l.length c]/\n.l.length<=c/\w.ownsRow base 198 3 (.slice A n.l.length c) n.l.length cs/\jF D w n.l cs/\(0<n.l.length->∃g,A=some ⟨g,0,none⟩/\∀(j:Nat) (u:Value),cs[j]? = some u->w.cell? ⟨g,j,none⟩=some u):=by
 obtain⟨sv,cs,rfl,h2,h3,f⟩:=h;obtain⟨A,c,rfl,b,_⟩:=sA h2;exact⟨A,c,cs,rfl,b,h2,h3.weak fun q d=>d.1,fun h0=>tE h2 h0⟩
theorem aAK(c:Nat):∀(A:List It) (y:It),yM c (A++[y])=y.at_
 | [],_=>rfl
 | x::A,y=>aAK x.at_ A y
theorem uM{D:Nat->Prop}{w:World}{base k:Nat}{v:Value}{n:Nd}(h:NdV D w base v n)(B:k<=n.l.length)(q:n.l.length<=65536):
  RV 102 #[v,.int .i64 (k:Int)] w (.int .i64 ((n.child k:Nat):Int)):=by
 obtain⟨A,c,cs,rfl,z,f,d,b⟩:=h.parts;clear h
 by_cases h0:k=0
 ·subst h0;have e:n.child 0=n.first:=rfl;rw[e];clear f d b
  go_enter func102,ntmps102
  go_wp2
  go_ret
  exact⟨rfl,(Fr.refl [] w).alloc _⟩
 ·obtain⟨m,rfl⟩:∃m,k=m+1:=⟨k-1,by omega⟩;obtain⟨x,p⟩:∃x,n.l[m]? = some x:=gx (by omega);obtain⟨kv,vv,av,c0,c1,c2,i⟩:=d.at_ p;obtain⟨g,rfl,j⟩:=b (by omega);have o:=i.2.2;subst o;have u:=aA ((Fr.refl [] w).alloc (.cells #[.int .i64 (dA n),.int .i64 (n.first:Int),.slice (some ⟨g,0,none⟩) n.l.length c] 184)) (j _ _ c2)
  have e:n.child (m+1)=x.at_:=by
   unfold Nd.child;obtain⟨h1,h2⟩:=tD.1 p;rw[jP h1,h2,aAK]
  rw[e];have r:(m:Int)+1-1=(m:Int):=by omega
  have s:(m:Int)<(n.l.length:Int):=by omega
  have t:¬ ((m:Int)+1=0):=by omega
  have y:IntKind.i64.wrap ((m:Int)+1-1)=(m:Int):=by rw[iD];omega
  clear f d b j c0 c1 c2 i p e
  go_enter func102,ntmps102
  go_wp2
  go_ret
  exact⟨rfl,(Fr.refl [] w).alloc _⟩
theorem rU{f:It->Bool}:∀ {l:List It},l.Pairwise (fun x y=>f x=true->f y=true)->(List.range l.length).countP (fun i=>!((l[i]?).map f).getD false)=(l.takeWhile fun x=>!f x).length
 | [],_=>rfl
 | x::l,h=>by
  obtain⟨h1,h2⟩:=xE.1 h;have c:=rU h2;rw[gD,List.range_succ_eq_map,List.countP_cons,List.countP_map];have e:((fun i=>!(((x::l)[i]?).map f).getD false) ∘ Nat.succ)=fun i=>!((l[i]?).map f).getD false:=rfl;rw[e,c]
  cases b:f x with
  | false=>
   rw[List.takeWhile_cons_of_pos (by simp[b])]
   simp[b]
  | true=>
   rw[List.takeWhile_cons_of_neg (by simp[b])]
   have h0:l.takeWhile (fun x=>!f x)=[]:=by
    cases l with
    | nil=>rfl
    | cons y l=>rw[List.takeWhile_cons_of_neg (by simp[h1 y (sB ..) b])]
   rw[h0]
   simp[b]
theorem aQy(a b:Ky):(decide (0<Lib.compareBytes a b))=decide (klt b a):=by
 have e:klt b a↔0<Lib.compareBytes a b:=by have:=aDh a b;unfold klt;omega
 rw[jT,uO,uO];exact e.symm
theorem aDr(a b:Ky):(decide (0<=Lib.compareBytes a b)) = !decide (klt a b):=by
 have e:klt a b↔¬ 0<=Lib.compareBytes a b:=by unfold klt;omega
 rw[jT,uO,wW,qK,e,Classical.not_not]
theorem aOO{w:World}{g i n c:Nat}{kv:Value}{key:Ky}(h2:w.cell? ⟨k,2,none⟩=some (.slice (some ⟨g,0,none⟩) n c))(D:w.cell? ⟨j,0,none⟩=some kv)(f:cA w kv key d)
 (hi:w.cell? ⟨g,i*3,none⟩=some v)(l:cA w v y s)(t:i<n)(_E:n<=65536):
  Calls prog 135 (#[.int .i64 (i:Int)]++#[.pointer (some ⟨k,0,none⟩),.pointer (some ⟨j,0,none⟩)]) w fun e w'=>e=.returned (.bool (decide (klt key y)))/\∃q,w'=w.drewN q:=by
 have r:Hid (∀nq,Calls prog 133 #[v,kv] (w.drewN nq) fun e w'=>e=.returned (.int .i64 (Lib.compareBytes y key))/\∃m,w'=w.drewN m):=lh fun nq=>Go.Calls.quiet_of_same (by
  have h:=gM (l.fr ((Fr.refl [] w).drewN nq)) (f.fr ((Fr.refl [] w).drewN nq));exact h.mono fun e w' ⟨h1,h2⟩=>⟨h1,h2.symm⟩)
 have b:=aQy y key;have p:=lh b;obtain⟨x,z,ok,rfl,_,_⟩:=f;obtain⟨A,B,C,rfl,_,_⟩:=l;generalize Lib.compareBytes y key=cb at *;have u:(i:Int)<(n:Int):=by omega
 clear b
 go_enter func135,ntmps135
 go_wp2
 go_quiet (first|with_reducible exact r.o _)
 go_wp2
 go_ret
 exact⟨by rw[<- p.o];rfl,_,rfl⟩
def aBn (l:List It):Prop:=l.Pairwise fun x y=>klt x.key y.key
theorem aKr(b:Array Value)(w:World):(callFunc 135 b).run prog w=.ok (.enter 135 b) w:=by kernel_rfl
theorem aGC(b:Array Value)(w:World):(callFunc 140 b).run prog w=.ok (.enter 140 b) w:=by kernel_rfl
theorem aLH{f:It->Bool}{l:List It}(h:l.Pairwise (fun x y=>f x=true->f y=true)):∀a b,a<=b->b<l.length->((l[a]?).map f).getD false=true->((l[b]?).map f).getD false=true:=by
 intro a b d i g;rcases Nat.lt_or_eq_of_le d with c|rfl
 ·have h1:=List.pairwise_iff_getElem.1 h a b (by omega) i c;rw[xD (by omega)]at g;rw[xD i];exact h1 g
 ·exact g
theorem aGD{D:Nat->Prop}{w:World}{base:Nat}{v kv:Value}{n:Nd}{key:Ky}(h:NdV D w base v n)(z:cA w kv key k)(M:aBn n.l)(r:n.l.length<=65536):
  RV 101 #[v,kv] w (.int .i64 ((n.way key:Nat):Int)):=by
 obtain⟨A,c,cs,rfl,Q,u,m,d⟩:=h.parts;clear h;obtain⟨B,j⟩:=nm ((w.alloc (.cells #[.int .i64 (dA n),.int .i64 (n.first:Int),.slice A n.l.length c] 184)).alloc (.cells #[kv] 67));have b:Fr [] w B:=by rw[j];exact((Fr.refl [] w).alloc _).alloc _
 have H:Blk B w.heap.size 184 [.int .i64 (dA n),.int .i64 (n.first:Int),.slice A n.l.length c]:=by
  rw[j];exact(Blk.new w _ [.int .i64 (dA n),.int .i64 (n.first:Int),.slice A n.l.length c]).alloc _
 have I:Blk B (w.heap.size+1) 67 [kv]:=by
  rw[j];have:=Blk.new (w.alloc (.cells #[.int .i64 (dA n),.int .i64 (n.first:Int),.slice A n.l.length c] 184)) 67 [kv]
  rwa [xC]at this
 have s:=aEK (w:=B) (g:=135) (cb:=#[.pointer (some ⟨w.heap.size,0,none⟩),.pointer (some ⟨w.heap.size+1,0,none⟩)]) (n:=n.l.length) (fun i=>((n.l[i]?).map fun x=>decide (klt key x.key)).getD false) aKr r
  (fun w' q i hi=>by
   obtain⟨x,p⟩:=gx (l:=n.l) hi;obtain⟨N,O,P,c0,c1,c2,E⟩:=m.at_ p;obtain⟨g,rfl,F⟩:=d (by omega);obtain⟨S,G,_⟩:=E.1;rw[p];exact aOO (H.fr q (by simp) |>.at_ (i:=2) rfl) ((I.fr q).at_ (i:=0) rfl) ((z.fr b).fr q) (aA (b.trans q) (F _ _ c0)) ((G.fr b).fr q) hi r)
  (aLH (M.imp fun {x y} t p=>by
   rw[uO]at p⊢;exact vD p t))
 rw[rU (f:=fun x=>decide (klt key x.key)) (M.imp fun {x y} t p=>by
   rw[uO]at p⊢;exact vD p t)]at s
 have J:=lh s;have L:=lh b;have e:(n.l.takeWhile fun x=>!decide (klt key x.key)).length=n.way key:=rfl;rw[<- e];clear s b H I m u d e;obtain⟨T,U,ok,rfl,_,_⟩:=z
 go_enter func101,ntmps101
 go_wp2_with fail;rw[<- j];refine J.o.mono ?_;rintro e w' ⟨rfl,q⟩;have C:=lh (L.o.trans q);clear q J L
 go_wp2
 go_ret
 exact⟨rfl,C.o⟩
theorem aKs{w:World}{g i n c:Nat}{kv:Value}{key:Ky}(h2:w.cell? ⟨k,2,none⟩=some (.slice (some ⟨g,0,none⟩) n c))(C:w.cell? ⟨j,0,none⟩=some kv)(b:cA w kv key d)
 (hi:w.cell? ⟨g,i*3,none⟩=some v)(f:cA w v y s)(r:i<n)(_D:n<=65536):
  Calls prog 140 (#[.int .i64 (i:Int)]++#[.pointer (some ⟨k,0,none⟩),.pointer (some ⟨j,0,none⟩)]) w fun e w'=>e=.returned (.bool (!decide (klt y key)))/\∃q,w'=w.drewN q:=by
 have p:Hid (∀nq,Calls prog 133 #[v,kv] (w.drewN nq) fun e w'=>e=.returned (.int .i64 (Lib.compareBytes y key))/\∃m,w'=w.drewN m):=lh fun nq=>Go.Calls.quiet_of_same (by
  have h:=gM (f.fr ((Fr.refl [] w).drewN nq)) (b.fr ((Fr.refl [] w).drewN nq));exact h.mono fun e w' ⟨h1,h2⟩=>⟨h1,h2.symm⟩)
 have l:=lh (aDr y key);obtain⟨u,x,ok,rfl,_,_⟩:=b;obtain⟨z,A,B,rfl,_,_⟩:=f;generalize Lib.compareBytes y key=cb at *;have t:(i:Int)<(n:Int):=by omega
 go_enter func140,ntmps140
 go_wp2
 go_quiet (first|with_reducible exact p.o _)
 go_wp2
 go_ret
 exact⟨by rw[<- l.o];rfl,_,rfl⟩
theorem aDs{l:List It}{key:Ky}:gB l key<l.length/\(∃x,l[gB l key]? = some x/\nN l key=decide (x.key=key))∨gB l key=l.length/\nN l key=false:=by
 unfold gB nN;have h:=pP (p:=fun y=>decide (klt y.key key)) (l:=l);generalize l.takeWhile (fun y=>decide (klt y.key key))=A at *;generalize l.dropWhile (fun y=>decide (klt y.key key))=B at *;subst h
 cases B with
 | nil=>exact .inr ⟨by simp,rfl⟩
 | cons y B=>exact .inl ⟨by simp,y,by simp,rfl⟩
theorem aDt{D:Nat->Prop}{w:World}{base:Nat}{v kv:Value}{n:Nd}{key:Ky}(h:NdV D w base v n)(O:cA w kv key j)(hs:aBn n.l)(F:n.l.length<=65536):
  RV 109 #[v,kv] w (.tuple #[.int .i64 ((gB n.l key:Nat):Int),.bool (nN n.l key)]):=by
 obtain⟨A,c,cs,rfl,hc,Q,r,b⟩:=h.parts;clear h;obtain⟨T,u⟩:=nm ((w.alloc (.cells #[.int .i64 (dA n),.int .i64 (n.first:Int),.slice A n.l.length c] 184)).alloc (.cells #[kv] 67));have d:Fr [] w T:=by rw[u];exact((Fr.refl [] w).alloc _).alloc _
 have U:Blk T w.heap.size 184 [.int .i64 (dA n),.int .i64 (n.first:Int),.slice A n.l.length c]:=by
  rw[u];exact(Blk.new w _ [.int .i64 (dA n),.int .i64 (n.first:Int),.slice A n.l.length c]).alloc _
 have V:Blk T (w.heap.size+1) 67 [kv]:=by
  rw[u];have:=Blk.new (w.alloc (.cells #[.int .i64 (dA n),.int .i64 (n.first:Int),.slice A n.l.length c] 184)) 67 [kv]
  rwa [xC]at this
 have G:n.l.Pairwise fun x y=>(!decide (klt x.key key))=true->(!decide (klt y.key key))=true:=hs.imp fun {x y} a4 E=>by
   rw[wW,qK]at E⊢;exact fun hy=>E (vD a4 hy)
 have s:=aEK (w:=T) (g:=140) (cb:=#[.pointer (some ⟨w.heap.size,0,none⟩),.pointer (some ⟨w.heap.size+1,0,none⟩)]) (n:=n.l.length) (fun i=>((n.l[i]?).map fun x=>!decide (klt x.key key)).getD false) aGC F
  (fun w' p i hi=>by
   obtain⟨x,E⟩:=gx (l:=n.l) hi;obtain⟨S,a2,a3,c0,c1,c2,z⟩:=r.at_ E;obtain⟨g,rfl,B⟩:=b (by omega);obtain⟨gi,C,_⟩:=z.1;rw[E];exact aKs (U.fr p (by simp) |>.at_ (i:=2) rfl) ((V.fr p).at_ (i:=0) rfl) ((O.fr d).fr p) (aA (d.trans p) (B _ _ c0)) ((C.fr d).fr p) hi F)
  (aLH G)
 rw[rU (f:=fun x=>!decide (klt x.key key)) G]at s;have e:(n.l.takeWhile fun x=>!!decide (klt x.key key)).length=gB n.l key:=by unfold gB;simp only[Bool.not_not]
 rw[e]at s;have W:=lh s;have X:=lh d;have H:=lh U;have I:=lh V;have Y:=lh b;have Z:=lh r;have J:=lh (O.fr d);have P:=aDs (l:=n.l) (key:=key);have L:=lh P;generalize gB n.l key=k at *;generalize nN n.l key=is at *;clear s d U V r Q b e G P;obtain⟨Ak,ck,ok,rfl,_,_⟩:=O
 go_enter func109,ntmps109
 go_wp2_with fail;rw[<- u];refine W.o.mono ?_;rintro e w' ⟨rfl,p⟩;have t:=lh (X.o.trans p);have M:=H.o.fr p;have N:=I.o.fr p;have k2:=M.at_ (i:=2) rfl;have kk:=N.at_ (i:=0) rfl;have q:=lh (J.o.fr p);rcases L.o with ⟨a6,x,E,rfl⟩|⟨rfl,rfl⟩
 ·obtain⟨S,a2,a3,c0,c1,c2,z⟩:=Z.o.at_ E;obtain⟨g,rfl,B⟩:=Y.o (by omega);obtain⟨gi,C,_⟩:=z.1;have ki:=aA t.o (B _ _ c0)
  have r1:Hid (∀nq,Calls prog 130 #[S,.slice Ak key.length ck] (w'.drewN nq) fun e a5=>e=.returned (.bool (decide (x.key=key)))/\∃m,a5=w'.drewN m):=lh fun nq=>Go.Calls.quiet_of_same (by
   have h:=aBk ((C.fr t.o).fr ((Fr.refl [] w').drewN nq)) (q.o.fr ((Fr.refl [] w').drewN nq));exact h.mono fun e w' ⟨h1,h2⟩=>⟨h1,h2.symm⟩)
  have a0:(k:Int)<(n.l.length:Int):=by omega
  obtain⟨Ai,ci,oi,rfl,_,_⟩:=C;clear p M N B z E L Z Y W X H I J q c0 c1 c2;generalize hdd:decide (x.key=key)=is at *;have a1:=lh hdd;clear hdd;go_wp2_with fail
  go_quiet (first|with_reducible exact r1.o _)
  go_wp2
  go_ret2
  exact⟨by rw[a1.o];rfl,t.o.drewN _⟩
 ·have a0:¬ ((n.l.length:Int)<(n.l.length:Int)):=by omega
  clear p M N L Z Y W X H I J q;go_wp2_with fail
  go_quiet (first|fail)
  go_wp2
  go_ret2
  exact⟨rfl,t.o.drewN _⟩
theorem aIb{w:World}{a b:Value}(n:Nd){kv vv av:Value}{x:It}(t:cA w kv x.key k)(u:cA w vv x.v i)(h1:x.key.length<=65536)(h2:x.v.length<=65536)(y:av=.int .i64 (x.at_:Int)):
  RV 213 #[.agg #[.int .i64 (dA n),a,b],.agg #[kv,vv,av]] w (.int .i64 ((ibn n.lf x:Nat):Int)):=by
 obtain⟨j,l,ok,rfl,_,_⟩:=t;obtain⟨m,p,z,rfl,_,_⟩:=u;subst y;have q:IntKind.i64.wrap (2+(x.key.length:Int))=2+(x.key.length:Int):=by rw[iD];omega
 have r:IntKind.i64.wrap (2+(x.key.length:Int)+(x.v.length:Int))=2+(x.key.length:Int)+(x.v.length:Int):=by rw[iD];omega
 have s:IntKind.i64.wrap (3+(x.key.length:Int))=3+(x.key.length:Int):=by rw[iD];omega
 have h:Fr [] w ((((w.alloc (.cells #[.int .i64 (dA n),a,b] 184)).alloc (.cells #[.slice j x.key.length l,.slice m x.v.length p,.int .i64 (x.at_:Int)] 198))).alloc (.cells #[.int .i64 (dA n),a,b] 184)):=(((Fr.refl [] w).alloc _).alloc _).alloc _;have f:=lh h;have g:=lh (qH ((w.alloc (.cells #[.int .i64 (dA n),a,b] 184)).alloc (.cells #[.slice j x.key.length l,.slice m x.v.length p,.int .i64 (x.at_:Int)] 198)) (dA n) a b);clear h h1 h2
 cases d:n.lf with
 | true=>
  have c:dA n=1:=by unfold dA;rw[d];rfl
  rw[c]at f g;rw[c];clear c d
  go_enter func213,ntmps213
  go_wp2_with fail;refine g.o.mono ?_;rintro e w' ⟨rfl,rfl⟩
  go_wp2
  go_ret
  exact⟨by unfold ibn;simp,f.o⟩
 | false=>
  have c:dA n=2:=by unfold dA;rw[d];rfl
  rw[c]at f g;rw[c];clear c d
  go_enter func213,ntmps213
  go_wp2_with fail;refine g.o.mono ?_;rintro e w' ⟨rfl,rfl⟩
  go_wp2
  go_ret
  exact⟨by unfold ibn;simp,f.o⟩
def aLI (wb:World) (n:Nd) (b0:Nat) (v3 v14:Value) (wr:World):Prop:=∃k S:Nat,k<=n.l.length/\v14=.int .i64 (k:Int)/\v3=.int .i64 (S:Int)/\S=b0+iE n.lf (n.l.take k)/\Fr [] wb wr
theorem aQz(n:Nd):(3:Int)+2*(dA n-1)=((if n.lf then 3 else 5:Nat):Int):=by unfold dA;cases n.lf<;>rfl
theorem aEL{n:Nd}(h:n.ok){x:It}(b:x∈n.l):ibn n.lf x<=162:=by
 have:=aGy (h.item x b)
 split at this<;>omega
theorem aAL{l:List It}{k:Nat}{x:It}(b:l[k]? = some x):l.take (k+1)=l.take k++[x]:=by
 obtain⟨h1,h2⟩:=tD.1 b;rw[jP h1,h2]
theorem aEM{lf:Bool}{l:List It}{k:Nat}{x:It}(b:l[k]? = some x):iE lf (l.take (k+1))=iE lf (l.take k)+ibn lf x:=by
 rw[aAL b,uB];rfl
theorem aBG{D:Nat->Prop}{w:World}{base:Nat}{v:Value}{n:Nd}(h:NdV D w base v n)(Z:n.ok)(a0:n.size<=65536):
  RV 188 #[v] w (.int .i64 ((n.size:Nat):Int)):=by
 obtain⟨A,c,cs,rfl,hc,P,t,j⟩:=h.parts;clear h;obtain⟨wb,p⟩:=nm (w.alloc (.cells #[.int .i64 (dA n),.int .i64 (n.first:Int),.slice A n.l.length c] 184));have E:Fr [] w wb:=by rw[p];exact(Fr.refl [] w).alloc _
 have d:Blk wb w.heap.size 184 [.int .i64 (dA n),.int .i64 (n.first:Int),.slice A n.l.length c]:=by rw[p];exact Blk.new w _ [.int .i64 (dA n),.int .i64 (n.first:Int),.slice A n.l.length c]
 have a6:IntKind.i64.wrap (dA n-1)=dA n-1:=by rw[iD];unfold dA;split<;>omega
 have a7:IntKind.i64.wrap (2*(dA n-1))=2*(dA n-1):=by rw[iD];unfold dA;split<;>omega
 have a8:IntKind.i64.wrap (3+2*(dA n-1))=((if n.lf then 3 else 5:Nat):Int):=by rw[iD,aQz];split<;>omega
 generalize hb0:(if n.lf then 3 else 5:Nat)=b0 at *;have a9:=lh hb0;have HS:Hid (n.size=b0+iE n.lf n.l):=lh (by rw[jE,hb0]);have a1:=lh a0;have k0:=d.at_ (i:=0) rfl;have k1:=d.at_ (i:=1) rfl;have k2:=d.at_ (i:=2) rfl;have HB:=lh d;have F:=lh E;have HC:=lh j;have HI:=lh t;have u:=lh Z;have a':=lh p;clear hb0 d E j t P Z a0
 go_enter func188,ntmps188
 go_wp2_with fail;rw[<- p]
 go_loopw [3,14] (aLI wb n b0) (fun _ v _=>n.l.length-(intOf v).toNat)
 case atStart=>exact⟨0,b0,rB _,rfl,rfl,by simp[iE],Fr.refl _ _⟩
 case round=>
  obtain⟨k,S,hk,rfl,rfl,hS,B⟩:=hrel;have y:=lh hS;clear hS;clear k0 k1 k2;have d:=HB.o.fr B;have k0:=d.at_ (i:=0) rfl;have k1:=d.at_ (i:=1) rfl;have k2:=d.at_ (i:=2) rfl;have m:=lh B;have a2:=lh d;have a5:((k:Int)<(n.l.length:Int))↔k<n.l.length:=by omega
  clear d B
  by_cases Y:k<n.l.length
  ·obtain⟨x,hx⟩:=gx (l:=n.l) Y;have z:=rG hx;obtain⟨kv,vv,av,c0,c1,c2,C⟩:=HI.o.at_ hx;obtain⟨g,rfl,q⟩:=HC.o (by omega);have f:=F.o.trans m.o;have i0:=aA f (q _ _ c0);have i1:=aA f (q _ _ c1);have i2:=aA f (q _ _ c2);have G:=lh (C.fr f);have H:=lh C.one;have b1:=lh (aEL u.o z);have I:=lh (u.o.item x z);have J:=lh (aEM (lf:=n.lf) hx);have a3:Hid (iE n.lf (n.l.take (k+1))<=iE n.lf n.l):=lh (by have:=sN n.lf n.l (k+1);omega);clear hx z q C f c0 c1 c2
   go_wp2_with (first
    | (with_reducible refine mA rfl 198 rfl (.agg #[.slice none 0 0,.slice none 0 0,.int .i64 0]) zit.toArray xO rfl ?_)
    | (refine vA (W:=wr) rfl 198 (.tmp 5) (.tmp 17) rfl [kv,vv,av] rfl rfl rfl pG rfl H.o ?_))
   intro w3 X r a4;have L:=a2.o.fr r;have s:=lh (G.o.fr r);have M:=lh (m.o.trans r);have N:=lh L;have O:=lh X;obtain⟨⟨gk,Q,_⟩,⟨gv,T,_⟩,U⟩:=s.o;have HR:=lh (aIb (w:=w3) (a:=.int .i64 (n.first:Int)) (b:=.slice (some ⟨g,0,none⟩) n.l.length c) n Q T (by have:=I.o.k2;omega) (by have:=I.o.v;omega) U);clear L X r a4 i0 i1 i2 G s m Q T U;clear k0 k1 k2
   go_wp2_with (first
    | (refine iO rfl 184 (.tmp 1) rfl rfl N.o Go.Proofs.Tryz.underlying184 rfl oB ?_)
    | (refine iO rfl 198 (.tmp 5) rfl rfl O.o Go.Proofs.Tryz.underlying198 rfl pG ?_))
   refine HR.o.mono ?_;rintro e w4 ⟨rfl,V⟩
   have hw:IntKind.i64.wrap ((S:Int)+((ibn n.lf x:Nat):Int))=(S:Int)+((ibn n.lf x:Nat):Int):=by
    have h1:=J.o;have h2:=a3.o;have h3:=HS.o;have h4:=a1.o;have h5:=y.o;rw[iD];omega
   have b2:IntKind.i64.wrap ((k:Int)+1)=(k:Int)+1:=by
    have h1:=u.o.few;rw[iD];omega
   have HX:Hid (aLI wb n b0 (.int .i64 ((S:Int)+((ibn n.lf x:Nat):Int))) (.int .i64 ((k:Int)+1)) w4):=lh ⟨k+1,S+ibn n.lf x,Y,rfl,rfl,by rw[J.o,y.o];omega,M.o.trans V⟩;clear V M N O HR H hk;generalize ibn n.lf x=s1 at *;go_wp2_with fail
   go_roundw
   case rel=>exact HX.o
   case measure=>simp[intOf];omega
  ·obtain rfl:k=n.l.length:=by omega
   have e:S=n.size:=by rw[y.o,zF (tA _),HS.o]
   subst e;have HX:Hid (Fr [] w wr):=lh (F.o.trans m.o);clear k0 k1 k2
   go_wp2
   go_ret
   exact⟨rfl,HX.o⟩
theorem aIc(b:Array Value)(w:World):(callFunc 213 b).run prog w=.ok (.enter 213 b) w:=by kernel_rfl
def aLJ (wb:World) (n:Nd) (v4 v5:Value) (wr:World):Prop:=∃k S:Nat,k<=n.l.length-1/\v4=.int .i64 (k:Int)/\v5=.int .i64 (S:Int)/\S=iE n.lf (n.l.take k)/\gO n.lf (n.size-3) n.l 0 0=gO n.lf (n.size-3) (n.l.drop k) k S/\Fr [] wb wr
theorem aQA{D:Nat->Prop}{w:World}{base:Nat}{v:Value}{n:Nd}(h:NdV D w base v n)(u:n.ok)(O:n.size<=65536):
  RV 214 #[v] w (.int .i64 ((n.half:Nat):Int)):=by
 obtain⟨A,c,cs,rfl,hc,a3,z,p⟩:=h.parts;obtain⟨wb,J⟩:=nm (w.alloc (.cells #[.int .i64 (dA n),.int .i64 (n.first:Int),.slice A n.l.length c] 184));have B:Fr [] w wb:=by rw[J];exact(Fr.refl [] w).alloc _
 have d:Blk wb w.heap.size 184 [.int .i64 (dA n),.int .i64 (n.first:Int),.slice A n.l.length c]:=by rw[J];exact Blk.new w _ [.int .i64 (dA n),.int .i64 (n.first:Int),.slice A n.l.length c]
 have P:=lh (aBG (h.fr B) u O);have h3:3<=n.size:=by rw[jE];split<;>omega
 have C:=lh (And.intro O h3);have a':Hid (iE n.lf n.l<=n.size):=lh (by rw[jE];omega);have Q:=d.at_ (i:=0) rfl;have T:=d.at_ (i:=1) rfl;have U:=d.at_ (i:=2) rfl;have HB:=lh d;have V:=lh B;have HC:=lh p;have HI:=lh z;have E:=lh u;have b5:IntKind.i64.wrap ((n.size:Int)-3)=(n.size:Int)-3:=by rw[iD];omega
 have b6:IntKind.i64.wrap ((n.l.length:Int)-1)=(n.l.length:Int)-1:=by have:=u.few;rw[iD];omega
 clear d B p z a3 u O h h3
 go_enter func214,ntmps214
 go_wp2_with fail;rw[<- J];refine P.o.mono ?_;rintro e w1 ⟨rfl,L⟩;have X:=lh (V.o.trans L);have b0:=lh (HB.o.fr L);clear L P V HB Q T U;go_wp2_with fail
 go_loopw [4,5] (aLJ w1 n) (fun v _ _=>n.l.length-(intOf v).toNat)
 case atStart=>exact⟨0,0,rB _,rfl,rfl,by simp[iE],rfl,Fr.refl _ _⟩
 case round=>
  obtain⟨k,S,hk,rfl,rfl,hS,a4,M⟩:=hrel;have d:=b0.o.fr M;have Q:=d.at_ (i:=0) rfl;have T:=d.at_ (i:=1) rfl;have U:=d.at_ (i:=2) rfl;have F:=lh M;have b7:=lh d;have Y:=lh a4
  have b4:S<=65536:=by
   have h1:=sN n.lf n.l k;have h2:=a'.o;have h3:=C.o;omega
  have b1:=lh hS;have b8:IntKind.i64.wrap (2*(S:Int))=2*(S:Int):=by rw[iD];omega
  clear d M hS a4
  by_cases r:k<n.l.length-1/\2*S<n.size-3
  ·obtain⟨s,m⟩:=r;obtain⟨x,N⟩:∃x,n.l[k]? = some x:=gx (by omega);have G:=rG N;obtain⟨kv,vv,av,c0,c1,c2,a5⟩:=HI.o.at_ N;obtain⟨g,rfl,t⟩:=HC.o (by omega);have f:=X.o.trans F.o;have i0:=aA f (t _ _ c0);have i1:=aA f (t _ _ c1);have i2:=aA f (t _ _ c2);have b2:=aEL E.o G;have H:=E.o.item x G;have Z:=aEM (lf:=n.lf) N
   have a0:gO n.lf (n.size-3) (n.l.drop k) k S=gO n.lf (n.size-3) (n.l.drop (k+1)) (k+1) (S+ibn n.lf x):=by
    obtain⟨h1,h2⟩:=tD.1 N;have h3:n.l.drop k=x::n.l.drop (k+1):=by rw[zM h1,h2]
    have h4:n.l.drop (k+1)≠[]:=by intro e;have:=List.drop_eq_nil_iff.1 e;omega
    rw[h3];generalize n.l.drop (k+1)=q at *
    cases q with
    | nil=>exact absurd rfl h4
    | cons y q=>rw[gO,iA m]
   have a1:=a5.fr f;obtain⟨⟨gk,a6,_⟩,⟨gv,a7,_⟩,a8⟩:=a1
   have r1:Hid (∀nq,Calls prog 213 #[.agg #[.int .i64 (dA n),.int .i64 (n.first:Int),.slice (some ⟨g,0,none⟩) n.l.length c],.agg #[kv,vv,av]] (wr.drewN nq) fun e a9=>e=.returned (.int .i64 ((ibn n.lf x:Nat):Int))/\Fr [] wr a9):=lh fun nq=>
    (aIb n (a6.fr ((Fr.refl [] wr).drewN nq)) (a7.fr ((Fr.refl [] wr).drewN nq)) (by have:=H.k2;omega) (by have:=H.v;omega) a8).mono fun e a9 ⟨h1,h2⟩=>⟨h1,((Fr.refl [] wr).drewN nq).trans h2⟩
   have hw:IntKind.i64.wrap ((S:Int)+((ibn n.lf x:Nat):Int))=(S:Int)+((ibn n.lf x:Nat):Int):=by rw[iD];omega
   have b9:IntKind.i64.wrap ((k:Int)+1)=(k:Int)+1:=by
    have h1:=E.o.few;rw[iD];omega
   have g1:(k:Int)<(n.l.length:Int)-1:=by omega
   have g2:2*(S:Int)<(n.size:Int)-3:=by have:=C.o.2;omega
   have g3:(k:Int)<(n.l.length:Int):=by omega
   have HX:Hid (∀w4,Fr [] wr w4->aLJ w1 n (.int .i64 ((k:Int)+1)) (.int .i64 ((S:Int)+((ibn n.lf x:Nat):Int))) w4):=lh fun w4 b=>⟨k+1,S+ibn n.lf x,by omega,rfl,rfl,by rw[Z,b1.o],by rw[Y.o,a0],F.o.trans b⟩;have b':n.l.length-k > 0:=by omega
   obtain⟨Ak,ck,ok,rfl,_,_⟩:=a6;obtain⟨Av,cv,ov,rfl,_,_⟩:=a7;subst a8;have c3:=lh g3;clear N G t a5 f c0 c1 c2 a0 Z b2 H m;generalize ibn n.lf x=s1 at *;go_wp2_with fail;refine lA (fun W=>W.cell? ⟨w.heap.size,0,none⟩=some (.int .i64 (dA n))/\W.cell? ⟨w.heap.size,1,none⟩=some (.int .i64 (n.first:Int))/\W.cell? ⟨w.heap.size,2,none⟩=some (.slice (some ⟨g,0,none⟩) n.l.length c)/\W.cell? ⟨g,k*3,none⟩=some (.slice Ak x.key.length ck)/\W.cell? ⟨g,k*3+1,none⟩=some (.slice Av x.v.length cv)/\W.cell? ⟨g,k*3+2,none⟩=some (.int .i64 (x.at_:Int))) [0,1,2,3,4,5,6,8] (by kernel_rfl) ?_;refine tks [0,1,2,3,4,5,6] ?_
   iterate 7 (refine tk rfl rfl ⟨Q,T,U,i0,i1,i2⟩ rfl (fun _ hW=>by(obtain⟨q0,q1,q2,q3,q4,q5⟩:=hW;go_simp)<;>with_reducible rfl) ?_;simp only[nrm])
   refine tke ?_;refine sp 7 rfl rfl rfl fun K hK=>?_;refine jA (l:=[.tmp 22,.tmp 27]) rfl [.agg #[.int .i64 (dA n),.int .i64 (n.first:Int),.slice (some ⟨g,0,none⟩) n.l.length c],.agg #[.slice Ak x.key.length ck,.slice Av x.v.length cv,.int .i64 (x.at_:Int)]] rfl (aIc _) ((r1.o 1).mono ?_);rintro e w4 ⟨rfl,b⟩;refine⟨_,rfl,hK _ _ (fun _=>⟨aA b Q,aA b T,aA b U,aA b i0,aA b i1,aA b i2⟩) ?_⟩;simp only[nrm];clear hK;refine tks [8] ?_;refine tk rfl rfl ⟨aA b Q,aA b T,aA b U,aA b i0,aA b i1,aA b i2⟩ rfl (fun _ _=>by go_simp<;>with_reducible rfl) ?_;simp only[nrm];refine tke ?_;refine sp 9 rfl rfl rfl fun K hK=>?_;refine nA (v:=?aq1_9) ?yq1_9 (hK _ _ (fun h=>absurd h (by decide +kernel)) ?_)
   case yq1_9=>go_simp<;>with_reducible rfl
   simp only[nrm];refine wd ?_ _;have b3:=lh (HX.o w4 b);clear b r1 HX;go_wp2_with fail
   go_roundw
   case rel=>exact b3.o
   case measure=>simp[intOf];omega
  ·have j:n.half=max k 1:=by
    unfold Nd.half;rw[Y.o]
    congr 1
    by_cases s:k<n.l.length-1
    ·have m:¬ 2*S<n.size-3:=fun h=>r ⟨s,h⟩;obtain⟨x,N⟩:∃x,n.l[k]? = some x:=gx (by omega);obtain⟨h1,h2⟩:=tD.1 N;have h3:n.l.drop k=x::n.l.drop (k+1):=by rw[zM h1,h2]
     rw[h3];generalize n.l.drop (k+1)=q
     cases q with
     | nil=>rfl
     | cons y q=>rw[gO,eA m]
    ·have h3:(n.l.drop k).length<=1:=by rw[mC];omega
     generalize n.l.drop k=q at *
     match q,h3 with
     | [],_=>rfl
     | [_],_=>rfl
     | _::_::_,h=>simp at h
   have HX:Hid (Fr [] w wr):=lh (X.o.trans F.o);have I:¬ ((k:Int)<(n.l.length:Int)-1/\2*(S:Int)<(n.size:Int)-3):=fun⟨h1,h2⟩=>r ⟨by omega,by have:=C.o.2;omega⟩;have a2:((max k 1:Nat):Int)=max (k:Int) 1:=by omega
   have HH:Hid (((n.half:Nat):Int)=max (k:Int) 1):=lh (by rw[j,a2]);clear j a2
   by_cases s:(k:Int)<(n.l.length:Int)-1
   ·have m:¬ 2*(S:Int)<(n.size:Int)-3:=fun h=>I ⟨s,h⟩;clear I r
    go_wp2
    go_ret
    exact⟨by rw[HH.o];rfl,HX.o⟩
   ·clear I r
    go_wp2
    go_ret
    exact⟨by rw[HH.o];rfl,HX.o⟩
end
end Go.Proofs.YtebjhcjbfaaejaaGreatDoor
