/-
  Joined: Sl Jh Ji Jj Jk Str
-/
import Derived.Lib.SlBytesConst
import Derived.Laws.BytesArg
import Derived.Test.YtebjhcjbfaaejaaGreatDoorJca3
set_option maxRecDepth 100000
set_option maxHeartbeats 32000000
namespace Go.Proofs.YtebjhcjbfaaejaaGreatDoor
open Go.Proofs.Tryz
variable {k i j m:Nat}{w':World}{u:Value}{L N:List Nat}{F:List Value}{H:List (List UInt8)}{D:DM}{α:Type}
section
open Go.RowKit
section
variable {P : Program} {o : Oper} {a : Act} {w : World} {K : Act -> World -> Prop} {Q : Exit -> Act -> World -> Prop}
theorem nA{v:Value}(b:(execOp a.eval o).run P w=.ok (.value v) w)(h:K (a.put o.dst v) w):Oper.wp P o a w K Q:=by
 unfold Oper.wp;rw[b];exact h
theorem aJQ(t:TypeId)(j:o.op=.alloc t)(z:Value)(zs:Array Value)(g:(P.info? t).map (·.zero)=some (some z))(d:z.cells=zs)
 (h:K (a.put o.dst (.pointer (some ⟨w.heap.size,0,none⟩))) (w.alloc (.cells zs t))):Oper.wp P o a w K Q:=by
 subst d
 cases c:P.info? t with
 | none=>simp[c]at g
 | some i=>
  have b:i.zero=some z:=by simpa[c]using g
  unfold Oper.wp
  simp[execOp,j,Instr.alloc,zeroValue,typeInfo,c,b,newVar,newRow,Result.andThen]
  exact h
theorem yB(t:TypeId)(c:o.op=.alloc t)(z:Value)(zs:List Value)(d:(P.info? t).map (·.zero)=some (some z))(b:z.cells=zs.toArray)
 (h:∀w1,Blk w1 w.heap.size t zs->Fr [] w w1->w1.heap.size=w.heap.size+1->K (a.put o.dst (.pointer (some ⟨w.heap.size,0,none⟩))) w1):Oper.wp P o a w K Q:=
 aJQ t c z _ d b (h _ (Blk.new w t zs) ((Fr.refl [] w).alloc _) (by simp))
theorem yA{g:Nat}{t':TypeId}(t:TypeId)(x y:Operand)(d:o.op=.store t x y)(cs:List Value)
 (i:a.eval x=.pointer (some ⟨g,0,none⟩))(j:a.eval y=.agg cs.toArray)(c:Blk w g t' F)
 (hi:(P.info? t).map (·.size)=some cs.length)(k:F.length=cs.length)(h1:∀v∈cs,v.oneCell'=true)
 (h:∀w1,Blk w1 g t' cs->Fr [g] w w1->w1.heap.size=w.heap.size->K (a.put o.dst undef) w1):Oper.wp P o a w K Q:=by
 have b:=run_storeVar_row (P:=P) w g t' t F.toArray cs.toArray c (by simpa using hi) (by simpa using k) (Go.all_oneCell_toArray h1);unfold Oper.wp
 simp[execOp,d,i,j,Instr.storeAt,Instr.sureAddr,b,Result.andThen]
 exact h _ (c.row_ cs) ((Fr.refl [g] w).setRow (.inl (by simp)) _) (by simp[World.setRow])
theorem aCI{t e:TypeId}{i:TypeInfo}{z:Value}(ht:P.underlying t=some (.slice e))(hi:P.info? e=some i)(p:i.zero=some z)(k:i.size=1)(h:z.cells.size=1)(v:Value)(q:v.cells=#[v]):
  (Instr.buildSlice t 1 #[(0,v)]).run P w=.ok (.slice (some ⟨w.heap.size,0,none⟩) 1 1) (w.alloc (.cells #[v] e)):=by
 obtain⟨b,d⟩:∃b,z.cells=#[b]:=by
  match hc:z.cells,h with
  | ⟨[b]⟩,_=>exact⟨b,rfl⟩
 simp[Instr.buildSlice,Go.run_underlying ht,sizeOf,typeInfo,hi,k,zeroValue,p,newRow,d,Instr.fill,q,Array.range,Array.zipIdx]
 have l:∀(n:Nat) (_:n=1) (f:Fin n->Value),(Array.ofFn f).setIfInBounds 0 v=#[v]:=fun n m f=>by
  subst m
  apply Array.ext
  ·simp
  ·intro j r g;have:j=0:=by simp at g;omega
   subst this
   simp
 exact congrArg (fun c=>w.alloc (Obj.cells c e)) (l _ (by simp[k]) _)
theorem rI{t e:TypeId}(x:Operand)(d:o.op=.buildSlice t 1 #[(0,x)]){i:TypeInfo}{z:Value}(ht:P.underlying t=some (.slice e))(hi:P.info? e=some i)(g:i.zero=some z)(j:i.size=1)(c:z.cells.size=1)(v:Value)(k:a.eval x=v)(l:v.cells=#[v])(H:Nat)(hH:w.heap.size=H)
 (h:∀w1,Blk w1 H e [v]->Fr [] w w1->w1.heap.size=H+1->K (a.put o.dst (.slice (some ⟨H,0,none⟩) 1 1)) w1):Oper.wp P o a w K Q:=by
 subst hH;have b:=aCI (P:=P) (w:=w) ht hi g j c v l;refine xB (v:=.slice (some ⟨w.heap.size,0,none⟩) 1 1) (w':=w.alloc (.cells #[v] e)) ?_ (h _ (Blk.new w e [v]) ((Fr.refl [] w).alloc _) (by simp))
 simp[execOp,d,k,b,Result.andThen]
theorem eD{t:TypeId}(s x:Operand)(F:o.op=.call { callee:=.builtin .append,args:=#[s,x],argTypes:=#[t,t] })
 (e:TypeId){i:TypeInfo}{z:Value}(size bytes:Nat)(ht:P.underlying t=some (.slice e))(hi:P.info? e=some i)(G:i.zero=some z)(k:i.size=size)(q:i.bytes=bytes)(r:z.cells.size=size)(h0:0<size)
 (v:Value)(n:Nat)(y:List Value)(I:a.eval s=v)(p:w.ownsRow 0 e size v n y)
 (A:Addr)(m c:Nat)(b:List Value)(J:a.eval x=.slice (some A) m c)(L:b.length=m*size)(l:∀j u,b[j]? = some u->w.cell? (A.add j)=some u)(h1:∀u∈b,u.oneCell'=true)
 (M:0<m)(B:n+m<=maxLen)(d:(n+m)*bytes<=140737488355328)(H:Nat)(hH:w.heap.size=H)
 (h:∀g cap w',w'.ownsRow 0 e size (.slice (some ⟨g,0,none⟩) (n+m) cap) (n+m) (y++b)->Fr v.ownBlock.toList w w'->(v.ownBlock=some g∨g=H)->g<w'.heap.size->K (a.put o.dst (.slice (some ⟨g,0,none⟩) (n+m) cap)) w'):Oper.wp P o a w K Q:=by
 refine wp_append_lies _ s x t F 0 e i z size bytes ht hi G k q r h0 v n y I p A m c b J L l h1 M B d (rB _) H hH ?_;intro g cap w' h2 h3 C D;exact h g cap w' h2 ((Fr.refl _ w).grown h3 (fun g E=>.inl (by simp[E]))) C D
theorem mG{t:TypeId}{x:Operand}{lo hi:Option Operand}(i:o.op=.slice t x lo hi none){v:Value}{b c:Option Value}(j:a.eval x=u)(d:lo.map a.eval=b)(g:hi.map a.eval=c)
 (h:(Instr.sliceAt t u b c none).run P w=.ok v w):(execOp a.eval o).run P w=.ok (.value v) w:=by
 subst j d g
 simp[execOp,i,h,Result.andThen]
theorem aMz{t e:TypeId}(ht:P.underlying t=some (.slice e))(k:(P.info? e).map (·.size)=some 1)(A:Option Addr)(n c lo hi:Nat)(l m:IntKind)(h1:lo<=hi)(h2:hi<=c):
  ∀w,(Instr.sliceAt t (.slice A n c) (some (.int l lo)) (some (.int m hi)) none).run P w=.ok (.slice (if c=lo then A else A.map (·.add lo)) (hi-lo) (c-lo)) w:=by
 intro w;have b:P.elem t=e:=by simp[Program.elem,ht]
 obtain⟨i,d,g⟩:=Option.map_eq_some_iff.1 k;have j:∀w,(sizeOf e).run P w=.ok 1 w:=fun w=>by simp[sizeOf,typeInfo,go_sem,d,g]
 rw[Go.run_sliceAt_slice (h:=by rw[b];exact ht),run_slice_lh (ht:=by rw[b];exact ht) (h0:=by omega) (h1:=by omega) (h2:=by omega),b,j]
 simp[Result.andThen,sliced]
theorem aH{t e:TypeId}(ht:P.underlying t=some (.slice e))(k:(P.info? e).map (·.size)=some 1)(A:Option Addr)(n c lo:Nat)(l:IntKind)(h1:lo<=n):
  ∀w,(Instr.sliceAt t (.slice A n c) (some (.int l lo)) none none).run P w=.ok (.slice (if c=lo then A else A.map (·.add lo)) (n-lo) (c-lo)) w:=by
 intro w;have b:P.elem t=e:=by simp[Program.elem,ht]
 obtain⟨i,d,g⟩:=Option.map_eq_some_iff.1 k;have j:∀w,(sizeOf e).run P w=.ok 1 w:=fun w=>by simp[sizeOf,typeInfo,go_sem,d,g]
 rw[Go.run_sliceAt_slice (h:=by rw[b];exact ht),run_slice_l (ht:=by rw[b];exact ht) (h0:=by omega) (h1:=by omega),b,j]
 simp[Result.andThen,sliced]
theorem aGl{t e:TypeId}(ht:P.underlying t=some (.slice e))(l:(P.info? e).map (·.size)=some 1)(A:Option Addr)(n c hi:Nat)(m:IntKind)(h1:hi<=c):
  ∀w,(Instr.sliceAt t (.slice A n c) none (some (.int m hi)) none).run P w=.ok (.slice A hi c) w:=by
 intro w;have b:P.elem t=e:=by simp[Program.elem,ht]
 obtain⟨i,d,g⟩:=Option.map_eq_some_iff.1 l;have j:∀w,(sizeOf e).run P w=.ok 1 w:=fun w=>by simp[sizeOf,typeInfo,go_sem,d,g]
 rw[Go.run_sliceAt_slice (h:=by rw[b];exact ht),run_slice_h (ht:=by rw[b];exact ht) (h0:=by omega) (h2:=by omega),b,j];have k:A.map (fun x=>x.add 0)=A:=by cases A<;>simp[Addr.add]
 simp[Result.andThen,sliced,k]
end
theorem aRF(l:List α)(lo m:Nat)(b:lo+m<=l.length):((l.drop lo).take m).length=m:=by rw[jC,mC];omega
theorem cA.sub{w:World}{A:Option Addr}{n c g:Nat}{bs:List UInt8}(h:cA w (.slice A n c) bs g)(lo m:Nat)(o:lo+m<=bs.length):
  cA w (.slice (if c=lo then A else A.map (·.add lo)) m (c-lo)) ((bs.drop lo).take m) g:=by
 obtain⟨p,c',off,k,q,l⟩:=h;injection k with h1 h2 h3;subst h1 h3;have i:=aRF bs lo m o;refine⟨_,_,off+lo,by rw[i],by rw[i];omega,fun h0=>?_⟩;rw[i]at h0;obtain⟨rfl,b⟩:=l (by omega);rw[eA (by omega)];refine⟨by simp[Go.Addr.add_mid],fun j u d=>?_⟩;rw[rT];refine b _ u ?_;rw[pM,bJ,xG]at d
 split at d
 ·rw[xJ]at d;exact d
 ·cases d
theorem cA.from_{w:World}{A:Option Addr}{n c g:Nat}{bs:List UInt8}(h:cA w (.slice A n c) bs g)(lo:Nat)(b:lo<=bs.length):
  cA w (.slice (if c=lo then A else A.map (·.add lo)) (bs.length-lo) (c-lo)) (bs.drop lo) g:=by
 have:=h.sub lo (bs.length-lo) (by omega)
 rwa [zF (by simp)]at this
theorem cA.len{w:World}{A:Option Addr}{n c g:Nat}{bs:List UInt8}(h:cA w (.slice A n c) bs g):n=bs.length/\bs.length<=c:=by
 obtain⟨i,c',off,b,d,j⟩:=h;injection b with h1 h2 h3;subst h1 h3;exact⟨h2,d⟩
section
variable {P : Program} {ops : Array Oper} {Q : Exit -> Act -> World -> Prop}
theorem rn{rest:List Oper}{o:Oper}{v:Value}{a:Act}{w:World}(b:o.guard=none)(c:(execOp a.eval o).run P w=.ok (.value v) w)(h:wpList P ops Q rest (a.put o.dst v) w):wpList P ops Q (o::rest) a w:=
 Go.wpList_plain b fun _ hK=>nA (v:=v) c (hK _ _ h)
end
def oT (D:DM) (pos:Nat):List (List UInt8)->DM×Int
 | []=>(D.sync,D.syncE)
 | s::ss=>if D.writeE (pos:Int) s≠0 then (D.write (pos:Int) s,D.writeE (pos:Int) s) else oT (D.write (pos:Int) s) (pos+1) ss
def gC (ses num:Nat) (b:List UInt8):List (List UInt8):=(List.range (pA b.length)).map fun k=>lD (gE ses num b k)
theorem zD(ses num:Nat)(b:List UInt8):(gC ses num b).length=pA b.length:=by simp[gC]
theorem aGm(ses num:Nat)(b:List UInt8){k:Nat}(c:k<pA b.length):(gC ses num b).drop k=lD (gE ses num b k)::(gC ses num b).drop (k+1):=by
 rw[zM (by rw[zD];exact c)]
 simp[gC]
theorem aEn(b:Array Value)(w:World):(callFunc 128 b).run prog w=.ok (.enter 128 b) w:=by kernel_rfl
theorem aEo(b:Array Value)(w:World):(callFunc 67 b).run prog w=.ok (.enter 67 b) w:=by kernel_rfl
def aRG (w:World) (d f at_ num ses:Nat) (b:List UInt8) (D:DM) (fp:List Nat) (i:Value) (wr:World):Prop:=
 ∃(k:Nat) (Dk:DM),k<=pA b.length/\i=.int .i64 k/\oT D (f+at_) (gC ses num b)=oT Dk (f+at_+k) ((gC ses num b).drop k)/\Dk.done<=D.done+k/\Dk.S.length=D.S.length/\tK w wr d Dk fp
theorem aLp{m k:Nat}(h:k<pA m):48*k<=m:=by
 unfold pA at h
 split at h<;>omega
theorem fF.mem{w:World}{d:Nat}{D:DM}(h:fF w d D L):d∈L:=by
 obtain⟨b,c,rfl,_⟩:=h
 simp[dfp]
theorem tK.comp{w w1:World}{d:Nat}(j:Fr L w w1)(l:∀k∈N,k∈L∨w.heap.size<=k)(h2:tK w1 w' d D N):tK w w' d D L:=by
 obtain⟨b,h,c,g⟩:=h2;have m:=j.size;refine⟨b,h,j.trans c (fun x i=>l x i),fun x i=>?_⟩;rcases g x i with h1|h1
 ·exact l x h1
 ·right;omega
theorem fV{D:DM}{pos:Nat}{s:List UInt8}(h:D.writeE (pos:Int) s≠0):oT D pos (s::H)=(D.write (pos:Int) s,D.writeE (pos:Int) s):=by
 show(if _ then _ else _)=_
 rw[iA h]
theorem bY{D:DM}{pos:Nat}{s:List UInt8}(h:D.writeE (pos:Int) s=0):oT D pos (s::H)=oT (D.write (pos:Int) s) (pos+1) H:=by
 show(if _ then _ else _)=_
 rw[eA (by simp[h])]
theorem vO(D:DM)(k:Int)(b:List UInt8):(D.write k b).S=D.S:=by
 unfold DM.write
 split
 ·rfl
 ·split
  ·rfl
  ·split<;>rfl
theorem uR(D:DM)(k:Int)(b:List UInt8):(D.write k b).done<=D.done+1:=by
 unfold DM.write
 split
 ·omega
 ·split
  ·omega
  ·split
   ·show D.done<=_;omega
   ·exact tA _
theorem aRH{w:World}{lg d f n at_ num ses:Nat}{br:Bool}{v:Value}{b:List UInt8}{D:DM}(hb:Blk w lg 158 (jD d f n at_ num ses br))(hd:fF w d D L)(a8:lg∉L)(hv:cA w v b m)(d3:m∉L)(_:m<w.heap.size)(hm:pA b.length<=65535)
 (e6:at_+pA b.length<=n)(d7:f+n<=D.S.length)(c2:num<4294967296)(c6:ses<4294967296)(d4:D.done+65536<1099511627776):
  Calls prog 93 #[.pointer (some ⟨lg,0,none⟩),v,.int .i64 (pA b.length:Int)] w fun e w'=>e=.returned (.int .i64 (oT D (f+at_) (gC ses num b)).2)/\tK w w' d (oT D (f+at_) (gC ses num b)).1 L:=by
 have HB:=lh hb;have HD:=lh hd;have HV:=lh hv;have c7:=(fF.ok hd).most;clear hb hd hv;obtain⟨A,c,off,rfl,e4,b3⟩:=HV.o;have d8:=lh b3;clear b3
 go_enter func93,ntmps93
 go_wp2
 go_loopw [11] (aRG w d f at_ num ses b D L) (fun i _=>pA b.length-(intOf i).toNat)
 case atStart=>exact⟨0,D,rB _,rfl,rfl,by omega,rfl,L,HD.o,Fr.refl _ _,fun _ h=>.inl h⟩
 case round=>
  obtain⟨k,Dk,hk,rfl,X,e5,d1,b4⟩:=hrel;have g:=lh X;have a9:=lh b4;clear X b4
  by_cases b':k<pA b.length
  ·obtain⟨b5,y,B,z⟩:=a9.o;have r:=HB.o.fr B a8;have d9:=r.lt;have l0:=r.at_ (i:=0) rfl;have l1:=r.at_ (i:=1) rfl;have l3:=r.at_ (i:=3) rfl;have l4:=r.at_ (i:=4) rfl;have l5:=r.at_ (i:=5) rfl;have H:=lh r;have G:=lh y;have I:=lh B;have E:=lh z;clear r y B z;have hq:((gE ses num b k).b).length=min 48 (b.length-48*k):=by simp[gE]
   have d5:48*k<=b.length:=aLp b';obtain⟨q,a6⟩:=nm (((gE ses num b k).b).length);rw[<- a6]at hq;have c8:=lh a6;clear a6;have d6:48*k+q<=b.length/\q<=48:=by omega
   have y1:(if 48*((k:Int)+1)<(b.length:Int) then 48*((k:Int)+1) else (b.length:Int))=((48*k+q:Nat):Int):=by split<;>omega
   have x5:=wi k (by omega)
   have x6:IntKind.i64.wrap (48*((k:Int)+1))=48*((k:Int)+1):=by rw[iD];omega
   have x7:IntKind.i64.wrap (48*(k:Int))=((48*k:Nat):Int):=by rw[iD];omega
   have a0:=aMz (P:=prog) (t:=67) Go.Proofs.Tryz.underlying67 (by kernel_rfl) A b.length c (48*k) (48*k+q) .i64 .i64 (by omega) (by omega);have a1:=(HV.o.fr I.o d3).sub (48*k) q (by omega)
   have a':(b.drop (48*k)).take q=(gE ses num b k).b:=by
    unfold gE;rw[hq,<- mC,List.take_eq_take_min]
    simp
   rw[Nat.add_sub_cancel_left]at a0;rw[a']at a1;generalize hsvv:(if c=48*k then A else A.map (·.add (48*k)))=Y at *;generalize hcc:c-48*k=Z at *;have c9:=lh a0;have c':=lh a1;have HQ:=lh hq;clear a0 a1 hq a' hsvv hcc;go_wp2_with fail;refine lA (fun W=>W.cell? ⟨lg,5,none⟩=some (.int .u32 (ses:Int))/\W.cell? ⟨lg,4,none⟩=some (.int .u32 (num:Int))) [0,1,2,3,4,5,6,7,8,9,10,11,12,13,14,15,16,17,18,19,20,21] (by kernel_rfl) ?_;refine tks [0,1,2,3,4,5,6,7,8,9,10,11,12,13,14,15,16,17,18,19] ?_
   iterate 20 (refine tk rfl rfl ⟨l5,l4⟩ rfl (fun _ hW=>by(obtain⟨c5,c4⟩:=hW;go_simp)<;>with_reducible rfl) ?_;simp only[nrm])
   refine tke ?_;refine tv 20 (.slice Y q Z) rfl rfl ⟨l5,l4⟩ (.inl ⟨rfl,fun W _=>mG rfl rfl rfl rfl (c9.o W)⟩) ?_;simp only[nrm];refine tks [21] ?_;refine tk rfl rfl ⟨l5,l4⟩ rfl (fun _ hW=>by(obtain⟨c5,c4⟩:=hW;go_simp)<;>with_reducible rfl) ?_;simp only[nrm];refine tke ?_;refine sp 22 rfl rfl rfl fun K hK=>?_;refine yB 203 rfl (.agg eQ) eQ.toList (by kernel_rfl) rfl fun w4 b7 Q _=>hK _ _ (fun _=>⟨(H.o.fr (Fr.drew (Fr.refl [] wr) |>.trans Q)).at_ rfl,(H.o.fr (Fr.drew (Fr.refl [] wr) |>.trans Q)).at_ rfl⟩) ?_;simp only[nrm];refine xA (j:=23) none rfl rfl (by kernel_rfl) rfl fun K hK=>?_;refine yA 203 (.tmp 8) (.tmp 35) rfl (tJ (gE ses num b k) (.slice Y q Z)) rfl rfl b7 (by kernel_rfl) rfl ?one fun w5 b8 b9 _=>hK _ _ (fun h=>absurd h (by decide +kernel)) ?_
   case one=>intro u hu;simp only[tJ,kB,yG,aG]at hu;rcases hu with rfl|rfl|rfl|rfl|rfl<;>rfl
   simp only[Act.put];refine wd ?_ _;have T:Fr [] wr w5:=((Fr.refl [] wr).drew.trans Q).trans b9 (fun x hx=>.inr (by simp at hx;rw[hx];exact tA _));have a2:Hid (Blk w5 wr.heap.size 203 (tJ (gE ses num b k) (.slice Y q Z))):=lh b8;have J:=lh T;clear b8 b9 T b7 Q l5 l4 hK;have M:=H.o.fr J.o;have m0:=M.at_ (i:=0) rfl;have m1:=M.at_ (i:=1) rfl;have m3:=M.at_ (i:=3) rfl;clear M;go_wp2_with fail;have z1:IntKind.i64.wrap ((f:Int)+(at_:Int))=(f:Int)+(at_:Int):=by rw[iD];omega
   have z2:IntKind.i64.wrap ((f:Int)+(at_:Int)+(k:Int))=(f:Int)+(at_:Int)+(k:Int):=by rw[iD];omega
   refine lA (fun W=>W.cell? ⟨lg,0,none⟩=some (.pointer (some ⟨d,0,none⟩))/\W.cell? ⟨lg,1,none⟩=some (.int .i64 (f:Int))/\W.cell? ⟨lg,3,none⟩=some (.int .i64 (at_:Int))/\Blk W wr.heap.size 203 (tJ (gE ses num b k) (.slice Y q Z))) [0,1,2,3,4,5,6,7,8,9,10,11,12,13,14,15] (by kernel_rfl) ?_;refine tks [0,1,2,3,4,5,6,7,8,9,10,11,12,13,14] ?_
   iterate 15 (refine tk rfl rfl ⟨m0,m1,m3,a2.o⟩ rfl (fun _ hW=>by(obtain⟨c0,c1,c3,_⟩:=hW;go_simp)<;>with_reducible rfl) ?_;simp only[nrm])
   refine tke ?_;refine tv 15 (.agg (tJ (gE ses num b k) (.slice Y q Z)).toArray) rfl rfl ⟨m0,m1,m3,a2.o⟩ (Go.yieldsIf_load_mid rfl 203 (.tmp 8) rfl wr.heap.size 0 rfl (tJ (gE ses num b k) (.slice Y q Z)) _ (fun W hW j v hj=>by rw[cC];exact hW.2.2.2.at_ hj) underlying203 rfl (by kernel_rfl)) ?_;simp only[nrm];refine sp 16 rfl rfl rfl fun K hK=>?_;have U:cA w5.drew (.slice Y q Z) (gE ses num b k).b m:=c'.o.fr J.o.drew;refine jA (l:=[.tmp 51]) rfl [.agg (tJ (gE ses num b k) (.slice Y q Z)).toArray] rfl (aEn _) ((aHr (p:=gE ses num b k) c6 c2 (by show pA b.length<65536;omega) (by show k<65536;omega) (by rw[<- c8.o];omega) U).mono ?_);rintro e w6 ⟨v6,g6,rfl,b6,d2,a7⟩;have F:Fr [] wr w6:=J.o.drew.trans a7;have s:=H.o.fr F;have a3:=a2.o.fr ((Fr.refl [] w5).drew.trans a7);refine⟨_,rfl,hK _ _ (fun _=>⟨s.at_ rfl,s.at_ rfl,s.at_ rfl,a3⟩) ?_⟩;simp only[nrm];refine sp 17 rfl rfl rfl fun K hK=>?_;have b0:=G.o.fr F;have d':=G.o.lt d G.o.mem;have e0:=J.o.size;refine jA (l:=[.tmp 39,.tmp 50,.tmp 52]) rfl [.pointer (some ⟨d,0,none⟩),.int .i64 ((f:Int)+(at_:Int)+(k:Int)),v6] rfl (aEo _) ((aHn b0 _ _ _ _ b6 (by have:w5.heap.size<=g6:=d2;omega) (by omega)).mono ?_);rintro e w7 ⟨rfl,C⟩;have a4:Fr b5 w6 w7:=by obtain⟨_,_,h,_⟩:=C;exact h
   have N:=s.fr a4 (fun hm=>by rcases E.o _ hm with h|h;exact a8 h;exact absurd HB.o.lt (by omega));have b1:=a3.fr a4 (fun hm=>absurd (G.o.lt _ hm) (by omega));refine⟨_,rfl,hK _ _ (fun _=>⟨N.at_ rfl,N.at_ rfl,N.at_ rfl,b1⟩) ?_⟩;simp only[nrm];refine sp 18 rfl rfl rfl fun K hK=>?_;refine nA (v:=?aq2_18) ?yq2_18 (hK _ _ (fun h=>absurd h (by decide +kernel)) ?_)
   case yq2_18=>go_simp<;>with_reducible rfl
   simp only[nrm];refine wd ?_ _;rw[show(f:Int)+(at_:Int)+(k:Int)=((f+at_+k:Nat):Int) by omega]at C⊢
   have V:tK w w7 d (Dk.write ((f+at_+k:Nat):Int) (lD (gE ses num b k))) L:=by
    refine tK.comp (I.o.trans F) ?_ C;exact E.o
   have b2:=vO Dk ((f+at_+k:Nat):Int) (lD (gE ses num b k));have e1:=uR Dk ((f+at_+k:Nat):Int) (lD (gE ses num b k));have O:=lh V;have d0:=lh b2;clear a4 N b1 C V b2 hK b0 b6 s a3 a7 F U m0 m1 m3 x5 x6 x7 z1 z2;rw[aGm ses num b b']at g
   by_cases he:Dk.writeE ((f+at_+k:Nat):Int) (lD (gE ses num b k))=0
   ·rw[he];rw[bY he]at g;generalize Dk.write ((f+at_+k:Nat):Int) (lD (gE ses num b k))=D8 at *;clear he
    go_wp2
    go_roundw
    case rel=>exact⟨k+1,D8,by omega,rfl,g.o,by omega,by rw[d0.o];exact d1,O.o⟩
    case measure=>simp[intOf];omega
   ·rw[fV he]at g;generalize Dk.writeE ((f+at_+k:Nat):Int) (lD (gE ses num b k))=e8 at *;generalize Dk.write ((f+at_+k:Nat):Int) (lD (gE ses num b k))=D8 at *;have e2:(e8 !=0)=true:=by rw[aJ];exact he
    clear he
    go_wp2
    go_ret
    rw[g.o];exact⟨rfl,O.o⟩
  ·have a5:k=pA b.length:=by omega
   rw[a5,nP (by rw[zD];exact tA _)]at g;obtain⟨b5,y,B,z⟩:=a9.o;have r:=HB.o.fr B a8;have l0:=r.at_ (i:=0) rfl;have G:=lh y;have I:=lh B;have E:=lh z;have e3:=lh a5;clear r y B z a5;go_wp2_with fail;refine(aLi G.o (by omega)).mono ?_;rintro e w7 ⟨rfl,C⟩;have O:=lh C;clear C
   go_wp2
   go_ret
   rw[g.o];exact⟨rfl,tK.comp I.o E.o O.o⟩
structure LG where
 f:Nat
 n:Nat
 at_:Nat
 num:Nat
 ses:Nat
 br:Bool
def LG.cells (l:LG) (d:Nat):List Value:=jD d l.f l.n l.at_ l.num l.ses l.br
def lC (D:DM) (l:LG) (b:List UInt8):Int:=
 if l.br then 10 else if 65535<pA b.length then 4 else if l.n-l.at_<pA b.length then 5 else (oT D (l.f+l.at_) (gC l.ses l.num b)).2
def fB (D:DM) (l:LG) (b:List UInt8):DM:=
 if l.br then D else if 65535<pA b.length then D else if l.n-l.at_<pA b.length then D else (oT D (l.f+l.at_) (gC l.ses l.num b)).1
def oC (D:DM) (l:LG) (b:List UInt8):LG:=
 if l.br then l else if 65535<pA b.length then l else if l.n-l.at_<pA b.length then l else
 if (oT D (l.f+l.at_) (gC l.ses l.num b)).2≠0 then { l with br:=true } else { l with at_:=l.at_+pA b.length,num:=(l.num+1)%4294967296 }
theorem aAx(n:Nat):aLl (n:Int)=(pA n:Int):=by
 unfold aLl pA
 by_cases h:n=0
 ·subst h;rfl
 ·rw[eA (by omega),eA h];omega
structure Jn (w:World) (lg d:Nat) (l:LG) (D:DM) (fp:List Nat):Prop where
 log:Blk w lg 158 (l.cells d)
 disk:fF w d D fp
 apart:lg∉fp
 at_:l.at_<=l.n
 fit:l.f+l.n<=D.S.length
 num:l.num<4294967296
 ses:l.ses<4294967296
def cY (w w':World) (lg d:Nat) (l:LG) (D:DM) (fp:List Nat):Prop:=∃fp',Jn w' lg d l D fp'/\Fr (lg::fp) w w'/\∀k∈fp',k∈fp∨w.heap.size<=k
theorem cY.same{w:World}{lg d:Nat}{l:LG}{D:DM}(h:Jn w lg d l D L):cY w w lg d l D L:=⟨L,h,Fr.refl _ _,fun _ b=>.inl b⟩
theorem Jn.fr{S:List Nat}{w w':World}{lg d:Nat}{l:LG}{D:DM}(h:Jn w lg d l D L)(b:Fr S w w')(h1:lg∉S)(h2:∀k∈L,k∉S):Jn w' lg d l D L:=
 ⟨h.log.fr b h1,h.disk.fr b h2,h.apart,h.at_,h.fit,h.num,h.ses⟩
theorem aRI(b:List (List UInt8)):∀(D:DM) (pos:Nat),(oT D pos b).1.S.length=D.S.length:=by
 induction b with
 | nil=>
  intro D pos
  show D.sync.S.length=_
  unfold DM.sync
  split
  ·rfl
  ·split
   ·rfl
   ·simp[yD]
 | cons s b c=>
  intro D pos
  show(if _ then _ else _:DM×Int).1.S.length=_
  split
  ·show(D.write (pos:Int) s).S.length=_;rw[vO]
  ·rw[c,vO]
theorem aMA(b:List (List UInt8)):∀(D:DM) (pos:Nat),(oT D pos b).1.done<=D.done+b.length+1:=by
 induction b with
 | nil=>
  intro D pos
  show D.sync.done<=_
  unfold DM.sync
  split
  ·omega
  ·split
   ·show D.done<=_;omega
   ·show D.done+1<=_;simp
 | cons s b c=>
  intro D pos;have h1:=uR D (pos:Int) s
  show(if _ then _ else _:DM×Int).1.done<=_
  rw[gD]
  split
  ·show(D.write (pos:Int) s).done<=_;omega
  ·have:=c (D.write (pos:Int) s) (pos+1);omega
theorem aRJ(w:World)(v:Value)(A:Option Addr)(n c:Nat)(b:v=.slice A n c)(d:n<=9223372036854775807):
  Calls prog 70 #[.pointer none,v] w fun e w'=>e=.returned (.int .i64 10)/\w=w':=by
 subst b
 go_enter func70,Go.Proofs.Tryz.ntmps70
 go_wp2_with fail;refine(iU _ _ (by omega) (by omega)).mono ?_;rintro e w1 ⟨rfl,rfl⟩
 go_wp2
 go_ret
 exact⟨rfl,rfl⟩
theorem aAy{w:World}{lg d:Nat}{l:LG}{D:DM}{v:Value}{b:List UInt8}(h:Jn w lg d l D L)(hv:cA w v b j)(a4:j∉L)(a5:j<w.heap.size)(a9:b.length<=9223372036854775807)(J:D.done+65536<1099511627776):
  Calls prog 70 #[.pointer (some ⟨lg,0,none⟩),v] w fun e w'=>e=.returned (.int .i64 (lC D l b))/\cY w w' lg d (oC D l b) (fB D l b) L:=by
 have H:=lh h;have E:=h.at_;have r:=h.fit;have a0:=(fF.ok h.disk).most;have l0:=h.log.at_ (i:=0) rfl;have l6:=h.log.at_ (i:=6) rfl;clear h;have HV:=lh hv;obtain⟨A,c,off,rfl,a8,a3⟩:=hv;clear a3;unfold lC oC fB
 by_cases g:l.br=true
 ·rw[iA g,iA g,iA g];rw[g]at l6;clear g
  go_enter func70,Go.Proofs.Tryz.ntmps70
  go_wp2_with fail;refine(iU _ _ (by omega) (by omega)).mono ?_;rintro e w1 ⟨rfl,rfl⟩
  go_wp2
  go_ret
  exact⟨rfl,cY.same H.o⟩
 ·have s:l.br=false:=by simpa using g
  rw[eA g,eA g,eA g];rw[s]at l6;have a6:=lh s;clear g s
  by_cases h1:65535<pA b.length
  ·rw[iA h1,iA h1,iA h1]
   go_enter func70,Go.Proofs.Tryz.ntmps70
   go_wp2_with fail;refine(iU _ _ (by omega) (by omega)).mono ?_;rintro e w1 ⟨rfl,rfl⟩;rw[aAx]
   go_wp2
   go_ret
   exact⟨rfl,cY.same H.o⟩
  ·rw[eA h1,eA h1,eA h1]
   by_cases h2:l.n-l.at_<pA b.length
   ·rw[iA h2,iA h2,iA h2]
    go_enter func70,Go.Proofs.Tryz.ntmps70
    go_wp2_with fail;refine(iU _ _ (by omega) (by omega)).mono ?_;rintro e w1 ⟨rfl,rfl⟩;rw[aAx];go_wp2_with fail;refine(aLo H.o.log (by omega) E).mono ?_;rintro e w1 ⟨rfl,m,rfl⟩
    go_wp2
    go_ret
    exact⟨rfl,L,H.o.fr ((Fr.refl [] w).drewN m) (by simp) (by simp),(Fr.refl _ w).drewN m,fun _ hk=>.inl hk⟩
   ·rw[eA h2,eA h2,eA h2];obtain⟨X,N,hr⟩:∃X N,oT D (l.f+l.at_) (gC l.ses l.num b)=(X,N):=⟨_,_,rfl⟩;have Z:=aRI (gC l.ses l.num b) D (l.f+l.at_);rw[hr]at Z⊢
    simp only at Z⊢
    have HR:=lh hr;have HS:=lh Z;clear hr Z
    go_enter func70,Go.Proofs.Tryz.ntmps70
    go_wp2_with fail;refine(iU _ _ (by omega) (by omega)).mono ?_;rintro e w1 ⟨rfl,rfl⟩;rw[aAx];go_wp2_with fail;refine(aLo H.o.log (by omega) E).mono ?_;rintro e w1 ⟨rfl,m,rfl⟩;go_wp2_with fail;have M:=H.o.fr ((Fr.refl [] w).drewN m) (by simp) (by simp);refine(aRH M.log M.disk M.apart (HV.o.fr ((Fr.refl [] w).drewN m)) a4 (by exact a5) (by omega) (by omega) r M.num M.ses J).mono ?_;rintro e y ⟨rfl,z,B,Y,G⟩;rw[HR.o]at B⊢
    simp only at B⊢
    have t:Fr L w y:=((Fr.refl L w).drewN m).trans Y (fun x u=>.inl u);have q:=H.o.log.fr t H.o.apart;have b3:=q.at_ (i:=3) rfl;have b4:=q.at_ (i:=4) rfl;have b6:=q.at_ (i:=6) rfl;have bf:=q.free
    have O:lg∉z:=fun C=>by
     rcases G _ C with h|h
     ·exact H.o.apart h
     ·exact absurd H.o.log.lt (by simp only[World.drewN]at h;omega)
    have P:=lh q;have a1:=lh B;have a2:=lh t;have Q:=lh G;have F:=lh O;clear q B Y t G M O;have T:∀I,Fr [lg] y I->Fr (lg::L) w I:=fun I h3=>(a2.o.mono (fun x u=>.inl (uC _ u))).trans h3 (fun x u=>.inl (by simp at u;simp[u]));have U:∀I,Fr [lg] y I->fF I d X z:=fun I h3=>a1.o.fr h3 (fun k hk C=>by simp at C;subst C;exact F.o hk);have V:=lh T;have W:=lh U;clear T U
    by_cases he:N=0
    ·subst he
     go_wp2
     go_ret
     have p:Fr [lg] y ((y.setCell ⟨lg,3,none⟩ (.int .i64 ((l.at_:Int)+(pA b.length:Int)))).setCell ⟨lg,4,none⟩ (.int .u32 (((l.num:Int)+1)%4294967296))):=(((Fr.refl [lg] y).setCell (.inl (by simp)) _).setCell (.inl (by simp)) _);refine⟨rfl,z,⟨?_,W.o _ p,F.o,?_,?_,?_,H.o.ses⟩,V.o _ p,Q.o⟩
     ·have u:=(P.o.set_ 3 (.int .i64 ((l.at_:Int)+(pA b.length:Int)))).set_ 4 (.int .u32 (((l.num:Int)+1)%4294967296));have e1:((l.num:Int)+1)%4294967296=(((l.num+1)%4294967296:Nat):Int):=by omega
      have N:(l.at_:Int)+(pA b.length:Int)=((l.at_+pA b.length:Nat):Int):=by omega
      rw[e1,N]at u⊢;exact u
     ·show l.at_+pA b.length<=l.n;omega
     ·show l.f+l.n<=X.S.length;rw[HS.o];exact r
     ·show(l.num+1)%4294967296<_;omega
    ·have a7:(N !=0)=true:=by rw[aJ];exact he
     have HE:=lh he;clear he
     go_wp2
     go_ret
     have p:Fr [lg] y (y.setCell ⟨lg,6,none⟩ (.bool true)):=((Fr.refl [lg] y).setCell (.inl (by simp)) _);refine⟨rfl,z,⟨P.o.set_ 6 _,W.o _ p,F.o,E,?_,H.o.num,H.o.ses⟩,V.o _ p,Q.o⟩
     show l.f+l.n<=X.S.length;rw[HS.o];exact r
theorem aJR{s:List UInt8}{p:Pc}(h:jB s=some p):p.st.session<4294967296/\p.st.number<4294967296/\p.st.count<65536/\p.place<65536/\p.b.length<=48:=by
 have d:=eV h;unfold jB at h
 split at h
 ·simp only[vI]at h;subst h
  have c:∀l:List UInt8,l.length<=2->zC l<65536:=fun l g=>by
   have h1:=aAu l;have h2:256^l.length<=256^2:=Nat.pow_le_pow_right (by omega) g;have h3:256^2=65536:=by decide
   omega
  exact⟨aCw _ (by simp;omega),aCw _ (by simp;omega),c _ (by simp;omega),c _ (by simp;omega),d⟩
 ·cases h
theorem aBa{st:eC}:∀(L:List (List UInt8)) (k:Nat) (b:List UInt8),nC st k L=some b->b.length<=48*L.length
 | [],k,b,h=>by simp[nC]at h;subst h;simp
 | s::L,k,b,h=>by
  simp only[nC]at h
  cases d:jB s with
  | none=>rw[d]at h;cases h
  | some q=>
   rw[d]at h
   simp only at h
   split at h
   ·obtain⟨c,g,rfl⟩:=Option.map_eq_some_iff.1 h;have h1:=aBa L (k+1) c g;have h2:=eV d;simp only[lB,gD];omega
   ·cases h
theorem pH{L:List (List UInt8)}{st:eC}{b:List UInt8}(h:bB L=some (st,b)):1<=st.count/\st.count<=L.length/\st.session<4294967296/\st.number<4294967296/\b.length<=48*st.count:=by
 cases L with
 | nil=>simp[bB]at h
 | cons s L=>
  simp only[bB]at h
  cases g:jB s with
  | none=>rw[g]at h;cases h
  | some p=>
   rw[g]at h
   simp only at h
   split at h
   ·cases h
   ·rename_i j
    obtain⟨c,d,i⟩:=Option.map_eq_some_iff.1 h;simp only[Prod.mk.injEq]at i;obtain⟨rfl,rfl⟩:=i;have h1:=aJR g;have h2:=aBa _ _ _ d;rw[jC]at h2;refine⟨by omega,by omega,h1.1,h1.2.1,?_⟩;have:min p.st.count (s::L).length<=p.st.count:=Nat.min_le_left _ _;omega
def bO (last:Option eC) (st:eC):Bool:=match last with|none=>false|some l=>decide (st.number≠(l.number+1)%4294967296∨st.session<l.session)
theorem lH{k:Nat}{last:Option eC}{L:List (List UInt8)}(h:bB L=none):rA k last L=[]:=by
 cases k with
 | zero=>rfl
 | succ k=>simp only[rA,h]
theorem uL{k:Nat}{last:Option eC}{L:List (List UInt8)}{st:eC}{b:List UInt8}(h:bB L=some (st,b))(c:bO last st=true):rA k last L=[]:=by
 cases k with
 | zero=>rfl
 | succ k=>
  simp only[rA,h];exact iA c
theorem dM{k:Nat}{last:Option eC}{L:List (List UInt8)}{st:eC}{b:List UInt8}(h:bB L=some (st,b))(c:bO last st=false):rA (k+1) last L=(st,b)::rA k (some st) (L.drop st.count):=by
 simp only[rA,h];exact eA (fun h=>absurd (c.symm.trans h) (by decide))
def fH (R:List (eC×List UInt8)):Option eC:=R.getLast?.map (·.1)
theorem uK(R:List (eC×List UInt8))(x:eC×List UInt8):fH (R++[x])=some x.1:=by simp[fH]
def mD (o:Option eC):List Value:=match o with|none=>[.int .u32 0,.int .u32 0,.int .i64 0] | some st=>[.int .u32 (st.session:Int),.int .u32 (st.number:Int),.int .i64 (st.count:Int)]
def fK (num0:Nat) (o:Option eC):Nat:=match o with|none=>num0|some st=>(st.number+1)%4294967296
structure RowsIn (w:World) (v:Value) (bss:List (List UInt8)) (vs:List Value) (b0:Nat):Prop where
 own:w.ownsRow 0 67 1 v bss.length vs
 len:vs.length=bss.length
 ge:∀x,v.ownBlock=some x->b0<=x
 row:∀(j:Nat) (u:Value) (bs:List UInt8),vs[j]? = some u->bss[j]? = some bs->∃g,cA w u bs g/\b0<=g/\g<w.heap.size/\v.ownBlock≠some g
 one:∀u∈vs,u.oneCell'=true
def aOl (w:World) (v:Value) (bss:List (List UInt8)) (b0:Nat):Prop:=∃vs,RowsIn w v bss vs b0
theorem RowsIn.fr{S:List Nat}{w w':World}{v:Value}(h:RowsIn w v H F k)(c:Fr S w w')(i:∀x∈S,x<k∨w.heap.size<=x:=by simp):RowsIn w' v H F k:=
 ⟨iB h.own c (fun g d b=>by have:=h.ge g d;have:=sF h.own g d;have:=i g b;omega),h.len,h.ge,fun j u bs h1 h2=>by
  obtain⟨g,h3,l,m,o⟩:=h.row j u bs h1 h2;exact⟨g,h3.fr c (fun b=>by have:=i g b;omega),l,pO m c.size,o⟩,h.one⟩
theorem RowsIn.nil(w:World)(b:Nat):RowsIn w (.slice none 0 0) [] [] b:=⟨vF _ _ _ _,rfl,by simp[Value.ownBlock],by simp,by simp⟩
theorem RowsIn.mono{w:World}{v:Value}(h:RowsIn w v H F k)(d:i<=k):RowsIn w v H F i:=
 ⟨h.own,h.len,fun x c=>aF d (h.ge x c),fun j u bs h1 h2=>by obtain⟨g,h3,l,b⟩:=h.row j u bs h1 h2;exact⟨g,h3,by omega,b⟩,h.one⟩
theorem cA.lt{w:World}{v:Value}{bs:List UInt8}{g:Nat}(h:cA w v bs g)(h0:k<=g)(h1:k<w.heap.size):∃g',cA w v bs g'/\k<=g'/\g'<w.heap.size:=by
 obtain⟨A,c,off,j,l,m⟩:=h;rcases jR bs.length with i|i
 ·exact⟨k,⟨A,c,off,j,l,fun h=>by omega⟩,tA _,h1⟩
 ·obtain⟨o,b⟩:=m i;obtain⟨x,d,rfl⟩:∃x d,bs=x::d:=by cases bs with|nil=>simp at i|cons x d=>exact⟨x,d,rfl⟩
  have h2:=b 0 (B8 x) rfl;exact⟨g,⟨A,c,off,j,l,m⟩,h0,cF w _ h2⟩
theorem RowsIn.push{w w7:World}{v:Value}{u:Value}{bs:List UInt8}{g g7 cap:Nat}(h:RowsIn w v H F k)(D:cA w u bs g)(E:k<=g)(l:g<w.heap.size)(r:v.ownBlock≠some g)(h1:u.oneCell'=true)
 (G:w7.ownsRow 0 67 1 (.slice (some ⟨g7,0,none⟩) (H.length+1) cap) (H.length+1) (F++[u]))(t:Fr v.ownBlock.toList w w7)(s:v.ownBlock=some g7∨g7=w.heap.size)(hH:k<=w.heap.size):
  RowsIn w7 (.slice (some ⟨g7,0,none⟩) (H.length+1) cap) (H++[bs]) (F++[u]) k:=by
 have o:∀d,d<w.heap.size->v.ownBlock≠some d->(Value.slice (some ⟨g7,0,none⟩) (H.length+1) cap).ownBlock≠some d:=by
  intro d h1 h2 h3;have y:g7=d:=by simpa[Value.ownBlock]using h3
  rcases s with c|c
  ·exact h2 (y▸c)
  ·omega
 refine⟨by rw[lB];exact G,by simp[h.len],?_,?_,?_⟩
 ·intro x i;have:g7=x:=by simpa[Value.ownBlock]using i
  rcases s with c|c
  ·exact h.ge x (this▸c)
  ·omega
 ·intro j C z m b;rcases iP j H.length with p|q
  ·rw[kM (by rw[h.len];exact p)]at m;rw[kM p]at b;obtain⟨d,h3,y,c,B⟩:=h.row j C z m b;exact⟨d,h3.fr t (by simpa using B),y,pO c t.size,o d c B⟩
  ·rw[dK (by rw[h.len];exact q)]at m;rw[dK q]at b
   have A:j-H.length=0:=by
    rcases jR (j-H.length) with h|h
    ·exact h
    ·rw[fR (by show 1<=_;omega)]at b;cases b
   rw[h.len,A]at m;rw[A]at b;simp only[iR,vI]at m b;subst m b;exact⟨g,D.fr t (by simpa using r),E,pO l t.size,o g l r⟩
 ·intro x i;rcases pD.1 i with i|i
  ·exact h.one x i
  ·simp at i;subst i;exact h1
theorem mK.lt{w:World}{gl off:Nat}{gs:List Nat}{L:List (List UInt8)}(h:mK w gl off gs L):∀g∈gs,g<w.heap.size:=by
 intro g d;obtain⟨j,c,rfl⟩:=List.getElem_of_mem d;have b:j<L.length:=by rw[<- h.len];exact c
 exact(h.sec j _ _ (xD c) (xD b)).1.lt
theorem aCJ:(prog.info? 67).map (fun i=>(i.zero,i.size,i.bytes))=some (some (.slice none 0 0),1,24):=by kernel_rfl
def aCK (v:Value):Nat:=match v with | .slice _ n _=>n|_=>0
def aCL (w:World) (d f n num0 ses gp gl:Nat) (gs:List Nat) (L:List (List UInt8)) (out:Value) (wr:World):Prop:=
 ∃(R:List (eC×List UInt8)) (vs:List Value) (k at_:Nat),R.length<=at_/\at_<=n/\n<=at_+k/\rA n none L=R++rA k (fH R) (L.drop at_)/\at_=(R.map (·.1.count)).sum /\
  (∀x∈R,x.1.session<4294967296/\x.1.number<4294967296) /\
  RowsIn wr out (R.map (·.2)) vs (gp+1)/\Blk wr w.heap.size 158 (jD d f n at_ (fK num0 (fH R)) ses false)/\Blk wr gp 164 (mD (fH R))/\mK wr gl 0 gs L/\Fr [] w wr
theorem aQo{w:World}{d f n:Nat}{D:DM}(hd:fF w d D N)(f8:D.dead=false)(h1:1<=n)(l0:f+n<=D.S.length)(h2:(tB (D.part f n)).1<4294967295):
  Calls prog 50 #[.pointer (some ⟨d,0,none⟩),.int .i64 (f:Int),.int .i64 (n:Int)] w fun e w'=>∃out,
   e=.returned (.tuple #[.pointer (some ⟨w.heap.size,0,none⟩),out,.int .i64 0]) /\
   aOl w' out ((rA n none (D.part f n)).map (·.2)) (w.heap.size+1) /\
   Blk w' w.heap.size 158 (jD d f n ((rA n none (D.part f n)).map (·.1.count)).sum (fK (((tB (D.part f n)).2+1)%4294967296) (fH (rA n none (D.part f n)))) ((tB (D.part f n)).1+1) false)/\Fr [] w w':=by
 have h3:=(fF.ok hd).most;have HD:=lh hd;have c7:=lh f8;have g1:=lh h2;clear hd f8 h2;have e1:decide ((n:Int)<1)=false:=by simp;omega
 have e2:decide ((f:Int)<0)=false:=by simp
 have e3:decide (((D.S.length:Nat):Int)<(n:Int))=false:=by simp;omega
 have e4:decide (((D.S.length:Nat):Int)-(n:Int)<(f:Int))=false:=by simp;omega
 go_enter func50,ntmps50
 go_wp2_with fail;refine(aLj HD.o).mono ?_;rintro e w1 ⟨rfl,rfl⟩;rw[c7.o];go_wp2_with fail;refine(aGj HD.o).mono ?_;rintro e w1 ⟨rfl,rfl⟩;go_wp2_with fail;refine(aGj HD.o).mono ?_;rintro e w1 ⟨rfl,rfl⟩;go_wp2_with fail;have h4:Fr [] w (w.alloc (.cells (jD d f n 0 0 0 false).toArray 158)):=(Fr.refl [] w).alloc _;refine(aQl (lg:=w.heap.size) (at_:=0) (num:=0) (ses:=0) (br:=false) (Blk.new w _ (jD d f n 0 0 0 false)) (HD.o.fr h4) c7.o l0 h3).mono ?_;rintro e w2 ⟨A,c,gl,gs,rfl,m1,hA,k6,j2,j3,j4⟩;have I:(w.alloc (.cells (jD d f n 0 0 0 false).toArray 158)).heap.size=w.heap.size+1:=by simp
 rw[I]at j2 j3;have j7:=(Blk.new w 158 (jD d f n 0 0 0 false)).fr j4;have h5:=lh k6;have j8:=lh (h4.trans j4);have j9:=lh j7;have f9:=lh j2;have h6:=lh j3;clear k6 j4 h4 j7 j2 j3 I;go_wp2_with fail;have a8:=D.part_len f n;have h7:=aJP (A:=A) (c:=c) (a:=(0,0)) j9.o h5.o (by rw[a8];exact hA) (by rw[a8];exact m1) (by rw[a8];omega) (by have:=f9.o;omega);rw[a8]at h7;refine h7.mono ?_;clear h7;rintro e w3 ⟨rfl,g0,j5⟩;rw[<- aCH]at g0⊢;rw[show decide ((tB (D.part f n)).1<4294967295)=true from xP g1.o];have j':Fr [] w w3:=j8.o.trans j5 (fun x p=>.inr (by simp at p;omega));have h8:=h5.o.fr j5 (by simp;have:=f9.o;omega) (fun g X z=>by simp at z;have:=h6.o g X;omega);have g2:((tB (D.part f n)).1+1)%4294967296=(tB (D.part f n)).1+1:=pK (by have:=g1.o;omega);rw[g2]at g0;have l1:(tB (D.part f n)).2<4294967296∨True:=.inr trivial
 have g3:gl<w3.heap.size∨n=0:=by
  rcases jR n with h0|h0
  ·exact .inr h0
  ·obtain⟨g,s,_,hc,_⟩:=h8.at_ (j:=0) (by rw[a8];exact h0);exact .inl (cF w3 _ hc)
 have k0:=lh g0;have k1:=lh j';have a9:=lh h8;have l2:=lh a8;have c0:=lh g3;clear g0 j' j5 h8 g2 l1 j9 h5 j8 a8 g3;generalize hnum0:((tB (D.part f n)).2+1)%4294967296=a7 at *;generalize hses0:(tB (D.part f n)).1+1=H at *;have m5:=k1.o.size;have m6:=k0.o.lt;have h9:=lh hnum0;have h':=lh hses0;clear hnum0 hses0 e1 e2 e3 e4
 go_wp2
 go_loopw [12] (aCL w d f n a7 H w3.heap.size gl gs (D.part f n)) (fun out _=>n+1-aCK out)
 case atStart=>
  have M:Fr [] w3 (w3.alloc (.cells #[.int .u32 0,.int .u32 0,.int .i64 0] 164)):=(Fr.refl [] w3).alloc _;exact⟨[],[],n,0,rB _,rB _,by omega,rfl,rfl,by simp,RowsIn.nil _ _,k0.o.fr M,Blk.new w3 _ _,a9.o.fr M (by simp) (by simp),k1.o.trans M⟩
 case round=>
  obtain⟨R,vs,k,at_,m',n0,n1,e6,g',k7,b6,e7,e8,e9,k8⟩:=hrel;obtain⟨oA,oc,rfl,n2,_⟩:=sA b6.own;have m3:=e7.at_ (i:=3) rfl;have O:=lh e6;have c8:=lh g';have i1:=lh k7;have q:=lh b6;have c9:=lh e7;have F:=lh e8;have a':=lh e9;have i2:=lh k8;clear e6 g' k7 b6 e7 e8 e9 k8;rw[lI]at *;have k2:(List.drop at_ (D.part f n)).length=n-at_:=by rw[mC,l2.o]
  have c':bB ((D.part f n).drop at_)=none->rA n none (D.part f n)=R:=fun h=>by rw[O.o,lH h,dI]
  have c5:=lh k2;have d0:=lh c';clear k2 c'
  have g5:∀w5,rA n none (D.part f n)=R->Fr [] wr w5->∃out,Ending.returned (.tuple #[.pointer (some ⟨w.heap.size,0,none⟩),.slice oA R.length oc,.int .i64 0])=.returned (.tuple #[.pointer (some ⟨w.heap.size,0,none⟩),out,.int .i64 0]) /\
    aOl w5 out ((rA n none (D.part f n)).map (·.2)) (w.heap.size+1)/\Blk w5 w.heap.size 158 (jD d f n ((rA n none (D.part f n)).map (·.1.count)).sum (fK (((tB (D.part f n)).2+1)%4294967296) (fH (rA n none (D.part f n)))) ((tB (D.part f n)).1+1) false)/\Fr [] w w5:=by
   intro w5 hR j6;rw[hR,<- c8.o,h9.o,h'.o];refine⟨_,rfl,⟨vs,((q.o.fr j6).mono (by omega))⟩,c9.o.fr j6,i2.o.trans j6⟩
  have c1:=lh g5;clear g5;have l5:∀x,bB ((D.part f n).drop at_)=some x->bB ((D.part f n).drop at_)≠none:=fun x h=>by rw[h];simp
  clear l5
  by_cases m2:c=at_
  ·have l6:n=at_:=by omega
   have k3:(D.part f n).drop at_=[]:=cR (by rw[c5.o];omega);have Y:=d0.o (by rw[k3];rfl);have c6:=lh Y;clear Y k3;subst m2;subst l6;go_wp2_with fail;have J:=aCF (A:=A) (c:=0) (w:=wr) (gl:=gl) (off:=0) (gs:=[]) (L:=[]) ⟨rfl,by simp,by simp⟩ (by simp) (by simp) (by simp);refine J.mono ?_;rintro e B ⟨rfl,a3⟩;have G:=lh a3;clear a3 J;unfold nF
   go_wp2
   go_ret3
   exact c1.o _ c6.o (G.o.alloc _)
  ·have J:=aCF (A:=A.map (·.add at_)) (c:=c-at_) (a'.o.drop at_) (by intro h0;rw[c5.o]at h0;rw[hA (by omega)];simp[Go.Addr.add_mid]) (by rw[c5.o];omega) (by rw[c5.o];omega);rw[c5.o]at J;have k4:=lh J;clear J;go_wp2_with fail;refine k4.o.mono ?_;intro e B a5;unfold hU at a5
   cases b':bB ((D.part f n).drop at_) with
   | none=>
    rw[b']at a5;obtain⟨rfl,a3⟩:=a5;have Y:=d0.o b';have c6:=lh Y;have G:=lh a3;clear Y a3 b';unfold nF
    go_wp2
    go_ret3
    exact c1.o _ c6.o (G.o.alloc _)
   | some x=>
    obtain⟨st,b⟩:=x;rw[b']at a5;obtain⟨v4,g4,rfl,k9,k',a3⟩:=a5;obtain⟨q1,q2,q3,q4,q5⟩:=pH b';rw[c5.o]at q2;have i3:=lh b';have f':=lh k9;have k5:=lh k';have G:=lh a3;clear b' k9 k' a3;have Z:=F.o.fr G.o;have m4:=Z.lt;have g6:v4.cells=#[v4]:=by obtain⟨_,_,_,rfl,_⟩:=f'.o;rfl
    have g8:v4.oneCell'=true:=by obtain⟨_,_,_,rfl,_⟩:=f'.o;rfl
    have g9:=lh g6;have c4:=lh g8;clear g6 g8;unfold aCE
    by_cases hR:R=[]
    ·have m7:¬ (0<R.length):=by rw[hR];simp
     have E:bO (fH R) st=false:=by rw[hR];rfl
     have i4:=lh E;have l7:=lh Z;clear Z hR E;go_wp2_with fail;have M:Fr [] wr (B.alloc (.cells (mD (some st)).toArray 164)):=G.o.alloc _;have d1:Blk (B.alloc (.cells (mD (some st)).toArray 164)) B.heap.size 164 (mD (some st)):=Blk.new B _ _;have i5:=lh M;have b0:=lh d1;clear M d1;refine lA (fun W=>Blk W B.heap.size 164 (mD (some st))) [0,1,4] (by kernel_rfl) ?_;refine tks [0,1] ?_
     iterate 2 (refine tk rfl rfl b0.o rfl (fun _ _=>by go_simp<;>with_reducible rfl) ?_;simp only[nrm])
     refine tke ?_;refine tv 4 (.agg (mD (some st)).toArray) rfl rfl b0.o (Go.yieldsIf_load_mid rfl 164 (.tmp 14) rfl B.heap.size 0 rfl (mD (some st)) _ (fun W hW j v hj=>by rw[cC];exact hW.at_ hj) underlying164 rfl (by kernel_rfl)) ?_;simp only[nrm];obtain⟨i0,b7,b8,I,e'⟩:=Go.info_parts aCJ;refine sp 2 rfl rfl rfl fun K hK=>?_;refine rI (.tmp 94) rfl Go.Proofs.Tryz.underlying114 b7 b8 I rfl v4 rfl g9.o (B.heap.size+1) (by show(B.alloc _).heap.size=_;simp) fun w6 f4 V b9=>?_;have m:Fr [] wr w6:=i5.o.drew.trans V;have b1:Blk w6 B.heap.size 164 (mD (some st)):=b0.o.drew.fr V;refine hK _ _ (fun _=>b1) ?_;simp only[nrm];refine sp 3 rfl rfl rfl fun K hK=>?_;refine eD (.tmp 93) (.tmp 95) rfl 67 1 24 Go.Proofs.Tryz.underlying114 b7 b8 I e' rfl (by omega) (.slice oA R.length oc) R.length vs rfl ?own ⟨B.heap.size+1,0,none⟩ 1 1 [v4] rfl rfl ?news ?one (by omega) (by unfold maxLen;omega) (by omega) (B.heap.size+2) b9 fun g7 cap w7 f5 t a6 f6=>?_
     case own=>have:=(q.o.fr m).own;rw[lI]at this;exact this
     case one=>intro u hu;simp at hu;subst hu;exact c4.o
     case news=>intro j u hu;rw[Go.Addr.add_mid,cC];exact f4.at_ hu
     have r:∀x∈(Value.slice oA R.length oc).ownBlock.toList,w3.heap.size+1<=x/\x<wr.heap.size:=fun x p=>by
      have h:(Value.slice oA R.length oc).ownBlock=some x:=by simpa using p
      exact⟨q.o.ge x h,sF q.o.own x h⟩
     have l8:=G.o.size;have l9:=F.o.lt;obtain⟨f0,a4,f1,f2⟩:=(f'.o.fr (((Fr.refl [] B).alloc (.cells (mD (some st)).toArray 164)).drew.trans V) (by simp)).lt k5.o (by omega)
     have d2:RowsIn w7 (.slice (some ⟨g7,0,none⟩) (R.length+1) cap) ((R++[(st,b)]).map (·.2)) (vs++[v4]) (w3.heap.size+1):=by
      have i6:=q.o.fr m;have i7:cA w6 v4 b f0:=a4;have:=i6.push (g7:=g7) (cap:=cap) (w7:=w7) i7 (by omega) (by omega) (fun p=>by have:=r f0 (by simp[p]);omega) c4.o (by rw[lI];exact f5) t (by rw[b9];exact a6) (by omega);rw[lI]at this;rw[List.map_append];exact this
     have P:=b1.fr t (fun z=>by have:=r _ z;omega);have d3:=(c9.o.fr m).fr t (fun z=>by have:=r _ z;omega);have d4:=(F.o.fr m).fr t (fun z=>by have:=r _ z;omega);have d5:=(a'.o.fr m (by simp) (by simp)).fr t (fun z=>by have:=r _ z;have:=c0.o;omega) (fun g X z=>by have:=r _ z;have:=a9.o.lt g X;omega);have a0:=(i2.o.trans m).trans t (fun x p=>.inr (by have:=r _ p;omega));refine hK _ _ (fun _=>P) ?_;simp only[nrm];refine sp 5 rfl rfl rfl fun K hK=>?_;refine nA (v:=?aq1_5) ?yq1_5 (hK _ _ (fun _=>P) ?_)
     case yq1_5=>go_simp<;>with_reducible rfl
     simp only[nrm];refine xA (j:=6) none rfl rfl (by kernel_rfl) rfl fun K hK=>?_;refine yA 164 (.tmp 13) (.tmp 97) rfl (mD (some st)) rfl rfl d4 (by kernel_rfl) (by cases fH R<;>rfl) (by intro u hu;simp only[mD,kB,yG,aG]at hu;rcases hu with rfl|rfl|rfl<;>rfl) fun w8 f7 C _=>hK _ _ (fun h=>absurd h (by decide +kernel)) ?_;simp only[Act.put];refine wd ?_ _;have d6:=P.fr C (by simp;omega);have d7:=d3.fr C (by simp;omega);have d8:=d5.fr C (by simp;have:=c0.o;omega) (fun g X z=>by simp at z;have:=a9.o.lt g X;omega);have d9:=d2.fr C (fun x p=>.inl (by simp at p;omega));have a1:=a0.trans C (fun x p=>.inr (by simp at p;omega));have Q:=lh d6;have b2:=lh d7;have i8:=lh d8;have i9:=lh d9;have d':=lh a1;have i':=lh f7;clear d6 d7 d8 d9 a1 f7 C a0 d5 d4 d3 P d2 a4 f1 f2 r a6 f5 t f6 b1 V m f4 b9 hK b7 b8 I e' m3;have l3:=b2.o.at_ (i:=3) rfl;have lf:=b2.o.free;have p0:=Q.o.at_ (i:=0) rfl;have p1:=Q.o.at_ (i:=1) rfl;have p2:=Q.o.at_ (i:=2) rfl;have a2:IntKind.i64.wrap ((at_:Int)+(st.count:Int))=(at_:Int)+(st.count:Int):=by rw[iD];omega
     go_wp2_with fail;refine lA (fun W=>W.cell? ⟨w.heap.size,3,none⟩=some (.int .i64 (at_:Int))/\W.cell? ⟨B.heap.size,2,none⟩=some (.int .i64 (st.count:Int))) [0,1,2,3,4,5,6] (by kernel_rfl) ?_;refine tks [0,1,2,3,4,5,6] ?_
     iterate 7 (refine tk rfl rfl ⟨l3,p2⟩ rfl (fun _ hW=>by(obtain⟨c3,c2⟩:=hW;go_simp)<;>with_reducible rfl) ?_;simp only[nrm])
     refine tke ?_;refine sp 7 rfl rfl rfl fun K hK=>?_;refine nA (v:=?aq2_7) ?yq2_7 (hK _ _ (fun h=>absurd h (by decide +kernel)) ?_)
     case yq2_7=>go_simp<;>with_reducible rfl
     simp only[nrm];refine sp 8 rfl rfl rfl fun K hK=>?_;refine nA (v:=?aq2_8) ?yq2_8 (hK _ _ (fun h=>absurd h (by decide +kernel)) ?_)
     case yq2_8=>go_simp<;>with_reducible rfl
     simp only[nrm];refine xA (j:=9) none rfl rfl (by kernel_rfl) rfl fun K hK=>?_;refine pB (w':=w8.drew.setCell ⟨w.heap.size,3,none⟩ (.int .i64 ((at_:Int)+(st.count:Int)))) (by go_simp) (hK _ _ (fun h=>absurd h (by decide +kernel)) ?_);simp only[Act.put];refine wd ?_ _
     have T:Blk (w8.drew.setCell ⟨w.heap.size,3,none⟩ (.int .i64 ((at_:Int)+(st.count:Int)))) w.heap.size 158 (jD d f n (at_+st.count) (fK a7 (fH R)) H false):=by
      have h:=b2.o.drew.set_ 3 (.int .i64 ((at_:Int)+(st.count:Int)));rw[show(at_:Int)+(st.count:Int)=((at_+st.count:Nat):Int) by omega]at h⊢;exact h
     have b3:Fr [w.heap.size] w8 (w8.drew.setCell ⟨w.heap.size,3,none⟩ (.int .i64 ((at_:Int)+(st.count:Int)))):=(Fr.refl [w.heap.size] w8).drew.setCell (.inl (by simp)) _;generalize (w8.drew.setCell ⟨w.heap.size,3,none⟩ (.int .i64 ((at_:Int)+(st.count:Int))))=w9 at *;clear l3 lf p0 p1 p2 a2 hK;have l4:=T.at_ (i:=4) rfl;have lf:=T.free;have p1:=(Q.o.fr b3 (by simp;omega)).at_ (i:=1) rfl;have b4:=lh T;have b5:=lh b3;clear T b3;have a2:IntKind.u32.wrap ((st.number:Int)+1)=(((st.number+1)%4294967296:Nat):Int):=by rw[Go.IntKind.wrap_u32];omega
     go_wp2
     have j0:∀U,Fr [w.heap.size] w8 U->Blk U w.heap.size 158 (jD d f n (at_+st.count) ((st.number+1)%4294967296) H false) ->
       aCL w d f n a7 H w3.heap.size gl gs (D.part f n) (.slice (some ⟨g7,0,none⟩) (R.length+1) cap) U:=by
      intro U y f3;refine⟨R++[(st,b)],vs++[v4],k-1,at_+st.count,by simp;omega,by omega,by omega,?_,by simp[c8.o],?_,i9.o.fr y (fun x p=>.inl (by simp at p;omega)),?_,?_,?_,d'.o.trans y (fun x p=>.inr (by simp at p;omega))⟩
      ·have e0:k=(k-1)+1:=by omega
       rw[O.o,e0,dM i3.o i4.o,uK,List.drop_drop,<- e0]
       simp
      ·intro x p;rcases pD.1 p with p|p
       ·exact i1.o x p
       ·simp at p;subst p;exact⟨q3,q4⟩
      ·rw[uK];exact f3
      ·rw[uK];exact i'.o.fr y (by simp;omega)
      ·exact i8.o.fr y (by simp;have:=f9.o;omega) (fun g X z=>by simp at z;have:=a9.o.lt g X;have:=h6.o g X;omega)
     refine⟨j0 _ ?_ ?_,?_⟩
     ·first|exact b5.o.setCell (.inl (by simp)) _|exact(b5.o.drew).setCell (.inl (by simp)) _|exact(b5.o.setCell (.inl (by simp)) _).drew
     ·first|exact b4.o.set_ 4 _|exact b4.o.drew.set_ 4 _|exact(b4.o.set_ 4 _).drew
     ·simp only[aCK];omega
    ·obtain⟨l,hl⟩:∃l,fH R=some l:=by
      unfold fH
      cases X:R.getLast? with
      | none=>rw[List.getLast?_eq_none_iff]at X;exact absurd X hR
      | some x=>exact⟨x.1,rfl⟩
     have m8:0<R.length:=by rcases jR R.length with h|h;exact absurd (cR h) hR;exact h
     have m9:l.number<4294967296/\l.session<4294967296:=by
      unfold fH at hl;obtain⟨x,p,rfl⟩:=Option.map_eq_some_iff.1 hl;have:=i1.o x (List.mem_of_getLast? p);exact⟨this.2,this.1⟩
     rw[hl]at Z;have l7:=lh Z;have o0:=Z.at_ (i:=0) rfl;have o1:=Z.at_ (i:=1) rfl;have HL:=lh hl;clear Z hl hR;have e5:IntKind.u32.wrap ((l.number:Int)+1)=(((l.number+1)%4294967296:Nat):Int):=by rw[Go.IntKind.wrap_u32];omega
     cases E:bO (fH R) st with
     | true=>
      have Y:rA n none (D.part f n)=R:=by rw[O.o,uL i3.o E,dI]
      have c6:=lh Y;clear Y;rw[HL.o]at E;simp only[bO,yI]at E
      by_cases j1:(st.number:Int)=(((l.number+1)%4294967296:Nat):Int)
      ·have l':(st.session:Int)<(l.session:Int):=by omega
       clear E
       go_wp2
       go_ret3
       exact c1.o _ c6.o (G.o.alloc _)
      ·clear E
       go_wp2
       go_ret3
       exact c1.o _ c6.o (G.o.alloc _)
     | false=>
      have i4:=lh E;rw[HL.o]at E;simp only[bO,qK]at E;have j1:(st.number:Int)=(((l.number+1)%4294967296:Nat):Int):=by omega
      have l':¬ ((st.session:Int)<(l.session:Int)):=by omega
      have m0:IntKind.u32.wrap ((l.number:Int)+1)=(st.number:Int):=by rw[e5,j1]
      clear E e5 j1;go_wp2_with fail;have M:Fr [] wr (B.alloc (.cells (mD (some st)).toArray 164)):=G.o.alloc _;have d1:Blk (B.alloc (.cells (mD (some st)).toArray 164)) B.heap.size 164 (mD (some st)):=Blk.new B _ _;have i5:=lh M;have b0:=lh d1;clear M d1;refine lA (fun W=>Blk W B.heap.size 164 (mD (some st))) [0,1,4] (by kernel_rfl) ?_;refine tks [0,1] ?_
      iterate 2 (refine tk rfl rfl b0.o rfl (fun _ _=>by go_simp<;>with_reducible rfl) ?_;simp only[nrm])
      refine tke ?_;refine tv 4 (.agg (mD (some st)).toArray) rfl rfl b0.o (Go.yieldsIf_load_mid rfl 164 (.tmp 14) rfl B.heap.size 0 rfl (mD (some st)) _ (fun W hW j v hj=>by rw[cC];exact hW.at_ hj) underlying164 rfl (by kernel_rfl)) ?_;simp only[nrm];obtain⟨i0,b7,b8,I,e'⟩:=Go.info_parts aCJ;refine sp 2 rfl rfl rfl fun K hK=>?_;refine rI (.tmp 94) rfl Go.Proofs.Tryz.underlying114 b7 b8 I rfl v4 rfl g9.o (B.heap.size+1) (by show(B.alloc _).heap.size=_;simp) fun w6 f4 V b9=>?_;have m:Fr [] wr w6:=i5.o.drew.trans V;have b1:Blk w6 B.heap.size 164 (mD (some st)):=b0.o.drew.fr V;refine hK _ _ (fun _=>b1) ?_;simp only[nrm];refine sp 3 rfl rfl rfl fun K hK=>?_;refine eD (.tmp 93) (.tmp 95) rfl 67 1 24 Go.Proofs.Tryz.underlying114 b7 b8 I e' rfl (by omega) (.slice oA R.length oc) R.length vs rfl ?own ⟨B.heap.size+1,0,none⟩ 1 1 [v4] rfl rfl ?news ?one (by omega) (by unfold maxLen;omega) (by omega) (B.heap.size+2) b9 fun g7 cap w7 f5 t a6 f6=>?_
      case own=>have:=(q.o.fr m).own;rw[lI]at this;exact this
      case one=>intro u hu;simp at hu;subst hu;exact c4.o
      case news=>intro j u hu;rw[Go.Addr.add_mid,cC];exact f4.at_ hu
      have r:∀x∈(Value.slice oA R.length oc).ownBlock.toList,w3.heap.size+1<=x/\x<wr.heap.size:=fun x p=>by
       have h:(Value.slice oA R.length oc).ownBlock=some x:=by simpa using p
       exact⟨q.o.ge x h,sF q.o.own x h⟩
      have l8:=G.o.size;have l9:=F.o.lt;obtain⟨f0,a4,f1,f2⟩:=(f'.o.fr (((Fr.refl [] B).alloc (.cells (mD (some st)).toArray 164)).drew.trans V) (by simp)).lt k5.o (by omega)
      have d2:RowsIn w7 (.slice (some ⟨g7,0,none⟩) (R.length+1) cap) ((R++[(st,b)]).map (·.2)) (vs++[v4]) (w3.heap.size+1):=by
       have i6:=q.o.fr m;have i7:cA w6 v4 b f0:=a4;have:=i6.push (g7:=g7) (cap:=cap) (w7:=w7) i7 (by omega) (by omega) (fun p=>by have:=r f0 (by simp[p]);omega) c4.o (by rw[lI];exact f5) t (by rw[b9];exact a6) (by omega);rw[lI]at this;rw[List.map_append];exact this
      have P:=b1.fr t (fun z=>by have:=r _ z;omega);have d3:=(c9.o.fr m).fr t (fun z=>by have:=r _ z;omega);have d4:=(F.o.fr m).fr t (fun z=>by have:=r _ z;omega);have d5:=(a'.o.fr m (by simp) (by simp)).fr t (fun z=>by have:=r _ z;have:=c0.o;omega) (fun g X z=>by have:=r _ z;have:=a9.o.lt g X;omega);have a0:=(i2.o.trans m).trans t (fun x p=>.inr (by have:=r _ p;omega));refine hK _ _ (fun _=>P) ?_;simp only[nrm];refine sp 5 rfl rfl rfl fun K hK=>?_;refine nA (v:=?aq3_5) ?yq3_5 (hK _ _ (fun _=>P) ?_)
      case yq3_5=>go_simp<;>with_reducible rfl
      simp only[nrm];refine xA (j:=6) none rfl rfl (by kernel_rfl) rfl fun K hK=>?_;refine yA 164 (.tmp 13) (.tmp 97) rfl (mD (some st)) rfl rfl d4 (by kernel_rfl) (by cases fH R<;>rfl) (by intro u hu;simp only[mD,kB,yG,aG]at hu;rcases hu with rfl|rfl|rfl<;>rfl) fun w8 f7 C _=>hK _ _ (fun h=>absurd h (by decide +kernel)) ?_;simp only[Act.put];refine wd ?_ _;have d6:=P.fr C (by simp;omega);have d7:=d3.fr C (by simp;omega);have d8:=d5.fr C (by simp;have:=c0.o;omega) (fun g X z=>by simp at z;have:=a9.o.lt g X;omega);have d9:=d2.fr C (fun x p=>.inl (by simp at p;omega));have a1:=a0.trans C (fun x p=>.inr (by simp at p;omega));have Q:=lh d6;have b2:=lh d7;have i8:=lh d8;have i9:=lh d9;have d':=lh a1;have i':=lh f7;clear d6 d7 d8 d9 a1 f7 C a0 d5 d4 d3 P d2 a4 f1 f2 r a6 f5 t f6 b1 V m f4 b9 hK b7 b8 I e' m3;have l3:=b2.o.at_ (i:=3) rfl;have lf:=b2.o.free;have p0:=Q.o.at_ (i:=0) rfl;have p1:=Q.o.at_ (i:=1) rfl;have p2:=Q.o.at_ (i:=2) rfl;have a2:IntKind.i64.wrap ((at_:Int)+(st.count:Int))=(at_:Int)+(st.count:Int):=by rw[iD];omega
      go_wp2_with fail;refine lA (fun W=>W.cell? ⟨w.heap.size,3,none⟩=some (.int .i64 (at_:Int))/\W.cell? ⟨B.heap.size,2,none⟩=some (.int .i64 (st.count:Int))) [0,1,2,3,4,5,6] (by kernel_rfl) ?_;refine tks [0,1,2,3,4,5,6] ?_
      iterate 7 (refine tk rfl rfl ⟨l3,p2⟩ rfl (fun _ hW=>by(obtain⟨c3,c2⟩:=hW;go_simp)<;>with_reducible rfl) ?_;simp only[nrm])
      refine tke ?_;refine sp 7 rfl rfl rfl fun K hK=>?_;refine nA (v:=?aq4_7) ?yq4_7 (hK _ _ (fun h=>absurd h (by decide +kernel)) ?_)
      case yq4_7=>go_simp<;>with_reducible rfl
      simp only[nrm];refine sp 8 rfl rfl rfl fun K hK=>?_;refine nA (v:=?aq4_8) ?yq4_8 (hK _ _ (fun h=>absurd h (by decide +kernel)) ?_)
      case yq4_8=>go_simp<;>with_reducible rfl
      simp only[nrm];refine xA (j:=9) none rfl rfl (by kernel_rfl) rfl fun K hK=>?_;refine pB (w':=w8.drew.setCell ⟨w.heap.size,3,none⟩ (.int .i64 ((at_:Int)+(st.count:Int)))) (by go_simp) (hK _ _ (fun h=>absurd h (by decide +kernel)) ?_);simp only[Act.put];refine wd ?_ _
      have T:Blk (w8.drew.setCell ⟨w.heap.size,3,none⟩ (.int .i64 ((at_:Int)+(st.count:Int)))) w.heap.size 158 (jD d f n (at_+st.count) (fK a7 (fH R)) H false):=by
       have h:=b2.o.drew.set_ 3 (.int .i64 ((at_:Int)+(st.count:Int)));rw[show(at_:Int)+(st.count:Int)=((at_+st.count:Nat):Int) by omega]at h⊢;exact h
      have b3:Fr [w.heap.size] w8 (w8.drew.setCell ⟨w.heap.size,3,none⟩ (.int .i64 ((at_:Int)+(st.count:Int)))):=(Fr.refl [w.heap.size] w8).drew.setCell (.inl (by simp)) _;generalize (w8.drew.setCell ⟨w.heap.size,3,none⟩ (.int .i64 ((at_:Int)+(st.count:Int))))=w9 at *;clear l3 lf p0 p1 p2 a2 hK;have l4:=T.at_ (i:=4) rfl;have lf:=T.free;have p1:=(Q.o.fr b3 (by simp;omega)).at_ (i:=1) rfl;have b4:=lh T;have b5:=lh b3;clear T b3;have a2:IntKind.u32.wrap ((st.number:Int)+1)=(((st.number+1)%4294967296:Nat):Int):=by rw[Go.IntKind.wrap_u32];omega
      go_wp2
      have j0:∀U,Fr [w.heap.size] w8 U->Blk U w.heap.size 158 (jD d f n (at_+st.count) ((st.number+1)%4294967296) H false) ->
        aCL w d f n a7 H w3.heap.size gl gs (D.part f n) (.slice (some ⟨g7,0,none⟩) (R.length+1) cap) U:=by
       intro U y f3;refine⟨R++[(st,b)],vs++[v4],k-1,at_+st.count,by simp;omega,by omega,by omega,?_,by simp[c8.o],?_,i9.o.fr y (fun x p=>.inl (by simp at p;omega)),?_,?_,?_,d'.o.trans y (fun x p=>.inr (by simp at p;omega))⟩
       ·have e0:k=(k-1)+1:=by omega
        rw[O.o,e0,dM i3.o i4.o,uK,List.drop_drop,<- e0]
        simp
       ·intro x p;rcases pD.1 p with p|p
        ·exact i1.o x p
        ·simp at p;subst p;exact⟨q3,q4⟩
       ·rw[uK];exact f3
       ·rw[uK];exact i'.o.fr y (by simp;omega)
       ·exact i8.o.fr y (by simp;have:=f9.o;omega) (fun g X z=>by simp at z;have:=a9.o.lt g X;have:=h6.o g X;omega)
      refine⟨j0 _ ?_ ?_,?_⟩
      ·first|exact b5.o.setCell (.inl (by simp)) _|exact(b5.o.drew).setCell (.inl (by simp)) _|exact(b5.o.setCell (.inl (by simp)) _).drew
      ·first|exact b4.o.set_ 4 _|exact b4.o.drew.set_ 4 _|exact(b4.o.set_ 4 _).drew
      ·simp only[aCK];omega
theorem eM{P:Program}{w:World}{src e dst:TypeId}(m:P.underlying src=some (.slice e))(o:P.underlying e=some (.int .u8))(p:P.underlying dst=some .string){v:Value}{bs:List UInt8}{g:Nat}(h:cA w v bs g):
  (convert src dst v).run P w=.ok (.string ⟨bs.toArray⟩) w:=by
 obtain⟨A,c,off,rfl,q,i⟩:=h;rw[run_convert_bytes_string w src dst e _ _ c m o p]
 cases A with
 | none=>
  have h0:bs=[]:=by
   cases bs with
   | nil=>rfl
   | cons x r=>have:=(i (by simp)).1;cases this
  subst h0
  simp[Conv.bytesToString]
  rfl
 | some a=>
  have l:(loadCells a bs.length).run P w=.ok ((bs.map fun(c:UInt8)=>(c.toNat:Int)).map (Value.int .u8)).toArray w:=by
   have:=run_loadCells_list (P:=P) w a (fA bs) (fun j v k=>by
    have h0:0<bs.length:=by have:=(tD.1 k).1;rw[kA]at this;omega
    obtain⟨d,b⟩:=i h0;injection d with d;subst d;rw[Go.Addr.add_mid];exact b j v k)
   rw[kA]at this;rw[this]
   congr 2
   simp[fA,B8,Function.comp_def]
  rw[run_bytesToString w a bs.length c _ l,foldl_push_bytes]
  have e:(bs.map fun(c:UInt8)=>(c.toNat:Int)).map (fun n=>UInt8.ofNat n.toNat)=bs:=by
   rw[List.map_map]
   conv=>rhs;rw[<- List.map_id bs]
   apply List.map_congr_left
   intro x _
   simp
  rw[e]
  simp[ByteArray.empty,ByteArray.emptyWithCapacity]
  rfl
end
end Go.Proofs.YtebjhcjbfaaejaaGreatDoor
