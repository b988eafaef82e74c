/-
  Joined: Oa Ob Oc
-/
import Derived.Lib.Bytealg
import Derived.Lib.BytesEntry
import Derived.Laws.Externs
import Derived.Lib.LazyBuf
import Derived.Shelf.Spec.SlicesInsertGrow
import Derived.Test.YtebjhcjbfaaejaaGreatDoorJca10
set_option maxRecDepth 100000
set_option maxHeartbeats 32000000
namespace Go.Proofs.YtebjhcjbfaaejaaGreatDoor
open Go.Proofs.Tryz
variable {n k m c d:Nat}{v u:Value}{F:List Value}{T:TypeId}
section
open Go.RowKit Go.Sort Go.Shelf
theorem aDp{w:World}{v:Value}{bs:List UInt8}{g:Nat}(h:cA w v bs g):(Extern.Bytes.bytesOf v).run prog w=.ok ⟨bs.toArray⟩ w:=by
 obtain⟨A,c,off,rfl,q,n⟩:=h
 have f:∀(l:List UInt8) (a:Addr) (b:ByteArray),(∀j x,l[j]? = some x->w.cell? (a.add j)=some (B8 x))->(Extern.Bytes.loadBytes a l.length b).run prog w=.ok ⟨b.data++l.toArray⟩ w:=by
  intro l
  induction l with
  | nil=>intro a b _;simp[Extern.Bytes.loadBytes]
  | cons x l p=>
   intro a b h;have h0:=h 0 x rfl;rw[show a.add 0=a from by cases a;simp[Addr.add]]at h0;have o:(UInt8.ofNat x.toNat)=x:=by simp
   have k:=p (a.add 1) (b.push x) (fun j y i=>by
    have:=h (j+1) y (by simpa using i)
    rwa [show a.add (j+1)=(a.add 1).add j by rw[Addr.add_add,Nat.add_comm]]at this)
   unfold B8 at h0;simp only[gD,Extern.Bytes.loadBytes,Go.Sem.run_bind,run_load,h0,Result.andThen,Int.toNat_natCast];rw[show x.toNat.toUInt8=x from o,k]
   simp[ByteArray.push]
 cases A with
 | none=>
  have h0:bs=[]:=by
   cases bs with
   | nil=>rfl
   | cons x r=>have:=(n (by simp)).1;cases this
  subst h0
  rfl
 | some a=>
  have:=f bs a .empty (fun j x i=>by
   have h0:0<bs.length:=by have:=(tD.1 i).1;omega
   obtain⟨m,d⟩:=n h0;injection m with m;subst m;rw[Go.Addr.add_mid];exact d j (B8 x) (by rw[uG,i];rfl))
  show(Extern.Bytes.loadBytes a bs.length .empty).run prog w=_
  rw[this];have e:ByteArray.empty.data=#[]:=rfl;rw[e,Array.empty_append]
theorem aIa{w:World}{a b:List UInt8}(c:cA w v a n)(d:cA w u b k):
  (Extern.BytealgCompare.compare #[v,u]).run prog w=.ok (.int .i64 (Lib.compareBytes a b)) w:=by
 change Sem.run prog (do pure (goInt (Extern.BytealgCompare.cmp (<- Extern.Bytes.bytesOf v) (<- Extern.Bytes.bytesOf u)))) w=_
 simp only[Go.Sem.run_bind,aDp c,aDp d,Go.Sem.run_pure,Result.andThen];rw[Lib.cmp_eq]
 rfl
theorem aBk{w:World}{a b:List UInt8}(c:cA w v a n)(d:cA w u b k):
  Calls prog 130 #[v,u] w fun e w'=>e=.returned (.bool (decide (a=b)))/\w=w':=by
 have c1:=eM (P:=prog) (src:=67) (dst:=9) Go.Proofs.Tryz.underlying67 Go.Proofs.Tryz.underlying5 Go.Proofs.Tryz.underlying9 c;have c2:=eM (P:=prog) (src:=67) (dst:=9) Go.Proofs.Tryz.underlying67 Go.Proofs.Tryz.underlying5 Go.Proofs.Tryz.underlying9 d;have e:decide (a=b)=(a==b):=by rw[jT];simp
 clear c d
 go_enter func130,ntmps130
 go_wp2
 go_ret
 exact⟨by rw[e];rfl,rfl⟩
theorem gM{w:World}{a b:List UInt8}(c:cA w v a n)(d:cA w u b k):
  Calls prog 133 #[v,u] w fun e w'=>e=.returned (.int .i64 (Lib.compareBytes a b))/\w=w':=by
 have f:=lh c;have g:=lh d;clear c d
 go_enter func133,ntmps133
 go_wp2
 rw[Go.run_callFunc_extern func174 (by kernel_rfl) (by kernel_rfl) (by kernel_rfl) (e:=Extern.BytealgCompare.compare) (by kernel_rfl),aIa f.o g.o];simp only[Result.andThen];rw[Oper.upon_value]
 go_wp2
 go_ret
 exact⟨rfl,rfl⟩
theorem aA{w w':World}(h:Fr [] w w'){p:Addr}{v:Value}(b:w.cell? p=some v):w'.cell? p=some v:=by
 rw[h.cell (cF w _ b) (by simp)];exact b
theorem cA.of_row{w:World}{b:Nat}{e:TypeId}{v:Value}{bs:List UInt8}{n:Nat}(c:n=bs.length)(h:w.ownsRow b e 1 v n (fA bs))(i:b<=w.heap.size):∃g,cA w v bs g/\b<=g:=by
 subst c;rcases h.2 with ⟨rfl,h0⟩|⟨g,cap,cur,rfl,d,k,c,l,m,ht⟩
 ·have:bs=[]:=tO.1 h0;subst this;exact⟨w.heap.size,cA.nil _ _,i⟩
 ·refine⟨g,⟨_,cap,0,rfl,c,fun _=>⟨rfl,fun j u f=>?_⟩⟩,d⟩;rw[cC];have:=World.ownsRow.cells h (g:=g) rfl j u f
  rwa [Go.Addr.add_mid,cC]at this
theorem tM:(prog.info? 5).map (fun i=>(i.zero,i.size,i.bytes))=some (some (.int .u8 0),1,1):=by kernel_rfl
theorem wJ:(prog.info? 198).map (fun i=>(i.zero,i.size,i.bytes))=some (some (.agg #[.slice none 0 0,.slice none 0 0,.int .i64 0]),3,56):=by kernel_rfl
theorem mE{i:Option TypeInfo}{z:Option Value}{s b:Nat}(h:i.map (fun i=>(i.zero,i.size,i.bytes))=some (z,s,b)):∃t,i=some t/\t.zero=z/\t.size=s/\t.bytes=b:=by
 obtain⟨t,h1,h2⟩:=Option.map_eq_some_iff.1 h;simp only[Prod.mk.injEq]at h2;exact⟨t,h1,h2.1,h2.2.1,h2.2.2⟩
theorem tG{w:World}{v:Value}{bs:List UInt8}{g:Nat}(h:cA w v bs g)(t:bs.length<=1099511627776):
  Calls prog 110 #[v] w fun e w'=>∃p,e=.returned p/\(∃g',cA w' p bs g'/\w.heap.size<=g')/\Fr [] w w':=by
 have H:∀(w:World) (a:Option Addr) (n c:Nat),(binOp .eql 67 (.slice a n c) (.slice none 0 0)).run prog w=.ok (.bool a.isNone) w:=fun w a n c=>Go.Lib.run_eql_slice_nil w _ _ a n c 0 0 Go.Proofs.Tryz.underlying67;obtain⟨A,c,off,rfl,J,s⟩:=h;have r:=lh s;clear s;obtain⟨C,k,D,E,l⟩:=mE tM
 cases A with
 | none=>
  have h0:bs=[]:=by
   cases bs with
   | nil=>rfl
   | cons x L=>have:=(r.o (by simp)).1;cases this
  subst h0
  go_enter func110,ntmps110
  go_wp2
  go_ret
  exact⟨_,rfl,⟨w.heap.size,cA.nil _ _,tA _⟩,Fr.refl _ _⟩
 | some q=>
  have zG:∀j u,(fA bs)[j]? = some u->w.cell? (q.add j)=some u:=fun j u d=>by
   have h0:0<bs.length:=by have:=(tD.1 d).1;rw[kA]at this;omega
   obtain⟨m,b⟩:=r.o h0;injection m with m;subst m;rw[Go.Addr.add_mid];exact b j u d
  have f:∀j u,(fA bs)[j]? = some u->(q.add j).block<w.heap.size:=fun j u d=>cF w _ (zG j u d);have y:=lh zG;have I:=lh f;clear zG f
  go_enter func110,ntmps110
  go_wp2_with ((at_builtin;refine Go.wpList_append_own _ rfl _ _ 67 rfl w.heap.size 5 C (.int .u8 0) 1 1 Go.Proofs.Tryz.underlying67 k D E l rfl (by omega) _ 0 [] rfl ?own q bs.length c (fA bs) rfl (by rw[kA];omega) (fun j u d=>aA ((Fr.refl [] w).alloc _) (y.o j u d)) (fun u F=>yC _ u F) (by unfold maxLen;omega) (by omega) (by simp) ?_))
  case own=>exact Go.World.ownsRow_made w #[] 0 (tA _) (by unfold maxLen;omega) rfl
  intro p w' h1 h2 h3;have i:Fr [] w w':=((Fr.refl [] w).alloc _).grown h2 (fun g G=>.inr (by simp[Value.ownBlock]at G;omega));have z:=lh (cA.of_row (n:=bs.length) (bs:=bs) rfl h1 i.size);have B:=lh i;clear h1 h2 h3 i
  go_wp2
  go_ret
  exact⟨_,rfl,z.o,B.o⟩
def aBl (cs:List Value):Prop:=∀u∈cs,u.oneCell'=true
theorem kJ{w:World}{n g:Nat}{v:Value}{cs:List Value}(h:iH w v n cs g)(G:cs.length=n*3)(h1:aBl cs)(H:n<=65536):
  Calls prog 131 #[v] w fun e w'=>∃f,e=.returned f/\w'.ownsRow w.heap.size 198 3 f n cs/\Fr [] w w':=by
 have E:∀(w:World) (a:Option Addr) (n c:Nat),(binOp .eql 182 (.slice a n c) (.slice none 0 0)).run prog w=.ok (.bool a.isNone) w:=fun w a n c=>Go.Lib.run_eql_slice_nil w _ _ a n c 0 0 Go.Proofs.Tryz.underlying182;obtain⟨z,k,B,C,l⟩:=mE wJ;obtain⟨A,c,off,rfl,F,b⟩:=h;have s:=lh h1
 cases A with
 | none=>
  obtain rfl:n=0:=by
   rcases jR n with h0|h0
   ·exact h0
   ·have:=(b h0).1;cases this
  have d:cs=[]:=tO.1 (by omega);subst d;clear h1 b
  go_enter func131,ntmps131
  go_wp2
  go_ret
  exact⟨_,rfl,vF _ _ _ _,Fr.refl _ _⟩
 | some r=>
  have t:Hid (∀(j:Nat) (u:Value),cs[j]? = some u->w.cell? (r.add j)=some u):=lh fun j u i=>by
   have h0:0<n:=by have:=(tD.1 i).1;omega
   obtain⟨m,p⟩:=b h0;injection m with m;subst m;rw[Go.Addr.add_mid];exact p j u i
  clear h1 b
  go_enter func131,ntmps131
  go_wp2_with (at_builtin;refine Go.wpList_append_own _ rfl _ _ 182 rfl w.heap.size 198 z (.agg #[.slice none 0 0,.slice none 0 0,.int .i64 0]) 3 56 Go.Proofs.Tryz.underlying182 k B C l rfl (by omega) _ 0 [] rfl ?own r n c cs rfl (by omega) (fun j u i=>aA ((Fr.refl [] w).alloc _) (t.o j u i)) s.o (by unfold maxLen;omega) (by omega) (by simp) ?_)
  case own=>exact Go.World.ownsRow_made w #[] 0 (tA _) (by unfold maxLen;omega) rfl
  intro f w' h1 h2 h3;have q:Fr [] w w':=((Fr.refl [] w).alloc _).grown h2 (fun g D=>.inr (by simp[Value.ownBlock]at D;omega));have x:Hid (w'.ownsRow w.heap.size 198 3 f n cs):=lh (by simpa using h1);have y:=lh q;clear h1 h2 h3 q
  go_wp2
  go_ret
  exact⟨_,rfl,x.o,y.o⟩
theorem Fr.grow{S:List Nat}{w w':World}(h:Fr S w w')(os:Array Obj):Fr S w (grow w' os):=
 ⟨h.os,h.tape,h.output,by show w.heap.size<=(w'.heap++os).size;rw[Array.size_append];have:=h.size;omega,fun k b c=>by
  show(w'.heap++os)[k]? = _
  rw[Array.getElem?_append_left (by have:=h.size;omega)];exact h.block k b c⟩
theorem aEK{w:World}{g:Nat}{cb:Array Value}{n:Nat}(p:Nat->Bool)(j:∀args w,(callFunc g args).run prog w=.ok (.enter g args) w)(o:n<=65536)
 (k:∀w':World,Fr [] w w'->∀i,i<n->Calls prog g (#[.int .i64 i]++cb) w' fun e c=>e=.returned (.bool (p i))/\∃q,c=w'.drewN q)
 (l:∀a b,a<=b->b<n->p a=true->p b=true):
  RV 134 #[.int .i64 n,.func (.func g) #[] cb] w (.int .i64 ((List.range n).countP (fun i=>!p i):Nat)):=by
 have h:=Any.sort_Search Tryz.searchA g cb n p w j (by omega) (fun m os i hi=>(k _ (((Fr.refl [] w).drewN m).grow os) i hi).mono fun e w' ⟨d,q,f⟩=>⟨d,q,#[],by rw[f,grow_empty]⟩) l;exact Calls.mono h fun e w' ⟨d,q,os,f⟩=>⟨d,by rw[f];exact((Fr.refl [] w).drewN q).grow os⟩
end
section
open Go.RowKit Go.Sort Go.Shelf Go.Lib
section
variable {P : Program} {w : World}
theorem aS{dT sT ty t:TypeId}{k g off:Nat}{a:Addr}{cur cs:List Value}(q:P.underlying dT=some (.slice T))(p:(P.info? T).map (·.size)=some k)(r:Blk w g t cur)
 (s:cs.length=Nat.min c n*k)(b:∀j v,cs[j]? = some v->w.cell? (a.add j)=some v)(f:off+cs.length<=cur.length)(h1:∀v∈cs,v.oneCell'=true):
  (Builtin.copy_ #[dT,sT] ty #[.slice (some ⟨g,off,none⟩) n m,.slice (some a) c d]).run P w=.ok (goInt (Nat.min c n)) (w.setRow g (splice cur off cs).toArray):=by
 have o:=run_loadCells_list (P:=P) w a cs b;have h:=run_storeCells_at P g off t cs 0 cur.toArray w r (by simpa using f) h1
 cases l:P.info? T with
 | none=>simp[l]at p
 | some i=>
  have hi:i.size=k:=by simpa[l]using p
  rw[s]at o
  simp[Builtin.copy_,Go.run_underlying q,Builtin.lenOf,Builtin.firstCells,sizeOf,typeInfo,l,hi,o,h,splice]
theorem aBm{t ty j:TypeId}{g off n c:Nat}{cur zs:List Value}{z:Value}(l:P.underlying t=some (.slice T))(k:(P.info? T).map (·.zero)=some (some z))(o:Blk w g j cur)(p:0<n)
 (h:(Builtin.zeroCells z.cells n).toList=zs)(b:off+zs.length<=cur.length)(h1:∀v∈zs,v.oneCell'=true):
  (Builtin.clear_ #[t] ty #[.slice (some ⟨g,off,none⟩) n c]).run P w=.ok (.tuple #[]) (w.setRow g (splice cur off zs).toArray):=by
 have d:=run_storeCells_at P g off j zs 0 cur.toArray w o (by simpa using b) h1;obtain⟨m,rfl⟩:∃m,n=m+1:=⟨n-1,by omega⟩
 cases f:P.info? T with
 | none=>simp[f]at k
 | some i=>
  have hi:i.zero=some z:=by simpa[f]using k
  simp[Builtin.clear_,Go.run_underlying l,zeroValue,typeInfo,f,hi,h,d,splice,Result.andThen]
theorem lT{b:Array Oper}{o:Oper}{a:Act}{w:World}{K:Act->World->Prop}{Q:Exit->Act->World->Prop}{E:Prop}
 (h:o.guard=none)(d x:Operand)(dT sT:TypeId)(c:o.op=Op.call { callee:=Callee.builtin Builtin.append,args:=#[d,x],argTypes:=#[dT,sT] })
 (v u:Value)(i:a.eval d=v)(j:a.eval x=u){f:Value}{w':World}(k:(Builtin.append_ #[dT,sT] o.type #[v,u]).run P w=.ok f w')(hK:K (a.put o.dst f) w'):
  if Region.wanted o (yielded b a.tmps)=true then Oper.wp P o a w K Q else E:=by
 have g:Region.wanted o (yielded b a.tmps)=true:=by simp[Region.wanted,h]
 rw[iA g];unfold Oper.wp
 simp[execOp,c,resolve,invoke,builtin,i,j,k,Result.andThen]
 exact hK
theorem qQ{b:Array Oper}{rest:List Oper}{o:Oper}{a:Act}{Q:Exit->Act->World->Prop}(c:o.guard=none)(d:Operand)(t:TypeId)
 (f:o.op=.call { callee:=.builtin .clear,args:=#[d],argTypes:=#[t] })(v:Value)(g:a.eval d=v){w':World}
 (i:(Builtin.clear_ #[t] o.type #[v]).run P w=.ok u w')(h:wpList P b Q rest (a.put o.dst u) w'):wpList P b Q (o::rest) a w:=by
 refine Go.wpList_plain c fun _ hK=>?_;unfold Oper.wp execOp;simp only[f,resolve,invoke,builtin,Go.Sem.run_bind,Go.Sem.run_pure,Go.Result.andThen_ok,List.map_toArray,yJ,List.map_nil,g,i];exact hK _ _ h
end
theorem pG:(prog.info? 198).map (·.size)=some 3:=by kernel_rfl
theorem xO:(prog.info? 198).map (·.zero)=some (some (.agg #[.slice none 0 0,.slice none 0 0,.int .i64 0])):=by kernel_rfl
def zit:List Value:=[.slice none 0 0,.slice none 0 0,.int .i64 0]
theorem zL{cur cs:List Value}{off:Nat}(h:off+cs.length<=cur.length):(splice cur off cs).length=cur.length:=by unfold splice;simp;omega
theorem qU{cur cs:List Value}{off m:Nat}(h:m<=off)(h2:off<=cur.length):(splice cur off cs).take m=cur.take m:=by
 unfold splice;rw[List.take_append_of_le_length (by rw[jC];omega),List.take_take,iT h]
theorem oN{cur cs:List Value}{off:Nat}(h:off<=cur.length):(splice cur off cs).take (off+cs.length)=cur.take off++cs:=by
 unfold splice;rw[<- qF,List.take_left' (by rw[lB,jC];omega)]
theorem fZ{w:World}{b n i:Nat}{v:Value}{cs:List Value}(h:w.ownsRow b 198 3 v n cs)(h1:aBl cs)(hn:n<=65536)(hi:i<n):
  Calls prog 157 #[v,.int .i64 i,.int .i64 ((i:Int)+1)] w fun e w'=>∃v',e=.returned v'/\w'.ownsRow b 198 3 v' (n-1) (cs.take (3*i)++cs.drop (3*i+3))/\v'.ownBlock=v.ownBlock/\Fr v.ownBlock.toList w w':=by
 rcases h.2 with ⟨rfl,h0⟩|⟨g,cap,cur,rfl,hg,Q,G,H,I,ht⟩
 ·omega
 ·obtain⟨m,rfl⟩:∃m,n=m+1:=⟨n-1,by omega⟩;have hl:cs.length=(m+1)*3:=h.1;unfold maxLen at H;have M:Blk w g 198 cur.toList:=Q;have D:=lh M;clear h Q M
  go_enter func157,ntmps157
  obtain⟨ti,J,hz,L,a3⟩:=mE wJ;have f:cur.toList.length=cap*3:=by simpa using I
  have k:∀(j:Nat) (u:Value),(cs.drop (3*i+3))[j]? = some u->cur.toList[(i+1)*3+j]? = some u:=fun j u s=>by
   rw[xJ,<- ht,xG]at s
   split at s
   ·rwa [show 3*i+3+j=(i+1)*3+j by omega]at s
   ·cases s
  have t:∀(W:World) (ty:TypeId) (q:Nat),(m=i∨q=(i+1)*3)->Blk W g 198 cur.toList->(Builtin.append_ #[182,182] ty #[.slice (some ⟨g,0,none⟩) i cap,.slice (some ⟨g,q,none⟩) (m+1-(i+1)) (cap-(i+1))]).run prog W=.ok (.slice (some ⟨g,0,none⟩) m cap) (W.setRow g (splice cur.toList (i*3) (cs.drop (3*i+3))).toArray):=fun W ty q S y=>by
   have:=run_append_room (P:=prog) (w:=W) 182 ty 198 ti Go.Proofs.Tryz.underlying182 J g i cap cur y ⟨g,q,none⟩ (m+1-(i+1)) (cap-(i+1)) (cs.drop (3*i+3)) (by rw[L,mC];omega) (fun j u s=>by
    rcases S with S|rfl
    ·rw[nP (by omega)]at s;cases s
    ·rw[Go.Addr.add_mid];exact y.at_ (k j u s)) (fun u hu=>h1 u (sK hu)) (by omega) (by rw[L,mC];simp at f;omega)
   rw[L,show i+(m+1-(i+1))=m by omega]at this;rw[this];unfold splice;rw[qF]
  obtain⟨c2,l⟩:=nm (splice cur.toList (i*3) (cs.drop (3*i+3)));have d:c2.length=cap*3:=by rw[l,zL (by rw[mC];omega)];exact f
  have p:c2.take (m*3)=cs.take (3*i)++cs.drop (3*i+3):=by
   have e:=oN (cs:=cs.drop (3*i+3)) (show i*3<=cur.toList.length by omega);rw[mC,show i*3+(cs.length-(3*i+3))=m*3 by omega]at e;rw[l,e]
   congr 1
   rw[<- ht,List.take_take,iT (by omega),Nat.mul_comm]
  rw[<- l]at t;have z:(Builtin.zeroCells (Value.agg #[.slice none 0 0,.slice none 0 0,.int .i64 0]).cells 1).toList=zit:=by kernel_rfl
  have A:∀(W:World) (ty:TypeId) (c:Nat),Blk W g 198 c2->(Builtin.clear_ #[182] ty #[.slice (some ⟨g,m*3,none⟩) 1 c]).run prog W=.ok (.tuple #[]) (W.setRow g (splice c2 (m*3) zit).toArray):=fun W ty c y=>
   aBm Go.Proofs.Tryz.underlying182 xO y (by omega) z (by rw[d];show m*3+3<=_;omega) (by simp[zit,Value.oneCell'])
  have r:∀W:World,Fr [g] w W->Blk W g 198 (splice c2 (m*3) zit)->W.ownsRow b 198 3 (.slice (some ⟨g,0,none⟩) m cap) m (cs.take (3*i)++cs.drop (3*i+3)):=fun W _ y=>
   ⟨by rw[lB,jC,mC];omega,.inr ⟨g,cap,(splice c2 (m*3) zit).toArray,rfl,hg,y,by omega,by unfold maxLen;omega,by rw[eT,zL (by rw[d];show m*3+3<=_;omega),d],by
    show(splice c2 (m*3) zit).take (m*3)=_
    rw[qU (tA _) (by omega),p]⟩⟩
  have T:i<=cap:=by omega
  have U:((i:Int)+1).toNat=i+1:=by omega
  have V:(0:Int)<=(i:Int)+1:=by omega
  have X:(i:Int)+1<=(m:Int)+1:=by omega
  have E:prog.follows Departure.mixedOrders=true:=by kernel_rfl
  have Y:m<=m+1:=by omega
  have Z:(i:Int)<=(m:Int):=by omega
  have a0:i<=m:=by omega
  have a1:(m:Int)<=(m:Int)+1:=by omega
  have a2:m+1<=cap:=G;have N:¬ cap=m:=by omega
  have O:=lh t;have F:=lh A;have B:=lh r;have C:Hid (Blk (w.drew.setRow g c2.toArray) g 198 c2):=lh (D.o.drew.row_ c2);clear t k A r p l z d f ht;go_upto_region 5 with fail
  by_cases x:cap=i+1
  case' pos=>
   obtain rfl:m=i:=by omega
   subst x
   go_region_law_o (refine lT rfl _ _ 182 182 rfl _ _ (by simp[Act.eval,Act.put]) (by simp[Act.eval,Act.put]) (O.o _ _ 0 (.inl rfl) D.o.drew) ?_)
  case' neg=>
   go_region_law_o (refine lT rfl _ _ 182 182 rfl _ _ (by simp[Act.eval,Act.put]) (by simp[Act.eval,Act.put]) (O.o _ _ ((i+1)*3) (.inr rfl) D.o.drew) ?_)
  all_goals
   go_wp2_with (refine qQ rfl _ 182 rfl _ rfl (F.o _ _ _ C.o) ?_)
   go_ret
   exact⟨_,rfl,B.o _ (((Fr.refl [g] w).drew.setRow (.inl (by simp)) _).setRow (.inl (by simp)) _) (C.o.row_ _),rfl,by simpa[Value.ownBlock] using(((Fr.refl [g] w).drew.setRow (.inl (by simp)) _).setRow (.inl (by simp)) _)⟩
theorem aDq{W:World}{g q lb cb:Nat}{cur:List Value}(b:Blk W n 198 F)(k:Blk W g 198 cur)(j:n≠g)(m:cur≠[]):
  (callFunc 186 #[.slice (some ⟨n,0,none⟩) 1 1,.slice (some ⟨g,q,none⟩) lb cb]).run prog W=.ok (.value (.bool false)) W:=by
 have l:∀w:World,(Go.sizeOf 198).run prog w=.ok 3 w:=fun w=>by
  obtain⟨i,f,h⟩:=Option.map_eq_some_iff.1 pG
  simp[Go.sizeOf,typeInfo,go_sem,f,h]
 have c:W.shape? n=some (198,F.length):=by
  unfold Blk at b
  simp[World.shape?,b]
 have d:W.shape? g=some (198,cur.length):=by
  unfold Blk at k
  simp[World.shape?,k]
 rw[Go.run_callFunc_extern func186 (by kernel_rfl) (by kernel_rfl) (by kernel_rfl) (e:=Extern.SlicesOverlaps.overlaps #[182,182] #[4]) (by kernel_rfl),
  Lib.run_overlaps_apart W 182 4 198 Go.Proofs.Tryz.underlying182 3 l ⟨n,0,none⟩ ⟨g,q,none⟩ 1 1 lb cb j _ _ _ _ c d (by simpa using m) (b.free 0) (b.free _)]
 rfl
theorem bS{w:World}{b n i:Nat}{v:Value}{cs:List Value}(h:w.ownsRow b 198 3 v n cs)(h1:aBl cs)(hn:n<=65536)(hi:i<=n)(hb:b<=w.heap.size)
 (hx:Blk w k 198 F)(b9:aBl F)(b':F.length=3)(e3:v.ownBlock≠some k):
  Calls prog 155 #[v,.int .i64 i,.slice (some ⟨k,0,none⟩) 1 1] w fun e w'=>∃v',e=.returned v'/\w'.ownsRow b 198 3 v' (n+1) (cs.take (3*i)++(F++cs.drop (3*i)))/\Fr v.ownBlock.toList w w'/\(∀q,v'.ownBlock=some q->v.ownBlock=some q∨w.heap.size<=q):=by
 obtain⟨ti,b8,hz,hs,U⟩:=mE wJ;have c0:prog.follows Departure.mixedOrders=true:=by kernel_rfl
 have HH:=lh h;have HX:=lh hx;have N:=lh b9;have a0:cs.length=n*3:=h.1
 have a1:∀(j:Nat) (u:Value),F[j]? = some u->w.cell? ((⟨k,0,none⟩:Addr).add j)=some u:=fun j u f=>by
  rw[Go.Addr.add_mid,cC];exact hx.at_ f
 have c1:=lh a1;clear hx b9 a1
 by_cases e0:i=n
 ·subst e0;have e:cs.take (3*i)++(F++cs.drop (3*i))=cs++F:=by rw[zF (by omega),nP (by omega),dI]
  rw[e];obtain⟨A,c,rfl,e',d⟩:=sA h;clear h e
  go_enter func155,ntmps155
  go_wp2_with (at_builtin;refine Go.wpList_append_lies _ rfl _ _ 182 rfl b 198 ti (.agg #[.slice none 0 0,.slice none 0 0,.int .i64 0]) 3 56 Go.Proofs.Tryz.underlying182 b8 hz hs U rfl (by omega) _ i cs rfl HH.o ⟨k,0,none⟩ 1 1 F rfl (by omega) c1.o N.o (by omega) (by unfold maxLen;omega) (by omega) hb w.heap.size rfl ?_)
  all_goals
   intro g cap w' k1 k2 k3 k4;have HR:=lh k1
   have HO:Hid (∀q,(Value.slice (some ⟨g,0,none⟩) (i+1) cap).ownBlock=some q->(Value.slice A i c).ownBlock=some q∨w.heap.size<=q):=lh fun q Y=>by
    obtain rfl:g=q:=by simpa[Value.ownBlock]using Y
    rcases k3 with k3|k3
    ·exact .inl (by first|(rw[<- k3];done)|(cases A<;>simp_all [Value.ownBlock]))
    ·exact .inr (by omega)
   have HF:Hid (Fr (Value.slice A i c).ownBlock.toList w w'):=lh ((Fr.refl _ w).grown k2 (fun g hg=>.inl (by
    have c4:(Value.slice A i c).ownBlock=some g:=by first|exact hg|(rw[<- hg];cases A<;>rfl)
    rw[c4];simp)))
   clear k1 k2 k3 k4
   go_wp2
   go_ret
   exact⟨_,rfl,HR.o,HF.o,HO.o⟩
 ·rcases h.2 with ⟨rfl,h0⟩|⟨g,cap,cur,rfl,hg,hh,f0,d',V,ht⟩
  ·omega
  ·unfold maxLen at d';have hB:Blk w g 198 cur.toList:=hh;have a2:k≠g:=fun e=>e3 (by rw[e];rfl);have p:cur.toList.length=cap*3:=by simpa using V
   have HB:=lh hB;have e7:=hB.lt
   have x:∀(j:Nat) (u:Value),(cs.drop (3*i))[j]? = some u->cur.toList[i*3+j]? = some u:=fun j u f=>by
    rw[xJ,<- ht,xG]at f
    split at f
    ·rwa [show 3*i+j=i*3+j by omega]at f
    ·cases f
   have O:∀q,q<=n*3->cur.toList.take q=cs.take q:=fun q Y=>by rw[<- ht,List.take_take,iT Y]
   clear h hh hB
   by_cases Z:n+1<=cap
   ·-- in place
    have t:∀(W:World) (ty:TypeId) (sc dc:Nat),Blk W g 198 cur.toList->(Builtin.copy_ #[182,182] ty #[.slice (some ⟨g,(i+1)*3,none⟩) (n-i) dc,.slice (some ⟨g,i*3,none⟩) (n+1-i) sc]).run prog W=.ok (goInt (Nat.min (n+1-i) (n-i))) (W.setRow g (splice cur.toList ((i+1)*3) (cs.drop (3*i))).toArray):=fun W ty sc dc hW=>
     aS Go.Proofs.Tryz.underlying182 pG hW (by show _=min _ _*3;rw[mC,Nat.min_eq_right (by omega)];omega) (fun j u f=>by rw[Go.Addr.add_mid];exact hW.at_ (x j u f)) (by rw[mC];omega) (fun u hu=>h1 u (sK hu))
    obtain⟨c2,d⟩:=nm (splice cur.toList ((i+1)*3) (cs.drop (3*i)));have r:c2.length=cap*3:=by rw[d,zL (by rw[mC];omega)];exact p
    have a3:c2.take ((n+1)*3)=cur.toList.take ((i+1)*3)++cs.drop (3*i):=by
     have e:=oN (cs:=cs.drop (3*i)) (show(i+1)*3<=cur.toList.length by omega);rw[mC,show(i+1)*3+(cs.length-3*i)=(n+1)*3 by omega]at e;rw[d,e]
    rw[<- d]at t
    have z:∀(W:World) (ty:TypeId) (l dc:Nat),1<=l->Blk W g 198 c2->Blk W k 198 F->(Builtin.copy_ #[182,182] ty #[.slice (some ⟨g,i*3,none⟩) l dc,.slice (some ⟨k,0,none⟩) 1 1]).run prog W=.ok (goInt (Nat.min 1 l)) (W.setRow g (splice c2 (i*3) F).toArray):=fun W ty l dc hl hW hV=>
     aS Go.Proofs.Tryz.underlying182 pG hW (by show _=min _ _*3;rw[iT hl];omega) (fun j u f=>by rw[Go.Addr.add_mid,cC];exact hV.at_ f) (by omega) N.o
    have s:∀W:World,Blk W g 198 (splice c2 (i*3) F)->W.ownsRow b 198 3 (.slice (some ⟨g,0,none⟩) (n+1) cap) (n+1) (cs.take (3*i)++(F++cs.drop (3*i))):=fun W hW=>
     ⟨by rw[lB,lB,jC,mC];omega,.inr ⟨g,cap,(splice c2 (i*3) F).toArray,rfl,hg,hW,Z,by unfold maxLen;omega,by rw[eT,zL (by omega),r],by
      show(splice c2 (i*3) F).take ((n+1)*3)=_
      have e1:c2.take (i*3)=cs.take (3*i):=by rw[d,qU (by omega) (by omega),O _ (by omega),Nat.mul_comm]
      have e2:c2.drop (i*3+F.length)=cs.drop (3*i)++cur.toList.drop ((i+1)*3+(cs.drop (3*i)).length):=by
       rw[d,b'];unfold splice;rw[List.drop_left' (by rw[jC];omega)]
      unfold splice;rw[e1,e2,<- qF,<- qF,qF (List.take (3*i) cs) F,List.take_left' (by rw[lB,lB,jC,mC];omega)]⟩⟩
    have c5:=lh t;have c6:=lh z;have B:=lh s;have a4:Hid (Blk (w.drew.setRow g c2.toArray) g 198 c2):=lh (HB.o.drew.row_ c2);have c7:Hid (Blk (w.drew.setRow g c2.toArray) k 198 F):=lh (HX.o.drew.row_far a2 _);have c8:∀lb cb q,(callFunc 186 #[.slice (some ⟨k,0,none⟩) 1 1,.slice (some ⟨g,q,none⟩) lb cb]).run prog w=.ok (.value (.bool false)) w:=fun lb cb q=>aDq HX.o HB.o a2 (fun e=>by rw[e]at p;simp at p;omega);have c9:=wi i (by omega)
    have c':(0:Int)<=(i:Int)+1:=by omega
    have d0:((i:Int)+1).toNat=i+1:=by omega
    have d1:(i:Int)<=(n:Int):=by omega
    have d2:i<=n:=hi;have d3:¬ (cap=i+1):=by omega
    have d4:¬ (cap=i):=by omega
    have d5:(i:Int)<=(n:Int)+1:=by omega
    have e8:(n:Int)+1<=(cap:Int):=by omega
    have e9:(0:Int)<=(n:Int)+1:=by omega
    have e4:((n:Int)+1).toNat=n+1:=by omega
    have e5:¬ ((cap:Int)<(n:Int)+1):=by omega
    have a5:¬ ((i:Int)=(n:Int)):=by omega
    have a6:i<=n+1:=by omega
    clear t z s x O a3 d r p ht V a0
    go_enter func155,ntmps155
    go_wp2_with (simp only[c8])
    go_region_law_o (refine step_copy_runI rfl _ _ 182 182 rfl _ _ (by simp[Act.eval,Act.put]) (by simp[Act.eval,Act.put]) (c5.o _ _ (cap-i) (cap-(i+1)) HB.o.drew) ?_)
    go_wp2_with (refine wpList_copy_runI _ rfl _ _ 182 182 rfl _ _ rfl rfl (c6.o _ _ (n+1-i) (cap-i) (by omega) a4.o c7.o) ?_)
    go_ret
    exact⟨_,rfl,B.o _ (a4.o.row_ _),by simpa[Value.ownBlock] using(((Fr.refl [g] w).drew.setRow (.inl (by simp)) _).setRow (.inl (by simp)) _),fun q Y=>.inl Y⟩
   ·obtain rfl:cap=n:=by omega
    have C:(Builtin.firstCells ti.size i (.slice (some ⟨g,0,none⟩) i cap)).run prog w.drew=.ok (cs.take (3*i)).toArray w.drew:=by
     rw[hs];refine run_firstCells_some w.drew 3 i ⟨g,0,none⟩ i cap (cs.take (3*i)) (by rw[jC];omega) (fun j u f=>?_);rw[Go.Addr.add_mid,cC];rw[xG]at f
     split at f
     ·rw[<- ht,xG]at f
      split at f
      ·exact HB.o.drew.at_ f
      ·cases f
     ·cases f
    obtain⟨G,hG⟩:=nm (grownCap w (cap+1) cap 198);obtain⟨m,y⟩:∃m:Array Value,m=(cs.take (3*i)).toArray++Builtin.zeroCells (Value.agg #[.slice none 0 0,.slice none 0 0,.int .i64 0]).cells (cap+1-i)++Builtin.zeroCells (Value.agg #[.slice none 0 0,.slice none 0 0,.int .i64 0]).cells (G-(cap+1)):=⟨_,rfl⟩;have a7:(cap:Int)+1-(i:Int)=((cap+1-i:Nat):Int):=by omega
    have Q:∀ty:TypeId,(Builtin.append_ #[182,3] ty #[.slice (some ⟨g,0,none⟩) i cap,.int .i64 ((cap:Int)+1-(i:Int))]).run prog w=.ok (.slice (some ⟨w.heap.size,0,none⟩) (cap+1) G) (w.drew.alloc (.cells m 198)):=fun ty=>by
     have a8:=Lib.run_append_grow_zeros (P:=prog) w 182 3 ty 198 ti (.agg #[.slice none 0 0,.slice none 0 0,.int .i64 0]) .i64 .i64 Go.Proofs.Tryz.underlying182 Go.Proofs.Tryz.underlying3 b8 hz (some ⟨g,0,none⟩) i cap (cs.take (3*i)) C (cap+1-i) (by omega) (by omega) (by omega) (by omega) (by rw[U];omega) (by rw[U];exact growslice_fits (by omega) (by omega));rw[show i+(cap+1-i)=cap+1 by omega,<- hG,<- y]at a8;rw[a7];exact a8
    have d6:cap+1<=G:=by rw[hG];exact grownCap_ge w _ _ _
    have a9:G<=maxLen:=by rw[hG];exact grownCap_le_maxLen w _ _ _ (by unfold maxLen;omega)
    have hR:m.toList.length=G*3:=by
     rw[y];simp only[Array.length_toList,Array.size_append,eT,jC,size_zeroCells]
     show _+_*3+_*3=_
     omega
    have a':m.toList.take (i*3)=cs.take (3*i):=by
     rw[y,Array.toList_append,Array.toList_append,qF,List.take_left' (by simp;omega)]
    obtain⟨M,D⟩:=nm (w.drew.alloc (.cells m 198));have S:Blk M w.heap.size 198 m.toList:=by rw[D];exact Blk.new w.drew _ m.toList
    have H:Fr [] w M:=by rw[D];exact((Fr.refl [] w).drew).alloc _
    have b0:Blk M k 198 F:=HX.o.fr H;have b1:Blk M g 198 cur.toList:=HB.o.fr H;have d7:=HX.o.lt;have b2:M.heap.size=w.heap.size+1:=by rw[D];simp
    rw[<- D]at Q;obtain⟨c2,d⟩:=nm (splice m.toList (i*3) F);obtain⟨c3,I⟩:=nm (splice c2 ((i+1)*3) (cs.drop (3*i)));have r:c2.length=G*3:=by rw[d,zL (by omega),hR]
    have J:c3.length=G*3:=by rw[I,zL (by rw[mC];omega),r]
    have L:c3.take ((cap+1)*3)=cs.take (3*i)++(F++cs.drop (3*i)):=by
     have e:=oN (cs:=cs.drop (3*i)) (show(i+1)*3<=c2.length by omega);rw[mC,show(i+1)*3+(cs.length-3*i)=(cap+1)*3 by omega]at e;have e2:=oN (cs:=F) (show i*3<=m.toList.length by omega);rw[b',show i*3+3=(i+1)*3 by omega,a']at e2;rw[I,e,d,e2,qF]
    have t:∀(ty:TypeId),(Builtin.copy_ #[182,182] ty #[.slice (some ⟨w.heap.size,i*3,none⟩) (cap+1-i) (G-i),.slice (some ⟨k,0,none⟩) 1 1]).run prog M=.ok (goInt (Nat.min 1 (cap+1-i))) (M.setRow w.heap.size c2.toArray):=fun ty=>by
     rw[d];exact aS Go.Proofs.Tryz.underlying182 pG S (by show _=min _ _*3;rw[iT (by omega)];omega) (fun j u f=>by rw[Go.Addr.add_mid,cC];exact b0.at_ f) (by omega) N.o
    obtain⟨X,E⟩:=nm (M.setRow w.heap.size c2.toArray);have T:Blk X w.heap.size 198 c2:=by rw[E];exact S.row_ c2
    have b3:Blk X g 198 cur.toList:=by rw[E];exact b1.row_far (by omega) _
    have b4:Fr [] w X:=by rw[E];exact H.setRow (.inr (tA _)) _
    rw[<- E]at t
    have z:∀(ty:TypeId),(Builtin.copy_ #[182,182] ty #[.slice (some ⟨w.heap.size,(i+1)*3,none⟩) (cap-i) (G-(i+1)),.slice (some ⟨g,i*3,none⟩) (cap-i) (cap-i)]).run prog X.drew=.ok (goInt (Nat.min (cap-i) (cap-i))) (X.drew.setRow w.heap.size c3.toArray):=fun ty=>by
     rw[I];exact aS Go.Proofs.Tryz.underlying182 pG T.drew (by show _=min _ _*3;rw[mC,Nat.min_self];omega) (fun j u f=>by rw[Go.Addr.add_mid];exact b3.drew.at_ (x j u f)) (by rw[mC];omega) (fun u hu=>h1 u (sK hu))
    have s:(X.drew.setRow w.heap.size c3.toArray).ownsRow b 198 3 (.slice (some ⟨w.heap.size,0,none⟩) (cap+1) G) (cap+1) (cs.take (3*i)++(F++cs.drop (3*i))):=
     ⟨by rw[lB,lB,jC,mC];omega,.inr ⟨w.heap.size,G,c3.toArray,rfl,hb,T.drew.row_ c3,d6,a9,by rw[eT,J],L⟩⟩
    have b5:Fr [] w (X.drew.setRow w.heap.size c3.toArray):=b4.drew.setRow (.inr (tA _)) _;have b6:=lh t;have b7:=lh z;have d8:=lh Q;have B:=lh s;have d9:=lh b5;unfold maxLen at a9;have c9:=wi i (by omega)
    have c':(0:Int)<=(i:Int)+1:=by omega
    have d0:((i:Int)+1).toNat=i+1:=by omega
    have d1:(i:Int)<=(cap:Int):=by omega
    have d2:i<=cap:=hi;have d3:¬ (G=i+1):=by omega
    have d4:¬ (G=i):=by omega
    have e6:¬ (cap=i):=by omega
    have d5:(i:Int)<=(cap:Int)+1:=by omega
    have a5:¬ ((i:Int)=(cap:Int)):=by omega
    have a6:i<=cap+1:=by omega
    clear t z Q s b5 C x O p ht V a0 a7 hG y hR a' S H b0 b1 d7 b2 T b3 b4 d I r J L D E
    go_enter func155,ntmps155
    go_wp2_with (first
     | (at_builtin;refine Lib.wpList_append_run _ rfl _ _ _ _ rfl _ _ rfl rfl _ _ (d8.o _) ?_)
     | (refine wpList_copy_runI _ rfl _ _ 182 182 rfl _ _ rfl rfl (b6.o _) ?_))
    go_region_law_o (refine step_copy_runI rfl _ _ 182 182 rfl _ _ (by simp[Act.eval,Act.put]) (by simp[Act.eval,Act.put]) (b7.o _) ?_)
    go_wp2
    go_ret
    exact⟨_,rfl,B.o,d9.o.mono (by simp),fun q Y=>.inr (zP (by simpa[Value.ownBlock]using Y))⟩
end
section
open Go.RowKit Go.Sort Go.Shelf
theorem cA.frD{S:List Nat}{w w':World}{v:Value}{bs:List UInt8}{g:Nat}(h:cA w v bs g)(m:Fr S w w')(n:g∈S->w.heap.size<=g):cA w' v bs g:=by
 by_cases d:g∈S
 ·have f:=n d;obtain⟨A,c,off,i,j,k⟩:=h;refine⟨A,c,off,i,j,fun h0=>?_⟩
  exfalso
  obtain⟨_,b⟩:=k h0;obtain⟨u,l⟩:∃u,(fA bs)[0]? = some u:=gx (by rw[kA];exact h0);have:=cF w _ (b 0 u l)
  simp only at this
  omega
 ·exact h.fr m d
def ItC (D:Nat->Prop) (w:World) (x:It) (kv vv av:Value):Prop:=(∃g,cA w kv x.key g/\D g)/\(∃g,cA w vv x.v g/\D g)/\av=.int .i64 (x.at_:Int)
def jF (D:Nat->Prop) (w:World):List It->List Value->Prop
 | [],[]=>True
 | x::l,kv::vv::av::cs=>ItC D w x kv vv av/\jF D w l cs
 | _,_=>False
def dA (n:Nd):Int:=if n.lf then 1 else 2
def NdV (D:Nat->Prop) (w:World) (base:Nat) (v:Value) (n:Nd):Prop:=
 ∃sv cs,v=.agg #[.int .i64 (dA n),.int .i64 (n.first:Int),sv]/\w.ownsRow base 198 3 sv n.l.length cs/\jF (fun q=>D q/\sv.ownBlock≠some q) w n.l cs/\∀g,sv.ownBlock=some g->D g
section
variable {D D' : Nat -> Prop} {w w' : World}
theorem ItC.fr{S:List Nat}{x:It}{kv vv av:Value}(h:ItC D w x kv vv av)(i:Fr S w w')(j:∀g,D g->g∈S->w.heap.size<=g:=by simp):ItC D w' x kv vv av:=by
 obtain⟨⟨b,h1,c⟩,⟨d,h2,f⟩,h3⟩:=h;exact⟨⟨b,h1.frD i (j b c),c⟩,⟨d,h2.frD i (j d f),f⟩,h3⟩
theorem ItC.weak{x:It}{kv vv av:Value}(h:ItC D w x kv vv av)(d:∀g,D g->D' g):ItC D' w x kv vv av:=by
 obtain⟨⟨b,h1,f⟩,⟨c,h2,i⟩,h3⟩:=h;exact⟨⟨b,h1,d b f⟩,⟨c,h2,d c i⟩,h3⟩
theorem ItC.one{x:It}{kv vv av:Value}(h:ItC D w x kv vv av):aBl [kv,vv,av]:=by
 obtain⟨⟨c,⟨_,_,_,rfl,_⟩,_⟩,⟨d,⟨_,_,_,rfl,_⟩,_⟩,rfl⟩:=h;intro u b;simp only[kB,yG,aG]at b;rcases b with rfl|rfl|rfl<;>rfl
theorem jF.fr{S:List Nat}(b:Fr S w w')(c:∀g,D g->g∈S->w.heap.size<=g:=by simp):∀ {l:List It} {cs:List Value},jF D w l cs->jF D w' l cs
 | [],[],_=>trivial
 | _x::_l,_kv::_vv::_av::_cs,h=>⟨h.1.fr b c,jF.fr b c h.2⟩
 | [],_::_,h=>h.elim
 | _::_,[],h=>h.elim
 | _::_,[_],h=>h.elim
 | _::_,[_,_],h=>h.elim
theorem jF.weak(b:∀g,D g->D' g):∀ {l:List It} {cs:List Value},jF D w l cs->jF D' w l cs
 | [],[],_=>trivial
 | _x::_l,_kv::_vv::_av::_cs,h=>⟨h.1.weak b,jF.weak b h.2⟩
 | [],_::_,h=>h.elim
 | _::_,[],h=>h.elim
 | _::_,[_],h=>h.elim
 | _::_,[_,_],h=>h.elim
theorem jF.len:∀ {l:List It} {cs:List Value},jF D w l cs->cs.length=l.length*3
 | [],[],_=>rfl
 | x::l,kv::vv::av::cs,h=>by have:=jF.len h.2;simp only[gD];omega
 | [],_::_,h=>h.elim
 | _::_,[],h=>h.elim
 | _::_,[_],h=>h.elim
 | _::_,[_,_],h=>h.elim
theorem jF.one:∀ {l:List It} {cs:List Value},jF D w l cs->aBl cs
 | [],[],_=>fun u b=>by cases b
 | x::l,kv::vv::av::cs,h=>fun u b=>by
  have h1:=h.1.one;have h2:=jF.one h.2;rcases kB.1 b with rfl|b
  ·exact h1 _ (by simp)
  ·rcases kB.1 b with rfl|b
   ·exact h1 _ (by simp)
   ·rcases kB.1 b with rfl|b
    ·exact h1 _ (by simp)
    ·exact h2 u b
 | [],_::_,h=>h.elim
 | _::_,[],h=>h.elim
 | _::_,[_],h=>h.elim
 | _::_,[_,_],h=>h.elim
theorem jF.append:∀ {l l2:List It} {cs cs2:List Value},jF D w l cs->jF D w l2 cs2->jF D w (l++l2) (cs++cs2)
 | [],_,[],_,_,h2=>h2
 | _x::_l,_,_kv::_vv::_av::_cs,_,h,h2=>⟨h.1,jF.append h.2 h2⟩
 | [],_,_::_,_,h,_=>h.elim
 | _::_,_,[],_,h,_=>h.elim
 | _::_,_,[_],_,h,_=>h.elim
 | _::_,_,[_,_],_,h,_=>h.elim
theorem jF.take:∀(k:Nat) {l:List It} {cs:List Value},jF D w l cs->jF D w (l.take k) (cs.take (3*k))/\jF D w (l.drop k) (cs.drop (3*k))
 | 0,_,_,h=>⟨by simp[jF],h⟩
 | k+1,[],[],_=>by simp[jF]
 | k+1,x::l,kv::vv::av::cs,h=>by
  obtain⟨h1,h2⟩:=jF.take k h.2;rw[show 3*(k+1)=3*k+1+1+1 by omega];simp only[List.take_succ_cons,List.drop_succ_cons];exact⟨⟨h.1,h1⟩,h2⟩
 | _,[],_::_,h=>h.elim
 | _,_::_,[],h=>h.elim
 | _,_::_,[_],h=>h.elim
 | _,_::_,[_,_],h=>h.elim
theorem jF.at_:∀ {l:List It} {cs:List Value} {k:Nat} {x:It},jF D w l cs->l[k]? = some x->∃kv vv av,cs[k*3]? = some kv/\cs[k*3+1]? = some vv/\cs[k*3+2]? = some av/\ItC D w x kv vv av
 | x::l,kv::vv::av::cs,0,y,h,hk=>by
  simp only[iR,vI]at hk;subst hk;exact⟨kv,vv,av,rfl,rfl,rfl,h.1⟩
 | x::l,kv::vv::av::cs,k+1,y,h,hk=>by
  obtain⟨a,b,c,h1,h2,h3,d⟩:=jF.at_ (k:=k) h.2 (by simpa using hk);refine⟨a,b,c,?_,?_,?_,d⟩
  ·rw[show(k+1)*3=k*3+1+1+1 by omega];simpa using h1
  ·rw[show(k+1)*3+1=k*3+1+1+1+1 by omega];simpa using h2
  ·rw[show(k+1)*3+2=k*3+2+1+1+1 by omega];simpa using h3
 | [],[],_,_,_,hk=>by simp at hk
 | [],_::_,_,_,h,_=>h.elim
 | _::_,[],_,_,h,_=>h.elim
 | _::_,[_],_,_,h,_=>h.elim
 | _::_,[_,_],_,_,h,_=>h.elim
theorem NdV.fr{S:List Nat}{base:Nat}{v:Value}{n:Nd}(h:NdV D w base v n)(d:Fr S w w')(f:∀g,D g->g∈S->w.heap.size<=g:=by simp):NdV D w' base v n:=by
 obtain⟨sv,cs,h1,h2,h3,c⟩:=h;refine⟨sv,cs,h1,iB h2 d (fun g b i=>?_),h3.fr d (fun g b=>f g b.1),c⟩;have:=sF h2 g b;have:=f g (c g b) i;omega
theorem NdV.weak{base:Nat}{v:Value}{n:Nd}(h:NdV D w base v n)(c:∀g,D g->D' g):NdV D' w base v n:=by
 obtain⟨sv,cs,h1,h2,h3,d⟩:=h;exact⟨sv,cs,h1,h2,h3.weak (fun g b=>⟨c g b.1,b.2⟩),fun g b=>c g (d g b)⟩
theorem cA.re{v:Value}{bs:List UInt8}(h:∃g,cA w v bs g/\D g)(o:∀q,D q->q<w.heap.size->D' q)(h0:∃q,D' q):∃g,cA w v bs g/\D' g:=by
 obtain⟨g,i,j⟩:=h;obtain⟨A,c,off,k,l,b⟩:=id i
 by_cases f:0<bs.length
 ·obtain⟨_,d⟩:=b f;obtain⟨u,m⟩:∃u,(fA bs)[0]? = some u:=gx (by rw[kA];exact f);have:=cF w _ (d 0 u m);exact⟨g,i,o g j this⟩
 ·obtain⟨q,n⟩:=h0;exact⟨q,⟨A,c,off,k,l,fun h=>absurd h f⟩,n⟩
theorem ItC.re{x:It}{kv vv av:Value}(h:ItC D w x kv vv av)(b:∀q,D q->q<w.heap.size->D' q)(h0:∃q,D' q):ItC D' w x kv vv av:=⟨cA.re h.1 b h0,cA.re h.2.1 b h0,h.2.2⟩
theorem jF.re(b:∀q,D q->q<w.heap.size->D' q)(h0:∃q,D' q):∀ {l:List It} {cs:List Value},jF D w l cs->jF D' w l cs
 | [],[],_=>trivial
 | _x::_l,_kv::_vv::_av::_cs,h=>⟨h.1.re b h0,jF.re b h0 h.2⟩
 | [],_::_,h=>h.elim
 | _::_,[],h=>h.elim
 | _::_,[_],h=>h.elim
 | _::_,[_,_],h=>h.elim
theorem wC{b b':Nat}{e:TypeId}{size n:Nat}{v:Value}(h:w.ownsRow b e size v n F)(c:∀g,v.ownBlock=some g->b'<=g):w.ownsRow b' e size v n F:=by
 refine⟨h.1,?_⟩;rcases h.2 with h2|⟨g,cap,cur,rfl,_,r⟩
 ·exact .inl h2
 ·exact .inr ⟨g,cap,cur,rfl,c g rfl,r⟩
end
theorem lJ{w:World}{v:Value}{bs:List UInt8}{g:Nat}(h:cA w v bs g)(h2:2<=bs.length):
  Calls prog 105 #[v] w fun e w'=>e=.returned (.int .i64 ((r16 bs:Nat):Int))/\∃m,w'=w.drewN m:=by
 obtain⟨A,c,off,rfl,s,k⟩:=h;obtain⟨rfl,b⟩:=k (by omega)
 match bs,h2 with
 | u::v::r,_=>
  have c0:w.cell? ⟨g,off,none⟩=some (.int .u8 (u.toNat:Int)):=b 0 (B8 u) rfl;have c1:w.cell? ⟨g,off+1,none⟩=some (.int .u8 (v.toNat:Int)):=b 1 (B8 v) rfl;have f:u.toNat<256:=u.toNat_lt;have i:v.toNat<256:=v.toNat_lt;have d:=aJM u.toNat v.toNat f i;have j:=lh d;have l:2<=(u::v::r).length:=by simp
  generalize (u::v::r).length=n at l s⊢;have p:(0:Int)<(n:Int):=by omega
  have q:(1:Int)<(n:Int):=by omega
  clear d k b
  go_enter func105,ntmps105
  go_wp2
  go_quiet (fail)
  go_wp2
  go_ret
  refine⟨?_,_,rfl⟩
  show Ending.returned (.int .i64 (bits .or .i64 ((u.toNat:Int)*256) (v.toNat:Int)))=_
  rw[j.o]
  rfl
def RdI (w:World) (rb g:Nat) (rest:List UInt8):Prop:=
 ∃off c,Blk w rb 257 [.slice (some ⟨g,off,none⟩) rest.length c,.bool false]/\rest.length<=c/\∀(j:Nat) (u:Value),(fA rest)[j]? = some u->w.cell? ⟨g,off+j,none⟩=some u
theorem eS{w:World}{g k:Nat}{rest:List UInt8}(h:RdI w m g rest)(H:k<=rest.length)(I:g≠m):
  Calls prog 172 #[.pointer (some ⟨m,0,none⟩),.int .i64 (k:Int)] w fun e w'=>∃v,e=.returned v/\cA w' v (rest.take k) g/\RdI w' m g (rest.drop k)/\Fr [m] w w'/\w'.heap.size=w.heap.size:=by
 obtain⟨off,c,l,G,f⟩:=h;have c0:=l.at_ (i:=0) rfl;have c1:=l.at_ (i:=1) rfl;have z:=l.free;have A:=l.lt;have B:=lh l;have x:=lh f;clear l f;obtain⟨n,q⟩:=nm (rest.length);rw[<- q]at G H c0
 have fin:∀b c',(n=k∨b=off+k)->n-k<=c'->cA (w.setCell ⟨m,0,none⟩ (.slice (some ⟨g,b,none⟩) (n-k) c')) (.slice (some ⟨g,off,none⟩) k c) (rest.take k) g/\RdI (w.setCell ⟨m,0,none⟩ (.slice (some ⟨g,b,none⟩) (n-k) c')) m g (rest.drop k):=fun b c' y h1=>by
  have C:Fr [m] w (w.setCell ⟨m,0,none⟩ (.slice (some ⟨g,b,none⟩) (n-k) c')):=(Fr.refl [m] w).setCell (.inl (by simp)) _
  have keep:∀(j:Nat) (u:Value),(fA rest)[j]? = some u->(w.setCell ⟨m,0,none⟩ (.slice (some ⟨g,b,none⟩) (n-k) c')).cell? ⟨g,off+j,none⟩=some u:=fun j u d=>by
   rw[C.cell (cF w _ (x.o j u d)) (by simpa using I)];exact x.o j u d
  refine⟨⟨_,c,off,by rw[jC,iT (by omega)],by rw[jC];omega,fun _=>⟨rfl,fun j u d=>keep j u ?_⟩⟩,b,c',?_,by rw[mC];omega,fun j u d=>?_⟩
  ·rw[fA,List.map_take]at d;rw[xG]at d
   split at d
   ·exact d
   ·cases d
  ·have:=B.o.set_ 0 (.slice (some ⟨g,b,none⟩) (n-k) c');rw[mC,<- q];exact this
  ·rcases y with y|rfl
   ·rw[nP (by omega)]at d;cases d
   ·rw[fA,List.map_drop,xJ]at d;rw[rT];exact keep (k+j) u d
 have p:=lh fin;have D:¬ ((n:Int)<(k:Int)):=by omega
 have E:(k:Int)<=(c:Int):=by omega
 have F:(k:Int)<=(n:Int):=by omega
 clear fin
 by_cases t:c=k
 ·obtain rfl:n=k:=by omega
  subst t
  go_enter func172,ntmps172
  go_wp2
  go_ret
  obtain⟨r,s⟩:=p.o off 0 (.inl (by first|rfl|trivial)) (by omega);rw[xW]at r s;subst q;exact⟨_,rfl,by simpa using r,by simpa using s,(Fr.refl [m] w).setCell (.inl (by simp)) _,by simp[World.setCell]⟩
 ·go_enter func172,ntmps172
  go_wp2
  go_ret
  obtain⟨r,s⟩:=p.o (off+k) (c-k) (.inr rfl) (by omega);subst q;exact⟨_,rfl,r,s,(Fr.refl [m] w).setCell (.inl (by simp)) _,by simp[World.setCell]⟩
theorem RdI.fr{S:List Nat}{w w':World}{g:Nat}{rest:List UInt8}(h:RdI w n g rest)(f:Fr S w w')(h1:n∉S)(h2:g∉S):RdI w' n g rest:=by
 obtain⟨off,c,i,k,b⟩:=h;exact⟨off,c,i.fr f h1,k,fun j u d=>by rw[f.cell (cF w _ (b j u d)) h2];exact b j u d⟩
theorem aGB{w:World}{g:Nat}{x:UInt8}{rest:List UInt8}(h:RdI w n g (x::rest))(t:g≠n):
  Calls prog 171 #[.pointer (some ⟨n,0,none⟩)] w fun e w'=>e=.returned (.int .i64 (x.toNat:Int))/\RdI w' n g rest/\Fr [n] w w'/\w'.heap.size=w.heap.size:=by
 have i:=lh (eS (k:=1) h (by simp) t);clear h;refine gA fun R s=>?_
 go_enter func171,ntmps171
 go_wp2_with fail;refine i.o.mono ?_;rintro e w1 ⟨v,rfl,q,l,m,p⟩;obtain⟨A,c,off,rfl,r,b⟩:=q;obtain⟨rfl,d⟩:=b (by simp);have j:=d 0 (B8 x) rfl;rw[aAa]at j;have f:Hid (R (.returned (.int .i64 (x.toNat:Int))) w1):=lh (s.o _ _ ⟨rfl,l,m,p⟩);have u:x.toNat<256:=x.toNat_lt;unfold B8 at j;rw[show(List.take 1 (x::rest)).length=1 from rfl]at r⊢;clear b d l m p i
 go_wp2
 exact f.o
section
variable {P : Program} {ops : Array Oper} {rest : List Oper} {o : Oper} {a : Act} {w : World} {Q : Exit -> Act -> World -> Prop}
theorem iO{g:Nat}{t':TypeId}{cs:List Value}{d:TypeDesc}(b:o.guard=none)(t:TypeId)(x:Operand)(f:o.op=.load t x)(i:a.eval x=.pointer (some ⟨g,0,none⟩))(j:Blk w g t' cs)
 (k:P.underlying t=some d)(l:d.isRow=true)(hi:(P.info? t).map (·.size)=some cs.length)(h:wpList P ops Q rest (a.put o.dst (.agg cs.toArray)) w):wpList P ops Q (o::rest) a w:=by
 have c:=Go.run_loadVar_row (P:=P) w g t' t cs.toArray (0,0) d j k (by cases d<;>simp_all) (by simpa using hi);refine Go.wpList_plain b fun K hK=>?_;unfold Oper.wp
 simp[execOp,f,i,Instr.loadAt,Instr.sureAddr,c,Result.andThen]
 exact hK _ _ h
theorem oD{g:Nat}{t':TypeId}(b:o.guard=none)(t:TypeId)(x y:Operand)(d:o.op=.store t x y)(cs:List Value)
 (f:a.eval x=.pointer (some ⟨g,0,none⟩))(i:a.eval y=.agg cs.toArray)(c:Blk w g t' F)
 (hi:(P.info? t).map (·.size)=some cs.length)(j:F.length=cs.length)(h1:∀v∈cs,v.oneCell'=true)
 (h:∀w1,Blk w1 g t' cs->Fr [g] w w1->w1.heap.size=w.heap.size->wpList P ops Q rest (a.put o.dst undef) w1):wpList P ops Q (o::rest) a w:=by
 refine Go.wpList_plain b fun K hK=>xX t x y d cs f i c hi j h1 (hK _ _ (h _ (c.row_ cs) ((Fr.refl _ _).setRow (by simp) _) (by simp[World.setRow])))
end
theorem aQx{w:World}{g:Nat}{lf:Bool}{x:It}{rest:List UInt8}(h:RdI w n g (ib lf x++rest))(hx:x.ok lf)(hg:g≠n)(g0:g<w.heap.size):
  Calls prog 173 #[.pointer (some ⟨n,0,none⟩),.int .i64 (if lf then 1 else 2)] w fun e w'=>∃kv vv,e=.returned (.agg #[kv,vv,.int .i64 (x.at_:Int)])/\ItC (fun q=>w.heap.size<=q) w' x kv vv (.int .i64 (x.at_:Int))/\RdI w' n g rest/\Fr [n] w w':=by
 have f':n<w.heap.size:=by obtain⟨_,_,hb,_⟩:=h;exact hb.lt
 obtain⟨u,hu⟩:=nm (UInt8.ofNat x.key.length);have b6:u.toNat=x.key.length:=by rw[hu,yN];have:=hx.k2;omega
 refine gA fun R HQ=>?_;have T:Fr [] w ((w.alloc (.cells zit.toArray 198)).alloc (.cells zit.toArray 198)):=((Fr.refl [] w).alloc _).alloc _;have b7:Blk ((w.alloc (.cells zit.toArray 198)).alloc (.cells zit.toArray 198)) w.heap.size 198 zit:=(Blk.new w _ zit).alloc _
 have b8:Blk ((w.alloc (.cells zit.toArray 198)).alloc (.cells zit.toArray 198)) (w.heap.size+1) 198 zit:=by
  have:=Blk.new (w.alloc (.cells zit.toArray 198)) 198 zit
  rwa [show(w.alloc (.cells zit.toArray 198)).heap.size=w.heap.size+1 by simp]at this
 have b9:((w.alloc (.cells zit.toArray 198)).alloc (.cells zit.toArray 198)).heap.size=w.heap.size+2:=by simp
 have P:=h.fr T (by simp) (by simp);have HX:=lh hx;clear h hx
 cases lf with
 | true=>
  have e0:ib true x++rest=u::(UInt8.ofNat x.v.length::(x.key++(x.v++rest))):=by rw[hu];simp[ib]
  obtain⟨u2,d9⟩:=nm (UInt8.ofNat x.v.length);have e5:u2.toNat=x.v.length:=by rw[d9,yN];have:=HX.o.v;omega
  rw[e0,<- d9]at P;have c0:=lh (aGB P hg);have c1:=lh T;have c2:=lh b7;have c3:=lh b8;have U:=lh b9;have F:=lh b6;have c5:=lh e5;clear T b7 b8 b9 P e0 hu d9 b6 e5
  go_enter func173,ntmps173
  go_wp2_with (with_reducible refine mA rfl 198 rfl (.agg #[.slice none 0 0,.slice none 0 0,.int .i64 0]) zit.toArray xO rfl ?_)
  refine c0.o.mono ?_;rintro e w1 ⟨rfl,e8,e9,e'⟩;have f2:=lh (aGB e8 hg);have f3:=lh e9;have f4:=lh e';clear e8 e9 e';go_wp2_with fail;refine f2.o.mono ?_;rintro e w2 ⟨rfl,a',b0,b1⟩;have c6:=lh (eS (k:=u.toNat) a' (by rw[F.o,lB];omega) hg);have c8:=lh (f3.o.trans b0);have c9:=lh (b1.trans f4.o);clear a' b0 b1;go_wp2_with fail;refine c6.o.mono ?_;rintro e w3 ⟨v3,rfl,J,L,b2,b3⟩;rw[F.o,rK]at J;rw[F.o,aN]at L;have c':=lh (tG J (by have:=HX.o.k2;omega));have V:=lh (c8.o.trans b2);have W:=lh (b3.trans c9.o);have X:=lh L;clear J L b2 b3;go_wp2_with fail;refine c'.o.mono ?_;rintro e M ⟨_,rfl,⟨g4,l,d'⟩,t⟩;obtain⟨f,c4,o4,rfl,e1,b4⟩:=id l;clear e1 b4;have j:Fr [n] ((w.alloc (.cells zit.toArray 198)).alloc (.cells zit.toArray 198)) M:=V.o.trans t;have z:Fr [n] w M:=(c1.o.mono (by simp)).trans j;have b:=c3.o.fr j (by simp;omega);have Y:=c2.o.fr j (by simp;omega);have d0:=b.at_ (i:=0) rfl;have G:=b.free;have H:=b.lt;have d1:=t.size;have I:w.heap.size+2<=M.heap.size:=by have:=W.o;have:=U.o;omega
  have s:∀vv:Value,Fr [w.heap.size+1] M (M.setCell ⟨w.heap.size+1,0,none⟩ vv):=fun vv=>(Fr.refl _ _).setCell (.inl (by simp)) _;have Z:=(X.o.fr t (by simp) (by simp)).fr (s (.slice f x.key.length c4)) (by simp;omega) (by simp;omega);have e6:w.heap.size+2<=g4:=by have:=W.o;have:=U.o;omega
  have a0:Hid (cA (M.setCell ⟨w.heap.size+1,0,none⟩ (.slice f x.key.length c4)) (.slice f x.key.length c4) x.key g4):=lh (l.fr (s (.slice f x.key.length c4)) (by simp;omega));have A:=lh (b.set_ 0 (.slice f x.key.length c4));have B:=lh (Y.fr (s (.slice f x.key.length c4)));have a1:=lh (z.setCell (p:=⟨w.heap.size+1,0,none⟩) (.inr (by simp)) (.slice f x.key.length c4));have a2:=lh (eS (k:=u2.toNat) Z (by rw[c5.o,lB];omega) hg);have a3:Hid (w.heap.size+2<=(M.setCell ⟨w.heap.size+1,0,none⟩ (.slice f x.key.length c4)).heap.size):=lh (by simpa[World.setCell]using I);clear j z b Y d1 I s Z l d' t X V;go_wp2_with fail;clear d0 G H;refine a2.o.mono ?_;rintro e w6 ⟨v6,rfl,N,O,m,e2⟩;rw[c5.o,rK]at N;rw[c5.o,aN]at O;have d2:=lh (tG N (by have:=HX.o.v;omega));have C:g4∉[n]:=by simp;omega
  have a4:=lh (a0.o.fr m C);have a5:=lh (a1.o.trans m);have a6:=lh O;have D:=lh (A.o.fr m (by simp;omega));have E:=lh (B.o.fr m (by simp;omega));have d3:Hid (w.heap.size+2<=w6.heap.size):=lh (by have:=a3.o;omega);clear N O m e2 a0 a1 A B a3 a2 C;go_wp2_with fail;refine d2.o.mono ?_;rintro e w7 ⟨_,rfl,⟨g7,e3,f7⟩,c⟩;obtain⟨Q,S,o7,rfl,f8,f0⟩:=id e3;clear f8 f0;have b:=D.o.fr c;have d4:=b.at_ (i:=1) rfl;have G:=b.free;have H:=b.lt;have r:Fr [w.heap.size+1] w7 (w7.setCell ⟨w.heap.size+1,1,none⟩ (.slice Q x.v.length S)):=(Fr.refl _ _).setCell (.inl (by simp)) _;have I:=d3.o;have f9:w.heap.size+2<=g7:=by omega
  have f5:=c.size;have a7:Hid (Blk (w7.setCell ⟨w.heap.size+1,1,none⟩ (.slice Q x.v.length S)) (w.heap.size+1) 198 [(.slice f x.key.length c4),(.slice Q x.v.length S),.int .i64 0]):=lh (b.set_ 1 (.slice Q x.v.length S));have a8:=lh ((E.o.fr c).fr r);have a9:Hid (ItC (fun q=>w.heap.size+2<=q) (w7.setCell ⟨w.heap.size+1,1,none⟩ (.slice Q x.v.length S)) x (.slice f x.key.length c4) (.slice Q x.v.length S) (.int .i64 (x.at_:Int))):=lh ⟨⟨g4,(a4.o.fr c).fr r (by simp;omega),by omega⟩,⟨g7,e3.fr r (by simp;omega),by omega⟩,rfl⟩;have d5:=lh ((a6.o.fr c (by simp) (by simp)).fr r (by simp;omega) (by simp;omega));have d6:=lh ((a5.o.trans c).setCell (p:=⟨w.heap.size+1,1,none⟩) (.inr (by simp)) (.slice Q x.v.length S));have d7:x.at_=0:=by have:=HX.o.bare;simpa using this
  have HT:Hid (aBl [(.slice f x.key.length c4),(.slice Q x.v.length S),.int .i64 0]):=lh (by have:=a9.o.one;rw[d7]at this;exact this);have f6:=lh d7;clear e3 c r b a4 a5 a6 D E f7 d7;go_upto_region 9 with fail
  clear d4 G H
  go_wp2_with (first
   | (refine iO rfl 198 (.tmp 5) rfl rfl a7.o Go.Proofs.Tryz.underlying198 rfl pG ?_)
   | (refine oD rfl 198 (.tmp 4) (.tmp 32) rfl [(.slice f x.key.length c4),(.slice Q x.v.length S),.int .i64 0] rfl rfl a8.o pG rfl HT.o ?_))
  intro w9 b5 y e4;have HE:Hid (∃kv vv,Ending.returned (.agg #[(.slice f x.key.length c4),(.slice Q x.v.length S),.int .i64 0])=.returned (.agg #[kv,vv,.int .i64 (x.at_:Int)])/\ItC (fun q=>w.heap.size<=q) w9 x kv vv (.int .i64 (x.at_:Int))/\RdI w9 n g rest/\Fr [n] w w9):=lh ⟨(.slice f x.key.length c4),(.slice Q x.v.length S),by rw[f6.o];rfl,(a9.o.fr y (fun q (hq:w.heap.size+2<=q) hm=>by have:=aB.1 hm;omega)).weak (fun q (hq:w.heap.size+2<=q)=>by show w.heap.size<=q;omega),d5.o.fr y (by simp;omega) (by simp;omega),d6.o.trans y⟩;have d8:=lh b5;clear b5 y e4;go_wp2_with fail;refine yH (g:=w.heap.size) (t':=198) (cs:=[(.slice f x.key.length c4),(.slice Q x.v.length S),.int .i64 0]) (d:=_) rfl rfl d8.o Go.Proofs.Tryz.underlying198 rfl pG (HQ.o _ _ HE.o)
 | false=>
  have e0:ib false x++rest=u::(x.key++(b16 x.at_++rest)):=by rw[hu];simp[ib]
  rw[e0]at P;have c0:=lh (aGB P hg);have c1:=lh T;have c2:=lh b7;have c3:=lh b8;have U:=lh b9;have F:=lh b6;clear T b7 b8 b9 P e0 hu b6
  go_enter func173,ntmps173
  go_wp2_with (with_reducible refine mA rfl 198 rfl (.agg #[.slice none 0 0,.slice none 0 0,.int .i64 0]) zit.toArray xO rfl ?_)
  refine c0.o.mono ?_;rintro e w2 ⟨rfl,a',b0,b1⟩;have c6:=lh (eS (k:=u.toNat) a' (by rw[F.o,lB];omega) hg);have c8:=lh b0;have c9:=lh b1;clear a' b0 b1;go_wp2_with fail;refine c6.o.mono ?_;rintro e w3 ⟨v3,rfl,J,L,b2,b3⟩;rw[F.o,rK]at J;rw[F.o,aN]at L;have c':=lh (tG J (by have:=HX.o.k2;omega));have V:=lh (c8.o.trans b2);have W:=lh (b3.trans c9.o);have X:=lh L;clear J L b2 b3;go_wp2_with fail;refine c'.o.mono ?_;rintro e M ⟨_,rfl,⟨g4,l,d'⟩,t⟩;obtain⟨f,c4,o4,rfl,e1,b4⟩:=id l;clear e1 b4;have j:Fr [n] ((w.alloc (.cells zit.toArray 198)).alloc (.cells zit.toArray 198)) M:=V.o.trans t;have z:Fr [n] w M:=(c1.o.mono (by simp)).trans j;have b:=c3.o.fr j (by simp;omega);have Y:=c2.o.fr j (by simp;omega);have d0:=b.at_ (i:=0) rfl;have G:=b.free;have H:=b.lt;have d1:=t.size;have I:w.heap.size+2<=M.heap.size:=by have:=W.o;have:=U.o;omega
  have s:∀vv:Value,Fr [w.heap.size+1] M (M.setCell ⟨w.heap.size+1,0,none⟩ vv):=fun vv=>(Fr.refl _ _).setCell (.inl (by simp)) _;have Z:=(X.o.fr t (by simp) (by simp)).fr (s (.slice f x.key.length c4)) (by simp;omega) (by simp;omega);have e6:w.heap.size+2<=g4:=by have:=W.o;have:=U.o;omega
  have a0:Hid (cA (M.setCell ⟨w.heap.size+1,0,none⟩ (.slice f x.key.length c4)) (.slice f x.key.length c4) x.key g4):=lh (l.fr (s (.slice f x.key.length c4)) (by simp;omega));have A:=lh (b.set_ 0 (.slice f x.key.length c4));have B:=lh (Y.fr (s (.slice f x.key.length c4)));have a1:=lh (z.setCell (p:=⟨w.heap.size+1,0,none⟩) (.inr (by simp)) (.slice f x.key.length c4));have a2:=lh (eS (k:=2) Z (by rw[lB];show 2<=2+_;omega) hg);have a3:Hid (w.heap.size+2<=(M.setCell ⟨w.heap.size+1,0,none⟩ (.slice f x.key.length c4)).heap.size):=lh (by simpa[World.setCell]using I);clear j z b Y d1 I s Z l d' t X V;go_wp2_with fail;clear d0 G H;refine a2.o.mono ?_;rintro e w6 ⟨v6,rfl,N,O,m,e2⟩;have et:(b16 x.at_++rest).take 2=b16 x.at_:=rfl;have ed:(b16 x.at_++rest).drop 2=rest:=rfl;rw[et]at N;rw[ed]at O;have b':r16 (b16 x.at_)=x.at_:=by have:=oG HX.o.at_ [];rwa [dI]at this
  have hh:=lJ N (by show 2<=2;omega);rw[b']at hh;have d2:=lh hh;have C:g4∉[n]:=by simp;omega
  have a4:=lh (a0.o.fr m C);have a5:=lh (a1.o.trans m);have a6:=lh O;have D:=lh (A.o.fr m (by simp;omega));have E:=lh (B.o.fr m (by simp;omega));have d3:Hid (w.heap.size+2<=w6.heap.size):=lh (by have:=a3.o;omega);clear N O m e2 a0 a1 A B a3 a2 C et ed b' hh;go_wp2_with fail;refine d2.o.mono ?_;rintro e w7 ⟨rfl,q7,f1⟩;have c:Fr [] w6 w7:=by rw[f1];exact(Fr.refl _ _).drewN _
  have b:=D.o.fr c;have d4:=b.at_ (i:=2) rfl;have G:=b.free;have H:=b.lt;have r:Fr [w.heap.size+1] w7 (w7.setCell ⟨w.heap.size+1,2,none⟩ (.int .i64 (x.at_:Int))):=(Fr.refl _ _).setCell (.inl (by simp)) _;have I:=d3.o;have f5:=c.size;have e7:x.v=[]:=by have:=HX.o.bare;simpa using this
  have a7:Hid (Blk (w7.setCell ⟨w.heap.size+1,2,none⟩ (.int .i64 (x.at_:Int))) (w.heap.size+1) 198 [.slice f x.key.length c4,.slice none 0 0,.int .i64 (x.at_:Int)]):=lh (b.set_ 2 (.int .i64 (x.at_:Int)));have a8:=lh ((E.o.fr c).fr r);have a9:Hid (ItC (fun q=>w.heap.size+2<=q) (w7.setCell ⟨w.heap.size+1,2,none⟩ (.int .i64 (x.at_:Int))) x (.slice f x.key.length c4) (.slice none 0 0) (.int .i64 (x.at_:Int))):=lh ⟨⟨g4,(a4.o.fr c).fr r (by simp;omega),by omega⟩,⟨w.heap.size+2,by rw[e7];exact cA.nil _ _,by omega⟩,rfl⟩;have d5:=lh ((a6.o.fr c (by simp) (by simp)).fr r (by simp;omega) (by simp;omega));have d6:=lh ((a5.o.trans c).setCell (p:=⟨w.heap.size+1,2,none⟩) (.inr (by simp)) (.int .i64 (x.at_:Int)));have HT:Hid (aBl [.slice f x.key.length c4,.slice none 0 0,.int .i64 (x.at_:Int)]):=lh a9.o.one;clear c r b a4 a5 a6 D E e7 f1;go_upto_region 9 with fail
  clear d4 G H
  go_wp2_with (first
   | (refine iO rfl 198 (.tmp 5) rfl rfl a7.o Go.Proofs.Tryz.underlying198 rfl pG ?_)
   | (refine oD rfl 198 (.tmp 4) (.tmp 32) rfl [.slice f x.key.length c4,.slice none 0 0,.int .i64 (x.at_:Int)] rfl rfl a8.o pG rfl HT.o ?_))
  intro w9 b5 y e4;have HE:Hid (∃kv vv,Ending.returned (.agg #[.slice f x.key.length c4,.slice none 0 0,.int .i64 (x.at_:Int)])=.returned (.agg #[kv,vv,.int .i64 (x.at_:Int)])/\ItC (fun q=>w.heap.size<=q) w9 x kv vv (.int .i64 (x.at_:Int))/\RdI w9 n g rest/\Fr [n] w w9):=lh ⟨_,_,rfl,(a9.o.fr y (fun q (hq:w.heap.size+2<=q) hm=>by have:=aB.1 hm;omega)).weak (fun q (hq:w.heap.size+2<=q)=>by show w.heap.size<=q;omega),d5.o.fr y (by simp;omega) (by simp;omega),d6.o.trans y⟩;have d8:=lh b5;clear b5 y e4;go_wp2_with fail;refine yH (g:=w.heap.size) (t':=198) (cs:=[.slice f x.key.length c4,.slice none 0 0,.int .i64 (x.at_:Int)]) (d:=_) rfl rfl d8.o Go.Proofs.Tryz.underlying198 rfl pG (HQ.o _ _ HE.o)
end
end Go.Proofs.YtebjhcjbfaaejaaGreatDoor
