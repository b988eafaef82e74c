/-
  Joined: Base Row CcN ArgOps Dm DiskA Laws DiskB Region
-/
import Derived.WalkKit
import Derived.WalkSpells
import Derived.WalkLawsBesides
import Derived.Lib.Hide
import Derived.Deep.AppendLies
import Derived.Deep.QuietTactic
import Derived.BigQuiet
import Derived.Laws.CopyOwn
import Derived.Deep.OwnRows
import Derived.Deep.DeepCutAuto
import Derived.Deep.LoopGhost
import Derived.ProofKit
import Derived.OpenShut
import Derived.Deep.Slices
import Derived.Deep.Fields
import Derived.ChangeSame
import Derived.Carry
import Derived.Test.YtebjhcjbfaaejaaGreatDoorRows
import Derived.Shelf.Vars
import Derived.MakeChecks
import Derived.LaidMore
import Derived.Lay
import Derived.Stop.Joined
import Derived.Test.YtebjhcjbfaaejaaGreatDoorProg
import Derived.Deep.MidRow
import Derived.Deep.WholeRow
import Derived.StillTailTactics
import Derived.OrdersHeld
import Derived.RegionTactic
set_option maxRecDepth 100000
set_option maxHeartbeats 32000000
namespace Go.Proofs.YtebjhcjbfaaejaaGreatDoor
open Go.Proofs.Tryz
variable {n k:Nat}{w':World}{v u:Value}{L:List Nat}{F:List Value}{T:TypeId}{α:Type}
theorem eA.{u}{c:Prop}{h:Decidable c}(hnc:¬c){α:Sort u}{t e:α}:(if c then t else e)=e:=if_neg hnc
theorem iA.{u}{c:Prop}{h:Decidable c}(hc:c){α:Sort u}{t e:α}:(if c then t else e)=t:=if_pos hc
theorem tA (n:Nat):n<=n:=Nat.le_refl n
theorem aB.{u_1}{α:Type u_1}{a b:α}:a ∈ [b]↔a=b:=List.mem_singleton
theorem kB.{u_1}{αq:Type u_1}{b:αq}{l:List αq}{a:αq}:a ∈ b :: l↔a=b ∨ a ∈ l:=List.mem_cons
theorem lB.{u}{α:Type u}{as_ bs:List α}:(as_ ++ bs).length=as_.length + bs.length:=List.length_append
theorem sB.{u_1}{α:Type u_1}{a:α}{l:List α}:a ∈ a :: l:=List.mem_cons_self
theorem uC.{u_1}{α:Type u_1}(y:α){a:α}{l:List α}:a ∈ l->a ∈ y :: l:=List.mem_cons_of_mem y
theorem gD.{u}{α:Type u}{a:α}{as_:List α}:(a :: as_).length=as_.length + 1:=List.length_cons
theorem iD (n:Int):Go.IntKind.i64.wrap n=(n + 9223372036854775808) % 18446744073709551616 - 9223372036854775808:=Go.IntKind.wrap_i64 n
theorem rB (n:Nat):0<=n:=Nat.zero_le n
theorem cC (n:Nat):0 + n=n:=Nat.zero_add n
theorem dC.{u_1}{α:Type u_1}(l:List α):l.Sublist l:=List.Sublist.refl l
theorem jC.{u_1}{α:Type u_1}{i:Nat}{l:List α}:(List.take i l).length=min i l.length:=List.length_take
theorem mC.{u_1}{α:Type u_1}{i:Nat}{l:List α}:(List.drop i l).length=l.length - i:=List.length_drop
theorem xC (w:Go.World)(o:Go.Obj):(w.alloc o).heap.size=w.heap.size + 1:=Go.World.size_alloc w o
theorem pD.{u_1}{α:Type u_1}{a:α}{s t:List α}:a ∈ s ++ t↔a ∈ s ∨ a ∈ t:=List.mem_append
theorem tD.{u_1}{α:Type u_1}{i:Nat}{a:α}{l:List α}:l[i]?=some a↔∃ (h:i<l.length),l[i]=a:=List.getElem?_eq_some_iff
theorem xD.{u_1}{α:Type u_1}{l:List α}{i:Nat}(h:i<l.length):l[i]?=some l[i]:=List.getElem?_eq_getElem h
theorem aE.{u}{α:Type u}{a:α}{as_:List α}(bs:List α):a ∈ as_->a ∈ as_ ++ bs:=List.mem_append_left bs
theorem dE.{u_1}{α:Sort u_1}{xq:Decidable False}(t e:α):(if False then t else e)=e:=if_false t e
theorem fE {P:Go.Program}{Q:Go.Exit->Go.Act->Go.World->Prop}{a:Go.Act}{w:Go.World}{id:Nat}{l:List Go.Oper}(h:Go.wpList P l.toArray Q l a w):Go.Code.wp P (Go.Code.region id l.toArray false) Q a w:=Go.wp_region_lit h
theorem rE.{u}{α:Type u}{b:α}(as_:List α){bs:List α}:b ∈ bs->b ∈ as_ ++ bs:=List.mem_append_right as_
theorem sE {P:Go.Program}{ops:Array Go.Oper}{Q:Go.Exit->Go.Act->Go.World->Prop}{a:Go.Act}{w:Go.World}(h:Q Go.Exit.normal a w):Go.wpList P ops Q [] a w:=Go.wpList_nil h
theorem xE.{u}{α:Type u}{R:α->α->Prop}{a:α}{l:List α}:List.Pairwise R (a :: l)↔(∀ (a':α),a' ∈ l->R a a')/\List.Pairwise R l:=List.pairwise_cons
theorem aF {n m k:Nat}:n<=m->m<=k->n<=k:=Nat.le_trans
theorem cF (w:Go.World)(a:Go.Addr){u:Go.Value}(h:w.cell? a=some u):a.block<w.heap.size:=Go.World.block_lt_of_cell? w a h
theorem eF {P:Go.Program}{fn:Go.Func}{R:Go.Ending->Go.World->Prop}{a:Go.Act}{w:Go.World}{v:Go.Value}(hr:Go.Sem.run P (Go.results fn a.tmps) w=Go.Result.ok v w)(hd:a.defers=[])(hR:R (Go.Ending.returned v) w):Go.bodyPost P fn R Go.Exit.ret a w:=Go.bodyPost_ret hr hd hR
theorem qF.{u}{α:Type u}(as_ bs cs:List α):as_ ++ bs ++ cs=as_ ++ (bs ++ cs):=List.append_assoc as_ bs cs
theorem zF.{u_1}{α:Type u_1}{i:Nat}{l:List α}(h:l.length<=i):List.take i l=l:=List.take_of_length_le h
theorem aG (p:Prop):(p ∨ False)=p:=or_false p
theorem fG.{u}{α:Type u}{val valq:α}:some val=some valq->val=valq:=Option.some.inj
theorem qG : (false=true)=False:=Bool.false_eq_true
theorem rG.{u_1}{α:Type u_1}{l:List α}{i:Nat}{a:α}(e:l[i]?=some a):a ∈ l:=List.mem_of_getElem? e
theorem xG.{u_1}{α:Type u_1}{l:List α}{i j:Nat}:(List.take i l)[j]?=if j<i then l[j]? else none:=List.getElem?_take
theorem yG.{u_1}{α:Type u_1}{a:α}:¬a ∈ []:=List.not_mem_nil
theorem eH.{u}{α:Type u}(as_:List α):[] ++ as_=as_:=List.nil_append as_
theorem mH.{u_1}{α:Sort u_1}{xq:Decidable True}(t e:α):(if True then t else e)=t:=if_true t e
theorem nH.{u,v}{α:Type u}{β:Type v}{x:α}{xs:List α}{f:α->List β}:List.flatMap f (x :: xs)=f x ++ List.flatMap f xs:=List.flatMap_cons
theorem zH.{u_1,u_2}{α:Type u_1}{β:Type u_2}{f:α->β}{l:List α}{i:Nat}:(List.map f l)[i]?=Option.map f l[i]?:=List.getElem?_map
theorem cI.{u_1,u_2}{α:Type u_1}{β:Type u_2}{b:β}{f:α->β}{l:List α}:b ∈ List.map f l↔∃ (a:α),a ∈ l/\f a=b:=List.mem_map
theorem dI.{u}{α:Type u}(as_:List α):as_ ++ []=as_:=List.append_nil as_
theorem eI.{u_1}{α:Type u_1}[BEq α][LawfulBEq α]{a b:α}:(a == b)=false↔a ≠ b:=beq_eq_false_iff_ne
theorem lI.{u_1,u_2}{α:Type u_1}{β:Type u_2}{as_:List α}(f:α->β):(List.map f as_).length=as_.length:=List.length_map f
theorem uI.{u_1}{α:Type u_1}{i:Nat}{b:α}{xs:Array α}:xs[i]?=some b↔∃ (h:i<xs.size),xs[i]=b:=Array.getElem?_eq_some_iff
theorem vI.{u}{α:Type u}(val valq:α):(some val=some valq)=(val=valq):=Option.some.injEq val valq
theorem wI.{u_1}{αq:Type u_1}{p:αq->Bool}{as_:List αq}{x:αq}:x ∈ List.filter p as_↔x ∈ as_/\p x=true:=List.mem_filter
theorem yI {p:Prop}[Decidable p]:(decide p=true)=p:=decide_eq_true_eq
theorem zI.{u}{α:Type u}{a:α}{as_ bs:List α}:a :: as_ ++ bs=a :: (as_ ++ bs):=List.cons_append
theorem aJ.{u_1}{α:Type u_1}[BEq α][LawfulBEq α]{a b:α}:(a != b)=true↔a ≠ b:=bne_iff_ne
theorem xJ.{u_1}{α:Type u_1}{xs:List α}{i j:Nat}:(List.drop i xs)[j]?=xs[i + j]?:=List.getElem?_drop
theorem yJ.{u,v}{α:Type u}{β:Type v}{f:α->β}{a:α}{l:List α}:List.map f (a :: l)=f a :: List.map f l:=List.map_cons
theorem zJ.{u_1}{α:Type u_1}[BEq α]{a:α}{l₁ l₂:List α}:List.count a (l₁ ++ l₂)=List.count a l₁ + List.count a l₂:=List.count_append
theorem dK.{u_1}{α:Type u_1}{l₁ l₂:List α}{i:Nat}:l₁.length<=i->(l₁ ++ l₂)[i]?=l₂[i - l₁.length]?:=List.getElem?_append_right
theorem eK.{u_1}{α:Type u_1}[BEq α]{a b:α}{l:List α}:List.count a (b :: l)=List.count a l + if (b == a)=true then 1 else 0:=List.count_cons
theorem pK {a b:Nat}(h:a<b):a % b=a:=Nat.mod_eq_of_lt h
theorem qK {p:Prop}{xq:Decidable p}:decide p=false↔¬p:=decide_eq_false_iff_not
theorem rK.{u_1}{α:Type u_1}{l₁ l₂:List α}:List.take l₁.length (l₁ ++ l₂)=l₁:=List.take_left
theorem sK.{u_1}{α:Type u_1}{a:α}{i:Nat}{l:List α}(h:a ∈ List.drop i l):a ∈ l:=List.mem_of_mem_drop h
theorem aL.{u_1}{α:Type u_1}[BEq α][LawfulBEq α]{l₁ l₂:List α}:l₁.Perm l₂↔∀ (a:α),List.count a l₁=List.count a l₂:=List.perm_iff_count
theorem kM.{u_1}{α:Type u_1}{l₁ l₂:List α}{i:Nat}(hn:i<l₁.length):(l₁ ++ l₂)[i]?=l₁[i]?:=List.getElem?_append_left hn
theorem nM {n:Nat}{P:Go.Program}{f:Go.FuncId}{args:Array Go.Value}{w:Go.World}{R:Go.Ending->Go.World->Prop}:Go.CallsIn Go.Fence.wide n P f args w R↔Go.Calls P f args w R:=Go.callsIn_wide
theorem oM.{u_1}{α:Type u_1}{l:List α}{i:Nat}:List.take (i + 1) l=List.take i l ++ l[i]?.toList:=List.take_add_one
theorem zM.{u_1}{α:Type u_1}{i:Nat}{l:List α}(h:i<l.length):List.drop i l=l[i]:: List.drop (i + 1) l:=List.drop_eq_getElem_cons h
theorem aN.{u_1}{α:Type u_1}{l₁ l₂:List α}:List.drop l₁.length (l₁ ++ l₂)=l₂:=List.drop_left
theorem bN.{u_1}{α:Type u_1}(i:Nat)(l:List α):List.take i l ++ List.drop i l=l:=List.take_append_drop i l
theorem tN (a b:Bool):((a && b)=true)=(a=true/\b=true):=Bool.and_eq_true a b
theorem uN.{u_1}{αq:Type u_1}{p:αq->Bool}{a:αq}{l:List αq}(h:¬p a=true):List.find? p (a :: l)=List.find? p l:=List.find?_cons_of_neg h
theorem vN {p:Prop}[Decidable p]:¬p->decide p=false:=decide_eq_false
theorem pO {n m k:Nat}:n<m->m<=k->n<k:=Nat.lt_of_lt_of_le
theorem rO.{u_1}{α:Type u_1}{i:Nat}{a:α}{l:List α}(h:a ∈ List.take i l):a ∈ l:=List.mem_of_mem_take h
theorem tO.{u_1}{αq:Type u_1}{l:List αq}:l.length=0↔l=[]:=List.length_eq_zero_iff
theorem uO {p:Prop}[Decidable p]:decide p=true↔p:=decide_eq_true_iff
theorem wP.{u_1}{α:Type u_1}{l:List α}{i:Nat}{a:α}:l.getD i a=l[i]?.getD a:=List.getD_eq_getElem?_getD
theorem xP {p:Prop}[inst:Decidable p]:p->decide p=true:=decide_eq_true
theorem yP.{u_1,u_2}{α:Type u_1}{β:Type u_2}(a:α)(f:α->β):Option.map f (some a)=some (f a):=Option.map_some a f
theorem zP {n m:Nat}(p:n=m):n<=m:=Nat.le_of_eq p
theorem aQ.{u_1}{α:Type u_1}{R:α->α->Prop}{l₁ l₂:List α}:List.Pairwise R (l₁ ++ l₂)↔List.Pairwise R l₁/\List.Pairwise R l₂/\∀ (a:α),a ∈ l₁->∀ (b:α),b ∈ l₂->R a b:=List.pairwise_append
theorem bQ : (true=false)=False:=Bool.true_eq_false
theorem eT.{u}{α:Type u}{as_:List α}:as_.toArray.size=as_.length:=List.size_toArray
theorem fT.{u_1}{α:Type u_1}{l₁ l₂:List α}(h:∀ (i:Nat),l₁[i]?=l₂[i]?):l₁=l₂:=List.ext_getElem? h
theorem gT.{u_1,u_2}{α:Type u_1}{β:Type u_2}{f:β->α->β}{b:β}{l l':List α}:List.foldl f b (l ++ l')=List.foldl f (List.foldl f b l) l':=List.foldl_append
theorem iT {a b:Nat}(h:a<=b):min a b=a:=Nat.min_eq_left h
theorem jT {a b:Bool}:a=b↔(a=true↔b=true):=Bool.eq_iff_iff
theorem rT (n m k:Nat):n + m + k=n + (m + k):=Nat.add_assoc n m k
theorem uT.{u_1}{αq:Type u_1}{p:αq->Bool}{a:αq}{l:List αq}(h:p a=true):List.find? p (a :: l)=some a:=List.find?_cons_of_pos h
theorem vT {m n:Nat}:m ∈ List.range n↔m<n:=List.mem_range
theorem wT (n:Int):Go.IntKind.u8.wrap n=n % 256:=Go.IntKind.wrap_u8 n
theorem yN {n:Nat}:(UInt8.ofNat n).toNat=n % 2 ^ 8:=UInt8.toNat_ofNat'
theorem zN.{u_1}{α:Type u_1}(l:List α):[].Sublist l:=List.nil_sublist l
theorem iP (n m:Nat):n<m ∨ n ≥ m:=Nat.lt_or_ge n m
theorem jP.{u_1}{α:Type u_1}{i:Nat}{l:List α}(h:i<l.length):List.take (i + 1) l=List.take i l ++ [l[i]]:=List.take_succ_eq_append_getElem h
theorem kP (w n:Nat):BitVec.ofInt w ↑n=BitVec.ofNat w n:=BitVec.ofInt_natCast w n
theorem lP (x w:Nat):(BitVec.ofNat w x).toNat=x % 2 ^ w:=BitVec.toNat_ofNat x w
theorem nP.{u_1}{α:Type u_1}{i:Nat}{l:List α}(h:l.length<=i):List.drop i l=[]:=List.drop_of_length_le h
theorem pP.{u_1}{α:Type u_1}{p:α->Bool}{l:List α}:List.takeWhile p l ++ List.dropWhile p l=l:=List.takeWhile_append_dropWhile
theorem qP.{u,v}{α:Type u}{β:Type v}{xs ys:List α}{f:α->List β}:List.flatMap f (xs ++ ys)=List.flatMap f xs ++ List.flatMap f ys:=List.flatMap_append
theorem bR.{u_1}{αq:Type u_1}{l:List αq}{L:List (List αq)}:(l :: L).flatten=l ++ L.flatten:=List.flatten_cons
theorem cR.{u_1}{αq:Type u_1}{l:List αq}:l.length=0->l=[]:=List.eq_nil_of_length_eq_zero
theorem dR (n:Nat):¬n<n:=Nat.lt_irrefl n
theorem fR.{u_1}{αq:Type u_1}{l:List αq}{i:Nat}(h:l.length<=i):l[i]?=none:=List.getElem?_eq_none h
theorem gR {a b:UInt8}:a.toNat=b.toNat↔a=b:=UInt8.toNat_inj
theorem iR.{u_1}{α:Type u_1}{a:α}{l:List α}:(a :: l)[0]?=some a:=List.getElem?_cons_zero
theorem jR (n:Nat):n=0 ∨ n > 0:=Nat.eq_zero_or_pos n
theorem xT.{u}{α:Type u}{l:List α}:List.take 0 l=[]:=List.take_zero
theorem yT.{u_1}{αq:Type u_1}{a b:αq}:(some a).getD b=a:=Option.getD_some
theorem zT.{u}{α:Type u}{n:Nat}{a:α}:(List.replicate n a).length=n:=List.length_replicate
theorem wW (b:Bool):((!b)=true)=(b=false):=Bool.not_eq_true' b
theorem xW (n:Nat):n - n=0:=Nat.sub_self n
theorem yW.{u_1}{α:Type u_1}(p:α->Bool)(l:List α):(List.filter p l).length<=l.length:=List.length_filter_le p l
theorem wZ.{u}{α:Type u}{as_:List α}{i:Nat}(h:as_.length<=i):List.drop i as_=[]:=List.drop_eq_nil_of_le h
theorem aAa (n:Nat):n + 0=n:=Nat.add_zero n
theorem aAd.{u}{α:Type u}{a:α}:[a].length=1:=List.length_singleton
theorem aAi.{u_1}{αq:Type u_1}{a:αq}:Array.replicate 0 a=#[]:=Array.replicate_zero
theorem aAp.{u_1}{α:Type u_1}(a:α)(l:List α):l.Sublist (a :: l):=List.sublist_cons_self a l
theorem aAq {n m:Nat}(h:n<m):n.succ<=m:=Nat.succ_le_of_lt h
section
open Go.RowKit
structure Fr (S:List Nat) (w w':World):Prop where
 os:w'.os=w.os
 tape:w'.tape=w.tape
 output:w'.output=w.output
 size:w.heap.size<=w'.heap.size
 block:∀k,k<w.heap.size->k∉S->w'.heap[k]? = w.heap[k]?
theorem Fr.refl(S:List Nat)(w:World):Fr S w w:=⟨rfl,rfl,rfl,tA _,fun _ _ _=>rfl⟩
theorem Fr.trans{S T:List Nat}{a b c:World}(h:Fr S a b)(k:Fr T b c)(g:∀x∈T,x∈S∨a.heap.size<=x:=by simp):Fr S a c:=
 ⟨k.os.trans h.os,k.tape.trans h.tape,k.output.trans h.output,aF h.size k.size,fun i hi d=>
  (k.block i (pO hi h.size) (fun f=>by
   rcases g i f with h1|h1
   ·exact d h1
   ·omega)).trans (h.block i hi d)⟩
theorem Fr.mono{S T:List Nat}{a b:World}(h:Fr S a b)(f:∀x∈S,x∈T∨a.heap.size<=x):Fr T a b:=
 ⟨h.os,h.tape,h.output,h.size,fun i hi c=>h.block i hi (fun d=>by
  rcases f i d with h1|h1
  ·exact c h1
  ·omega)⟩
theorem Fr.drew{S:List Nat}{a b:World}(h:Fr S a b):Fr S a b.drew:=⟨h.os,h.tape,h.output,h.size,h.block⟩
theorem Fr.drewN{S:List Nat}{a b:World}(h:Fr S a b)(n:Nat):Fr S a (b.drewN n):=⟨h.os,h.tape,h.output,h.size,h.block⟩
theorem Fr.alloc{S:List Nat}{a b:World}(h:Fr S a b)(o:Obj):Fr S a (b.alloc o):=
 ⟨h.os,h.tape,h.output,aF h.size (by simp),fun i hi c=>(Go.RowKit.Below.heap_alloc b o i (pO hi h.size)).trans (h.block i hi c)⟩
theorem Fr.setCell{S:List Nat}{a b:World}(h:Fr S a b){p:Addr}(c:p.block∈S∨a.heap.size<=p.block)(u:Value):Fr S a (b.setCell p u):=
 ⟨h.os,h.tape,h.output,by simpa[World.setCell]using h.size,fun i hi d=>(Below.heap_setCell b p u i (fun e=>by
  rcases c with c|c
  ·exact d (e▸c)
  ·omega)).trans (h.block i hi d)⟩
theorem Fr.setRow{S:List Nat}{a b:World}(h:Fr S a b){g:Nat}(c:g∈S∨a.heap.size<=g)(cs:Array Value):Fr S a (b.setRow g cs):=
 ⟨h.os,h.tape,h.output,by simpa[World.setRow]using h.size,fun i hi d=>(setRow_other b g i cs (fun e=>by
  rcases c with c|c
  ·exact d (e▸c)
  ·omega)).trans (h.block i hi d)⟩
theorem Fr.grown{S:List Nat}{a b c:World}(h:Fr S a b){row:Option Nat}(d:b.grownBy c row)(j:∀g,row=some g->g∈S∨a.heap.size<=g):Fr S a c:=
 ⟨d.os.trans h.os,d.tape.trans h.tape,d.output.trans h.output,aF h.size d.size,fun i hi f=>
  (d.block i (pO hi h.size) (fun e=>by
   rcases j i e.symm with h1|h1
   ·exact f h1
   ·omega)).trans (h.block i hi f)⟩
theorem Fr.below{S:List Nat}{a b:World}{B:Nat}(h:Fr S a b)(g:B<=a.heap.size)(d:∀x∈S,B<=x):Below B a b:=
 ⟨h.os,h.tape,h.output,h.size,fun k f=>h.block k (by omega) (fun c=>by have:=d k c;omega)⟩
theorem Fr.of_below{a b:World}(h:Below a.heap.size a b)(S:List Nat):Fr S a b:=⟨h.os,h.tape,h.output,h.size,fun k c _=>h.block k c⟩
theorem Fr.cell{S:List Nat}{a b:World}(h:Fr S a b){p:Addr}(c:p.block<a.heap.size)(d:p.block∉S):b.cell? p=a.cell? p:=World.cell?_of_block (w:=a) (h.block p.block c d)
def Blk (w:World) (g:Nat) (t:TypeId) (cs:List Value):Prop:=w.heap[g]? = some (.cells cs.toArray t (0,0))
section
variable {w w' : World} {g : Nat} {t : TypeId} {cs : List Value}
theorem Blk.lt(h:Blk w g t cs):g<w.heap.size:=by
 rcases iP g w.heap.size with b|c
 ·exact b
 ·unfold Blk at h;rw[Array.getElem?_eq_none c]at h;cases h
theorem Blk.cell(h:Blk w g t cs)(i:Nat):w.cell? ⟨g,i,none⟩=cs[i]?:=by
 unfold Blk at h;simp[World.cell?,h]
theorem Blk.at_(h:Blk w g t cs){i:Nat}{v:Value}(b:cs[i]? = some v):w.cell? ⟨g,i,none⟩=some v:=(h.cell i).trans b
theorem Blk.free(h:Blk w g t cs)(i:Nat):w.frozen? ⟨g,i,none⟩=false:=by
 unfold Blk at h;simp[World.frozen?,h]
theorem Blk.new(w:World)(t:TypeId)(cs:List Value):Blk (w.alloc (.cells cs.toArray t)) w.heap.size t cs:=by
 exact Go.heap_alloc_new w _
theorem Blk.fr{S:List Nat}(h:Blk w g t cs)(b:Fr S w w')(c:g∉S:=by simp):Blk w' g t cs:=(b.block g h.lt c).trans h
theorem Blk.drew(h:Blk w g t cs):Blk w.drew g t cs:=h
theorem Blk.drewN(h:Blk w g t cs)(n:Nat):Blk (w.drewN n) g t cs:=h
theorem Blk.alloc(h:Blk w g t cs)(o:Obj):Blk (w.alloc o) g t cs:=(Go.RowKit.Below.heap_alloc w o g h.lt).trans h
theorem Blk.set_(h:Blk w g t cs)(i:Nat)(u:Value):Blk (w.setCell ⟨g,i,none⟩ u) g t (cs.set i u):=by
 unfold Blk at h⊢
 simp[World.setCell,Array.getElem?_modify,h]
theorem Blk.far(h:Blk w g t cs){p:Addr}(b:g≠p.block)(u:Value):Blk (w.setCell p u) g t cs:=(Below.heap_setCell w p u g b).trans h
theorem Blk.row_(h:Blk w g t cs)(b:List Value):Blk (w.setRow g b.toArray) g t b:=setRow_heap w g _ _ t _ h
theorem Blk.row_far(h:Blk w g t cs){q:Nat}(c:g≠q)(b:Array Value):Blk (w.setRow q b) g t cs:=(setRow_other w q g b c).trans h
theorem Blk.grown{row:Option Nat}(h:Blk w g t cs)(b:w.grownBy w' row)(c:some g≠row):Blk w' g t cs:=(b.block g h.lt c).trans h
theorem Blk.ne_{t':TypeId}(h:Blk w g t cs)(b:Blk w n t' F)(c:t≠t'):g≠n:=by
 rintro rfl;unfold Blk at h b;rw[h]at b;injection b with b;injection b with _ ht;exact c ht
end
theorem iB{S:List Nat}{w w':World}{base:Nat}{e:TypeId}{size n:Nat}{v:Value}(h:w.ownsRow base e size v n F)(j:Fr S w w')(k:∀g,v.ownBlock=some g->g∉S):w'.ownsRow base e size v n F:=by
 refine⟨h.1,?_⟩;rcases h.2 with h2|⟨g,cap,cur,f,i,c,r⟩
 ·exact .inl h2
 ·refine .inr ⟨g,cap,cur,f,i,?_,r⟩
  have b:g<w.heap.size:=by
   rcases iP g w.heap.size with b|d
   ·exact b
   ·rw[Array.getElem?_eq_none d]at c;cases c
  rw[j.block g b (k g (by subst f;rfl))];exact c
theorem sF{w:World}{base:Nat}{e:TypeId}{size n:Nat}{v:Value}(h:w.ownsRow base e size v n F):∀g,v.ownBlock=some g->g<w.heap.size:=by
 intro g i;rcases h.2 with ⟨rfl,_⟩|⟨d,cap,cur,rfl,_,f,_⟩
 ·simp[Value.ownBlock]at i
 ·have:d=g:=by simpa[Value.ownBlock]using i
  subst this;rcases iP d w.heap.size with b|c
  ·exact b
  ·rw[Array.getElem?_eq_none c]at f;cases f
theorem dX{w:World}{base:Nat}{e:TypeId}{size n:Nat}{v:Value}{g:Nat}{t:TypeId}{cs:List Value}(h:w.ownsRow base e size v n F)(j:Blk w g t cs)(c:e≠t):v.ownBlock≠some g:=by
 rcases h.2 with ⟨rfl,_⟩|⟨d,cap,cur,rfl,_,f,_⟩
 ·simp[Value.ownBlock]
 ·intro i;have:d=g:=by simpa[Value.ownBlock]using i
  subst this;have b:=j;unfold Blk at b;rw[f]at b;injection b with b;injection b with _ ht;exact c ht
theorem vF(w:World)(base:Nat)(e:TypeId)(size:Nat):w.ownsRow base e size (.slice none 0 0) 0 []:=⟨by simp,.inl ⟨rfl,rfl⟩⟩
theorem sA{w:World}{base:Nat}{e:TypeId}{size n:Nat}{v:Value}(h:w.ownsRow base e size v n F):∃a c,v=.slice a n c/\n<=c/\c<=maxLen:=by
 rcases h.2 with ⟨rfl,rfl⟩|⟨f,cap,cur,rfl,_,g,b,d,_⟩
 ·exact⟨_,_,rfl,tA _,rB _⟩
 ·exact⟨_,_,rfl,b,d⟩
theorem tE{w:World}{base:Nat}{e:TypeId}{size n:Nat}{a:Option Addr}{c:Nat}(h:w.ownsRow base e size (.slice a n c) n F)(m:0<n):
  ∃g,a=some ⟨g,0,none⟩/\∀(j:Nat) (u:Value),F[j]? = some u->w.cell? ⟨g,j,none⟩=some u:=by
 rcases h.2 with ⟨h1,h0⟩|⟨g,cap,cur,d,_,f,i,k,l,ht⟩
 ·omega
 ·injection d with h1 h2 h3;refine⟨g,h1,fun j u b=>?_⟩;simp only[World.cell?,f];rw[<- ht]at b;rw[xG]at b
  split at b
  ·simpa using b
  ·cases b
def B8 (c:UInt8):Value:=.int .u8 (c.toNat:Int)
def fA (l:List UInt8):List Value:=l.map B8
theorem kA(l:List UInt8):(fA l).length=l.length:=by simp[fA]
theorem uG(l:List UInt8)(i:Nat):(fA l)[i]? = (l[i]?).map B8:=by simp[fA]
theorem yC(l:List UInt8):∀u∈fA l,u.oneCell'=true:=by
 intro u b;simp only[fA,cI]at b;obtain⟨c,_,rfl⟩:=b
 rfl
theorem sC(a b:List UInt8):fA (a++b)=fA a++fA b:=by simp[fA]
theorem pM(a:List UInt8)(k:Nat):fA (a.take k)=(fA a).take k:=by simp[fA]
theorem bJ(a:List UInt8)(k:Nat):fA (a.drop k)=(fA a).drop k:=by simp[fA]
def cA (w:World) (v:Value) (bs:List UInt8) (g:Nat):Prop:=
 ∃A c off,v=.slice A bs.length c/\bs.length<=c/\(0<bs.length->A=some ⟨g,off,none⟩/\∀(j:Nat) (u:Value),(fA bs)[j]? = some u->w.cell? ⟨g,off+j,none⟩=some u)
theorem cA.fr{S:List Nat}{w w':World}{v:Value}{bs:List UInt8}{g:Nat}(h:cA w v bs g)(k:Fr S w w')(l:g∉S:=by simp):cA w' v bs g:=by
 obtain⟨A,c,off,d,f,b⟩:=h;refine⟨A,c,off,d,f,fun h0=>⟨(b h0).1,fun j u i=>?_⟩⟩;have h1:=(b h0).2 j u i;rw[k.cell (cF w _ h1) l];exact h1
theorem cA.nil(w:World)(g:Nat):cA w (.slice none 0 0) [] g:=⟨none,0,0,rfl,tA _,fun h=>by simp at h⟩
theorem cA.of_blk{w:World}{g:Nat}{t:TypeId}{bs:List UInt8}(h:Blk w g t (fA bs))(c:Nat)(d:bs.length<=c):cA w (.slice (some ⟨g,0,none⟩) bs.length c) bs g:=
 ⟨_,c,0,rfl,d,fun _=>⟨rfl,fun j u b=>by rw[cC];exact h.at_ b⟩⟩
def pR (w:World) (v:Value) (bs:List Bool) (g:Nat):Prop:=
 ∃A c off,v=.slice A bs.length c/\bs.length<=c/\(0<bs.length->A=some ⟨g,off,none⟩/\∀(j:Nat) (u:Bool),bs[j]? = some u->w.cell? ⟨g,off+j,none⟩=some (.bool u))
theorem pR.fr{S:List Nat}{w w':World}{v:Value}{bs:List Bool}{g:Nat}(h:pR w v bs g)(k:Fr S w w')(l:g∉S:=by simp):pR w' v bs g:=by
 obtain⟨A,c,off,d,f,b⟩:=h;refine⟨A,c,off,d,f,fun h0=>⟨(b h0).1,fun j u i=>?_⟩⟩;have h1:=(b h0).2 j u i;rw[k.cell (cF w _ h1) l];exact h1
abbrev RV (f:FuncId) (x:Array Value) (w:World) (v:Value):Prop:=Calls prog f x w fun e w'=>e=.returned v ∧ Fr [] w w'
theorem dF{p:Prop}[Decidable p](h:¬ p):decide p=false:=decide_eq_false h
theorem dT{p:Prop}[Decidable p](h:p):decide p=true:=decide_eq_true h
theorem bF{a b:Int}(h:¬ a=b):(a==b)=false:=by rw[beq_eq_false_iff_ne];exact h
theorem LN:(∀ {α:Type} (a b:List α),(a++b).length=a.length+b.length) ∧ (∀ {α:Type} (a:α) (l:List α),(a::l).length=l.length+1) ∧ (∀ {α:Type},([]:List α).length=0):=⟨fun _ _=>List.length_append,fun _ _=>List.length_cons,rfl⟩
theorem _root_.Go.RowKit.Hid.o{p : Prop}(h : Hid p) : p := h.out
theorem lh{p:Prop}(h:p):Hid p:=Lib.hid h
theorem nm(a:α):∃x,x=a:=⟨a,rfl⟩
theorem wi(i:Nat)(h:i<9223372036854775807):IntKind.i64.wrap ((i:Int)+1)=(i:Int)+1:=by rw[iD];omega
theorem gx{l:List α}{i:Nat}(h:i<l.length):∃x,l[i]? = some x:=⟨_,xD h⟩
end
section
open Go.RowKit Go.ChangeShapes Go.WideShapes
section
variable {H : Type} {enc : TypeId × Value -> H} {P : Program}
theorem zV(i:laidOutB P=true){W:World}{sp:Nat->Bool}:∀ {c:List TypeId} {f:List Value} {g:List (DataW H)} {ps:List MemPlace},
  c.all (fun t=>P.readableRec t&&decide (t<P.types.size))=true->DataW.TrodAll enc P W 0 (fun _=>true) true c f g ps->(∀p∈ps,W.sameAt w' p)->(∀p∈ps,sp p.block=true)->DataW.TrodAll enc P w' 0 sp true c f g ps
 | [],[],[],_,_,h,_,_=>h
 | t::c,v::f,d::g,_,hr,h,hsame,hs=>by
  obtain⟨p,q,h1,h2,rfl⟩:=h;simp only[List.all_cons,tN,yI]at hr
  exact⟨p,q,WideElems.Trod_stays i hr.1.1 hr.1.2 h1 (fun x b=>hsame x (aE _ b)) (fun x b=>hs x (aE _ b)),
   zV i (by simpa using hr.2) h2 (fun x b=>hsame x (rE _ b)) (fun x b=>hs x (rE _ b)),rfl⟩
 | [],[],_::_,_,_,h,_,_=>h.elim
 | [],_::_,_,_,_,h,_,_=>by cases h
 | _::_,[],_,_,_,h,_,_=>by cases h
 | _::_,_::_,[],_,_,h,_,_=>by cases h
theorem aNW{f:Func}{s:ChangeSpec}{W:World}{args:Array Value}{i:List (DataW H)}{b:List MemPlace}
 (E:laidOutB P=true)(l:f.params.toList.all (fun t=>P.readableRec t&&decide (t<P.types.size))=true)(o:f.resultTypes=#[T])(r:P.underlying T=some .bool)(m:s.vars=[])
 (u:DataW.Whole enc P f.params.toList s.vars false W args.toList i [] b)
 (n:(s.fn H (i++[])).results=[.lit (.bool true)])(c:(s.fn H (i++[])).args=i)(d:(s.fn H (i++[])).vars=[])(F:Fr [] W w'):
  s.post enc P f false true false false W args (.bool true) w':=by
 have j:∀p∈b,p.block<W.heap.size:=fun p D=>u.lt p D;have v:Below W.heap.size W w':=F.below (tA _) (by simp);obtain⟨p,q,A,y,k,B,C⟩:=id u;have z:q=[]:=by rw[m]at y;exact y
 subst z;simp only[dI]at k;subst k;refine⟨i,[],b,[],b,[],u,?_,?_,?_,World.keptBut_mono (fun x g=>⟨g,.inr (.inl g)⟩) (v.frame (·∈b)),fun h=>by cases h⟩
 ·rw[n,o];exact trodAll_cons_mk (shut_bool r true) trodAll_mk0
 ·rw[c];exact zV E l A (fun x g=>v.same (j x g)) (fun x g=>by simpa using j x g)
 ·rw[d,m];rfl
theorem aGf{p:Nat->α->Prop}:∀n:Nat,(∀i,i<n->∃b,p i b)->∃l:List α,l.length=n/\∀(j:Nat) (u:α),l[j]? = some u->p j u
 | 0,_=>⟨[],rfl,fun j u h=>by simp at h⟩
 | n+1,h=>by
  obtain⟨l,f,g⟩:=aGf n (fun i hi=>h i (by omega));obtain⟨b,k⟩:=h n (by omega);refine⟨l++[b],by simp[f],fun j u c=>?_⟩
  by_cases m:j<n
  ·exact g j u (by rwa [kM (by omega)]at c)
  ·have d:=(tD.1 c).1;simp only[LN]at d;obtain rfl:j=n:=by omega
   rw[dK (by omega)]at c
   simp[f]at c
   rw[<- c];exact k
theorem aHj{w:World}{a:Addr}{v:Value}(h:w.cell? (a.add 0)=some v):∃g off,a=⟨g,off,none⟩:=by
 obtain⟨g,off,sp⟩:=a
 cases sp with
 | none=>exact⟨g,off,rfl⟩
 | some x=>
  exfalso
  simp only[Addr.add,mH,World.cell?]at h
  split at h<;>simp at h
theorem aNX(g off j:Nat):(⟨g,off,none⟩:Addr).add j=⟨g,off+j,none⟩:=by unfold Addr.add;split<;>simp_all
end
end
end Go.Proofs.YtebjhcjbfaaejaaGreatDoor
section
namespace Go
variable {H : Type} {enc : TypeId × Value -> H}
theorem rL {a:Assume} {C:Checked} {os:Os} {f:FuncId} {fn:Func} {s:ChangeSpec} {conds:List PathCond} {apart fresh handsOn again:Bool} {X:World -> Array Value -> Prop}
  (hX:∀ (w w':World) (args:Array Value),w.heap=w'.heap -> X w args -> X w' args)
  (own:ownKnob C.prog.godebug=none) (started:os.Started) (noInit:C.prog.inits.idxOf? f=none) (hfn:C.prog.funcs[f]? = some fn)
  (witness:∃ (w:World) (tape:Tape) (i:Input),w.os=os/\(w.forCall tape i).Shaped C.prog/\i.vars=[]/\Input.okWide C.prog (w.forCall tape i) .any w.heap.size f i /\
   ((s.pre enc C.prog fn conds apart (w.forCall tape i).memory i.args/\X (w.forCall tape i).memory i.args)/\sizedMet enc C.prog fn (OpenSpec.ofChange s) apart (w.forCall tape i).memory i.args)/\a.holds C.prog (lone (Frame.enter C.prog f i.args .normal) [] (w.forCall tape i)))
  (contract:∀ (W:World) (base:Nat) (args:Array Value) (ds gs:List (DataW H)) (before:List MemPlace),
   (∀ (j:Nat) t v,fn.params[j]? = some t -> args[j]? = some v -> Value.okWide C.prog W .any base t v) ->
   DataW.Whole enc C.prog fn.params.toList s.vars apart W args.toList ds gs before ->
   W.ShapedOpen C.prog -> X W args ->
   Calls C.prog f args W fun e W'=>∃ v,e=.returned v/\s.post enc C.prog fn apart fresh handsOn again W args v W'):
  ReturnsInHanded a C os f .any (fun w args=>(s.pre enc C.prog fn conds apart w args/\X w args)/\sizedMet enc C.prog fn (OpenSpec.ofChange s) apart w args) (s.post enc C.prog fn apart fresh handsOn again):=by
 refine returnsInHanded_of_calls own started noInit witness ?_;intro w tape i _ hsh _ hok hpre hholds;obtain⟨_,_,_,fn',hfn',_,_,_,_,hval⟩:=hok;have e:fn'=fn:=Option.some.inj (hfn'.symm.trans hfn);subst e;obtain⟨⟨⟨ds,gs,before,hw,hc⟩,hx⟩,hz⟩:=hpre;have hw':=DataW.Whole.of_heap (w':=w.forCall tape i) (by rfl) hw;refine(contract (w.forCall tape i) w.heap.size i.args ds gs before hval hw' hsh (hX _ _ _ (by rfl) hx)).mono fun e W' ⟨v,he,hp⟩=>?_;subst he;exact ChangeSpec.post_blind hp
end Go

end
namespace Go.Proofs.YtebjhcjbfaaejaaGreatDoor
open Go.Proofs.Tryz
variable {n k:Nat}{w':World}{v u:Value}{L:List Nat}{F:List Value}{T:TypeId}{α:Type}
section
open Go.RowKit Go.ChangeShapes
noncomputable def aV:List (String×DataW Unit):=[("unicode/utf8.acceptRanges",Rows.laid_unicode_utf8_acceptRanges),("unicode/utf8.first",Rows.laid_unicode_utf8_first)]
theorem aMp:∀W,laidMetH prog aV W=laidMet prog aV W:=fun W=>MakeChecks.laidMetH_plain _ _ _ (by kernel_rfl)
end
section
open Go.RowKit Go.ChangeShapes Go.WideShapes Go.Deep
theorem Fr.keep{W w:World}(b:Fr [] W w){p:Addr}{v:Value}(h:W.cell? p=some v):w.cell? p=some v:=by
 rw[b.cell (cF W _ h) (by simp)];exact h
section
variable {H : Type} {enc : TypeId × Value -> H} {P : Program}
theorem vX{W:World}{t e:TypeId}{g:Array Field}{v:Value}{x:DataW H×List MemPlace}(ht:P.underlying t=some (.slice e))(V:P.underlying e=some (.struct g))
 (o:oneCellFields P g=true)(X:P.cellsOf e=g.size)(h:DataW.trod enc P W 0 (fun _=>true) true k t [v]=some x):
  ∃(A:Option Addr) (len cap:Nat),v=.slice A len cap/\len<=cap/\cap<=maxLen/\(A=none->len=0) /\
   ∀i,i<len->∃a,A=some a/\∀(j:Nat) (f:Field),g[j]? = some f->∃(u:Value) (n:Nat) (y:DataW H×List MemPlace),W.cell? (a.add (i*g.size+j))=some u/\DataW.trod enc P W 0 (fun _=>true) true n f.type [u]=some y:=by
 rcases open_slice ht h with ⟨d,_⟩|⟨a,len,cap,m,n,D,Y,d,_,G,I,l,_,hi⟩
 ·obtain rfl:v=.slice none 0 0:=by simpa using d
  exact⟨none,0,0,rfl,tA _,rB _,fun _=>rfl,fun i hi=>absurd hi (by omega)⟩
 ·obtain rfl:v=.slice (some a) len cap:=by simpa using d
  simp only[mH]at l;subst l;refine⟨some a,len,m,rfl,G,I,fun h=>(by cases h),fun i U=>⟨a,rfl,fun j f z=>?_⟩⟩;obtain⟨b,B,r⟩:=hi i (by omega);rw[X]at B;obtain⟨C,J,L,Z,E,M,N⟩:=DataW.trod_struct V r;obtain⟨_,O,s⟩:=World.cells?_some B;obtain⟨Q,T⟩:=hone_of o j f z;have p:j<g.size:=(uI.1 z).1;have c:=s j p;have F:b[j]? = some (b[j]'(by omega)):=xD (by omega);have h1:=N j f z;rw[Q,T]at h1
  have h2:(b.drop j).take 1=[b[j]'(by omega)]:=by
   rw[zM (by omega)]
   rfl
  rw[h2]at h1;have q:C[j]? = some (C[j]'(by omega)):=xD (by omega);refine⟨_,J,_,?_,h1.trans q⟩;rw[<- Go.Deep.add_add,c,F]
end
end
section
open Go.RowKit
structure DM where
 S:List (List UInt8)
 P:List (Nat×List UInt8)
 limit:Int
 dead:Bool
 done:Nat
structure DM.ok (D:DM):Prop where
 some_:1<=D.S.length
 most:D.S.length<=65536
 sec:∀s∈D.S,s.length=64
 pend:∀p∈D.P,p.1<D.S.length/\p.2.length=64
 lim:-1<=D.limit
 lim':D.limit<=9223372036854775807
 few:D.P.length<=D.done
def pad (b:List UInt8):List UInt8:=b++List.replicate (64-b.length) 0
theorem aGg{b:List UInt8}(h:b.length<=64):(pad b).length=64:=by simp[pad];omega
def DM.new (n:Nat):DM:={ S:=List.replicate n (List.replicate 64 0),P:=[],limit:=-1,dead:=false,done:=0 }
def DM.spent (D:DM):DM:={ D with limit:=if 0<D.limit then D.limit-1 else D.limit,done:=D.done+1 }
def DM.died (D:DM):DM:={ D with dead:=true }
def DM.writeE (D:DM) (k:Int) (b:List UInt8):Int:=
 if D.dead then 10 else if k<0∨(D.S.length:Int)<=k∨64<b.length then 1 else if D.limit=0 then 10 else 0
def DM.write (D:DM) (k:Int) (b:List UInt8):DM:=
 if D.dead then D else if k<0∨(D.S.length:Int)<=k∨64<b.length then D else if D.limit=0 then D.died else { D.spent with P:=D.P++[(k.toNat,pad b)] }
def vB (S:List (List UInt8)) (P:List (Nat×List UInt8)):List (List UInt8):=P.foldl (fun S p=>S.set p.1 p.2) S
def DM.syncE (D:DM):Int:=if D.dead then 10 else if D.limit=0 then 10 else 0
def DM.sync (D:DM):DM:=if D.dead then D else if D.limit=0 then D.died else { D.spent with S:=vB D.S D.P,P:=[] }
def bG:List (Nat×List UInt8)->List Bool->List (Nat×List UInt8)
 | [],_=>[]
 | _,[]=>[]
 | p::P,b::K=>if b then p::bG P K else bG P K
def DM.reopen (D:DM) (keep:List Bool):DM:={ D with S:=vB D.S (bG D.P keep),P:=[],dead:=false,limit:=-1 }
def rJ (s:List UInt8) (P:List (Nat×List UInt8)) (k:Nat):List UInt8:=P.foldl (fun s p=>if p.1=k then p.2 else s) s
def DM.look (D:DM) (k:Nat):List UInt8:=rJ (D.S.getD k []) D.P k
def DM.readE (D:DM) (k:Int):Int:=if D.dead then 10 else if k<0∨(D.S.length:Int)<=k then 1 else 0
def DM.read (D:DM) (k:Int):List UInt8:=if D.readE k=0 then D.look k.toNat else []
theorem yD(P:List (Nat×List UInt8)):∀S,(vB S P).length=S.length:=by
 induction P with
 | nil=>intro S;rfl
 | cons p P b=>intro S;show(vB (S.set p.1 p.2) P).length=_;rw[b];simp
theorem qR(P:List (Nat×List UInt8)):∀S,(∀s∈S,s.length=64)->(∀p∈P,p.2.length=64)->∀s∈vB S P,s.length=64:=by
 induction P with
 | nil=>intro S h _;exact h
 | cons p P f=>
  intro S h b;refine f (S.set p.1 p.2) (fun s c=>?_) (fun q d=>b q (uC _ d));rcases List.mem_or_eq_of_mem_set c with h1|h1
  ·exact h s h1
  ·rw[h1];exact b p (sB ..)
theorem sL:∀(P:List (Nat×List UInt8)) (K:List Bool),∀p∈bG P K,p∈P
 | [],_,p,h=>by simp[bG]at h
 | q::P,[],p,h=>by simp[bG]at h
 | q::P,b::K,p,h=>by
  unfold bG at h
  split at h
  ·rcases kB.1 h with h|h
   ·rw[h];exact sB ..
   ·exact uC _ (sL P K p h)
  ·exact uC _ (sL P K p h)
theorem DM.ok_new(n:Nat)(h1:1<=n)(h2:n<=65536):(DM.new n).ok:=
 ⟨by simpa[DM.new]using h1,by simpa[DM.new]using h2,fun s b=>by simp[DM.new]at b;rw[b.2];simp,fun p c=>by simp[DM.new]at c,by simp[DM.new],by simp[DM.new],by simp[DM.new]⟩
theorem DM.ok_died{D:DM}(h:D.ok):D.died.ok:=⟨h.some_,h.most,h.sec,h.pend,h.lim,h.lim',h.few⟩
theorem DM.ok_write{D:DM}(h:D.ok)(k:Int)(b:List UInt8):(D.write k b).ok:=by
 unfold DM.write
 split
 ·exact h
 ·split
  ·exact h
  ·rename_i d
   split
   ·exact DM.ok_died h
   ·have h1:=h.lim;have h2:=h.lim';have h3:=h.few;refine⟨h.some_,h.most,h.sec,fun p c=>?_,?_,?_,?_⟩
    ·simp only[pD,aB]at c;rcases c with c|c
     ·exact h.pend p c
     ·subst c;exact⟨by show k.toNat<D.S.length;omega,aGg (by omega)⟩
    ·show -1<=(if 0<D.limit then D.limit-1 else D.limit);split<;>omega
    ·show(if 0<D.limit then D.limit-1 else D.limit)<=_;split<;>omega
    ·simp[DM.spent];omega
theorem DM.ok_sync{D:DM}(h:D.ok):D.sync.ok:=by
 unfold DM.sync
 split
 ·exact h
 ·split
  ·exact DM.ok_died h
  ·have h1:=h.lim;have h2:=h.lim';have h3:=h.few;refine⟨?_,?_,?_,?_,?_,?_,?_⟩
   ·simpa[yD]using h.some_
   ·simpa[yD]using h.most
   ·exact qR _ _ h.sec (fun p b=>(h.pend p b).2)
   ·intro p b;simp at b
   ·show -1<=(if 0<D.limit then D.limit-1 else D.limit);split<;>omega
   ·show(if 0<D.limit then D.limit-1 else D.limit)<=_;split<;>omega
   ·simp
theorem DM.ok_reopen{D:DM}(h:D.ok)(K:List Bool):(D.reopen K).ok:=
 ⟨by simpa[DM.reopen,yD]using h.some_,by simpa[DM.reopen,yD]using h.most,
  qR _ _ h.sec (fun p b=>(h.pend p (sL _ _ p b)).2),fun p b=>by simp[DM.reopen]at b,by simp[DM.reopen],by simp[DM.reopen],by simp[DM.reopen]⟩
theorem aAZ(P:List (Nat×List UInt8))(k:Nat):∀s,s.length=64->(∀p∈P,p.2.length=64)->(rJ s P k).length=64:=by
 induction P with
 | nil=>intro s h _;exact h
 | cons p P d=>
  intro s h b;refine d (if p.1=k then p.2 else s) ?_ (fun q c=>b q (uC _ c))
  split
  ·exact b p (sB ..)
  ·exact h
theorem DM.look_len{D:DM}(h:D.ok){k:Nat}(c:k<D.S.length):(D.look k).length=64:=by
 refine aAZ _ _ _ ?_ (fun p b=>(h.pend p b).2);rw[wP,xD c];exact h.sec _ (List.getElem_mem _)
theorem aCu{S:List (List UInt8)}(h:∀s∈S,s.length=64):S.flatten.length=S.length*64:=by
 induction S with
 | nil=>rfl
 | cons s S c=>
  simp only[bR,lB,gD];rw[c (fun x b=>h x (uC _ b)),h s (sB ..)];omega
theorem aQa{S:List (List UInt8)}(h:∀s∈S,s.length=64){k:Nat}(b:k<S.length):(S.flatten.drop (k*64)).take 64=S.getD k []:=by
 induction S generalizing k with
 | nil=>simp at b
 | cons s S f=>
  have c:=h s (sB ..)
  cases k with
  | zero=>simp[c]
  | succ k=>
   have e:(k+1)*64=s.length+k*64:=by omega
   rw[bR,e,List.drop_length_add_append,f (fun x d=>h x (uC _ d)) (by simpa using b)]
   rfl
theorem aNY{S:List (List UInt8)}(h:∀s∈S,s.length=64){k:Nat}(c:k<S.length){b:List UInt8}:
  S.flatten.take (k*64)++(b++S.flatten.drop (k*64+64))=(S.set k b).flatten:=by
 induction S generalizing k with
 | nil=>simp at c
 | cons s S j=>
  have d:=h s (sB ..)
  cases k with
  | zero=>
   simp only[bR,Nat.zero_mul,xT,eH,cC,List.set_cons_zero];rw[<- d,aN]
  | succ k=>
   have e:(k+1)*64=s.length+k*64:=by omega
   have f:(k+1)*64+64=s.length+(k*64+64):=by omega
   have g:∀x∈S,x.length=64:=fun x i=>h x (uC _ i);rw[bR,f,List.drop_length_add_append,e,List.take_length_add_append,List.set_cons_succ,bR,qF,j g (by simpa using c)]
theorem rR:(prog.info? 5).map (fun i=>(i.zero,i.size,i.bytes))=some (some (.int .u8 0),1,1):=by kernel_rfl
def lK (P:List (Nat×List UInt8)):List Value:=P.flatMap fun p=>.int .i64 (p.1:Int)::fA p.2
def mB (w:World) (d bb:Nat) (lv:Value) (D:DM):Prop:=
 Blk w d 70 [.slice (some ⟨bb,0,none⟩) (D.S.length*64) (D.S.length*64),lv,.int .i64 D.limit,.bool D.dead,.int .i64 (D.done:Int)] /\
 Blk w bb 5 (fA D.S.flatten)/\w.ownsRow 0 88 65 lv D.P.length (lK D.P)/\D.ok
def dfp (d bb:Nat) (lv:Value):List Nat:=d::bb::lv.ownBlock.toList
def fF (w:World) (d:Nat) (D:DM) (fp:List Nat):Prop:=∃bb lv,fp=dfp d bb lv/\mB w d bb lv D
def tK (w w':World) (d:Nat) (D:DM) (fp:List Nat):Prop:=∃fp',fF w' d D fp'/\Fr fp w w'/\∀k∈fp',k∈fp∨w.heap.size<=k
section
variable {w w' : World} {d bb : Nat} {lv : Value} {D : DM}
theorem mB.c0(h:mB w d bb lv D):w.cell? ⟨d,0,none⟩=some (.slice (some ⟨bb,0,none⟩) (D.S.length*64) (D.S.length*64)):=h.1.at_ rfl
theorem mB.c1(h:mB w d bb lv D):w.cell? ⟨d,1,none⟩=some lv:=h.1.at_ rfl
theorem mB.c2(h:mB w d bb lv D):w.cell? ⟨d,2,none⟩=some (.int .i64 D.limit):=h.1.at_ rfl
theorem mB.c3(h:mB w d bb lv D):w.cell? ⟨d,3,none⟩=some (.bool D.dead):=h.1.at_ rfl
theorem mB.c4(h:mB w d bb lv D):w.cell? ⟨d,4,none⟩=some (.int .i64 (D.done:Int)):=h.1.at_ rfl
theorem mB.free(h:mB w d bb lv D)(i:Nat):w.frozen? ⟨d,i,none⟩=false:=h.1.free i
theorem mB.ne1(h:mB w d bb lv D):d≠bb:=h.1.ne_ h.2.1 (by decide)
theorem mB.ne2(h:mB w d bb lv D):lv.ownBlock≠some d:=dX h.2.2.1 h.1 (by decide)
theorem mB.ne3(h:mB w d bb lv D):lv.ownBlock≠some bb:=dX h.2.2.1 h.2.1 (by decide)
theorem mB.fr{S:List Nat}(h:mB w d bb lv D)(b:Fr S w w')(c:∀k∈dfp d bb lv,k∉S:=by simp):mB w' d bb lv D:=
 ⟨h.1.fr b (c d (by simp[dfp])),h.2.1.fr b (c bb (by simp[dfp])),iB h.2.2.1 b (fun g f=>c g (by simp[dfp,f])),h.2.2.2⟩
theorem mB.lt(h:mB w d bb lv D):∀k∈dfp d bb lv,k<w.heap.size:=by
 intro k b;simp only[dfp,kB,Option.mem_toList]at b;rcases b with rfl|rfl|b
 ·exact h.1.lt
 ·exact h.2.1.lt
 ·exact sF h.2.2.1 k b
theorem fF.fr{S:List Nat}(h:fF w d D L)(b:Fr S w w')(c:∀k∈L,k∉S:=by simp):fF w' d D L:=by
 obtain⟨bb,lv,rfl,h⟩:=h;exact⟨bb,lv,rfl,h.fr b c⟩
theorem fF.lt(h:fF w d D L):∀k∈L,k<w.heap.size:=by
 obtain⟨bb,lv,rfl,h⟩:=h;exact h.lt
theorem fF.ok(h:fF w d D L):D.ok:=by
 obtain⟨bb,lv,rfl,h⟩:=h;exact h.2.2.2
theorem mB.turn{D':DM}(h:mB w d bb lv D)(f:D'.S=D.S)(l:D'.P=D.P)(b:D'.ok)
 (m:Blk w' d 70 [.slice (some ⟨bb,0,none⟩) (D.S.length*64) (D.S.length*64),lv,.int .i64 D'.limit,.bool D'.dead,.int .i64 (D'.done:Int)])(i:Fr [d] w w'):mB w' d bb lv D':=by
 have j:∀g,lv.ownBlock=some g->g∉[d]:=by
  intro g k c;simp only[aB]at c;subst c;exact h.ne2 k
 exact⟨by rw[f];exact m,by rw[f];exact h.2.1.fr i (by simp[h.ne1.symm]),by rw[l];exact iB h.2.2.1 i j,b⟩
end
theorem kK{w:World}{d:Nat}{D:DM}(h:mB w d n v D):
  Calls prog 29 #[.pointer (some ⟨d,0,none⟩)] w fun e w'=>e=.returned (.bool D.dead)/\w=w':=by
 have c0:=h.c0;have c3:=h.c3;have b:=h.2.2.2.some_;have c:(((D.S.length:Int)*64)==0)=false:=eI.2 (by omega);clear h
 go_enter func29,ntmps29
 go_wp2
 go_ret
 exact⟨rfl,rfl⟩
theorem aQb{w:World}{d:Nat}{D:DM}(h:mB w d n v D):
  Calls prog 11 #[.pointer (some ⟨d,0,none⟩)] w fun e w'=>e=.returned (.bool D.dead)/\w=w':=by
 go_enter func11,ntmps11
 go_wp2_with (go_at_call 29;refine(kK h).mono ?_;rintro e w' ⟨rfl,rfl⟩)
 go_ret
 exact⟨rfl,rfl⟩
theorem sR{w:World}{d:Nat}{D:DM}(h:mB w d n v D):
  Calls prog 49 #[.pointer (some ⟨d,0,none⟩)] w fun e w'=>e=.returned (.int .i64 (D.S.length:Int))/\w=w':=by
 have c0:=h.c0;have b:=h.2.2.2.some_;have c:=h.2.2.2.most;clear h
 go_enter func49,ntmps49
 go_wp2
 go_ret
 exact⟨by simp,rfl⟩
theorem aHk{w:World}{d:Nat}{D:DM}(h:mB w d n v D)(h0:D.limit=0):
  Calls prog 90 #[.pointer (some ⟨d,0,none⟩)] w fun e w'=>e=.returned (.bool false)/\mB w' d n v D.died/\Fr [d] w w':=by
 have c2:=h.c2;have c3:=h.c3;have c:=h.free 3;rw[h0]at c2;have H:=lh h;clear h;have f:=lh h0;clear h0
 go_enter func90,ntmps90
 go_wp2
 go_ret
 have b:Fr [d] w (w.setCell ⟨d,3,none⟩ (.bool true)):=(Fr.refl _ _).setCell (by simp) _;exact⟨rfl,H.o.turn rfl rfl (DM.ok_died H.o.2.2.2) (by simpa[DM.died]using H.o.1.set_ 3 (.bool true)) b,b⟩
theorem aEt{w:World}{d:Nat}{D:DM}(h:mB w d n v D)(h0:D.limit≠0)(q:D.done<1099511627776):
  Calls prog 90 #[.pointer (some ⟨d,0,none⟩)] w fun e w'=>e=.returned (.bool true)/\mB w' d n v D.spent/\Fr [d] w w':=by
 have c2:=h.c2;have c4:=h.c4;have j:=h.free 2;have k:=h.free 4;have l:=h.2.2.2.lim;have m:=h.2.2.2.lim';have p:(D.limit==0)=false:=by simpa using h0
 have b:D.spent.ok:=⟨h.2.2.2.some_,h.2.2.2.most,h.2.2.2.sec,h.2.2.2.pend,by simp only[DM.spent];split<;>omega,by simp only[DM.spent];split<;>omega,by have:=h.2.2.2.few;simp only[DM.spent];omega⟩;have H:=lh h;clear h;have c:=lh b;clear b
 by_cases i:0<D.limit
 ·have g:(w.setCell ⟨d,2,none⟩ (.int .i64 (D.limit-1))).cell? ⟨d,4,none⟩=some (.int .i64 (D.done:Int)):=by rw[World.cell?_setCell_other _ _ _ _ (by simp)];exact c4
  clear h0
  go_enter func90,ntmps90
  go_wp2
  go_ret
  have f:Fr [d] w ((w.setCell ⟨d,2,none⟩ (.int .i64 (D.limit-1))).setCell ⟨d,4,none⟩ (.int .i64 ((D.done:Int)+1))):=((Fr.refl _ _).setCell (by simp) _).setCell (by simp) _;exact⟨rfl,H.o.turn rfl rfl c.o (by simpa[DM.spent,i] using(H.o.1.set_ 2 (.int .i64 (D.limit-1))).set_ 4 (.int .i64 ((D.done:Int)+1))) f,f⟩
 ·clear h0
  go_enter func90,ntmps90
  go_wp2
  go_ret
  have f:Fr [d] w (w.setCell ⟨d,4,none⟩ (.int .i64 ((D.done:Int)+1))):=(Fr.refl _ _).setCell (by simp) _;exact⟨rfl,H.o.turn rfl rfl c.o (by simpa[DM.spent,show ¬ (0<D.limit) from by omega]using H.o.1.set_ 4 (.int .i64 ((D.done:Int)+1))) f,f⟩
section
variable {P : Program} {ops : Array Oper} {rest : List Oper} {o : Oper} {a : Act} {w : World} {Q : Exit -> Act -> World -> Prop}
theorem mA(d:o.guard=none)(t:TypeId)(j:o.op=.alloc t)(z:Value)(zs:Array Value)(g:(P.info? t).map (·.zero)=some (some z))(f:z.cells=zs)
 (h:wpList P ops Q rest (a.put o.dst (.pointer (some ⟨w.heap.size,0,none⟩))) (w.alloc (.cells zs t))):wpList P ops Q (o::rest) a w:=by
 subst f;refine Go.wpList_plain d fun K hK=>?_
 cases c:P.info? t with
 | none=>simp[c]at g
 | some i=>
  have b:i.zero=some z:=by simpa[c]using g
  unfold Oper.wp
  simp[execOp,j,Instr.alloc,zeroValue,typeInfo,c,b,newVar,newRow,Result.andThen]
  exact hK _ _ h
theorem aEj(c:o.guard=none)(t:TypeId)(i:Nat)(x:Operand)(d:o.op=.build t #[(i,x)])(v r:Value)(f:a.eval x=v)
 (b:(Instr.build t #[(i,v)]).run P w=.ok r w)(h:wpList P ops Q rest (a.put o.dst r) w):wpList P ops Q (o::rest) a w:=by
 refine Go.wpList_plain c fun K hK=>?_;unfold Oper.wp
 simp[execOp,d,f,b,Result.andThen]
 exact hK _ _ h
theorem vA{W:World}{zs:Array Value}{t':TypeId}(c:o.guard=none)(t:TypeId)(x y:Operand)(d:o.op=.store t x y)(cs:List Value)
 (f:a.eval x=.pointer (some ⟨W.heap.size,0,none⟩))(g:a.eval y=.agg cs.toArray)(i:w=W.alloc (.cells zs t'))
 (hi:(P.info? t).map (·.size)=some cs.length)(j:zs.size=cs.length)(h1:∀v∈cs,v.oneCell'=true)
 (h:∀w1,Blk w1 W.heap.size t' cs->Fr [] W w1->w1.heap.size=W.heap.size+1->wpList P ops Q rest (a.put o.dst undef) w1):wpList P ops Q (o::rest) a w:=by
 subst i;have b:=run_storeVar_row (P:=P) (W.alloc (.cells zs t')) W.heap.size t' t zs cs.toArray (Go.heap_alloc_new W _) (by simpa using hi) (by simpa using j) (Go.all_oneCell_toArray h1);refine Go.wpList_plain c fun K hK=>?_;unfold Oper.wp
 simp[execOp,d,f,g,Instr.storeAt,Instr.sureAddr,b,Result.andThen]
 refine hK _ _ (h _ ?_ ?_ ?_)
 ·rw[Go.World.setRow_alloc_new];exact Go.heap_alloc_new W _
 ·rw[Go.World.setRow_alloc_new];exact(Fr.refl _ _).alloc _
 ·rw[Go.World.setRow_alloc_new];simp
theorem aGh{dT sT ty:TypeId}(q:P.underlying dT=some (.slice T))(i:(P.info? T).map (·.size)=some 1)
 (n sp:Option Addr)(b d c f:Nat)(g off:Nat)(cur:List Value)(t:TypeId)(p:Blk w g t cur)(cs:List Value)(r:cs.length=Nat.min c b)
 (k:0<cs.length->n=some ⟨g,off,none⟩/\∃m,sp=some m/\∀j v,cs[j]? = some v->w.cell? (m.add j)=some v)
 (l:off+cs.length<=cur.length)(h1:∀v∈cs,v.oneCell'=true):
  ∃w',(Builtin.copy_ #[dT,sT] ty #[.slice n b d,.slice sp c f]).run P w=.ok (goInt cs.length) w'/\Blk w' g t (splice cur off cs)/\Fr [g] w w'/\w'.heap.size=w.heap.size:=by
 by_cases h0:cs.length=0
 ·obtain rfl:cs=[]:=cR h0;refine⟨w,by simpa using run_copy_none (P:=P) w dT sT ty T n sp b d c f q i (by simpa using r.symm),by simpa[splice]using p,Fr.refl _ _,rfl⟩
 ·obtain⟨rfl,m,rfl,h⟩:=k (by omega);refine⟨_,run_copy_row (P:=P) w dT sT ty T g off b d m c f cur.toArray t cs q i p r h (by simpa using l) h1,?_,(Fr.refl _ _).setRow (by simp) _,by simp[World.setRow]⟩
  simpa[splice]using p.row_ (cur.take off++(cs++cur.drop (off+cs.length)))
theorem kH(p:o.guard=none)(d s:Operand)(dT sT:TypeId)(z:o.op=.call { callee:=.builtin .copy,args:=#[d,s],argTypes:=#[dT,sT] })
 (f:TypeId)(A:P.underlying dT=some (.slice f))(q:(P.info? f).map (·.size)=some 1)
 (r sp:Option Addr)(b i c k:Nat)(B:a.eval d=.slice r b i)(C:a.eval s=.slice sp c k)
 (g off:Nat)(cur:List Value)(t:TypeId)(D:Blk w g t cur)(cs:List Value)(E:cs.length=Nat.min c b)
 (m:0<cs.length->r=some ⟨g,off,none⟩/\∃ad,sp=some ad/\∀j v,cs[j]? = some v->w.cell? (ad.add j)=some v)
 (n:off+cs.length<=cur.length)(h1:∀v∈cs,v.oneCell'=true)
 (h:∀w',Blk w' g t (splice cur off cs)->Fr [g] w w'->w'.heap.size=w.heap.size->wpList P ops Q rest (a.put o.dst (goInt cs.length)) w'):wpList P ops Q (o::rest) a w:=by
 obtain⟨w',l,u,x,y⟩:=aGh (P:=P) (w:=w) (sT:=sT) (ty:=o.type) A q r sp b i c k g off cur t D cs E m n h1;refine Go.wpList_plain p fun K hK=>?_;unfold Oper.wp
 simp[execOp,z,resolve,invoke,builtin,B,C,l,Result.andThen]
 exact hK _ _ (h w' u x y)
end
section
variable {P : Program} {o : Oper} {a : Act} {w : World} {K : Act -> World -> Prop} {Q : Exit -> Act -> World -> Prop}
theorem xB{v:Value}{w':World}(b:(execOp a.eval o).run P w=.ok (.value v) w')(h:K (a.put o.dst v) w'):Oper.wp P o a w K Q:=by
 unfold Oper.wp;rw[b];exact h
theorem pB{w':World}(b:(execOp a.eval o).run P w=.ok .skip w')(h:K (a.put o.dst undef) w'):Oper.wp P o a w K Q:=by
 unfold Oper.wp;rw[b];exact h
theorem aNZ(cs zs:List Value)(h:zs.length=cs.length):Instr.fill (fun i=>some (i*cs.length,cs.length)) zs.toArray [(0,.agg cs.toArray)]=some cs.toArray:=by
 have c:∀(L pre Z:List Value),Z.length=L.length->(L.zipIdx pre.length).foldl (fun(a:Array Value) (x:Value×Nat)=>a.setIfInBounds (0*cs.length+x.2) x.1) (pre++Z).toArray=(pre++L).toArray:=by
  intro L
  induction L with
  | nil=>intro pre Z b;obtain rfl:Z=[]:=cR (by simpa using b);simp
  | cons x L d=>
   intro pre Z b
   match Z,b with
   | z::Z,b=>
    simp only[List.zipIdx_cons,List.foldl_cons];have e:(pre++z::Z).toArray.setIfInBounds (0*cs.length+pre.length) x=(pre++[x]++Z).toArray:=by simp
    rw[e];have:=d (pre++[x]) Z (by simpa using b);simp only[lB,gD,List.length_nil,cC]at this;rw[this]
    simp
 have h0:=c cs [] zs h;simp only[List.length_nil,eH]at h0;simp only[Instr.fill,Value.cells,eT,Nat.zero_mul,cC,h,dR,ne_eq,not_true_eq_false,decide_false,Bool.or_self,qG,dE,gt_iff_lt];rw[Array.zipIdx_toArray,<- Array.foldl_toList]
 simpa using h0
theorem aEk{t e:TypeId}{i:TypeInfo}{z:Value}(ht:P.underlying t=some (.slice e))(hi:P.info? e=some i)(f:i.zero=some z)(cs:List Value)(g:i.size=cs.length)(j:z.cells.size=cs.length)
 (h0:0<cs.length)(m:cs.length<=16777216):
  (Instr.buildSlice t 1 #[(0,.agg cs.toArray)]).run P w=.ok (.slice (some ⟨w.heap.size,0,none⟩) 1 1) (w.alloc (.cells cs.toArray e)):=by
 have c:((Array.range (1*cs.length)).map (z.cells[·%z.cells.size]!)).toList.length=cs.length:=by simp
 have b:=aNZ cs _ c;rw[Array.toArray_toList]at b;have k:¬ (1*cs.length=0):=by omega
 have l:¬ (1*cs.length > 2^24):=by omega
 have n2:¬ (16777216<cs.length):=by omega
 have d:cs≠[]:=by intro h;subst h;simp at h0
 simp only[Nat.one_mul]at b
 simp[Instr.buildSlice,Go.run_underlying ht,sizeOf,typeInfo,hi,g,zeroValue,f,newRow,n2,d,b]
theorem dD{t e:TypeId}(x:Operand)(d:o.op=.buildSlice t 1 #[(0,x)]){i:TypeInfo}{z:Value}(ht:P.underlying t=some (.slice e))(hi:P.info? e=some i)(f:i.zero=some z)(cs:List Value)(g:a.eval x=.agg cs.toArray)
 (j:i.size=cs.length)(c:z.cells.size=cs.length)(h0:0<cs.length)(k:cs.length<=16777216)
 (h:K (a.put o.dst (.slice (some ⟨w.heap.size,0,none⟩) 1 1)) (w.alloc (.cells cs.toArray e))):Oper.wp P o a w K Q:=by
 have b:=aEk (P:=P) (w:=w) ht hi f cs j c h0 k;refine xB (v:=.slice (some ⟨w.heap.size,0,none⟩) 1 1) (w':=w.alloc (.cells cs.toArray e)) ?_ h
 simp[execOp,d,g,b,Result.andThen]
end
theorem aCv(L cs:List α)(h:L.length=cs.length):splice L 0 cs=cs:=by
 simp[splice,wZ,h]
theorem aMq:(prog.info? 88).map (fun i=>(i.size,i.bytes))=some (65,72):=by kernel_rfl
def zpc:Array Value:=(.int .i64 0::List.replicate 64 (.int .u8 0)).toArray
def zp:Value:=.agg zpc
theorem dQ:(prog.info? 88).map (·.zero)=some (some zp):=by kernel_rfl
theorem aQc:zpc.size=65:=rfl
theorem sJ:(prog.info? 88).map (·.size)=some 65:=by kernel_rfl
theorem bL:(prog.info? 5).map (·.size)=some 1:=by kernel_rfl
theorem new_no(n:Int)(w:World)(h:n<1∨65536<n):
  Calls prog 8 #[.int .i64 n] w fun e w'=>e=.returned (.tuple #[.pointer none,.int .i64 1])/\w=w':=by
 by_cases h1:n<1
 ·clear h
  go_enter func8,ntmps8
  go_wp2
  go_ret2
  exact⟨rfl,rfl⟩
 ·have h2:65536<n:=by omega
  clear h
  go_enter func8,ntmps8
  go_wp2
  go_ret2
  exact⟨rfl,rfl⟩
theorem bV(n:Nat):(madeCells #[Value.int .u8 0] (n*64)).toList=fA (DM.new n).S.flatten:=by
 have b:(DM.new n).S.flatten=List.replicate (n*64) 0:=List.flatten_replicate_replicate;rw[b]
 apply fT
 intro i;simp only[madeCells,fA,List.map_replicate,List.getElem?_replicate,Array.getElem?_toList]
 by_cases hi:i<n*64
 ·simp[hi,B8,Nat.mod_one]
 ·simp[hi]
theorem aRz(n:Nat)(w:World)(h1:1<=n)(f:n<=65536):
  Calls prog 8 #[.int .i64 n] w fun e w'=>∃d fp,e=.returned (.tuple #[.pointer (some ⟨d,0,none⟩),.int .i64 0])/\fF w' d (DM.new n) fp/\Fr [] w w'/\∀k∈fp,w.heap.size<=k:=by
 have b:=run_make_row' (P:=prog) 67 5 (.int .u8 0) 1 Go.Proofs.Tryz.underlying67 rR rfl .i64 .i64 (n*64) (by omega) (by omega);simp only[Int.natCast_mul,Int.cast_ofNat_Int]at b
 go_enter func8,ntmps8
 go_wp2
 go_ret2
 refine⟨w.heap.size+1,dfp (w.heap.size+1) w.heap.size (.slice none 0 0),rfl,⟨w.heap.size,.slice none 0 0,rfl,?_,?_,vF _ _ _ _,DM.ok_new n h1 f⟩,((Fr.refl _ _).alloc _).alloc _,by simp[dfp,Value.ownBlock]⟩
 ·have c:(DM.new n).S.length=n:=by simp[DM.new]
  rw[c];exact heap_alloc2_new w _ _
 ·have:=heap_alloc2_old w (.cells (madeCells #[Value.int .u8 0] (n*64)) 5) (.cells #[Value.slice (some ⟨w.heap.size,0,none⟩) (n*64) (n*64),Value.slice none 0 0,Value.int IntKind.i64 (-1),Value.bool false,Value.int IntKind.i64 0] 70);unfold Blk;rw[<- bV]
  simpa using this
theorem aAr{w:World}{d:Nat}{D:DM}(h:mB w d n v D)(k:Nat)(c:k<D.S.length):
  Calls prog 38 #[.pointer (some ⟨d,0,none⟩),.int .i64 k] w fun e w'=>e=.returned (.slice (some ⟨n,k*64,none⟩) 64 64)/\w=w':=by
 have c0:=h.c0;have b:=h.2.2.2.most;clear h
 go_enter func38,ntmps38
 go_wp2
 go_ret
 refine⟨?_,rfl⟩
 show Ending.returned (.slice (some ⟨n,k*64,none⟩) ((k+1)*64-k*64) ((k+1)*64-k*64))=_
 rw[show(k+1)*64-k*64=64 from by omega]
theorem aAs{b:List (Nat×List UInt8)}(h:∀p∈b,p.2.length=64){k:Nat}{p:Nat×List UInt8}(d:b[k]? = some p){j:Nat}(i:j<65):
  (lK b)[k*65+j]? = (Value.int .i64 (p.1:Int)::fA p.2)[j]?:=by
 induction b generalizing k with
 | nil=>simp at d
 | cons q b f=>
  have h0:=h q (sB ..);have c:(Value.int .i64 (q.1:Int)::fA q.2).length=65:=by simp[kA,h0]
  simp only[lK,nH]at f⊢
  cases k with
  | zero=>
   obtain rfl:q=p:=by simpa using d
   rw[Nat.zero_mul,cC,kM (by rw[c];exact i)]
  | succ k=>
   rw[dK (by rw[c];omega),c,show(k+1)*65+j-65=k*65+j from by omega];exact f (fun x g=>h x (uC _ g)) (by simpa using d)
theorem aEl(A B:List (Nat×List UInt8)):lK (A++B)=lK A++lK B:=by simp[lK]
theorem fU(p:Nat×List UInt8):∀v∈(Value.int .i64 (p.1:Int)::fA p.2),v.oneCell'=true:=by
 intro v b;rcases kB.1 b with h|h
 ·subst h;rfl
 ·exact yC _ v h
def z64:List Value:=fA (List.replicate 64 0)
theorem wX:z64.length=64:=by simp[z64,kA]
theorem aRA(w:World):(Instr.makeSlice 67 (.int .i64 64) (.int .i64 64)).run prog w=.ok (.slice (some ⟨w.heap.size,0,none⟩) 64 64) (w.alloc (.cells z64.toArray 5)):=by
 have h:=run_make_row' (P:=prog) 67 5 (.int .u8 0) 1 Go.Proofs.Tryz.underlying67 rR rfl .i64 .i64 64 (by omega) (by omega) w
 have e:madeCells #[Value.int .u8 0] 64=z64.toArray:=by
  have:=bV 1;have b:(DM.new 1).S.flatten=List.replicate 64 0:=by simp[DM.new]
  rw[b,Nat.one_mul]at this;rw[z64,<- this]
 rw[e]at h;exact h
def aOa (w:World) (b:List UInt8) (e:Ending) (w':World):Prop:=
 ∃g,e=.returned (.tuple #[.slice (some ⟨g,0,none⟩) 64 64,.int .i64 0])/\w.heap.size<=g/\Blk w' g 5 (fA b)/\Fr [] w w'
theorem aMr(s:List UInt8)(b:List (Nat×List UInt8))(k j:Nat)(p:Nat×List UInt8)(d:b[j]? = some p):rJ s (b.take (j+1)) k=if p.1=k then p.2 else rJ s (b.take j) k:=by
 have c:j<b.length:=(tD.1 d).1
 have e:b.take (j+1)=b.take j++[p]:=by
  rw[jP c];rw[xD c]at d;simp only[vI]at d;rw[d]
 simp[e,rJ]
def aQd (w:World) (d bb g:Nat) (lv:Value) (D:DM) (s0:List UInt8) (k:Nat) (i:Value) (wr:World):Prop:=
 ∃j:Nat,j<=D.P.length/\i=.int .i64 j/\Blk wr g 5 (fA (rJ s0 (D.P.take j) k))/\Fr [] w wr/\mB wr d bb lv D
theorem aQe{w:World}{d:Nat}{D:DM}(h:mB w d n u D)(c4:D.dead=false)(k:Nat)(hk:k<D.S.length):
  Calls prog 113 #[.pointer (some ⟨d,0,none⟩),.int .i64 k] w (aOa w (D.look k)):=by
 have y:=h.2.2.2;have g2:=y.most;have c5:=aRA;obtain⟨A,c,rfl,c9,b1⟩:=sA h.2.2.1;have a1:=h.lt
 have r:(D.S.getD k []).length=64:=by
  rw[wP,xD hk];exact y.sec _ (List.getElem_mem _)
 have Q:∀j v,(fA (D.S.getD k []))[j]? = some v->w.cell? ⟨n,k*64+j,none⟩=some v:=by
  intro j v hj;refine h.2.1.at_ ?_;have b2:j<64:=by have:=(tD.1 hj).1;rw[kA,r]at this;exact this
  rw[<- aQa y.sec hk,pM,bJ,xG,iA b2,xJ]at hj;exact hj
 have b:D.look k=rJ (D.S.getD k []) D.P k:=rfl;generalize D.S.getD k []=O at r Q b;have c6:=h.2.1.lt;have a2:∀x∈dfp d n (.slice A D.P.length c),x∉[w.heap.size]:=fun x hx hm=>by have:=a1 x hx;simp only[aB]at hm;omega
 have h1:∀X,mB (w.alloc X) d n (.slice A D.P.length c) D:=fun X=>h.fr ((Fr.refl [] w).alloc X);have H1:=lh h1;clear h1;have a3:=lh a2;clear a2;have b3:=lh Q;clear Q;have b4:=lh b;clear b;have s:=lh r;clear r;have H:=lh h;have T:=lh y;clear a1 h y;have c7:D.P.length<=9223372036854775807:=by unfold maxLen at b1;omega
 clear b1
 go_enter func113,ntmps113
 go_wp2_with (first
  | (go_at_call 29;refine(kK H.o).mono ?_;rintro e w' ⟨rfl,rfl⟩)
  | (go_at_call 49;refine(sR H.o).mono ?_;rintro e w' ⟨rfl,rfl⟩)
  | (go_at_call 38;refine(aAr (H1.o _) k hk).mono ?_;rintro e w' ⟨rfl,rfl⟩)
  | (with_reducible refine kH rfl (.tmp 22) (.tmp 25) 67 67 rfl 5 Go.Proofs.Tryz.underlying67 bL _ _ _ _ _ _ rfl rfl w.heap.size 0 z64 5 ?cg (fA O) ?cn ?cp ?cf (yC _) ?_))
 case cg=>exact Blk.new w _ z64
 case cn=>rw[kA,s.o];rfl
 case cp=>
  intro _ j v hj;exact b3.o j v hj
 case cf=>rw[kA,s.o,wX];omega
 intro w1 f m Y;rw[aCv _ _ (by rw[kA,s.o,wX])]at f;have J:Fr [] w w1:=((Fr.refl [] w).alloc _).trans m;have t:mB w1 d n (.slice A D.P.length c) D:=(H1.o _).fr m a3.o;have c1:=t.c1;have b5:=lh f;clear f;have b6:=lh J;clear J m;have z:=lh t;clear t;have c8:=lh Y;clear Y;go_wp2_with fail
 go_loopw [32] (aQd w d n w.heap.size (.slice A D.P.length c) D O k) (fun i _=>D.P.length-(intOf i).toNat)
 case atStart=>exact⟨0,rB _,rfl,b5.o,b6.o,z.o⟩
 case round=>
  obtain⟨j,hj,rfl,hb,hf,hd⟩:=hrel
  by_cases c3:j<D.P.length
  ·obtain⟨p,hp⟩:=gx (l:=D.P) c3;obtain⟨g,rfl,F⟩:=tE hd.2.2.1 (by omega);have G:=(T.o.pend p (rG hp)).2
   have hc:wr.rangeAt g (j*65) (Value.int .i64 (p.1:Int)::fA p.2):=fun i v hi=>by
    have b7:i<65:=by have:=(tD.1 hi).1;simpa[kA,G]using this
    exact F _ v (by rw[aAs (fun q hq=>(T.o.pend q hq).2) hp b7];exact hi)
   have L:(Value.int .i64 (p.1:Int)::fA p.2).length=65:=by simp[kA,G]
   have HC:=lh hc;clear hc F;have B:=lh L;clear L;have HB:=lh hb;clear hb;have HF:=lh hf;clear hf;have a4:=lh hd;clear hd;have HP:=lh hp;clear hp;have U:=lh G;clear G
   go_wp2_with (first
    | (with_reducible refine Go.wpList_load_mid rfl 88 (.tmp 34) rfl g (j*65) rfl (Value.int .i64 (p.1:Int)::fA p.2) _ HC.o Go.Proofs.Tryz.underlying88 rfl (sJ.trans (by rw[B.o])) ?_)
    | (with_reducible refine mA rfl 88 rfl zp zpc dQ rfl ?_)
    | (with_reducible refine vA (W:=wr) rfl 88 (.tmp 8) (.tmp 35) rfl (Value.int .i64 (p.1:Int)::fA p.2) rfl rfl rfl (sJ.trans (by rw[B.o])) ?zl (fU p) ?_))
   case zl=>rw[B.o];rfl
   intro w1 f m Y;have b8:w1.cell? ⟨wr.heap.size,0,none⟩=some (.int .i64 (p.1:Int)):=f.at_ rfl;have M:∀i v,(fA p.2)[i]? = some v->w1.cell? ⟨wr.heap.size,1+i,none⟩=some v:=fun i v hi=>f.at_ (by rw[Nat.add_comm];simpa using hi);have a5:Blk w1 w.heap.size 5 (fA (rJ O (D.P.take j) k)):=HB.o.fr m;have t:mB w1 d n (.slice (some ⟨g,0,none⟩) D.P.length c) D:=a4.o.fr m;have a6:Fr [] w w1:=HF.o.trans m;have C:=aMr O D.P k j p HP.o
   have a7:(fA (rJ O (D.P.take j) k)).length=64:=by
    rw[kA];exact aAZ _ _ _ s.o (fun q hq=>(T.o.pend q (rO hq)).2)
   have E:=lh C;clear C;have a8:=lh M;clear M;have a9:=lh a5;clear a5;have a':=lh a7;clear a7;have z:=lh t;clear t;have V:=lh a6;clear a6;clear f a4 HB HF H1
   by_cases I:p.1=k
   ·have e1:(((p.1:Int))==(k:Int))=true:=beq_iff_eq.2 (by omega);have b9:=lh I;clear I
    go_wp2_with (with_reducible refine kH rfl (.tmp 40) (.tmp 42) 67 67 rfl 5 Go.Proofs.Tryz.underlying67 bL _ _ _ _ _ _ rfl rfl w.heap.size 0 (fA (rJ O (D.P.take j) k)) 5 a9.o (fA p.2) ?cn2 ?cp2 ?cf2 (yC _) ?_)
    case cn2=>rw[kA,U.o];rfl
    case cp2=>exact fun _ i v hi=>a8.o i v hi
    case cf2=>rw[kA,U.o,a'.o];omega
    intro w2 Z a0 c2;rw[aCv _ _ (by rw[a'.o,kA,U.o])]at Z;have b0:=z.o.fr a0 a3.o;have N:Fr [] w w2:=V.o.trans a0;have R:Blk w2 w.heap.size 5 (fA (rJ O (D.P.take (j+1)) k)):=by rw[E.o,iA b9.o];exact Z
    have HR:=lh R;clear R;have b':=lh N;clear N;have c0:=lh b0;clear b0 Z a0 c2 b8 c1 z V
    go_wp2
    go_roundw
    case rel=>exact⟨j+1,by omega,by go_num,HR.o,b'.o,c0.o⟩
    case measure=>simp[intOf];omega
   ·have e1:(((p.1:Int))==(k:Int))=false:=eI.2 (by omega);have R:Blk w1 w.heap.size 5 (fA (rJ O (D.P.take (j+1)) k)):=by rw[E.o,eA I];exact a9.o
    have HR:=lh R;clear R I
    go_wp2
    go_roundw
    case rel=>exact⟨j+1,by omega,by go_num,HR.o,V.o,z.o⟩
    case measure=>simp[intOf];omega
  ·have HB:=lh hb;clear hb;have HF:=lh hf;clear hf;clear hd c1
   go_wp2
   go_ret2
   refine⟨w.heap.size,rfl,tA _,?_,HF.o⟩;have e:D.P.take j=D.P:=zF (by omega);have:=HB.o;rw[e,<- b4.o]at this;exact this
def jN (md:Region.Mode) (ops:Array Oper) (I:List Nat) (j:Nat):Bool:=
 I.any fun i=>i !=j&&(match ops[j]? with|some o=>o.after.all fun e=>!(Region.binds md e&&e.on==i)|none=>false)
section
variable {P : Program} {ops : Array Oper} {Q : Exit -> Act -> World -> Prop} {md : Region.Mode} {S : World -> Prop} {I : List Nat}
def tF (P:Program) (md:Region.Mode) (ops:Array Oper) (Q:Exit->Act->World->Prop) (S:World->Prop) (I:List Nat):Nat->Array Bool->Act->World->Prop
 | 0,listed,a,w=>Region.ready md ops listed=[]/\Q .normal a w
 | fuel+1,listed,a,w=>
  (Region.ready md ops listed=[]->Q .normal a w) /\
  ∀i∈Region.ready md ops listed,wpOp P ops Q i (fun a' w'=>(jN md ops I i=true->S w')/\tF P md ops Q S I fuel (listed.setIfInBounds i true) a' w') a w
theorem eX:∀(b:Nat) (c:Array Bool) (a:Act) (w:World),tF P md ops Q S I b c a w->wpAny P md ops Q b c a w
 | 0,_,_,_,h=>h
 | b+1,_,_,_,h=>⟨h.1,fun i hi=>wpOp_mono (fun d w' f=>eX b _ d w' f.2) (h.2 i hi)⟩
theorem aJJ{i j:Nat}{d:Oper}(k:i∈I)(f:j≠i)(g:ops[j]? = some d)(b:∀e∈d.after,Region.binds md e=true->e.on≠i):jN md ops I j=true:=by
 unfold jN;rw[List.any_eq_true];refine⟨i,k,?_⟩;rw[g];have h1:(i !=j)=true:=by simpa using(Ne.symm f)
 have h2:(d.after.all fun e=>!(Region.binds md e&&e.on==i))=true:=by
  rw[Array.all_eq_true_iff_forall_mem];intro e h;have:=b e h
  by_cases c:Region.binds md e=true
  ·simp[c,this c]
  ·simp[c]
 show(i !=j&&_)=true
 rw[h1,Bool.true_and];exact h2
theorem aGi{i:Nat}{u:Oper}{v:Value}(U:i∈I)(hi:ops[i]? = some u)(r:∀(j:Nat) (o:Oper) cs b,ops[j]? = some o->o.op≠.select cs b)
 (V:∀c a w,Q (.panic c) (a.put u.dst v) w->Q (.panic c) a w):
  ∀(g:Nat) (d:Array Bool) (a:Act) (w:World),
   (∀j s,ops[j]? = some s->j≠i->d.getD j true=false->(∀e∈s.after,Region.binds md e=true->e.on≠i)->u.apart ops s=true) ->
   i∈Region.ready md ops d->YieldsIf P ops S u v a->S w ->
   tF P md ops Q S I g (d.setIfInBounds i true) (a.put u.dst v) w->tF P md ops Q S I (g+1) d a w:=by
 intro g
 induction g with
 | zero=>
  intro d a w _ t C z H;refine⟨fun h=>(by rw[h]at t;cases t),fun j D=>?_⟩
  by_cases f:j=i
  ·subst f;exact C.wpOp hi z ⟨fun _=>z,H⟩
  ·have:=ready_mono D f;rw[H.1]at this
   cases this
 | succ g T=>
  intro d a w l t C z H;refine⟨fun h=>(by rw[h]at t;cases t),fun j D=>?_⟩
  by_cases f:j=i
  ·subst f;exact C.wpOp hi z ⟨fun _=>z,H⟩
  ·have h1:=H.2 j (ready_mono D f);obtain⟨q,s,n,y⟩:=mem_ready.1 D
   have p:∀e∈s.after,Region.binds md e=true->e.on≠i:=fun e L M F=>by
    have h1:=y e L M;have h0:=(mem_ready.1 t).1;rw[F]at h1;rcases iP i d.size with E|E
    ·simp[E]at h0 h1;rw[h0]at h1;cases h1
    ·simp[Array.getElem?_eq_none E]at h1
   have x:jN md ops I j=true:=aJJ U f n p;have h2:=wpOp_putIf n (l j s n f q p) (fun cs b=>r i u cs b hi) (fun cs b=>r j s cs b n) V C h1
   have m:∀k ok,ops[k]? = some ok->k≠i->(d.setIfInBounds j true).getD k true=false ->
     (∀e∈ok.after,Region.binds md e=true->e.on≠i)->u.apart ops ok=true:=fun k ok N G A J=>by
    refine l k ok N G ?_ J
    by_cases B:j=k
    ·subst B;exact q
    ·rw[getD_set_ne true B]at A;exact A
   refine wpOp_mono (fun O w' h3=>⟨fun _=>h3.2.1 x,T (d.setIfInBounds j true) O w' m (ready_mono t (Ne.symm f)) h3.1 (h3.2.1 x) ?_⟩) h2;rw[Array.setIfInBounds_comm _ _ f];exact h3.2.2
theorem qA{i:Nat}(d:Option Tmp)(v:Value){f:Oper}{b:Array Bool}{a:Act}{w:World}(hi:ops[i]? = some f)(k:f.dst=d)
 (g:(Region.noSelect ops&&Region.free md ops b i&&(Region.ready md ops b).contains i&&I.contains i)=true)
 (l:∀c a w,Q (.panic c) (a.put d v) w->Q (.panic c) a w)(m:S w)(o:YieldsIf P ops S f v a)
 (h:tF P md ops Q S I n (b.setIfInBounds i true) (a.put d v) w):tF P md ops Q S I (n+1) b a w:=by
 subst k;simp only[tN]at g;obtain⟨⟨⟨h1,h2⟩,h3⟩,j⟩:=g;exact aGi (by simpa using j) hi (Region.noSelect_spec h1) l n b a w (Region.free_spec hi h2) (by simpa using h3) o m h
theorem xA{j:Nat}(d:Option Tmp){o:Oper}{b:Array Bool}{a:Act}{w:World}(f:ops[j]? = some o)(g:o.dst=d)(c:Region.ready md ops b=[j])(k:o.guard=none)
 (h:∀K:Act->World->Prop,(∀v w',(jN md ops I j=true->S w')->tF P md ops Q S I n (b.setIfInBounds j true) (a.put d v) w'->K (a.put o.dst v) w')->Oper.wp P o a w K Q):
  tF P md ops Q S I (n+1) b a w:=by
 subst g;refine⟨fun h0=>absurd (c▸h0) (by simp),fun i hi=>?_⟩;rw[c]at hi;obtain rfl:i=j:=by simpa using hi
 refine wpOp_step f fun K hK=>?_;rw[iA (by simp[Region.wanted,k])];exact h K (fun v w' h1 h2=>hK _ w' ⟨h1,h2⟩)
theorem aHl{b:Array Bool}{a:Act}{w:World}(c:Region.ready md ops b=[])(h:Q .normal a w):∀fuel,tF P md ops Q S I fuel b a w
 | 0=>⟨c,h⟩
 | _+1=>⟨fun _=>h,by rw[c];simp⟩
theorem lA(S:World->Prop)(I:List Nat){a:Act}{w:World}(b:P.follows .mixedOrders=true)
 (h:tF P .any ops Q S I ops.size (Array.replicate ops.size false) a w.drew):(Code.region n ops true).wp P Q a w:=
 wp_region_any b (eX _ _ _ _ h)
end
theorem nrm:(∀(a:Act) (t:Tmp) (v:Value),a.put (some t) v={ a with tmps:=a.tmps.setIfInBounds t v })/\(∀(a:Act) (v:Value),a.put none v=a)/\(∀(l:List Value) (i:Nat) (x:Value),l.toArray.setIfInBounds i x=(l.set i x).toArray) /\
  (∀(a x:Value) (l:List Value),(a::l).set 0 x=x::l)/\∀(a x:Value) (l:List Value) (i:Nat),(a::l).set (i+1) x=a::l.set i x:=
 ⟨fun _ _ _=>rfl,fun _ _=>rfl,fun _ _ _=>List.setIfInBounds_toArray ..,fun _ _ _=>List.set_cons_zero ..,fun _ _ _ _=>List.set_cons_succ ..⟩

section
variable {P : Program} {md : Region.Mode} {ops : Array Oper} {Q : Exit -> Act -> World -> Prop} {S : World -> Prop} {I : List Nat}
def aAt (_:List Nat) (P:Program) (md:Region.Mode) (ops:Array Oper) (Q:Exit->Act->World->Prop) (S:World->Prop) (I:List Nat) (fuel:Nat) (listed:Array Bool) (a:Act) (w:World):Prop:=tF P md ops Q S I fuel listed a w
theorem tks(l:List Nat){b:Array Bool}{a:Act}{w:World}(h:aAt l P md ops Q S I n b a w):tF P md ops Q S I n b a w:=h
theorem tke{b:Array Bool}{a:Act}{w:World}(h:tF P md ops Q S I n b a w):aAt [] P md ops Q S I n b a w:=h
theorem tk{i:Nat}{l:List Nat}{t:Tmp}{v:Value}{d:Oper}{b:Array Bool}{a:Act}{w:World}(hi:ops[i]? = some d)(f:d.dst=some t)
 (g:S w)(j:Region.wanted d (yielded ops a.tmps)=true)(k:∀W,S W->(execOp a.eval d).run P W=.ok (.value v) W)
 (h:aAt l P md ops Q S I n (b.setIfInBounds i true) (a.put (some t) v) w)
 (m:(Region.noSelect ops&&Region.free md ops b i&&(Region.ready md ops b).contains i&&I.contains i)=true:=by kernel_rfl)(o:∀c a w,Q (.panic c) (a.put (some t) v) w->Q (.panic c) a w:=by exact fun _ _ _ h=>h):aAt (i::l) P md ops Q S I (n+1) b a w:=
 qA (i:=i) (some t) v hi f m o g (.inl ⟨j,k⟩) h
theorem tu{i:Nat}{l:List Nat}{t:Tmp}{d:Oper}{b:Array Bool}{a:Act}{w:World}(hi:ops[i]? = some d)(f:d.dst=some t)
 (g:S w)(j:Region.wanted d (yielded ops a.tmps)=false)
 (h:aAt l P md ops Q S I n (b.setIfInBounds i true) (a.put (some t) undef) w)
 (k:(Region.noSelect ops&&Region.free md ops b i&&(Region.ready md ops b).contains i&&I.contains i)=true:=by kernel_rfl)(m:∀c a w,Q (.panic c) (a.put (some t) undef) w->Q (.panic c) a w:=by exact fun _ _ _ h=>h):aAt (i::l) P md ops Q S I (n+1) b a w:=
 qA (i:=i) (some t) undef hi f k m g (.inr ⟨j,rfl⟩) h
theorem tv(i:Nat)(v:Value){t:Tmp}{d:Oper}{b:Array Bool}{a:Act}{w:World}(hi:ops[i]? = some d)(f:d.dst=some t)
 (g:S w)(j:YieldsIf P ops S d v a)
 (h:tF P md ops Q S I n (b.setIfInBounds i true) (a.put (some t) v) w)
 (k:(Region.noSelect ops&&Region.free md ops b i&&(Region.ready md ops b).contains i&&I.contains i)=true:=by kernel_rfl)(l:∀c a w,Q (.panic c) (a.put (some t) v) w->Q (.panic c) a w:=by exact fun _ _ _ h=>h):tF P md ops Q S I (n+1) b a w:=
 qA (i:=i) (some t) v hi f k l g j h
theorem wd{b:Array Bool}{a:Act}{w:World}(h:Q .normal a w)(c:Nat)(d:Region.ready md ops b=[]:=by kernel_rfl):tF P md ops Q S I c b a w:=aHl d h c
theorem lp{rest:List Oper}{o:Oper}{a:Act}{w:World}(h:∀K:Act->World->Prop,(∀a w,wpList P ops Q rest a w->K a w)->o.wp P a w K Q)(b:o.guard=none:=by rfl):wpList P ops Q (o::rest) a w:=Go.wpList_plain b h
theorem sp(j:Nat){t:Tmp}{o:Oper}{b:Array Bool}{a:Act}{w:World}(c:ops[j]? = some o)(d:o.dst=some t)(f:o.guard=none)
 (h:∀K:Act->World->Prop,(∀v w',(jN md ops I j=true->S w')->tF P md ops Q S I n (b.setIfInBounds j true) (a.put (some t) v) w'->K (a.put o.dst v) w')->Oper.wp P o a w K Q)(g:Region.ready md ops b=[j]:=by kernel_rfl):
  tF P md ops Q S I (n+1) b a w:=
 xA (j:=j) (some t) c d g f h
end
end
end Go.Proofs.YtebjhcjbfaaejaaGreatDoor
