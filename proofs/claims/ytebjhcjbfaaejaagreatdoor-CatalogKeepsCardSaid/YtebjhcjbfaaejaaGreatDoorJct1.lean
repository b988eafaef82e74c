/-
  Joined: Base Row CcN ArgOps Dm DiskA Laws DiskB Region DiskC DiskD DiskE Jm Bits BitsB Ja CallF LawsB Jb Jc
-/
import Derived.WalkKit
import Derived.WalkSpells
import Derived.WalkLawsBesides
import Derived.Lib.Hide
import Derived.Deep.AppendLies
import Derived.Deep.QuietTactic
import Derived.BigQuiet
import Derived.Laws.CopyOwn
import Derived.Deep.OwnRows
import Derived.Deep.DeepCutAuto
import Derived.Deep.LoopGhost
import Derived.ProofKit
import Derived.OpenShut
import Derived.Deep.Slices
import Derived.Deep.Fields
import Derived.ChangeSame
import Derived.Carry
import Derived.Test.YtebjhcjbfaaejaaGreatDoorRows
import Derived.Shelf.Vars
import Derived.MakeChecks
import Derived.LaidMore
import Derived.Lay
import Derived.Stop.Joined
import Derived.Test.YtebjhcjbfaaejaaGreatDoorProg
import Derived.Deep.MidRow
import Derived.Deep.WholeRow
import Derived.StillTailTactics
import Derived.OrdersHeld
import Derived.RegionTactic
set_option maxRecDepth 100000
set_option maxHeartbeats 32000000
open Go.Value renaming int->ii,slice->si,pointer->pi,tuple->tl,bool->ij,agg->il
open Go.IntKind renaming i64->ip,u32->iq,u8->ix,wrap->Wi
open Go.Obj renaming cells->iy
open Go.Ending renaming returned->iz
open Or renaming inl->Ii,inr->Ij
open List renaming length->li,replicate->ji,take_succ_cons->oH,take_zero->yI,map_cons->xJ,length_nil->qP,flatten_cons->cT,eq_nil_of_length_eq_zero->eT,set_cons_succ->aAR,foldl_cons->aAT,map_nil->aAX,map_toArray->aGW,getElem_mem->aKT,drop_length_add_append->aKU
open UInt8 renaming ofNat->Ot,toNat_inj->xP
open Go renaming info_parts->oJ,wpList_plain->vP,heap_alloc_new->aGO,wpList_load_mid->aGQ,all_oneCell_toArray->aKV
open Nat renaming le_succ->aAY,add_comm->aCX,pow_le_pow_right->aDb,zero_mul->aGP,and_le_right->aLa
open Go.Proofs.Tryz renaming underlying88->aGR
open Go.World renaming setRow_alloc_new->aKW
namespace Go.Proofs.YtebjhcjbfaaejaaGreatDoor
open Go.Proofs.Tryz
variable {n k i:Nat}{w':World}{v u:Value}{L:List Nat}{F:List Value}{T:TypeId}{α:Type}
theorem eA.{u}{c:Prop}{h:Decidable c}(hnc:¬c){α:Sort u}{t e:α}:(if c then t else e)=e:=if_neg hnc
theorem iA.{u}{c:Prop}{h:Decidable c}(hc:c){α:Sort u}{t e:α}:(if c then t else e)=t:=if_pos hc
theorem tA (n:Nat):n<=n:=Nat.le_refl n
theorem xA.{u_1}{α:Type u_1}{a b:α}:a ∈ [b]↔a=b:=List.mem_singleton
theorem bB.{u_1}{αq:Type u_1}{b:αq}{l:List αq}{a:αq}:a ∈ b :: l↔a=b ∨ a ∈ l:=List.mem_cons
theorem iB.{u}{α:Type u}{as_ bs:List α}:(as_ ++ bs).length=as_.length + bs.length:=List.length_append
theorem yB (n:Int):Go.IntKind.i64.wrap n=(n + 9223372036854775808) % 18446744073709551616 - 9223372036854775808:=Go.IntKind.wrap_i64 n
theorem eC.{u_1}{α:Type u_1}{a:α}{l:List α}:a ∈ a :: l:=List.mem_cons_self
theorem bD.{u}{α:Type u}{a:α}{as_:List α}:(a :: as_).length=as_.length + 1:=List.length_cons
theorem jD.{u_1}{α:Type u_1}(y:α){a:α}{l:List α}:a ∈ l->a ∈ y :: l:=List.mem_cons_of_mem y
theorem nB (n:Nat):0 + n=n:=Nat.zero_add n
theorem pB.{u_1}{α:Type u_1}{i:Nat}{l:List α}:(List.take i l).length=min i l.length:=List.length_take
theorem qB (w:Go.World)(o:Go.Obj):(w.alloc o).heap.size=w.heap.size + 1:=Go.World.size_alloc w o
theorem sB {P:Go.Program}{Q:Go.Exit->Go.Act->Go.World->Prop}{a:Go.Act}{w:Go.World}{id:Nat}{l:List Go.Oper}(h:Go.wpList P l.toArray Q l a w):Go.Code.wp P (Go.Code.region id l.toArray false) Q a w:=Go.wp_region_lit h
theorem uB (n:Nat):0<=n:=Nat.zero_le n
theorem vB.{u_1}{α:Type u_1}{i:Nat}{l:List α}:(List.drop i l).length=l.length - i:=List.length_drop
theorem wB {P:Go.Program}{ops:Array Go.Oper}{Q:Go.Exit->Go.Act->Go.World->Prop}{a:Go.Act}{w:Go.World}(h:Q Go.Exit.normal a w):Go.wpList P ops Q [] a w:=Go.wpList_nil h
theorem dC (p:Prop):(p ∨ False)=p:=or_false p
theorem kC.{u_1}{α:Type u_1}{a:α}:¬a ∈ []:=List.not_mem_nil
theorem oC.{u_1}{α:Type u_1}(l:List α):l.Sublist l:=List.Sublist.refl l
theorem uC.{u_1}{α:Type u_1}{i:Nat}{a:α}{l:List α}:l[i]?=some a↔∃ (h:i<l.length),l[i]=a:=List.getElem?_eq_some_iff
theorem qD {P:Go.Program}{fn:Go.Func}{R:Go.Ending->Go.World->Prop}{a:Go.Act}{w:Go.World}{v:Go.Value}(hr:Go.Sem.run P (Go.results fn a.tmps) w=Go.Result.ok v w)(hd:a.defers=[])(hR:R (Go.Ending.returned v) w):Go.bodyPost P fn R Go.Exit.ret a w:=Go.bodyPost_ret hr hd hR
theorem sD.{u_1}{α:Type u_1}{a:α}{s t:List α}:a ∈ s ++ t↔a ∈ s ∨ a ∈ t:=List.mem_append
theorem vD {n m k:Nat}:n<=m->m<=k->n<=k:=Nat.le_trans
theorem kE.{u_1}{α:Type u_1}{l:List α}{i:Nat}(h:i<l.length):l[i]?=some l[i]:=List.getElem?_eq_getElem h
theorem lE.{u_1}{α:Type u_1}[BEq α][LawfulBEq α]{a b:α}:(a == b)=false↔a ≠ b:=beq_eq_false_iff_ne
theorem tE.{u}{α:Type u}{val valq:α}:some val=some valq->val=valq:=Option.some.inj
theorem yE.{u}{α:Type u}{a:α}{as_:List α}(bs:List α):a ∈ as_->a ∈ as_ ++ bs:=List.mem_append_left bs
theorem eF.{u_1}{α:Sort u_1}{xq:Decidable False}(t e:α):(if False then t else e)=e:=if_false t e
theorem kF.{u_1}{α:Type u_1}{l:List α}{i:Nat}{a:α}(e:l[i]?=some a):a ∈ l:=List.mem_of_getElem? e
theorem lF.{u}{α:Type u}{R:α->α->Prop}{a:α}{l:List α}:List.Pairwise R (a :: l)↔(∀ (a':α),a' ∈ l->R a a')/\List.Pairwise R l:=List.pairwise_cons
theorem tF.{u}{α:Type u}{b:α}(as_:List α){bs:List α}:b ∈ bs->b ∈ as_ ++ bs:=List.mem_append_right as_
theorem uF.{u}{α:Type u}(as_ bs cs:List α):as_ ++ bs ++ cs=as_ ++ (bs ++ cs):=List.append_assoc as_ bs cs
theorem xF (w:Go.World)(a:Go.Addr){u:Go.Value}(h:w.cell? a=some u):a.block<w.heap.size:=Go.World.block_lt_of_cell? w a h
theorem zF.{u_1}{α:Type u_1}{i:Nat}{l:List α}(h:l.length<=i):List.take i l=l:=List.take_of_length_le h
theorem nG.{u}{α:Type u}(as_:List α):[] ++ as_=as_:=List.nil_append as_
theorem uG {p:Prop}[Decidable p]:(decide p=true)=p:=decide_eq_true_eq
theorem vG.{u_1}{α:Sort u_1}{xq:Decidable True}(t e:α):(if True then t else e)=t:=if_true t e
theorem xG.{u,v}{α:Type u}{β:Type v}{x:α}{xs:List α}{f:α->List β}:List.flatMap f (x :: xs)=f x ++ List.flatMap f xs:=List.flatMap_cons
theorem yG.{u}{α:Type u}(val valq:α):(some val=some valq)=(val=valq):=Option.some.injEq val valq
theorem cH.{u_1,u_2}{α:Type u_1}{β:Type u_2}{as_:List α}(f:α->β):(List.map f as_).length=as_.length:=List.length_map f
theorem jH.{u}{α:Type u}(as_:List α):as_ ++ []=as_:=List.append_nil as_
theorem nH : (false=true)=False:=Bool.false_eq_true
theorem uH.{u_1}{α:Type u_1}{l:List α}{i j:Nat}:(List.take i l)[j]?=if j<i then l[j]? else none:=List.getElem?_take
theorem vH {p:Prop}[Decidable p]:¬p->decide p=false:=decide_eq_false
theorem eI {p:Prop}{xq:Decidable p}:decide p=false↔¬p:=decide_eq_false_iff_not
theorem kI.{u_1,u_2}{α:Type u_1}{β:Type u_2}{b:β}{f:α->β}{l:List α}:b ∈ List.map f l↔∃ (a:α),a ∈ l/\f a=b:=List.mem_map
theorem lI.{u}{α:Type u}{a:α}{as_ bs:List α}:a :: as_ ++ bs=a :: (as_ ++ bs):=List.cons_append
theorem wI.{u_1,u_2}{α:Type u_1}{β:Type u_2}{f:α->β}{l:List α}{i:Nat}:(List.map f l)[i]?=Option.map f l[i]?:=List.getElem?_map
theorem mJ.{u_1}{α:Type u_1}{l₁ l₂:List α}{i:Nat}:l₁.length<=i->(l₁ ++ l₂)[i]?=l₂[i - l₁.length]?:=List.getElem?_append_right
theorem nJ.{u_1}{α:Type u_1}[BEq α][LawfulBEq α]{a b:α}:(a != b)=true↔a ≠ b:=bne_iff_ne
theorem pJ.{u_1}{α:Type u_1}{a:α}{i:Nat}{l:List α}(h:a ∈ List.drop i l):a ∈ l:=List.mem_of_mem_drop h
theorem wJ.{u_1}{α:Type u_1}{i:Nat}{b:α}{xs:Array α}:xs[i]?=some b↔∃ (h:i<xs.size),xs[i]=b:=Array.getElem?_eq_some_iff
theorem yJ {p:Prop}[inst:Decidable p]:p->decide p=true:=decide_eq_true
theorem yK.{u_1}{α:Type u_1}{l₁ l₂:List α}{i:Nat}(hn:i<l₁.length):(l₁ ++ l₂)[i]?=l₁[i]?:=List.getElem?_append_left hn
theorem zK.{u_1}{α:Type u_1}{xs:List α}{i j:Nat}:(List.drop i xs)[j]?=xs[i + j]?:=List.getElem?_drop
theorem aL {a b:Nat}(h:a<b):a % b=a:=Nat.mod_eq_of_lt h
theorem bL.{u_1}{α:Type u_1}(i:Nat)(l:List α):List.take i l ++ List.drop i l=l:=List.take_append_drop i l
theorem dL.{u_1}{α:Type u_1}[BEq α]{a:α}{l₁ l₂:List α}:List.count a (l₁ ++ l₂)=List.count a l₁ + List.count a l₂:=List.count_append
theorem iL {n m k:Nat}:n<m->m<=k->n<k:=Nat.lt_of_lt_of_le
theorem jL (n:Int):Go.IntKind.u8.wrap n=n % 256:=Go.IntKind.wrap_u8 n
theorem lL.{u_1}{α:Type u_1}[BEq α]{a b:α}{l:List α}:List.count a (b :: l)=List.count a l + if (b == a)=true then 1 else 0:=List.count_cons
theorem xL.{u_1}{α:Type u_1}{l₁ l₂:List α}:List.take l₁.length (l₁ ++ l₂)=l₁:=List.take_left
theorem gM.{u_1}{α:Type u_1}[BEq α][LawfulBEq α]{l₁ l₂:List α}:l₁.Perm l₂↔∀ (a:α),List.count a l₁=List.count a l₂:=List.perm_iff_count
theorem xM.{u_1}{α:Type u_1}{i:Nat}{l:List α}(h:i<l.length):List.drop i l=l[i]:: List.drop (i + 1) l:=List.drop_eq_getElem_cons h
theorem yM.{u_1}{α:Type u_1}{i:Nat}{a:α}{l:List α}(h:a ∈ List.take i l):a ∈ l:=List.mem_of_mem_take h
theorem tN (a b:Bool):((a && b)=true)=(a=true/\b=true):=Bool.and_eq_true a b
theorem uN {n:Nat}{P:Go.Program}{f:Go.FuncId}{args:Array Go.Value}{w:Go.World}{R:Go.Ending->Go.World->Prop}:Go.CallsIn Go.Fence.wide n P f args w R↔Go.Calls P f args w R:=Go.callsIn_wide
theorem rO.{u_1}{α:Type u_1}{l₁ l₂:List α}:List.drop l₁.length (l₁ ++ l₂)=l₂:=List.drop_left
theorem sO.{u_1}{α:Type u_1}{i:Nat}{l:List α}(h:l.length<=i):List.drop i l=[]:=List.drop_of_length_le h
theorem tO.{u_1,u_2}{α:Type u_1}{β:Type u_2}(a:α)(f:α->β):Option.map f (some a)=some (f a):=Option.map_some a f
theorem uO.{u_1}{αq:Type u_1}{l:List αq}:l.length=0↔l=[]:=List.length_eq_zero_iff
theorem rP.{u_1}{αq:Type u_1}{p:αq->Bool}{a:αq}{l:List αq}(h:¬p a=true):List.find? p (a :: l)=List.find? p l:=List.find?_cons_of_neg h
theorem tQ.{u_1,u_2}{α:Type u_1}{β:Type u_2}{f:α->β}{l₁ l₂:List α}:List.map f (l₁ ++ l₂)=List.map f l₁ ++ List.map f l₂:=List.map_append
theorem uQ {n m:Nat}(p:n=m):n<=m:=Nat.le_of_eq p
theorem vQ {p:Prop}[Decidable p]:decide p=true↔p:=decide_eq_true_iff
theorem vR.{u_1}{α:Type u_1}{l:List α}{i:Nat}{a:α}:l.getD i a=l[i]?.getD a:=List.getD_eq_getElem?_getD
theorem xR.{u_1}{α:Type u_1}{p:α->Bool}{l:List α}:List.takeWhile p l ++ List.dropWhile p l=l:=List.takeWhile_append_dropWhile
theorem yR : (true=false)=False:=Bool.true_eq_false
theorem vU.{u_1}{α:Type u_1}{l₁ l₂:List α}(h:∀ (i:Nat),l₁[i]?=l₂[i]?):l₁=l₂:=List.ext_getElem? h
theorem gO {a b:Nat}(h:a<=b):min a b=a:=Nat.min_eq_left h
theorem iO (w n:Nat):BitVec.ofInt w ↑n=BitVec.ofNat w n:=BitVec.ofInt_natCast w n
theorem jO (x w:Nat):(BitVec.ofNat w x).toNat=x % 2 ^ w:=BitVec.toNat_ofNat x w
theorem kO {m n:Nat}:m ∈ List.range n↔m<n:=List.mem_range
theorem lO {a b:Bool}:a=b↔(a=true↔b=true):=Bool.eq_iff_iff
theorem pO.{u_1}{α:Type u_1}(p:α->Bool)(l:List α):(List.filter p l).length<=l.length:=List.length_filter_le p l
theorem yP (n m k:Nat):n + m + k=n + (m + k):=Nat.add_assoc n m k
theorem zP.{u_1}{α:Type u_1}{a:α}{l:List α}:(a :: l)[0]?=some a:=List.getElem?_cons_zero
theorem bQ.{u_1}{αq:Type u_1}{p:αq->Bool}{a:αq}{l:List αq}(h:p a=true):List.find? p (a :: l)=some a:=List.find?_cons_of_pos h
theorem cQ {n:Nat}:(UInt8.ofNat n).toNat=n % 2 ^ 8:=UInt8.toNat_ofNat'
theorem dQ.{u_1}{α:Type u_1}(l:List α):[].Sublist l:=List.nil_sublist l
theorem iR (n m:Nat):n<m ∨ n ≥ m:=Nat.lt_or_ge n m
theorem jR.{u_1}{α:Type u_1}{i:Nat}{l:List α}(h:i<l.length):List.take (i + 1) l=List.take i l ++ [l[i]]:=List.take_succ_eq_append_getElem h
theorem fT (n:Nat):¬n<n:=Nat.lt_irrefl n
theorem gT.{u_1}{αq:Type u_1}{l:List αq}{i:Nat}(h:l.length<=i):l[i]?=none:=List.getElem?_eq_none h
theorem iT (n:Nat):n=0 ∨ n > 0:=Nat.eq_zero_or_pos n
theorem lT (b:Bool):((!b)=true)=(b=false):=Bool.not_eq_true' b
theorem fV.{u_1}{αq:Type u_1}{a b:αq}:(some a).getD b=a:=Option.getD_some
theorem gV (n:Nat):n + 0=n:=Nat.add_zero n
theorem kV.{u}{α:Type u}{n:Nat}{a:α}:(List.replicate n a).length=n:=List.length_replicate
theorem mY (n:Nat):n - n=0:=Nat.sub_self n
theorem aBb.{u}{α:Type u}{a:α}:[a].length=1:=List.length_singleton
theorem aBh.{u_1}{αq:Type u_1}{a:αq}:Array.replicate 0 a=#[]:=Array.replicate_zero
theorem aBo {n m:Nat}(h:n<m):n.succ<=m:=Nat.succ_le_of_lt h
theorem aDe (n m:Nat):n + m - n=m:=Nat.add_sub_cancel_left n m
theorem ak{x y:Int}(h:(x+9223372036854775808)%18446744073709551616-9223372036854775808=y:=by omega):Wi ip x=y:=(IntKind.wrap_i64 x).trans h
instance:Coe Nat Value:=⟨fun n=>.int .i64 n⟩
instance:Coe Int Value:=⟨fun n=>.int .i64 n⟩
instance:Coe Nat Addr:=⟨fun n=>⟨n,0,none⟩⟩
instance:Coe World Addr:=⟨fun w=>⟨w.heap.size,0,none⟩⟩
instance:Coe World Nat:=⟨fun w=>w.heap.size⟩
section
open Go.RowKit
structure Fr (S:List Nat) (w w':World):Prop where
 os:w'.os=w.os
 tape:w'.tape=w.tape
 output:w'.output=w.output
 size:w.heap.size<=w'.heap.size
 block:∀k,k<w.heap.size->k∉S->w'.heap[k]? = w.heap[k]?
theorem Fr.refl(S:List Nat)(w:World):Fr S w w:=⟨rfl,rfl,rfl,tA _,λ_ _ _=>rfl⟩
theorem jj(S:List Nat)(w:World):Fr S w w:=.refl _ _
theorem Fr.trans{S T:List Nat}{a b c:World}(h:Fr S a b)(k:Fr T b c)(d:∀x∈T,x∈S∨a<=x:=by simp):Fr S a c:=
 ⟨k.os.trans h.os,k.tape.trans h.tape,k.output.trans h.output,vD h.size k.size,λf i j=>
  (k.block f (iL i h.size) (λl=>by
   obtain g|g:=d f l;·exact j g
   omega)).trans (h.block f i j)⟩
theorem Fr.mono{S T:List Nat}{a b:World}(h:Fr S a b)(c:∀x∈S,x∈T∨a<=x):Fr T a b:=
 ⟨h.os,h.tape,h.output,h.size,λf d g=>h.block f d (λi=>by
  obtain d|d:=c f i;·exact g d
  omega)⟩
theorem Fr.drew{S:List Nat}{a b:World}(h:Fr S a b):Fr S a b.drew:=⟨h.os,h.tape,h.output,h.size,h.block⟩
theorem Fr.drewN{S:List Nat}{a b:World}(h:Fr S a b)(n:Nat):Fr S a (b.drewN n):=⟨h.os,h.tape,h.output,h.size,h.block⟩
theorem Fr.alloc{S:List Nat}{a b:World}(h:Fr S a b)(f:Obj):Fr S a (b.alloc f):=⟨h.os,h.tape,h.output,vD h.size (by simp),λc d g=>(Below.heap_alloc b f c (iL d h.size)).trans (h.block c d g)⟩
theorem Fr.setCell{S:List Nat}{a b:World}(h:Fr S a b){p:Addr}(c:p.block∈S∨a<=p.block)(u:Value):Fr S a (b.setCell p u):=
 ⟨h.os,h.tape,h.output,by simpa[World.setCell]using h.size,λd g f=>(Below.heap_setCell b p u d (λe=>by
  obtain c|c:=c;·exact f (e▸c)
  omega)).trans (h.block d g f)⟩
theorem Fr.setRow{S:List Nat}{a b:World}(h:Fr S a b){g:Nat}(c:g∈S∨a<=g)(cs:Array Value):Fr S a (b.setRow g cs):=
 ⟨h.os,h.tape,h.output,by simpa[World.setRow]using h.size,λd i f=>(setRow_other b g d cs (λe=>by
  obtain c|c:=c;·exact f (e▸c)
  omega)).trans (h.block d i f)⟩
theorem Fr.grown{S:List Nat}{a b c:World}(h:Fr S a b){row:Option Nat}(d:b.grownBy c row)(f:∀g,row=some g->g∈S∨a<=g):Fr S a c:=
 ⟨d.os.trans h.os,d.tape.trans h.tape,d.output.trans h.output,vD h.size d.size,λi k l=>
  (d.block i (iL k h.size) (λe=>by
   obtain j|j:=f i e.symm;·exact l j
   omega)).trans (h.block i k l)⟩
theorem Fr.below{S:List Nat}{a b:World}{B:Nat}(h:Fr S a b)(d:B<=a)(c:∀x∈S,B<=x):Below B a b:=⟨h.os,h.tape,h.output,h.size,λf i=>h.block f (by omega) (λg=>by have:=c f g;omega)⟩
theorem Fr.of_below{a b:World}(h:Below a a b)(S:List Nat):Fr S a b:=⟨h.os,h.tape,h.output,h.size,λc d _=>h.block c d⟩
theorem Fr.cell{S:List Nat}{a b:World}(h:Fr S a b){p:Addr}(c:p.block<a)(d:p.block∉S):b.cell? p=a.cell? p:=World.cell?_of_block (w:=a) (h.block p.block c d)
def Blk (w:World) (g:Nat) (t:TypeId) (cs:List Value):Prop:=w.heap[g]? = some (.cells cs.toArray t (0,0))
section
variable {w:World}{g:Nat}{t:TypeId}{cs:List Value}
theorem Blk.lt(h:Blk w g t cs):g<w:=by
 obtain b|c:=iR g w;·exact b
 unfold Blk at h;rw[Array.getElem?_eq_none c]at h;cases h
theorem Blk.cell(h:Blk w g t cs)(i:Nat):w.cell? ⟨g,i,none⟩=cs[i]?:=by unfold Blk at h;simp[World.cell?,h]
theorem Blk.at_(h:Blk w g t cs){i:Nat}{v:Value}(c:cs[i]? = some v):w.cell? ⟨g,i,none⟩=some v:=(h.cell i).trans c
theorem Blk.a(h:Blk w g t cs)(i:Nat){v:Value}(c:cs[i]? = some v:=by exact rfl):w.cell? ⟨g,i,none⟩=some v:=h.at_ c
theorem Blk.free(h:Blk w g t cs)(i:Nat):w.frozen? ⟨g,i,none⟩=false:=by unfold Blk at h;simp[World.frozen?,h]
theorem Blk.new(w:World)(t:TypeId)(cs:List Value):Blk (w.alloc (.cells cs.toArray t)) w t cs:=by exact aGO w _
theorem jl(w:World)(t:TypeId)(cs:List Value):Blk (w.alloc (.cells cs.toArray t)) w t cs:=Blk.new w t cs
theorem Blk.fr{S:List Nat}(h:Blk w g t cs)(c:Fr S w w')(d:g∉S:=by simp):Blk w' g t cs:=(c.block g h.lt d).trans h
theorem Blk.drew(h:Blk w g t cs):Blk w.drew g t cs:=h
theorem Blk.drewN(h:Blk w g t cs)(n:Nat):Blk (w.drewN n) g t cs:=h
theorem Blk.alloc(h:Blk w g t cs)(b:Obj):Blk (w.alloc b) g t cs:=(Below.heap_alloc w b g h.lt).trans h
theorem Blk.set_(h:Blk w g t cs)(i:Nat)(u:Value):Blk (w.setCell ⟨g,i,none⟩ u) g t (cs.set i u):=by unfold Blk at h⊢;simp[World.setCell,Array.getElem?_modify,h]
theorem Blk.far(h:Blk w g t cs){p:Addr}(c:g≠p.block)(u:Value):Blk (w.setCell p u) g t cs:=(Below.heap_setCell w p u g c).trans h
theorem Blk.row_(h:Blk w g t cs)(c:List Value):Blk (w.setRow g c.toArray) g t c:=setRow_heap w g _ _ t _ h
theorem Blk.row_far(h:Blk w g t cs){q:Nat}(d:g≠q)(c:Array Value):Blk (w.setRow q c) g t cs:=(setRow_other w q g c d).trans h
theorem Blk.grown{row:Option Nat}(h:Blk w g t cs)(c:w.grownBy w' row)(d:some g≠row):Blk w' g t cs:=(c.block g h.lt d).trans h
theorem Blk.ne_{t':TypeId}(h:Blk w g t cs)(c:Blk w n t' F)(d:t≠t'):g≠n:=by rintro rfl;unfold Blk at h c;rw[h]at c;injection c with c;injection c with _ b;exact d b
end
theorem fB{S:List Nat}{w w':World}{e:TypeId}{b n:Nat}{v:Value}(h:w.ownsRow k e b v n F)(l:Fr S w w')(m:∀g,v.ownBlock=some g->g∉S):w'.ownsRow k e b v n F:=by
 refine⟨h.1,?_⟩;obtain b|⟨g,f,i,d,j,c,o⟩:=h.2;·exact Ii b
 refine Ij ⟨g,f,i,d,j,?_,o⟩;have b:g<w:=by
  obtain b|f:=iR g w;·exact b
  rw[Array.getElem?_eq_none f]at c;cases c
 rw[l.block g b (m g (by subst d;rfl))];exact c
theorem aG{w:World}{e:TypeId}{b n:Nat}{v:Value}(h:w.ownsRow k e b v n F):∀g,v.ownBlock=some g->g<w:=by
 intro g d;obtain⟨rfl,_⟩|⟨b,i,j,rfl,_,c,_⟩:=h.2;·simp[Value.ownBlock]at d
 have:b=g:=by simpa[Value.ownBlock]using d
 subst this;obtain d|f:=iR b w;·exact d
 rw[Array.getElem?_eq_none f]at c;cases c
theorem tY{w:World}{e:TypeId}{b n:Nat}{v:Value}{g:Nat}{t:TypeId}{cs:List Value}(h:w.ownsRow k e b v n F)(l:Blk w g t cs)(d:e≠t):v.ownBlock≠some g:=by
 obtain⟨rfl,_⟩|⟨b,i,j,rfl,_,c,_⟩:=h.2;·simp[Value.ownBlock]
 intro f;have:b=g:=by simpa[Value.ownBlock]using f
 subst this;have b:=l;unfold Blk at b;rw[c]at b;injection b with b;injection b with _ b;exact d b
theorem gD(w:World)(c:Nat)(e:TypeId)(b:Nat):w.ownsRow c e b (si none 0 0) 0 []:=⟨by simp,Ii ⟨rfl,rfl⟩⟩
theorem jA{w:World}{e:TypeId}{b n:Nat}{v:Value}(h:w.ownsRow k e b v n F):∃a c,v=si a n c/\n<=c/\c<=maxLen:=by
 obtain⟨rfl,rfl⟩|⟨f,g,i,rfl,_,j,b,d,_⟩:=h.2;·exact⟨_,_,rfl,tA _,uB _⟩
 exact⟨_,_,rfl,b,d⟩
theorem tD{w:World}{e:TypeId}{b n:Nat}{a:Option Addr}{c:Nat}(h:w.ownsRow k e b (si a n c) n F)(p:0<n): ∃g,a=some ⟨g,0,none⟩/\∀(j:Nat) (u:Value),F[j]? = some u->w.cell? ⟨g,j,none⟩=some u:=by
 obtain⟨b,l⟩|⟨g,m,o,d,_,f,q,r,s,i⟩:=h.2;·omega
 injection d with b d t;refine⟨g,b,λj u b=>?_⟩;simp only[World.cell?,f];rw[<- i]at b;rw[uH]at b;split at b;·simpa using b
 cases b
def B8 (c:UInt8):Value:=.int .u8 (c.toNat:Int)
def gA (l:List UInt8):List Value:=l.map B8
theorem nA(l:List UInt8):li (gA l)=li l:=by simp[gA]
theorem sH(l:List UInt8)(i:Nat):(gA l)[i]? = (l[i]?).map B8:=by simp[gA]
theorem mD(l:List UInt8):∀u∈gA l,u.oneCell'=true:=by intro u b;simp only[gA,kI]at b;obtain⟨c,_,rfl⟩:=b;rfl
theorem fD(a b:List UInt8):gA (a++b)=gA a++gA b:=by simp[gA]
theorem vN(a:List UInt8)(k:Nat):gA (a.take k)=(gA a).take k:=by simp[gA]
theorem dK(a:List UInt8)(k:Nat):gA (a.drop k)=(gA a).drop k:=by simp[gA]
def dA (w:World) (v:Value) (bs:List UInt8) (g:Nat):Prop:=
 ∃A c off,v=.slice A bs.length c/\bs.length<=c/\(0<bs.length->A=some ⟨g,off,none⟩/\∀(j:Nat) (u:Value),(gA bs)[j]? = some u->w.cell? ⟨g,off+j,none⟩=some u)
theorem Z44{P:Prop} (h:P:=by
 obtain⟨A,c,off,hv,hc,hb⟩:=h;refine⟨A,c,off,hv,hc,fun h0=>⟨(hb h0).1,fun j u hu=>?_⟩⟩;have h1:=(hb h0).2 j u hu;rw[hf.cell (xF w _ h1) hg];exact h1):P:=h
theorem dA.fr{S:List Nat}{w w':World}{v:Value}{bs:List UInt8}{g:Nat}(h:dA w v bs g)(hf:Fr S w w')(hg:g∉S:=by simp):dA w' v bs g:=by exact Z44
theorem dA.nil(w:World)(g:Nat):dA w (si none 0 0) [] g:=⟨none,0,0,rfl,tA _,λb=>by simp at b⟩
theorem dA.of_blk{w:World}{g:Nat}{t:TypeId}{bs:List UInt8}(h:Blk w g t (gA bs))(c:Nat)(d:li bs<=c):dA w (si g (li bs) c) bs g:=⟨_,c,0,rfl,d,λ_=>⟨rfl,λf i b=>by rw[nB];exact h.at_ b⟩⟩
def zJ (w:World) (v:Value) (bs:List Bool) (g:Nat):Prop:=
 ∃A c off,v=.slice A bs.length c/\bs.length<=c/\(0<bs.length->A=some ⟨g,off,none⟩/\∀(j:Nat) (u:Bool),bs[j]? = some u->w.cell? ⟨g,off+j,none⟩=some (.bool u))
theorem zJ.fr{S:List Nat}{w w':World}{v:Value}{bs:List Bool}{g:Nat}(h:zJ w v bs g)(hf:Fr S w w')(hg:g∉S:=by simp):zJ w' v bs g:=by exact Z44
abbrev RV (f:FuncId) (x:Array Value) (w:World) (v:Value):Prop:=Calls prog f x w fun e w'=>e=.returned v ∧ Fr [] w w'
theorem dF{p:Prop}[Decidable p](h:¬ p:=by omega):decide p=false:=decide_eq_false h
theorem dT{p:Prop}[Decidable p](h:p:=by omega):decide p=true:=decide_eq_true h
theorem bF{a b:Int}(h:¬ a=b:=by omega):(a==b)=false:=by rw[beq_eq_false_iff_ne];exact h
theorem LN:(∀ {α:Type} (a b:List α),li (a++b)=li a+li b) ∧ (∀ {α:Type} (a:α) (l:List α),li (a::l)=li l+1) ∧ (∀ {α:Type},li ([]:List α)=0):=⟨λ_ _=>List.length_append,λ_ _=>List.length_cons,rfl⟩
theorem _root_.Go.RowKit.Hid.o{p : Prop}(h : Hid p) : p := h.out
theorem lh{p:Prop}(h:p):Hid p:=Lib.hid h
theorem hh2{p q:Prop}(p1:p)(q1:q):Hid p/\Hid q:=⟨lh p1,lh q1⟩
theorem hh3{p q r:Prop}(p1:p)(q1:q)(r1:r):Hid p/\Hid q/\Hid r:=⟨lh p1,lh q1,lh r1⟩
theorem hh4{p q r s:Prop}(p1:p)(q1:q)(r1:r)(s1:s):Hid p/\Hid q/\Hid r/\Hid s:=⟨lh p1,lh q1,lh r1,lh s1⟩
theorem hh5{p q r s t:Prop}(p1:p)(q1:q)(r1:r)(s1:s)(t1:t):Hid p/\Hid q/\Hid r/\Hid s/\Hid t:=⟨lh p1,lh q1,lh r1,lh s1,lh t1⟩
theorem hh6{p q r s t u:Prop}(p1:p)(q1:q)(r1:r)(s1:s)(t1:t)(u1:u):Hid p/\Hid q/\Hid r/\Hid s/\Hid t/\Hid u:=⟨lh p1,lh q1,lh r1,lh s1,lh t1,lh u1⟩
theorem hh7{p q r s t u v:Prop}(p1:p)(q1:q)(r1:r)(s1:s)(t1:t)(u1:u)(v1:v):Hid p/\Hid q/\Hid r/\Hid s/\Hid t/\Hid u/\Hid v:=⟨lh p1,lh q1,lh r1,lh s1,lh t1,lh u1,lh v1⟩
theorem hh8{p q r s t u v x:Prop}(p1:p)(q1:q)(r1:r)(s1:s)(t1:t)(u1:u)(v1:v)(x1:x):Hid p/\Hid q/\Hid r/\Hid s/\Hid t/\Hid u/\Hid v/\Hid x:=⟨lh p1,lh q1,lh r1,lh s1,lh t1,lh u1,lh v1,lh x1⟩
theorem hh9{p q r s t u v x y:Prop}(p1:p)(q1:q)(r1:r)(s1:s)(t1:t)(u1:u)(v1:v)(x1:x)(y1:y):Hid p/\Hid q/\Hid r/\Hid s/\Hid t/\Hid u/\Hid v/\Hid x/\Hid y:=⟨lh p1,lh q1,lh r1,lh s1,lh t1,lh u1,lh v1,lh x1,lh y1⟩
theorem nm(a:α):∃x,x=a:=⟨a,rfl⟩
theorem wi(i:Nat)(h:i<9223372036854775807):Wi ip ((i:Int)+1)=(i:Int)+1:=ak
theorem gx{l:List α}{i:Nat}(h:i<li l):∃x,l[i]? = some x:=⟨_,kE h⟩
end
section
open Go.RowKit Go.ChangeShapes Go.WideShapes
variable {H:Type}{P:Program}{enc:TypeId×Value->H}
theorem sX(i:laidOutB P=true){W:World}{j:Nat->Bool}:∀ {c:List TypeId} {f:List Value} {g:List (DataW H)} {ps:List MemPlace},c.all (λb=>P.readableRec b&&decide (b<P.types.size))=true->DataW.TrodAll enc P W 0 (λ_=>true) true c f g ps->(∀p∈ps,W.sameAt w' p)->(∀p∈ps,j p.block=true)->DataW.TrodAll enc P w' 0 j true c f g ps
 | [],[],[],_,_,h,_,_=>h
 | b::c,v::f,d::g,_,hr,h,hsame,hs=>by obtain⟨p,b,j,k,rfl⟩:=h;simp only[List.all_cons,tN,uG]at hr;exact⟨p,b,WideElems.Trod_stays i hr.1.1 hr.1.2 j (λb j=>hsame b (yE _ j)) (λb j=>hs b (yE _ j)),sX i (by simpa using hr.2) k (λb j=>hsame b (tF _ j)) (λb j=>hs b (tF _ j)),rfl⟩
 | [],[],_::_,_,_,h,_,_=>h.elim
 | [],_::_,_,_,_,h,_,_=>by cases h
 | _::_,[],_,_,_,h,_,_=>by cases h
 | _::_,_::_,[],_,_,h,_,_=>by cases h
theorem aIN{f:Func}{s:ChangeSpec}{W:World}{args:Array Value}{i:List (DataW H)}{c:List MemPlace} (E:laidOutB P=true)(l:f.params.toList.all (λb=>P.readableRec b&&decide (b<P.types.size))=true)(r:f.resultTypes=#[T])(u:P.underlying T=some .bool)(m:s.vars=[]) (v:DataW.Whole enc P f.params.toList s.vars false W args.toList i [] c) (n:(s.fn H (i++[])).results=[.lit (.bool true)])(d:(s.fn H (i++[])).args=i)(g:(s.fn H (i++[])).vars=[])(F:Fr [] W w'): s.post enc P f false true false false W args (ij true) w':=by
 have j:∀b∈c,b.block<W:=λb h=>v.lt b h;have k:Below W W w':=F.below (tA _) (by simp);obtain⟨b,p,q,b,h,t,x⟩:=id v;have o:p=[]:=by rw[m]at b;exact b
 subst o;simp only[jH]at h;subst h;refine⟨i,[],c,[],c,[],v,?_,?_,?_,World.keptBut_mono (λh b=>⟨b,Ij (Ii b)⟩) (k.frame (·∈c)),λo=>by cases o⟩;·rw[n,r];exact trodAll_cons_mk (shut_bool u true) trodAll_mk0
 ·rw[d];exact sX E l q (λh b=>k.same (j h b)) (λh b=>by simpa using j h b)
 rw[g,m];rfl
theorem aCH{p:Nat->α->Prop}:∀n:Nat,(∀i,i<n->∃b,p i b)->∃l:List α,li l=n/\∀(j:Nat) (u:α),l[j]? = some u->p j u
 | 0,_=>⟨[],rfl,λj u h=>by simp at h⟩
 | n+1,h=>by
  obtain⟨l,d,f⟩:=aCH n (λi hi=>h i (by omega));obtain⟨b,g⟩:=h n (by omega);refine⟨l++[b],by simp[d],λj u hu=>?_⟩;by_cases k:j<n;·exact f j u (by rwa [yK (by omega)]at hu)
  have c:=(uC.1 hu).1;simp only[LN]at c;obtain rfl:j=n:=(by omega);rw[mJ (by omega)]at hu;simp[d]at hu;rw[<- hu];exact g
theorem aDB{w:World}{a:Addr}{v:Value}(h:w.cell? (a.add 0)=some v):∃g off,a=⟨g,off,none⟩:=by
 obtain⟨g,off,b⟩:=a;cases b with
 | none=>exact⟨g,off,rfl⟩
 | some b=>exfalso;simp only[Addr.add,vG,World.cell?]at h;split at h<;>simp at h
theorem aHA(g off j:Nat):(⟨g,off,none⟩:Addr).add j=⟨g,off+j,none⟩:=by unfold Addr.add;split<;>simp_all
end
end Go.Proofs.YtebjhcjbfaaejaaGreatDoor
section
namespace Go
variable {H:Type}{enc:TypeId × Value -> H}
theorem zI {a:Assume} {C:Checked} {os:Os} {f:FuncId} {b:Func} {s:ChangeSpec} {m:List PathCond} {d n o p:Bool} {X:World -> Array Value -> Prop} (r:∀ (w w':World) (args:Array Value),w.heap=w'.heap -> X w args -> X w' args) (q:ownKnob C.prog.godebug=none) (u:os.Started) (v:C.prog.inits.idxOf? f=none) (x:C.prog.funcs[f]? = some b) (y:∃ (w:World) (c:Tape) (i:Input),w.os=os/\(w.forCall c i).Shaped C.prog/\i.vars=[]/\Input.okWide C.prog (w.forCall c i) .any w.heap.size f i /\((s.pre enc C.prog b m d (w.forCall c i).memory i.args/\X (w.forCall c i).memory i.args)/\sizedMet enc C.prog b (OpenSpec.ofChange s) d (w.forCall c i).memory i.args)/\a.holds C.prog (lone (Frame.enter C.prog f i.args .normal) [] (w.forCall c i))) (z:∀ (W:World) (l:Nat) (args:Array Value) (h gs:List (DataW H)) (k:List MemPlace),(∀ (j:Nat) t g,b.params[j]? = some t -> args[j]? = some g -> Value.okWide C.prog W .any l t g) ->DataW.Whole enc C.prog b.params.toList s.vars d W args.toList h gs k ->W.ShapedOpen C.prog -> X W args ->Calls C.prog f args W λe l=>∃ g,e=iz g/\s.post enc C.prog b d n o p W args g l): ReturnsInHanded a C os f .any (λw args=>(s.pre enc C.prog b m d w args/\X w args)/\sizedMet enc C.prog b (OpenSpec.ofChange s) d w args) (s.post enc C.prog b d n o p):=by refine returnsInHanded_of_calls q u v y ?_;intro w c i _ o _ p q v;obtain⟨_,_,_,d,m,_,_,_,_,n⟩:=p;have e:d=b:=Option.some.inj (m.symm.trans x);subst e;obtain⟨⟨⟨h,gs,k,d,p⟩,m⟩,u⟩:=q;have b:=DataW.Whole.of_heap (w':=w.forCall c i) (by rfl) d;refine(z (w.forCall c i) w.heap.size i.args h gs k n b o (r _ _ _ (by rfl) m)).mono λe l ⟨g,b,c⟩=>?_;subst b;exact ChangeSpec.post_blind c
end Go

end
namespace Go.Proofs.YtebjhcjbfaaejaaGreatDoor
open Go.Proofs.Tryz
variable {n k i:Nat}{w':World}{v u:Value}{L:List Nat}{F:List Value}{T:TypeId}{α:Type}
section
open Go.RowKit Go.ChangeShapes
noncomputable def mN:List (String×DataW Unit):=[("unicode/utf8.acceptRanges",Rows.laid_unicode_utf8_acceptRanges),("unicode/utf8.first",Rows.laid_unicode_utf8_first)]
theorem aFG:∀W,laidMetH prog mN W=laidMet prog mN W:=λW=>MakeChecks.laidMetH_plain _ _ _ (by kernel_rfl)
end
section
open Go.RowKit Go.ChangeShapes Go.WideShapes Go.Deep
theorem Fr.keep{W w:World}(c:Fr [] W w){p:Addr}{v:Value}(h:W.cell? p=some v):w.cell? p=some v:=by rw[c.cell (xF W _ h) (by simp)];exact h
section
variable {H:Type}{P:Program}{enc:TypeId×Value->H}
theorem lZ{W:World}{t e:TypeId}{l:Array Field}{v:Value}{x:DataW H×List MemPlace}(ht:P.underlying t=some (.slice e))(s:P.underlying e=some (.struct l)) (q:oneCellFields P l=true)(X:P.cellsOf e=l.size)(h:DataW.trod enc P W 0 (λ_=>true) true k t [v]=some x): ∃(A:Option Addr) (b cap:Nat),v=si A b cap/\b<=cap/\cap<=maxLen/\(A=none->b=0) /\∀i,i<b->∃a,A=some a/\∀(j:Nat) (f:Field),l[j]? = some f->∃(u:Value) (n:Nat) (y:DataW H×List MemPlace),W.cell? (a.add (i*l.size+j))=some u/\DataW.trod enc P W 0 (λ_=>true) true n f.type [u]=some y:=by
 obtain⟨c,_⟩|⟨a,b,cap,m,n,B,C,c,_,o,p,g,_,d⟩:=open_slice ht h
 ·obtain rfl:v=si none 0 0:=by simpa using c
  exact⟨none,0,0,rfl,tA _,uB _,λ_=>rfl,λi d=>absurd d (by omega)⟩
 obtain rfl:v=si a b cap:=by simpa using c
 simp only[vG]at g;subst g;refine⟨some a,b,m,rfl,o,p,λh=>(by cases h),λi J=>⟨a,rfl,λj f g=>?_⟩⟩;obtain⟨b,c,m⟩:=d i (by omega);rw[X]at c;obtain⟨d,p,D,E,F,G,r⟩:=DataW.trod_struct s m;obtain⟨_,I,o⟩:=World.cells?_some c;obtain⟨s,z⟩:=hone_of q j f g;have c:j<l.size:=(wJ.1 g).1;have m:=o j c;have o:b[j]? = some (b[j]'(by omega)):=kE (by omega);have c:=r j f g;rw[s,z]at c;have g:(b.drop j).take 1=[b[j]'(by omega)]:=by rw[xM (by omega)];rfl
 rw[g]at c;have b:d[j]? = some (d[j]'(by omega)):=kE (by omega);refine⟨_,p,_,?_,c.trans b⟩;rw[<- Go.Deep.add_add,m,o]
end
end
section
open Go.RowKit
structure DM where
 S:List (List UInt8)
 P:List (Nat×List UInt8)
 limit:Int
 dead:Bool
 done:Nat
structure DM.ok (D:DM):Prop where
 some_:1<=D.S.length
 most:D.S.length<=65536
 sec:∀s∈D.S,s.length=64
 pend:∀p∈D.P,p.1<D.S.length/\p.2.length=64
 lim:-1<=D.limit
 lim':D.limit<=9223372036854775807
 few:D.P.length<=D.done
def pad (b:List UInt8):List UInt8:=b++List.replicate (64-b.length) 0
theorem aHB{b:List UInt8}(h:li b<=64):li (pad b)=64:=by simp[pad];omega
def DM.new (n:Nat):DM:={ S:=List.replicate n (List.replicate 64 0),P:=[],limit:=-1,dead:=false,done:=0 }
def DM.spent (D:DM):DM:={ D with limit:=if 0<D.limit then D.limit-1 else D.limit,done:=D.done+1 }
def DM.died (D:DM):DM:={ D with dead:=true }
def DM.writeE (D:DM) (k:Int) (b:List UInt8):Int:=
 if D.dead then 10 else if k<0∨(D.S.length:Int)<=k∨64<b.length then 1 else if D.limit=0 then 10 else 0
def DM.write (D:DM) (k:Int) (b:List UInt8):DM:=
 if D.dead then D else if k<0∨(D.S.length:Int)<=k∨64<b.length then D else if D.limit=0 then D.died else { D.spent with P:=D.P++[(k.toNat,pad b)] }
def iC (S:List (List UInt8)) (P:List (Nat×List UInt8)):List (List UInt8):=P.foldl (fun S p=>S.set p.1 p.2) S
def DM.syncE (D:DM):Int:=if D.dead then 10 else if D.limit=0 then 10 else 0
def DM.sync (D:DM):DM:=if D.dead then D else if D.limit=0 then D.died else { D.spent with S:=iC D.S D.P,P:=[] }
def zG:List (Nat×List UInt8)->List Bool->List (Nat×List UInt8)
 | [],_=>[]
 | _,[]=>[]
 | p::P,b::K=>if b then p::zG P K else zG P K
def DM.reopen (D:DM) (keep:List Bool):DM:={ D with S:=iC D.S (zG D.P keep),P:=[],dead:=false,limit:=-1 }
def rK (s:List UInt8) (P:List (Nat×List UInt8)) (k:Nat):List UInt8:=P.foldl (fun s p=>if p.1=k then p.2 else s) s
def DM.look (D:DM) (k:Nat):List UInt8:=rK (D.S.getD k []) D.P k
def DM.readE (D:DM) (k:Int):Int:=if D.dead then 10 else if k<0∨(D.S.length:Int)<=k then 1 else 0
def DM.read (D:DM) (k:Int):List UInt8:=if D.readE k=0 then D.look k.toNat else []
theorem uE(P:List (Nat×List UInt8)):∀S,li (iC S P)=li S:=by
 induction P with
 | nil=>intro S;rfl
 | cons b P c=>intro S;show(iC (S.set b.1 b.2) P).length=_;rw[c];simp
theorem mT(P:List (Nat×List UInt8)):∀S,(∀s∈S,li s=64)->(∀p∈P,li p.2=64)->∀s∈iC S P,li s=64:=by
 induction P with
 | nil=>intro S c _;exact c
 | cons p P b=>
  intro S c d;refine b (S.set p.1 p.2) (λs f=>?_) (λb g=>d b (jD _ g));obtain b|b:=List.mem_or_eq_of_mem_set f;·exact c s b
  rw[b];exact d p (eC ..)
theorem zM:∀(P:List (Nat×List UInt8)) (K:List Bool),∀p∈zG P K,p∈P
 | [],_,p,c=>by simp[zG]at c
 | q::P,[],p,c=>by simp[zG]at c
 | q::P,b::K,p,c=>by
  unfold zG at c;split at c
  ·obtain c|c:=bB.1 c
   ·rw[c];exact eC ..
   exact jD _ (zM P K p c)
  exact jD _ (zM P K p c)
theorem DM.ok_new(n:Nat)(h1:1<=n)(h2:n<=65536):(DM.new n).ok:=⟨by simpa[DM.new]using h1,by simpa[DM.new]using h2,λc b=>by simp[DM.new]at b;rw[b.2];simp,λd b=>by simp[DM.new]at b,by simp[DM.new],by simp[DM.new],by simp[DM.new]⟩
theorem DM.ok_died{D:DM}(h:D.ok):D.died.ok:=⟨h.some_,h.most,h.sec,h.pend,h.lim,h.lim',h.few⟩
theorem DM.ok_write{D:DM}(h:D.ok)(k:Int)(b:List UInt8):(D.write k b).ok:=by
 unfold DM.write;split;·exact h
 split;·exact h
 rename_i j;split;·exact DM.ok_died h
 have f:=h.lim;have g:=h.lim';have i:=h.few;refine⟨h.some_,h.most,h.sec,λd c=>?_,?_,?_,?_⟩
 ·simp only[sD,xA]at c;obtain c|c:=c
  ·exact h.pend d c
  subst c;exact⟨by show k.toNat<li D.S;omega,aHB (by omega)⟩
 ·show -1<=(if 0<D.limit then D.limit-1 else D.limit);split<;>omega
 ·show(if 0<D.limit then D.limit-1 else D.limit)<=_;split<;>omega
 simp[DM.spent];omega
theorem DM.ok_sync{D:DM}(h:D.ok):D.sync.ok:=by
 unfold DM.sync;split;·exact h
 split;·exact DM.ok_died h
 have d:=h.lim;have f:=h.lim';have g:=h.few;refine⟨?_,?_,?_,?_,?_,?_,?_⟩;·simpa[uE]using h.some_
 ·simpa[uE]using h.most
 ·exact mT _ _ h.sec (λc b=>(h.pend c b).2)
 ·intro c b;simp at b
 ·show -1<=(if 0<D.limit then D.limit-1 else D.limit);split<;>omega
 ·show(if 0<D.limit then D.limit-1 else D.limit)<=_;split<;>omega
 simp
theorem DM.ok_reopen{D:DM}(h:D.ok)(K:List Bool):(D.reopen K).ok:=⟨by simpa[DM.reopen,uE]using h.some_,by simpa[DM.reopen,uE]using h.most,mT _ _ h.sec (λb c=>(h.pend b (zM _ _ b c)).2),λb c=>by simp[DM.reopen]at c,by simp[DM.reopen],by simp[DM.reopen],by simp[DM.reopen]⟩
theorem aCc(P:List (Nat×List UInt8))(k:Nat):∀s,li s=64->(∀p∈P,li p.2=64)->li (rK s P k)=64:=by
 induction P with
 | nil=>intro s b _;exact b
 | cons p P d=>
  intro s b c;refine d (if p.1=k then p.2 else s) ?_ (λd f=>c d (jD _ f));split;·exact c p (eC ..)
  exact b
theorem DM.look_len{D:DM}(h:D.ok){k:Nat}(c:k<li D.S):li (D.look k)=64:=by refine aCc _ _ _ ?_ (λb d=>(h.pend b d).2);rw[vR,kE c];exact h.sec _ (aKT _)
theorem aDC{S:List (List UInt8)}(h:∀s∈S,li s=64):li S.flatten=li S*64:=by
 induction S with
 | nil=>rfl
 | cons s S b=>simp only[cT,iB,bD];rw[b (λb c=>h b (jD _ c)),h s (eC ..)];omega
theorem aSC{S:List (List UInt8)}(h:∀s∈S,li s=64){k:Nat}(c:k<li S):(S.flatten.drop (k*64)).take 64=S.getD k []:=by
 induction S generalizing k with
 | nil=>simp at c
 | cons s S d=>
  have b:=h s (eC ..);cases k with
  | zero=>simp[b]
  | succ k=>have e:(k+1)*64=li s+k*64:=(by omega);rw[cT,e,aKU,d (λb d=>h b (jD _ d)) (by simpa using c)];rfl
theorem aQg{S:List (List UInt8)}(h:∀s∈S,li s=64){k:Nat}(c:k<li S){b:List UInt8}: S.flatten.take (k*64)++(b++S.flatten.drop (k*64+64))=(S.set k b).flatten:=by
 induction S generalizing k with
 | nil=>simp at c
 | cons s S i=>
  have d:=h s (eC ..);cases k with
  | zero=>simp only[cT,aGP,yI,nG,nB,List.set_cons_zero];rw[<- d,rO]
  | succ k=>have e:(k+1)*64=li s+k*64:=(by omega);have f:(k+1)*64+64=li s+(k*64+64):=(by omega);have g:∀d∈S,li d=64:=λd j=>h d (jD _ j);rw[cT,f,aKU,e,List.take_length_add_append,aAR,cT,uF,i g (by simpa using c)]
theorem nT:(prog.info? 5).map (λb=>(b.zero,b.size,b.bytes))=some (some (ii ix 0),1,1):=by kernel_rfl
def sL (P:List (Nat×List UInt8)):List Value:=P.flatMap fun p=>.int .i64 (p.1:Int)::gA p.2
def oB (w:World) (d bb:Nat) (lv:Value) (D:DM):Prop:=
 Blk w d 70 [.slice (some ⟨bb,0,none⟩) (D.S.length*64) (D.S.length*64),lv,.int .i64 D.limit,.bool D.dead,.int .i64 (D.done:Int)] /\
 Blk w bb 5 (gA D.S.flatten)/\w.ownsRow 0 88 65 lv D.P.length (sL D.P)/\D.ok
def dfp (d bb:Nat) (lv:Value):List Nat:=d::bb::lv.ownBlock.toList
def wF (w:World) (d:Nat) (D:DM) (fp:List Nat):Prop:=∃bb lv,fp=dfp d bb lv/\oB w d bb lv D
def eK (w w':World) (d:Nat) (D:DM) (fp:List Nat):Prop:=∃fp',wF w' d D fp'/\Fr fp w w'/\∀k∈fp',k∈fp∨w.heap.size<=k
section
variable {w:World}{d bb:Nat}{lv:Value}{D:DM}
theorem oB.c0(h:oB w d bb lv D):w.cell? d=some (si bb (li D.S*64) (li D.S*64)):=h.1.at_ rfl
theorem oB.c1(h:oB w d bb lv D):w.cell? ⟨d,1,none⟩=some lv:=h.1.at_ rfl
theorem oB.c2(h:oB w d bb lv D):w.cell? ⟨d,2,none⟩=some (ii ip D.limit):=h.1.at_ rfl
theorem oB.c3(h:oB w d bb lv D):w.cell? ⟨d,3,none⟩=some (ij D.dead):=h.1.at_ rfl
theorem oB.c4(h:oB w d bb lv D):w.cell? ⟨d,4,none⟩=some (ii ip (D.done:Int)):=h.1.at_ rfl
theorem oB.free(h:oB w d bb lv D)(i:Nat):w.frozen? ⟨d,i,none⟩=false:=h.1.free i
theorem oB.ne1(h:oB w d bb lv D):d≠bb:=h.1.ne_ h.2.1 (by decide)
theorem oB.ne2(h:oB w d bb lv D):lv.ownBlock≠some d:=tY h.2.2.1 h.1 (by decide)
theorem oB.ne3(h:oB w d bb lv D):lv.ownBlock≠some bb:=tY h.2.2.1 h.2.1 (by decide)
theorem oB.fr{S:List Nat}(h:oB w d bb lv D)(c:Fr S w w')(f:∀k∈dfp d bb lv,k∉S:=by simp):oB w' d bb lv D:=⟨h.1.fr c (f d (by simp[dfp])),h.2.1.fr c (f bb (by simp[dfp])),fB h.2.2.1 c (λb g=>f b (by simp[dfp,g])),h.2.2.2⟩
theorem oB.lt(h:oB w d bb lv D):∀k∈dfp d bb lv,k<w:=by
 intro k b;simp only[dfp,bB,Option.mem_toList]at b;obtain rfl|rfl|b:=b;·exact h.1.lt
 ·exact h.2.1.lt
 exact aG h.2.2.1 k b
theorem wF.fr{S:List Nat}(h:wF w d D L)(c:Fr S w w')(f:∀k∈L,k∉S:=by simp):wF w' d D L:=by obtain⟨b,g,rfl,h⟩:=h;exact⟨b,g,rfl,h.fr c f⟩
theorem wF.lt(h:wF w d D L):∀k∈L,k<w:=by obtain⟨b,c,rfl,h⟩:=h;exact h.lt
theorem wF.ok(h:wF w d D L):D.ok:=by obtain⟨b,c,rfl,h⟩:=h;exact h.2.2.2
theorem oB.turn{D':DM}(h:oB w d bb lv D)(i:D'.S=D.S)(m:D'.P=D.P)(c:D'.ok) (n:Blk w' d 70 [si bb (li D.S*64) (li D.S*64),lv,D'.limit,ij D'.dead,D'.done])(j:Fr [d] w w'):oB w' d bb lv D':=by
 have f:∀b,lv.ownBlock=some b->b∉[d]:=by intro b g b;simp only[xA]at b;subst b;exact h.ne2 g
 exact⟨by rw[i];exact n,by rw[i];exact h.2.1.fr j (by simp[h.ne1.symm]),by rw[m];exact fB h.2.2.1 j f,c⟩
end
theorem qL{w:World}{d:Nat}{D:DM}(h:oB w d n v D): Calls prog 29 #[pi d] w λe b=>e=iz (ij D.dead)/\w=b:=by have b:=h.c0;have c:=h.c3;have f:=h.2.2.2.some_;have g:(((li D.S:Int)*64)==0)=false:=lE.2 (by omega);go_enter func29,ntmps29;go_wp2;go_ret;exact⟨rfl,rfl⟩
theorem Z40{P:Prop} (h:P:=by
 go_wp2_with (go_at_call 29;refine(qL h).mono ?_;rintro e w' ⟨rfl,rfl⟩)
 go_ret
 exact⟨rfl,rfl⟩):P:=h
theorem aSD{w:World}{d:Nat}{D:DM}(h:oB w d n v D): Calls prog 11 #[pi d] w λe w'=>e=iz (ij D.dead)/\w=w':=by go_enter func11,ntmps11;exact Z40
theorem oT{w:World}{d:Nat}{D:DM}(h:oB w d n v D): Calls prog 49 #[pi d] w λe b=>e=iz (ii ip (li D.S:Int))/\w=b:=by have b:=h.c0;have c:=h.2.2.2.some_;have f:=h.2.2.2.most;go_enter func49,ntmps49;go_wp2;go_ret;exact⟨by simp,rfl⟩
theorem aIO{w:World}{d:Nat}{D:DM}(h:oB w d n v D)(h0:D.limit=0): Calls prog 90 #[pi d] w λe b=>e=iz (ij false)/\oB b d n v D.died/\Fr [d] w b:=by have b:=h.c2;have c:=h.c3;have f:=h.free 3;rw[h0]at b;go_enter func90,ntmps90;go_wp2;go_ret;have b:Fr [d] w (w.setCell ⟨d,3,none⟩ (ij true)):=(jj _ _).setCell (by simp) _;exact⟨rfl,h.turn rfl rfl (DM.ok_died h.2.2.2) (by simpa[DM.died]using h.1.set_ 3 (ij true)) b,b⟩
theorem aFH{w:World}{d:Nat}{D:DM}(h:oB w d n v D)(h0:D.limit≠0)(q:D.done<1099511627776): Calls prog 90 #[pi d] w λe b=>e=iz (ij true)/\oB b d n v D.spent/\Fr [d] w b:=by
 have g:=h.c2;have b:=h.c4;have i:=h.free 2;have j:=h.free 4;have k:=h.2.2.2.lim;have l:=h.2.2.2.lim';have m:(D.limit==0)=false:=by simpa using h0
 have c:D.spent.ok:=⟨h.2.2.2.some_,h.2.2.2.most,h.2.2.2.sec,h.2.2.2.pend,by simp only[DM.spent];split<;>omega,by simp only[DM.spent];split<;>omega,by have:=h.2.2.2.few;simp only[DM.spent];omega⟩;by_cases f:0<D.limit
 ·have o:(w.setCell ⟨d,2,none⟩ (ii ip (D.limit-1))).cell? ⟨d,4,none⟩=some (ii ip (D.done:Int)):=by rw[World.cell?_setCell_other _ _ _ _ (by simp)];exact b
  clear h0;go_enter func90,ntmps90;go_wp2;go_ret;have b:Fr [d] w ((w.setCell ⟨d,2,none⟩ (ii ip (D.limit-1))).setCell ⟨d,4,none⟩ (ii ip ((D.done:Int)+1))):=((jj _ _).setCell (by simp) _).setCell (by simp) _;exact⟨rfl,h.turn rfl rfl c (by simpa[DM.spent,f] using(h.1.set_ 2 (ii ip (D.limit-1))).set_ 4 (ii ip ((D.done:Int)+1))) b,b⟩
 clear h0;go_enter func90,ntmps90;go_wp2;go_ret;have b:Fr [d] w (w.setCell ⟨d,4,none⟩ (ii ip ((D.done:Int)+1))):=(jj _ _).setCell (by simp) _;exact⟨rfl,h.turn rfl rfl c (by simpa[DM.spent,show ¬ (0<D.limit) from by omega]using h.1.set_ 4 (ii ip ((D.done:Int)+1))) b,b⟩
section
variable {P:Program}{ops:Array Oper}{rest:List Oper}{o:Oper}{a:Act}{w:World}{Q:Exit->Act->World->Prop}{K:Act->World->Prop}
theorem qA(f:o.guard=none)(t:TypeId)(k:o.op=.alloc t)(z:Value)(zs:Array Value)(j:(P.info? t).map (·.zero)=some (some z))(g:z.cells=zs) (h:wpList P ops Q rest (a.put o.dst (pi w)) (w.alloc (iy zs t))):wpList P ops Q (o::rest) a w:=by
 subst g;refine vP f λK hK=>?_;cases b:P.info? t with
 | none=>simp[b]at j
 | some d=>
  have c:d.zero=some z:=by simpa[b]using j
  unfold Oper.wp;simp[execOp,k,Instr.alloc,zeroValue,typeInfo,b,c,newVar,newRow,Result.andThen];exact hK _ _ h
theorem aFw(d:o.guard=none)(t:TypeId)(i:Nat)(x:Operand)(f:o.op=.build t #[(i,x)])(v r:Value)(g:a.eval x=v) (c:(Instr.build t #[(i,v)]).run P w=.ok r w)(h:wpList P ops Q rest (a.put o.dst r) w):wpList P ops Q (o::rest) a w:=by refine vP d λK hK=>?_;unfold Oper.wp;simp[execOp,f,g,c,Result.andThen];exact hK _ _ h
theorem zA{W:World}{zs:Array Value}{t':TypeId}(d:o.guard=none)(t:TypeId)(x y:Operand)(f:o.op=.store t x y)(cs:List Value) (g:a.eval x=pi W)(i:a.eval y=il cs.toArray)(j:w=W.alloc (iy zs t')) (hi:(P.info? t).map (·.size)=some (li cs))(k:zs.size=li cs)(h1:∀v∈cs,v.oneCell'=true) (h:∀w1,Blk w1 W t' cs->Fr [] W w1->w1.heap.size=W.heap.size+1->wpList P ops Q rest (a.put o.dst undef) w1):wpList P ops Q (o::rest) a w:=by
 subst j;have b:=run_storeVar_row (P:=P) (W.alloc (iy zs t')) W t' t zs cs.toArray (aGO W _) (by simpa using hi) (by simpa using k) (aKV h1);refine vP d λK hK=>?_;unfold Oper.wp;simp[execOp,f,g,i,Instr.storeAt,Instr.sureAddr,b,Result.andThen];refine hK _ _ (h _ ?_ ?_ ?_);·rw[aKW];exact aGO W _
 ·rw[aKW];exact(jj _ _).alloc _
 rw[aKW];simp
theorem aHC{b sT ty:TypeId}(r:P.underlying b=some (.slice T))(k:(P.info? T).map (·.size)=some 1) (p i:Option Addr)(c f d h:Nat)(g off:Nat)(cur:List Value)(t:TypeId)(q:Blk w g t cur)(cs:List Value)(s:li cs=Nat.min d c) (l:0<li cs->p=some ⟨g,off,none⟩/\∃n,i=some n/\∀j v,cs[j]? = some v->w.cell? (n.add j)=some v) (m:off+li cs<=li cur)(h1:∀v∈cs,v.oneCell'=true): ∃w',(Builtin.copy_ #[b,sT] ty #[si p c f,si i d h]).run P w=.ok (goInt (li cs)) w'/\Blk w' g t (splice cur off cs)/\Fr [g] w w'/\w'.heap.size=w:=by
 by_cases o:li cs=0;·obtain rfl:cs=[]:=eT o;refine⟨w,by simpa using run_copy_none (P:=P) w b sT ty T p i c f d h r k (by simpa using s.symm),by simpa[splice]using q,jj _ _,rfl⟩
 obtain⟨rfl,n,rfl,i⟩:=l (by omega);refine⟨_,run_copy_row (P:=P) w b sT ty T g off c f n d h cur.toArray t cs r k q s i (by simpa using m) h1,?_,(jj _ _).setRow (by simp) _,by simp[World.setRow]⟩;simpa[splice]using q.row_ (cur.take off++(cs++cur.drop (off+li cs)))
theorem iI(q:o.guard=none)(d s:Operand)(b sT:TypeId)(A:o.op=.call { callee:=.builtin .copy,args:=#[d,s],argTypes:=#[b,sT] }) (i:TypeId)(B:P.underlying b=some (.slice i))(r:(P.info? i).map (·.size)=some 1) (u b:Option Addr)(c k f l:Nat)(C:a.eval d=si u c k)(D:a.eval s=si b f l) (g off:Nat)(cur:List Value)(t:TypeId)(E:Blk w g t cur)(cs:List Value)(F:li cs=Nat.min f c) (n:0<li cs->u=some ⟨g,off,none⟩/\∃ad,b=some ad/\∀j v,cs[j]? = some v->w.cell? (ad.add j)=some v) (p:off+li cs<=li cur)(h1:∀v∈cs,v.oneCell'=true) (h:∀w',Blk w' g t (splice cur off cs)->Fr [g] w w'->w'.heap.size=w.heap.size->wpList P ops Q rest (a.put o.dst (goInt (li cs))) w'):wpList P ops Q (o::rest) a w:=by obtain⟨w',m,x,y,z⟩:=aHC (P:=P) (w:=w) (sT:=sT) (ty:=o.type) B r u b c k f l g off cur t E cs F n p h1;refine vP q λK hK=>?_;unfold Oper.wp;simp[execOp,A,resolve,invoke,builtin,C,D,m,Result.andThen];exact hK _ _ (h w' x y z)
theorem tB{v:Value}{w':World}(c:(execOp a.eval o).run P w=.ok (.value v) w')(h:K (a.put o.dst v) w'):Oper.wp P o a w K Q:=by unfold Oper.wp;rw[c];exact h
theorem rB{w':World}(c:(execOp a.eval o).run P w=.ok .skip w')(h:K (a.put o.dst undef) w'):Oper.wp P o a w K Q:=by unfold Oper.wp;rw[c];exact h
theorem aQh(cs zs:List Value)(h:li zs=li cs):Instr.fill (λb=>some (b*li cs,li cs)) zs.toArray [(0,il cs.toArray)]=some cs.toArray:=by
 have i:∀(d c b:List Value),li b=li d->(d.zipIdx (li c)).foldl (fun(a:Array Value) (f:Value×Nat)=>a.setIfInBounds (0*li cs+f.2) f.1) (c++b).toArray=(c++d).toArray:=by
  intro d;induction d with
  | nil=>intro c b g;obtain rfl:b=[]:=eT (by simpa using g);simp
  | cons f d d=>
   intro c b g;match b,g with
   | z::b,g=>simp only[List.zipIdx_cons,aAT];have e:(c++z::b).toArray.setIfInBounds (0*li cs+li c) f=(c++[f]++b).toArray:=(by simp);rw[e];have:=d (c++[f]) b (by simpa using g);simp only[iB,bD,qP,nB]at this;rw[this];simp
 have b:=i cs [] zs h;simp only[qP,nG]at b;simp only[Instr.fill,Value.cells,List.size_toArray,aGP,nB,h,fT,ne_eq,not_true_eq_false,decide_false,Bool.or_self,nH,eF,gt_iff_lt];rw[Array.zipIdx_toArray,<- Array.foldl_toList];simpa using b
theorem aFx{t e:TypeId}{i:TypeInfo}{z:Value}(ht:P.underlying t=some (.slice e))(hi:P.info? e=some i)(g:i.zero=some z)(cs:List Value)(j:i.size=li cs)(k:z.cells.size=li cs) (h0:0<li cs)(n:li cs<=16777216): (Instr.buildSlice t 1 #[(0,il cs.toArray)]).run P w=.ok (si w 1 1) (w.alloc (iy cs.toArray e)):=by
 have c:((Array.range (1*li cs)).map (z.cells[·%z.cells.size]!)).toList.length=li cs:=by simp
 have b:=aQh cs _ c;rw[Array.toArray_toList]at b;have h:¬ (1*li cs=0):=by omega
 have l:¬ (1*li cs > 2^24):=by omega
 have c:¬ (16777216<li cs):=by omega
 have d:cs≠[]:=by intro f;subst f;simp at h0
 simp only[Nat.one_mul]at b;simp[Instr.buildSlice,run_underlying ht,sizeOf,typeInfo,hi,j,zeroValue,g,newRow,c,d,b]
theorem qC{t e:TypeId}(x:Operand)(f:o.op=.buildSlice t 1 #[(0,x)]){i:TypeInfo}{z:Value}(ht:P.underlying t=some (.slice e))(hi:P.info? e=some i)(g:i.zero=some z)(cs:List Value)(j:a.eval x=il cs.toArray) (k:i.size=li cs)(d:z.cells.size=li cs)(h0:0<li cs)(l:li cs<=16777216) (h:K (a.put o.dst (si w 1 1)) (w.alloc (iy cs.toArray e))):Oper.wp P o a w K Q:=by have b:=aFx (P:=P) (w:=w) ht hi g cs k d h0 l;refine tB (v:=si w 1 1) (w':=w.alloc (iy cs.toArray e)) ?_ h;simp[execOp,f,j,b,Result.andThen]
end
theorem aDD(L cs:List α)(h:li L=li cs):splice L 0 cs=cs:=by simp[splice,List.drop_eq_nil_of_le,h]
theorem aOq:(prog.info? 88).map (λb=>(b.size,b.bytes))=some (65,72):=by kernel_rfl
def zpc:Array Value:=(.int .i64 0::List.replicate 64 (.int .u8 0)).toArray
def zp:Value:=.agg zpc
theorem zR:(prog.info? 88).map (·.zero)=some (some zp):=by kernel_rfl
theorem aSE:zpc.size=65:=rfl
theorem sK:(prog.info? 88).map (·.size)=some 65:=by kernel_rfl
theorem iM:(prog.info? 5).map (·.size)=some 1:=by kernel_rfl
theorem new_no(n:Int)(w:World)(h:n<1∨65536<n): Calls prog 8 #[n] w λe b=>e=iz (tl #[pi none,ii ip 1])/\w=b:=by
 by_cases c:n<1;·clear h;go_enter func8,ntmps8;go_wp2;go_ret2;exact⟨rfl,rfl⟩
 have b:65536<n:=by omega
 clear h;go_enter func8,ntmps8;go_wp2;go_ret2;exact⟨rfl,rfl⟩
theorem tW(n:Nat):(madeCells #[ii ix 0] (n*64)).toList=gA (DM.new n).S.flatten:=by
 have b:(DM.new n).S.flatten=ji (n*64) 0:=List.flatten_replicate_replicate;rw[b];apply vU;intro c;simp only[madeCells,gA,List.map_replicate,List.getElem?_replicate,Array.getElem?_toList];by_cases b:c<n*64;·simp[b,B8,Nat.mod_one]
 simp[b]
theorem aUh(n:Nat)(w:World)(h1:1<=n)(g:n<=65536): Calls prog 8 #[ii ip n] w λe b=>∃d fp,e=iz (tl #[pi (some ⟨d,0,none⟩),ii ip 0])/\wF b d (DM.new n) fp/\Fr [] w b/\∀k∈fp,w.heap.size<=k:=by
 have b:=run_make_row' (P:=prog) 67 5 (ii ix 0) 1 Go.Proofs.Tryz.underlying67 nT rfl ip ip (n*64) (by omega) (by omega);simp only[Int.natCast_mul,Int.cast_ofNat_Int]at b;go_enter func8,ntmps8;go_wp2;go_ret2;refine⟨w.heap.size+1,dfp (w.heap.size+1) w.heap.size (si none 0 0),rfl,⟨w.heap.size,si none 0 0,rfl,?_,?_,gD _ _ _ _,DM.ok_new n h1 g⟩,((jj _ _).alloc _).alloc _,by simp[dfp,Value.ownBlock]⟩
 ·have b:(DM.new n).S.length=n:=by simp[DM.new]
  rw[b];exact heap_alloc2_new w _ _
 have:=heap_alloc2_old w (iy (madeCells #[ii ix 0] (n*64)) 5) (iy #[si (some ⟨w.heap.size,0,none⟩) (n*64) (n*64),si none 0 0,ii ip (-1),ij false,ii ip 0] 70);unfold Blk;rw[<- tW];simpa using this
theorem aBp{w:World}{d:Nat}{D:DM}(h:oB w d n v D)(k:Nat)(f:k<li D.S): Calls prog 38 #[pi d,k] w λe b=>e=iz (si (some ⟨n,k*64,none⟩) 64 64)/\w=b:=by have b:=h.c0;have c:=h.2.2.2.most;go_enter func38,ntmps38;go_wp2;go_ret;refine⟨?_,rfl⟩;show iz (si (some ⟨n,k*64,none⟩) ((k+1)*64-k*64) ((k+1)*64-k*64))=_;rw[show(k+1)*64-k*64=64 from by omega]
theorem aBq{c:List (Nat×List UInt8)}(h:∀p∈c,li p.2=64){k:Nat}{p:Nat×List UInt8}(f:c[k]? = some p){j:Nat}(i:j<65): (sL c)[k*65+j]? = (ii ip (p.1:Int)::gA p.2)[j]?:=by
 induction c generalizing k with
 | nil=>simp at f
 | cons b c g=>
  have l:=h b (eC ..);have d:li (ii ip (b.1:Int)::gA b.2)=65:=by simp[nA,l]
  simp only[sL,xG]at g⊢;cases k with
  | zero=>obtain rfl:b=p:=(by simpa using f);rw[aGP,nB,yK (by rw[d];exact i)]
  | succ k=>rw[mJ (by rw[d];omega),d,show(k+1)*65+j-65=k*65+j from by omega];exact g (λb d=>h b (jD _ d)) (by simpa using f)
theorem aFy(A B:List (Nat×List UInt8)):sL (A++B)=sL A++sL B:=by simp[sL]
theorem sV(p:Nat×List UInt8):∀v∈(ii ip (p.1:Int)::gA p.2),v.oneCell'=true:=by
 intro v c;obtain b|b:=bB.1 c;·subst b;rfl
 exact mD _ v b
def z64:List Value:=gA (List.replicate 64 0)
theorem mZ:li z64=64:=by simp[z64,nA]
theorem Z57{P:Prop} (h:P:=by
 have:=tW 1;have e1:(DM.new 1).S.flatten=List.replicate 64 0:=by simp[DM.new]
 rw[e1,Nat.one_mul] at this;rw[z64,<- this]):P:=h
theorem aUi(w:World):(Instr.makeSlice 67 (ii ip 64) (ii ip 64)).run prog w=.ok (si w 64 64) (w.alloc (iy z64.toArray 5)):=by
 have h:=run_make_row' (P:=prog) 67 5 (ii ix 0) 1 Go.Proofs.Tryz.underlying67 nT rfl ip ip 64 (by omega) (by omega) w;have e:madeCells #[ii ix 0] 64=z64.toArray:=by exact Z57
 rw[e]at h;exact h
def aQi (w:World) (b:List UInt8) (e:Ending) (w':World):Prop:=
 ∃g,e=.returned (.tuple #[.slice (some ⟨g,0,none⟩) 64 64,.int .i64 0])/\w.heap.size<=g/\Blk w' g 5 (gA b)/\Fr [] w w'
theorem aOr(s:List UInt8)(c:List (Nat×List UInt8))(k j:Nat)(p:Nat×List UInt8)(f:c[j]? = some p):rK s (c.take (j+1)) k=if p.1=k then p.2 else rK s (c.take j) k:=by
 have b:j<li c:=(uC.1 f).1;have e:c.take (j+1)=c.take j++[p]:=by rw[jR b];rw[kE b]at f;simp only[yG]at f;rw[f]
 simp[e,rK]
def aSF (w:World) (d bb g:Nat) (lv:Value) (D:DM) (s0:List UInt8) (k:Nat) (i:Value) (wr:World):Prop:=
 ∃j:Nat,j<=D.P.length/\i=.int .i64 j/\Blk wr g 5 (gA (rK s0 (D.P.take j) k))/\Fr [] w wr/\oB wr d bb lv D
theorem aSG{w:World}{d:Nat}{D:DM}(h:oB w d n u D)(c8:D.dead=false)(k:Nat)(hk:k<li D.S): Calls prog 113 #[pi (some d),k] w (aQi w (D.look k)):=by
 have B:=h.2.2.2;have g2:=B.most;have c9:=aUi;obtain⟨A,c,rfl,d3,a3⟩:=jA h.2.2.1;have a8:=h.lt;have r:li (D.S.getD k [])=64:=by rw[vR,kE hk];exact B.sec _ (aKT _)
 have O:∀j v,(gA (D.S.getD k []))[j]? = some v->w.cell? ⟨n,k*64+j,none⟩=some v:=by
  intro j v N;refine h.2.1.at_ ?_;have a9:j<64:=by have:=(uC.1 N).1;rw[nA,r]at this;exact this
  rw[<- aSC B.sec hk,vN,dK,uH,iA a9,zK]at N;exact N
 have s:D.look k=rK (D.S.getD k []) D.P k:=rfl;generalize D.S.getD k []=F at r O s;have c':=h.2.1.lt;have a':∀x∈dfp d n (si A (li D.P) c),x∉[w.heap.size]:=λx hx hm=>by have:=a8 x hx;simp only[xA]at hm;omega
 have h1:∀X,oB (w.alloc X) d n (si A (li D.P) c) D:=λX=>h.fr ((jj [] w).alloc X);have H1:=lh h1;have Q:=lh a';have b0:=lh O;have b1:=lh s;have f:=lh r;have H:=lh h;have G:=lh B;have d0:li D.P<=9223372036854775807:=by unfold maxLen at a3;omega
 clear a3;go_enter func113,ntmps113;go_wp2_with (first
  | (go_at_call 29;refine(qL H.o).mono ?_;rintro e w' ⟨rfl,rfl⟩)
  | (go_at_call 49;refine(oT H.o).mono ?_;rintro e w' ⟨rfl,rfl⟩)
  | (go_at_call 38;refine(aBp (H1.o _) k hk).mono ?_;rintro e w' ⟨rfl,rfl⟩)
  | (with_reducible refine iI rfl (.tmp 22) (.tmp 25) 67 67 rfl 5 Go.Proofs.Tryz.underlying67 iM _ _ _ _ _ _ rfl rfl w.heap.size 0 z64 5 ?cg (gA F) ?cn ?cp ?cf (mD _) ?_))
 case cg=>exact jl w _ z64
 case cn=>rw[nA,f.o];rfl
 case cp=>intro _ j v N;exact b0.o j v N
 case cf=>rw[nA,f.o,mZ];omega
 intro w1 z m a4;rw[aDD _ _ (by rw[nA,f.o,mZ])]at z;have T:Fr [] w w1:=((jj [] w).alloc _).trans m;have C:oB w1 d n (si A (li D.P) c) D:=(H1.o _).fr m Q.o;have c1:=C.c1;have b2:=lh z;have b3:=lh T;have E:=lh C;have d1:=lh a4;go_wp2_with fail;go_loopw [32] (aSF w d n w.heap.size (si A (li D.P) c) D F k) (λi _=>li D.P-(intOf i).toNat);·exact⟨0,uB _,rfl,b2.o,b3.o,E.o⟩
 obtain⟨j,N,rfl,hb,hf,hd⟩:=hrel;by_cases c7:j<li D.P
 ·obtain⟨p,hp⟩:=gx (l:=D.P) c7;obtain⟨g,rfl,M⟩:=tD hd.2.2.1 (by omega);have I:=(G.o.pend p (kF hp)).2;have hc:wr.rangeAt g (j*65) (ii ip (p.1:Int)::gA p.2):=λi v hi=>by
   have b4:i<65:=(by have:=(uC.1 hi).1;simpa[nA,I]using this);exact M _ v (by rw[aBq (λq hq=>(G.o.pend q hq).2) hp b4];exact hi)
  have U:li (ii ip (p.1:Int)::gA p.2)=65:=(by simp[nA,I]);have HC:=lh hc;have t:=lh U;have HB:=lh hb;have HF:=lh hf;have b5:=lh hd;have HP:=lh hp;have J:=lh I;go_wp2_with (first
   | (with_reducible refine aGQ rfl 88 (.tmp 34) rfl g (j*65) rfl (ii ip (p.1:Int)::gA p.2) _ HC.o aGR rfl (sK.trans (by rw[t.o])) ?_)
   | (with_reducible refine qA rfl 88 rfl zp zpc zR rfl ?_)
   | (with_reducible refine zA (W:=wr) rfl 88 (.tmp 8) (.tmp 35) rfl (ii ip (p.1:Int)::gA p.2) rfl rfl rfl (sK.trans (by rw[t.o])) ?zl (sV p) ?_))
  case zl=>rw[t.o];rfl
  intro w1 z m a4;have d2:w1.cell? wr=some (ii ip (p.1:Int)):=z.at_ rfl;have V:∀i v,(gA p.2)[i]? = some v->w1.cell? ⟨wr.heap.size,1+i,none⟩=some v:=λi v hi=>z.at_ (by rw[aCX];simpa using hi);have b6:Blk w1 w.heap.size 5 (gA (rK F (D.P.take j) k)):=HB.o.fr m;have C:oB w1 d n (si g (li D.P) c) D:=b5.o.fr m;have b7:Fr [] w w1:=HF.o.trans m;have L:=aOr F D.P k j p HP.o;have b8:li (gA (rK F (D.P.take j) k))=64:=(by rw[nA];exact aCc _ _ _ f.o (λq hq=>(G.o.pend q (yM hq)).2));have y:=lh L;have Y:=lh V;have Z:=lh b6;have a0:=lh b8;have E:=lh C;have a1:=lh b7;by_cases a7:p.1=k
  ·have e1:(((p.1:Int))==(k:Int))=true:=beq_iff_eq.2 (by omega);have b9:=lh a7;go_wp2_with (with_reducible refine iI rfl (.tmp 40) (.tmp 42) 67 67 rfl 5 Go.Proofs.Tryz.underlying67 iM _ _ _ _ _ _ rfl rfl w.heap.size 0 (gA (rK F (D.P.take j) k)) 5 Z.o (gA p.2) ?cn2 ?cp2 ?cf2 (mD _) ?_)
   case cn2=>rw[nA,J.o];rfl
   case cp2=>exact λ_ i v hi=>Y.o i v hi
   case cf2=>rw[nA,J.o,a0.o];omega
   intro w2 a5 a6 d4;rw[aDD _ _ (by rw[a0.o,nA,J.o])]at a5;have b':=E.o.fr a6 Q.o;have a2:Fr [] w w2:=a1.o.trans a6;have R:Blk w2 w.heap.size 5 (gA (rK F (D.P.take (j+1)) k)):=(by rw[y.o,iA b9.o];exact a5);have HR:=lh R;have c5:=lh a2;have c6:=lh b';go_wp2;go_roundw
   case rel=>exact⟨j+1,by omega,by go_num,HR.o,c5.o,c6.o⟩
   case measure=>simp[intOf];omega
  have e1:(((p.1:Int))==(k:Int))=false:=lE.2 (by omega);have R:Blk w1 w.heap.size 5 (gA (rK F (D.P.take (j+1)) k)):=(by rw[y.o,eA a7];exact Z.o);have HR:=lh R;go_wp2;go_roundw
  case rel=>exact⟨j+1,by omega,by go_num,HR.o,a1.o,E.o⟩
  case measure=>simp[intOf];omega
 have HB:=lh hb;have HF:=lh hf;go_wp2;go_ret2;refine⟨w.heap.size,rfl,tA _,?_,HF.o⟩;have e:D.P.take j=D.P:=zF (by omega);have:=HB.o;rw[e,<- b1.o]at this;exact this
def aP (md:Region.Mode) (ops:Array Oper) (I:List Nat) (j:Nat):Bool:=
 I.any fun i=>i !=j&&(match ops[j]? with|some o=>o.after.all fun e=>!(Region.binds md e&&e.on==i)|none=>false)
section
variable {P:Program}{ops:Array Oper}{Q:Exit->Act->World->Prop}{md:Region.Mode}{S:World->Prop}{I:List Nat}
def lG (P:Program) (md:Region.Mode) (ops:Array Oper) (Q:Exit->Act->World->Prop) (S:World->Prop) (I:List Nat):Nat->Array Bool->Act->World->Prop
 | 0,listed,a,w=>Region.ready md ops listed=[]/\Q .normal a w
 | fuel+1,listed,a,w=>
  (Region.ready md ops listed=[]->Q .normal a w) /\
  ∀i∈Region.ready md ops listed,wpOp P ops Q i (fun a' w'=>(aP md ops I i=true->S w')/\lG P md ops Q S I fuel (listed.setIfInBounds i true) a' w') a w
theorem uY:∀(c:Nat) (d:Array Bool) (a:Act) (w:World),lG P md ops Q S I c d a w->wpAny P md ops Q c d a w
 | 0,_,_,_,h=>h
 | c+1,_,_,_,h=>⟨h.1,λb f=>wpOp_mono (λg i j=>uY c _ g i j.2) (h.2 b f)⟩
theorem aLy{i j:Nat}{f:Oper}(l:i∈I)(g:j≠i)(h:ops[j]? = some f)(c:∀e∈f.after,Region.binds md e=true->e.on≠i):aP md ops I j=true:=by
 unfold aP;rw[List.any_eq_true];refine⟨i,l,?_⟩;rw[h];have d:(i !=j)=true:=by simpa using(Ne.symm g)
 have k:(f.after.all λe=>!(Region.binds md e&&e.on==i))=true:=by
  rw[Array.all_eq_true_iff_forall_mem];intro e b;have:=c e b;by_cases b:Region.binds md e=true;·simp[b,this b]
  simp[b]
 show(i !=j&&_)=true;rw[d,Bool.true_and];exact k
theorem aHD{i:Nat}{u:Oper}{v:Value}(E:i∈I)(hi:ops[i]? = some u)(r:∀(j:Nat) (f:Oper) cs b,ops[j]? = some f->f.op≠.select cs b) (hQ:∀c a w,Q (.panic c) (a.put u.dst v) w->Q (.panic c) a w): ∀(g:Nat) (d:Array Bool) (a:Act) (w:World),(∀j s,ops[j]? = some s->j≠i->d.getD j true=false->(∀e∈s.after,Region.binds md e=true->e.on≠i)->u.apart ops s=true) ->i∈Region.ready md ops d->YieldsIf P ops S u v a->S w ->lG P md ops Q S I g (d.setIfInBounds i true) (a.put u.dst v) w->lG P md ops Q S I (g+1) d a w:=by
 intro g;induction g with
 | zero=>
  intro d a w _ k m h l;refine⟨λo=>(by rw[o]at k;cases k),λj n=>?_⟩;by_cases f:j=i;·subst f;exact m.wpOp hi h ⟨λ_=>h,l⟩
  have:=ready_mono n f;rw[l.1]at this;cases this
 | succ g x=>
  intro d a w t k m h l;refine⟨λo=>(by rw[o]at k;cases k),λj n=>?_⟩;by_cases f:j=i;·subst f;exact m.wpOp hi h ⟨λ_=>h,l⟩
  have h:=l.2 j (ready_mono n f);obtain⟨q,s,l,p⟩:=mem_ready.1 n;have o:∀e∈s.after,Region.binds md e=true->e.on≠i:=λe n y z=>by
   have h:=p e n y;have p:=(mem_ready.1 k).1;rw[z]at h;obtain n|n:=iR i d.size;·simp[n]at p h;rw[p]at h;cases h
   simp[Array.getElem?_eq_none n]at h
  have n:aP md ops I j=true:=aLy E f l o;have p:=wpOp_putIf l (t j s l f q o) (λcs b=>r i u cs b hi) (λcs b=>r j s cs b l) hQ m h;have o:∀h l,ops[h]? = some l->h≠i->(d.setIfInBounds j true).getD h true=false ->(∀e∈l.after,Region.binds md e=true->e.on≠i)->u.apart ops l=true:=λh l y z m A=>by
   refine t h l y z ?_ A;by_cases l:j=h;·subst l;exact q
   rw[getD_set_ne true l]at m;exact m
  refine wpOp_mono (λl m h=>⟨λ_=>h.2.1 n,x (d.setIfInBounds j true) l m o (ready_mono k (Ne.symm f)) h.1 (h.2.1 n) ?_⟩) p;rw[Array.setIfInBounds_comm _ _ f];exact h.2.2
theorem sA{i:Nat}(d:Option Tmp)(v:Value){g:Oper}{f:Array Bool}{a:Act}{w:World}(hi:ops[i]? = some g)(l:g.dst=d) (j:(Region.noSelect ops&&Region.free md ops f i&&(Region.ready md ops f).contains i&&I.contains i)=true) (hQ:∀c a w,Q (.panic c) (a.put d v) w->Q (.panic c) a w)(m:S w)(p:YieldsIf P ops S g v a) (h:lG P md ops Q S I n (f.setIfInBounds i true) (a.put d v) w):lG P md ops Q S I (n+1) f a w:=by subst l;simp only[tN]at j;obtain⟨⟨⟨b,k⟩,o⟩,q⟩:=j;exact aHD (by simpa using q) hi (Region.noSelect_spec b) hQ n f a w (Region.free_spec hi k) (by simpa using o) p m h
theorem wA{j:Nat}(d:Option Tmp){b:Oper}{c:Array Bool}{a:Act}{w:World}(g:ops[j]? = some b)(k:b.dst=d)(f:Region.ready md ops c=[j])(l:b.guard=none) (h:∀K:Act->World->Prop,(∀v w',(aP md ops I j=true->S w')->lG P md ops Q S I n (c.setIfInBounds j true) (a.put d v) w'->K (a.put b.dst v) w')->Oper.wp P b a w K Q): lG P md ops Q S I (n+1) c a w:=by
 subst k;refine⟨λb=>absurd (f▸b) (by simp),λi b=>?_⟩;rw[f]at b;obtain rfl:i=j:=by simpa using b
 refine wpOp_step g λK hK=>?_;rw[iA (by simp[Region.wanted,l])];exact h K (λv w' b i=>hK _ w' ⟨b,i⟩)
theorem aIP{c:Array Bool}{a:Act}{w:World}(d:Region.ready md ops c=[])(h:Q .normal a w):∀fuel,lG P md ops Q S I fuel c a w
 | 0=>⟨d,h⟩
 | _+1=>⟨λ_=>h,by rw[d];simp⟩
theorem mA(S:World->Prop)(b:List Nat){a:Act}{w:World}(c:P.follows .mixedOrders=true) (h:lG P .any ops Q S b ops.size (Array.replicate ops.size false) a w.drew):(Code.region n ops true).wp P Q a w:=wp_region_any c (uY _ _ _ _ h)
end
theorem nrm:(∀(a:Act) (t:Tmp) (v:Value),a.put (some t) v={ a with tmps:=a.tmps.setIfInBounds t v })/\(∀(a:Act) (v:Value),a.put none v=a)/\(∀(l:List Value) (i:Nat) (x:Value),l.toArray.setIfInBounds i x=(l.set i x).toArray) /\(∀(a x:Value) (l:List Value),(a::l).set 0 x=x::l)/\∀(a x:Value) (l:List Value) (i:Nat),(a::l).set (i+1) x=a::l.set i x:=⟨λ_ _ _=>rfl,λ_ _=>rfl,λ_ _ _=>List.setIfInBounds_toArray ..,λ_ _ _=>List.set_cons_zero ..,λ_ _ _ _=>aAR ..⟩
section
variable {P:Program}{md:Region.Mode}{ops:Array Oper}{Q:Exit->Act->World->Prop}{S:World->Prop}{I:List Nat}
def aBr (_:List Nat) (P:Program) (md:Region.Mode) (ops:Array Oper) (Q:Exit->Act->World->Prop) (S:World->Prop) (I:List Nat) (fuel:Nat) (listed:Array Bool) (a:Act) (w:World):Prop:=lG P md ops Q S I fuel listed a w
theorem tks(l:List Nat){c:Array Bool}{a:Act}{w:World}(h:aBr l P md ops Q S I n c a w):lG P md ops Q S I n c a w:=h
theorem tke{c:Array Bool}{a:Act}{w:World}(h:lG P md ops Q S I n c a w):aBr [] P md ops Q S I n c a w:=h
theorem tk{i:Nat}{l:List Nat}{t:Tmp}{v:Value}{f:Oper}{d:Array Bool}{a:Act}{w:World}(hi:ops[i]? = some f)(g:f.dst=some t) (j:S w)(k:Region.wanted f (yielded ops a.tmps)=true)(m:∀W,S W->(execOp a.eval f).run P W=.ok (.value v) W) (h:aBr l P md ops Q S I n (d.setIfInBounds i true) (a.put (some t) v) w) (p:(Region.noSelect ops&&Region.free md ops d i&&(Region.ready md ops d).contains i&&I.contains i)=true:=by kernel_rfl)(hQ:∀c a w,Q (.panic c) (a.put (some t) v) w->Q (.panic c) a w:=by exact λ_ _ _ h=>h):aBr (i::l) P md ops Q S I (n+1) d a w:=sA (i:=i) (some t) v hi g p hQ j (Ii ⟨k,m⟩) h
theorem tu{i:Nat}{l:List Nat}{t:Tmp}{f:Oper}{d:Array Bool}{a:Act}{w:World}(hi:ops[i]? = some f)(g:f.dst=some t) (j:S w)(k:Region.wanted f (yielded ops a.tmps)=false) (h:aBr l P md ops Q S I n (d.setIfInBounds i true) (a.put (some t) undef) w) (m:(Region.noSelect ops&&Region.free md ops d i&&(Region.ready md ops d).contains i&&I.contains i)=true:=by kernel_rfl)(hQ:∀c a w,Q (.panic c) (a.put (some t) undef) w->Q (.panic c) a w:=by exact λ_ _ _ h=>h):aBr (i::l) P md ops Q S I (n+1) d a w:=sA (i:=i) (some t) undef hi g m hQ j (Ij ⟨k,rfl⟩) h
theorem tv(i:Nat)(v:Value){t:Tmp}{f:Oper}{d:Array Bool}{a:Act}{w:World}(hi:ops[i]? = some f)(g:f.dst=some t) (j:S w)(k:YieldsIf P ops S f v a) (h:lG P md ops Q S I n (d.setIfInBounds i true) (a.put (some t) v) w) (l:(Region.noSelect ops&&Region.free md ops d i&&(Region.ready md ops d).contains i&&I.contains i)=true:=by kernel_rfl)(hQ:∀c a w,Q (.panic c) (a.put (some t) v) w->Q (.panic c) a w:=by exact λ_ _ _ h=>h):lG P md ops Q S I (n+1) d a w:=sA (i:=i) (some t) v hi g l hQ j k h
theorem wd{c:Array Bool}{a:Act}{w:World}(h:Q .normal a w)(d:Nat)(f:Region.ready md ops c=[]:=by kernel_rfl):lG P md ops Q S I d c a w:=aIP f h d
theorem lp{rest:List Oper}{b:Oper}{a:Act}{w:World}(h:∀K:Act->World->Prop,(∀a w,wpList P ops Q rest a w->K a w)->b.wp P a w K Q)(c:b.guard=none:=by rfl):wpList P ops Q (b::rest) a w:=vP c h
theorem sp(j:Nat){t:Tmp}{b:Oper}{c:Array Bool}{a:Act}{w:World}(d:ops[j]? = some b)(f:b.dst=some t)(g:b.guard=none) (h:∀K:Act->World->Prop,(∀v w',(aP md ops I j=true->S w')->lG P md ops Q S I n (c.setIfInBounds j true) (a.put (some t) v) w'->K (a.put b.dst v) w')->Oper.wp P b a w K Q)(i:Region.ready md ops c=[j]:=by kernel_rfl): lG P md ops Q S I (n+1) c a w:=wA (j:=j) (some t) d f i g h
theorem ae(i:Nat){t:Tmp}{v:Value}{f:Oper}{g d:Array Bool}{a k:Act}{w:World}(l:S w)(h:lG P md ops Q S I n d k w)(hi:ops[i]? = some f:=by exact rfl)(m:f.dst=some t:=by exact rfl)(p:Region.wanted f (yielded ops a.tmps)=true:=by exact rfl) (q:∀W,S W->(execOp a.eval f).run P W=.ok (.value v) W:=by intro _ b;(repeat obtain⟨_,b⟩:=b);go_simp<;>with_reducible rfl)(r:a.put (some t) v=k:=by (try simp only[nrm])<;>exact rfl)(s:g.setIfInBounds i true=d:=by (try simp only[nrm])<;>exact rfl) (u:(Region.noSelect ops&&Region.free md ops g i&&(Region.ready md ops g).contains i&&I.contains i)=true:=by kernel_rfl)(hQ:∀c a w,Q (.panic c) (a.put (some t) v) w->Q (.panic c) a w:=by exact λ_ _ _ h=>h):lG P md ops Q S I (n+1) g a w:=by subst r;subst s;exact sA (i:=i) (some t) v hi m u hQ l (Ii ⟨p,q⟩) h
theorem ac{i:Nat}{l:List Nat}{t:Tmp}{v:Value}{f:Oper}{g d:Array Bool}{a k:Act}{w:World}(m:S w)(h:aBr l P md ops Q S I n d k w)(hi:ops[i]? = some f:=by exact rfl)(p:f.dst=some t:=by exact rfl)(q:Region.wanted f (yielded ops a.tmps)=true:=by exact rfl) (r:∀W,S W->(execOp a.eval f).run P W=.ok (.value v) W:=by intro _ b;(repeat obtain⟨_,b⟩:=b);go_simp<;>with_reducible rfl)(s:a.put (some t) v=k:=by (try simp only[nrm])<;>exact rfl)(u:g.setIfInBounds i true=d:=by (try simp only[nrm])<;>exact rfl) (x:(Region.noSelect ops&&Region.free md ops g i&&(Region.ready md ops g).contains i&&I.contains i)=true:=by kernel_rfl)(hQ:∀c a w,Q (.panic c) (a.put (some t) v) w->Q (.panic c) a w:=by exact λ_ _ _ h=>h):aBr (i::l) P md ops Q S I (n+1) g a w:=ae i m h hi p q r s u x hQ
theorem af(j:Nat){t:Tmp}{v:Value}{b:Oper}{d c:Array Bool}{a f:Act}{w:World}(g:aP md ops I j=true->S w)(h:lG P md ops Q S I n c f w)(i:ops[j]? = some b:=by exact rfl)(k:b.dst=some t:=by exact rfl)(l:b.guard=none:=by exact rfl) (m:(execOp a.eval b).run P w=.ok (.value v) w:=by go_simp<;>with_reducible rfl)(p:a.put (some t) v=f:=by (try simp only[nrm])<;>exact rfl)(q:d.setIfInBounds j true=c:=by (try simp only[nrm])<;>exact rfl)(r:Region.ready md ops d=[j]:=by kernel_rfl):lG P md ops Q S I (n+1) d a w:=by subst p;subst q;exact sp j i k l (λ_ hK=>by unfold Oper.wp;rw[m];exact hK _ _ g h) r
theorem ag(j:Nat){t:Tmp}{b:Oper}{c:Array Bool}{a:Act}{w:World} (h:∀K:Act->World->Prop,(∀v w',(aP md ops I j=true->S w')->lG P md ops Q S I n (c.setIfInBounds j true) (a.put (some t) v) w'->K (a.put b.dst v) w')->Oper.wp P b a w K Q)(d:ops[j]? = some b:=by exact rfl)(f:b.dst=some t:=by exact rfl)(g:b.guard=none:=by exact rfl)(i:Region.ready md ops c=[j]:=by kernel_rfl): lG P md ops Q S I (n+1) c a w:=sp j d f g h i
theorem ah(j:Nat){b:Oper}{c:Array Bool}{a:Act}{w:World} (h:∀K:Act->World->Prop,(∀v w',(aP md ops I j=true->S w')->lG P md ops Q S I n (c.setIfInBounds j true) (a.put none v) w'->K (a.put b.dst v) w')->Oper.wp P b a w K Q)(d:ops[j]? = some b:=by exact rfl)(f:b.dst=none:=by exact rfl)(g:b.guard=none:=by exact rfl)(i:Region.ready md ops c=[j]:=by kernel_rfl): lG P md ops Q S I (n+1) c a w:=wA (j:=j) none d f i g h
theorem aj(S:World->Prop)(b:List Nat){a:Act}{w:World} (h:lG P .any ops Q S b ops.size (Array.replicate ops.size false) a w.drew)(c:P.follows .mixedOrders=true:=by kernel_rfl):(Code.region n ops true).wp P Q a w:=mA S b c h
end
theorem aLz(k:Int)(w:World):(Instr.build 88 #[(0,ii ip k)]).run prog w=.ok (il (ii ip k::z64).toArray) w:=by kernel_rfl
theorem eK.same{w:World}{d:Nat}{D:DM}(h:wF w d D L):eK w w d D L:=⟨L,h,jj _ _,λ_ b=>Ii b⟩
theorem aLA{w:World}{d:Nat}{D:DM}(h:oB w d n u D)(c:D.dead=true)(k:Int)(v:Value): Calls prog 67 #[pi d,k,v] w λe w'=>e=iz (ii ip 10)/\w=w':=by go_enter func67,Go.Proofs.Tryz.ntmps67;exact Z40
theorem Z37{P:Prop} (h:P:=by
 go_enter func67,Go.Proofs.Tryz.ntmps67
 go_wp2_with (first | (go_at_call 29;refine(qL h).mono ?_;rintro e w' ⟨rfl,rfl⟩) | (go_at_call 49;refine(oT h).mono ?_;rintro e w' ⟨rfl,rfl⟩))
 go_ret
 exact⟨rfl,rfl⟩):P:=h
theorem aOs{w:World}{d:Nat}{D:DM}(h:oB w d i v D)(f:D.dead=false)(k:Int)(A:Option Addr)(n c:Nat)(g:k<0∨(li D.S:Int)<=k∨64<n): Calls prog 67 #[pi d,k,si A n c] w λe w'=>e=iz (ii ip 1)/\w=w':=by
 by_cases j:k<0;·clear g;exact Z37
 by_cases l:(li D.S:Int)<=k
 case' pos=>clear g
 case' neg=>have b:64<n:=(by omega);clear g
 all_goals exact Z37
theorem aOt{w:World}{d:Nat}{D:DM}(h:oB w d i v D)(j:D.dead=false)(k:Nat)(m:k<li D.S)(A:Option Addr)(n c:Nat)(p:n<=64)(l:D.limit=0): Calls prog 67 #[pi d,k,si A n c] w λe b=>e=iz (ii ip 10)/\oB b d i v D.died/\Fr [d] w b:=by
 go_enter func67,Go.Proofs.Tryz.ntmps67;go_wp2_with (first
  | (go_at_call 29;refine(qL h).mono ?_;rintro e b ⟨rfl,rfl⟩)
  | (go_at_call 49;refine(oT h).mono ?_;rintro e b ⟨rfl,rfl⟩)
  | (go_at_call 90;refine(aIO h l).mono ?_;rintro e b ⟨rfl,b,f⟩))
 go_ret;exact⟨rfl,b,f⟩
theorem tV{D:DM}(c:D.dead=false){k:Nat}(f:k<li D.S){bs:List UInt8}(g:li bs<=64)(d:D.limit≠0):D.write (k:Int) bs={ D.spent with P:=D.P++[(k,pad bs)] }:=by unfold DM.write;rw[eA (by simp[c]),eA (by omega),eA d];simp
theorem aIQ(k:Nat)(bs:List UInt8)(_:li bs<=64):splice (ii ip (k:Int)::z64) 1 (gA bs)=ii ip (k:Int)::gA (pad bs):=by
 have e:z64.drop (li bs)=gA (ji (64-li bs) 0):=by rw[z64,<- dK,List.drop_replicate]
 simp only[splice,pad,fD,nA,oH,yI,lI,nG,aCX 1,List.drop_succ_cons,e]
theorem aQj{w:World}{d:Nat}{r:Value}{D:DM}(h:oB w d n r D)(T:D.dead=false)(k:Nat)(u:k<li D.S)(v:Value)(bs:List UInt8)(gs:Nat)(g:dA w v bs gs)(E:gs≠d) (f:li bs<=64)(c:D.limit≠0)(U:D.done<1099511627776): Calls prog 67 #[pi (some d),k,v] w λe w'=>e=iz (ii ip 0)/\eK w w' d { D.spent with P:=D.P++[(k,pad bs)] } (dfp d n r):=by
 obtain⟨q,z,x,rfl,A,t⟩:=g;have O:=h.2.2.2.few;have j:DM.ok { D.spent with P:=D.P++[(k,pad bs)] }:=by have b:=DM.ok_write h.2.2.2 (k:Int) bs;rwa [tV T u f c]at b
 have⟨Z,HL,HB,J⟩:=hh4 j c t U;have c:=lh h;go_enter func67,Go.Proofs.Tryz.ntmps67;go_wp2_with (first
  | (go_at_call 29;refine(qL c.o).mono ?_;rintro e w' ⟨rfl,rfl⟩)
  | (go_at_call 49;refine(oT c.o).mono ?_;rintro e w' ⟨rfl,rfl⟩)
  | (go_at_call 90;refine(aFH c.o HL.o J.o).mono ?_;rintro e c ⟨rfl,j,t⟩;have⟨a0,a1⟩:=hh2 j t;clear j t)
  | (with_reducible refine aFw rfl 88 0 (.tmp 29) rfl (ii ip (k:Int)) _ rfl (aLz _ _) ?_)
  | (with_reducible refine qA rfl 88 rfl zp zpc zR rfl ?_)
  | (with_reducible refine zA (W:=c) rfl 88 (.tmp 7) (.tmp 30) rfl (ii ip (k:Int)::z64) rfl rfl rfl ?zi ?zl ?z1 ?_))
 case zi=>simp[sK,mZ]
 case zl=>simp[mZ];rfl
 case z1=>exact λv g=>sV (k,ji 64 0) v g
 intro g B t C;have j:Fr [d] w g:=a1.o.trans t;have u:oB g d n r D.spent:=a0.o.fr t;have t:dA g (si q (li bs) z) bs gs:=dA.fr (w:=w) ⟨q,z,x,rfl,A,HB.o⟩ j (by simpa using E);have⟨b',c5,c6,c7⟩:=hh4 B j u t;have Q:=lh C;go_wp2_with (with_reducible refine iI rfl (.tmp 32) (.tmp 33) 67 67 rfl 5 Go.Proofs.Tryz.underlying67 iM _ _ _ _ _ _ rfl rfl c.heap.size 1 (ii ip (k:Int)::z64) 88 b'.o (gA bs) ?cn ?cp ?cf (mD _) ?_)
 case cn=>rw[nA];exact(gO f).symm
 case cp=>intro b;obtain⟨X,Y,g,j,_,q⟩:=c7.o;injection j with j _ _;obtain⟨t,u⟩:=q (by rw[nA]at b;exact b);refine⟨⟨gs,g,none⟩,by rw[j,t],λC v E=>?_⟩;rw[Go.Addr.add_mid];exact u C v E
 case cf=>simp[nA,mZ];omega
 intro b B j R;rw[aIQ k bs f]at B;have g:∀u∈dfp d n r,u∉[c.heap.size]:=λu t q=>by have:=a0.o.lt u t;simp only[xA]at q;omega
 have q:oB b d n r D.spent:=c6.o.fr j g;have F:Fr [d] w b:=c5.o.trans j (by have:=a1.o.size;simp;omega);have G:=lh g;generalize c.heap.size=x at *;obtain⟨c,j⟩:=nm ((ii ip (k:Int)::gA (pad bs)));rw[<- j]at B;have H:li c=65:=by rw[j];simp[nA,aHB f]
 have I:∀v∈c,v.oneCell'=true:=by rw[j];exact sV (k,pad bs)
 have f:=q.c1;obtain⟨g,A⟩:∃g,prog.info? 88=some g:=by
  cases h:prog.info? 88 with
  | none=>have:=sK;rw[h]at this;cases this
  | some i=>exact⟨i,rfl⟩
 have L:g.zero=some zp:=by have:=zR;rw[A]at this;simpa using this
 have M:g.size=65/\g.bytes=72:=by have:=aOq;rw[A]at this;simpa using this
 have N:=q.2.2.1;have⟨l,m,s,d2,d3,a8,a9,y,a'⟩:=hh9 q B H I j A L M N;have B:=lh F;go_wp2_with fail;refine aj (λW=>W.cell? ⟨d,1,none⟩=some r/\Blk W x 88 c) [0,1,2,3,4,5] ?_;refine tv 0 (pi d) rfl rfl ⟨f,m.o⟩ (Ii ⟨rfl,λ_ _=>rfl⟩) ?_;simp only[nrm];refine tv 1 (pi d) rfl rfl ⟨f,m.o⟩ (Ii ⟨rfl,λ_ _=>rfl⟩) ?_;simp only[nrm];refine tv 2 (pi d) rfl rfl ⟨f,m.o⟩ (Ii ⟨rfl,λ_ _=>rfl⟩) ?_;simp only[nrm];refine tv 3 (pi (some ⟨d,1,none⟩)) rfl rfl ⟨f,m.o⟩ (Ii ⟨rfl,λW j=>by go_simp⟩) ?_;simp only[nrm];refine sA (i:=4) (some 39) r rfl rfl (by kernel_rfl) (λ_ _ _ h=>h) ⟨f,m.o⟩ (Ii ⟨rfl,λW j=>by have z:=j.1;go_simp⟩) ?_;simp only[nrm];refine tv 5 (il c.toArray) rfl rfl ⟨f,m.o⟩ (yieldsIf_load_mid rfl 88 (.tmp 7) rfl x 0 rfl c _ (λW j C v E=>by rw[nB];exact j.2.at_ E) aGR rfl (by rw[s.o];exact sK)) ?_;simp only[nrm];have N:b.drew.heap.size=b.heap.size:=rfl;have j:Fr [] b (b.drew.alloc (iy c.toArray 88)):=(jj [] b).drew.alloc _;have f:(b.drew.alloc (iy c.toArray 88)).cell? ⟨d,1,none⟩=some r:=(l.o.fr j).c1;have E:Blk (b.drew.alloc (iy c.toArray 88)) x 88 c:=m.o.fr j;have q:Blk (b.drew.alloc (iy c.toArray 88)) b.heap.size 88 c:=jl b.drew _ c;have z:=fB a'.o j (by simp);refine ag 6 λK hK=>?_;refine qC (.tmp 40) rfl underlying68 a8.o a9.o c rfl (by rw[y.o.1,s.o]) (by rw[s.o];rfl) (by rw[s.o];omega) (by rw[s.o];omega) (hK _ _ (λ_=>⟨f,E⟩) ?_);simp only[nrm];refine ag 7 λK hK=>?_;refine wp_append_lies _ (.tmp 39) (.tmp 41) 68 rfl 0 88 g zp 65 72 underlying68 a8.o a9.o y.o.1 y.o.2 rfl (by omega) r (li D.P) (sL D.P) rfl z ⟨b.heap.size,0,none⟩ 1 1 c rfl (by rw[s.o]) (λC a3 f=>by rw[Go.Addr.add_mid,nB];exact q.at_ f) d2.o (by omega) ?_ ?_ (uB _) _ rfl ?_;·have:=J.o;unfold maxLen;omega
 ·have:=J.o;omega
 intro g q f M z F a2;have C:(b.drew.alloc (iy c.toArray 88)).heap.size=b.heap.size+1:=by simp
 have H:∀A,r.ownBlock=some A->A∈dfp d n r∨b.heap.size<=A:=λA I=>Ii (by simp[dfp,I]);have I:Fr (dfp d n r) b f:=((j.mono (by simp)).grown z H);have A:=(l.o.1.fr j).grown z (λe=>l.o.ne2 e.symm);have H:=(l.o.2.1.fr j).grown z (λe=>l.o.ne3 e.symm);have j:f.cell? ⟨d,1,none⟩=some r:=A.at_ rfl;have V:=A.free 1;have L:Blk f x 88 c:=E.grown z (λe=>G.o x (by simp[dfp,<- e]) (by simp));refine hK _ _ (λ_=>⟨j,L⟩) ?_;simp only[nrm];refine ag 8 λK hK=>?_;refine tB (v:=pi d) (w':=f) rfl (hK _ _ (λh=>absurd h (by decide +kernel)) ?_);simp only[nrm];refine ag 9 λK hK=>?_;refine tB (v:=pi (some ⟨d,1,none⟩)) (w':=f) (by go_simp) (hK _ _ (λh=>absurd h (by decide +kernel)) ?_);simp only[nrm];refine ah 10 λK hK=>?_;refine rB (w':=f.setCell ⟨d,1,none⟩ (si g (li D.P+1) q)) (by go_simp) (hK _ _ (λh=>absurd h (by decide +kernel)) ?_);simp only[Act.put];refine wd ?_ _;go_wp2;go_ret;have j:Fr (dfp d n r) b (f.setCell ⟨d,1,none⟩ (si g (li D.P+1) q)):=I.setCell (by simp[dfp]) _;have b:g≠d:=by
  obtain h|h:=F;·exact λe=>l.o.ne2 (e▸h)
  have:=l.o.1.lt;rw[C]at h;omega
 have x:n≠d:=l.o.ne1.symm;have z:Fr (dfp d n r) w (f.setCell ⟨d,1,none⟩ (si g (li D.P+1) q)):=(B.o.mono (by simp[dfp])).trans j (λu t=>Ii t);refine⟨rfl,dfp d n (si g (li D.P+1) q),⟨n,_,rfl,?_,?_,?_,?_⟩,z,?_⟩;·have:=A.set_ 1 (si g (li D.P+1) q);simpa[DM.spent]using this
 ·exact H.far (by simpa using x) _
 ·have e:sL (D.P++[(k,pad bs)])=sL D.P++c:=by rw[aFy,d3.o];simp[sL]
  have h:=fB M ((jj [d] f).setCell (p:=⟨d,1,none⟩) (by simp) (si g (li D.P+1) q)) (by simpa[Value.ownBlock]using b);simpa[e]using h
 ·exact Z.o
 have:=B.o.size;intro u t;simp only[dfp,bB,Value.ownBlock,Option.toList,kC,dC]at t;obtain rfl|rfl|rfl:=t;·simp[dfp]
 ·simp[dfp]
 obtain h|h:=F;·left;simp[dfp,h]
 right;rw[C]at h;omega
theorem aIR{w:World}{d:Nat}{D:DM}(h:wF w d D L)(k:Int)(v:Value)(bs:List UInt8)(gs:Nat)(x:dA w v bs gs)(p:gs≠d)(i:D.done<1099511627776): Calls prog 67 #[pi d,k,v] w λe c=>e=iz (ii ip (D.writeE k bs))/\eK w c d (D.write k bs) L:=by
 have f:=h;obtain⟨o,q,rfl,h⟩:=h;by_cases b:D.dead=true;·refine(aLA h b k v).mono ?_;rintro e c ⟨rfl,rfl⟩;simp only[DM.writeE,DM.write,b,vG];exact⟨trivial,eK.same f⟩
 have b:D.dead=false:=by simpa using b
 obtain⟨j,l,r,rfl,s,t⟩:=x;by_cases g:k<0∨(li D.S:Int)<=k∨64<li bs;·refine(aOs h b k j (li bs) l g).mono ?_;rintro e c ⟨rfl,rfl⟩;simp only[DM.writeE,DM.write,b,eF,g,vG,nH];exact⟨trivial,eK.same f⟩
 obtain⟨n,rfl⟩:=Int.eq_ofNat_of_zero_le (show 0<=k by omega);by_cases f:D.limit=0;·refine(aOt h b n (by omega) j (li bs) l (by omega) f).mono ?_;rintro e c ⟨rfl,m,u⟩;simp only[DM.writeE,DM.write,b,eF,g,vG,nH,f];exact⟨trivial,_,⟨o,q,rfl,m⟩,u.mono (by simp[dfp]),λ_ o=>Ii o⟩
 refine(aQj h b n (by omega) _ bs gs ⟨j,l,r,rfl,s,t⟩ p (by omega) f i).mono ?_;rintro e c ⟨rfl,m⟩;rw[tV b (by omega) (by omega) f];refine⟨?_,m⟩;simp only[DM.writeE,b,eF,g,nH,f]
def DM.lain (D:DM) (S:List (List UInt8)):DM:={ D with S:=S }
theorem DM.ok_lain{D:DM}(h:D.ok){S:List (List UInt8)}(c:li S=li D.S)(d:∀s∈S,li s=64):(D.lain S).ok:=⟨by simpa[DM.lain,c]using h.some_,by simpa[DM.lain,c]using h.most,d,λb f=>by simpa[DM.lain,c]using h.pend b f,h.lim,h.lim',h.few⟩
theorem aQk(S:List (List UInt8))(c:List (Nat×List UInt8))(j:Nat)(p:Nat×List UInt8)(f:c[j]? = some p):iC S (c.take (j+1))=(iC S (c.take j)).set p.1 p.2:=by
 have b:j<li c:=(uC.1 f).1;have e:c.take (j+1)=c.take j++[p]:=by rw[jR b];rw[kE b]at f;simp only[yG]at f;rw[f]
 simp[e,iC]
theorem tX{S:List (List UInt8)}(h:∀s∈S,li s=64){k:Nat}(c:k<li S){b:List UInt8}(d:li b=64):splice (gA S.flatten) (k*64) (gA b)=gA (S.set k b).flatten:=by simp only[splice,nA,d];rw[<- aQg h c,fD,fD,vN,dK]
theorem aOu{w:World}{d:Nat}{D:DM}(h:oB w d n v D)(c:D.dead=true): Calls prog 68 #[pi d] w λe w'=>e=iz (ii ip 10)/\w=w':=by go_enter func68,ntmps68;exact Z40
theorem aQl{w:World}{d:Nat}{D:DM}(h:oB w d n v D)(g:D.dead=false)(i:D.limit=0): Calls prog 68 #[pi d] w λe b=>e=iz (ii ip 10)/\oB b d n v D.died/\Fr [d] w b:=by
 go_enter func68,ntmps68;go_wp2_with (first
  | (go_at_call 29;refine(qL h).mono ?_;rintro e b ⟨rfl,rfl⟩)
  | (go_at_call 90;refine(aIO h i).mono ?_;rintro e b ⟨rfl,b,c⟩))
 go_ret;exact⟨rfl,b,c⟩
def aSH (w:World) (d bb:Nat) (lv:Value) (D:DM) (i:Value) (wr:World):Prop:=
 ∃j:Nat,j<=D.P.length/\i=.int .i64 j/\oB wr d bb lv (D.lain (iC D.S (D.P.take j)))/\Fr [bb] w wr
theorem aSI{w:World}{d:Nat}{D:DM}(h:oB w d n u D)(F:D.dead=false)(b:D.limit≠0)(k:D.done<1099511627776): Calls prog 68 #[pi (some d)] w λe t=>e=iz (ii ip 0)/\eK w t d { D.spent with S:=iC D.S D.P,P:=[] } (dfp d n u):=by
 have j:=h.2.2.2;have T:=j.few;have c:DM.ok { D.spent with S:=iC D.S D.P,P:=[] }:=by have g:=DM.ok_sync j;simpa only[DM.sync,F,eF,nH,b]using g
 have⟨J,HL,a1,H⟩:=hh4 c b k h;obtain⟨E,s,rfl,Y,b⟩:=jA H.o.2.2.1;have U:li D.P<=9223372036854775807:=by unfold maxLen at b;omega
 clear b;go_enter func68,ntmps68;go_upto_region 3 with (first
  | (go_at_call 29;refine(qL H.o).mono ?_;rintro e t ⟨rfl,rfl⟩)
  | (go_at_call 90;refine(aFH H.o HL.o a1.o).mono ?_;rintro e G ⟨rfl,b,c⟩;have N:=b.c1;have⟨L,a2⟩:=hh2 b c;clear b c))
 go_wp2_with fail;go_loopw [17] (aSH G d n (si E (li D.P) s) D.spent) (λi _=>li D.P-(intOf i).toNat);·exact⟨0,uB _,rfl,L.o,jj _ _⟩
 obtain⟨c,b,rfl,g,I⟩:=hrel;have V:c<=li D.P:=b;by_cases k:c<li D.P
 ·obtain⟨b,v⟩:=gx (l:=D.P) k;obtain⟨x,rfl,r⟩:=tD g.2.2.1 (by show 0<li D.P;omega);have C:=j.pend b (kF v);have p:=C.2;have O:wr.rangeAt x (c*65) (ii ip (b.1:Int)::gA b.2):=λi M k=>by
   have q:i<65:=(by have:=(uC.1 k).1;simpa[nA,p]using this);exact r _ M (by rw[show sL (D.spent.lain (iC D.spent.S (D.spent.P.take c))).P=sL D.P from rfl,aBq (λA B=>(j.pend A B).2) v q];exact k)
  have Q:li (ii ip (b.1:Int)::gA b.2)=65:=(by simp[nA,p]);have⟨HC,m,q,r,HP,y,z⟩:=hh7 O Q I g v p C;have v:=lh j;go_wp2_with (first
   | (with_reducible refine aGQ rfl 88 (.tmp 19) rfl x (c*65) rfl (ii ip (b.1:Int)::gA b.2) _ HC.o aGR rfl (sK.trans (by rw[m.o])) ?_)
   | (with_reducible refine qA rfl 88 rfl zp zpc zR rfl ?_)
   | (with_reducible refine zA (W:=wr) rfl 88 (.tmp 4) (.tmp 20) rfl (ii ip (b.1:Int)::gA b.2) rfl rfl rfl (sK.trans (by rw[m.o])) ?zl (sV b) ?_))
  case zl=>rw[m.o];rfl
  intro j p C Z;have Q:j.cell? wr=some (ii ip (b.1:Int)):=p.at_ rfl;have O:=r.o.fr C;have⟨f,a5,a6⟩:=hh3 O p C;go_wp2_with fail;go_still_tail 6,(by kernel_rfl);have p:(D.spent.lain (iC D.spent.S (D.spent.P.take c))).S.length=li D.S:=uE _ _;still_call ((aBp (f.o.fr (jj [] j).drew (by simp)) b.1 (by rw[p];exact z.o.1)).mono λe t h=>⟨h.1,h.2.symm⟩);repeat still_step
  refine wpStill_nil ?_;refine iI rfl (.tmp 24) (.tmp 26) 67 67 rfl 5 Go.Proofs.Tryz.underlying67 iM (some ⟨n,b.1*64,none⟩) (some ⟨wr.heap.size,1,none⟩) 64 64 64 64 rfl rfl n (b.1*64) _ 5 (f.o.2.1.fr (jj [] j).drew (by simp)) (gA b.2) (by rw[nA,y.o];rfl) (λ_=>⟨rfl,_,rfl,λi M k=>?_⟩) ?_ (mD _) ?_;·rw[Go.Addr.add_mid];exact a5.o.at_ (i:=1+i) (by rw[aCX];simpa using k)
  ·have k:=aDC f.o.2.2.2.sec;have X:=z.o.1;rw[nA,nA,y.o,k,p];omega
  intro k t C R;rw[tX f.o.2.2.2.sec (by rw[p];exact z.o.1) y.o]at t;have p:=aQk D.S D.P c b HP.o;have b:Fr [n] j k:=(jj [n] j).drew.trans C;have C:oB k d n (si x (li D.P) s) (D.spent.lain (iC D.spent.S (D.spent.P.take (c+1)))):=by
   have x:=f.o.ne1;have M:=f.o.ne3;refine⟨?_,?_,fB f.o.2.2.1 b (λa0 O j=>M (by simp only[xA]at j;rw[<- j];exact O)),?_⟩;·have:=f.o.1.fr b (by simpa using x);simp only[DM.lain,uE]at this⊢;exact this
   ·show Blk k n _ (gA (iC D.S (D.P.take (c+1))).flatten);rw[p];exact t
   exact DM.ok_lain L.o.2.2.2 (uE _ _) (mT _ _ v.o.sec (λA B=>(v.o.pend A (yM B)).2))
  have j:Fr [n] G k:=(q.o.trans a6.o).trans b;have b:=lh C;have k:=lh j;go_wp2;go_roundw
  case rel=>exact⟨c+1,by show c+1<=li D.P;omega,by go_num,b.o,k.o⟩
  case measure=>simp[intOf];omega
 have N:=g.c1;have k:=g.free 1;have q:=lh I;have r:=lh g;go_wp2;go_ret;have e:D.P.take c=D.P:=zF (by omega);have g:=r.o;simp only[show D.spent.P.take c=D.P from e]at g;have c:=g.ne1;have b:Fr [d] wr (wr.setCell ⟨d,1,none⟩ (si none 0 0)):=(jj _ _).setCell (by simp) _;have j:Fr (dfp d n (si E (li D.P) s)) w wr:=(a2.o.mono (by simp[dfp])).trans q.o (by simp[dfp]);refine⟨rfl,dfp d n (si none 0 0),⟨n,_,rfl,?_,?_,gD _ _ _ _,J.o⟩,j.trans b (by simp[dfp]),by simp[dfp,Value.ownBlock]⟩;·have:=g.1.set_ 1 (si none 0 0);simpa[DM.lain,DM.spent,uE]using this
 exact g.2.1.fr b (by simpa using c.symm)
theorem aNb{w:World}{d:Nat}{D:DM}(h:wF w d D L)(g:D.done<1099511627776): Calls prog 68 #[pi d] w λe c=>e=iz (ii ip D.syncE)/\eK w c d D.sync L:=by
 have f:=h;obtain⟨j,k,rfl,h⟩:=h;by_cases b:D.dead=true;·refine(aOu h b).mono ?_;rintro e c ⟨rfl,rfl⟩;simp only[DM.syncE,DM.sync,b,vG];exact⟨trivial,eK.same f⟩
 have b:D.dead=false:=by simpa using b
 by_cases f:D.limit=0;·refine(aQl h b f).mono ?_;rintro e c ⟨rfl,i,l⟩;simp only[DM.syncE,DM.sync,b,eF,vG,nH,f];exact⟨trivial,_,⟨j,k,rfl,i⟩,l.mono (by simp[dfp]),λ_ j=>Ii j⟩
 refine(aSI h b f g).mono ?_;rintro e c ⟨rfl,i⟩;simp only[DM.syncE,DM.sync,b,eF,nH,f];exact⟨trivial,i⟩
theorem aFI:∀(c:List (Nat×List UInt8)) (K:List Bool) (j:Nat) (p:Nat×List UInt8),c[j]? = some p->zG (c.take (j+1)) K=zG (c.take j) K++(if K[j]? = some true then [p] else [])
 | [],_,j,p,h=>by simp at h
 | q::c,[],j,p,h=>by
  have f:∀d:List (Nat×List UInt8),zG d []=[]:=λd=>by cases d<;>rfl
  simp[f]
 | q::c,b::K,0,p,h=>by
  obtain rfl:q=p:=by simpa using h
  cases b<;>simp[zG]
 | q::c,b::K,j+1,p,h=>by have d:=aFI c K j p (by simpa using h);simp only[oH,zG,List.getElem?_cons_succ];cases b<;>simp[d]
def aSJ (w:World) (d bb:Nat) (lv:Value) (D:DM) (K:List Bool) (i:Value) (wr:World):Prop:=
 ∃j:Nat,j<=D.P.length/\i=.int .i64 j/\oB wr d bb lv (D.lain (iC D.S (zG (D.P.take j) K)))/\Fr [bb] w wr
theorem aOv{w:World}{d:Nat}{D:DM}(h:oB w d n u D)(v:Value)(K:List Bool)(gs:Nat)(hv:zJ w v K gs)(d4:gs≠n)(hK:li K<=9223372036854775807): Calls prog 16 #[pi (some ⟨d,0,none⟩),v] w λe w'=>e=iz (tl #[])/\eK w w' d (D.reopen K) (dfp d n u):=by
 have t:=h.2.2.2;obtain⟨KA,kc,b0,rfl,c8,b1⟩:=hv;have b5:=lh b1;clear b1;have H:=lh h;obtain⟨A,c,rfl,d7,b2⟩:=jA h.2.2.1;have d6:li D.P<=9223372036854775807:=by unfold maxLen at b2;omega
 clear b2;have c1:=h.c1;clear h;go_enter func16,ntmps16;go_wp2_with fail;go_loopw [13] (aSJ w d n (si A (li D.P) c) D K) (λi _=>li D.P-(intOf i).toNat);·exact⟨0,uB _,rfl,by simpa[zG,iC,DM.lain]using H.o,jj _ _⟩
 obtain⟨j,hj,rfl,m,hf⟩:=hrel;clear c1;by_cases d2:j<li D.P
 ·obtain⟨p,hp⟩:=gx (l:=D.P) d2;obtain⟨g,rfl,B⟩:=tD m.2.2.1 (by show 0<li D.P;omega);have M:=t.pend p (kF hp);have C:=M.2;have hc:wr.rangeAt g (j*65) (ii ip (p.1:Int)::gA p.2):=λi v hi=>by
   have b6:i<65:=(by have:=(uC.1 hi).1;simpa[nA,C]using this);exact B _ v (by rw[show sL (D.lain (iC D.S (zG (D.P.take j) K))).P=sL D.P from rfl,aBq (λq hq=>(t.pend q hq).2) hp b6];exact hi)
  have F:li (ii ip (p.1:Int)::gA p.2)=65:=(by simp[nA,C]);have a1:zJ wr (si KA (li K) kc) K gs:=zJ.fr (w:=w) ⟨KA,kc,b0,rfl,c8,b5.o⟩ hf (by simpa using d4);have HC:=lh hc;clear hc B;have x:=lh F;clear F;have HF:=lh hf;clear hf;have N:=lh m;clear m;have HP:=lh hp;clear hp;have O:=lh C;clear C;have Q:=lh M;clear M;have T:=lh t;clear t;have a2:=lh a1;clear a1;go_upto_region 4 with (first
   | (with_reducible refine aGQ rfl 88 (.tmp 16) rfl g (j*65) rfl (ii ip (p.1:Int)::gA p.2) _ HC.o aGR rfl (sK.trans (by rw[x.o])) ?_)
   | (with_reducible refine qA rfl 88 rfl zp zpc zR rfl ?_)
   | (with_reducible refine zA (W:=wr) rfl 88 (.tmp 5) (.tmp 17) rfl (ii ip (p.1:Int)::gA p.2) rfl rfl rfl (sK.trans (by rw[x.o])) (aSE.trans x.o.symm) (sV p) ?_))
  intro L Z E c';have b7:L.cell? ⟨wr.heap.size,0,none⟩=some (ii ip (p.1:Int)):=Z.at_ rfl;have a3:=N.o.fr E;have a4:zJ L (si KA (li K) kc) K gs:=a2.o.fr E;have y:=aFI D.P K j p HP.o;have a5:(D.lain (iC D.S (zG (D.P.take j) K))).S.length=li D.S:=uE _ _;have f:=lh a3;clear a3;have b8:=lh Z;clear Z;have U:=lh E;clear E;have V:=lh y;clear y;have X:=lh a5;clear a5;clear c' a2;obtain⟨d8,d9,Y,c9,_,J⟩:=a4;injection c9 with e1 e2 e3;have a6:=lh e1;clear e1;have G:=lh J;clear J e2 e3;by_cases d3:j<li K
  ·obtain⟨b3,s⟩:=G.o (by omega);obtain⟨b,hb⟩:=gx (l:=K) d3;have d5:=s j b hb;have a7:KA=some ⟨gs,Y,none⟩:=a6.o.trans b3;subst a7;have a8:=lh hb;clear hb s b3 a6 G;cases b with
   | false=>
    have k:oB L d n (si (some ⟨g,0,none⟩) (li D.P) c) (D.lain (iC D.S (zG (D.P.take (j+1)) K))):=(by rw[V.o,eA (by rw[a8.o];simp),jH];exact f.o);have z:=lh k;clear k;go_wp2_with fail;go_roundw
    case rel=>exact⟨j+1,by omega,by go_num,z.o,HF.o.trans U.o⟩
    case measure=>simp[intOf];omega
   | true=>
    have y:iC D.S (zG (D.P.take (j+1)) K)=(iC D.S (zG (D.P.take j) K)).set p.1 p.2:=(by rw[V.o,iA a8.o];simp[iC]);have a9:=lh y;clear y;go_wp2_with fail;go_still_tail 6,(by kernel_rfl);still_call ((aBp (f.o.fr (jj [] L).drew (by simp)) p.1 (by rw[X.o];exact Q.o.1)).mono λe w' h=>⟨h.1,h.2.symm⟩);repeat still_step
    refine wpStill_nil ?_;refine iI rfl (.tmp 31) (.tmp 33) 67 67 rfl 5 Go.Proofs.Tryz.underlying67 iM (some ⟨n,p.1*64,none⟩) (some ⟨wr.heap.size,1,none⟩) 64 64 64 64 rfl rfl n (p.1*64) _ 5 (f.o.2.1.fr (jj [] L).drew (by simp)) (gA p.2) (by rw[nA,O.o];rfl) (λ_=>⟨rfl,_,rfl,λi v hi=>?_⟩) ?_ (mD _) ?_;·rw[Go.Addr.add_mid];exact b8.o.at_ (i:=1+i) (by rw[aCX];simpa using hi)
    ·have h1:=aDC f.o.2.2.2.sec;have h2:=Q.o.1;rw[nA,nA,O.o,h1,X.o];omega
    intro w3 a0 b4 d0;rw[tX f.o.2.2.2.sec (by rw[X.o];exact Q.o.1) O.o]at a0;have r:Fr [n] L w3:=(jj [n] L).drew.trans b4;have k:oB w3 d n (si (some ⟨g,0,none⟩) (li D.P) c) (D.lain (iC D.S (zG (D.P.take (j+1)) K))):=by
     have b9:=f.o.ne1;have b':=f.o.ne3;refine⟨?_,?_,fB f.o.2.2.1 r (λg' d1 hm=>b' (by simp only[xA]at hm;rw[<- hm];exact d1)),?_⟩;·have:=f.o.1.fr r (by simpa using b9);simp only[DM.lain,uE]at this⊢;exact this
     ·show Blk w3 n _ (gA (iC D.S (zG (D.P.take (j+1)) K)).flatten);rw[a9.o];exact a0
     exact DM.ok_lain T.o (uE _ _) (mT _ _ T.o.sec (λq hq=>(T.o.pend q (yM (zM _ _ q hq))).2))
    have I:Fr [n] w w3:=(HF.o.trans U.o).trans r;have z:=lh k;clear k;have c5:=lh I;clear I;clear a0 b4 r d0 b7;go_wp2;go_roundw
    case rel=>exact⟨j+1,by omega,by go_num,z.o,c5.o⟩
    case measure=>simp[intOf];omega
  have k:oB L d n (si (some ⟨g,0,none⟩) (li D.P) c) (D.lain (iC D.S (zG (D.P.take (j+1)) K))):=by rw[V.o,eA (by rw[gT (by omega)];simp),jH];exact f.o
  have z:=lh k;clear k;go_wp2_with fail;exact⟨⟨j+1,by omega,by go_num,z.o,HF.o.trans U.o⟩,by simp[intOf];omega⟩
 have c1:=m.c1;have c2:=m.c2;have c3:=m.c3;have f1:=m.free 1;have f2:=m.free 2;have f3:=m.free 3;have HF:=lh hf;clear hf;have N:=lh m;clear m;go_wp2;go_end0;have e:D.P.take j=D.P:=zF (by omega);have m:=N.o;rw[e]at m;have c6:=m.ne1;have a':Fr [d] wr (((wr.setCell ⟨d,1,none⟩ (si none 0 0)).setCell ⟨d,3,none⟩ (ij false)).setCell ⟨d,2,none⟩ (ii ip (-1))):=(((jj _ _).setCell (by simp) _).setCell (by simp) _).setCell (by simp) _;have c7:Fr (dfp d n (si A (li D.P) c)) w wr:=HF.o.mono (by simp[dfp]);refine⟨rfl,dfp d n (si none 0 0),⟨n,_,rfl,?_,?_,gD _ _ _ _,DM.ok_reopen t K⟩,c7.trans a' (by simp[dfp]),by simp[dfp,Value.ownBlock]⟩;·have:=((m.1.set_ 1 (si none 0 0)).set_ 3 (ij false)).set_ 2 (ii ip (-1));simpa[DM.lain,DM.reopen,uE]using this
 exact m.2.1.fr a' (by simpa using c6.symm)
theorem aHE{w:World}{d:Nat}{D:DM}(h:wF w d D L):Calls prog 11 #[pi d] w λe b=>e=iz (ij D.dead)/\w=b:=by obtain⟨b,c,rfl,h⟩:=h;exact aSD h
theorem aHF{w:World}{d:Nat}{D:DM}(h:wF w d D L):Calls prog 49 #[pi d] w λe b=>e=iz (ii ip (li D.S:Int))/\w=b:=by obtain⟨b,c,rfl,h⟩:=h;exact oT h
def aSK (w:World) (D:DM) (k:Int) (e:Ending) (w':World):Prop:=
 ∃v g,e=.returned (.tuple #[v,.int .i64 (D.readE k)])/\dA w' v (D.read k) g/\w.heap.size<=g/\Fr [] w w'/\(D.readE k=0->v=.slice (some ⟨g,0,none⟩) 64 64/\Blk w' g 5 (gA (D.read k)))/\(D.readE k≠0->v=.slice none 0 0)
theorem aQm{w:World}{d:Nat}{D:DM}(h:oB w d n v D)(k:Int)(g:D.readE k≠0): Calls prog 113 #[pi d,k] w λe c=>e=iz (tl #[si none 0 0,D.readE k])/\w=c:=by
 by_cases b:D.dead=true
 ·have e:D.readE k=10:=by simp[DM.readE,b]
  rw[e];go_enter func113,ntmps113;go_wp2_with (go_at_call 29;refine(qL h).mono ?_;rintro e c ⟨rfl,rfl⟩);go_ret2;exact⟨rfl,rfl⟩
 have b:D.dead=false:=by simpa using b
 have f:k<0∨(li D.S:Int)<=k:=by
  simp only[DM.readE,b,nH,eF]at g;by_cases i:k<0∨(li D.S:Int)<=k;·exact i
  rw[eA i]at g;exact absurd rfl g
 have e:D.readE k=1:=by simp[DM.readE,b,f]
 rw[e];by_cases i:k<0
 case' pos=>clear f
 case' neg=>have b:(li D.S:Int)<=k:=(by omega);clear f
 all_goals
  go_enter func113,ntmps113;go_wp2_with (first
   | (go_at_call 29;refine(qL h).mono ?_;rintro e c ⟨rfl,rfl⟩)
   | (go_at_call 49;refine(oT h).mono ?_;rintro e c ⟨rfl,rfl⟩))
  go_ret2;exact⟨rfl,rfl⟩
theorem aNc{w:World}{d:Nat}{D:DM}(h:wF w d D L)(k:Int): Calls prog 113 #[pi d,k] w (aSK w D k):=by
 obtain⟨o,p,rfl,h⟩:=h;by_cases b:D.readE k=0
 ·have c:D.dead=false:=by
   cases f:D.dead with
   | false=>rfl
   | true=>simp[DM.readE,f]at b
  have g:0<=k/\k<li D.S:=by
   simp only[DM.readE,c,nH,eF]at b;by_cases f:k<0∨(li D.S:Int)<=k;·rw[iA f]at b;exact absurd b (by decide)
   omega
  obtain⟨f,rfl⟩:=Int.eq_ofNat_of_zero_le g.1;refine(aSG h c f (by omega)).mono ?_;rintro e j ⟨l,rfl,m,g,n⟩;have c:D.read (f:Int)=D.look f:=by simp[DM.read,b]
  have i:li (D.look f)=64:=DM.look_len h.2.2.2 (by omega);have f:=dA.of_blk g 64 (by omega);rw[i]at f;exact⟨_,l,by rw[b],by rw[c];exact f,m,n,λ_=>⟨rfl,by rw[c];exact g⟩,λf=>absurd b f⟩
 refine(aQm h k b).mono ?_;rintro e j ⟨rfl,rfl⟩;have c:D.read k=[]:=by simp[DM.read,b]
 exact⟨_,w,rfl,by rw[c];exact dA.nil _ _,tA _,jj _ _,λf=>absurd f b,λ_=>rfl⟩
end
def nD (l:List UInt8):Nat:=l.foldl (fun n c=>n*256+c.toNat) 0
theorem aIS(l:List UInt8)(c:UInt8):nD (l++[c])=nD l*256+c.toNat:=by simp[nD]
theorem uX:∀(l:List UInt8) (n:Nat),l.foldl (λn b=>n*256+b.toNat) n<(n+1)*256^li l
 | [],n=>by simp
 | b::l,n=>by
  have c:=uX l (n*256+b.toNat);have d:=b.toNat_lt;have f:(n*256+b.toNat+1)*256^li l<=((n+1)*256)*256^li l:=Nat.mul_le_mul_right _ (by omega);have b:((n+1)*256)*256^li l=(n+1)*256^(li l+1):=by rw[Nat.pow_succ,Nat.mul_assoc,Nat.mul_comm 256]
  simp only[aAT,bD];omega
theorem aBs(l:List UInt8):nD l<256^li l:=by have:=uX l 0;simpa[nD]using this
theorem aDE(l:List UInt8)(h:li l<=4):nD l<4294967296:=by
 have b:=aBs l;have c:256^li l<=256^4:=aDb (by omega) h;have d:256^4=4294967296:=by decide
 omega
structure pC where
 session:Nat
 number:Nat
 count:Nat
 deriving DecidableEq
structure Pc where
 st:pC
 place:Nat
 b:List UInt8
def mB (s:List UInt8):Option Pc:=
 if s.length=64/\s.getD 0 0=165/\s.getD 1 0=90/\(s.getD 14 0).toNat<=48 then
  some { st:={ session:=nD ((s.drop 2).take 4),number:=nD ((s.drop 6).take 4),count:=nD ((s.drop 12).take 2) },place:=nD ((s.drop 10).take 2),b:=(s.drop 16).take (s.getD 14 0).toNat }
 else none
def jC (n k:Nat):UInt8:=UInt8.ofNat (n / 256^k)
def aE (p:Pc):List UInt8:=
 [165,90,jC p.st.session 3,jC p.st.session 2,jC p.st.session 1,jC p.st.session 0,jC p.st.number 3,jC p.st.number 2,jC p.st.number 1,jC p.st.number 0,
  jC p.place 1,jC p.place 0,jC p.st.count 1,jC p.st.count 0,UInt8.ofNat p.b.length,0]++p.b
theorem vX(p:Pc):li (aE p)=16+li p.b:=by simp[aE];omega
def zC (st:pC):Nat->List (List UInt8)->Option (List UInt8)
 | _,[]=>some []
 | k,s::L=>
  match mB s with
  | none=>none
  | some q=>if q.st=st/\q.place=k/\(k+1<st.count->q.b.length=48) then (zC st (k+1) L).map (q.b++·) else none
def jB (L:List (List UInt8)):Option (pC×List UInt8):=
 match L with
 | []=>none
 | s::_=>
  match mB s with
  | none=>none
  | some p=>if p.st.count<1∨L.length<p.st.count then none else (zC p.st 0 (L.take p.st.count)).map fun b=>(p.st,b)
def rA (size:Nat):Nat:=if size=0 then 1 else (size-1) / 48+1
def aNd (size:Int):Int:=if size<=0 then 1 else (size-1) / 48+1
def zE (session number:Nat) (b:List UInt8) (k:Nat):Pc:=
 { st:={ session:=session,number:=number,count:=rA b.length },place:=k,b:=(b.drop (48*k)).take 48 }
def lC (L:List (List UInt8)):Nat×Nat:=
 L.foldl (fun a s=>match mB s with|some p=>(max a.1 p.st.session,max a.2 p.st.number)|none=>a) (0,0)
def vA:Nat->Option pC->List (List UInt8)->List (pC×List UInt8)
 | 0,_,_=>[]
 | n+1,last,L=>
  match jB L with
  | none=>[]
  | some (st,b)=>
   if (match last with|none=>false|some l=>decide (st.number≠(l.number+1)%4294967296∨st.session<l.session)) then []
   else (st,b)::vA n (some st) (L.drop st.count)
section
open Go.RowKit
theorem aIT(n:Int)(c:Nat)(f:c<9223372036854775808):∃m:Nat,m<=c/\bits .and ip n (c:Int)=(m:Int):=by
 refine⟨(BitVec.ofInt 64 n &&& BitVec.ofInt 64 (c:Int)).toNat,?_,?_⟩;·rw[BitVec.toNat_and,iO,jO,aL (by omega)];exact aLa
 have b:(BitVec.ofInt 64 n &&& BitVec.ofInt 64 (c:Int)).toNat<=c:=by rw[BitVec.toNat_and,iO,jO,aL (by omega)];exact aLa
 show Wi ip ((BitVec.ofInt 64 n &&& BitVec.ofInt 64 (c:Int)).toNat:Int)=_;rw[yB];omega
theorem aQn(x u:Nat)(c:u<256):x*256 ||| u=x*256+u:=by
 have d:=Nat.shiftLeft_add_eq_or_of_lt (b:=u) (i:=8) (by omega) x;have e:x <<< 8=x*256:=by rw[Nat.shiftLeft_eq]
 rw[e]at d;exact d.symm
theorem aUj(x u:Nat)(f:x<16777216)(d:u<256):bits .or iq ((x:Int)*256) (u:Int)=((x*256+u:Nat):Int):=by
 have b:((x:Int)*256)=((x*256:Nat):Int):=by omega
 rw[b];show IntKind.u32.wrap ((BitVec.ofInt 32 ((x*256:Nat):Int) ||| BitVec.ofInt 32 (u:Int)).toNat:Int)=_;rw[BitVec.toNat_or,iO,iO,jO,jO,aL (by omega),aL (by omega),aQn x u d];simp only[Go.IntKind.wrap_u32];omega
theorem aLB(x u:Nat)(f:x<256)(d:u<256):bits .or ip ((x:Int)*256) (u:Int)=((x*256+u:Nat):Int):=by
 have b:((x:Int)*256)=((x*256:Nat):Int):=by omega
 rw[b];show Wi ip ((BitVec.ofInt 64 ((x*256:Nat):Int) ||| BitVec.ofInt 64 (u:Int)).toNat:Int)=_;rw[BitVec.toNat_or,iO,iO,jO,jO,aL (by omega),aL (by omega),aQn x u d];rw[yB];omega
def aSL (l:List UInt8) (n i:Value):Prop:=∃k:Nat,k<=4/\i=.int .i64 k/\n=.int .u32 ((nD (l.take k):Nat):Int)
theorem aOw{l:List UInt8}{k:Nat}{u:UInt8}(d:l[k]? = some u):nD (l.take (k+1))=nD (l.take k)*256+u.toNat:=by have b:k<li l:=(uC.1 d).1;rw[jR b,aIS];rw[kE b]at d;simp only[yG]at d;rw[d]
theorem aIU{w:World}{g off n c:Nat}{l:List UInt8}(z:li l=4)(G:4<=n)(D:n<=c)(A:∀(j:Nat) (u:UInt8),l[j]? = some u->w.cell? ⟨g,off+j,none⟩=some (ii ix (u.toNat:Int))): Calls prog 145 #[si (some ⟨g,off,none⟩) n c] w λe w'=>e=iz (ii iq ((nD l:Nat):Int))/\w=w':=by
 have B:=lh A;have y:=lh z;clear A z;go_enter func145,ntmps145;go_wp2;go_loop [3,9] (aSL l) (λ_ i=>4-(intOf i).toNat);·exact⟨0,by omega,rfl,rfl⟩
 obtain⟨k,F,rfl,rfl⟩:=hrel;by_cases v:k<4;·obtain⟨u,t⟩:∃u,l[k]? = some u:=gx (by rw[y.o];exact v);have E:=B.o k u t;have m:=aBs (l.take k);have p:256^li (l.take k)<=256^3:=aDb (by omega) (by rw[pB];omega);have h3:256^3=16777216:=(by decide);have C:nD (l.take k)<16777216:=(by omega);have q:u.toNat<256:=u.toNat_lt;have d:=aOw t;have r:=lh d;clear d m p h3 t;generalize nD (l.take k)=x at *;have f:=aUj x u.toNat C q;have s:=lh f;clear f;go_wp2;rw[s.o];exact⟨⟨k+1,by omega,by go_num,by rw[r.o]⟩,by simp[intOf];omega⟩
 have h:k=4:=(by omega);subst h;have e:l.take 4=l:=zF (by rw[y.o];omega);rw[e];go_wp2;go_ret;exact⟨rfl,rfl⟩
theorem aIV{w:World}{g off n c:Nat}{l:List UInt8}(q:li l=2)(r:2<=n)(k:∀(j:Nat) (u:UInt8),l[j]? = some u->w.cell? ⟨g,off+j,none⟩=some (ii ix (u.toNat:Int))): Calls prog 146 #[si (some ⟨g,off,none⟩) n c] w λe w'=>e=iz (ii ip ((nD l:Nat):Int))/\∃m,w'=w.drewN m:=by
 match l,q with
 | [u,v],_=>
  have c0:w.cell? ⟨g,off,none⟩=some (ii ix (u.toNat:Int)):=k 0 u rfl;have c1:w.cell? ⟨g,off+1,none⟩=some (ii ix (v.toNat:Int)):=k 1 v rfl;have f:u.toNat<256:=u.toNat_lt;have h:v.toNat<256:=v.toNat_lt;have d:=aLB u.toNat v.toNat f h;have i:=lh d;clear d k;have p:(1:Int)<(n:Int):=by omega
  go_enter func146,ntmps146;go_wp2;go_quiet (fail);go_wp2;go_ret;refine⟨?_,_,rfl⟩;show iz (ii ip (bits .or ip ((u.toNat:Int)*256) (v.toNat:Int)))=_;rw[i.o];simp[nD]
section
variable {P:Program}{o:Oper}{a:Act}{w:World}{K:Act->World->Prop}{Q:Exit->Act->World->Prop}
theorem kA{f:FuncId}{l:List Operand}{g:Array TypeId}(k:o.op=.call { callee:=.value (.func f),args:=l.toArray,argTypes:=g })(c:List Value)(i:l.map a.eval=c) (m:∀w,(callFunc f c.toArray).run P w=.ok (.enter f c.toArray) w) (n:Calls P f c.toArray w (λe b=>∃v,e=iz v/\K (a.put o.dst v) b)):Oper.wp P o a w K Q:=by
 unfold Oper.wp;have d:l.toArray.map a.eval=c.toArray:=by rw[<- i];simp
 have h:(execOp a.eval o).run P w=.ok (.enter f c.toArray) w:=by simp only[execOp,k,resolve,d];simp[invoke,Act.eval,m,Deferred.ofValue]
 rw[h];refine n.mono ?_;rintro e b ⟨v,rfl,b⟩;exact b
theorem nZ{g:Nat}{t':TypeId}(t:TypeId)(x y:Operand)(d:o.op=.store t x y)(cs:List Value) (f:a.eval x=pi g)(i:a.eval y=il cs.toArray)(j:Blk w g t' F) (hi:(P.info? t).map (·.size)=some (li cs))(k:li F=li cs)(h1:∀v∈cs,v.oneCell'=true) (h:K (a.put o.dst undef) (w.setRow g cs.toArray)):Oper.wp P o a w K Q:=by have b:=run_storeVar_row (P:=P) w g t' t F.toArray cs.toArray j (by simpa using hi) (by simpa using k) (aKV h1);unfold Oper.wp;simp[execOp,d,f,i,Instr.storeAt,Instr.sureAddr,b,Result.andThen];exact h
theorem aDF{t e f ty:TypeId}(ht:P.underlying t=some (.slice e))(h2:P.underlying T=some (.slice f))(A B:Option Addr)(n c m d:Nat): (Builtin.append_ #[t,T] ty #[si A n c,si B m d]).run P w=(Builtin.append_ #[t,t] ty #[si A n c,si B m d]).run P w:=by
 have b:∀w,(underlying T).run P w=.ok (.slice f) w:=λw=>by simp[underlying,go_sem,h2]
 have g:∀w,(underlying t).run P w=.ok (.slice e) w:=λw=>by simp[underlying,go_sem,ht]
 unfold Builtin.append_;simp[go_sem,b,g]
theorem oZ{p:Array Oper}{rest:List Oper}{Q:Exit->Act->World->Prop}(v:o.guard=none)(s x:Operand)(t H:TypeId) (L:o.op=.call { callee:=.builtin .append,args:=#[s,x],argTypes:=#[t,H] }) (e M:TypeId)(i:TypeInfo)(z:Value)(b:Nat)(ht:P.underlying t=some (.slice e))(y:P.underlying H=some (.slice M))(hi:P.info? e=some i)(N:i.zero=some z) (k:i.size=1)(B:i.bytes=b)(C:z.cells.size=1) (A:Option Addr)(r n:Nat)(D:List Value)(V:a.eval s=si A n r)(q:w.ownsRow 0 e 1 (si A n r) n D) (E:Addr)(m c:Nat)(d:List Value)(T:a.eval x=si E m c)(W:li d=m)(l:∀j u,d[j]? = some u->w.cell? (E.add j)=some u)(h1:∀u∈d,u.oneCell'=true) (U:0<m)(F:n+m<=maxLen)(f:(n+m)*b<=140737488355328) (h:∀g cap w',w'.ownsRow 0 e 1 (si g (n+m) cap) (n+m) (D++d)->w.grownBy w' (si A n r).ownBlock->((si A n r).ownBlock=some g∨g=w)->g<w'.heap.size->wpList P p Q rest (a.put o.dst (si g (n+m) cap)) w'):wpList P p Q (o::rest) a w:=by obtain⟨g,cap,w',G,I,J,O,S⟩:=run_append_lies (P:=P) w t o.type 0 e i z 1 b ht hi N k B C (by omega) _ n D q E m c d (by omega) l h1 U F f (uB _) _ rfl;rw[<- aDF ht y]at G;refine vP v λK hK=>?_;unfold Oper.wp execOp;simp only[L,resolve,invoke,builtin,Sem.run_bind,Sem.run_pure,Result.andThen_ok,aGW,xJ,aAX,V,T,G];exact hK _ _ (h g cap w' I J O S)
theorem aCy{t e h ty:TypeId}(ht:P.underlying t=some (.slice e))(h2:P.underlying T=some (.slice h))(hi:(P.info? e).map (·.size)=some 1)(A:Option Addr)(B:Option Addr)(n c d:Nat)(l:n<=c): (Builtin.append_ #[t,T] ty #[si A n c,si B 0 d]).run P w=.ok (si A n c) w:=by
 obtain⟨k,i,j⟩:=Option.map_eq_some_iff.1 hi;have b:∀w,(underlying T).run P w=.ok (.slice h) w:=λw=>by simp[underlying,go_sem,h2]
 have f:∀w,(underlying t).run P w=.ok (.slice e) w:=λw=>by simp[underlying,go_sem,ht]
 have g:∀w,(sizeOf e).run P w=.ok 1 w:=λw=>by simp[sizeOf,typeInfo,go_sem,i,j]
 unfold Builtin.append_;cases A<;>cases B<;>simp[go_sem,b,f,g,l,loadCellsFrom]
theorem eQ{f:Array Oper}{rest:List Oper}{Q:Exit->Act->World->Prop}(g:o.guard=none)(s x:Operand)(t j:TypeId) (l:o.op=.call { callee:=.builtin .append,args:=#[s,x],argTypes:=#[t,j] }) (e m:TypeId)(ht:P.underlying t=some (.slice e))(i:P.underlying j=some (.slice m))(hi:(P.info? e).map (·.size)=some 1) (A:Option Addr)(B:Option Addr)(n c d:Nat)(p:a.eval s=si A n c)(q:a.eval x=si B 0 d)(r:n<=c) (h:wpList P f Q rest (a.put o.dst (si A n c)) w):wpList P f Q (o::rest) a w:=by have b:=aCy (P:=P) (w:=w) (ty:=o.type) ht i hi A B n c d r;refine vP g λK hK=>?_;unfold Oper.wp execOp;simp only[l,resolve,invoke,builtin,Sem.run_bind,Sem.run_pure,Result.andThen_ok,aGW,xJ,aAX,p,q,b];exact hK _ _ h
end
theorem aDG(c:Array Value)(w:World):(callFunc 145 c).run prog w=.ok (.enter 145 c) w:=by kernel_rfl
theorem aDH(c:Array Value)(w:World):(callFunc 146 c).run prog w=.ok (.enter 146 c) w:=by kernel_rfl
def fK (w:World) (g:Nat) (s:List UInt8):Prop:=Blk w g 5 (gA s)/\s.length=64
def zU (g:Nat):Value:=.slice (some ⟨g,0,none⟩) 64 64
def aDI (g:Nat) (p:Pc):Array Value:=#[.int .u32 (p.st.session:Int),.int .u32 (p.st.number:Int),.int .i64 (p.st.count:Int),.int .i64 (p.place:Int),.slice (some ⟨g,16,none⟩) p.b.length 48]
def aS:Array Value:=#[.int .u32 0,.int .u32 0,.int .i64 0,.int .i64 0,.slice none 0 0]
def aDJ (g:Nat) (s:List UInt8):Value:=
 match mB s with
 | some p=>.tuple #[.agg (aDI g p),.bool true]
 | none=>.tuple #[.agg aS,.bool false]
theorem fK.at_{w:World}{g:Nat}{s:List UInt8}(h:fK w g s){j:Nat}{u:UInt8}(c:s[j]? = some u):w.cell? ⟨g,j,none⟩=some (ii ix (u.toNat:Int)):=h.1.at_ (by rw[sH,c];rfl)
theorem fK.fr{S:List Nat}{w w':World}{g:Nat}{s:List UInt8}(h:fK w g s)(c:Fr S w w')(d:g∉S:=by simp):fK w' g s:=⟨h.1.fr c d,h.2⟩
theorem Z22{P:Prop} (h:P:=by
 go_enter func114,ntmps114
 go_wp2
 exact qD (v:=.tuple #[.agg aS,.bool false]) (by simp[results,Go.Proofs.Tryz.results114,go_sem,aS]) rfl ⟨rfl,(Fr.refl [] w).alloc _⟩):P:=h
theorem aQo{w:World}{g:Nat}{s:List UInt8}(h:fK w g s)(m:mB s=none): RV 114 #[zU g] w (tl #[il aS,ij false]):=by
 have l:=h.2;obtain⟨b,i⟩:∃b,s[0]? = some b:=gx (by omega);obtain⟨c,j⟩:∃c,s[1]? = some c:=gx (by omega);obtain⟨d,k⟩:∃d,s[14]? = some d:=gx (by omega);have p:=h.at_ i;have q:=h.at_ j;have r:=h.at_ k;have t:=h.1.lt;have f:¬ (b.toNat=165/\c.toNat=90/\d.toNat<=48):=by rintro⟨a,n,o⟩;unfold mB at m;rw[iA ⟨l,by rw[vR,i];exact xP.1 a,by rw[vR,j];exact xP.1 n,by rw[vR,k];exact o⟩]at m;cases m
 unfold zU;by_cases i:b.toNat=165
 ·have k:((b.toNat:Int)!=165)=false:=by rw[bne_eq_false_iff_eq];omega
  by_cases j:c.toNat=90;·have l:((c.toNat:Int)!=90)=false:=(by rw[bne_eq_false_iff_eq];omega);have n:48<d.toNat:=(by omega);clear f i j;exact Z22
  have l:((c.toNat:Int)!=90)=true:=(by rw[nJ];omega);clear f i j;exact Z22
 have k:((b.toNat:Int)!=165)=true:=by rw[nJ];omega
 clear f i;exact Z22
theorem bS{w:World}{g:Nat}{s:List UInt8}(h:fK w g s)(k n:Nat):∀(j:Nat) (u:UInt8),((s.drop k).take n)[j]? = some u->w.cell? ⟨g,k+j,none⟩=some (ii ix (u.toNat:Int)):=by
 intro j u b;refine h.at_ ?_;rw[uH]at b;split at b;·rw[zK]at b;exact b
 cases b
theorem pZ{s:List UInt8}(h:li s=64)(k n:Nat)(c:k+n<=64):li ((s.drop k).take n)=n:=by rw[pB,vB];omega
theorem aOx{w:World}{g:Nat}{s:List UInt8}{p:Pc}(h:fK w g s)(n:mB s=some p): RV 114 #[zU g] w (tl #[il (aDI g p),ij true]):=by
 have r:=h.2;obtain⟨x,h0⟩:∃x,s[0]? = some x:=gx (by omega);obtain⟨y,h1⟩:∃y,s[1]? = some y:=gx (by omega);obtain⟨c,f⟩:∃c,s[14]? = some c:=gx (by omega);have c0:=h.at_ h0;have c1:=h.at_ h1;have z:=h.at_ f;have M:=h.1.lt;have k:li s=64/\s.getD 0 0=165/\s.getD 1 0=90/\(s.getD 14 0).toNat<=48:=by
  unfold mB at n;split at n;·assumption
  cases n
 unfold mB at n;rw[iA k]at n;simp only[yG]at n;obtain⟨_,I,J,t⟩:=k;rw[vR,h0]at I;rw[vR,h1]at J;rw[vR,f]at t;simp only[fV]at I J t;have A:li p.b=c.toNat:=by rw[<- n,vR,f];exact pZ r 16 _ (by simp only[fV];omega)
 have e0:x.toNat=165:=by rw[I];rfl
 have e1:y.toNat=90:=by rw[J];rfl
 have n0:((x.toNat:Int)!=165)=false:=by rw[bne_eq_false_iff_eq];omega
 have n1:((y.toNat:Int)!=90)=false:=by rw[bne_eq_false_iff_eq];omega
 have N:=lh n;unfold zU;go_enter func114,ntmps114;go_wp2;have O:c.toNat<256:=c.toNat_lt;have Q:Wi ip (c.toNat:Int)=(c.toNat:Int):=ak;have T:Wi ip (16+(c.toNat:Int))=16+(c.toNat:Int):=ak;have U:(0:Int)<=16+(c.toNat:Int)/\16+(c.toNat:Int)<=64:=by omega
 have V:(16:Int)<=max (16+(c.toNat:Int)) 0:=by omega
 have X:(16+(c.toNat:Int)).toNat-16=c.toNat:=by omega
 have i:∀o:Obj,(w.alloc o).cell? ⟨g,14,none⟩=some (ii ix (c.toNat:Int)):=λo=>by rw[World.cell?_alloc_lt _ _ _ (by exact M)];exact z
 have Y:∀o:Obj,fK (w.alloc o) g s:=λo=>h.fr ((jj [] w).alloc o);refine aj (λW=>W.cell? ⟨g,14,none⟩=some (ii ix (c.toNat:Int))) [0,1,3,4,6,7,9,10,11,13,14,15,16,17,18,19,20] ?_;refine ae 0 (i _) ?_;refine ae 1 (i _) ?_;refine ae 3 (i _) ?_;refine ae 4 (i _) ?_;refine ae 6 (i _) ?_;refine ae 7 (i _) ?_;refine ae 10 (i _) ?_;refine ae 11 (i _) ?_;refine ae 13 (i _) ?_;refine ae 14 (i _) ?_;refine ae 15 (i _) ?_;refine ae 16 (i _) ?_;refine ae 17 (i _) ?_;refine ae 18 (i _) ?_;refine ae 19 (i _) ?_;have d:∀o:Obj,fK ((w.alloc o).drew) g s:=λo=>h.fr (((jj [] w).alloc o).drew);have B:∀o:Obj,Fr [] w ((w.alloc o).drew):=λo=>((jj [] w).alloc o).drew;refine ag 2 λK hK=>kA (l:=[.tmp 27]) rfl [si (some ⟨g,2,none⟩) 62 62] rfl (aDG _) ((aIU (l:=(s.drop 2).take 4) (pZ r 2 4 (by omega)) (by omega) (by omega) (bS (d _) 2 4)).mono ?_);rintro e w1 ⟨rfl,rfl⟩;refine⟨_,rfl,hK _ _ (λ_=>fK.at_ (d _) f) ?_⟩;simp only[nrm];refine ag 5 λK hK=>kA (l:=[.tmp 30]) rfl [si (some ⟨g,6,none⟩) 58 58] rfl (aDG _) ((aIU (l:=(s.drop 6).take 4) (pZ r 6 4 (by omega)) (by omega) (by omega) (bS (d _) 6 4)).mono ?_);rintro e w1 ⟨rfl,rfl⟩;refine⟨_,rfl,hK _ _ (λ_=>fK.at_ (d _) f) ?_⟩;simp only[nrm];refine ag 8 λK hK=>kA (l:=[.tmp 33]) rfl [si (some ⟨g,12,none⟩) 52 52] rfl (aDH _) ((aIV (l:=(s.drop 12).take 2) (pZ r 12 2 (by omega)) (by omega) (bS (d _) 12 2)).mono ?_);rintro e w1 ⟨rfl,m,rfl⟩;refine⟨_,rfl,hK _ _ (λ_=>fK.at_ ((d _).fr ((jj [] _).drewN m)) f) ?_⟩;simp only[nrm];refine ae 9 (fK.at_ ((d _).fr ((jj [] _).drewN m)) f) ?_;refine ag 12 λK hK=>kA (l:=[.tmp 37]) rfl [si (some ⟨g,10,none⟩) 54 54] rfl (aDH _) ((aIV (l:=(s.drop 10).take 2) (pZ r 10 2 (by omega)) (by omega) (bS ((d _).fr ((jj [] _).drewN m)) 10 2)).mono ?_);rintro e w1 ⟨rfl,u,rfl⟩;refine⟨_,rfl,hK _ _ (λ_=>fK.at_ (((d _).fr ((jj [] _).drewN m)).fr ((jj [] _).drewN u)) f) ?_⟩;simp only[nrm];refine ae 20 (fK.at_ (((d _).fr ((jj [] _).drewN m)).fr ((jj [] _).drewN u)) f) ?_;refine ah 21 λK hK=>?_;have Z:=N.o;subst Z;have C:=lh A;refine nZ 203 (.tmp 2) (.tmp 46) rfl [ii iq ((nD ((s.drop 2).take 4):Nat):Int),ii iq ((nD ((s.drop 6).take 4):Nat):Int),ii ip ((nD ((s.drop 12).take 2):Nat):Int),ii ip ((nD ((s.drop 10).take 2):Nat):Int),si (some ⟨g,16,none⟩) c.toNat 48] rfl rfl ((jl w _ _).fr ((((jj [] _).drew).drewN m).drewN u)) (by kernel_rfl) rfl (by simp[Value.oneCell']) (hK _ _ (λh=>absurd h (by decide +kernel)) ?_);simp only[Act.put];refine ag 22 λK hK=>tB (v:=ij true) (w':=_) rfl (hK _ _ (λh=>absurd h (by decide +kernel)) ?_);simp only[nrm];refine wd ?_ _;have j:=(((jl w 203 [ii iq 0,ii iq 0,ii ip 0,ii ip 0,si none 0 0]).fr ((((jj [] _).drew).drewN m).drewN u))).row_ [ii iq ((nD ((s.drop 2).take 4):Nat):Int),ii iq ((nD ((s.drop 6).take 4):Nat):Int),ii ip ((nD ((s.drop 12).take 2):Nat):Int),ii ip ((nD ((s.drop 10).take 2):Nat):Int),si (some ⟨g,16,none⟩) c.toNat 48];have q:=lh (((((B (iy #[ii iq 0,ii iq 0,ii ip 0,ii ip 0,si none 0 0] 203)).drewN m).drewN u).setRow (Ij (tA _))) #[ii iq ((nD ((s.drop 2).take 4):Nat):Int),ii iq ((nD ((s.drop 6).take 4):Nat):Int),ii ip ((nD ((s.drop 12).take 2):Nat):Int),ii ip ((nD ((s.drop 10).take 2):Nat):Int),si (some ⟨g,16,none⟩) c.toNat 48]);have D:=j.a 0;have E:=j.a 1;have F:=j.a 2;have G:=j.a 3;have H:=j.a 4;have L:=lh j;revert D E F G H q L;generalize World.setRow _ _ _=wf;intro q D E F G H L;go_wp2;refine qD (v:=tl #[il (aDI g _),ij true]) ?_ rfl ⟨rfl,q.out⟩;simp[results,go_sem,D,E,F,G,H,aDI];refine Eq.trans C.out.symm ?_;simp[kE (show 14<li s by have:=r;omega)]
theorem aBt{w:World}{g:Nat}{s:List UInt8}(h:fK w g s): RV 114 #[zU g] w (aDJ g s):=by
 unfold aDJ;cases b:mB s with
 | none=>exact aQo h b
 | some c=>exact aOx h b
def aN (p:Pc):Nat->List UInt8
 | 0=>165::90::List.replicate 62 0
 | k+1=>((aN p k).set (2+k) (jC p.st.session (3-k))).set (6+k) (jC p.st.number (3-k))
theorem aDK(l:List UInt8)(i:Nat)(c:UInt8):gA (l.set i c)=(gA l).set i (B8 c):=by simp[gA,List.map_set]
theorem pT(p:Pc):∀k,li (aN p k)=64
 | 0=>by simp[aN]
 | k+1=>by simp[aN,pT p k]
theorem bI(n k:Nat):((jC n k).toNat:Int)=((n:Int) / 256^k)%256:=by simp[jC]
def tK (p:Pc) (sv:Value):List Value:=[.int .u32 (p.st.session:Int),.int .u32 (p.st.number:Int),.int .i64 (p.st.count:Int),.int .i64 (p.place:Int),sv]
def aTT (w:World) (p:Pc) (sv:Value) (i:Value) (wr:World):Prop:=
 ∃k:Nat,k<=4/\i=.int .i64 k/\Blk wr (w.heap.size+1) 5 (gA (aN p k))/\Blk wr w.heap.size 203 (tK p sv)/\Fr [] w wr
theorem aCI{w wr:World}{p:Pc}{b:Value}{x y:Int}(k:Nat)(i:k<4)(c:Blk wr (w.heap.size+1) 5 (gA (aN p k)))(d:Blk wr w 203 (tK p b))(f:Fr [] w wr) (g:x=((jC p.st.session (3-k)).toNat:Int))(h:y=((jC p.st.number (3-k)).toNat:Int)): aTT w p b (ii ip ((k+1:Nat):Int)) ((wr.setCell ⟨w.heap.size+1,2+k,none⟩ (ii ix x)).setCell ⟨w.heap.size+1,6+k,none⟩ (ii ix y)):=by subst g h;refine⟨k+1,by omega,rfl,?_,(d.far (by show _≠_;simp) _).far (by show _≠_;simp) _,(f.setCell (Ij (aAY _)) _).setCell (Ij (aAY _)) _⟩;have:=(c.set_ (2+k) (B8 (jC p.st.session (3-k)))).set_ (6+k) (B8 (jC p.st.number (3-k)));rw[<- aDK,<- aDK]at this;exact this
def wH (l:List UInt8) (x10 x11 x12 x13 x14:Int):List Value:=(((((gA l).set 10 (.int .u8 x10)).set 11 (.int .u8 x11)).set 12 (.int .u8 x12)).set 13 (.int .u8 x13)).set 14 (.int .u8 x14)
theorem vY(l:List UInt8)(c:li l=64)(x10 x11 x12 x13 x14:Int):li (wH l x10 x11 x12 x13 x14)=64:=by simp[wH,nA,c]
theorem aFJ(p:Pc){x10 x11 x12 x13 x14:Int}(c:x10=((jC p.place 1).toNat:Int))(d:x11=((jC p.place 0).toNat:Int))(f:x12=((jC p.st.count 1).toNat:Int))(g:x13=((jC p.st.count 0).toNat:Int))(h:x14=((Ot (li p.b)).toNat:Int)): (wH (aN p 4) x10 x11 x12 x13 x14).take 16++gA p.b=gA (aE p):=by subst c d f g h;simp[wH,aN,gA,aE,B8]
theorem dA.of_own{w:World}{g n c:Nat}{bs:List UInt8}(h:w.ownsRow 0 5 1 (si g n c) n (gA bs)):dA w (si g n c) bs g:=by
 have b:li bs=n:=by have:=h.1;rw[nA]at this;omega
 obtain⟨a,l,d,f,_⟩:=jA h;injection d with _ _ d;subst d;subst b;refine⟨_,_,0,rfl,f,λf=>⟨rfl,λi j k=>?_⟩⟩;obtain⟨m,b,d⟩:=tD h f;simp only[yG,Addr.mk.injEq]at b;rw[nB,b.1];exact d i j k
theorem aQp{w:World}{g n:Nat}{cs:List Value}(h:Blk w g 5 cs)(c:n<=li cs)(d:li cs<=maxLen):w.ownsRow 0 5 1 (si g n (li cs)) n (cs.take n):=⟨by rw[pB];omega,Ij ⟨g,li cs,cs.toArray,rfl,uB _,h,c,d,by simp,by simp⟩⟩
theorem aDL{w:World}{g:Nat}{l:List UInt8}{x10 x11 x12 x13 x14:Int}(c:li l=64)(h:Blk w g 5 (wH l x10 x11 x12 x13 x14)):w.ownsRow 0 5 1 (si g 16 64) 16 ((wH l x10 x11 x12 x13 x14).take 16):=by have:=aQp (n:=16) h (by rw[vY l c];omega) (by rw[vY l c];unfold maxLen;omega);rw[vY l c]at this;exact this
theorem aUk{w:World}{p:Pc}{g:Nat}{l:List UInt8}{x10 x11 x12 x13 x14:Int}(k:l=aN p 4)(h:Blk w g 5 (wH l x10 x11 x12 x13 x14))(m:p.b=[]) (c:x10=((jC p.place 1).toNat:Int))(d:x11=((jC p.place 0).toNat:Int))(f:x12=((jC p.st.count 1).toNat:Int))(i:x13=((jC p.st.count 0).toNat:Int))(j:x14=((Ot (li p.b)).toNat:Int)): dA w (si g 16 64) (aE p) g:=by subst k;refine dA.of_own ?_;have:=aDL (pT p 4) h;rw[<- aFJ p c d f i j,m];simpa[gA]using this
def wrW (wr:World) (m:Nat) (x10 x11 x12 x13 x14:Int):World:=
 (((((wr.setCell ⟨m,10,none⟩ (.int .u8 x10)).setCell ⟨m,11,none⟩ (.int .u8 x11)).setCell ⟨m,12,none⟩ (.int .u8 x12)).setCell ⟨m,13,none⟩ (.int .u8 x13)).setCell ⟨m,14,none⟩ (.int .u8 x14)).drew.drew
theorem aNe{wr:World}{m:Nat}{L:List UInt8}(x10 x11 x12 x13 x14:Int)(h:Blk wr m 5 (gA L)):Blk (wrW wr m x10 x11 x12 x13 x14) m 5 (wH L x10 x11 x12 x13 x14):=((((((h.set_ 10 _).set_ 11 _).set_ 12 _).set_ 13 _).set_ 14 _).drew).drew
theorem aQq{w wr:World}{m:Nat}(x10 x11 x12 x13 x14:Int)(h:Fr [] w wr)(c:w<=m):Fr [] w (wrW wr m x10 x11 x12 x13 x14):=((((((h.setCell (Ij c) _).setCell (Ij c) _).setCell (Ij c) _).setCell (Ij c) _).setCell (Ij c) _).drew).drew
theorem aUl(w:World):(Instr.makeSlice 201 (ii ip 16) (ii ip 64)).run prog w=.ok (si w 16 64) (w.alloc (iy z64.toArray 5)):=by
 obtain⟨c,d,f,b,g⟩:=oJ nT;have h:=run_makeSlice (P:=prog) w 201 5 c _ underlying201 d f ip ip 16 64 (by omega) (by omega) (by rw[b];decide) (by rw[g];decide) (by omega);have e:madeCells #[ii ix 0] 64=z64.toArray:=by exact Z57
 rw[b]at h;exact h.trans (by rw[<- e];rfl)
theorem aIW{w:World}{p:Pc}{sv:Value}(hs:p.st.session<4294967296)(hn:p.st.number<4294967296)(hc:p.st.count<65536)(hp:p.place<65536)(hl:li p.b<=48)(hb:dA w sv p.b n): Calls prog 128 #[il (tK p sv).toArray] w λe w'=>∃v g,e=iz v/\dA w' v (aE p) g/\w<=g/\Fr [] w w':=by
 have V:=aUl;unfold tK;go_enter func128,ntmps128;go_wp2;go_loopw [10] (aTT w p sv) (λi _=>4-(intOf i).toNat)
 ·refine⟨0,by omega,rfl,?_,(jl w _ _).alloc _,((jj [] w).alloc _).alloc _⟩;have e:((z64.set 0 (ii ix 165)).set 1 (ii ix 90))=gA (aN p 0):=rfl;rw[e];have h:=jl (w.alloc (iy (tK p sv).toArray 203)) 5 (gA (aN p 0));have q:(w.alloc (iy (tK p sv).toArray 203)).heap.size=w.heap.size+1:=by simp
  rw[q]at h;exact h
 obtain⟨k,hk,rfl,l,d,s⟩:=hrel;have c0:wr.cell? w=some (ii iq (p.st.session:Int)):=d.at_ rfl;have c1:wr.cell? ⟨w,1,none⟩=some (ii iq (p.st.number:Int)):=d.at_ rfl;have W:=l.free;have f:∀j:Nat,j<64->∃u:UInt8,wr.cell? ⟨w.heap.size+1,j,none⟩=some (B8 u):=λj hj=>⟨(aN p k)[j]'(by rw[pT];exact hj),l.at_ (by rw[sH,kE];rfl)⟩;by_cases a1:k<4
 ·obtain⟨u1,M⟩:=f (2+k) (by omega);obtain⟨u2,N⟩:=f (6+k) (by omega);unfold B8 at M N;obtain rfl|rfl|rfl|rfl:=(by omega:k=0∨k=1∨k=2∨k=3)
  ·go_wp2;exact⟨aCI 0 (by omega) l d s (by rw[bI];omega) (by rw[bI];omega),by simp[intOf]⟩
  ·go_wp2;exact⟨aCI 1 (by omega) l d s (by rw[bI];omega) (by rw[bI];omega),by simp[intOf]⟩
  ·go_wp2;exact⟨aCI 2 (by omega) l d s (by rw[bI];omega) (by rw[bI];omega),by simp[intOf]⟩
  go_wp2;exact⟨aCI 3 (by omega) l d s (by rw[bI];omega) (by rw[bI];omega),by simp[intOf]⟩
 have H:k=4:=(by omega);subst H;have c2:wr.cell? ⟨w,2,none⟩=some (ii ip (p.st.count:Int)):=d.at_ rfl;have c3:wr.cell? ⟨w,3,none⟩=some (ii ip (p.place:Int)):=d.at_ rfl;have c4:wr.cell? ⟨w,4,none⟩=some sv:=d.at_ rfl;obtain⟨u10,B⟩:=f 10 (by omega);obtain⟨u11,C⟩:=f 11 (by omega);obtain⟨u12,D⟩:=f 12 (by omega);obtain⟨u13,E⟩:=f 13 (by omega);obtain⟨u14,F⟩:=f 14 (by omega);obtain⟨L,G⟩:=nm (aN p 4);have t:=lh (show Blk wr (w.heap.size+1) 5 (gA L) by rw[G];exact l);unfold B8 at B C D E F;obtain⟨A,c,off,rfl,X,wH⟩:=hb;by_cases h0:li p.b=0
 ·have x:p.b=[]:=eT h0;rw[h0];rw[h0]at c4;go_wp2;go_region;go_wp2;go_region;go_wp2_with (refine eQ rfl (.tmp 68) (.tmp 70) 201 67 rfl 5 5 underlying201 Go.Proofs.Tryz.underlying67 (by kernel_rfl) (some ⟨w.heap.size+1,0,none⟩) A 16 64 c rfl rfl (by omega) ?_);go_wp2;go_ret;refine⟨si (some (w.heap.size+1:Nat)) 16 64,w.heap.size+1,rfl,?_,by omega,?_⟩
  ·exact aUk G (aNe ((p.place:Int) / 256) ((p.place:Int)%256) ((p.st.count:Int) / 256) ((p.st.count:Int)%256) 0 t.o) x (by rw[bI];omega) (by rw[bI];omega) (by rw[bI];omega) (by rw[bI];omega) (by rw[x];rfl)
  exact aQq ((p.place:Int) / 256) ((p.place:Int)%256) ((p.st.count:Int) / 256) ((p.st.count:Int)%256) 0 s (aAY _)
 obtain⟨rfl,O⟩:=wH (by omega);obtain⟨Y,hi,Z,q,Q⟩:=oJ nT;have I:=lh (aDL (show li L=64 by rw[G];exact pT p 4) (aNe ((p.place:Int) / 256) ((p.place:Int)%256) ((p.st.count:Int) / 256) ((p.st.count:Int)%256) (li p.b:Int) t.o));have r:=lh (aQq ((p.place:Int) / 256) ((p.place:Int)%256) ((p.st.count:Int) / 256) ((p.st.count:Int)%256) (li p.b:Int) s (aAY w));have y:=lh (aFJ p (x10:=(p.place:Int) / 256) (x11:=(p.place:Int)%256) (x12:=(p.st.count:Int) / 256) (x13:=(p.st.count:Int)%256) (x14:=(li p.b:Int)) (by rw[bI];omega) (by rw[bI];omega) (by rw[bI];omega) (by rw[bI];omega) (by simp;omega));rw[<- G]at y;have J:∀(j:Nat) (u:Value),(gA p.b)[j]? = some u->(wrW wr (w.heap.size+1) ((p.place:Int) / 256) ((p.place:Int)%256) ((p.st.count:Int) / 256) ((p.st.count:Int)%256) (li p.b:Int)).cell? (Addr.add ⟨n,off,none⟩ j)=some u:=by intro j u hu;have h1:=O j u hu;rw[Go.Addr.add_mid];rw[r.o.cell (p:=⟨n,off+j,none⟩) (xF w _ h1) (by simp)];exact h1
 go_wp2;go_region;go_wp2;go_region;go_wp2_with (refine oZ rfl (.tmp 68) (.tmp 70) 201 67 rfl 5 5 Y (ii ix 0) 1 underlying201 Go.Proofs.Tryz.underlying67 hi Z q Q rfl (some ⟨w.heap.size+1,0,none⟩) 64 16 ?xs rfl ?own ⟨n,off,none⟩ (li p.b) c (gA p.b) rfl (nA _) ?news (mD _) (by omega) (by unfold maxLen;omega) (by omega) ?_)
 case own=>have h:=I.o;unfold wrW at h;exact h
 case news=>have h:=J;unfold wrW at h;exact h
 intro g cap w' m hg T a0;rw[y.o]at m;have z:=lh m;go_wp2;go_ret;unfold wrW at r;refine⟨si g (16+li p.b) cap,g,rfl,dA.of_own z.o,?_,r.o.grown hg ?_⟩
 ·have h1:=s.size;obtain h|h:=T
  ·have:w.heap.size+1=g:=(by simpa[Value.ownBlock]using h);omega
  omega
 intro g' U;have:w.heap.size+1=g':=(by simpa[Value.ownBlock]using U);right;omega
end
end Go.Proofs.YtebjhcjbfaaejaaGreatDoor
