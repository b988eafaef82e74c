/-
  Joined by join.py: Base Row Laws Sl Ua Region Gen Ub
-/
import Derived.WalkKit
import Derived.WalkSpells
import Derived.WalkLawsBesides
import Derived.Lib.Hide
import Derived.Deep.AppendLies
import Derived.Deep.QuietTactic
import Derived.BigQuiet
import Derived.Laws.CopyOwn
import Derived.Deep.OwnRows
import Derived.Deep.DeepCutAuto
import Derived.Deep.LoopGhost
import Derived.ProofKit
import Derived.OpenShut
import Derived.Deep.Slices
import Derived.Deep.Fields
import Derived.ChangeSame
import Derived.Carry
import Derived.Deep.MidRow
import Derived.Deep.WholeRow
import Derived.StillTailTactics
import Derived.Lib.Strings
import Derived.OrdersHeld
import Derived.RegionTactic
import Derived.Test.YtbggkiebfflcdaaGreatDoorChecked
set_option maxRecDepth 100000
set_option maxHeartbeats 32000000
namespace Go.Proofs.YtbggkiebfflcdaaGreatDoor
section
open Go.RowKit
structure Fr (S:List Nat) (w w':World):Prop where
 os:w'.os=w.os
 tape:w'.tape=w.tape
 output:w'.output=w.output
 size:w.heap.size<=w'.heap.size
 block:∀ k,k < w.heap.size -> k ∉ S -> w'.heap[k]? = w.heap[k]?
theorem Fr.refl (S:List Nat) (w:World):Fr S w w:=⟨rfl,rfl,rfl,Nat.le_refl _,fun _ _ _=>rfl⟩
theorem Fr.trans {S T:List Nat} {a b c:World} (h:Fr S a b) (k:Fr T b c) (hT:∀ x ∈ T,x ∈ S ∨ a.heap.size<=x:=by simp):Fr S a c:=
 ⟨k.os.trans h.os,k.tape.trans h.tape,k.output.trans h.output,Nat.le_trans h.size k.size,fun i hi hn=>
  (k.block i (Nat.lt_of_lt_of_le hi h.size) (fun hm=>by
   rcases hT i hm with h1 | h1
   ·exact hn h1
   ·omega)).trans (h.block i hi hn)⟩
theorem Fr.mono {S T:List Nat} {a b:World} (h:Fr S a b) (hS:∀ x ∈ S,x ∈ T ∨ a.heap.size<=x):Fr T a b:=
 ⟨h.os,h.tape,h.output,h.size,fun i hi hn=>h.block i hi (fun hm=>by
  rcases hS i hm with h1 | h1
  ·exact hn h1
  ·omega)⟩
theorem Fr.drew {S:List Nat} {a b:World} (h:Fr S a b):Fr S a b.drew:=⟨h.os,h.tape,h.output,h.size,h.block⟩
theorem Fr.drewN {S:List Nat} {a b:World} (h:Fr S a b) (n:Nat):Fr S a (b.drewN n):=⟨h.os,h.tape,h.output,h.size,h.block⟩
theorem Fr.alloc {S:List Nat} {a b:World} (h:Fr S a b) (o:Obj):Fr S a (b.alloc o):=
 ⟨h.os,h.tape,h.output,Nat.le_trans h.size (by simp),fun i hi hn=>(Below.heap_alloc b o i (Nat.lt_of_lt_of_le hi h.size)).trans (h.block i hi hn)⟩
theorem Fr.setCell {S:List Nat} {a b:World} (h:Fr S a b) {p:Addr} (hp:p.block ∈ S ∨ a.heap.size<=p.block) (u:Value):Fr S a (b.setCell p u):=
 ⟨h.os,h.tape,h.output,by simpa[World.setCell] using h.size,fun i hi hn=>(Below.heap_setCell b p u i (fun e=>by
  rcases hp with hp | hp
  ·exact hn (e ▸ hp)
  ·omega)).trans (h.block i hi hn)⟩
theorem Fr.setRow {S:List Nat} {a b:World} (h:Fr S a b) {g:Nat} (hp:g ∈ S ∨ a.heap.size<=g) (cs:Array Value):Fr S a (b.setRow g cs):=
 ⟨h.os,h.tape,h.output,by simpa[World.setRow] using h.size,fun i hi hn=>(setRow_other b g i cs (fun e=>by
  rcases hp with hp | hp
  ·exact hn (e ▸ hp)
  ·omega)).trans (h.block i hi hn)⟩
theorem Fr.grown {S:List Nat} {a b c:World} (h:Fr S a b) {row:Option Nat} (hg:b.grownBy c row) (hr:∀ g,row=some g -> g ∈ S ∨ a.heap.size<=g):Fr S a c:=
 ⟨hg.os.trans h.os,hg.tape.trans h.tape,hg.output.trans h.output,Nat.le_trans h.size hg.size,fun i hi hn=>
  (hg.block i (Nat.lt_of_lt_of_le hi h.size) (fun e=>by
   rcases hr i e.symm with h1 | h1
   ·exact hn h1
   ·omega)).trans (h.block i hi hn)⟩
theorem Fr.below {S:List Nat} {a b:World} {B:Nat} (h:Fr S a b) (hB:B<=a.heap.size) (hS:∀ x ∈ S,B<=x):Below B a b:=
 ⟨h.os,h.tape,h.output,h.size,fun k hk=>h.block k (by omega) (fun hm=>by have:=hS k hm;omega)⟩
theorem Fr.of_below {a b:World} (h:Below a.heap.size a b) (S:List Nat):Fr S a b:=⟨h.os,h.tape,h.output,h.size,fun k hk _=>h.block k hk⟩
theorem Fr.cell {S:List Nat} {a b:World} (h:Fr S a b) {p:Addr} (hp:p.block < a.heap.size) (hn:p.block ∉ S):b.cell? p=a.cell? p:=World.cell?_of_block (w:=a) (h.block p.block hp hn)
def Blk (w:World) (g:Nat) (t:TypeId) (cs:List Value):Prop:=w.heap[g]? = some (.cells cs.toArray t (0,0))
section
variable {w w' : World} {g : Nat} {t : TypeId} {cs : List Value}
theorem Blk.lt (h:Blk w g t cs):g < w.heap.size:=by
 rcases Nat.lt_or_ge g w.heap.size with hlt | hge
 ·exact hlt
 ·unfold Blk at h;rw[Array.getElem?_eq_none hge] at h;cases h
theorem Blk.cell (h:Blk w g t cs) (i:Nat):w.cell? ⟨g,i,none⟩=cs[i]?:=by
 unfold Blk at h;simp[World.cell?,h]
theorem Blk.at_ (h:Blk w g t cs) {i:Nat} {v:Value} (hv:cs[i]? = some v):w.cell? ⟨g,i,none⟩=some v:=(h.cell i).trans hv
theorem Blk.free (h:Blk w g t cs) (i:Nat):w.frozen? ⟨g,i,none⟩=false:=by
 unfold Blk at h;simp[World.frozen?,h]
theorem Blk.new (w:World) (t:TypeId) (cs:List Value):Blk (w.alloc (.cells cs.toArray t)) w.heap.size t cs:=by
 exact heap_alloc_new w _
theorem Blk.fr {S:List Nat} (h:Blk w g t cs) (hf:Fr S w w') (hg:g ∉ S:=by simp):Blk w' g t cs:=(hf.block g h.lt hg).trans h
theorem Blk.drew (h:Blk w g t cs):Blk w.drew g t cs:=h
theorem Blk.drewN (h:Blk w g t cs) (n:Nat):Blk (w.drewN n) g t cs:=h
theorem Blk.alloc (h:Blk w g t cs) (o:Obj):Blk (w.alloc o) g t cs:=(Below.heap_alloc w o g h.lt).trans h
theorem Blk.set_ (h:Blk w g t cs) (i:Nat) (u:Value):Blk (w.setCell ⟨g,i,none⟩ u) g t (cs.set i u):=by
 unfold Blk at h ⊢
 simp[World.setCell,Array.getElem?_modify,h]
theorem Blk.far (h:Blk w g t cs) {p:Addr} (hp:g ≠ p.block) (u:Value):Blk (w.setCell p u) g t cs:=(Below.heap_setCell w p u g hp).trans h
theorem Blk.row_ (h:Blk w g t cs) (ds:List Value):Blk (w.setRow g ds.toArray) g t ds:=setRow_heap w g _ _ t _ h
theorem Blk.ne_ {g':Nat} {t':TypeId} {cs':List Value} (h:Blk w g t cs) (h':Blk w g' t' cs') (hne:t ≠ t'):g ≠ g':=by
 rintro rfl;unfold Blk at h h';rw[h] at h';injection h' with h';injection h' with _ ht;exact hne ht
end
theorem sB {S:List Nat} {w w':World} {base:Nat} {e:TypeId} {size n:Nat} {v:Value} {xs:List Value} (h:w.ownsRow base e size v n xs) (hf:Fr S w w') (hS:∀ g,v.ownBlock=some g -> g ∉ S):w'.ownsRow base e size v n xs:=by
 refine⟨h.1,?_⟩;rcases h.2 with h2 | ⟨g,cap,cur,hv,hg,hh,r⟩
 ·exact .inl h2
 ·refine .inr ⟨g,cap,cur,hv,hg,?_,r⟩
  have hlt:g < w.heap.size:=by
   rcases Nat.lt_or_ge g w.heap.size with hlt | hge
   ·exact hlt
   ·rw[Array.getElem?_eq_none hge] at hh;cases hh
  rw[hf.block g hlt (hS g (by subst hv;rfl))];exact hh
theorem iL {w:World} {base:Nat} {e:TypeId} {size n:Nat} {v:Value} {xs:List Value} (h:w.ownsRow base e size v n xs):∀ g,v.ownBlock=some g -> g < w.heap.size:=by
 intro g hg;rcases h.2 with ⟨rfl,_⟩ | ⟨g',cap,cur,rfl,_,hh,_⟩
 ·simp[Value.ownBlock] at hg
 ·have:g'=g:=by simpa[Value.ownBlock] using hg
  subst this;rcases Nat.lt_or_ge g' w.heap.size with hlt | hge
  ·exact hlt
  ·rw[Array.getElem?_eq_none hge] at hh;cases hh
theorem kW {w:World} {base:Nat} {e:TypeId} {size n:Nat} {v:Value} {xs:List Value} {g:Nat} {t:TypeId} {cs:List Value} (h:w.ownsRow base e size v n xs) (hg:Blk w g t cs) (hne:e ≠ t):v.ownBlock ≠ some g:=by
 rcases h.2 with ⟨rfl,_⟩ | ⟨g',cap,cur,rfl,_,hh,_⟩
 ·simp[Value.ownBlock]
 ·intro he;have:g'=g:=by simpa[Value.ownBlock] using he
  subst this;have hg':=hg;unfold Blk at hg';rw[hh] at hg';injection hg' with hg';injection hg' with _ ht;exact hne ht
theorem sG (w:World) (base:Nat) (e:TypeId) (size:Nat):w.ownsRow base e size (.slice none 0 0) 0 []:=⟨by simp,.inl ⟨rfl,rfl⟩⟩
theorem jC {w:World} {base:Nat} {e:TypeId} {size n:Nat} {v:Value} {xs:List Value} (h:w.ownsRow base e size v n xs):∃ a c,v=.slice a n c/\n<=c/\c<=maxLen:=by
 rcases h.2 with ⟨rfl,rfl⟩ | ⟨g',cap,cur,rfl,_,hh,hn,hc,_⟩
 ·exact⟨_,_,rfl,Nat.le_refl _,Nat.zero_le _⟩
 ·exact⟨_,_,rfl,hn,hc⟩
theorem rK {w:World} {base:Nat} {e:TypeId} {size n:Nat} {a:Option Addr} {c:Nat} {xs:List Value} (h:w.ownsRow base e size (.slice a n c) n xs) (hn:0 < n):
  ∃ g,a=some ⟨g,0,none⟩/\∀ (j:Nat) (u:Value),xs[j]? = some u -> w.cell? ⟨g,j,none⟩=some u:=by
 rcases h.2 with ⟨h1,h0⟩ | ⟨g,cap,cur,hv,_,hh,hnc,hc,hs,ht⟩
 ·omega
 ·injection hv with h1 h2 h3;refine⟨g,h1,fun j u hj=>?_⟩;simp only[World.cell?,hh];rw[<- ht] at hj;rw[List.getElem?_take] at hj
  split at hj
  ·simpa using hj
  ·cases hj
def B8 (c:UInt8):Value:=.int .u8 (c.toNat:Int)
def iB (l:List UInt8):List Value:=l.map B8
theorem lG (l:List UInt8):(iB l).length=l.length:=by simp[iB]
theorem iJ (l:List UInt8) (i:Nat):(iB l)[i]? = (l[i]?).map B8:=by simp[iB]
theorem yH (l:List UInt8):∀ u ∈ iB l,u.oneCell'=true:=by
 intro u hu;simp only[iB,List.mem_map] at hu;obtain⟨c,_,rfl⟩:=hu
 rfl
theorem cO (a b:List UInt8):iB (a ++ b)=iB a ++ iB b:=by simp[iB]
theorem rX (a:List UInt8) (k:Nat):iB (a.take k)=(iB a).take k:=by simp[iB]
theorem sX (a:List UInt8) (k:Nat):iB (a.drop k)=(iB a).drop k:=by simp[iB]
def pB (w:World) (v:Value) (bs:List UInt8) (g:Nat):Prop:=
 ∃ A c off,v=.slice A bs.length c/\bs.length<=c/\(0 < bs.length -> A=some ⟨g,off,none⟩/\∀ (j:Nat) (u:Value),(iB bs)[j]? = some u -> w.cell? ⟨g,off+j,none⟩=some u)
theorem pB.fr {S:List Nat} {w w':World} {v:Value} {bs:List UInt8} {g:Nat} (h:pB w v bs g) (hf:Fr S w w') (hg:g ∉ S:=by simp):pB w' v bs g:=by
 obtain⟨A,c,off,hv,hc,hb⟩:=h;refine⟨A,c,off,hv,hc,fun h0=>⟨(hb h0).1,fun j u hu=>?_⟩⟩;have h1:=(hb h0).2 j u hu;rw[hf.cell (World.block_lt_of_cell? w _ h1) hg];exact h1
theorem pB.nil (w:World) (g:Nat):pB w (.slice none 0 0) [] g:=⟨none,0,0,rfl,Nat.le_refl _,fun h=>by simp at h⟩
theorem pB.of_blk {w:World} {g:Nat} {t:TypeId} {bs:List UInt8} (h:Blk w g t (iB bs)) (c:Nat) (hc:bs.length<=c):pB w (.slice (some ⟨g,0,none⟩) bs.length c) bs g:=
 ⟨_,c,0,rfl,hc,fun _=>⟨rfl,fun j u hu=>by rw[Nat.zero_add];exact h.at_ hu⟩⟩
abbrev RV (f:FuncId) (x:Array Value) (w:World) (v:Value):Prop:=Calls Tryz.prog f x w fun e w'=>e=.returned v ∧ Fr [] w w'
theorem dF {p:Prop} [Decidable p] (h:¬ p):decide p=false:=decide_eq_false h
theorem dT {p:Prop} [Decidable p] (h:p):decide p=true:=decide_eq_true h
theorem bF {a b:Int} (h:¬ a=b):(a == b)=false:=by rw[beq_eq_false_iff_ne];exact h
theorem LN:(∀ {α:Type} (a b:List α),(a ++ b).length=a.length+b.length) ∧ (∀ {α:Type} (a:α) (l:List α),(a :: l).length=l.length+1) ∧ (∀ {α:Type},([]:List α).length=0):=⟨fun _ _=>List.length_append,fun _ _=>List.length_cons,rfl⟩
theorem _root_.Go.RowKit.Hid.o {p : Prop} (h : Hid p) : p := h.out
theorem lh {p:Prop} (h:p):Hid p:=Lib.hid h
theorem nm {α:Type} (a:α):∃ x,x=a:=⟨a,rfl⟩
theorem wi (i:Nat) (h:i < 9223372036854775807):IntKind.i64.wrap ((i:Int)+1)=(i:Int)+1:=by rw[IntKind.wrap_i64];omega
theorem gx {α:Type} {l:List α} {i:Nat} (h:i < l.length):∃ x,l[i]? = some x:=⟨_,List.getElem?_eq_getElem h⟩
end
section
open Go.RowKit Go.ChangeShapes Go.WideShapes
section
variable {H : Type} {enc : TypeId × Value -> H} {P : Program}
theorem dO (hl:laidOutB P=true) {W W':World} {sp:Nat -> Bool}:∀ {ts:List TypeId} {vs:List Value} {ds:List (DataW H)} {ps:List MemPlace},
  ts.all (fun t=>P.readableRec t && decide (t < P.types.size))=true -> DataW.TrodAll enc P W 0 (fun _=>true) true ts vs ds ps -> (∀ p ∈ ps,W.sameAt W' p) -> (∀ p ∈ ps,sp p.block=true) -> DataW.TrodAll enc P W' 0 sp true ts vs ds ps
 | [],[],[],_,_,h,_,_=>h
 | t :: ts,v :: vs,d :: ds,_,hr,h,hsame,hs=>by
  obtain⟨p,q,h1,h2,rfl⟩:=h;simp only[List.all_cons,Bool.and_eq_true,decide_eq_true_eq] at hr
  exact⟨p,q,WideElems.Trod_stays hl hr.1.1 hr.1.2 h1 (fun x hx=>hsame x (List.mem_append_left _ hx)) (fun x hx=>hs x (List.mem_append_left _ hx)),
   dO hl (by simpa using hr.2) h2 (fun x hx=>hsame x (List.mem_append_right _ hx)) (fun x hx=>hs x (List.mem_append_right _ hx)),rfl⟩
 | [],[],_ :: _,_,_,h,_,_=>h.elim
 | [],_ :: _,_,_,_,h,_,_=>by cases h
 | _ :: _,[],_,_,_,h,_,_=>by cases h
 | _ :: _,_ :: _,[],_,_,h,_,_=>by cases h
theorem aCW {f:Func} {s:ChangeSpec} {W W':World} {args:Array Value} {ds:List (DataW H)} {before:List MemPlace} {tb:TypeId}
  (hl:laidOutB P=true) (hpar:f.params.toList.all (fun t=>P.readableRec t && decide (t < P.types.size))=true) (hrt:f.resultTypes=#[tb]) (hub:P.underlying tb=some .bool) (hvs:s.vars=[])
  (hW:DataW.Whole enc P f.params.toList s.vars false W args.toList ds [] before)
  (hres:(s.fn H (ds ++ [])).results=[.lit (.bool true)]) (hargs:(s.fn H (ds ++ [])).args=ds) (hvars:(s.fn H (ds ++ [])).vars=[]) (hf:Fr [] W W'):
  s.post enc P f false true false false W args (.bool true) W':=by
 have hlt:∀ p ∈ before,p.block < W.heap.size:=fun p hp=>hW.lt p hp;have hb:Below W.heap.size W W':=hf.below (Nat.le_refl _) (by simp);obtain⟨p,q,hA,hV,hpq,hfz,hnd⟩:=id hW;have hq:q=[]:=by rw[hvs] at hV;exact hV
 subst hq;simp only[List.append_nil] at hpq;subst hpq;refine⟨ds,[],before,[],before,[],hW,?_,?_,?_,World.keptBut_mono (fun x hx=>⟨hx,.inr (.inl hx)⟩) (hb.frame (· ∈ before)),fun h=>by cases h⟩
 ·rw[hres,hrt];exact trodAll_cons_mk (shut_bool hub true) trodAll_mk0
 ·rw[hargs];exact dO hl hpar hA (fun x hx=>hb.same (hlt x hx)) (fun x hx=>by simpa using hlt x hx)
 ·rw[hvars,hvs];rfl
end
end
section
open Go.RowKit
section
variable {P : Program} {ops : Array Oper} {rest : List Oper} {o : Oper} {a : Act} {w : World} {Q : Exit -> Act -> World -> Prop}
end
section
variable {P : Program} {o : Oper} {a : Act} {w : World} {K : Act -> World -> Prop} {Q : Exit -> Act -> World -> Prop}
theorem tG {v:Value} {w':World} (hrun:(execOp a.eval o).run P w=.ok (.value v) w') (h:K (a.put o.dst v) w'):Oper.wp P o a w K Q:=by
 unfold Oper.wp;rw[hrun];exact h
theorem pC {w':World} (hrun:(execOp a.eval o).run P w=.ok .skip w') (h:K (a.put o.dst undef) w'):Oper.wp P o a w K Q:=by
 unfold Oper.wp;rw[hrun];exact h
theorem aCX (cs zs:List Value) (h:zs.length=cs.length):Instr.fill (fun i=>some (i * cs.length,cs.length)) zs.toArray [(0,.agg cs.toArray)]=some cs.toArray:=by
 have hf:∀ (L pre Z:List Value),Z.length=L.length -> (L.zipIdx pre.length).foldl (fun(a:Array Value) (x:Value × Nat)=>a.setIfInBounds (0 * cs.length+x.2) x.1) (pre ++ Z).toArray=(pre ++ L).toArray:=by
  intro L
  induction L with
  | nil=>intro pre Z hZ;obtain rfl:Z=[]:=List.eq_nil_of_length_eq_zero (by simpa using hZ);simp
  | cons x L ih=>
   intro pre Z hZ
   match Z,hZ with
   | z :: Z,hZ=>
    simp only[List.zipIdx_cons,List.foldl_cons];have e:(pre ++ z :: Z).toArray.setIfInBounds (0 * cs.length+pre.length) x=(pre ++ [x] ++ Z).toArray:=by simp
    rw[e];have:=ih (pre ++ [x]) Z (by simpa using hZ);simp only[List.length_append,List.length_cons,List.length_nil,Nat.zero_add] at this;rw[this]
    simp
 have h0:=hf cs [] zs h;simp only[List.length_nil,List.nil_append] at h0;simp only[Instr.fill,Value.cells,List.size_toArray,Nat.zero_mul,Nat.zero_add,h,Nat.lt_irrefl,ne_eq,not_true_eq_false,decide_false,Bool.or_self,Bool.false_eq_true,if_false,gt_iff_lt];rw[Array.zipIdx_toArray,<- Array.foldl_toList]
 simpa using h0
theorem tU {t e:TypeId} {i:TypeInfo} {z:Value} (ht:P.underlying t=some (.slice e)) (hi:P.info? e=some i) (hz:i.zero=some z) (cs:List Value) (hs:i.size=cs.length) (hzs:z.cells.size=cs.length)
  (h0:0 < cs.length) (hb:cs.length<=16777216):
  (Instr.buildSlice t 1 #[(0,.agg cs.toArray)]).run P w=.ok (.slice (some ⟨w.heap.size,0,none⟩) 1 1) (w.alloc (.cells cs.toArray e)):=by
 have hl:((Array.range (1 * cs.length)).map (z.cells[· % z.cells.size]!)).toList.length=cs.length:=by simp
 have hf:=aCX cs _ hl;rw[Array.toArray_toList] at hf;have n0:¬ (1 * cs.length=0):=by omega
 have n1:¬ (1 * cs.length > 2 ^ 24):=by omega
 have n2:¬ (16777216 < cs.length):=by omega
 have n3:cs ≠ []:=by intro h;subst h;simp at h0
 simp only[Nat.one_mul] at hf
 simp[Instr.buildSlice,run_underlying ht,sizeOf,typeInfo,hi,hs,zeroValue,hz,newRow,n2,n3,hf]
theorem kD {t e:TypeId} (x:Operand) (ho:o.op=.buildSlice t 1 #[(0,x)]) {i:TypeInfo} {z:Value} (ht:P.underlying t=some (.slice e)) (hi:P.info? e=some i) (hz:i.zero=some z) (cs:List Value) (hx:a.eval x=.agg cs.toArray)
  (hs:i.size=cs.length) (hzs:z.cells.size=cs.length) (h0:0 < cs.length) (hb:cs.length<=16777216)
  (h:K (a.put o.dst (.slice (some ⟨w.heap.size,0,none⟩) 1 1)) (w.alloc (.cells cs.toArray e))):Oper.wp P o a w K Q:=by
 have hrun:=tU (P:=P) (w:=w) ht hi hz cs hs hzs h0 hb;refine tG (v:=.slice (some ⟨w.heap.size,0,none⟩) 1 1) (w':=w.alloc (.cells cs.toArray e)) ?_ h
 simp[execOp,ho,hx,hrun,Result.andThen]
end
section
variable {P : Program} {o : Oper} {a : Act} {w : World} {K : Act -> World -> Prop} {Q : Exit -> Act -> World -> Prop}
theorem tA {v:Value} (hrun:(execOp a.eval o).run P w=.ok (.value v) w) (h:K (a.put o.dst v) w):Oper.wp P o a w K Q:=by
 unfold Oper.wp;rw[hrun];exact h
theorem aAl (t:TypeId) (ho:o.op=.alloc t) (z:Value) (zs:Array Value) (hz:(P.info? t).map (·.zero)=some (some z)) (hzs:z.cells=zs)
  (h:K (a.put o.dst (.pointer (some ⟨w.heap.size,0,none⟩))) (w.alloc (.cells zs t))):Oper.wp P o a w K Q:=by
 subst hzs
 cases hq:P.info? t with
 | none=>simp[hq] at hz
 | some i=>
  have hz':i.zero=some z:=by simpa[hq] using hz
  unfold Oper.wp
  simp[execOp,ho,Instr.alloc,zeroValue,typeInfo,hq,hz',newVar,newRow,Result.andThen]
  exact h
theorem iP (t:TypeId) (ho:o.op=.alloc t) (z:Value) (zs:List Value) (hz:(P.info? t).map (·.zero)=some (some z)) (hzs:z.cells=zs.toArray)
  (h:∀ w1,Blk w1 w.heap.size t zs -> Fr [] w w1 -> w1.heap.size=w.heap.size+1 -> K (a.put o.dst (.pointer (some ⟨w.heap.size,0,none⟩))) w1):Oper.wp P o a w K Q:=
 aAl t ho z _ hz hzs (h _ (Blk.new w t zs) ((Fr.refl [] w).alloc _) (by simp))
theorem yI {g:Nat} {t':TypeId} {old:List Value} (t:TypeId) (x y:Operand) (ho:o.op=.store t x y) (cs:List Value)
  (hx:a.eval x=.pointer (some ⟨g,0,none⟩)) (hy:a.eval y=.agg cs.toArray) (hb:Blk w g t' old)
  (hi:(P.info? t).map (·.size)=some cs.length) (hl:old.length=cs.length) (h1:∀ v ∈ cs,v.oneCell'=true)
  (h:∀ w1,Blk w1 g t' cs -> Fr [g] w w1 -> w1.heap.size=w.heap.size -> K (a.put o.dst undef) w1):Oper.wp P o a w K Q:=by
 have hrun:=run_storeVar_row (P:=P) w g t' t old.toArray cs.toArray hb (by simpa using hi) (by simpa using hl) (all_oneCell_toArray h1);unfold Oper.wp
 simp[execOp,ho,hx,hy,Instr.storeAt,Instr.sureAddr,hrun,Result.andThen]
 exact h _ (hb.row_ cs) ((Fr.refl [g] w).setRow (.inl (by simp)) _) (by simp[World.setRow])
theorem sS {t e:TypeId} {i:TypeInfo} {z:Value} (ht:P.underlying t=some (.slice e)) (hi:P.info? e=some i) (hz:i.zero=some z) (hs:i.size=1) (hzs:z.cells.size=1) (v:Value) (hv:v.cells=#[v]):
  (Instr.buildSlice t 1 #[(0,v)]).run P w=.ok (.slice (some ⟨w.heap.size,0,none⟩) 1 1) (w.alloc (.cells #[v] e)):=by
 obtain⟨z0,hz0⟩:∃ z0,z.cells=#[z0]:=by
  match hc:z.cells,hzs with
  | ⟨[z0]⟩,_=>exact⟨z0,rfl⟩
 simp[Instr.buildSlice,run_underlying ht,sizeOf,typeInfo,hi,hs,zeroValue,hz,newRow,hz0,Instr.fill,hv,Array.range,Array.zipIdx]
 have e1:∀ (n:Nat) (_:n=1) (f:Fin n -> Value),(Array.ofFn f).setIfInBounds 0 v=#[v]:=fun n hn f=>by
  subst hn
  apply Array.ext
  ·simp
  ·intro j hj hj';have:j=0:=by simp at hj';omega
   subst this
   simp
 exact congrArg (fun c=>w.alloc (Obj.cells c e)) (e1 _ (by simp[hs]) _)
theorem uE {t e:TypeId} (x:Operand) (ho:o.op=.buildSlice t 1 #[(0,x)]) {i:TypeInfo} {z:Value} (ht:P.underlying t=some (.slice e)) (hi:P.info? e=some i) (hz:i.zero=some z) (hs:i.size=1) (hzs:z.cells.size=1) (v:Value) (hx:a.eval x=v) (hv:v.cells=#[v]) (H:Nat) (hH:w.heap.size=H)
  (h:∀ w1,Blk w1 H e [v] -> Fr [] w w1 -> w1.heap.size=H+1 -> K (a.put o.dst (.slice (some ⟨H,0,none⟩) 1 1)) w1):Oper.wp P o a w K Q:=by
 subst hH;have hrun:=sS (P:=P) (w:=w) ht hi hz hs hzs v hv;refine tG (v:=.slice (some ⟨w.heap.size,0,none⟩) 1 1) (w':=w.alloc (.cells #[v] e)) ?_ (h _ (Blk.new w e [v]) ((Fr.refl [] w).alloc _) (by simp))
 simp[execOp,ho,hx,hrun,Result.andThen]
theorem jB {t:TypeId} (s x:Operand) (ho:o.op=.call { callee:=.builtin .append,args:=#[s,x],argTypes:=#[t,t] })
  (e:TypeId) {i:TypeInfo} {z:Value} (size bytes:Nat) (ht:P.underlying t=some (.slice e)) (hi:P.info? e=some i) (hz:i.zero=some z) (hsize:i.size=size) (hby:i.bytes=bytes) (hzs:z.cells.size=size) (h0:0 < size)
  (v:Value) (n:Nat) (xs:List Value) (hs:a.eval s=v) (hown:w.ownsRow 0 e size v n xs)
  (ad:Addr) (m c:Nat) (news:List Value) (hx:a.eval x=.slice (some ad) m c) (hl:news.length=m * size) (hnews:∀ j u,news[j]? = some u -> w.cell? (ad.add j)=some u) (h1:∀ u ∈ news,u.oneCell'=true)
  (hm:0 < m) (h63:n+m<=maxLen) (hbytes:(n+m) * bytes<=140737488355328) (H:Nat) (hH:w.heap.size=H)
  (h:∀ g cap w',w'.ownsRow 0 e size (.slice (some ⟨g,0,none⟩) (n+m) cap) (n+m) (xs ++ news) -> Fr v.ownBlock.toList w w' -> (v.ownBlock=some g ∨ g=H) -> g < w'.heap.size -> K (a.put o.dst (.slice (some ⟨g,0,none⟩) (n+m) cap)) w'):Oper.wp P o a w K Q:=by
 refine wp_append_lies _ s x t ho 0 e i z size bytes ht hi hz hsize hby hzs h0 v n xs hs hown ad m c news hx hl hnews h1 hm h63 hbytes (Nat.zero_le _) H hH ?_;intro g cap w' h2 h3 h4 h5;exact h g cap w' h2 ((Fr.refl _ w).grown h3 (fun g hg=>.inl (by simp[hg]))) h4 h5
theorem aAm {t:TypeId} {x:Operand} {lo hi:Option Operand} (ho:o.op=.slice t x lo hi none) {vx v:Value} {vlo vhi:Option Value} (hx:a.eval x=vx) (hlo:lo.map a.eval=vlo) (hhi:hi.map a.eval=vhi)
  (h:(Instr.sliceAt t vx vlo vhi none).run P w=.ok v w):(execOp a.eval o).run P w=.ok (.value v) w:=by
 subst hx hlo hhi
 simp[execOp,ho,h,Result.andThen]
theorem iD {t e:TypeId} (ht:P.underlying t=some (.slice e)) (he:(P.info? e).map (·.size)=some 1) (A:Option Addr) (n c lo:Nat) (k1:IntKind) (h1:lo<=n):
  ∀ w,(Instr.sliceAt t (.slice A n c) (some (.int k1 lo)) none none).run P w=.ok (.slice (if c=lo then A else A.map (·.add lo)) (n - lo) (c - lo)) w:=by
 intro w;have hel:P.elem t=e:=by simp[Program.elem,ht]
 obtain⟨i,hi1,hi2⟩:=Option.map_eq_some_iff.1 he;have h5:∀ w,(sizeOf e).run P w=.ok 1 w:=fun w=>by simp[sizeOf,typeInfo,go_sem,hi1,hi2]
 rw[run_sliceAt_slice (h:=by rw[hel];exact ht),run_slice_l (ht:=by rw[hel];exact ht) (h0:=by omega) (h1:=by omega),hel,h5]
 simp[Result.andThen,sliced]
end
theorem aGU {α:Type} (l:List α) (lo m:Nat) (hm:lo+m<=l.length):((l.drop lo).take m).length=m:=by rw[List.length_take,List.length_drop];omega
theorem pB.sub {w:World} {A:Option Addr} {n c g:Nat} {bs:List UInt8} (h:pB w (.slice A n c) bs g) (lo m:Nat) (hm:lo+m<=bs.length):
  pB w (.slice (if c=lo then A else A.map (·.add lo)) m (c - lo)) ((bs.drop lo).take m) g:=by
 obtain⟨A',c',off,hv,hc,hb⟩:=h;injection hv with h1 h2 h3;subst h1 h3;have hl:=aGU bs lo m hm;refine⟨_,_,off+lo,by rw[hl],by rw[hl];omega,fun h0=>?_⟩;rw[hl] at h0;obtain⟨rfl,hcell⟩:=hb (by omega);rw[if_neg (by omega)];refine⟨by simp[Addr.add_mid],fun j u hu=>?_⟩;rw[Nat.add_assoc];refine hcell _ u ?_;rw[rX,sX,List.getElem?_take] at hu
 split at hu
 ·rw[List.getElem?_drop] at hu;exact hu
 ·cases hu
theorem pB.from_ {w:World} {A:Option Addr} {n c g:Nat} {bs:List UInt8} (h:pB w (.slice A n c) bs g) (lo:Nat) (hm:lo<=bs.length):
  pB w (.slice (if c=lo then A else A.map (·.add lo)) (bs.length - lo) (c - lo)) (bs.drop lo) g:=by
 have:=h.sub lo (bs.length - lo) (by omega)
 rwa [List.take_of_length_le (by simp)] at this
theorem pB.len {w:World} {A:Option Addr} {n c g:Nat} {bs:List UInt8} (h:pB w (.slice A n c) bs g):n=bs.length/\bs.length<=c:=by
 obtain⟨A',c',off,hv,hc,hb⟩:=h;injection hv with h1 h2 h3;subst h1 h3;exact⟨h2,hc⟩
section
variable {P : Program} {ops : Array Oper} {Q : Exit -> Act -> World -> Prop}
theorem rn {rest:List Oper} {o:Oper} {v:Value} {a:Act} {w:World} (hg:o.guard=none) (hr:(execOp a.eval o).run P w=.ok (.value v) w) (h:wpList P ops Q rest (a.put o.dst v) w):wpList P ops Q (o :: rest) a w:=
 wpList_plain hg fun _ hK=>tA (v:=v) hr (hK _ _ h)
end
def aA (s:ByteArray):List UInt8:=s.data.toList
theorem cA (s:ByteArray):(aA s).length=s.size:=by simp[aA]
theorem lC (t:ByteArray) (a b:Nat):aA (t.extract a b)=((aA t).drop a).take (b - a):=Lib.extract_data t a b
theorem pH (a b:ByteArray):aA (a ++ b)=aA a ++ aA b:=by simp[aA]
theorem lA {s:ByteArray} {l:List UInt8} (h:aA s=l):s.size=l.length:=by rw[<- h,cA]
theorem kI (s:ByteArray) {i:Nat} (h:i < s.size):(aA s)[i]? = some (s[i]'h):=by
 unfold aA;rw[Array.getElem?_toList,Array.getElem?_eq_getElem (by simpa using h)]
 rfl
theorem tF {a b:ByteArray} (h:aA a=aA b):a=b:=ByteArray.ext (Array.ext' h)
def jP (c:UInt8):Bool:=decide (128<=c.toNat/\c.toNat < 192)
def lB (r:Int):Bool:=decide ((0<=r/\r < 55296) ∨ (57343 < r/\r<=1114111))
def fD (r:Nat):List UInt8 -> Option Nat
 | []=>some r
 | c :: cs=>if jP c=true then fD (r * 64+c.toNat % 64) cs else none
def tS:Nat -> Nat
 | 0=>128
 | 1=>224
 | 2=>240
 | _=>248
def oF:Nat -> Nat
 | 0=>0
 | 1=>192
 | 2=>224
 | _=>240
def yB:Nat -> Nat
 | 0=>0
 | 1=>128
 | 2=>2048
 | _=>65536
def xC (k:Nat) (b:UInt8):Bool:=b.toNat &&& tS k == oF k
def vB (k:Nat) (b:UInt8):Nat:=b.toNat - oF k
def tD (k:Nat) (b0:UInt8) (bs:List UInt8):Option (Nat × Nat):=
 match fD (vB k b0) (bs.take k) with
 | none=>none
 | some r=>if (r:Int) < yB k ∨ lB r=false then none else some (r,k+1)
def mB:List UInt8 -> Option (Nat × Nat)
 | []=>none
 | b0 :: bs=>
  if xC 0 b0=true then tD 0 b0 bs
  else if 1<=bs.length/\xC 1 b0=true then tD 1 b0 bs
  else if 2<=bs.length/\xC 2 b0=true then tD 2 b0 bs
  else if 3<=bs.length/\xC 3 b0=true then tD 3 b0 bs
  else none
theorem jK (a c:Nat) (ha:a < 256) (hc:c < 256):bits .and .u8 (a:Int) (c:Int)=((a &&& c:Nat):Int):=by
 show IntKind.u8.wrap ((BitVec.ofInt 8 (a:Int) &&& BitVec.ofInt 8 (c:Int)).toNat:Int)=_
 have hl:a &&& c<=c:=Nat.and_le_right;rw[BitVec.toNat_and,BitVec.ofInt_natCast,BitVec.ofInt_natCast,BitVec.toNat_ofNat,BitVec.toNat_ofNat,Nat.mod_eq_of_lt (by omega),Nat.mod_eq_of_lt (by omega),IntKind.wrap_u8];omega
theorem iN (k:Nat) (hk:k < 4) (b:UInt8) (h:xC k b=true):bits .andNot .u8 (b.toNat:Int) (tS k:Int)=((vB k b:Nat):Int):=by
 have all:∀ k:Fin 4,∀ b:Fin 256,(b.val &&& tS k.val == oF k.val)=true -> bits .andNot .u8 (b.val:Int) (tS k.val:Int)=((b.val - oF k.val:Nat):Int):=by decide +kernel
 exact all ⟨k,hk⟩ ⟨b.toNat,b.toNat_lt⟩ h
theorem jL (k:Nat) (hk:k < 4) (b:UInt8) (h:xC k b=true):vB k b < 128/\(1<=k -> vB k b < 32)/\(2<=k -> vB k b < 16)/\(3<=k -> vB k b < 8):=by
 have all:∀ k:Fin 4,∀ b:Fin 256,(b.val &&& tS k.val == oF k.val)=true -> b.val - oF k.val < 128/\(1<=k.val -> b.val - oF k.val < 32)/\(2<=k.val -> b.val - oF k.val < 16)/\(3<=k.val -> b.val - oF k.val < 8):=by decide +kernel
 exact all ⟨k,hk⟩ ⟨b.toNat,b.toNat_lt⟩ h
theorem sK (c:UInt8):jP c=(c.toNat &&& 192 == 128):=by
 have all:∀ b:Fin 256,decide (128<=b.val/\b.val < 192)=(b.val &&& 192 == 128):=by decide +kernel
 exact all ⟨c.toNat,c.toNat_lt⟩
theorem aAn (c:UInt8):c.toNat &&& 63=c.toNat % 64:=by
 have all:∀ b:Fin 256,b.val &&& 63=b.val % 64:=by decide +kernel
 exact all ⟨c.toNat,c.toNat_lt⟩
theorem aAo (x u:Nat) (hx:x < 33554432) (hu:u < 64):bits .or .i32 ((x:Int) * 64) (u:Int)=((x * 64+u:Nat):Int):=by
 have e1:((x:Int) * 64)=((x * 64:Nat):Int):=by omega
 have h:=Nat.shiftLeft_add_eq_or_of_lt (b:=u) (i:=6) (by omega) x;have e:x <<< 6=x * 64:=by rw[Nat.shiftLeft_eq]
 rw[e] at h;rw[e1]
 show IntKind.i32.wrap ((BitVec.ofInt 32 ((x * 64:Nat):Int) ||| BitVec.ofInt 32 (u:Int)).toNat:Int)=_
 rw[BitVec.toNat_or,BitVec.ofInt_natCast,BitVec.ofInt_natCast,BitVec.toNat_ofNat,BitVec.toNat_ofNat,Nat.mod_eq_of_lt (by omega),Nat.mod_eq_of_lt (by omega),<- h];rw[IntKind.wrap_i32];omega
theorem uF {bs:List UInt8} {r k:Nat} (h:mB bs=some (r,k)):1<=k/\k<=bs.length/\k<=4/\r<=1114111:=by
 have hK:∀ j b0 bs,tD j b0 bs=some (r,k) -> k=j+1/\r<=1114111:=fun j b0 bs h=>by
  unfold tD at h
  split at h
  ·cases h
  ·rename_i r1 h1
   split at h
   ·cases h
   ·rename_i h2
    simp only[Option.some.injEq,Prod.mk.injEq] at h;obtain⟨rfl,rfl⟩:=h;refine⟨rfl,?_⟩
    have h3:lB r1=true:=by
     cases hs:lB r1
     ·exact absurd (.inr hs) h2
     ·rfl
    unfold lB at h3;rw[decide_eq_true_eq] at h3;omega
 match bs with
 | []=>cases h
 | b0 :: bs=>
  rw[mB] at h;simp only[List.length_cons]
  split at h
  ·obtain⟨rfl,h2⟩:=hK _ _ _ h;omega
  ·split at h
   ·obtain⟨rfl,h2⟩:=hK _ _ _ h;omega
   ·split at h
    ·obtain⟨rfl,h2⟩:=hK _ _ _ h;omega
    ·split at h
     ·obtain⟨rfl,h2⟩:=hK _ _ _ h;omega
     ·cases h
def kL (md:Region.Mode) (ops:Array Oper) (I:List Nat) (j:Nat):Bool:=
 I.any fun i=>i != j && (match ops[j]? with | some o=>o.after.all fun e=>!(Region.binds md e && e.on == i) | none=>false)
section
variable {P : Program} {ops : Array Oper} {Q : Exit -> Act -> World -> Prop} {md : Region.Mode} {S : World -> Prop} {I : List Nat}
def pF (P:Program) (md:Region.Mode) (ops:Array Oper) (Q:Exit -> Act -> World -> Prop) (S:World -> Prop) (I:List Nat):Nat -> Array Bool -> Act -> World -> Prop
 | 0,listed,a,w=>Region.ready md ops listed=[]/\Q .normal a w
 | fuel+1,listed,a,w=>
  (Region.ready md ops listed=[] -> Q .normal a w) /\
  ∀ i ∈ Region.ready md ops listed,wpOp P ops Q i (fun a' w'=>(kL md ops I i=true -> S w')/\pF P md ops Q S I fuel (listed.setIfInBounds i true) a' w') a w
theorem uS:∀ (fuel:Nat) (listed:Array Bool) (a:Act) (w:World),pF P md ops Q S I fuel listed a w -> wpAny P md ops Q fuel listed a w
 | 0,_,_,_,h=>h
 | fuel+1,_,_,_,h=>⟨h.1,fun i hi=>wpOp_mono (fun a' w' h'=>uS fuel _ a' w' h'.2) (h.2 i hi)⟩
theorem aAp {i j:Nat} {oj:Oper} (hI:i ∈ I) (hij:j ≠ i) (hoj:ops[j]? = some oj) (hnot:∀ e ∈ oj.after,Region.binds md e=true -> e.on ≠ i):kL md ops I j=true:=by
 unfold kL;rw[List.any_eq_true];refine⟨i,hI,?_⟩;rw[hoj];have h1:(i != j)=true:=by simpa using(Ne.symm hij)
 have h2:(oj.after.all fun e=>!(Region.binds md e && e.on == i))=true:=by
  rw[Array.all_eq_true_iff_forall_mem];intro e he;have:=hnot e he
  by_cases hb:Region.binds md e=true
  ·simp[hb,this hb]
  ·simp[hb]
 show(i != j && _)=true
 rw[h1,Bool.true_and];exact h2
theorem lW {i:Nat} {oi:Oper} {v:Value} (hI:i ∈ I) (hi:ops[i]? = some oi) (hsel:∀ (j:Nat) (o:Oper) cs b,ops[j]? = some o -> o.op ≠ .select cs b)
  (hQ:∀ c a w,Q (.panic c) (a.put oi.dst v) w -> Q (.panic c) a w):
  ∀ (fuel:Nat) (listed:Array Bool) (a:Act) (w:World),
   (∀ j oj,ops[j]? = some oj -> j ≠ i -> listed.getD j true=false -> (∀ e ∈ oj.after,Region.binds md e=true -> e.on ≠ i) -> oi.apart ops oj=true) ->
   i ∈ Region.ready md ops listed -> YieldsIf P ops S oi v a -> S w ->
   pF P md ops Q S I fuel (listed.setIfInBounds i true) (a.put oi.dst v) w -> pF P md ops Q S I (fuel+1) listed a w:=by
 intro fuel
 induction fuel with
 | zero=>
  intro listed a w _ hr hy hS H;refine⟨fun h=>(by rw[h] at hr;cases hr),fun j hj=>?_⟩
  by_cases hji:j=i
  ·subst hji;exact hy.wpOp hi hS ⟨fun _=>hS,H⟩
  ·have:=ready_mono hj hji;rw[H.1] at this
   cases this
 | succ fuel ih=>
  intro listed a w hfree hr hy hS H;refine⟨fun h=>(by rw[h] at hr;cases hr),fun j hj=>?_⟩
  by_cases hji:j=i
  ·subst hji;exact hy.wpOp hi hS ⟨fun _=>hS,H⟩
  ·have h1:=H.2 j (ready_mono hj hji);obtain⟨hjun,oj,hoj,hall⟩:=mem_ready.1 hj
   have hnot:∀ e ∈ oj.after,Region.binds md e=true -> e.on ≠ i:=fun e he hb heq=>by
    have h1:=hall e he hb;have h0:=(mem_ready.1 hr).1;rw[heq] at h1;rcases Nat.lt_or_ge i listed.size with h' | h'
    ·simp[h'] at h0 h1;rw[h0] at h1;cases h1
    ·simp[Array.getElem?_eq_none h'] at h1
   have hcr:kL md ops I j=true:=aAp hI hji hoj hnot;have h2:=wpOp_putIf hoj (hfree j oj hoj hji hjun hnot) (fun cs b=>hsel i oi cs b hi) (fun cs b=>hsel j oj cs b hoj) hQ hy h1
   have hfree':∀ k ok,ops[k]? = some ok -> k ≠ i -> (listed.setIfInBounds j true).getD k true=false ->
     (∀ e ∈ ok.after,Region.binds md e=true -> e.on ≠ i) -> oi.apart ops ok=true:=fun k ok hk hki hun hno=>by
    refine hfree k ok hk hki ?_ hno
    by_cases hjk:j=k
    ·subst hjk;exact hjun
    ·rw[getD_set_ne true hjk] at hun;exact hun
   refine wpOp_mono (fun a' w' h3=>⟨fun _=>h3.2.1 hcr,ih (listed.setIfInBounds j true) a' w' hfree' (ready_mono hr (Ne.symm hji)) h3.1 (h3.2.1 hcr) ?_⟩) h2;rw[Array.setIfInBounds_comm _ _ hji];exact h3.2.2
theorem gM {i:Nat} (d:Option Tmp) (v:Value) {oi:Oper} {fuel:Nat} {listed:Array Bool} {a:Act} {w:World} (hi:ops[i]? = some oi) (hd:oi.dst=d)
  (hs:(Region.noSelect ops && Region.free md ops listed i && (Region.ready md ops listed).contains i && I.contains i)=true)
  (hQ:∀ c a w,Q (.panic c) (a.put d v) w -> Q (.panic c) a w) (hS:S w) (hy:YieldsIf P ops S oi v a)
  (h:pF P md ops Q S I fuel (listed.setIfInBounds i true) (a.put d v) w):pF P md ops Q S I (fuel+1) listed a w:=by
 subst hd;simp only[Bool.and_eq_true] at hs;obtain⟨⟨⟨h1,h2⟩,h3⟩,h4⟩:=hs;exact lW (by simpa using h4) hi (Region.noSelect_spec h1) hQ fuel listed a w (Region.free_spec hi h2) (by simpa using h3) hy hS h
theorem iC {j:Nat} (d:Option Tmp) {o:Oper} {fuel:Nat} {listed:Array Bool} {a:Act} {w:World} (ho:ops[j]? = some o) (hd:o.dst=d) (hr:Region.ready md ops listed=[j]) (hg:o.guard=none)
  (h:∀ K:Act -> World -> Prop,(∀ v w',(kL md ops I j=true -> S w') -> pF P md ops Q S I fuel (listed.setIfInBounds j true) (a.put d v) w' -> K (a.put o.dst v) w') -> Oper.wp P o a w K Q):
  pF P md ops Q S I (fuel+1) listed a w:=by
 subst hd;refine⟨fun h0=>absurd (hr ▸ h0) (by simp),fun i hi=>?_⟩;rw[hr] at hi;obtain rfl:i=j:=by simpa using hi
 refine wpOp_step ho fun K hK=>?_;rw[if_pos (by simp[Region.wanted,hg])];exact h K (fun v w' h1 h2=>hK _ w' ⟨h1,h2⟩)
theorem tX {listed:Array Bool} {a:Act} {w:World} (hr:Region.ready md ops listed=[]) (h:Q .normal a w):∀ fuel,pF P md ops Q S I fuel listed a w
 | 0=>⟨hr,h⟩
 | _+1=>⟨fun _=>h,by rw[hr];simp⟩
theorem mA (S:World -> Prop) (I:List Nat) {id:Nat} {a:Act} {w:World} (hm:P.follows .mixedOrders=true)
  (h:pF P .any ops Q S I ops.size (Array.replicate ops.size false) a w.drew):(Code.region id ops true).wp P Q a w:=
 wp_region_any hm (uS _ _ _ _ h)
end
theorem nrm:(∀ (a:Act) (t:Tmp) (v:Value),a.put (some t) v={ a with tmps:=a.tmps.setIfInBounds t v })/\(∀ (a:Act) (v:Value),a.put none v=a)/\(∀ (l:List Value) (i:Nat) (x:Value),l.toArray.setIfInBounds i x=(l.set i x).toArray) /\
  (∀ (a x:Value) (l:List Value),(a :: l).set 0 x=x :: l)/\∀ (a x:Value) (l:List Value) (i:Nat),(a :: l).set (i+1) x=a :: l.set i x:=
 ⟨fun _ _ _=>rfl,fun _ _=>rfl,fun _ _ _=>List.setIfInBounds_toArray ..,fun _ _ _=>List.set_cons_zero ..,fun _ _ _ _=>List.set_cons_succ ..⟩

section
variable {P : Program} {md : Region.Mode} {ops : Array Oper} {Q : Exit -> Act -> World -> Prop} {S : World -> Prop} {I : List Nat}
def uQ (_:List Nat) (P:Program) (md:Region.Mode) (ops:Array Oper) (Q:Exit -> Act -> World -> Prop) (S:World -> Prop) (I:List Nat) (fuel:Nat) (listed:Array Bool) (a:Act) (w:World):Prop:=pF P md ops Q S I fuel listed a w
theorem tks (l:List Nat) {fuel:Nat} {listed:Array Bool} {a:Act} {w:World} (h:uQ l P md ops Q S I fuel listed a w):pF P md ops Q S I fuel listed a w:=h
theorem tke {fuel:Nat} {listed:Array Bool} {a:Act} {w:World} (h:pF P md ops Q S I fuel listed a w):uQ [] P md ops Q S I fuel listed a w:=h
theorem tk {i:Nat} {l:List Nat} {t:Tmp} {v:Value} {oi:Oper} {fuel:Nat} {listed:Array Bool} {a:Act} {w:World} (hi:ops[i]? = some oi) (hd:oi.dst=some t)
  (hS:S w) (hg:Region.wanted oi (yielded ops a.tmps)=true) (hy:∀ W,S W -> (execOp a.eval oi).run P W=.ok (.value v) W)
  (h:uQ l P md ops Q S I fuel (listed.setIfInBounds i true) (a.put (some t) v) w)
  (hs:(Region.noSelect ops && Region.free md ops listed i && (Region.ready md ops listed).contains i && I.contains i)=true:=by kernel_rfl) (hQ:∀ c a w,Q (.panic c) (a.put (some t) v) w -> Q (.panic c) a w:=by exact fun _ _ _ h=>h):uQ (i :: l) P md ops Q S I (fuel+1) listed a w:=
 gM (i:=i) (some t) v hi hd hs hQ hS (.inl ⟨hg,hy⟩) h
theorem tu {i:Nat} {l:List Nat} {t:Tmp} {oi:Oper} {fuel:Nat} {listed:Array Bool} {a:Act} {w:World} (hi:ops[i]? = some oi) (hd:oi.dst=some t)
  (hS:S w) (hg:Region.wanted oi (yielded ops a.tmps)=false)
  (h:uQ l P md ops Q S I fuel (listed.setIfInBounds i true) (a.put (some t) undef) w)
  (hs:(Region.noSelect ops && Region.free md ops listed i && (Region.ready md ops listed).contains i && I.contains i)=true:=by kernel_rfl) (hQ:∀ c a w,Q (.panic c) (a.put (some t) undef) w -> Q (.panic c) a w:=by exact fun _ _ _ h=>h):uQ (i :: l) P md ops Q S I (fuel+1) listed a w:=
 gM (i:=i) (some t) undef hi hd hs hQ hS (.inr ⟨hg,rfl⟩) h
theorem tv (i:Nat) (v:Value) {t:Tmp} {oi:Oper} {fuel:Nat} {listed:Array Bool} {a:Act} {w:World} (hi:ops[i]? = some oi) (hd:oi.dst=some t)
  (hS:S w) (hy:YieldsIf P ops S oi v a)
  (h:pF P md ops Q S I fuel (listed.setIfInBounds i true) (a.put (some t) v) w)
  (hs:(Region.noSelect ops && Region.free md ops listed i && (Region.ready md ops listed).contains i && I.contains i)=true:=by kernel_rfl) (hQ:∀ c a w,Q (.panic c) (a.put (some t) v) w -> Q (.panic c) a w:=by exact fun _ _ _ h=>h):pF P md ops Q S I (fuel+1) listed a w:=
 gM (i:=i) (some t) v hi hd hs hQ hS hy h
theorem wd {listed:Array Bool} {a:Act} {w:World} (h:Q .normal a w) (fuel:Nat) (hr:Region.ready md ops listed=[]:=by kernel_rfl):pF P md ops Q S I fuel listed a w:=tX hr h fuel
theorem lp {rest:List Oper} {o:Oper} {a:Act} {w:World} (h:∀ K:Act -> World -> Prop,(∀ a w,wpList P ops Q rest a w -> K a w) -> o.wp P a w K Q) (hg:o.guard=none:=by rfl):wpList P ops Q (o :: rest) a w:=wpList_plain hg h
theorem sp (j:Nat) {t:Tmp} {o:Oper} {fuel:Nat} {listed:Array Bool} {a:Act} {w:World} (ho:ops[j]? = some o) (hd:o.dst=some t) (hg:o.guard=none)
  (h:∀ K:Act -> World -> Prop,(∀ v w',(kL md ops I j=true -> S w') -> pF P md ops Q S I fuel (listed.setIfInBounds j true) (a.put (some t) v) w' -> K (a.put o.dst v) w') -> Oper.wp P o a w K Q) (hr:Region.ready md ops listed=[j]:=by kernel_rfl):
  pF P md ops Q S I (fuel+1) listed a w:=
 iC (j:=j) (some t) ho hd hr hg h
end
section
variable {P : Program} {o : Oper} {a : Act} {w : World} {K : Act -> World -> Prop} {Q : Exit -> Act -> World -> Prop}
theorem uX {f:FuncId} {l:List Operand} {tys:Array TypeId} (ho:o.op=.call { callee:=.value (.func f),args:=l.toArray,argTypes:=tys }) (vs:List Value) (hvs:l.map a.eval=vs)
  (he:∀ w,(callFunc f vs.toArray).run P w=.ok (.enter f vs.toArray) w)
  (hc:Calls P f vs.toArray w (fun e w'=>(∃ v,e=.returned v/\K (a.put o.dst v) w') ∨ (∃ c,e=.panicked c/\Q (.panic c) a w'))):Oper.wp P o a w K Q:=by
 unfold Oper.wp;have hm:l.toArray.map a.eval=vs.toArray:=by rw[<- hvs];simp
 have hrun:(execOp a.eval o).run P w=.ok (.enter f vs.toArray) w:=by
  simp only[execOp,ho,resolve,hm]
  simp[invoke,Act.eval,he,Deferred.ofValue]
 rw[hrun];refine hc.mono ?_;rintro e w' (⟨v,rfl,h⟩ | ⟨c,rfl,h⟩) <;> exact h
end
theorem bA {P:Program} {f:FuncId} {args:Array Value} {w:World} {R0:Ending -> World -> Prop} (h:∀ R:Ending -> World -> Prop,Hid (∀ e w',R0 e w' -> R e w') -> Calls P f args w R):Calls P f args w R0:=h R0 (lh fun _ _ h=>h)
theorem xD {P:Program} {fn:Func} {R:Ending -> World -> Prop} {tmps:Array Value} {w:World} {k:Tmp} {t t':TypeId} {g:Nat} {cs:List Value} {d:TypeDesc} (hr:fn.results=#[.cell k t]) (ha:tmps.getD k undef=.pointer (some ⟨g,0,none⟩)) (hb:Blk w g t' cs)
  (hu:P.underlying t=some d) (hd:d.isRow=true) (hi:(P.info? t).map (·.size)=some cs.length) (h:R (.returned (.agg cs.toArray)) w):bodyPost P fn R .ret ⟨tmps,[]⟩ w:=by
 refine bodyPost_ret (v:=.agg cs.toArray) ?_ rfl h;have hl:=run_loadVar_row (P:=P) w g t' t cs.toArray (0,0) d hb hu (by cases d <;> simp_all) (by simpa using hi);have ha':tmps[k]?.getD undef=.pointer (some ⟨g,0,none⟩):=by simpa using ha
 simp[results,hr,ha',hl,asAddr]
def kP (w:World) (v:Value) (n:Nat) (xs:List Value) (g:Nat):Prop:=
 ∃ A c off,v=.slice A n c/\n<=c/\(0 < n -> A=some ⟨g,off,none⟩/\∀ (j:Nat) (u:Value),xs[j]? = some u -> w.cell? ⟨g,off+j,none⟩=some u)
theorem kP.fr {S:List Nat} {w w':World} {v:Value} {n:Nat} {xs:List Value} {g:Nat} (h:kP w v n xs g) (hf:Fr S w w') (hg:0 < n -> g ∉ S:=by simp):kP w' v n xs g:=by
 obtain⟨A,c,off,hv,hc,hb⟩:=h;refine⟨A,c,off,hv,hc,fun h0=>⟨(hb h0).1,fun j u hu=>?_⟩⟩;have h1:=(hb h0).2 j u hu;rw[hf.cell (World.block_lt_of_cell? w _ h1) (hg h0)];exact h1
theorem kP.of_own {w:World} {e:TypeId} {size n b:Nat} {v:Value} {xs:List Value} (h:w.ownsRow b e size v n xs) (g0:Nat):∃ g,kP w v n xs g/\(0 < n -> v.ownBlock=some g)/\(n=0 -> g=g0):=by
 obtain⟨A,c,rfl,hc,_⟩:=jC h
 by_cases h0:0 < n
 ·obtain⟨g,rfl,hg⟩:=rK h h0;exact⟨g,⟨_,c,0,rfl,hc,fun _=>⟨rfl,fun j u hj=>by rw[Nat.zero_add];exact hg j u hj⟩⟩,fun _=>rfl,fun h1=>by omega⟩
 ·exact⟨g0,⟨A,c,0,rfl,hc,fun h=>absurd h h0⟩,fun h=>absurd h h0,fun _=>rfl⟩
def qB:List Value:=[.int .u8 128,.int .u8 0,.int .i32 0,.int .u8 224,.int .u8 192,.int .i32 128,.int .u8 240,.int .u8 224,.int .i32 2048,.int .u8 248,.int .u8 240,.int .i32 65536]
theorem vQ (w:World):RV 182 #[] w (.agg qB.toArray):=by
 go_enter Tryz.func182,Tryz.ntmps182
 go_wp2
 exact xD (g:=w.heap.size) (t':=218) (d:=_) rfl rfl (Blk.new w 218 qB) Tryz.underlying218 rfl (by kernel_rfl) ⟨rfl,(Fr.refl [] w).alloc _⟩
theorem zH (w:World) (r:Int):Calls Tryz.prog 183 #[.int .i32 r] w fun e w'=>e=.returned (.bool (lB r))/\w=w':=by
 have hs:∀ b,lB r=b -> Calls Tryz.prog 183 #[.int .i32 r] w fun e w'=>e=.returned (.bool b)/\w=w':=by
  intro b hb;unfold lB at hb
  by_cases h1:0<=r
  ·by_cases h2:r < 55296
   ·obtain rfl:b=true:=by rw[<- hb,decide_eq_true_eq];exact .inl ⟨h1,h2⟩
    clear hb
    go_enter Tryz.func183,Tryz.ntmps183
    go_wp2
    go_ret
    exact⟨rfl,rfl⟩
   ·by_cases h3:57343 < r
    ·by_cases h4:r<=1114111
     ·obtain rfl:b=true:=by rw[<- hb,decide_eq_true_eq];exact .inr ⟨h3,h4⟩
      clear hb
      go_enter Tryz.func183,Tryz.ntmps183
      go_wp2
      go_ret
      exact⟨rfl,rfl⟩
     ·obtain rfl:b=false:=by rw[<- hb,decide_eq_false_iff_not];omega
      clear hb
      go_enter Tryz.func183,Tryz.ntmps183
      go_wp2
      go_ret
      exact⟨rfl,rfl⟩
    ·obtain rfl:b=false:=by rw[<- hb,decide_eq_false_iff_not];omega
     clear hb
     go_enter Tryz.func183,Tryz.ntmps183
     go_wp2
     go_ret
     exact⟨rfl,rfl⟩
  ·obtain rfl:b=false:=by rw[<- hb,decide_eq_false_iff_not];omega
   have h3:¬ 57343 < r:=by omega
   clear hb
   go_enter Tryz.func183,Tryz.ntmps183
   go_wp2
   go_ret
   exact⟨rfl,rfl⟩
 exact hs _ rfl
def tC (bs:List UInt8):Value:=match mB bs with
 | none=>.tuple #[.int .i32 0,.int .i64 0]
 | some (r,k)=>.tuple #[.int .i32 (r:Int),.int .i64 (k:Int)]
def qH (bs:List UInt8) (k:Nat):Prop:=∃ b0 l,bs=b0 :: l/\k<=l.length/\xC k b0=true
def aGD (w:World) (bs:List UInt8) (j:Nat) (v:Value) (wr:World):Prop:=∃ k:Nat,k+j=4/\v=.int .i64 (k:Int)/\Fr [] w wr/\∀ i,i < k -> ¬ qH bs i
theorem aCY {w:World} {A:Option Addr} {c:Nat}:RV 147 #[.slice A 0 c] w (tC []):=by
 refine bA fun R HQ=>?_;obtain⟨bs,hbs⟩:∃ bs:List UInt8,bs=[]:=⟨_,rfl⟩;have HBS:=lh hbs;clear hbs
 go_enter Tryz.func147,Tryz.ntmps147
 go_wp2_with fail;refine(vQ _).mono ?_;rintro e w1 ⟨rfl,hf1⟩;have HF1:=lh hf1;clear hf1;go_wp2_with fail
 go_loopg [10] 4 (aGD w bs)
 case atStart=>exact⟨0,rfl,rfl,HF1.o,fun i hi=>absurd hi (by omega)⟩
 case round=>
  obtain⟨k,hk,rfl,hf,hno⟩:=hrel;have HF:=lh hf;have HNO:=lh hno;clear hf hno HF1
  by_cases hk4:k=4
  ·subst hk4;rw[show((4:Nat):Int)=4 from rfl];go_wp2_with fail;exact HQ.o _ _ ⟨rfl,HF.o⟩
  ·have h4:k=0 ∨ k=1 ∨ k=2 ∨ k=3:=by omega
   clear hk4;rcases h4 with rfl | rfl | rfl | rfl
   ·skip
    have ix:∀ W:World,(Instr.index 218 (.agg qB.toArray) (.int .i64 0)).run Tryz.prog W=.ok (.agg #[.int .u8 128,.int .u8 0,.int .i32 0]) W:=fun _=>by kernel_rfl
    unfold qB at ix ⊢;rw[show((0:Nat):Int)=0 from rfl]
    have HNO2:Hid (∀ i,i < 0+1 -> ¬ qH bs i):=lh fun i hi hs=>by
     by_cases hik:i=0
     ·subst hik;obtain⟨b0',l',hb,h1,_⟩:=hs;exact absurd (HBS.o.symm.trans hb) (by simp)
     ·exact HNO.o i (by omega) hs
    go_wp2_with fail
    go_quiet (fail)
    go_wp2_with fail
    go_roundg (3 - 0)
    case measure=>omega
    case rel=>exact⟨0+1,by omega,by go_num,(HF.o.alloc _).drewN _,HNO2.o⟩
   ·skip
    have ix:∀ W:World,(Instr.index 218 (.agg qB.toArray) (.int .i64 1)).run Tryz.prog W=.ok (.agg #[.int .u8 224,.int .u8 192,.int .i32 128]) W:=fun _=>by kernel_rfl
    unfold qB at ix ⊢;rw[show((1:Nat):Int)=1 from rfl]
    have HNO2:Hid (∀ i,i < 1+1 -> ¬ qH bs i):=lh fun i hi hs=>by
     by_cases hik:i=1
     ·subst hik;obtain⟨b0',l',hb,h1,_⟩:=hs;exact absurd (HBS.o.symm.trans hb) (by simp)
     ·exact HNO.o i (by omega) hs
    go_wp2_with fail
    go_quiet (fail)
    go_wp2_with fail
    go_roundg (3 - 1)
    case measure=>omega
    case rel=>exact⟨1+1,by omega,by go_num,(HF.o.alloc _).drewN _,HNO2.o⟩
   ·skip
    have ix:∀ W:World,(Instr.index 218 (.agg qB.toArray) (.int .i64 2)).run Tryz.prog W=.ok (.agg #[.int .u8 240,.int .u8 224,.int .i32 2048]) W:=fun _=>by kernel_rfl
    unfold qB at ix ⊢;rw[show((2:Nat):Int)=2 from rfl]
    have HNO2:Hid (∀ i,i < 2+1 -> ¬ qH bs i):=lh fun i hi hs=>by
     by_cases hik:i=2
     ·subst hik;obtain⟨b0',l',hb,h1,_⟩:=hs;exact absurd (HBS.o.symm.trans hb) (by simp)
     ·exact HNO.o i (by omega) hs
    go_wp2_with fail
    go_quiet (fail)
    go_wp2_with fail
    go_roundg (3 - 2)
    case measure=>omega
    case rel=>exact⟨2+1,by omega,by go_num,(HF.o.alloc _).drewN _,HNO2.o⟩
   ·skip
    have ix:∀ W:World,(Instr.index 218 (.agg qB.toArray) (.int .i64 3)).run Tryz.prog W=.ok (.agg #[.int .u8 248,.int .u8 240,.int .i32 65536]) W:=fun _=>by kernel_rfl
    unfold qB at ix ⊢;rw[show((3:Nat):Int)=3 from rfl]
    have HNO2:Hid (∀ i,i < 3+1 -> ¬ qH bs i):=lh fun i hi hs=>by
     by_cases hik:i=3
     ·subst hik;obtain⟨b0',l',hb,h1,_⟩:=hs;exact absurd (HBS.o.symm.trans hb) (by simp)
     ·exact HNO.o i (by omega) hs
    go_wp2_with fail
    go_quiet (fail)
    go_wp2_with fail
    go_roundg (3 - 3)
    case measure=>omega
    case rel=>exact⟨3+1,by omega,by go_num,(HF.o.alloc _).drewN _,HNO2.o⟩
end
end Go.Proofs.YtbggkiebfflcdaaGreatDoor
