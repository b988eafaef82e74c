/-
  Joined by join.py: Fo Fp Eh Ga Lg Ej Ek El
-/
import Derived.Test.YtbggkiebfflcdaaGreatDoorRows
import Derived.Shelf.Vars
import Derived.Stop.LaidErr
import Derived.Lib.LaidTab
import Derived.MakeChecks
import Derived.LaidMore
import Derived.Lay
import Derived.Stop.Joined
import Derived.Lib.Join
import Derived.Lib.ItoaNum
import Derived.Test.YtbggkiebfflcdaaGreatDoorJpp7
set_option maxRecDepth 100000
set_option maxHeartbeats 32000000
namespace Go.Proofs.YtbggkiebfflcdaaGreatDoor
section
open Go.RowKit Go.Shelf
def zF (ts:List Tkn):List Value:=ts.flatMap Tkn.vals
theorem aCk (ts:List Tkn):(zF ts).length=ts.length * 7:=by
 induction ts with
 | nil=>rfl
 | cons t ts ih=>unfold zF at *;rw[List.flatMap_cons,List.length_append,ih,List.length_cons];show 7+_=_;omega
theorem rL (a b:List Tkn):zF (a ++ b)=zF a ++ zF b:=by simp[zF]
theorem eT (t:Tkn):∀ u ∈ t.vals,u.oneCell'=true:=by
 intro u hu;simp only[Tkn.vals,List.mem_cons,List.not_mem_nil,or_false] at hu;rcases hu with rfl | rfl | rfl | rfl | rfl | rfl | rfl <;> rfl
def AllR (w:World) (l:List UInt8) (e:Ending) (w':World):Prop:=
 Fr [] w w'/\match rC l with
 | .error er=>e=.returned (.tuple #[.slice none 0 0,.int .i64 er])/\er ≠ 0
 | .ok ts=>∃ v,e=.returned (.tuple #[v,.int .i64 0])/\w'.ownsRow 0 95 7 v ts.length (zF ts)/\∀ g,v.ownBlock=some g -> w.heap.size<=g
theorem aBD {w w':World} {l:List UInt8} {er:Int} (h:rC l=.error er) (he:er ≠ 0) (hf:Fr [] w w'):AllR w l (.returned (.tuple #[.slice none 0 0,.int .i64 er])) w':=by
 refine⟨hf,?_⟩;rw[h];exact⟨rfl,he⟩
theorem aGZ {w w':World} {l:List UInt8} {ts:List Tkn} {v:Value} (h:rC l=.ok ts) (ho:w'.ownsRow 0 95 7 v ts.length (zF ts)) (hg:∀ g,v.ownBlock=some g -> w.heap.size<=g) (hf:Fr [] w w'):AllR w l (.returned (.tuple #[v,.int .i64 0])) w':=by
 refine⟨hf,?_⟩;rw[h];exact⟨v,rfl,ho,hg⟩
theorem aDy:(Tryz.prog.info? 95).map (fun i=>(i.zero,i.size,i.bytes))=some (some (.agg #[.int .i64 0,.string { data:=#[] },.bool false,.string { data:=#[] },.int .i64 0,.int .i64 0,.int .i64 0]),7,72):=by kernel_rfl
def tR (ts:List Tkn):Except Int (List Tkn) -> Except Int (List Tkn)
 | .error e=>.error e
 | .ok x=>.ok (ts ++ x)
def AlRel (w:World) (s:ByteArray) (j:Nat) (v4 v5:Value) (wr:World):Prop:=
 ∃ (a m:Nat) (ts:List Tkn),a<=s.size/\s.size<=a+j/\v5=.int .i64 (a:Int)/\s.size < m+a/\ts.length<=a/\rC (aA s)=tR ts (aC m a ((aA s).drop a)) /\
  wr.ownsRow 0 95 7 v4 ts.length (zF ts)/\(∀ g,v4.ownBlock=some g -> w.heap.size<=g)/\Fr [] w wr
theorem aFm {w:World} (s:ByteArray) (hz:s.size<=100000):Calls Tryz.prog 19 #[.string s] w (AllR w (aA s)):=by
 refine bA fun R HQ=>?_
 by_cases hl:8192 < s.size
 ·have HE:Hid (rC (aA s)=.error 4):=lh (by unfold rC;rw[if_pos (by rw[cA];exact hl)]);have d0:decide (8192 < (s.size:Int))=true:=dT (by omega)
  go_enter Tryz.func19,Tryz.ntmps19
  go_wp2_with fail;exact HQ.o _ _ (aBD HE.o (by omega) (Fr.refl _ _))
 ·have HT0:Hid (rC (aA s)=aC (s.size+1) 0 (aA s)):=lh (by unfold rC;rw[if_neg (by rw[cA];exact hl),cA]);have d0:decide (8192 < (s.size:Int))=false:=dF (by omega)
  go_enter Tryz.func19,Tryz.ntmps19
  go_wp2_with fail;clear d0
  go_loopg [4,5] s.size (fun j v4 v5 wr=>AlRel w s j v4 v5 wr)
  case atStart=>exact⟨0,s.size+1,[],Nat.zero_le _,by omega,rfl,by omega,by simp,by rw[HT0.o,List.drop_zero];cases aC (s.size+1) 0 (aA s) <;> rfl,sG _ _ _ _,by simp[Value.ownBlock],Fr.refl _ _⟩
  case round=>
   obtain⟨a,m,ts,ha,hj,rfl,hm,htl,ht,hown,hge,hf⟩:=hrel;have HT:=lh ht;have HOWN:=lh hown;have HGE:=lh hge;have HF:=lh hf;have HTL:=lh htl;clear ht hown hge hf HT0 htl;obtain⟨m1,hm1⟩:∃ m1,m=m1+1:=⟨m - 1,by omega⟩;have HM1:=lh hm1;clear hm1;obtain⟨oA,oc,hov,_,_⟩:=jC HOWN.o;have HOV:=lh hov;clear hov;go_wp2_with fail;refine(aDx s a ha hz).mono ?_;rintro e w1 ⟨hf1,hr1⟩;have HF1:=lh (HF.o.trans hf1);have HW1:=lh hf1;clear hf1
   cases hn:vE a ((aA s).drop a) with
   | error er=>
    rw[hn] at hr1;obtain⟨rfl,hne⟩:=hr1;have HE:Hid (rC (aA s)=.error er):=lh (by rw[HT.o,HM1.o,aC,hn];rfl);have HNE:=lh hne;have dn:(er != 0)=true:=by rw[bne_iff_ne];exact hne
    clear hn hne;go_wp2_with fail;exact HQ.o _ _ (aBD HE.o HNE.o (HF1.o.alloc _))
   | ok t=>
    rw[hn] at hr1;have hok:=kM hn;have HE0:Hid (aC m a ((aA s).drop a)=if t.kind=0 then .ok [] else match aC m1 t.til (((aA s).drop a).drop (t.til - a)) with | .error e=>.error e | .ok ts=>.ok (t :: ts)):=lh (by rw[HM1.o,aC,hn];rfl);clear hn;subst hr1;obtain⟨tk,tsx,⟨tneg,tdig,texp⟩,tfrm,ttil⟩:=t;obtain⟨sv,hsv⟩:∃ sv,S8 tsx=.string sv:=⟨_,rfl⟩;obtain⟨dv,hdv⟩:∃ dv,S8 tdig=.string dv:=⟨_,rfl⟩;have hvs:Tkn.vals ⟨tk,tsx,⟨tneg,tdig,texp⟩,tfrm,ttil⟩=[.int .i64 (tk:Int),.string sv,.bool tneg,.string dv,.int .i64 texp,.int .i64 (tfrm:Int),.int .i64 (ttil:Int)]:=by rw[<- hsv,<- hdv];rfl
    rw[hvs];have HVS:=lh hvs
    simp only at hok
    obtain⟨h1,h2,h3,h4⟩:=hok;rw[List.length_drop,cA] at h2;clear hsv hdv hvs
    by_cases hk0:tk=0
    ·have HE:Hid (rC (aA s)=.ok ts):=lh (by rw[HT.o,HE0.o,if_pos hk0];simp[tR]);have dk:((tk:Int) == 0)=true:=by rw[hk0];rfl
     clear h3 h4 hk0;go_wp2_with fail;exact HQ.o _ _ (aGZ HE.o ((sB HOWN.o HW1.o (by simp)).alloc _) HGE.o (HF1.o.alloc _))
    ·have dk:((tk:Int) == 0)=false:=by rw[beq_eq_false_iff_ne];omega
     have h5:=h4 hk0;obtain⟨h6,h7,_⟩:=h5
     simp only at h6 h7
     have HE:Hid (rC (aA s)=tR (ts ++ [⟨tk,tsx,⟨tneg,tdig,texp⟩,tfrm,ttil⟩]) (aC m1 ttil ((aA s).drop ttil))):=lh (by
      rw[HT.o,HE0.o,if_neg hk0,List.drop_drop]
      simp only
      rw[show a+(ttil - a)=ttil by omega]
      cases aC m1 ttil ((aA s).drop ttil) with
      | error e=>rfl
      | ok x=>simp[tR])
     have hlt:a < ttil/\ttil<=s.size:=by omega
     obtain⟨hlt1,hlt2⟩:=hlt;clear h1 h2 h3 h4 h6 h7 hk0 HT HE0;go_upto_region 10 with fail
     refine wp_region_lit ?_
     iterate 2 (refine rn rfl (by go_simp <;> with_reducible rfl) ?_;simp only[nrm])
     refine lp fun K hK=>?_;obtain⟨iu,hi,hz',hsz',hby⟩:=info_parts aDy;refine kD (.tmp 27) rfl Tryz.underlying57 hi hz' [.int .i64 (tk:Int),.string sv,.bool tneg,.string dv,.int .i64 texp,.int .i64 (tfrm:Int),.int .i64 (ttil:Int)] rfl hsz' rfl (by simp) (by simp) (hK _ _ ?_);simp only[nrm];clear hK;have hb2:=Blk.new w1 95 [.int .i64 (tk:Int),.string sv,.bool tneg,.string dv,.int .i64 texp,.int .i64 (tfrm:Int),.int .i64 (ttil:Int)];have hf2:Fr [] w1 (w1.alloc (.cells #[.int .i64 (tk:Int),.string sv,.bool tneg,.string dv,.int .i64 texp,.int .i64 (tfrm:Int),.int .i64 (ttil:Int)] 95)):=(Fr.refl [] w1).alloc _;have hz2:(w1.alloc (.cells #[.int .i64 (tk:Int),.string sv,.bool tneg,.string dv,.int .i64 texp,.int .i64 (tfrm:Int),.int .i64 (ttil:Int)] 95)).heap.size=w1.heap.size+1:=by simp
     generalize w1.alloc (.cells #[.int .i64 (tk:Int),.string sv,.bool tneg,.string dv,.int .i64 texp,.int .i64 (tfrm:Int),.int .i64 (ttil:Int)] 95)=w2 at *;have hb3:=Blk.new w2 95 [.int .i64 (tk:Int),.string sv,.bool tneg,.string dv,.int .i64 texp,.int .i64 (tfrm:Int),.int .i64 (ttil:Int)];have hf3:Fr [] w2 (w2.alloc (.cells #[.int .i64 (tk:Int),.string sv,.bool tneg,.string dv,.int .i64 texp,.int .i64 (tfrm:Int),.int .i64 (ttil:Int)] 95)):=(Fr.refl [] w2).alloc _;have hz3:(w2.alloc (.cells #[.int .i64 (tk:Int),.string sv,.bool tneg,.string dv,.int .i64 texp,.int .i64 (tfrm:Int),.int .i64 (ttil:Int)] 95)).heap.size=w1.heap.size+2:=by simp[hz2]
     have hb23:=hb2.fr hf3;generalize w2.alloc (.cells #[.int .i64 (tk:Int),.string sv,.bool tneg,.string dv,.int .i64 texp,.int .i64 (tfrm:Int),.int .i64 (ttil:Int)] 95)=w3 at *;refine lp fun K hK=>?_;have how:=sB (sB (sB HOWN.o HW1.o (by simp)) hf2 (by simp)) hf3 (by simp);have hone:=eT ⟨tk,tsx,⟨tneg,tdig,texp⟩,tfrm,ttil⟩;rw[HVS.o] at hone;refine jB (.tmp 26) (.tmp 28) rfl 95 7 72 Tryz.underlying57 hi hz' hsz' hby rfl (by omega) u4 ts.length (zF ts) rfl how ⟨w2.heap.size,0,none⟩ 1 1 [.int .i64 (tk:Int),.string sv,.bool tneg,.string dv,.int .i64 texp,.int .i64 (tfrm:Int),.int .i64 (ttil:Int)] rfl rfl (fun j u hu=>by rw[Addr.add_mid,Nat.zero_add];exact hb3.at_ hu) hone (by omega) (by unfold maxLen;have:=HTL.o;omega) (by have:=HTL.o;omega) (w1.heap.size+2) hz3 fun g7 cap w7 ho7 hf7 hat7 hlt7=>hK _ _ ?_;simp only[nrm];clear hK;refine rn rfl (by go_simp <;> with_reducible rfl) ?_;simp only[nrm];refine wpList_nil ?_;have hwz:=HF1.o.size
     have hge7:∀ g,(Value.slice (some ⟨g7,0,none⟩) (ts.length+1) cap).ownBlock=some g -> w.heap.size<=g:=fun g hg=>by
      have e:g7=g:=by simpa[Value.ownBlock] using hg
      rcases hat7 with h | h
      ·exact HGE.o g (e ▸ h)
      ·omega
     have hb7:=hb23.fr hf7 (by
      intro hm;have h1:u4.ownBlock=some w1.heap.size:=by simpa using hm
      have:=iL (sB HOWN.o HW1.o (by simp)) _ h1;omega)
     have hf07:Fr [] w w7:=((HF1.o.trans hf2).trans hf3).trans hf7 (fun x hx=>.inr (HGE.o x (by simpa using hx)));have HB7:=lh hb7;have HO7:=lh ho7;have HG7:=lh hge7;have HF7:=lh hf07;have b6:=hb7.at_ (i:=6) rfl;clear hb2 hf2 hz2 hb3 hf3 hz3 hb23 how hone hf7 hat7 hlt7 hb7 ho7 hge7 hf07 hi hz' hsz' hby;go_wp2_with fail
     go_roundg (s.size - ttil)
     case measure=>omega
     case rel=>exact⟨ttil,m1,ts ++ [⟨tk,tsx,⟨tneg,tdig,texp⟩,tfrm,ttil⟩],hlt2,by omega,rfl,by have:=HM1.o;omega,by have:=HTL.o;rw[List.length_append];simp;omega,HE.o,by rw[rL,List.length_append];show w7.ownsRow 0 _ 7 _ _ (zF ts ++ (Tkn.vals _ ++ []));rw[HVS.o];simpa using HO7.o,HG7.o,HF7.o⟩
end
section
open Go.RowKit
section
variable {P : Program} {ops : Array Oper} {rest : List Oper} {o o2 : Oper} {a : Act} {w : World} {Q : Exit -> Act -> World -> Prop}
theorem zC {k:Tmp} (hg:o.guard=none) (hg2:o2.guard=none) (t:TypeId) (y:Operand) (hd:o.dst=some k) (ho:o.op=.alloc t) (ho2:o2.op=.store t (.tmp k) y) (hd2:o2.dst=none)
  (z:Value) (zs:List Value) (hz:(P.info? t).map (·.zero)=some (some z)) (hzs:z.cells=zs.toArray) (cs:List Value)
  (hx:(a.put (some k) (.pointer (some ⟨w.heap.size,0,none⟩))).eval (.tmp k)=.pointer (some ⟨w.heap.size,0,none⟩)) (hy:(a.put (some k) (.pointer (some ⟨w.heap.size,0,none⟩))).eval y=.agg cs.toArray)
  (hi:(P.info? t).map (·.size)=some cs.length) (hl:zs.length=cs.length) (h1:∀ v ∈ cs,v.oneCell'=true)
  (h:∀ w1,Blk w1 w.heap.size t cs -> Fr [] w w1 -> w1.heap.size=w.heap.size+1 -> wpList P ops Q rest (a.put (some k) (.pointer (some ⟨w.heap.size,0,none⟩))) w1):wpList P ops Q (o :: o2 :: rest) a w:=by
 refine wpList_plain hg fun K hK=>iP t ho z zs hz hzs fun w1 hb1 hf1 hz1=>hK _ _ (wpList_plain hg2 fun K2 hK2=>?_);rw[hd];refine yI t (.tmp k) y ho2 cs hx hy hb1 hi hl h1 fun w2 hb2 hf2 hz2=>hK2 _ _ ?_;rw[hd2];exact h w2 hb2 (hf1.trans hf2 (fun x hx=>.inr (by simp at hx;omega))) (hz2.trans hz1)
theorem vD (hg:o.guard=none) (t:TypeId) (ho:o.op=.alloc t) (z:Value) (zs:List Value) (hz:(P.info? t).map (·.zero)=some (some z)) (hzs:z.cells=zs.toArray)
  (h:∀ w1,Blk w1 w.heap.size t zs -> Fr [] w w1 -> w1.heap.size=w.heap.size+1 -> wpList P ops Q rest (a.put o.dst (.pointer (some ⟨w.heap.size,0,none⟩))) w1):wpList P ops Q (o :: rest) a w:=
 wpList_plain hg fun _K hK=>iP t ho z zs hz hzs fun w1 hb1 hf1 hz1=>hK _ _ (h w1 hb1 hf1 hz1)
theorem iA {g:Nat} {t':TypeId} {old:List Value} (hg:o.guard=none) (t:TypeId) (x y:Operand) (ho:o.op=.store t x y) (cs:List Value)
  (hx:a.eval x=.pointer (some ⟨g,0,none⟩)) (hy:a.eval y=.agg cs.toArray) (hb:Blk w g t' old)
  (hi:(P.info? t).map (·.size)=some cs.length) (hl:old.length=cs.length) (h1:∀ v ∈ cs,v.oneCell'=true)
  (h:∀ w1,Blk w1 g t' cs -> Fr [g] w w1 -> w1.heap.size=w.heap.size -> wpList P ops Q rest (a.put o.dst undef) w1):wpList P ops Q (o :: rest) a w:=
 wpList_plain hg fun _K hK=>yI t x y ho cs hx hy hb hi hl h1 fun w1 hb1 hf1 hz1=>hK _ _ (h w1 hb1 hf1 hz1)
theorem uA {g:Nat} {t':TypeId} {cs:List Value} {d:TypeDesc} (hgd:o.guard=none) (t:TypeId) (x:Operand) (ho:o.op=.load t x) (hx:a.eval x=.pointer (some ⟨g,0,none⟩)) (hb:Blk w g t' cs)
  (hu:P.underlying t=some d) (hd:d.isRow=true) (hi:(P.info? t).map (·.size)=some cs.length) (h:wpList P ops Q rest (a.put o.dst (.agg cs.toArray)) w):wpList P ops Q (o :: rest) a w:=by
 have hl:=run_loadVar_row (P:=P) w g t' t cs.toArray (0,0) d hb hu (by cases d <;> simp_all) (by simpa using hi);refine wpList_plain hgd fun K hK=>?_;unfold Oper.wp
 simp[execOp,ho,hx,Instr.loadAt,Instr.sureAddr,hl,Result.andThen]
 exact hK _ _ h
theorem cC {t e:TypeId} (hg:o.guard=none) (x:Operand) (ho:o.op=.buildSlice t 1 #[(0,x)]) {i:TypeInfo} {z:Value} (ht:P.underlying t=some (.slice e)) (hi:P.info? e=some i) (hz:i.zero=some z) (cs:List Value) (hx:a.eval x=.agg cs.toArray)
  {k:Nat} (hk:cs.length=k) (hs:i.size=k) (hzs:z.cells.size=k) (h0:0 < k) (hb:k<=16777216)
  (h:∀ w1,Blk w1 w.heap.size e cs -> Fr [] w w1 -> w1.heap.size=w.heap.size+1 -> wpList P ops Q rest (a.put o.dst (.slice (some ⟨w.heap.size,0,none⟩) 1 1)) w1):wpList P ops Q (o :: rest) a w:=by
 subst hk;exact wpList_plain hg fun K hK=>kD x ho ht hi hz cs hx hs hzs h0 hb (hK _ _ (h _ (Blk.new w e cs) ((Fr.refl [] w).alloc _) (by simp)))
theorem bJ {x:Operand} (hg:o.guard=none) (ho:o.op=.call { callee:=.value x,args:=#[],argTypes:=#[] }) (f:FuncId) (first cap args:Array Value) (hx:a.eval x=.func (.func f) first cap) (hargs:first ++ cap=args)
  (he:∀ w,(callFunc f args).run P w=.ok (.enter f args) w)
  (hc:Calls P f args w (fun e w'=>(∃ v,e=.returned v/\wpList P ops Q rest (a.put o.dst v) w') ∨ (∃ c,e=.panicked c/\Q (.panic c) a w'))):wpList P ops Q (o :: rest) a w:=by
 refine wpList_plain hg fun K hK=>?_;unfold Oper.wp
 have hrun:(execOp a.eval o).run P w=.ok (.enter f args) w:=by
  simp only[execOp,ho,resolve,hx]
  simp[invoke,hargs,he,Deferred.ofValue]
 rw[hrun];refine hc.mono ?_;rintro e w' (⟨v,rfl,h⟩ | ⟨c,rfl,h⟩)
 ·exact hK _ _ h
 ·exact h
end
def Rd.on {α:Type} (R:Rd α):Prop:=∀ s x s',R s=some (x,s') -> s'.l <:+ s.l
theorem nD (s:QS):s.go.l <:+ s.l:=List.drop_suffix 1 s.l
theorem eA {α β:Type} {a a':α} {b b':β} (h:some (a,b)=some (a',b')):a=a'/\b=b':=by simpa using h
section
variable {txt : List UInt8} {E S : Int -> Rd Xpr} {α : Type}
theorem wK (s:QS):(nA txt s).2.2.l <:+ s.l:=by
 unfold nA
 split
 ·split
  ·exact List.suffix_refl _
  ·exact nD s
 ·exact List.suffix_refl _
theorem kV {x:List UInt8} {item:Rd α} (hi:item.on):∀ n,(rB x item n).on
 | 0=>fun s y s' h=>by simp[rB] at h
 | n+1=>fun s y s' h=>by
  unfold rB at h
  split at h
  ·cases h
  ·rename_i a s1 h1
   have h2:=hi _ _ _ h1
   split at h
   ·split at h
    ·cases h
    ·rename_i l s2 h3
     have h4:=kV hi n _ _ _ h3;obtain⟨_,rfl⟩:=eA h;exact(h4.trans (nD s1)).trans h2
   ·obtain⟨_,rfl⟩:=eA h;exact h2
theorem oM {x:List UInt8} {item:Rd α} (hi:item.on):Rd.on (eC x item):=fun s y s' h=>kV hi _ s y s' h
theorem fT {x:List UInt8} {a:α}:Rd.on (gF x a):=fun s y s' h=>by
 unfold gF at h
 split at h
 ·obtain⟨_,rfl⟩:=eA h;exact nD s
 ·cases h
theorem aCl {n:Int} {b:Bool}:Rd.on (kE txt n b):=fun s y s' h=>by
 unfold kE at h
 split at h
 ·simp only at h
  split at h
  ·obtain⟨_,rfl⟩:=eA h;exact(wK _).trans ((nD _).trans ((wK _).trans (nD _)))
  ·obtain⟨_,rfl⟩:=eA h;exact(wK _).trans (nD _)
 ·cases h
theorem wP (hE:∀ d,(E d).on) (d:Int):Rd.on (uG txt E d):=fun s y s' h=>by
 unfold uG at h
 split at h
 ·obtain⟨_,rfl⟩:=eA h;exact nD s
 ·split at h
  ·obtain⟨_,rfl⟩:=eA h;exact nD s
  ·split at h
   ·split at h
    ·cases h
    ·rename_i e s1 h1
     have:=hE _ _ _ _ h1;obtain⟨_,rfl⟩:=eA h;exact this.trans (nD s)
   ·simp only at h
    split at h
    ·exact(aCl _ _ _ h).trans (wK _)
    ·split at h
     ·obtain⟨_,rfl⟩:=eA h;exact wK _
     ·cases h
theorem aI:Rd.on xB:=fun s y s' h=>by
 unfold xB at h
 split at h
 ·obtain⟨_,rfl⟩:=eA h;exact nD s
 ·split at h
  ·cases h
  ·split at h
   ·obtain⟨_,rfl⟩:=eA h;exact nD s
   ·cases h
theorem vG (hE:∀ d,(E d).on) (d:Int):Rd.on (kB txt E d):=fun s y s' h=>by
 unfold kB at h
 split at h
 ·cases h
 ·rename_i l s1 h1
  have:=oM (wP hE d) _ _ _ h1;exact(fT _ _ _ h).trans this
theorem nN (hE:∀ d,(E d).on) (d:Int):∀ n,Rd.on (dD txt E d n)
 | 0=>fun s y s' h=>by simp[dD] at h
 | n+1=>fun s y s' h=>by
  unfold dD at h
  simp only at h
  have h0:(if s.next [46,46]=true then s.go else s).l <:+ s.l:=by
   split
   ·exact nD s
   ·exact List.suffix_refl _
  generalize (if s.next [46,46]=true then s.go else s)=s1 at *
  split at h
  ·split at h
   ·cases h
   ·rename_i l s2 h1
    have h2:=vG hE d _ _ _ h1
    split at h
    ·cases h
    ·rename_i m s3 h3
     have h4:=nN hE d n _ _ _ h3;obtain⟨_,rfl⟩:=eA h;exact h4.trans (h2.trans ((nD s1).trans h0))
  ·split at h
   ·split at h
    ·cases h
    ·rename_i l s2 h1
     split at h1
     ·cases h1
     ·rename_i x s4 h5
      obtain⟨rfl,rfl⟩:=eA h1;have h2:=aI _ _ _ h5
      split at h
      ·cases h
      ·rename_i m s3 h3
       have h4:=nN hE d n _ _ _ h3;obtain⟨_,rfl⟩:=eA h;exact h4.trans (h2.trans h0)
   ·split at h
    ·split at h
     ·cases h
     ·rename_i l s2 h1
      split at h1
      ·cases h1
      ·rename_i x s4 h5
       obtain⟨rfl,rfl⟩:=eA h1;have h2:=aI _ _ _ h5
       split at h
       ·cases h
       ·rename_i m s3 h3
        have h4:=nN hE d n _ _ _ h3;obtain⟨_,rfl⟩:=eA h;exact h4.trans (h2.trans ((nD s1).trans h0))
    ·obtain⟨_,rfl⟩:=eA h;exact h0
theorem aCm (hE:∀ d,(E d).on) (d:Int) (rel:Bool):Rd.on (pD txt E d rel):=fun s y s' h=>by
 unfold pD at h
 split at h
 ·cases h
 ·rename_i l s1 h1
  obtain⟨_,rfl⟩:=eA h;exact nN hE d _ _ _ _ h1
theorem aDz (hS:∀ d,(S d).on) (d:Int) (x:List UInt8):Rd.on (wE S d x):=fun s y s' h=>by
 unfold wE at h
 split at h
 ·obtain⟨_,rfl⟩:=eA h;exact List.suffix_refl _
 ·split at h
  ·obtain⟨_,rfl⟩:=eA h;exact List.suffix_refl _
  ·split at h
   ·simp only at h
    split at h
    ·obtain⟨_,rfl⟩:=eA h;exact(nD _).trans (nD s)
    ·split at h
     ·cases h
     ·rename_i l s1 h1
      have:=oM (hS _) _ _ _ h1;exact(fT _ _ _ h).trans (this.trans (nD s))
   ·cases h
theorem fH (hE:∀ d,(E d).on) (hS:∀ d,(S d).on) (d:Int):Rd.on (qA txt E S d):=fun s y s' h=>by
 unfold qA at h
 split at h
 ·cases h
 ·split at h
  ·obtain⟨_,rfl⟩:=eA h;exact nD s
  ·split at h
   ·obtain⟨_,rfl⟩:=eA h;exact nD s
   ·split at h
    ·exact(aDz hS d _ _ _ _ h).trans (nD s)
    ·split at h
     ·split at h
      ·cases h
      ·rename_i q s1 h1
       obtain⟨_,rfl⟩:=eA h;exact(aCm hE d _ _ _ _ h1).trans (nD s)
     ·cases h
theorem gT (hE:∀ d,(E d).on) (d:Int):Rd.on (bD E d):=fun s y s' h=>by
 unfold bD at h
 split at h
 ·cases h
 ·rename_i e s1 h1
  have:=hE _ _ _ _ h1;exact(fT _ _ _ h).trans this
theorem aFn (hE:∀ d,(E d).on) (hS:∀ d,(S d).on) (d:Int):Rd.on (lK txt E S d):=fun s y s' h=>by
 unfold lK at h
 split at h
 ·split at h
  ·cases h
  ·rename_i e s1 h1
   obtain⟨_,rfl⟩:=eA h;exact(gT hE d _ _ _ h1).trans (nD s)
 ·split at h
  ·cases h
  ·rename_i e s1 h1
   split at h
   ·obtain⟨_,rfl⟩:=eA h;exact fH hE hS d _ _ _ h1
   ·cases h
theorem pM (hE:∀ d,(E d).on) (hS:∀ d,(S d).on) (d:Int):Rd.on (yC txt E S d):=fun s y s' h=>by
 unfold yC at h
 split at h
 ·exact(aFn hE hS d _ _ _ h).trans (nD s)
 ·split at h
  ·exact(gT hE d _ _ _ h).trans (nD s)
  ·split at h
   ·cases h
   ·rename_i e s1 h1
    have h2:=fH hE hS d _ _ _ h1
    split at h
    ·split at h
     ·cases h
     ·rename_i f s2 h3
      have h4:=fH hE hS d _ _ _ h3;obtain⟨_,rfl⟩:=eA h;exact h4.trans ((nD s1).trans h2)
    ·obtain⟨_,rfl⟩:=eA h;exact h2
theorem xP (hE:∀ d,(E d).on) (hS:∀ d,(S d).on) (d:Int):Rd.on (mI txt E S d):=fun s y s' h=>by
 unfold mI at h
 split at h
 ·cases h
 ·rename_i e s1 h1
  obtain⟨_,rfl⟩:=eA h;exact oM (pM hE hS d) _ _ _ h1
theorem aAx (hE:∀ d,(E d).on) (hS:∀ d,(S d).on) (d:Int):Rd.on (tH txt E S d):=fun s y s' h=>by
 unfold tH at h
 split at h
 ·cases h
 ·rename_i e s1 h1
  obtain⟨_,rfl⟩:=eA h;exact oM (xP hE hS d) _ _ _ h1
theorem iG:∀ n,(∀ d,((eG txt n).1 d).on)/\(∀ d,((eG txt n).2 d).on)
 | 0=>⟨fun d s x s' h=>by simp[eG] at h,fun d s x s' h=>by simp[eG] at h⟩
 | n+1=>⟨fun d=>aAx (iG n).1 (iG n).2 d,fun d=>fH (iG n).1 (iG n).2 d⟩
end
end
section
open Go.RowKit Go.Shelf
structure bO (w:World):Prop where
 tab:Lib.TabIs Tryz.prog w "internal/strconv.uint64pow10" .u64 Lib.pow10Tab
 syn:∃ ev,w.cell? ⟨4,0,none⟩=some ev/\(ev=.nilIface ∨ ∃ te pe,ev=.iface te pe)
 ran:∃ ev,w.cell? ⟨5,0,none⟩=some ev/\(ev=.nilIface ∨ ∃ te pe,ev=.iface te pe)
 len:∃ m:Int,w.cell? ⟨0,0,none⟩=some (.int .i64 m)
theorem bO.fr {S:List Nat} {w w':World} (h:bO w) (hf:Fr S w w') (hS:∀ x ∈ S,8<=x:=by simp):bO w':=by
 have hc:∀ {g:Nat} {v:Value},g < 8 -> w.cell? ⟨g,0,none⟩=some v -> w'.cell? ⟨g,0,none⟩=some v:=fun {g v} hg hv=>by
  rw[hf.cell (World.block_lt_of_cell? w _ hv) (fun hm=>by have:=hS g hm;omega)];exact hv
 obtain⟨e1,h1,h1'⟩:=h.syn;obtain⟨e2,h2,h2'⟩:=h.ran;obtain⟨m,h3⟩:=h.len;refine⟨?_,⟨e1,hc (by decide) h1,h1'⟩,⟨e2,hc (by decide) h2,h2'⟩,⟨m,hc (by decide) h3⟩⟩;have ht:=h.tab;unfold Lib.TabIs World.var? at ht ⊢;have hg:Tryz.prog.globalNamed "internal/strconv.uint64pow10" = some 3:=by kernel_rfl
 rw[hg] at ht ⊢;simp only[Option.bind_some] at ht ⊢
 have hlt:3 < w.heap.size:=by
  rcases Nat.lt_or_ge 3 w.heap.size with h | h
  ·exact h
  ·rw[Array.getElem?_eq_none h] at ht;cases ht
 rw[hf.block _ hlt (fun hm=>by have:=hS _ hm;omega)];exact ht
structure wD (w:World) (r gl:Nat) (txt:ByteArray) (d:Int) (s:QS):Prop where
 glob:bO w
 r16:8<=r
 ne:0 < s.l.length -> gl < r
 at_:∃ v,Blk w r 62 [.string txt,v,.int .i64 d,.int .i64 s.most]/\kP w v s.l.length (zF s.l) gl
 toks:∀ t ∈ s.l,t.ok txt.size
 len:s.l.length<=8192
 most:0<=s.most/\s.most<=100000
 deep:0<=d/\d<=100000
 size:txt.size<=100000
 names:∀ t ∈ s.l,t.kind=1 -> t.s.length<=100000
section
variable {w w' w1 : World} {r gl : Nat} {txt : ByteArray} {d : Int} {s s' : QS}
theorem wD.fr {S:List Nat} (h:wD w r gl txt d s) (hf:Fr S w w') (hS:∀ x ∈ S,r < x:=by simp):wD w' r gl txt d s:=by
 obtain⟨v,hb,hs⟩:=h.at_;exact⟨h.glob.fr hf (fun x hx=>by have:=hS x hx;have:=h.r16;omega),h.r16,h.ne,⟨v,hb.fr hf (fun hm=>absurd (hS r hm) (by omega)),hs.fr hf (fun h0 hm=>absurd (hS gl hm) (by have:=h.ne h0;omega))⟩,h.toks,h.len,h.most,h.deep,h.size,h.names⟩
theorem wD.lt (h:wD w r gl txt d s):r < w.heap.size:=by obtain⟨v,hb,_⟩:=h.at_;exact hb.lt
def oI:PanicEntry:={ v:=.iface 99 (.agg #[]),recovered:=false }
def rJ {α:Type} (V:World -> α -> Value -> Prop) (w:World) (r gl:Nat) (txt:ByteArray) (d:Int) (x:Option (α × QS)) (e:Ending) (w':World):Prop:=
 match x with
 | none=>e=.panicked [oI]/\Fr [r] w w'
 | some (y,s)=>∃ v,e=.returned v/\V w' y v/\wD w' r gl txt d s/\Fr [r] w w'
theorem aB {α:Type} {V:World -> α -> Value -> Prop} {x:Option (α × QS)} {y:α} {v:Value} (h:x=some (y,s)) (hv:V w' y v) (hr:wD w' r gl txt d s) (hf:Fr [r] w w'):rJ V w r gl txt d x (.returned v) w':=by
 subst h;exact⟨v,rfl,hv,hr,hf⟩
theorem bB {α:Type} {V:World -> α -> Value -> Prop} {x:Option (α × QS)} (h:x=none) (hf:Fr [r] w w'):rJ V w r gl txt d x (.panicked [oI]) w':=by
 subst h;exact⟨rfl,hf⟩
def cF {α:Type} (c:α -> List Cl) (w:World) (w':World) (x:α) (v:Value):Prop:=∃ cs,v=.agg cs.toArray/\gA w' (fun g=>w.heap.size<=g) (c x) cs
theorem iE (w:World):Calls Tryz.prog 40 #[.bool true] w fun e w'=>e=.returned (.tuple #[])/\w=w':=by
 go_enter Tryz.func40,Tryz.ntmps40
 go_wp2
 go_end0
 exact⟨rfl,rfl⟩
theorem aE (w:World):Calls Tryz.prog 40 #[.bool false] w fun e w'=>e=.panicked [oI]/\w=w':=by
 go_enter Tryz.func40,Tryz.ntmps40
 go_wp2
 exact⟨rfl,rfl,rfl⟩
theorem sC (t:Tkn):∃ (sv dv:ByteArray),aA sv=t.s/\aA dv=t.n.digits/\t.vals=[.int .i64 (t.kind:Int),.string sv,.bool t.n.neg,.string dv,.int .i64 t.n.exp,.int .i64 (t.frm:Int),.int .i64 (t.til:Int)]:=
 ⟨⟨t.s.toArray⟩,⟨t.n.digits.toArray⟩,by simp[aA],by simp[aA],rfl⟩
theorem QS.peek_nil (h:s.l=[]):s.peek=.zero:=by unfold QS.peek;rw[h]
theorem QS.peek_cons {t:Tkn} {l:List Tkn} (h:s.l=t :: l):s.peek=t:=by unfold QS.peek;rw[h]
theorem qW {fn:Func} {R:Ending -> World -> Prop} {tmps:Array Value} {k:Tmp} {g:Nat} {cs:List Value} (hr:fn.results=#[.cell k 95]) (ha:tmps.getD k undef=.pointer (some ⟨g,0,none⟩)) (hb:Blk w g 95 cs) (hl:cs.length=7) (h:R (.returned (.agg cs.toArray)) w):bodyPost Tryz.prog fn R .ret ⟨tmps,[]⟩ w:=
 xD hr ha hb Tryz.underlying95 rfl (by rw[hl];exact vP) h
theorem yP (h:wD w r gl txt d s):RV 111 #[.pointer (some ⟨r,0,none⟩)] w (.agg s.peek.vals.toArray):=by
 refine bA fun R HQ=>?_;obtain⟨v,hb,A,c,off,rfl,hc,hs⟩:=h.at_;have b1:=hb.at_ (i:=1) rfl;have hrl:=hb.lt;clear hb
 cases hl:s.l with
 | nil=>
  rw[QS.peek_nil hl] at HQ;rw[hl] at b1;clear hs hc hl
  go_enter Tryz.func111,Tryz.ntmps111
  go_wp2_with fail;exact qW rfl rfl (Blk.new w 95 [.int .i64 0,.string { data:=#[] },.bool false,.string { data:=#[] },.int .i64 0,.int .i64 0,.int .i64 0]) rfl (HQ.o _ _ ⟨rfl,(Fr.refl [] w).alloc _⟩)
 | cons t l=>
  rw[QS.peek_cons hl] at HQ;rw[hl] at b1 hs hc;obtain⟨sv,dv,-,-,hv⟩:=sC t;obtain⟨rfl,hx⟩:=hs (by simp)
  have hcl:∀ (j:Nat) (u:Value),t.vals[j]? = some u -> w.cell? ⟨gl,off+j,none⟩=some u:=fun j u hu=>hx j u (by
   show(t.vals ++ zF l)[j]? = some u
   rw[List.getElem?_append_left (List.getElem?_eq_some_iff.1 hu).1];exact hu)
  rw[hv] at hcl;have h0:=hcl 0 _ rfl;have h1:=hcl 1 _ rfl;have h2:=hcl 2 _ rfl;have h3:=hcl 3 _ rfl;have h4:=hcl 4 _ rfl;have h5:=hcl 5 _ rfl;have h6:=hcl 6 _ rfl;rw[Nat.add_zero] at h0;have hgl:=World.block_lt_of_cell? w _ h0;have e0:(((t :: l).length:Int) == 0)=false:=by simp;omega
  have el:0 < (t :: l).length:=by simp
  rw[hv] at HQ;clear hx hs hcl hl hv;generalize (t :: l).length=n at *
  go_enter Tryz.func111,Tryz.ntmps111
  go_wp2_with fail;exact qW rfl rfl (Blk.new w 95 [.int .i64 (t.kind:Int),.string sv,.bool t.n.neg,.string dv,.int .i64 t.n.exp,.int .i64 (t.frm:Int),.int .i64 (t.til:Int)]) rfl (HQ.o _ _ ⟨rfl,(Fr.refl [] w).alloc _⟩)
def QS.take (s:QS):Option (Tkn × QS):=match s.l with | []=>none | t :: _=>some (t,s.go)
def aDA (_:World) (t:Tkn) (v:Value):Prop:=v=.agg t.vals.toArray
theorem wD.step {gl off c n:Nat} {t:Tkn} {l:List Tkn} (h:wD w r gl txt d s) (hl:s.l=t :: l) (hn:s.l.length=n) (hb:Blk w r 62 [.string txt,.slice (some ⟨gl,off,none⟩) n c,.int .i64 d,.int .i64 s.most]) (A':Option Addr) (hA:A'=if c=1 then some ⟨gl,off,none⟩ else some ⟨gl,off+7,none⟩):
  wD (w.setCell ⟨r,1,none⟩ (.slice A' (n - 1) (c - 1))) r gl txt d s.go:=by
 have hpos:0 < s.l.length:=by rw[hl];simp
 have hgr:=h.ne hpos;have hf:Fr [r] w (w.setCell ⟨r,1,none⟩ (.slice A' (n - 1) (c - 1))):=(Fr.refl [r] w).setCell (.inl (by simp)) _;obtain⟨v,hb0,hs⟩:=h.at_;have hgo:s.go.l=l:=by simp[QS.go,hl]
 have hln:s.l.length=l.length+1:=by rw[hl];simp
 have hv:v=.slice (some ⟨gl,off,none⟩) n c:=by
  have h1:=hb0.at_ (i:=1) rfl;have h2:=hb.at_ (i:=1) rfl;rw[h1] at h2;injection h2
 subst hv;obtain⟨A,c',off',hv,hc,hcell⟩:=hs;injection hv with e1 e2 e3;subst e3;obtain⟨hA0,hx⟩:=hcell (by omega);rw[<- e1] at hA0;injection hA0 with hA0;injection hA0 with _ ho;subst ho;refine⟨h.glob.fr hf (fun x hx=>by have:=h.r16;simp at hx;omega),h.r16,fun _=>hgr,⟨_,hb.set_ 1 _,?_⟩,fun t ht=>h.toks t (by rw[hl];rw[hgo] at ht;exact List.mem_cons_of_mem _ ht),by have:=h.len;rw[hgo];omega,h.most,h.deep,h.size,fun t ht=>h.names t (by rw[hl];rw[hgo] at ht;exact List.mem_cons_of_mem _ ht)⟩;refine⟨A',c - 1,off+7,by rw[hgo];congr 1;omega,by rw[hgo];omega,fun h0=>?_⟩;rw[hgo] at h0;rw[if_neg (by omega)] at hA;refine⟨hA,fun j u hj=>?_⟩;rw[hgo] at hj
 have h9:=hx (7+j) u (by
  rw[hl]
  show(t.vals ++ zF l)[7+j]? = some u
  rw[List.getElem?_append_right (by show 7<=_;omega)];rw[show 7+j - t.vals.length=j by show 7+j - 7=j;omega];exact hj)
 rw[<- Nat.add_assoc] at h9;rw[hf.cell (World.block_lt_of_cell? w _ h9) (by simp;omega)];exact h9
theorem xK (h:wD w r gl txt d s):Calls Tryz.prog 69 #[.pointer (some ⟨r,0,none⟩)] w (rJ aDA w r gl txt d s.take):=by
 refine bA fun R HQ=>?_;have HH:=lh h;obtain⟨v,hb,A,c,off,rfl,hc,hs⟩:=h.at_;have b1:=hb.at_ (i:=1) rfl;have bf:=hb.free 1;have hrl:=hb.lt;have HB:=lh hb;clear hb h
 cases hl:s.l with
 | nil=>
  have HE:Hid (s.take=none):=lh (by unfold QS.take;rw[hl]);rw[hl] at b1;clear hs hc hl
  go_enter Tryz.func69,Tryz.ntmps69
  go_wp2_with fail;refine(aE _).mono ?_;rintro e w1 ⟨rfl,rfl⟩;exact⟨rfl,HQ.o _ _ (bB HE.o ((Fr.refl [r] w).alloc _))⟩
 | cons t l=>
  have HE:Hid (s.take=some (t,s.go)):=lh (by unfold QS.take;rw[hl]);obtain⟨sv,dv,-,-,hv⟩:=sC t;obtain⟨rfl,hx⟩:=hs (by rw[hl];simp)
  have hcl:∀ (j:Nat) (u:Value),t.vals[j]? = some u -> w.cell? ⟨gl,off+j,none⟩=some u:=fun j u hu=>hx j u (by
   rw[hl]
   show(t.vals ++ zF l)[j]? = some u
   rw[List.getElem?_append_left (List.getElem?_eq_some_iff.1 hu).1];exact hu)
  rw[hv] at hcl;have h0:=hcl 0 _ rfl;have h1:=hcl 1 _ rfl;have h2:=hcl 2 _ rfl;have h3:=hcl 3 _ rfl;have h4:=hcl 4 _ rfl;have h5:=hcl 5 _ rfl;have h6:=hcl 6 _ rfl;rw[Nat.add_zero] at h0;have hgl:=World.block_lt_of_cell? w _ h0;have hne:¬ gl=r:=by have:=HH.o.ne (by rw[hl];simp);omega
  have hpos:0 < s.l.length:=by rw[hl];simp
  obtain⟨n,hn⟩:∃ n,s.l.length=n:=⟨_,rfl⟩;rw[hn] at b1 hc hpos HB;have e1:decide (0 < n)=true:=by simpa using hpos
  have HL:=lh hl;have HV:=lh hv;have HN:=lh hn;have HST:Hid (∀ A',(A'=if c=1 then some ⟨gl,off,none⟩ else some ⟨gl,off+7,none⟩) -> wD (w.setCell ⟨r,1,none⟩ (.slice A' (n - 1) (c - 1))) r gl txt d s.go):=lh (HH.o.step hl hn HB.o);clear hx hs hcl hl hv hn
  by_cases hc1:c=1
  case' pos=>
   have HC:=lh hc1;have HST1:Hid (wD (w.setCell ⟨r,1,none⟩ (.slice (some ⟨gl,off,none⟩) (n - 1) 0)) r gl txt d s.go):=lh (by have h9:=HST.o _ (by rw[if_pos hc1]);rw[hc1] at h9;exact h9)
   go_enter Tryz.func69,Tryz.ntmps69
   go_wp2_with fail;refine(iE _).mono ?_;rintro e w1 ⟨rfl,rfl⟩;go_wp2_with fail;have hz:(w.setCell ⟨r,1,none⟩ (.slice (some ⟨gl,off,none⟩) (n - 1) 0)).heap.size=w.heap.size:=by simp
   have hf:Fr [r] w (w.setCell ⟨r,1,none⟩ (.slice (some ⟨gl,off,none⟩) (n - 1) 0)):=(Fr.refl [r] w).setCell (.inl (by simp)) _;generalize w.setCell ⟨r,1,none⟩ (.slice (some ⟨gl,off,none⟩) (n - 1) 0)=w2 at *
  case' neg=>
   have HC:=lh hc1;have HST1:Hid (wD (w.setCell ⟨r,1,none⟩ (.slice (some ⟨gl,off+7,none⟩) (n - 1) (c - 1))) r gl txt d s.go):=lh (HST.o _ (by rw[if_neg hc1]))
   go_enter Tryz.func69,Tryz.ntmps69
   go_wp2_with fail;refine(iE _).mono ?_;rintro e w1 ⟨rfl,rfl⟩;go_wp2_with fail;have hz:(w.setCell ⟨r,1,none⟩ (.slice (some ⟨gl,off+7,none⟩) (n - 1) (c - 1))).heap.size=w.heap.size:=by simp
   have hf:Fr [r] w (w.setCell ⟨r,1,none⟩ (.slice (some ⟨gl,off+7,none⟩) (n - 1) (c - 1))):=(Fr.refl [r] w).setCell (.inl (by simp)) _;generalize w.setCell ⟨r,1,none⟩ (.slice (some ⟨gl,off+7,none⟩) (n - 1) (c - 1))=w2 at *
  all_goals
   have hb:=(Blk.new w2 95 [.int .i64 (t.kind:Int),.string sv,.bool t.n.neg,.string dv,.int .i64 t.n.exp,.int .i64 (t.frm:Int),.int .i64 (t.til:Int)]).alloc (.cells #[.int .i64 (t.kind:Int),.string sv,.bool t.n.neg,.string dv,.int .i64 t.n.exp,.int .i64 (t.frm:Int),.int .i64 (t.til:Int)] 95);rw[hz] at hb;exact qW rfl rfl hb rfl (HQ.o _ _ (aB HE.o (by unfold aDA;rw[HV.o]) (HST1.o.fr (((Fr.refl [] w2).alloc _).alloc _)) ((hf.alloc _).alloc _)))
theorem lS (a b:ByteArray):(a.toList == b.toList)=(aA a == aA b):=by rw[ByteArray.toList_eq,ByteArray.toList_eq];rfl
theorem zQ (h:wD w r gl txt d s) (x:ByteArray):RV 68 #[.pointer (some ⟨r,0,none⟩),.string x] w (.bool (s.next (aA x))):=by
 refine bA fun R HQ=>?_;have HP:=lh (yP h);obtain⟨sv,dv,hsv,-,hv⟩:=sC s.peek;rw[hv] at HP;have HE:Hid (s.next (aA x)=(s.peek.kind == 4 && sv.toList == x.toList)):=lh (by rw[lS,hsv];rfl);clear hv hsv h;obtain⟨k,hk⟩:∃ k,s.peek.kind=k:=⟨_,rfl⟩;rw[hk] at HE HP;clear hk
 go_enter Tryz.func68,Tryz.ntmps68
 go_wp2_with fail;refine HP.o.mono ?_;rintro e w1 ⟨rfl,hf1⟩;have HF1:=lh hf1;clear hf1 HP
 by_cases hk4:k=4
 ·have d0:((k:Int) == 4)=true:=by rw[hk4];rfl
  have HE2:Hid (s.next (aA x)=(sv.toList == x.toList)):=lh (by rw[HE.o,hk4];simp);rw[HE2.o] at HQ;clear hk4;go_wp2_with fail;exact HQ.o _ _ ⟨rfl,HF1.o.alloc _⟩
 ·have d0:((k:Int) == 4)=false:=by rw[beq_eq_false_iff_ne];omega
  have HE2:Hid (s.next (aA x)=false):=lh (by rw[HE.o,beq_eq_false_iff_ne.2 hk4];rfl);rw[HE2.o] at HQ;clear hk4;go_wp2_with fail;exact HQ.o _ _ ⟨rfl,HF1.o.alloc _⟩
theorem lJ {x:List UInt8} (h:s.next x=true):∃ t,s.take=some (t,s.go)/\s.l.length=s.go.l.length+1:=by
 unfold QS.next QS.peek at h;unfold QS.take
 cases hl:s.l with
 | nil=>rw[hl] at h;cases h
 | cons t l=>exact⟨t,rfl,by simp[QS.go,hl]⟩
theorem aDB (h:wD w r gl txt d s) (x:ByteArray):Calls Tryz.prog 41 #[.pointer (some ⟨r,0,none⟩),.string x] w fun e w'=>e=.returned (.bool (s.next (aA x)))/\wD w' r gl txt d (if s.next (aA x)=true then s.go else s)/\Fr [r] w w':=by
 refine bA fun R HQ=>?_;have HH:=lh h;have HN:=lh (zQ h x)
 cases hn:s.next (aA x) with
 | true=>
  obtain⟨t,ht,_⟩:=lJ hn;have HT:=lh ht;rw[hn] at HN HQ;rw[if_pos rfl] at HQ;clear h hn ht
  go_enter Tryz.func41,Tryz.ntmps41
  go_wp2_with fail;refine HN.o.mono ?_;rintro e w1 ⟨rfl,hf1⟩;have HTK:=lh (xK (HH.o.fr hf1));rw[HT.o] at HTK;have HF1:=lh hf1;clear hf1;go_wp2_with fail;refine HTK.o.mono ?_;rintro e w2 ⟨v,rfl,-,hr,hf⟩;have HR:=lh hr;have HF:=lh ((HF1.o.mono (by simp):Fr [r] w w1).trans hf (fun x hx=>.inl hx));clear hr hf;go_wp2_with fail;exact HQ.o _ _ ⟨rfl,HR.o,HF.o⟩
 | false=>
  rw[hn] at HN HQ;rw[if_neg (by simp)] at HQ;clear h hn
  go_enter Tryz.func41,Tryz.ntmps41
  go_wp2_with fail;refine HN.o.mono ?_;rintro e w1 ⟨rfl,hf1⟩;have HF1:=lh hf1;clear hf1;go_wp2_with fail;exact HQ.o _ _ ⟨rfl,HH.o.fr HF1.o,HF1.o.mono (by simp)⟩
theorem qF (h:wD w r gl txt d s) (x:ByteArray) (hx:s.next (aA x)=true):Calls Tryz.prog 41 #[.pointer (some ⟨r,0,none⟩),.string x] w fun e w'=>e=.returned (.bool true)/\wD w' r gl txt d s.go/\Fr [r] w w':=by
 have:=aDB h x;rw[hx,if_pos rfl] at this;exact this
theorem mH (h:wD w r gl txt d s) (x:ByteArray) (hx:s.next (aA x)=false):Calls Tryz.prog 41 #[.pointer (some ⟨r,0,none⟩),.string x] w fun e w'=>e=.returned (.bool false)/\wD w' r gl txt d s/\Fr [r] w w':=by
 have:=aDB h x;rw[hx,if_neg (by simp)] at this;exact this
end
end
end Go.Proofs.YtbggkiebfflcdaaGreatDoor
section
namespace Go
variable {H : Type} {enc : TypeId × Value -> H}
theorem bI {a:Assume} {C:Checked} {os:Os} {f:FuncId} {fn:Func} {s:ChangeSpec} {conds:List PathCond} {apart fresh handsOn again:Bool} {X:World -> Array Value -> Prop}
  (hX:∀ (w w':World) (args:Array Value),w.heap=w'.heap -> X w args -> X w' args)
  (own:ownKnob C.prog.godebug=none) (started:os.Started) (noInit:C.prog.inits.idxOf? f=none) (hfn:C.prog.funcs[f]? = some fn)
  (witness:∃ (w:World) (tape:Tape) (i:Input),w.os=os/\(w.forCall tape i).Shaped C.prog/\i.vars=[]/\Input.okWide C.prog (w.forCall tape i) .any w.heap.size f i /\
   ((s.pre enc C.prog fn conds apart (w.forCall tape i).memory i.args/\X (w.forCall tape i).memory i.args)/\sizedMet enc C.prog fn (OpenSpec.ofChange s) apart (w.forCall tape i).memory i.args)/\a.holds C.prog (lone (Frame.enter C.prog f i.args .normal) [] (w.forCall tape i)))
  (contract:∀ (W:World) (base:Nat) (args:Array Value) (ds gs:List (DataW H)) (before:List MemPlace),
   (∀ (j:Nat) t v,fn.params[j]? = some t -> args[j]? = some v -> Value.okWide C.prog W .any base t v) ->
   DataW.Whole enc C.prog fn.params.toList s.vars apart W args.toList ds gs before ->
   W.ShapedOpen C.prog -> X W args ->
   Calls C.prog f args W fun e W'=>∃ v,e=.returned v/\s.post enc C.prog fn apart fresh handsOn again W args v W'):
  ReturnsInHanded a C os f .any (fun w args=>(s.pre enc C.prog fn conds apart w args/\X w args)/\sizedMet enc C.prog fn (OpenSpec.ofChange s) apart w args) (s.post enc C.prog fn apart fresh handsOn again):=by
 refine returnsInHanded_of_calls own started noInit witness ?_;intro w tape i _ hsh _ hok hpre hholds;obtain⟨_,_,_,fn',hfn',_,_,_,_,hval⟩:=hok;have e:fn'=fn:=Option.some.inj (hfn'.symm.trans hfn);subst e;obtain⟨⟨⟨ds,gs,before,hw,hc⟩,hx⟩,hz⟩:=hpre;have hw':=DataW.Whole.of_heap (w':=w.forCall tape i) (by rfl) hw;refine(contract (w.forCall tape i) w.heap.size i.args ds gs before hval hw' hsh (hX _ _ _ (by rfl) hx)).mono fun e W' ⟨v,he,hp⟩=>?_;subst he;exact ChangeSpec.post_blind hp
end Go

end
namespace Go.Proofs.YtbggkiebfflcdaaGreatDoor
section
open Go.RowKit Go.Shelf Go.ChangeShapes
noncomputable def sJ:List (String × DataW Unit):=[("math/bits.deBruijn32tab",Rows.laid_math_bits_deBruijn32tab),("math/bits.deBruijn64tab",Rows.laid_math_bits_deBruijn64tab),("internal/strconv.uint64pow10",Rows.laid_internal_strconv_uint64pow10),("unicode/utf8.acceptRanges",Rows.laid_unicode_utf8_acceptRanges),("strconv.ErrRange",Rows.laid_strconv_ErrRange),("strconv.ErrSyntax",Rows.laid_strconv_ErrSyntax),("unicode/utf8.first",Rows.laid_unicode_utf8_first)]
theorem aGK:"*" ++ "errors.errorString" = "*errors.errorString":=by decide
theorem aHa (u:TypeId) (h:Tryz.prog.typeName? 3 u=some "*errors.errorString"):u=273:=
 typeName_ptr_named (nm:="errors.errorString") (by rw[aGK];kernel_rfl) (by kernel_rfl) (by decide) u (by rw[aGK];exact h)
theorem lV {n:String} {g:Nat} {text:List UInt8} {r:List (String × DataW Unit)} {W:World}
  (h:laidMet Tryz.prog ((n,.iface "*errors.errorString" (.ptr (.agg [.lit (.string text)]))) :: r) W) (hg:Tryz.prog.globalNamed n=some g) (ht:(Tryz.prog.globals[g]?).map (·.type)=some 154):
  ∃ ev,W.cell? ⟨g,0,none⟩=some ev/\(ev=.nilIface ∨ ∃ te pe,ev=.iface te pe):=by
 obtain⟨a0,s0,hv0,-,-,-⟩:=laid_sentinel h hg ht Tryz.underlying154 aHa Tryz.underlying273 Tryz.underlying275 rfl rfl Tryz.underlying9 (by kernel_rfl) (by kernel_rfl);exact⟨_,by have h0:=World.var?_cell hg hv0 0;simpa using h0,.inr ⟨_,_,rfl⟩⟩
theorem aDC:(Rows.laid_internal_strconv_uint64pow10:DataW Unit)=Lib.tabData .u64 Lib.pow10Tab:=by kernel_rfl
theorem mV:∀ W,laidMetH Tryz.prog sJ W=laidMet Tryz.prog sJ W:=fun W=>MakeChecks.laidMetH_plain _ _ _ (by kernel_rfl)
theorem aFo {W:World} (hL:laidMetH Tryz.prog sJ W) (hs:W.ShapedOpen Tryz.prog):bO W/\8<=W.heap.size:=by
 rw[mV] at hL;have h3:=hL.tail.tail;rw[aDC] at h3;have h5:=hL.tail.tail.tail.tail;have h6:=h5.tail;obtain⟨m,hm⟩:=cell_of_shapedOpen_int (P:=Tryz.prog) (g:=0) (t:=3) (zero:=#[.int .i64 0]) (k:=.i64) hs (of_decide_eq_true (by kernel_rfl)) (by kernel_rfl) rfl (by kernel_rfl) (by kernel_rfl) Tryz.underlying3
 refine⟨⟨Lib.tabIs_of_head (g:=3) (t:=246) (e:=227) (n:=20) (by kernel_rfl) (by kernel_rfl) Tryz.underlying246 Tryz.underlying227 (by kernel_rfl) (by kernel_rfl) h3,
  lV h6 (by kernel_rfl) (by kernel_rfl),lV h5 (by kernel_rfl) (by kernel_rfl),m,hm⟩,?_⟩
 obtain⟨cs,hh,_⟩:=hs.1 7 _ _ (of_decide_eq_true (by kernel_rfl)) (show((begin Tryz.prog (fun _ _=>0) default).world.heap[7]?).bind Obj.row? = some (Array.replicate 64 (.int .u8 0),267) by kernel_rfl);have:=(Array.getElem?_eq_some_iff.1 hh).1;omega
end
section
open Go.RowKit
mutual
def Qry.wt:Qry -> Nat
 | .mk _ l=>fG l
 termination_by structural q=>q
def fG:List Sgm -> Nat
 | []=>0
 | x :: l=>x.wt+1+fG l
 termination_by structural l=>l
def Sgm.wt:Sgm -> Nat
 | .mk _ l=>mF l
 termination_by structural q=>q
def mF:List Slr -> Nat
 | []=>0
 | x :: l=>x.wt+1+mF l
 termination_by structural l=>l
def Slr.wt:Slr -> Nat
 | .mk _ _ _ _ _ f=>eD f
 termination_by structural q=>q
def Xpr.wt:Xpr -> Nat
 | .mk _ l op q _=>1+op.length+q.wt+eD l
 termination_by structural e=>e
def eD:List Xpr -> Nat
 | []=>0
 | x :: l=>x.wt+eD l
 termination_by structural l=>l
end
theorem Xpr.wt_eq (e:Xpr):e.wt=1+e.op.length+e.q.wt+eD e.l:=by obtain⟨_,_,_,_,_⟩:=e;rfl
theorem Qry.wt_eq (q:Qry):q.wt=fG q.l:=by obtain⟨_,_⟩:=q;rfl
theorem Sgm.wt_eq (s:Sgm):s.wt=mF s.l:=by obtain⟨_,_⟩:=s;rfl
theorem Slr.wt_eq (s:Slr):s.wt=eD s.f:=by obtain⟨_,_,_,_,_,_⟩:=s;rfl
theorem Xpr.wt_pos (e:Xpr):1<=e.wt:=by rw[e.wt_eq];omega
theorem sL:∀ l:List Sgm,l.length<=fG l
 | []=>Nat.le_refl _
 | x :: l=>by have:=sL l;rw[fG];simp;omega
theorem gH:∀ l:List Slr,l.length<=mF l
 | []=>Nat.le_refl _
 | x :: l=>by have:=gH l;rw[mF];simp;omega
theorem bE:∀ l:List Xpr,l.length<=eD l
 | []=>Nat.le_refl _
 | x :: l=>by have:=bE l;have:=x.wt_pos;rw[eD];simp;omega
theorem lE {x:Sgm}:∀ {l:List Sgm},x ∈ l -> x.wt+1<=fG l
 | [],h=>by simp at h
 | y :: l,h=>by
  rw[fG];rcases List.mem_cons.1 h with rfl | h
  ·omega
  ·have:=lE h;omega
theorem tJ {x:Slr}:∀ {l:List Slr},x ∈ l -> x.wt+1<=mF l
 | [],h=>by simp at h
 | y :: l,h=>by
  rw[mF];rcases List.mem_cons.1 h with rfl | h
  ·omega
  ·have:=tJ h;omega
theorem mE {x:Xpr}:∀ {l:List Xpr},x ∈ l -> x.wt<=eD l
 | [],h=>by simp at h
 | y :: l,h=>by
  rw[eD];rcases List.mem_cons.1 h with rfl | h
  ·omega
  ·have:=mE h;omega
theorem jI:∀ a b:List Xpr,eD (a ++ b)=eD a+eD b
 | [],b=>by simp[eD]
 | x :: a,b=>by rw[List.cons_append,eD,eD,jI a b];omega
def oB (l:List Slr):List Xpr:=l.flatMap Slr.f
def gB (l:List Sgm):List Xpr:=l.flatMap fun s=>oB s.l
def Qry.fil (q:Qry):List Xpr:=gB q.l
theorem uO:∀ l:List Slr,eD (oB l)+l.length<=mF l
 | []=>by simp[oB,eD,mF]
 | x :: l=>by
  have:=uO l;have e:oB (x :: l)=x.f ++ oB l:=rfl;rw[e,jI,mF,x.wt_eq]
  simp;omega
theorem iT:∀ l:List Sgm,eD (gB l)+l.length<=fG l
 | []=>by simp[gB,eD,fG]
 | x :: l=>by
  have:=iT l;have:=uO x.l;have e:gB (x :: l)=oB x.l ++ gB l:=rfl;rw[e,jI,fG,x.wt_eq]
  simp;omega
theorem Qry.fil_wt (q:Qry):eD q.fil+q.l.length<=q.wt:=by rw[q.wt_eq];exact iT q.l
theorem Qry.fil_lt {q:Qry} {e:Xpr} (h:e ∈ q.fil):e.wt < q.wt:=by
 have h1:=mE h;have h2:=q.fil_wt
 have h3:0 < q.l.length:=by
  unfold Qry.fil gB at h;obtain⟨s,hs,_⟩:=List.mem_flatMap.1 h;exact List.length_pos_of_mem hs
 omega
theorem dM:∀ l:List Xpr,dK l=l.all fun e=>e.typed && e.truth
 | []=>rfl
 | x :: l=>by rw[dK,dM l];rfl
theorem iO:∀ l:List Slr,kN l=(oB l).all fun e=>e.typed && e.truth
 | []=>rfl
 | x :: l=>by
  obtain⟨_,_,_,_,_,f⟩:=x;rw[kN,iO l,Slr.typed,dM]
  show _=(f ++ oB l).all _
  rw[List.all_append]
theorem jO:∀ l:List Sgm,jN l=(gB l).all fun e=>e.typed && e.truth
 | []=>rfl
 | x :: l=>by
  obtain⟨_,sl⟩:=x;rw[jN,jO l,Sgm.typed,iO]
  show _=(oB sl ++ gB l).all _
  rw[List.all_append]
theorem Qry.typed_all (q:Qry):q.typed=q.fil.all fun e=>e.typed && e.truth:=by obtain⟨_,l⟩:=q;exact jO l
theorem kO:∀ l:List Xpr,lN l=l.all Xpr.typed
 | []=>rfl
 | x :: l=>by rw[lN,kO l];rfl
theorem Xpr.typed_eq (e:Xpr):e.typed=(e.fits && e.q.typed && e.l.all Xpr.typed):=by
 obtain⟨a,b,c,d,e⟩:=e;rw[Xpr.typed,kO];rfl
theorem rF:∀ a b:List Xpr,pA (a ++ b)=pA a+pA b
 | [],b=>by simp[pA]
 | x :: a,b=>by rw[List.cons_append,pA,pA,rF a b];omega
def nE:List Sgm -> Nat
 | []=>0
 | x :: l=>x.l.length+nE l
theorem zP:∀ l:List Slr,dC l=l.length+pA (oB l)
 | []=>rfl
 | x :: l=>by
  obtain⟨_,_,_,_,_,f⟩:=x;rw[dC,zP l,Slr.parts]
  show _=_+pA (f ++ oB l)
  rw[rF,List.length_cons];omega
theorem aQ:∀ l:List Sgm,kC l=l.length+nE l+pA (gB l)
 | []=>rfl
 | x :: l=>by
  obtain⟨_,sl⟩:=x;rw[kC,aQ l,Sgm.parts,zP]
  show _=_+nE (Sgm.mk _ sl :: l)+pA (oB sl ++ gB l)
  rw[rF,List.length_cons,nE]
  show _=_+1+(sl.length+_)+_
  omega
theorem Qry.parts_eq (q:Qry):q.parts=q.l.length+nE q.l+pA q.fil:=by obtain⟨_,l⟩:=q;exact aQ l
theorem Xpr.parts_eq (e:Xpr):e.parts=1+e.q.parts+pA e.l:=by obtain⟨_,_,_,_,_⟩:=e;rfl
theorem sY:∀ n:Nat,(∀ q:Qry,q.wt<=n -> q.parts<=q.wt)/\(∀ e:Xpr,e.wt<=n -> e.parts<=e.wt):=by
 have hl:∀ (n:Nat) (l:List Xpr),(∀ e ∈ l,e.parts<=e.wt) -> pA l<=eD l:=by
  intro n l
  induction l with
  | nil=>intro _;exact Nat.le_refl _
  | cons x l ih=>
   intro h;have h1:=h x (by simp);have h2:=ih (fun e he=>h e (by simp[he]));rw[pA,eD];omega
 have hs:∀ l:List Sgm,nE l+l.length+eD (gB l)<=fG l:=by
  have h9:∀ l:List Slr,l.length+eD (oB l)<=mF l:=fun l=>by have:=uO l;omega
  intro l
  induction l with
  | nil=>simp[nE,gB,eD,fG]
  | cons x l ih=>
   have:=h9 x.l;have e:gB (x :: l)=oB x.l ++ gB l:=rfl;rw[e,jI,fG,x.wt_eq,nE]
   simp;omega
 intro n
 induction n with
 | zero=>
  refine⟨fun q hq=>?_,fun e he=>by have:=e.wt_pos;omega⟩;have h1:=q.fil_wt;have h2:=hs q.l
  have h3:q.fil=[]:=by
   have:=bE q.fil;exact List.eq_nil_of_length_eq_zero (by omega)
  rw[q.parts_eq,h3,q.wt_eq]
  simp[pA];omega
 | succ n ih=>
  have hq:∀ q:Qry,q.wt<=n+1 -> q.parts<=q.wt:=fun q hq=>by
   have h1:=hl n q.fil (fun e he=>ih.2 e (by have:=Qry.fil_lt he;omega));have h2:=hs q.l;rw[q.parts_eq,q.wt_eq];unfold Qry.fil at h1 ⊢;omega
  refine⟨hq,fun e he=>?_⟩;rw[e.wt_eq] at he;have h1:=hq e.q (by omega);have h2:=hl n e.l (fun y hy=>ih.2 y (by have:=mE hy;omega));rw[e.parts_eq,e.wt_eq];omega
theorem Qry.parts_le (q:Qry):q.parts<=q.wt:=(sY q.wt).1 q (Nat.le_refl _)
theorem Xpr.parts_le (e:Xpr):e.parts<=e.wt:=(sY e.wt).2 e (Nat.le_refl _)
theorem Qry.len_le (q:Qry):q.l.length<=q.wt:=by rw[q.wt_eq];exact sL q.l
theorem Qry.fil_len (q:Qry):q.fil.length<=q.wt:=by have:=q.fil_wt;have:=bE q.fil;omega
theorem aAy {l s:List UInt8} {k m:Nat} {n:Dcm} (h:zB l=.ok (k,s,n,m)) (hk:k=1):s.length<=l.length:=by
 match l,h with
 | [],h=>simp[zB] at h
 | c :: cs,h=>
  unfold zB at h
  simp only at h
  split at h
  ·split at h
   ·simp only[Except.ok.injEq,Prod.mk.injEq] at h;obtain⟨rfl,rfl,rfl,rfl⟩:=h;exact mC _ _
   ·cases h
  ·split at h
   ·split at h
    ·cases h
    ·simp only[Except.ok.injEq,Prod.mk.injEq] at h;exact absurd (h.1.trans hk) (by omega)
   ·split at h
    ·split at h
     ·cases h
     ·simp only[Except.ok.injEq,Prod.mk.injEq] at h;exact absurd (h.1.trans hk) (by omega)
    ·split at h
     ·cases h
     ·simp only[Except.ok.injEq,Prod.mk.injEq] at h;exact absurd (h.1.trans hk) (by omega)
theorem aAz {a:Nat} {l:List UInt8} {t:Tkn} (h:vE a l=.ok t) (hk:t.kind=1):t.s.length<=l.length:=by
 unfold vE at h
 simp only at h
 have hd:=cE lD l
 split at h
 ·injection h with h;subst h
  simp at hk
 ·rename_i c cs he
  split at h
  ·cases h
  ·rename_i k s n m h1
   injection h with h;subst h;have h2:=aAy h1 (by simpa using hk);exact Nat.le_trans h2 hd
theorem lO:∀ {n a:Nat} {l:List UInt8} {ts:List Tkn},aC n a l=.ok ts -> ∀ t ∈ ts,t.kind=1 -> t.s.length<=l.length
 | 0,_,_,_,h=>by simp[aC] at h
 | n+1,a,l,ts,h=>by
  unfold aC at h
  split at h
  ·cases h
  ·rename_i t h1
   split at h
   ·injection h with h;subst h;simp
   ·split at h
    ·cases h
    ·rename_i ts1 h3
     injection h with h;subst h;intro x hx hk;rcases List.mem_cons.1 hx with rfl | hx
     ·exact aAz h1 hk
     ·have:=lO h3 x hx hk;rw[List.length_drop] at this;omega
theorem rW {s:List UInt8} {ts:List Tkn} (h:rC s=.ok ts):∀ t ∈ ts,t.kind=1 -> t.s.length<=8192:=by
 intro t ht hk;have h1:=(mN h).1;unfold rC at h
 split at h
 ·cases h
 ·have:=lO h t ht hk;omega
def Rd.wb {α:Type} (f:α -> Nat) (R:Rd α):Prop:=∀ s x s',R s=some (x,s') -> f x+8 * s'.l.length<=8 * s.l.length
theorem qE {s:QS} {x:List UInt8} (h:s.next x=true):s.go.l.length+1=s.l.length:=by
 obtain⟨l,m⟩:=s
 cases l with
 | nil=>simp[QS.next,QS.peek,Tkn.zero] at h
 | cons t l=>simp[QS.go]
theorem jT {s:QS} (h:s.peek.kind ≠ 0):s.go.l.length+1=s.l.length:=by
 obtain⟨l,m⟩:=s
 cases l with
 | nil=>simp[QS.peek,Tkn.zero] at h
 | cons t l=>simp[QS.go]
section
variable {txt : List UInt8} {E S : Int -> Rd Xpr} {α : Type}
theorem vO (s:QS):(nA txt s).2.2.l.length+(if (nA txt s).2.1=true then 1 else 0)<=s.l.length:=by
 unfold nA
 split
 ·rename_i h
  have:=jT (s:=s) (by omega)
  split
  ·simp
  ·simp;omega
 ·simp
theorem nV {x:List UInt8} {item:Rd α} {f:α -> Nat} (hi:item.wb f):∀ n s l s',rB x item n s=some (l,s') -> l ≠ []/\(l.map f).sum+8 * l.length+8 * s'.l.length<=8 * s.l.length+8
 | 0,s,y,s',h=>by simp[rB] at h
 | n+1,s,y,s',h=>by
  unfold rB at h
  split at h
  ·cases h
  ·rename_i a s1 h1
   have h2:=hi _ _ _ h1
   split at h
   ·rename_i hn
    have hl:=qE hn
    split at h
    ·cases h
    ·rename_i l s2 h3
     have h4:=(nV hi n _ _ _ h3).2;obtain⟨rfl,rfl⟩:=eA h;refine⟨by simp,?_⟩;simp only[List.map_cons,List.sum_cons,List.length_cons];omega
   ·obtain⟨rfl,rfl⟩:=eA h;refine⟨by simp,?_⟩;simp only[List.map_cons,List.sum_cons,List.length_cons,List.map_nil,List.sum_nil,List.length_nil];omega
theorem bQ {x:List UInt8} {item:Rd α} {f:α -> Nat} (hi:item.wb f) {s:QS} {l:List α} {s':QS} (h:eC x item s=some (l,s')):l ≠ []/\(l.map f).sum+8 * l.length+8 * s'.l.length<=8 * s.l.length+8:=nV hi _ s l s' h
theorem kT {x:List UInt8} {a b:α} {s s':QS} (h:gF x a s=some (b,s')):b=a/\s'.l.length+1=s.l.length:=by
 unfold gF at h
 split at h
 ·rename_i hn
  obtain⟨rfl,rfl⟩:=eA h;exact⟨rfl,qE hn⟩
 ·cases h
theorem tL:∀ l:List Xpr,eD l=(l.map Xpr.wt).sum
 | []=>rfl
 | x :: l=>by rw[eD,tL l];rfl
theorem lT:∀ l:List Slr,mF l=(l.map fun x=>x.wt+1).sum
 | []=>rfl
 | x :: l=>by rw[mF,lT l];rfl
theorem aCn {n:Int} {b:Bool} {s s':QS} {x:Slr} (h:kE txt n b s=some (x,s')):x.wt=0/\s'.l.length+1<=s.l.length:=by
 unfold kE at h
 split at h
 ·rename_i hn
  have h1:=qE hn
  simp only at h
  have h2:=vO (txt:=txt) s.go
  split at h
  ·rename_i hm
   have h3:=qE hm;have h4:=vO (txt:=txt) (nA txt s.go).2.2.go;obtain⟨rfl,rfl⟩:=eA h;exact⟨rfl,by omega⟩
  ·obtain⟨rfl,rfl⟩:=eA h;exact⟨rfl,by omega⟩
 ·cases h
theorem aFp (hE:∀ d,(E d).wb Xpr.wt) (d:Int):Rd.wb (fun x:Slr=>x.wt+1) (uG txt E d):=fun s y s' h=>by
 unfold uG at h
 split at h
 ·rename_i hk
  have h1:=jT (s:=s) (by omega);obtain⟨rfl,rfl⟩:=eA h
  show 0+1+_<=_
  omega
 ·split at h
  ·rename_i hn
   have h1:=qE hn;obtain⟨rfl,rfl⟩:=eA h
   show 0+1+_<=_
   omega
  ·split at h
   ·rename_i hn
    have h1:=qE hn
    split at h
    ·cases h
    ·rename_i e s1 h2
     have h3:=hE _ _ _ _ h2;obtain⟨rfl,rfl⟩:=eA h
     show(e.wt+0)+1+_<=_
     simp only at h3
     omega
   ·simp only at h
    have h1:=vO (txt:=txt) s
    split at h
    ·have h2:=aCn h
     simp only
     omega
    ·split at h
     ·rename_i ha
      rw[if_pos ha] at h1;obtain⟨rfl,rfl⟩:=eA h
      show 0+1+_<=_
      omega
     ·cases h
theorem oV {s s':QS} {x:Slr} (h:xB s=some (x,s')):x.wt=0/\s'.l.length+1=s.l.length:=by
 unfold xB at h
 split at h
 ·rename_i hn
  obtain⟨rfl,rfl⟩:=eA h;exact⟨rfl,qE hn⟩
 ·split at h
  ·cases h
  ·rename_i t l he
   split at h
   ·obtain⟨rfl,rfl⟩:=eA h;refine⟨rfl,?_⟩
    simp[QS.go,he]
   ·cases h
theorem sW (hE:∀ d,(E d).wb Xpr.wt) (d:Int) {s s':QS} {l:List Slr} (h:kB txt E d s=some (l,s')):mF l+8 * s'.l.length<=8 * s.l.length:=by
 unfold kB at h
 split at h
 ·cases h
 ·rename_i l1 s1 h1
  have h2:=bQ (aFp hE d) h1;obtain⟨rfl,h3⟩:=kT h;have h4:0 < l.length:=List.length_pos_iff.2 h2.1;rw[lT];omega
theorem oN (hE:∀ d,(E d).wb Xpr.wt) (d:Int):∀ n,Rd.wb fG (dD txt E d n)
 | 0=>fun s y s' h=>by simp[dD] at h
 | n+1=>fun s y s' h=>by
  unfold dD at h
  simp only at h
  have h0:(if s.next [46,46]=true then s.go else s).l.length<=s.l.length:=by
   split
   ·rename_i hn
    have:=qE hn;omega
   ·exact Nat.le_refl _
  generalize (if s.next [46,46]=true then s.go else s)=s1 at *
  split at h
  ·rename_i hn
   have hl:=qE hn
   split at h
   ·cases h
   ·rename_i l s2 h1
    have h2:=sW hE d h1
    split at h
    ·cases h
    ·rename_i m s3 h3
     have h4:=oN hE d n _ _ _ h3;obtain⟨rfl,rfl⟩:=eA h;rw[fG,Sgm.wt_eq]
     show mF l+1+_+_<=_
     omega
  ·split at h
   ·split at h
    ·cases h
    ·rename_i l s2 h1
     split at h1
     ·cases h1
     ·rename_i x s4 h5
      obtain⟨rfl,rfl⟩:=eA h1;have h2:=oV h5
      split at h
      ·cases h
      ·rename_i m s3 h3
       have h4:=oN hE d n _ _ _ h3;obtain⟨rfl,rfl⟩:=eA h;rw[fG,Sgm.wt_eq]
       show mF [x]+1+_+_<=_
       rw[mF,mF];omega
   ·split at h
    ·rename_i hn
     have hl:=qE hn
     split at h
     ·cases h
     ·rename_i l s2 h1
      split at h1
      ·cases h1
      ·rename_i x s4 h5
       obtain⟨rfl,rfl⟩:=eA h1;have h2:=oV h5
       split at h
       ·cases h
       ·rename_i m s3 h3
        have h4:=oN hE d n _ _ _ h3;obtain⟨rfl,rfl⟩:=eA h;rw[fG,Sgm.wt_eq]
        show mF [x]+1+_+_<=_
        rw[mF,mF];omega
    ·obtain⟨rfl,rfl⟩:=eA h;rw[fG];omega
theorem pV (hE:∀ d,(E d).wb Xpr.wt) (d:Int) (rel:Bool):Rd.wb Qry.wt (pD txt E d rel):=fun s y s' h=>by
 unfold pD at h
 split at h
 ·cases h
 ·rename_i l s1 h1
  have:=oN hE d _ _ _ _ h1;obtain⟨rfl,rfl⟩:=eA h;rw[Qry.wt_eq];exact this
theorem aCo {x:List UInt8} (h:x ∈ pJ):x.length<=6:=by
 have:∀ y ∈ pJ,y.length<=6:=by decide
 exact this x h
theorem aDD {x:List UInt8} (h:x ∈ oO):x.length<=2:=by
 have:∀ y ∈ oO,y.length<=2:=by decide
 exact this x h
theorem aDE (hS:∀ d,(S d).wb Xpr.wt) (d:Int) {x:List UInt8} {s s':QS} {e:Xpr} (h:wE S d x s=some (e,s')):e.wt+8 * s'.l.length<=8 * s.l.length+8:=by
 unfold wE at h
 split at h
 ·obtain⟨rfl,rfl⟩:=eA h;rw[Xpr.wt_eq];show 1+0+0+0+_<=_;omega
 ·split at h
  ·obtain⟨rfl,rfl⟩:=eA h;rw[Xpr.wt_eq];show 1+0+0+0+_<=_;omega
  ·split at h
   ·rename_i hc
    have h6:=aCo hc.1;have h7:=qE hc.2
    simp only at h
    split at h
    ·rename_i hn
     have h8:=qE hn;obtain⟨rfl,rfl⟩:=eA h;rw[Xpr.wt_eq];show 1+x.length+0+0+_<=_
     simp only at h8
     omega
    ·split at h
     ·cases h
     ·rename_i l s1 h1
      have h2:=bQ (hS _) h1;obtain⟨rfl,h3⟩:=kT h;have h4:0 < l.length:=List.length_pos_iff.2 h2.1;rw[Xpr.wt_eq];show 1+x.length+0+eD l+_<=_;rw[tL]
      simp only at h2
      omega
   ·cases h
theorem uL (hE:∀ d,(E d).wb Xpr.wt) (hS:∀ d,(S d).wb Xpr.wt) (d:Int):Rd.wb Xpr.wt (qA txt E S d):=fun s y s' h=>by
 unfold qA at h
 split at h
 ·cases h
 ·rename_i t l he
  have hl:s.go.l.length+1=s.l.length:=by simp[QS.go,he]
  split at h
  ·obtain⟨rfl,rfl⟩:=eA h;rw[Xpr.wt_eq];show 1+0+0+0+_<=_;omega
  ·split at h
   ·obtain⟨rfl,rfl⟩:=eA h;rw[Xpr.wt_eq];show 1+0+0+0+_<=_;omega
   ·split at h
    ·have:=aDE hS d h;omega
    ·split at h
     ·split at h
      ·cases h
      ·rename_i q s1 h1
       have:=pV hE d _ _ _ _ h1;obtain⟨rfl,rfl⟩:=eA h;rw[Xpr.wt_eq];show 1+0+q.wt+0+_<=_;omega
     ·cases h
theorem mT (hE:∀ d,(E d).wb Xpr.wt) (d:Int):Rd.wb Xpr.wt (bD E d):=fun s y s' h=>by
 unfold bD at h
 split at h
 ·cases h
 ·rename_i e s1 h1
  have h2:=hE _ _ _ _ h1;obtain⟨rfl,h3⟩:=kT h
  simp only at h2
  omega
theorem aFq (hE:∀ d,(E d).wb Xpr.wt) (hS:∀ d,(S d).wb Xpr.wt) (d:Int) {s s':QS} {e:Xpr} (h:lK txt E S d s=some (e,s')):e.wt+8 * s'.l.length<=8 * s.l.length+8:=by
 unfold lK at h
 split at h
 ·rename_i hn
  have hl:=qE hn
  split at h
  ·cases h
  ·rename_i e1 s1 h1
   have:=mT hE d _ _ _ h1;obtain⟨rfl,rfl⟩:=eA h;rw[Xpr.wt_eq];show 1+0+0+(e1.wt+0)+_<=_;omega
 ·split at h
  ·cases h
  ·rename_i e1 s1 h1
   have:=uL hE hS d _ _ _ h1
   split at h
   ·obtain⟨rfl,rfl⟩:=eA h;rw[Xpr.wt_eq];show 1+0+0+(e1.wt+0)+_<=_;omega
   ·cases h
theorem aDF (hE:∀ d,(E d).wb Xpr.wt) (hS:∀ d,(S d).wb Xpr.wt) (d:Int):Rd.wb Xpr.wt (yC txt E S d):=fun s y s' h=>by
 unfold yC at h
 split at h
 ·rename_i hn
  have:=qE hn;have:=aFq hE hS d h;omega
 ·split at h
  ·rename_i hn
   have:=qE hn;have:=mT hE d _ _ _ h;omega
  ·split at h
   ·cases h
   ·rename_i e s1 h1
    have h2:=uL hE hS d _ _ _ h1
    split at h
    ·rename_i hk
     have h5:=jT (s:=s1) (by omega);have h6:=aDD hk.2
     split at h
     ·cases h
     ·rename_i f s2 h3
      have h4:=uL hE hS d _ _ _ h3;obtain⟨rfl,rfl⟩:=eA h;rw[Xpr.wt_eq];show 1+s1.peek.s.length+0+(e.wt+(f.wt+0))+_<=_;omega
    ·obtain⟨rfl,rfl⟩:=eA h;exact h2
theorem aBE (what:Int) {l:List Xpr} (h:l ≠ []):(Xpr.many what l).wt+8<=eD l+8 * l.length:=by
 match l,h with
 | [e],_=>show e.wt+8<=(e.wt+0)+8 * 1;omega
 | a :: b :: l,_=>
  show(Xpr.of what (a :: b :: l) []).wt+8<=_
  rw[Xpr.wt_eq]
  show 1+0+0+eD (a :: b :: l)+8<=_
  simp only[List.length_cons];omega
theorem aDG (hE:∀ d,(E d).wb Xpr.wt) (hS:∀ d,(S d).wb Xpr.wt) (d:Int):Rd.wb Xpr.wt (mI txt E S d):=fun s y s' h=>by
 unfold mI at h
 split at h
 ·cases h
 ·rename_i l s1 h1
  obtain⟨rfl,rfl⟩:=eA h;have h2:=bQ (aDF hE hS d) h1;have h3:=aBE 2 h2.1;rw[tL] at h3;omega
theorem aAA (hE:∀ d,(E d).wb Xpr.wt) (hS:∀ d,(S d).wb Xpr.wt) (d:Int):Rd.wb Xpr.wt (tH txt E S d):=fun s y s' h=>by
 unfold tH at h
 split at h
 ·cases h
 ·rename_i l s1 h1
  obtain⟨rfl,rfl⟩:=eA h;have h2:=bQ (aDG hE hS d) h1;have h3:=aBE 1 h2.1;rw[tL] at h3;omega
theorem cQ:∀ n,(∀ d,((eG txt n).1 d).wb Xpr.wt)/\(∀ d,((eG txt n).2 d).wb Xpr.wt)
 | 0=>⟨fun d s x s' h=>by simp[eG] at h,fun d s x s' h=>by simp[eG] at h⟩
 | n+1=>⟨fun d=>aAA (cQ n).1 (cQ n).2 d,fun d=>uL (cQ n).1 (cQ n).2 d⟩
end
def aHb:List UInt8:=[48,49,50,51,52,53,54,55,56,57,97,98,99,100,101,102]
def fM (n:Nat):UInt8:=aHb.getD n 0
def ctlL:List UInt8:=[8,9,10,12,13]
def ctlN:List UInt8:=[98,116,110,102,114]
def rE (c:UInt8):List UInt8:=
 if c=34 ∨ c=92 then [92,c]
 else if c=8 then [92,98] else if c=9 then [92,116] else if c=10 then [92,110] else if c=12 then [92,102] else if c=13 then [92,114]
 else if c.toNat < 32 then [92,117,48,48,fM (c.toNat / 16),fM (c.toNat % 16)] else [c]
def oK (l:List UInt8):List UInt8:=34 :: l.flatMap rE ++ [34]
def cJ (c:UInt8):List UInt8:=if c=39 then [92,39] else if c=34 then [34] else rE c
def wO (l:List UInt8):List UInt8:=39 :: l.flatMap cJ ++ [39]
def nF (n:Nat):List UInt8:=List.replicate n 48
def Dcm.written (d:Dcm):List UInt8:=
 let n:Int:=d.digits.length
 let h:=d.high
 if n<=h/\h<=21 then d.digits ++ nF (h - n).toNat
 else if 1<=h/\h<=21 then d.digits.take h.toNat ++ 46 :: d.digits.drop h.toNat
 else if -5<=h/\h < 1 then [48,46] ++ nF (-h).toNat ++ d.digits
 else (d.digits.take 1 ++ (if 1 < n then 46 :: d.digits.drop 1 else [])) ++ (if 0 < h then [101,43] else [101]) ++ Lib.itoa (h - 1)
def Dcm.text (d:Dcm):List UInt8:=
 if d.sane=false then [] else if d.digits=[] then [48] else if d.neg=true then 45 :: d.written else d.written
def Vlu.text (v:Vlu):List UInt8:=
 if v.kind=0 then iM else if v.kind=1 then (if v.b=true then cM else oJ) else if v.kind=2 then v.n.text else wO v.s
def tY (n:Int):Bool:=decide (-9007199254740991<=n/\n<=9007199254740991)
end
end Go.Proofs.YtbggkiebfflcdaaGreatDoor
