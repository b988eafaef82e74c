/-
  Joined by join.py: Mz
-/
import Derived.Test.YtbggkiebfflcdaaGreatDoorJpp26
set_option maxRecDepth 100000
set_option maxHeartbeats 32000000
namespace Go.Proofs.YtbggkiebfflcdaaGreatDoor
section
open Go.RowKit Go.Shelf
theorem one3 {A:Option Addr} {n c:Nat} {k:Int} {x:ByteArray}:∀ u ∈ ([.int .i64 k,.slice A n c,.string x,.bool false,.slice none 0 0,.int .i64 0,.bool false,.bool false,.string { data:=#[] },.int .i64 0,.string { data:=#[] },.slice none 0 0,.slice none 0 0]:List Value),u.oneCell'=true:=by
 intro u hu;simp only[List.mem_cons,List.not_mem_nil,or_false] at hu;rcases hu with rfl | rfl | rfl | rfl | rfl | rfl | rfl | rfl | rfl | rfl | rfl | rfl | rfl <;> rfl
theorem aCU (x0 x1 x2 x3 x4 x5 x6 x7 x8 x9 x10 x11 x12 y0 y1 y2 y3 y4 y5 y6 y7 y8 y9 y10 y11 y12:Value) (w:World):(Instr.buildSlice 78 2 #[(0,.agg #[x0,x1,x2,x3,x4,x5,x6,x7,x8,x9,x10,x11,x12]),(1,.agg #[y0,y1,y2,y3,y4,y5,y6,y7,y8,y9,y10,y11,y12])]).run Tryz.prog w=.ok (.slice (some ⟨w.heap.size,0,none⟩) 2 2) (w.alloc (.cells #[x0,x1,x2,x3,x4,x5,x6,x7,x8,x9,x10,x11,x12,y0,y1,y2,y3,y4,y5,y6,y7,y8,y9,y10,y11,y12] 117)):=by kernel_rfl
theorem aEP {cs ds:List Value} (hc:cs.length=13) (hd:ds.length=13) (w:World):(Instr.buildSlice 78 2 #[(0,.agg cs.toArray),(1,.agg ds.toArray)]).run Tryz.prog w=.ok (.slice (some ⟨w.heap.size,0,none⟩) 2 2) (w.alloc (.cells (cs ++ ds).toArray 117)):=by
 match cs,hc,ds,hd with
 | [x0,x1,x2,x3,x4,x5,x6,x7,x8,x9,x10,x11,x12],_,[y0,y1,y2,y3,y4,y5,y6,y7,y8,y9,y10,y11,y12],_=>exact aCU x0 x1 x2 x3 x4 x5 x6 x7 x8 x9 x10 x11 x12 y0 y1 y2 y3 y4 y5 y6 y7 y8 y9 y10 y11 y12 w
section
variable {TS : List Tkn} {s' : DS}
theorem aHy {α β:Type} {V:α -> Prop} {V':β -> Prop} {P:α -> Prop} [DecidablePred P] {c:Bool} {X:Option (α × QS)} {Y:Option (β × QS)} {f:α -> β} (h:Mch V TS s' X) (hP:∀ y,V y -> decide (P y)=c) (hY:Y=X.bind fun r=>if P r.1 then some (f r.1,r.2) else none) (hv:∀ y,V y -> V' (f y)):Mch V' TS (if c=true then s' else s'.fail) Y:=by
 subst hY
 cases X with
 | none=>
  obtain⟨hb,y,hy⟩:=h;refine⟨?_,_,hv y hy⟩
  split
  ·exact hb
  ·rfl
 | some r=>
  obtain⟨y,q⟩:=r;obtain⟨g1,g2,g3,g4⟩:=h
  show Mch V' TS _ (if P y then some (f y,q) else none)
  have hc:=hP y g4
  cases c with
  | true=>rw[if_pos (of_decide_eq_true hc)];exact⟨g1,g2,g3,hv y g4⟩
  | false=>rw[if_neg (of_decide_eq_false hc)];exact⟨rfl,_,hv y g4⟩
variable {txt : List UInt8} {E S : Int -> Rd Xpr} {d : Int} {q : QS}
theorem aEQ (h1:q.next [33]=true) (h2:q.go.next [40]=true):yC txt E S d q=(bD E d q.go.go).map fun r=>(.of 3 [r.1] [],r.2):=by
 unfold yC lK;rw[if_pos h1,if_pos h2]
 cases bD E d q.go.go <;> rfl
theorem aER (h1:q.next [33]=true) (h2:q.go.next [40]=false):yC txt E S d q=(qA txt E S d q.go).bind fun r=>if r.1.what=6 ∨ r.1.what=7 then some (.of 3 [r.1] [],r.2) else none:=by
 unfold yC lK;rw[if_pos h1,if_neg (by rw[h2];simp)]
 cases qA txt E S d q.go <;> rfl
theorem aGl (h1:q.next [33]=false) (h2:q.next [40]=true):yC txt E S d q=bD E d q.go:=by
 unfold yC;rw[if_neg (by rw[h1];simp),if_pos h2]
theorem aGm (h1:q.next [33]=false) (h2:q.next [40]=false):yC txt E S d q=match qA txt E S d q with
  | none=>none
  | some (e,s)=>if s.peek.kind=4/\s.peek.s ∈ oO then
    match qA txt E S d s.go with
    | none=>none
    | some (f,s1)=>some (.of 4 [e,f] s.peek.s,s1)
   else some (e,s):=by
 unfold yC;rw[if_neg (by rw[h1];simp),if_neg (by rw[h2];simp)]
 rfl
theorem aHz {x:List UInt8} (h:q.next x=true) (hx:x ∈ oO):(q.peek.kind=4/\q.peek.s ∈ oO)/\q.peek.s=x:=by
 unfold QS.next at h;rw[Bool.and_eq_true,beq_iff_eq,beq_iff_eq] at h;exact⟨⟨h.1,by rw[h.2];exact hx⟩,h.2⟩
theorem aGn (h:∀ j,j < 6 -> q.next (aA (wL.getD j ByteArray.empty))=false):¬ (q.peek.kind=4/\q.peek.s ∈ oO):=by
 rintro⟨h1,h2⟩
 have h3:∃ j,j < 6/\aA (wL.getD j ByteArray.empty)=q.peek.s:=by
  unfold oO at h2;simp only[List.mem_cons,List.not_mem_nil,or_false] at h2;rcases h2 with h | h | h | h | h | h
  ·exact⟨0,by decide,h.symm ▸ rfl⟩
  ·exact⟨1,by decide,h.symm ▸ rfl⟩
  ·exact⟨2,by decide,h.symm ▸ rfl⟩
  ·exact⟨3,by decide,h.symm ▸ rfl⟩
  ·exact⟨4,by decide,h.symm ▸ rfl⟩
  ·exact⟨5,by decide,h.symm ▸ rfl⟩
 obtain⟨j,hj,hs⟩:=h3;have h4:=h j hj;unfold QS.next at h4;rw[hs,h1] at h4
 simp at h4
theorem aGo {j:Nat} (hj:j < 6):aA (wL.getD j ByteArray.empty) ∈ oO:=by
 match j,hj with
 | 0,_=>decide
 | 1,_=>decide
 | 2,_=>decide
 | 3,_=>decide
 | 4,_=>decide
 | 5,_=>decide
end
section
variable {w w' : World} {r gl n : Nat} {txt : ByteArray} {TS : List Tkn} {s s' : DS} {E S : Int -> Rd Xpr}
def aGp (w4:World) (r gl:Nat) (txt:ByteArray) (TS:List Tkn) (s2:DS) (j:Nat) (v6:Value) (wr:World):Prop:=∃ i,v6=.int .i64 ((i:Nat):Int)/\i+j=6/\DAt wr r gl txt TS s2/\Fr [r] w4 wr/\(s2.bad=false -> ∀ t,t < i -> s2.nx TS (aA (wL.getD t ByteArray.empty))=false)
theorem aHA (hE:oQ 128 txt E n) (hEo:∀ d,(E d).on) (hS:oQ 202 txt (qA (aA txt) E S) (n+1)) (hSo:∀ d,(S d).on) (h:DAt w r gl txt TS s) (hb:s.bad=false) (hk:s.k<=TS.length) (hn:(s.q TS).l.length<=n) (hd:s.d+(s.q TS).l.length<=80000):Calls Tryz.prog 175 #[.pointer (some ⟨r,0,none⟩)] w (mR (cF Xpr.cells w) w r gl txt TS s (yC (aA txt) E S s.d (s.q TS))):=by
 refine bA fun R HQ=>?_;have hrlt:=h.lt;have hlen:=h.len;have HH:=lh h;have HEK:=lh hE;have HEO:=lh hEo;have HSK:=lh hS;have HSO:=lh hSo;have HBD:=lh hb;obtain⟨iu,hi,hz',hsz',hby⟩:=info_parts pQ;have k0:0 < 13:=by decide
 have kb:13<=16777216:=by decide
 rw[bC] at hn hd;clear h hE hEo hS hSo hb
 go_enter Tryz.func175,Tryz.ntmps175
 go_wp2_with (with_reducible refine vD rfl 117 rfl (.agg zx.toArray) zx wH sE ?_)
 intro w0 hb0 hf0 hz0;have HZ:=lh hb0;have HF:Hid (Fr [r] w w0):=lh (hf0.mono (by simp));have HD:=lh (HH.o.fr hf0);clear hb0 hf0 hz0;have HI:=lh (qK HD.o ⟨#[33]⟩);rw[show aA ⟨#[33]⟩=[33] from rfl] at HI
 cases hn1:s.nx TS [33] with
 | true=>
  have hk1:s.k+1<=TS.length:=aG hn1;have HN1:Hid ((s.q TS).next [33]=true):=lh hn1;rw[hn1,if_pos rfl] at HI;clear hn1;go_wp2_with fail;refine HI.o.mono ?_;rintro e w3 ⟨rfl,hd3,hf3⟩;clear HI
  replace HF:=lh (HF.o.trans hf3 (fun x hx=>.inl hx))
  replace HZ:=lh (HZ.o.fr hf3 (by simp;omega))
  replace HD:=lh hd3
  clear hf3 hd3;have HI:=lh (qK HD.o ⟨#[40]⟩);rw[show aA ⟨#[40]⟩=[40] from rfl] at HI
  cases hn2:s.go.nx TS [40] with
  | true=>
   have hk2:s.k+2<=TS.length:=aG hn2;have HE:=lh (aEQ (txt:=aA txt) (E:=E) (S:=S) (d:=s.d) HN1.o (by rw[<- DS.q_go];exact hn2));rw[<- DS.q_go,<- DS.q_go] at HE;rw[hn2,if_pos rfl] at HI;clear hn2;go_wp2_with fail;refine HI.o.mono ?_;rintro e w1 ⟨rfl,hd4,hf4⟩;clear HI
   replace HF:=lh (HF.o.trans hf4 (fun x hx=>.inl hx))
   replace HZ:=lh (HZ.o.fr hf4 (by simp;omega))
   replace HD:=lh hd4
   clear hf4 hd4;have HC:=lh (aAh HEK.o HD.o HBD.o hk2 (by rw[bC];show TS.length - (s.k+2) < n;omega) (by rw[bC];show s.d+1+((TS.length - (s.k+2):Nat):Int)<=80000;omega));rw[show s.go.go.d=s.d from rfl] at HC;go_wp2_with fail;refine HC.o.mono ?_;rintro e w2 ⟨v,s2,rfl,hd2,hp2,hf2,hm2⟩;obtain⟨y0,cs,rfl,hcs0⟩:=kG hm2;have HCL:Hid (cs.length=13):=lh (hcs0.1.trans (kA y0));have HO:=lh hcs0.one;have hc1:(Tryz.prog.info? 117).map (·.size)=some cs.length:=by rw[HCL.o];exact tB
   have hc2:zx.length=cs.length:=by rw[HCL.o];rfl
   have HM:=lh hm2;have HC1:=lh hc1;have HC2:=lh hc2;have HP2:Hid (s2.d=s.d):=lh hp2;have hwh:=eF hcs0;have hzl1:=HZ.o.lt;have hzz:=hf2.size;clear HC hcs0 hm2 hp2 hc1 hc2
   replace HF:=lh (HF.o.trans hf2 (fun x hx=>.inl hx))
   replace HZ:=lh (HZ.o.fr hf2 (by simp;omega))
   replace HD:=lh hd2
   clear hf2 hd2;clear hwh;have HPN:=HP2
   go_wp2_with (with_reducible refine cC rfl (.tmp 12) rfl Tryz.underlying78 hi hz' cs rfl HCL.o hsz' rD k0 kb ?_)
   intro w4 hb4 hf4 hz4;have HSL:Hid (∀ y:Xpr,cF Xpr.cells w1 w2 y (.agg cs.toArray) -> gA w4 (fun g=>w.heap.size+1<=g) (Xpr.of 3 [y] []).cells [.int .i64 3,.slice (some ⟨w2.heap.size,0,none⟩) 1 1,.string { data:=#[] },.bool false,.slice none 0 0,.int .i64 0,.bool false,.bool false,.string { data:=#[] },.int .i64 0,.string { data:=#[] },.slice none 0 0,.slice none 0 0]):=lh (fun y hy=>(wG (what:=3) (op:=[]) (l:=[y]) ((oU hy hb4 hf4 (by simp) (by omega)).mono (fun g hg=>by omega))))
   replace HF:=lh (HF.o.trans hf4);replace HZ:=lh (HZ.o.fr hf4);replace HD:=lh (HD.o.fr hf4)
   have HPC1:Hid ((Tryz.prog.info? 117).map (·.size)=some ([.int .i64 3,.slice (some ⟨w2.heap.size,0,none⟩) 1 1,.string { data:=#[] },.bool false,.slice none 0 0,.int .i64 0,.bool false,.bool false,.string { data:=#[] },.int .i64 0,.string { data:=#[] },.slice none 0 0,.slice none 0 0]:List Value).length):=lh tB;have HPC2:Hid (zx.length=([.int .i64 3,.slice (some ⟨w2.heap.size,0,none⟩) 1 1,.string { data:=#[] },.bool false,.slice none 0 0,.int .i64 0,.bool false,.bool false,.string { data:=#[] },.int .i64 0,.string { data:=#[] },.slice none 0 0,.slice none 0 0]:List Value).length):=lh rfl;have HPO:Hid (∀ u ∈ ([.int .i64 3,.slice (some ⟨w2.heap.size,0,none⟩) 1 1,.string { data:=#[] },.bool false,.slice none 0 0,.int .i64 0,.bool false,.bool false,.string { data:=#[] },.int .i64 0,.string { data:=#[] },.slice none 0 0,.slice none 0 0]:List Value),u.oneCell'=true):=lh one3;clear hb4 hf4 hz4
   go_wp2_with (with_reducible refine iA rfl 117 (.tmp 2) (.tmp 14) rfl [.int .i64 3,.slice (some ⟨w2.heap.size,0,none⟩) 1 1,.string { data:=#[] },.bool false,.slice none 0 0,.int .i64 0,.bool false,.bool false,.string { data:=#[] },.int .i64 0,.string { data:=#[] },.slice none 0 0,.slice none 0 0] rfl rfl HZ.o HPC1.o HPC2.o HPO.o ?_)
   intro w9 hb9 hf9 hz9;have HB9:=lh hb9;have HF9:=lh hf9;clear hb9 hf9 hz9;have hfin:∀ y:Xpr,cF Xpr.cells w1 w2 y (.agg cs.toArray) -> cF Xpr.cells w w9 (.of 3 [y] []) (.agg #[.int .i64 3,.slice (some ⟨w2.heap.size,0,none⟩) 1 1,.string { data:=#[] },.bool false,.slice none 0 0,.int .i64 0,.bool false,.bool false,.string { data:=#[] },.int .i64 0,.string { data:=#[] },.slice none 0 0,.slice none 0 0]):=fun y hy=>⟨_,rfl,((HSL.o y hy).fr HF9.o (fun g hg=>by simp;omega)).mono (fun g hg=>by omega)⟩;have HFIN:=lh hfin;clear hfin;go_wp2_with fail;exact zD rfl rfl HB9.o rfl (HQ.o _ _ ⟨_,_,rfl,HD.o.fr HF9.o (by simp;omega),HPN.o,HF.o.trans HF9.o (fun x hx=>.inr (by simp at hx;omega)),tE (f:=fun y=>Xpr.of 3 [y] []) HM.o HE.o HFIN.o rfl rfl rfl⟩)
  | false=>
   have HE:=lh (aER (txt:=aA txt) (E:=E) (S:=S) (d:=s.d) HN1.o (by rw[<- DS.q_go];exact hn2));rw[<- DS.q_go] at HE;rw[hn2,if_neg (by simp)] at HI;clear hn2;go_wp2_with fail;refine HI.o.mono ?_;rintro e w1 ⟨rfl,hd4,hf4⟩;clear HI
   replace HF:=lh (HF.o.trans hf4 (fun x hx=>.inl hx))
   replace HZ:=lh (HZ.o.fr hf4 (by simp;omega))
   replace HD:=lh hd4
   clear hf4 hd4;have HC:=lh (HSK.o _ _ _ _ _ HD.o HBD.o hk1 (by rw[bC];show TS.length - (s.k+1) < n+1;omega) (by rw[bC];show s.d+((TS.length - (s.k+1):Nat):Int)<=80000;omega));rw[show s.go.d=s.d from rfl] at HC;go_wp2_with fail;refine HC.o.mono ?_;rintro e w2 ⟨v,s2,rfl,hd2,hp2,hf2,hm2⟩;obtain⟨y0,cs,rfl,hcs0⟩:=kG hm2;have HCL:Hid (cs.length=13):=lh (hcs0.1.trans (kA y0));have HO:=lh hcs0.one;have hc1:(Tryz.prog.info? 117).map (·.size)=some cs.length:=by rw[HCL.o];exact tB
   have hc2:zx.length=cs.length:=by rw[HCL.o];rfl
   have HM:=lh hm2;have HC1:=lh hc1;have HC2:=lh hc2;have HP2:Hid (s2.d=s.d):=lh hp2;have hwh:=eF hcs0;have hzl1:=HZ.o.lt;have hzz:=hf2.size;clear HC hcs0 hm2 hp2 hc1 hc2
   replace HF:=lh (HF.o.trans hf2 (fun x hx=>.inl hx))
   replace HZ:=lh (HZ.o.fr hf2 (by simp;omega))
   replace HD:=lh hd2
   clear hf2 hd2;obtain⟨wh,hwe⟩:∃ wh,y0.what=wh:=⟨_,rfl⟩;rw[hwe] at hwh;have HW0:=lh hwh;clear hwh hwe
   go_wp2_with (with_reducible refine zC rfl rfl 117 (.tmp 16) rfl rfl rfl rfl (.agg zx.toArray) zx wH sE cs rfl rfl HC1.o HC2.o HO.o ?_)
   intro w3 hy3 hf3 hz3;have HY:=lh hy3;have HFR3:=lh hf3
   replace HF:=lh (HF.o.trans hf3);replace HZ:=lh (HZ.o.fr hf3);replace HD:=lh (HD.o.fr hf3)
   have hwy:w.heap.size < w2.heap.size:=by omega
   obtain⟨p,hp⟩:∃ p,w2.heap.size=p:=⟨_,rfl⟩;rw[hp] at HY hz3 hwy ⊢;clear hy3 hf3;go_upto_region 5 with fail
   obtain⟨c,hc⟩:∃ c,decide (wh=6 ∨ wh=7)=c:=⟨_,rfl⟩;have c0:=HY.o.at_ HW0.o
   go_simp
   go_cut [24] (fun v wc=>v=.bool (!c)/\w3=wc)
   case first=>
    by_cases h6:wh=6
    ·have d6:(wh != 6)=false:=by simpa using h6
     obtain rfl:true=c:=by rw[<- hc,h6];rfl
     clear h6;go_wp2_with fail
     go_meet
     exact⟨rfl,rfl⟩
    ·have d6:(wh != 6)=true:=by simpa using h6
     by_cases h7:wh=7
     ·have d7:(wh != 7)=false:=by simpa using h7
      obtain rfl:true=c:=by rw[<- hc,h7];rfl
      clear h6 h7;go_wp2_with fail
      go_meet
      exact⟨rfl,rfl⟩
     ·have d7:(wh != 7)=true:=by simpa using h7
      obtain rfl:false=c:=by rw[<- hc];symm;rw[decide_eq_false_iff_not];omega
      clear h6 h7;go_wp2_with fail
      go_meet
      exact⟨rfl,rfl⟩
   case rest=>
    obtain⟨rfl,rfl⟩:=hcut;have HCC:=lh hc;clear hc c0
    go_upto_if 24 with fail
    go_cut [] (fun wc=>DAt wc r gl txt TS (if c=true then s2 else s2.fail)/\Fr [r] w3 wc)
    case first=>
     cases c with
     | true=>
      go_wp2_with fail
      go_meet
      exact⟨HD.o,Fr.refl _ _⟩
     | false=>
      have c5:=HD.o.cells.1 4 _ rfl;have cf:=HD.o.cells.2;simp only[Nat.succ_ne_zero,if_false,Nat.reduceAdd] at c5;go_wp2_with fail
      go_meet
      exact⟨HD.o.put 5 (.bool true) (by decide) (s':=s2.fail) HD.o.kle HD.o.most HD.o.deep (fun v=>rfl),(Fr.refl [r] w3).setCell (.inl (by simp)) _⟩
    case rest=>
     obtain⟨hd4,hf4⟩:=hcut;obtain⟨w5,rfl⟩:=nm (wc)
     replace HY:=lh (HY.o.fr hf4 (by simp;omega))
     have HFM:=lh ((HFR3.o.mono (by simp):Fr [r] w2 w3).trans hf4 (fun x hx=>.inl hx))
     replace HF:=lh (HF.o.trans hf4 (fun x hx=>.inl hx))
     replace HZ:=lh (HZ.o.fr hf4 (by simp;omega))
     replace HD:=lh hd4
     clear hf4 hd4;have HMN:Hid (Mch (fun y=>cF Xpr.cells w w5 (.of 3 [y] []) (.agg #[])) TS (if c=true then s2 else s2.fail) (yC (aA txt) E S s.d (s.q TS)) -> True):=lh (fun _=>trivial);have HPN:Hid ((if c=true then s2 else s2.fail).d=s.d):=lh (by have:=HP2.o;split <;> exact this)
     have HWC:Hid (∀ y:Xpr,cF Xpr.cells w1 w2 y (.agg cs.toArray) -> decide (y.what=6 ∨ y.what=7)=c):=lh (fun y hy=>by
      have h1:=eF (bK hy);rw[HW0.o] at h1;injection h1 with h1;injection h1 with _ h1;rw[<- h1];exact HCC.o)
     clear HMN
     go_wp2_with (first
      | (with_reducible refine uA rfl 117 (.tmp 3) rfl rfl HY.o Tryz.underlying117 rfl HC1.o ?_)
      | (with_reducible refine cC rfl (.tmp 28) rfl Tryz.underlying78 hi hz' cs rfl HCL.o hsz' rD k0 kb ?_))
     have hm5:∀ y:Xpr,cF Xpr.cells w1 w2 y (.agg cs.toArray) -> cF Xpr.cells w1 w5 y (.agg cs.toArray):=fun y hy=>eH hy HFM.o (fun x hx=>by simp at hx;omega) (Nat.le_refl _);have HM5:=lh hm5;have hs5:=HFM.o.size;clear hm5;intro w4 hb4 hf4 hz4;have HSL:Hid (∀ y:Xpr,cF Xpr.cells w1 w5 y (.agg cs.toArray) -> gA w4 (fun g=>w.heap.size+1<=g) (Xpr.of 3 [y] []).cells [.int .i64 3,.slice (some ⟨w5.heap.size,0,none⟩) 1 1,.string { data:=#[] },.bool false,.slice none 0 0,.int .i64 0,.bool false,.bool false,.string { data:=#[] },.int .i64 0,.string { data:=#[] },.slice none 0 0,.slice none 0 0]):=lh (fun y hy=>(wG (what:=3) (op:=[]) (l:=[y]) ((oU hy hb4 hf4 (by simp) (by omega)).mono (fun g hg=>by omega))))
     replace HF:=lh (HF.o.trans hf4);replace HZ:=lh (HZ.o.fr hf4);replace HD:=lh (HD.o.fr hf4)
     have HPC1:Hid ((Tryz.prog.info? 117).map (·.size)=some ([.int .i64 3,.slice (some ⟨w5.heap.size,0,none⟩) 1 1,.string { data:=#[] },.bool false,.slice none 0 0,.int .i64 0,.bool false,.bool false,.string { data:=#[] },.int .i64 0,.string { data:=#[] },.slice none 0 0,.slice none 0 0]:List Value).length):=lh tB;have HPC2:Hid (zx.length=([.int .i64 3,.slice (some ⟨w5.heap.size,0,none⟩) 1 1,.string { data:=#[] },.bool false,.slice none 0 0,.int .i64 0,.bool false,.bool false,.string { data:=#[] },.int .i64 0,.string { data:=#[] },.slice none 0 0,.slice none 0 0]:List Value).length):=lh rfl;have HPO:Hid (∀ u ∈ ([.int .i64 3,.slice (some ⟨w5.heap.size,0,none⟩) 1 1,.string { data:=#[] },.bool false,.slice none 0 0,.int .i64 0,.bool false,.bool false,.string { data:=#[] },.int .i64 0,.string { data:=#[] },.slice none 0 0,.slice none 0 0]:List Value),u.oneCell'=true):=lh one3;clear hb4 hf4 hz4
     go_wp2_with (with_reducible refine iA rfl 117 (.tmp 2) (.tmp 30) rfl [.int .i64 3,.slice (some ⟨w5.heap.size,0,none⟩) 1 1,.string { data:=#[] },.bool false,.slice none 0 0,.int .i64 0,.bool false,.bool false,.string { data:=#[] },.int .i64 0,.string { data:=#[] },.slice none 0 0,.slice none 0 0] rfl rfl HZ.o HPC1.o HPC2.o HPO.o ?_)
     intro w9 hb9 hf9 hz9;have HB9:=lh hb9;have HF9:=lh hf9;clear hb9 hf9 hz9;have hfin:∀ y:Xpr,cF Xpr.cells w1 w5 y (.agg cs.toArray) -> cF Xpr.cells w w9 (.of 3 [y] []) (.agg #[.int .i64 3,.slice (some ⟨w5.heap.size,0,none⟩) 1 1,.string { data:=#[] },.bool false,.slice none 0 0,.int .i64 0,.bool false,.bool false,.string { data:=#[] },.int .i64 0,.string { data:=#[] },.slice none 0 0,.slice none 0 0]):=fun y hy=>⟨_,rfl,((HSL.o y hy).fr HF9.o (fun g hg=>by simp;omega)).mono (fun g hg=>by omega)⟩;have HFIN:=lh hfin;clear hfin;go_wp2_with fail;exact zD rfl rfl HB9.o rfl (HQ.o _ _ ⟨_,_,rfl,HD.o.fr HF9.o (by simp;omega),HPN.o,HF.o.trans HF9.o (fun x hx=>.inr (by simp at hx;omega)),aHy HM.o HWC.o HE.o (fun y hy=>HFIN.o y (HM5.o y hy))⟩)
 | false=>
  have HN1:Hid ((s.q TS).next [33]=false):=lh hn1;rw[hn1,if_neg (by simp)] at HI;clear hn1;go_wp2_with fail;refine HI.o.mono ?_;rintro e w3 ⟨rfl,hd3,hf3⟩;clear HI
  replace HF:=lh (HF.o.trans hf3 (fun x hx=>.inl hx))
  replace HZ:=lh (HZ.o.fr hf3 (by simp;omega))
  replace HD:=lh hd3
  clear hf3 hd3;have HI:=lh (qK HD.o ⟨#[40]⟩);rw[show aA ⟨#[40]⟩=[40] from rfl] at HI
  cases hn2:s.nx TS [40] with
  | true=>
   have hk2:s.k+1<=TS.length:=aG hn2;have HE:=lh (aGl (txt:=aA txt) (E:=E) (S:=S) (d:=s.d) HN1.o hn2);rw[<- DS.q_go] at HE;rw[hn2,if_pos rfl] at HI;clear hn2;go_wp2_with fail;refine HI.o.mono ?_;rintro e w1 ⟨rfl,hd4,hf4⟩;clear HI
   replace HF:=lh (HF.o.trans hf4 (fun x hx=>.inl hx))
   replace HZ:=lh (HZ.o.fr hf4 (by simp;omega))
   replace HD:=lh hd4
   clear hf4 hd4;have HC:=lh (aAh HEK.o HD.o HBD.o hk2 (by rw[bC];show TS.length - (s.k+1) < n;omega) (by rw[bC];show s.d+1+((TS.length - (s.k+1):Nat):Int)<=80000;omega));rw[show s.go.d=s.d from rfl] at HC;go_wp2_with fail;refine HC.o.mono ?_;rintro e w2 ⟨v,s2,rfl,hd2,hp2,hf2,hm2⟩;obtain⟨y0,cs,rfl,hcs0⟩:=kG hm2;have HCL:Hid (cs.length=13):=lh (hcs0.1.trans (kA y0));have HO:=lh hcs0.one;have hc1:(Tryz.prog.info? 117).map (·.size)=some cs.length:=by rw[HCL.o];exact tB
   have hc2:zx.length=cs.length:=by rw[HCL.o];rfl
   have HM:=lh hm2;have HC1:=lh hc1;have HC2:=lh hc2;have HP2:Hid (s2.d=s.d):=lh hp2;have hwh:=eF hcs0;have hzl1:=HZ.o.lt;have hzz:=hf2.size;clear HC hcs0 hm2 hp2 hc1 hc2
   replace HF:=lh (HF.o.trans hf2 (fun x hx=>.inl hx))
   replace HZ:=lh (HZ.o.fr hf2 (by simp;omega))
   replace HD:=lh hd2
   clear hf2 hd2;clear hwh
   go_wp2_with (with_reducible refine iA rfl 117 (.tmp 2) (.tmp 34) rfl cs rfl rfl HZ.o HC1.o HC2.o HO.o ?_)
   intro w9 hb9 hf9 hz9;have HB9:=lh hb9;have HF9:=lh hf9;clear hb9 hf9 hz9;go_wp2_with fail;exact zD rfl rfl HB9.o HCL.o (HQ.o _ _ ⟨_,_,rfl,HD.o.fr HF9.o (by simp;omega),HP2.o,HF.o.trans HF9.o (fun x hx=>.inr (by simp at hx;omega)),tE (f:=fun y=>y) HM.o (by rw[HE.o];cases bD E s.d (s.go.q TS) <;> rfl) (fun y hy=>eH hy HF9.o (fun x hx=>by simp at hx;omega) (by omega)) rfl rfl rfl⟩)
  | false=>
   have HE:=lh (aGm (txt:=aA txt) (E:=E) (S:=S) (d:=s.d) HN1.o hn2);rw[hn2,if_neg (by simp)] at HI;clear hn2;go_wp2_with fail;refine HI.o.mono ?_;rintro e w1 ⟨rfl,hd4,hf4⟩;clear HI
   replace HF:=lh (HF.o.trans hf4 (fun x hx=>.inl hx))
   replace HZ:=lh (HZ.o.fr hf4 (by simp;omega))
   replace HD:=lh hd4
   clear hf4 hd4;have HC:=lh (HSK.o _ _ _ _ _ HD.o HBD.o hk (by rw[bC];omega) (by rw[bC];omega));go_wp2_with fail;refine HC.o.mono ?_;rintro e w2 ⟨v,s2,rfl,hd2,hp2,hf2,hm2⟩;obtain⟨y0,cs,rfl,hcs0⟩:=kG hm2;have HCL:Hid (cs.length=13):=lh (hcs0.1.trans (kA y0));have HO:=lh hcs0.one;have hc1:(Tryz.prog.info? 117).map (·.size)=some cs.length:=by rw[HCL.o];exact tB
   have hc2:zx.length=cs.length:=by rw[HCL.o];rfl
   have HM:=lh hm2;have HC1:=lh hc1;have HC2:=lh hc2;have HP2:Hid (s2.d=s.d):=lh hp2;have hwh:=eF hcs0;have hzl1:=HZ.o.lt;have hzz:=hf2.size;clear HC hcs0 hm2 hp2 hc1 hc2
   replace HF:=lh (HF.o.trans hf2 (fun x hx=>.inl hx))
   replace HZ:=lh (HZ.o.fr hf2 (by simp;omega))
   replace HD:=lh hd2
   clear hf2 hd2;clear hwh
   go_wp2_with (with_reducible refine zC rfl rfl 117 (.tmp 36) rfl rfl rfl rfl (.agg zx.toArray) zx wH sE cs rfl rfl HC1.o HC2.o HO.o ?_)
   intro w3 hy3 hf3 hz3;have HY:=lh hy3;have HFM:Hid (Fr [r] w2 w3):=lh (hf3.mono (by simp))
   replace HF:=lh (HF.o.trans hf3);replace HZ:=lh (HZ.o.fr hf3);replace HD:=lh (HD.o.fr hf3)
   have hwy:w.heap.size < w2.heap.size:=by omega
   obtain⟨p,hp⟩:∃ p,w2.heap.size=p:=⟨_,rfl⟩;rw[hp] at HY hz3 hwy ⊢;clear hy3 hf3;have hob:=Blk.new w3 9 (wL.map Value.string);have hfo:Fr [] w3 (w3.alloc (.cells (wL.map Value.string).toArray 9)):=(Fr.refl [] w3).alloc _;have hzo:(w3.alloc (.cells (wL.map Value.string).toArray 9)).heap.size=w3.heap.size+1:=by simp
   rw[hz3] at hob hzo;rw[show(wL.map Value.string).toArray=#[.string { data:=#[61,61] },.string { data:=#[33,61] },.string { data:=#[60,61] },.string { data:=#[62,61] },.string { data:=#[60] },.string { data:=#[62] }] from rfl] at hfo hob hzo;go_upto_region 12 with fail
   generalize w3.alloc (.cells #[.string { data:=#[61,61] },.string { data:=#[33,61] },.string { data:=#[60,61] },.string { data:=#[62,61] },.string { data:=#[60] },.string { data:=#[62] }] 9)=w4 at *;have HOB:=lh hob
   replace HF:=lh (HF.o.trans hfo);replace HZ:=lh (HZ.o.fr hfo);replace HD:=lh (HD.o.fr hfo);replace HY:=lh (HY.o.fr hfo);replace HFM:=lh (HFM.o.trans hfo)
   have HMC:=lh (tE (Y:=qA (aA txt) E S s.d (s.q TS)) (f:=fun y=>y) (V':=fun y=>cF Xpr.cells w1 w4 y (.agg cs.toArray)) HM.o (by cases qA (aA txt) E S s.d (s.q TS) <;> rfl) (fun y hy=>eH hy HFM.o (fun x hx=>by simp at hx;omega) (Nat.le_refl _)) rfl rfl rfl);clear hob hfo hzo HFM HM;have hzl4:=HZ.o.lt;have hpl4:=HY.o.lt;have hol4:=HOB.o.lt;go_wp2_with fail
   go_loopg [6] 6 (fun j v6 wr=>aGp w4 r gl txt TS s2 j v6 wr)
   case atStart=>exact⟨0,rfl,rfl,HD.o,Fr.refl _ _,fun _ t ht=>absurd ht (Nat.not_lt_zero _)⟩
   case round=>
    obtain⟨j,rfl⟩:=nm (gk);obtain⟨wA,rfl⟩:=nm (wr);obtain⟨i,rfl,hij,hD,hF,hms⟩:=hrel
    replace HD:=lh hD
    have HMS:=lh hms;have HFA:=lh hF
    replace HF:=lh (HF.o.trans hF (fun x hx=>.inl hx));replace HZ:=lh (HZ.o.fr hF (by simp;omega));replace HY:=lh (HY.o.fr hF (by simp;omega));replace HOB:=lh (HOB.o.fr hF (by simp;omega))
    have c5:=HD.o.cells.1 4 _ rfl;simp only[Nat.succ_ne_zero,if_false,Nat.reduceAdd] at c5;clear hD hF hms
    by_cases hi6:i < 6
    ·have hii:(i:Int) < 6:=by omega
     cases hbd:s2.bad with
     | true=>
      rw[hbd] at c5
      have HMT:Hid (Mch (fun y=>cF Xpr.cells w1 w4 y (.agg cs.toArray)) TS s2 (yC (aA txt) E S s.d (s.q TS))):=lh (by
       have h1:=jX HMC.o hbd;obtain⟨y,hy⟩:=kG HMC.o;exact cN (by rw[HE.o,h1]) hbd hy)
      clear hbd HE
      go_wp2_with (first
       | (with_reducible refine uA rfl 117 (.tmp 4) rfl rfl HY.o Tryz.underlying117 rfl HC1.o ?_)
       | (with_reducible refine iA rfl 117 (.tmp 2) (.tmp 66) rfl cs rfl rfl HZ.o HC1.o HC2.o HO.o ?_))
      intro w9 hb9 hf9 hz9;have HB9:=lh hb9;have HF9:=lh hf9;clear hb9 hf9 hz9;go_wp2_with fail;exact zD rfl rfl HB9.o HCL.o (HQ.o _ _ ⟨_,_,rfl,HD.o.fr HF9.o (by simp;omega),HP2.o,HF.o.trans HF9.o (fun x hx=>.inr (by simp at hx;omega)),tE (f:=fun y=>y) HMT.o (by cases yC (aA txt) E S s.d (s.q TS) <;> rfl) (fun y hy=>eH (eH hy HFA.o (fun x hx=>by simp at hx;omega) (Nat.le_refl _)) HF9.o (fun x hx=>by simp at hx;omega) (by omega)) rfl rfl rfl⟩)
     | false=>
      rw[hbd] at c5;have HBD2:=lh hbd;obtain⟨op,hop⟩:∃ op,wL.getD i ByteArray.empty=op:=⟨_,rfl⟩
      have hoc:wA.cell? ⟨p+1,i,none⟩=some (.string op):=HOB.o.at_ (by
       rw[List.getElem?_map,<- hop,List.getD_eq_getElem?_getD,List.getElem?_eq_getElem (show i < wL.length from hi6)]
       rfl)
      have hoc':wA.cell? ⟨p+1,0+i,none⟩=some (.string op):=by rw[Nat.zero_add];exact hoc
      have HI:=lh (qK HD.o op);have HOP:=lh hop;clear hbd hop
      cases hnx:s2.nx TS (aA op) with
      | true=>
       obtain⟨y,hX,hk2,hvy⟩:=mU HMC.o HBD2.o;have hk3:s2.k+1<=TS.length:=aG hnx;have hmem:=aGo hi6;rw[HOP.o] at hmem;have hhit:=aHz (q:=s2.q TS) hnx hmem
       have HE2:Hid (yC (aA txt) E S s.d (s.q TS)=(qA (aA txt) E S s.d (s2.go.q TS)).map fun r=>(.of 4 [y,r.1] (aA op),r.2)):=lh (by
        rw[HE.o,hX]
        dsimp only
        rw[if_pos hhit.1,hhit.2,DS.q_go]
        cases qA (aA txt) E S s.d (s2.q TS).go <;> rfl)
       have hle:TS.length - s2.k<=TS.length - s.k:=by
        have h1:=(fH HEO.o HSO.o s.d _ _ _ hX).length_le;rw[bC,bC] at h1;exact h1
       have HVY:=lh hvy;rw[hnx,if_pos rfl] at HI;clear hnx hX hvy hmem hhit HE HMC;go_wp2_with fail;refine HI.o.mono ?_;rintro e w5 ⟨rfl,hd5,hf5⟩;have HOC:=lh (HOB.o.fr hf5 (by simp;omega));have HFB:=lh (HFA.o.trans hf5 (fun x hx=>.inl hx));have hy5:=HY.o.fr hf5 (by simp;omega)
       replace HY:=lh hy5
       have hc5:w5.cell? ⟨p+1,i,none⟩=some (.string op):=HOC.o.at_ (by
        rw[List.getElem?_map,<- HOP.o,List.getD_eq_getElem?_getD,List.getElem?_eq_getElem (show i < wL.length from hi6)]
        rfl)
       replace HF:=lh (HF.o.trans hf5 (fun x hx=>.inl hx))
       replace HZ:=lh (HZ.o.fr hf5 (by simp;omega))
       replace HD:=lh hd5
       clear hf5 hd5;clear HI hoc hoc' c5 hy5 HOB HFA;go_upto_region 16 with fail
       have HC:=lh (HSK.o _ _ _ _ _ (HD.o.fr ((Fr.refl [] w5).drew)) HBD2.o hk3 (by rw[bC];show TS.length - (s2.k+1) < n+1;omega) (by rw[bC];show s2.d+((TS.length - (s2.k+1):Nat):Int)<=80000;have:=HP2.o;omega));rw[show s2.go.d=s.d from HP2.o] at HC;refine mA (fun W=>W.cell? ⟨p+1,i,none⟩=some (.string op)/\Blk W p 117 cs) [0,1,2,3,4,5] (by kernel_rfl) ?_;refine tks [0,1,2,3] ?_
       iterate 4 (refine tk rfl rfl ⟨hc5,HY.o⟩ rfl (fun _ hW=>by(obtain⟨q0,q1⟩:=hW;go_simp) <;> with_reducible rfl) ?_;simp only[nrm])
       refine tke ?_;refine tv 4 (.agg cs.toArray) rfl rfl ⟨hc5,HY.o⟩ (.inl ⟨rfl,fun W hW=>qT rfl rfl hW.2 Tryz.underlying117 rfl HC1.o⟩) ?_;simp only[nrm];refine tks [5] ?_;refine tk rfl rfl ⟨hc5,HY.o⟩ rfl (fun _ hW=>by(obtain⟨q0,q1⟩:=hW;go_simp) <;> with_reducible rfl) ?_;simp only[nrm];refine tke ?_;refine sp 6 rfl rfl rfl fun K hK=>?_;have hdr:Fr [] w5 w5.drew:=(Fr.refl [] w5).drew;refine zA (l:=[.tmp 62]) rfl [.pointer (some ⟨r,0,none⟩)] rfl (fun W=>by kernel_rfl) (HC.o.mono ?_);rintro e w6 ⟨v6,s6,rfl,hd6,hp6,hf6',hm6⟩;obtain⟨z0,ds,rfl,hds0⟩:=kG hm6;have hf6:Fr [r] w5 w6:=(hdr.mono (by simp):Fr [r] w5 w5.drew).trans hf6' (fun x hx=>.inl hx);have HDL:Hid (ds.length=13):=lh (hds0.1.trans (kA z0));have hy6:=HY.o.fr hf6 (by simp;omega)
       replace HY:=lh hy6
       replace HOC:=lh (HOC.o.fr hf6 (by simp;omega))
       have hc6:w6.cell? ⟨p+1,i,none⟩=some (.string op):=HOC.o.at_ (by
        rw[List.getElem?_map,<- HOP.o,List.getD_eq_getElem?_getD,List.getElem?_eq_getElem (show i < wL.length from hi6)]
        rfl)
       have HM6:=lh hm6;have HP6:Hid (s6.d=s.d):=lh (hp6.trans HP2.o)
       replace HFB:=lh (HFB.o.trans hf6 (fun x hx=>.inl hx))
       have hw56:=hf6.size;have hwz5:=HZ.o.lt
       replace HF:=lh (HF.o.trans hf6 (fun x hx=>.inl hx))
       replace HZ:=lh (HZ.o.fr hf6 (by simp;omega))
       replace HD:=lh hd6
       clear hf6 hd6;refine⟨_,rfl,hK _ _ (fun _=>⟨hc6,hy6⟩) ?_⟩;simp only[nrm];clear hK hdr hf6' hp6 hm6 hds0 HC hc5;refine sp 7 rfl rfl rfl fun K hK=>?_;refine tG (v:=.slice (some ⟨w6.heap.size,0,none⟩) 2 2) (w':=w6.alloc (.cells (cs ++ ds).toArray 117)) (by simp[execOp,Act.eval,aEP HCL.o HDL.o,Result.andThen]) (hK _ _ (fun _=>⟨dA ((Fr.refl [] w6).alloc _) hc6,hy6.alloc _⟩) ?_);simp only[nrm];clear hK;have hbx:=Blk.new w6 117 (cs ++ ds);have hfx:Fr [] w6 (w6.alloc (.cells (cs ++ ds).toArray 117)):=(Fr.refl [] w6).alloc _;generalize w6.alloc (.cells (cs ++ ds).toArray 117)=w7 at *;have hsx:S8 (aA op)=.string op:=rfl;have hzl6:=HZ.o.lt
       have hrw:∀ y2:Xpr,cF Xpr.cells w5.drew w6 y2 (.agg ds.toArray) -> gA w7 (fun g=>w.heap.size+1<=g) (Xpr.of 4 [y,y2] (aA op)).cells [.int .i64 4,.slice (some ⟨w6.heap.size,0,none⟩) 2 2,.string op,.bool false,.slice none 0 0,.int .i64 0,.bool false,.bool false,.string { data:=#[] },.int .i64 0,.string { data:=#[] },.slice none 0 0,.slice none 0 0]:=fun y2 hy2=>by
        have h1:=bK (eH HVY.o HFB.o (fun x hx=>by simp at hx;omega) (Nat.le_refl w1.heap.size));have h2:=bK hy2;have h3:=wG (what:=4) (op:=aA op) (l:=[y,y2]) (CAt.two (N:=fun g=>w.heap.size+1<=g) hbx ((h1.fr hfx).mono (fun g hg=>by omega)) ((h2.fr hfx).mono (fun g hg=>by have h9:w5.heap.size<=g:=hg;omega)) (kA y) (kA y2) (by omega));rw[hsx] at h3;exact h3
       have HRW:=lh hrw;have hc7:=dA hfx hc6;have hy7:=hy6.fr hfx
       replace HF:=lh (HF.o.trans hfx);replace HZ:=lh (HZ.o.fr hfx);replace HD:=lh (HD.o.fr hfx)
       have HSX:Hid ((Tryz.prog.info? 117).map (·.size)=some ([.int .i64 4,.slice (some ⟨w6.heap.size,0,none⟩) 2 2,.string op,.bool false,.slice none 0 0,.int .i64 0,.bool false,.bool false,.string { data:=#[] },.int .i64 0,.string { data:=#[] },.slice none 0 0,.slice none 0 0]:List Value).length):=lh tB;clear hbx hfx hrw hsx hc6 hy6;refine sp 8 rfl rfl rfl fun K hK=>?_;refine tA (v:=?aq1_8) ?yq1_8 (hK _ _ (fun _=>⟨hc7,hy7⟩) ?_)
       case yq1_8=>go_simp <;> with_reducible rfl
       simp only[nrm];refine iC (j:=9) none rfl rfl (by kernel_rfl) rfl fun K hK=>?_;refine yI 117 (.tmp 2) (.tmp 65) rfl [.int .i64 4,.slice (some ⟨w6.heap.size,0,none⟩) 2 2,.string op,.bool false,.slice none 0 0,.int .i64 0,.bool false,.bool false,.string { data:=#[] },.int .i64 0,.string { data:=#[] },.slice none 0 0,.slice none 0 0] rfl rfl HZ.o HSX.o rfl one3 fun w9 hb9 hf9 hz9=>hK _ _ (fun h=>absurd h (by decide +kernel)) ?_;simp only[Act.put];clear hK;refine wd ?_ _;have HB9:=lh hb9;have HF9:=lh hf9;clear hb9 hf9 hz9 hc7 hy7;go_wp2_with fail;exact zD rfl rfl HB9.o rfl (HQ.o _ _ ⟨_,_,rfl,HD.o.fr HF9.o (by simp;omega),HP6.o,HF.o.trans HF9.o (fun x hx=>.inr (by simp at hx;omega)),tE (f:=fun y2=>Xpr.of 4 [y,y2] (aA op)) HM6.o HE2.o (fun y2 hy2=>⟨_,rfl,((HRW.o y2 hy2).fr HF9.o (fun g hg=>by simp;omega)).mono (fun g hg=>by omega)⟩) rfl rfl rfl⟩)
      | false=>
       rw[hnx,if_neg (by simp)] at HI;have HNX:=lh hnx;clear hnx;go_wp2_with fail;refine HI.o.mono ?_;rintro e w5 ⟨rfl,hd5,hf5⟩;have hwi:=wi i (by omega)
       go_wp2_with fail
       go_roundg (j - 1)
       case measure=>omega
       case rel=>exact⟨i+1,by rw[show((i+1:Nat):Int)=(i:Int)+1 by omega],by omega,hd5,HFA.o.trans hf5 (fun x hx=>.inl hx),fun h t ht=>by
        by_cases he:t=i
        ·subst he;rw[HOP.o];exact HNX.o
        ·exact HMS.o h t (by omega)⟩
    ·have hii:¬ (i:Int) < 6:=by omega
     have HMT:Hid (Mch (fun y=>cF Xpr.cells w1 w4 y (.agg cs.toArray)) TS s2 (yC (aA txt) E S s.d (s.q TS))):=lh (by
      cases hbd:s2.bad with
      | true=>
       have h1:=jX HMC.o hbd;obtain⟨y,hy⟩:=kG HMC.o;exact cN (by rw[HE.o,h1]) hbd hy
      | false=>
       obtain⟨y,hX,hk2,hvy⟩:=mU HMC.o hbd
       exact eI (by
        rw[HE.o,hX]
        dsimp only
        rw[if_neg (aGn (fun j hj=>HMS.o hbd j (by omega)))]) hbd hk2 rfl hvy)
     clear HE
     go_wp2_with (first
      | (with_reducible refine uA rfl 117 (.tmp 4) rfl rfl HY.o Tryz.underlying117 rfl HC1.o ?_)
      | (with_reducible refine iA rfl 117 (.tmp 2) (.tmp 66) rfl cs rfl rfl HZ.o HC1.o HC2.o HO.o ?_))
     intro w9 hb9 hf9 hz9;have HB9:=lh hb9;have HF9:=lh hf9;clear hb9 hf9 hz9;go_wp2_with fail;exact zD rfl rfl HB9.o HCL.o (HQ.o _ _ ⟨_,_,rfl,HD.o.fr HF9.o (by simp;omega),HP2.o,HF.o.trans HF9.o (fun x hx=>.inr (by simp at hx;omega)),tE (f:=fun y=>y) HMT.o (by cases yC (aA txt) E S s.d (s.q TS) <;> rfl) (fun y hy=>eH (eH hy HFA.o (fun x hx=>by simp at hx;omega) (Nat.le_refl _)) HF9.o (fun x hx=>by simp at hx;omega) (by omega)) rfl rfl rfl⟩)
end
end
end Go.Proofs.YtbggkiebfflcdaaGreatDoor
