/-
  Joined by join.py: Gh Gi Gj Gk Gl
-/
import Derived.Maps.OwnSet
import Derived.StringKeys
import Derived.Carry
import Derived.Test.YtbggkiebfflcdaaGreatDoorJpp10
set_option maxRecDepth 100000
set_option maxHeartbeats 32000000
namespace Go.Proofs.YtbggkiebfflcdaaGreatDoor
section
open Go.RowKit Go.Shelf
theorem cD:(Tryz.prog.info? 109).map (·.size)=some 13:=by kernel_rfl
theorem iH:(Tryz.prog.info? 109).map (·.zero)=some (some (.agg zx.toArray)):=by kernel_rfl
theorem sE:(Value.agg zx.toArray).cells=zx.toArray:=rfl
theorem bH {w:World} {fn:Func} {R:Ending -> World -> Prop} {tmps:Array Value} {k:Tmp} {g:Nat} {cs:List Value} (hr:fn.results=#[.cell k 109]) (ha:tmps.getD k undef=.pointer (some ⟨g,0,none⟩)) (hb:Blk w g 109 cs) (hl:cs.length=13) (h:R (.returned (.agg cs.toArray)) w):bodyPost Tryz.prog fn R .ret ⟨tmps,[]⟩ w:=
 xD hr ha hb Tryz.underlying109 rfl (by rw[hl];exact cD) h
theorem wG {w:World} {N:Nat -> Prop} {what:Int} {l:List Xpr} {op:List UInt8} {v:Value} (h:CAt w N (.rows 13 (xF l)) v):gA w N (Xpr.of what l op).cells [.int .i64 what,v,S8 op,.bool false,.slice none 0 0,.int .i64 0,.bool false,.bool false,.string { data:=#[] },.int .i64 0,.string { data:=#[] },.slice none 0 0,.slice none 0 0]:=
 .tl rfl (.cons h (.tl rfl (.tl rfl (.cons (CAt.nil w N (by decide) none 0) (.tl rfl (.tl rfl (.tl rfl (.tl rfl (.tl rfl (.tl rfl (.cons (CAt.nil w N (by decide) none 0) (.cons (CAt.nil w N (by decide) none 0) (.nil w N)))))))))))))
theorem uW {what:Int} {l:List Xpr} (h:l.length ≠ 1):Xpr.many what l=.of what l []:=by
 unfold Xpr.many
 split
 ·exact absurd rfl h
 ·rfl
theorem xY {w:World} {N:Nat -> Prop} {l:List Xpr} {A:Option Addr} {n c:Nat} (h:CAt w N (.rows 13 (l.map Xpr.cells)) (.slice A n c)) (what:Int):Calls Tryz.prog 197 #[.int .i64 what,.slice A n c] w fun e w'=>∃ cs,e=.returned (.agg cs.toArray)/\gA w' (fun g=>N g ∨ w.heap.size<=g) (Xpr.many what l).cells cs/\Fr [] w w':=by
 refine bA fun R HQ=>?_;obtain⟨A',c',g,off,hv,hA,hrow⟩:=h.row;injection hv with e1 e2 e3;subst e1 e2 e3;have hll:(l.map Xpr.cells).length=l.length:=by simp
 rw[hll] at hA h ⊢;obtain⟨ln,hln⟩:∃ ln,l.length=ln:=⟨_,rfl⟩;rw[hln] at hA h ⊢;have HH:=lh h
 by_cases h1:ln=1
 ·obtain⟨e,rfl⟩:∃ e,l=[e]:=by
   match l,hln with
   | [e],_=>exact⟨e,rfl⟩
   | [],h9=>simp at h9;omega
   | a :: b :: l,h9=>simp at h9;omega
  subst h1;obtain⟨rfl,hNg⟩:=hA (by omega);obtain⟨_,cs,hcs,hcell⟩:=hrow 0 e.cells rfl;have hcl:cs.length=13:=hcs.1.trans (kA e);have hra:w.rangeAt g off cs:=fun j u hj=>by have:=hcell j u hj;simpa using this
  have hgl:g < w.heap.size:=by
   match cs,hcl,hra with
   | u :: us,_,hra=>exact World.block_lt_of_cell? w _ (hra 0 u rfl)
  have HRA:=lh hra;have HCL:=lh hcl;have HRW:=lh hcs;have hc1:(Tryz.prog.info? 109).map (·.size)=some cs.length:=by rw[hcl];exact cD
  have hc2:zx.length=cs.length:=by rw[hcl];rfl
  have HC1:=lh hc1;have HC2:=lh hc2;clear hra hcl hcs hcell hrow h hln hll hc1 hc2 hA
  go_enter Tryz.func197,Tryz.ntmps197
  go_wp2_with (with_reducible refine vD rfl 109 rfl (.agg zx.toArray) zx iH sE ?_)
  intro w0 hb0 hf0 hz0;have HB0:=lh hb0;have HF0:=lh hf0
  have hra0:w0.rangeAt g off cs:=fun j u hj=>by
   have:=HRA.o j u hj;rw[hf0.cell (World.block_lt_of_cell? w _ this) (by simp)];exact this
  have HRA0:=lh hra0;clear hb0 hf0 hra0 hz0
  go_wp2_with (first
   | (with_reducible refine wpList_load_mid rfl 109 (.tmp 9) rfl g off rfl cs _ HRA0.o Tryz.underlying109 rfl HC1.o ?_)
   | (with_reducible refine iA rfl 109 (.tmp 4) (.tmp 10) rfl cs rfl rfl HB0.o HC1.o HC2.o HRW.o.one ?_))
  intro w9 hb9 hf9 hz9;have HB9:=lh hb9;have HF9:=lh (HF0.o.trans hf9 (fun x hx=>.inr (by simp at hx;omega)));have HRW9:=lh ((HRW.o.bound.mono (M:=fun q=>(N q ∨ w.heap.size<=q)/\q < w.heap.size) (fun q hq=>⟨.inl hq.1,hq.2⟩)).fr (HF0.o));have HRW10:=lh ((HRW9.o.fr hf9 (fun q hq=>by simp;omega)).mono (M:=fun q=>N q ∨ w.heap.size<=q) (fun q hq=>hq.1));clear hb9 hf9 hz9;go_wp2_with fail;exact bH rfl rfl HB9.o HCL.o (HQ.o _ _ ⟨cs,rfl,HRW10.o,HF9.o⟩)
 ·have hm:Xpr.many what l=.of what l []:=uW (by omega);rw[hm] at HQ;have d0:((ln:Int) == 1)=false:=by rw[beq_eq_false_iff_ne];omega
  clear hA hrow hll hln h hm
  go_enter Tryz.func197,Tryz.ntmps197
  go_wp2_with (with_reducible refine vD rfl 109 rfl (.agg zx.toArray) zx iH sE ?_)
  intro w0 hb0 hf0 hz0;have HB0:=lh hb0;have HF0:=lh hf0;clear hb0 hf0 hz0;have HRW:Hid (∀ W,Fr [] w W -> gA W N (Xpr.of what l []).cells [.int .i64 what,.slice A ln c,.string { data:=#[] },.bool false,.slice none 0 0,.int .i64 0,.bool false,.bool false,.string { data:=#[] },.int .i64 0,.string { data:=#[] },.slice none 0 0,.slice none 0 0]):=lh fun W hW=>wG (op:=[]) (by rw[oC];exact HH.o.fr hW);have HO:=lh (HRW.o w (Fr.refl _ _)).one;have HC1:Hid ((Tryz.prog.info? 109).map (·.size)=some ([.int .i64 what,.slice A ln c,.string { data:=#[] },.bool false,.slice none 0 0,.int .i64 0,.bool false,.bool false,.string { data:=#[] },.int .i64 0,.string { data:=#[] },.slice none 0 0,.slice none 0 0]:List Value).length):=lh cD;have HC2:Hid (zx.length=([.int .i64 what,.slice A ln c,.string { data:=#[] },.bool false,.slice none 0 0,.int .i64 0,.bool false,.bool false,.string { data:=#[] },.int .i64 0,.string { data:=#[] },.slice none 0 0,.slice none 0 0]:List Value).length):=lh rfl
  go_wp2_with (with_reducible refine iA rfl 109 (.tmp 4) (.tmp 13) rfl [.int .i64 what,.slice A ln c,.string { data:=#[] },.bool false,.slice none 0 0,.int .i64 0,.bool false,.bool false,.string { data:=#[] },.int .i64 0,.string { data:=#[] },.slice none 0 0,.slice none 0 0] rfl rfl HB0.o HC1.o HC2.o HO.o ?_)
  intro w9 hb9 hf9 hz9;have hF9:Fr [] w w9:=HF0.o.trans hf9 (fun x hx=>.inr (by simp at hx;omega));have HB9:=lh hb9;have HF9:=lh hF9;clear hb9 hf9 hz9 hF9;go_wp2_with fail;exact bH rfl rfl HB9.o rfl (HQ.o _ _ ⟨_,rfl,(HRW.o w9 HF9.o).mono (fun g hg=>.inl hg),HF9.o⟩)
theorem aAC {w:World} {r gl n:Nat} {txt:ByteArray} {d:Int} {s:QS} {item:Rd Xpr} (hon:item.on)
  (hit:∀ (w1:World) (s1:QS),wD w1 r gl txt d s1 -> s1.l.length<=n -> Calls Tryz.prog 199 #[.pointer (some ⟨r,0,none⟩)] w1 (rJ (cF Xpr.cells w1) w1 r gl txt d (item s1)))
  (h:wD w r gl txt d s) (hn:s.l.length<=n):Calls Tryz.prog 167 #[.pointer (some ⟨r,0,none⟩)] w (rJ (cF Xpr.cells w) w r gl txt d ((eC [124,124] item s).map fun r=>(Xpr.many 1 r.1,r.2))):=by
 refine bA fun R HQ=>?_;have hrlt:=h.lt;have HH:=lh h;have HIT:=lh hit;clear h hit
 go_enter Tryz.func167,Tryz.ntmps167
 go_wp2_with (with_reducible refine vD rfl 109 rfl (.agg zx.toArray) zx iH sE ?_)
 intro w0 hb0 hf0 hz0;have HR0:=lh (HH.o.fr hf0);have HZ0:=lh hb0;have HF0:Hid (Fr [r] w w0):=lh (hf0.mono (by simp));have HC:=lh (aR (f:=199) (fun w=>by kernel_rfl) hon HIT.o HR0.o hn ⟨#[124,124]⟩);rw[show aA ⟨#[124,124]⟩=[124,124] from rfl] at HC;clear hb0 hf0 HH;go_wp2_with fail
 cases hX:eC [124,124] item s with
 | none=>
  rw[hX] at HC HQ;refine HC.o.mono ?_;rintro e w1 ⟨rfl,hf1⟩;exact⟨rfl,HQ.o _ _ (bB rfl (HF0.o.trans hf1 (fun x hx=>.inl hx)))⟩
 | some y=>
  obtain⟨l,s1⟩:=y;rw[hX] at HC HQ;clear hX;refine HC.o.mono ?_;rintro e w1 ⟨_,rfl,hcv,hr1,hf1⟩;obtain⟨A,c,rfl,-⟩:=hcv.slice;have HR1:=lh hr1;have HF1:=lh (HF0.o.trans hf1 (fun x hx=>.inl hx));have HZ1:=lh (HZ0.o.fr hf1 (by simp;omega));have hca:=hcv.mono (M:=fun g=>w.heap.size < g) (fun g hg=>by omega);have HM:=lh (xY hca 1);have hll:(l.map Xpr.cells).length=l.length:=by simp
  rw[hll] at HM ⊢;have HCA:=lh hca;clear hcv hr1 hf1 HC hca hll;generalize l.length=ln at *;go_wp2_with fail;refine HM.o.mono ?_;rintro e w2 ⟨cs,rfl,hrw,hf2⟩;have HR2:=lh (HR1.o.fr hf2);have HF2:=lh (HF1.o.trans hf2);have HZ2:=lh (HZ1.o.fr hf2);have HRW:=lh (hrw.mono (M:=fun g=>w.heap.size < g) (fun g hg=>by have:=HZ1.o.lt;omega));have HCL:Hid (cs.length=13):=lh (hrw.1.trans (kA _));have HE:Hid (((some (l,s1):Option (List Xpr × QS)).map fun r=>(Xpr.many 1 r.1,r.2))=some (Xpr.many 1 l,s1)):=lh rfl;clear hf2 hrw HM HR1 HF1 HZ1;have hc1_:(Tryz.prog.info? 109).map (·.size)=some cs.length:=by rw[HCL.o];exact cD
  have hc2_:zx.length=cs.length:=by rw[HCL.o];rfl
  have ho1_:=HRW.o.one;have HPC1:=lh hc1_;have HPC2:=lh hc2_;have HPO:=lh ho1_;clear hc1_ hc2_ ho1_
  go_wp2_with (with_reducible refine iA rfl 109 (.tmp 2) (.tmp 7) rfl cs rfl rfl HZ2.o HPC1.o HPC2.o HPO.o ?_)
  intro w9 hb9 hf9 hz9;have HB9:=lh hb9;have HF9:=lh hf9;clear hb9 hf9 hz9;go_wp2_with fail;exact bH rfl rfl HB9.o HCL.o (HQ.o _ _ (aB HE.o ⟨_,rfl,(HRW.o.fr HF9.o (fun g hg=>by simp;omega)).mono (fun g hg=>by omega)⟩ (HR2.o.fr HF9.o (by simp;omega)) (HF2.o.trans HF9.o (fun x hx=>.inr (by simp at hx;omega)))))
theorem aDM {w:World} {r gl n:Nat} {txt:ByteArray} {d:Int} {s:QS} {item:Rd Xpr} (hon:item.on)
  (hit:∀ (w1:World) (s1:QS),wD w1 r gl txt d s1 -> s1.l.length<=n -> Calls Tryz.prog 222 #[.pointer (some ⟨r,0,none⟩)] w1 (rJ (cF Xpr.cells w1) w1 r gl txt d (item s1)))
  (h:wD w r gl txt d s) (hn:s.l.length<=n):Calls Tryz.prog 199 #[.pointer (some ⟨r,0,none⟩)] w (rJ (cF Xpr.cells w) w r gl txt d ((eC [38,38] item s).map fun r=>(Xpr.many 2 r.1,r.2))):=by
 refine bA fun R HQ=>?_;have hrlt:=h.lt;have HH:=lh h;have HIT:=lh hit;clear h hit
 go_enter Tryz.func199,Tryz.ntmps199
 go_wp2_with (with_reducible refine vD rfl 109 rfl (.agg zx.toArray) zx iH sE ?_)
 intro w0 hb0 hf0 hz0;have HR0:=lh (HH.o.fr hf0);have HZ0:=lh hb0;have HF0:Hid (Fr [r] w w0):=lh (hf0.mono (by simp));have HC:=lh (aR (f:=222) (fun w=>by kernel_rfl) hon HIT.o HR0.o hn ⟨#[38,38]⟩);rw[show aA ⟨#[38,38]⟩=[38,38] from rfl] at HC;clear hb0 hf0 HH;go_wp2_with fail
 cases hX:eC [38,38] item s with
 | none=>
  rw[hX] at HC HQ;refine HC.o.mono ?_;rintro e w1 ⟨rfl,hf1⟩;exact⟨rfl,HQ.o _ _ (bB rfl (HF0.o.trans hf1 (fun x hx=>.inl hx)))⟩
 | some y=>
  obtain⟨l,s1⟩:=y;rw[hX] at HC HQ;clear hX;refine HC.o.mono ?_;rintro e w1 ⟨_,rfl,hcv,hr1,hf1⟩;obtain⟨A,c,rfl,-⟩:=hcv.slice;have HR1:=lh hr1;have HF1:=lh (HF0.o.trans hf1 (fun x hx=>.inl hx));have HZ1:=lh (HZ0.o.fr hf1 (by simp;omega));have hca:=hcv.mono (M:=fun g=>w.heap.size < g) (fun g hg=>by omega);have HM:=lh (xY hca 2);have hll:(l.map Xpr.cells).length=l.length:=by simp
  rw[hll] at HM ⊢;have HCA:=lh hca;clear hcv hr1 hf1 HC hca hll;generalize l.length=ln at *;go_wp2_with fail;refine HM.o.mono ?_;rintro e w2 ⟨cs,rfl,hrw,hf2⟩;have HR2:=lh (HR1.o.fr hf2);have HF2:=lh (HF1.o.trans hf2);have HZ2:=lh (HZ1.o.fr hf2);have HRW:=lh (hrw.mono (M:=fun g=>w.heap.size < g) (fun g hg=>by have:=HZ1.o.lt;omega));have HCL:Hid (cs.length=13):=lh (hrw.1.trans (kA _));have HE:Hid (((some (l,s1):Option (List Xpr × QS)).map fun r=>(Xpr.many 2 r.1,r.2))=some (Xpr.many 2 l,s1)):=lh rfl;clear hf2 hrw HM HR1 HF1 HZ1;have hc1_:(Tryz.prog.info? 109).map (·.size)=some cs.length:=by rw[HCL.o];exact cD
  have hc2_:zx.length=cs.length:=by rw[HCL.o];rfl
  have ho1_:=HRW.o.one;have HPC1:=lh hc1_;have HPC2:=lh hc2_;have HPO:=lh ho1_;clear hc1_ hc2_ ho1_
  go_wp2_with (with_reducible refine iA rfl 109 (.tmp 2) (.tmp 7) rfl cs rfl rfl HZ2.o HPC1.o HPC2.o HPO.o ?_)
  intro w9 hb9 hf9 hz9;have HB9:=lh hb9;have HF9:=lh hf9;clear hb9 hf9 hz9;go_wp2_with fail;exact bH rfl rfl HB9.o HCL.o (HQ.o _ _ (aB HE.o ⟨_,rfl,(HRW.o.fr HF9.o (fun g hg=>by simp;omega)).mono (fun g hg=>by omega)⟩ (HR2.o.fr HF9.o (by simp;omega)) (HF2.o.trans HF9.o (fun x hx=>.inr (by simp at hx;omega)))))
def aDN (p lo:Nat) (w:World) (e:Xpr):Prop:=∃ cs,Blk w p 109 cs/\gA w (fun g=>lo<=g) e.cells cs
theorem aDN.fr {p lo r:Nat} {w w':World} {e:Xpr} (h:aDN p lo w e) (hf:Fr [r] w w') (hp:p ≠ r) (hr:r < lo):aDN p lo w' e:=by
 obtain⟨cs,h1,h2⟩:=h;exact⟨cs,h1.fr hf (by simpa using hp),h2.fr hf (fun g hg=>by simp;omega)⟩
section
variable {w : World} {r gl n lo : Nat} {txt : ByteArray} {d : Int} {s : QS} {E S : Int -> Rd Xpr}
theorem aDO (hE:EK 167 txt E n) {p1 p3:Nat} {tb:TypeId} (h:wD w r gl txt d s) (hn:s.l.length < n) (hd:d+s.l.length<=80000) (hb1:Blk w p1 tb [.pointer (some ⟨r,0,none⟩)])
  {old:List Value} (hb3:Blk w p3 109 old) (hol:old.length=13) (hlo:lo<=w.heap.size) (hp:r < p3) (hpl:p3 < lo):
  Calls Tryz.prog 246 #[.pointer (some ⟨p1,0,none⟩),.pointer (some ⟨p3,0,none⟩)] w (aAB (aDN p3 lo) w r gl txt d [p3] (E d s)):=by
 refine bA fun R HQ=>?_;have b0:=hb1.at_ (i:=0) rfl;have HC:=lh (hE w r gl d s h hn hd);have HB3:=lh hb3;have HOL:=lh hol;clear hb1 hb3 h hE hol
 go_enter Tryz.func246,Tryz.ntmps246
 go_wp2_with fail
 cases hX:E d s with
 | none=>
  have HX:=lh hX;rw[hX] at HC;refine HC.o.mono ?_;rintro e w2 ⟨rfl,hf⟩;exact⟨rfl,HQ.o _ _ (pN HX.o (hf.mono (fun x hx=>.inl (by simp at hx;simp[hx]))))⟩
 | some y=>
  obtain⟨y,s'⟩:=y;have HX:=lh hX;rw[hX] at HC;clear hX;refine HC.o.mono ?_;rintro e w2 ⟨_,rfl,⟨cs,rfl,hcs⟩,hr2,hf2⟩;have HR2:=lh hr2;have HF2:=lh hf2;have HCS:=lh hcs;have hcl:cs.length=13:=hcs.1.trans (kA y);have HB2:=lh (HB3.o.fr hf2 (by simp;omega));have hz2:=hf2.size;have hc1:(Tryz.prog.info? 109).map (·.size)=some cs.length:=by rw[hcl];exact cD
  have hc2:old.length=cs.length:=by rw[hcl,HOL.o]
  have HC1:=lh hc1;have HC2:=lh hc2;have HO:=lh hcs.one;clear hr2 hf2 hcs HC HB3 b0 hcl hc1 hc2 HOL
  go_wp2_with (with_reducible refine iA rfl 109 (.tmp 1) (.tmp 3) rfl cs rfl rfl HB2.o HC1.o HC2.o HO.o ?_)
  intro w3 hb3 hf3 hz3;have HB3:=lh hb3;have HF3:=lh hf3;clear hb3 hf3 hz3;go_wp2_with fail
  go_end0
  exact HQ.o _ _ (yK HX.o ⟨cs,HB3.o,(HCS.o.fr HF3.o (fun g hg=>by simp;omega)).mono (fun g hg=>by omega)⟩ (HR2.o.fr HF3.o (by simpa using hp)) ((HF2.o.mono (by simp)).trans HF3.o (fun x hx=>.inl (by simp at hx;simp[hx]))))
theorem nT (hE:EK 167 txt E n) (h:wD w r gl txt d s) (hn:s.l.length < n) (hd:d+1+s.l.length<=80000):Calls Tryz.prog 234 #[.pointer (some ⟨r,0,none⟩)] w (rJ (cF Xpr.cells w) w r gl txt d (bD E d s)):=by
 refine bA fun R HQ=>?_;have hrlt:=h.lt;have hdp:=h.deep;have HH:=lh h;have HEK:=lh hE;clear h hE
 go_enter Tryz.func234,Tryz.ntmps234
 go_wp2_with (with_reducible refine vD rfl 109 rfl (.agg zx.toArray) zx iH sE ?_)
 intro w0 hb0 hf0 hz0;have hb1:Blk w0 w.heap.size 60 [.pointer (some ⟨r,0,none⟩)]:=(Blk.new w 60 [.pointer (some ⟨r,0,none⟩)]).fr hf0;have hf1:Fr [] w w0:=((Fr.refl [] w).alloc _).trans hf0;have c1:=hb1.at_ (i:=0) rfl;have HB1:=lh hb1;have HZ1:=lh hb0;have HF1:=lh hf1;have HR1:=lh (HH.o.fr hf1);have HZS:=lh hz0;clear hb0 hf0 hz0 hb1 hf1;go_wp2_with fail
 have HW:=lh (xO (α:=Xpr) (f:=246) (cap:=#[.pointer (some ⟨w.heap.size,0,none⟩),.pointer (some ⟨w.heap.size+1,0,none⟩)]) (fun w=>by kernel_rfl) rfl HR1.o (by omega) (X:=E (d+1) ⟨s.l,max s.most (d+1)⟩) (V:=aDN (w.heap.size+1) w0.heap.size) [w.heap.size+1]
  (fun wa hra hfa=>aDO HEK.o hra hn hd (HB1.o.fr hfa (by simp;omega)) (HZ1.o.fr hfa (by simp;omega)) rfl hfa.size (by omega) (by have:=HZS.o;omega))
  (fun wa wb y hv hf=>hv.fr hf (by omega) (by have:=HZS.o;omega)))
 clear c1
 cases hX:E (d+1) ⟨s.l,max s.most (d+1)⟩ with
 | none=>
  have HE:Hid (bD E d s=none):=lh (by unfold bD;rw[hX]);rw[hX] at HW;refine HW.o.mono ?_;rintro e w6 ⟨rfl,hf6⟩;exact⟨rfl,HQ.o _ _ (bB HE.o ((HF1.o.mono (by simp)).trans hf6 (fun x hx=>by simp at hx;exact hx.elim (fun h=>.inl (by simp[h])) (fun h=>.inr (by omega)))))⟩
 | some y=>
  obtain⟨y,s6⟩:=y;have HE0:Hid (bD E d s=gF [41] y s6):=lh (by unfold bD;rw[hX]);rw[hX] at HW;clear hX;refine HW.o.mono ?_;rintro e w6 ⟨rfl,⟨cs,hz6,hcs⟩,hr6,hf6⟩;have HZ6:=lh hz6;have HR6:=lh hr6;have HCS:=lh (hcs.mono (M:=fun g=>w.heap.size+1 < g) (fun g hg=>by have:=HZS.o;omega));have hb6:=HB1.o.fr hf6 (by simp;omega);have HB6:=lh hb6;have HF6:=lh ((HF1.o.mono (by simp):Fr [r] w w0).trans hf6 (fun x hx=>by simp at hx;exact hx.elim (fun h=>.inl (by simp[h])) (fun h=>.inr (by omega))));have HCL:Hid (cs.length=13):=lh (hcs.1.trans (kA y));have c6:=hb6.at_ (i:=0) rfl;clear hz6 hcs hr6 hf6 hb6 HW HB1 HZ1 HF1 HR1;go_wp2_with fail
  cases hn5:s6.next [41] with
  | true=>
   have HE:Hid (bD E d s=some (y,s6.go)):=lh (by rw[HE0.o,gF,if_pos hn5]);refine(qF HR6.o ⟨#[41]⟩ hn5).mono ?_;rintro e w7 ⟨rfl,hr7,hf7⟩;have HZ7:=lh (HZ6.o.fr hf7 (by simp;omega));have HF7:=lh (HF6.o.trans hf7 (fun x hx=>.inl hx));have HR7:=lh hr7;have HCS7:=lh (HCS.o.fr hf7 (fun g hg=>by simp;omega));clear hr7 hf7 hn5 c6 HZ6 HF6 HR6 HCS HB6;go_wp2_with fail;refine(iE _).mono ?_;rintro e w8 ⟨rfl,rfl⟩;have hc1:(Tryz.prog.info? 109).map (·.size)=some cs.length:=by rw[HCL.o];exact cD
   have HC1:=lh hc1;have HO:=lh HCS7.o.one;clear hc1
   go_wp2_with (first
    | (with_reducible refine uA rfl 109 (.tmp 2) rfl rfl HZ7.o Tryz.underlying109 rfl HC1.o ?_)
    | (with_reducible refine iA rfl 109 (.tmp 2) (.tmp 9) rfl cs rfl rfl HZ7.o HC1.o rfl HO.o ?_))
   intro w9 hb9 hf9 hz9;have HB9:=lh hb9;have HF9:=lh hf9;clear hb9 hf9 hz9;go_wp2_with fail;exact bH rfl rfl HB9.o HCL.o (HQ.o _ _ (aB HE.o ⟨_,rfl,(HCS7.o.fr HF9.o (fun g hg=>by simp;omega)).mono (fun g hg=>by omega)⟩ (HR7.o.fr HF9.o (by simp;omega)) (HF7.o.trans HF9.o (fun x hx=>.inr (by simp at hx;omega)))))
  | false=>
   have HE:Hid (bD E d s=none):=lh (by rw[HE0.o,gF,if_neg (by rw[hn5];simp)]);refine(mH HR6.o ⟨#[41]⟩ hn5).mono ?_;rintro e w7 ⟨rfl,hr7,hf7⟩;have HF7:=lh (HF6.o.trans hf7 (fun x hx=>.inl hx));clear hr7 hf7 hn5 c6;go_wp2_with fail;refine(aE _).mono ?_;rintro e w8 ⟨rfl,rfl⟩;exact⟨rfl,HQ.o _ _ (bB HE.o HF7.o)⟩
theorem aFu (hE:EK 167 txt E n) (hS:EK 235 txt (qA (aA txt) E S) (n+1)) (h:wD w r gl txt d s) (hn:s.l.length<=n) (hd:d+s.l.length<=80000):Calls Tryz.prog 233 #[.pointer (some ⟨r,0,none⟩)] w (rJ (cF Xpr.cells w) w r gl txt d (lK (aA txt) E S d s)):=by
 refine bA fun R HQ=>?_;have hrlt:=h.lt;have HH:=lh h;have HEK:=lh hE;have HSK:=lh hS;obtain⟨iu,hi,hz',hsz',hby⟩:=info_parts tW;have k0:0 < 13:=by decide
 have kb:13<=16777216:=by decide
 clear h hE hS
 go_enter Tryz.func233,Tryz.ntmps233
 go_wp2_with (with_reducible refine vD rfl 109 rfl (.agg zx.toArray) zx iH sE ?_)
 intro w0 hb0 hf0 hz0;have HZ0:=lh hb0;have HF0:Hid (Fr [r] w w0):=lh (hf0.mono (by simp));have HR0:=lh (HH.o.fr hf0);clear hb0 hf0;go_wp2_with fail
 cases hn1:s.next [40] with
 | true=>
  have e1:=dH hn1;have HE0:Hid (lK (aA txt) E S d s=match bD E d s.go with | none=>none | some (e,s)=>some (.of 3 [e] [],s)):=lh (by unfold lK;rw[if_pos hn1];rfl);refine(qF HR0.o ⟨#[40]⟩ hn1).mono ?_;rintro e w1 ⟨rfl,hr1,hf1⟩;have HZ1:=lh (HZ0.o.fr hf1 (by simp;omega));have HF1:=lh (HF0.o.trans hf1 (fun x hx=>.inl hx));have HR1:=lh hr1;have HC:=lh (nT HEK.o hr1 (by omega) (by omega));clear hr1 hf1 hn1 HZ0 HF0 HR0;go_wp2_with fail
  cases hX:bD E d s.go with
  | none=>
   have HE:Hid (lK (aA txt) E S d s=none):=lh (by rw[HE0.o,hX]);rw[hX] at HC;refine HC.o.mono ?_;rintro e w2 ⟨rfl,hf2⟩;exact⟨rfl,HQ.o _ _ (bB HE.o (HF1.o.trans hf2 (fun x hx=>.inl hx)))⟩
  | some y=>
   obtain⟨y,s2⟩:=y;have HE:Hid (lK (aA txt) E S d s=some (.of 3 [y] [],s2)):=lh (by rw[HE0.o,hX]);rw[hX] at HC;clear hX HE0;refine HC.o.mono ?_;rintro e w2 ⟨_,rfl,⟨cs,rfl,hcs⟩,hr2,hf2⟩;have HZ2:=lh (HZ1.o.fr hf2 (by simp;omega));have HF2:=lh (HF1.o.trans hf2 (fun x hx=>.inl hx));have HR2:=lh hr2;have HCS:=lh (hcs.mono (M:=fun g=>w.heap.size < g) (fun g hg=>by have:=HF1.o.size;have:=HZ1.o.lt;omega));have HCL:Hid (cs.length=13):=lh (hcs.1.trans (kA y));clear hcs
   go_wp2_with (with_reducible refine cC rfl (.tmp 7) rfl Tryz.underlying48 hi hz' cs rfl HCL.o hsz' rD k0 kb ?_)
   intro w3 hb3 hf3 hz3;have hzl3:=HZ2.o.lt;have hrw:=wG (what:=3) (op:=[]) (l:=[y]) (CAt.of_blk hb3 (HCS.o.fr hf3) (kA y) (by decide) hzl3);have HRW3:=lh hrw;have HR3:=lh (HR2.o.fr hf3);have HF3:=lh (HF2.o.trans hf3);have HZ3:=lh (HZ2.o.fr hf3);have HL3:Hid (([.int .i64 3,.slice (some ⟨w2.heap.size,0,none⟩) 1 1,S8 [],.bool false,.slice none 0 0,.int .i64 0,.bool false,.bool false,.string { data:=#[] },.int .i64 0,.string { data:=#[] },.slice none 0 0,.slice none 0 0]:List Value).length=13):=lh rfl;clear hb3 hf3 hz3 hrw HR2 HF2 HZ2 HCS HCL;have hc1_:(Tryz.prog.info? 109).map (·.size)=some [.int .i64 3,.slice (some ⟨w2.heap.size,0,none⟩) 1 1,S8 [],.bool false,.slice none 0 0,.int .i64 0,.bool false,.bool false,.string { data:=#[] },.int .i64 0,.string { data:=#[] },.slice none 0 0,.slice none 0 0].length:=by rw[HL3.o];exact cD
   have hc2_:zx.length=[.int .i64 3,.slice (some ⟨w2.heap.size,0,none⟩) 1 1,S8 [],.bool false,.slice none 0 0,.int .i64 0,.bool false,.bool false,.string { data:=#[] },.int .i64 0,.string { data:=#[] },.slice none 0 0,.slice none 0 0].length:=by rw[HL3.o];rfl
   have ho1_:=HRW3.o.one;have HPC1:=lh hc1_;have HPC2:=lh hc2_;have HPO:=lh ho1_;clear hc1_ hc2_ ho1_
   go_wp2_with (with_reducible refine iA rfl 109 (.tmp 2) (.tmp 9) rfl [.int .i64 3,.slice (some ⟨w2.heap.size,0,none⟩) 1 1,S8 [],.bool false,.slice none 0 0,.int .i64 0,.bool false,.bool false,.string { data:=#[] },.int .i64 0,.string { data:=#[] },.slice none 0 0,.slice none 0 0] rfl rfl HZ3.o HPC1.o HPC2.o HPO.o ?_)
   intro w9 hb9 hf9 hz9;have HB9:=lh hb9;have HF9:=lh hf9;clear hb9 hf9 hz9;go_wp2_with fail;exact bH rfl rfl HB9.o HL3.o (HQ.o _ _ (aB HE.o ⟨_,rfl,(HRW3.o.fr HF9.o (fun g hg=>by simp;omega)).mono (fun g hg=>by omega)⟩ (HR3.o.fr HF9.o (by simp;omega)) (HF3.o.trans HF9.o (fun x hx=>.inr (by simp at hx;omega)))))
 | false=>
  have HE0:Hid (lK (aA txt) E S d s=match qA (aA txt) E S d s with | none=>none | some (e,s)=>if e.what=6 ∨ e.what=7 then some (.of 3 [e] [],s) else none):=lh (by unfold lK;rw[if_neg (by rw[hn1];simp)];rfl);refine(mH HR0.o ⟨#[40]⟩ hn1).mono ?_;rintro e w1 ⟨rfl,hr1,hf1⟩;have HZ1:=lh (HZ0.o.fr hf1 (by simp;omega));have HF1:=lh (HF0.o.trans hf1 (fun x hx=>.inl hx));have HR1:=lh hr1;have HC:=lh (HSK.o w1 r gl d s hr1 (by omega) hd);clear hr1 hf1 hn1 HZ0 HF0 HR0;go_wp2_with fail
  cases hX:qA (aA txt) E S d s with
  | none=>
   have HE:Hid (lK (aA txt) E S d s=none):=lh (by rw[HE0.o,hX]);rw[hX] at HC;refine HC.o.mono ?_;rintro e w2 ⟨rfl,hf2⟩;exact⟨rfl,HQ.o _ _ (bB HE.o (HF1.o.trans hf2 (fun x hx=>.inl hx)))⟩
  | some y=>
   obtain⟨y,s2⟩:=y;have HE1:Hid (lK (aA txt) E S d s=if y.what=6 ∨ y.what=7 then some (.of 3 [y] [],s2) else none):=lh (by rw[HE0.o,hX]);rw[hX] at HC;clear hX HE0;refine HC.o.mono ?_;rintro e w2 ⟨_,rfl,⟨cs,rfl,hcs⟩,hr2,hf2⟩;have HZ2:=lh (HZ1.o.fr hf2 (by simp;omega));have HF2:=lh (HF1.o.trans hf2 (fun x hx=>.inl hx));have HR2:=lh hr2;have HCSa:=lh (hcs.mono (M:=fun g=>w.heap.size < g) (fun g hg=>by have:=HF1.o.size;have:=HZ1.o.lt;omega));have hcl:cs.length=13:=hcs.1.trans (kA y);have hc1:(Tryz.prog.info? 109).map (·.size)=some cs.length:=by rw[hcl];exact cD
   have hc2:zx.length=cs.length:=by rw[hcl];rfl
   have HCL:=lh hcl;have HC1:=lh hc1;have HC2:=lh hc2;have HO:=lh hcs.one;obtain⟨wh,hwh⟩:∃ wh,y.what=wh:=⟨_,rfl⟩
   have hw0:cs[0]? = some (.int .i64 wh):=by
    obtain⟨a,b,c,q,v⟩:=y;obtain⟨cs',rfl,_⟩:=hcs.lf;rw[<- hwh];rfl
   have HW0:=lh hw0;rw[hwh] at HE1;clear hcs hr2 hf2 HC hcl hc1 hc2 hw0 hwh HZ1 HF1 HR1
   go_wp2_with (with_reducible refine zC rfl rfl 109 (.tmp 11) rfl rfl rfl rfl (.agg zx.toArray) zx iH sE cs rfl rfl HC1.o HC2.o HO.o ?_)
   intro w3 hy3 hf3 hz3;have c0:=hy3.at_ HW0.o;have HY3:=lh hy3;have HZ3:=lh (HZ2.o.fr hf3);have HF3:=lh (HF2.o.trans hf3);have HR3:=lh (HR2.o.fr hf3);have HCS3:=lh (HCSa.o.fr hf3);clear hy3 hf3 hz3 HZ2 HF2 HR2 HCSa
   by_cases h6:wh=6 ∨ wh=7
   ·have HE:Hid (lK (aA txt) E S d s=some (.of 3 [y] [],s2)):=lh (by rw[HE1.o,if_pos h6])
    have hfin:∀ {P:Prop},(∀ (d6:(wh == 6)=true),P) -> (∀ (d6:(wh == 6)=false) (d7:(wh == 7)=true),P) -> P:=fun {P} a b=>by
     by_cases h:wh=6
     ·exact a (by simpa using h)
     ·exact b (by simpa using h) (by have:wh=7:=(by omega);simpa using this)
    clear h6;refine hfin (fun d6=>?_) (fun d6 d7=>?_)
    all_goals clear hfin
    ·go_wp2_with fail;refine(iE _).mono ?_;rintro e w4 ⟨rfl,rfl⟩
     go_wp2_with (first
      | (with_reducible refine uA rfl 109 (.tmp 3) rfl rfl HY3.o Tryz.underlying109 rfl HC1.o ?_)
      | (with_reducible refine cC rfl (.tmp 21) rfl Tryz.underlying48 hi hz' cs rfl HCL.o hsz' rD k0 kb ?_))
     intro w4 hb4 hf4 hz4;have hzl3:=HZ3.o.lt;have hrw:=wG (what:=3) (op:=[]) (l:=[y]) (CAt.of_blk hb4 (HCS3.o.fr hf4) (kA y) (by decide) hzl3);have HRW4:=lh hrw;have HR4:=lh (HR3.o.fr hf4);have HF4:=lh (HF3.o.trans hf4);have HZ4:=lh (HZ3.o.fr hf4);have HL4:Hid (([.int .i64 3,.slice (some ⟨w3.heap.size,0,none⟩) 1 1,S8 [],.bool false,.slice none 0 0,.int .i64 0,.bool false,.bool false,.string { data:=#[] },.int .i64 0,.string { data:=#[] },.slice none 0 0,.slice none 0 0]:List Value).length=13):=lh rfl;clear hb4 hf4 hz4 hrw HR3 HF3 HZ3 HCS3 HCL HY3 c0;have hc1_:(Tryz.prog.info? 109).map (·.size)=some [.int .i64 3,.slice (some ⟨w3.heap.size,0,none⟩) 1 1,S8 [],.bool false,.slice none 0 0,.int .i64 0,.bool false,.bool false,.string { data:=#[] },.int .i64 0,.string { data:=#[] },.slice none 0 0,.slice none 0 0].length:=by rw[HL4.o];exact cD
     have hc2_:zx.length=[.int .i64 3,.slice (some ⟨w3.heap.size,0,none⟩) 1 1,S8 [],.bool false,.slice none 0 0,.int .i64 0,.bool false,.bool false,.string { data:=#[] },.int .i64 0,.string { data:=#[] },.slice none 0 0,.slice none 0 0].length:=by rw[HL4.o];rfl
     have ho1_:=HRW4.o.one;have HPC1:=lh hc1_;have HPC2:=lh hc2_;have HPO:=lh ho1_;clear hc1_ hc2_ ho1_
     go_wp2_with (with_reducible refine iA rfl 109 (.tmp 2) (.tmp 23) rfl [.int .i64 3,.slice (some ⟨w3.heap.size,0,none⟩) 1 1,S8 [],.bool false,.slice none 0 0,.int .i64 0,.bool false,.bool false,.string { data:=#[] },.int .i64 0,.string { data:=#[] },.slice none 0 0,.slice none 0 0] rfl rfl HZ4.o HPC1.o HPC2.o HPO.o ?_)
     intro w9 hb9 hf9 hz9;have HB9:=lh hb9;have HF9:=lh hf9;clear hb9 hf9 hz9;go_wp2_with fail;exact bH rfl rfl HB9.o HL4.o (HQ.o _ _ (aB HE.o ⟨_,rfl,(HRW4.o.fr HF9.o (fun g hg=>by simp;omega)).mono (fun g hg=>by omega)⟩ (HR4.o.fr HF9.o (by simp;omega)) (HF4.o.trans HF9.o (fun x hx=>.inr (by simp at hx;omega)))))
    ·go_wp2_with fail;refine(iE _).mono ?_;rintro e w4 ⟨rfl,rfl⟩
     go_wp2_with (first
      | (with_reducible refine uA rfl 109 (.tmp 3) rfl rfl HY3.o Tryz.underlying109 rfl HC1.o ?_)
      | (with_reducible refine cC rfl (.tmp 21) rfl Tryz.underlying48 hi hz' cs rfl HCL.o hsz' rD k0 kb ?_))
     intro w4 hb4 hf4 hz4;have hzl3:=HZ3.o.lt;have hrw:=wG (what:=3) (op:=[]) (l:=[y]) (CAt.of_blk hb4 (HCS3.o.fr hf4) (kA y) (by decide) hzl3);have HRW4:=lh hrw;have HR4:=lh (HR3.o.fr hf4);have HF4:=lh (HF3.o.trans hf4);have HZ4:=lh (HZ3.o.fr hf4);have HL4:Hid (([.int .i64 3,.slice (some ⟨w3.heap.size,0,none⟩) 1 1,S8 [],.bool false,.slice none 0 0,.int .i64 0,.bool false,.bool false,.string { data:=#[] },.int .i64 0,.string { data:=#[] },.slice none 0 0,.slice none 0 0]:List Value).length=13):=lh rfl;clear hb4 hf4 hz4 hrw HR3 HF3 HZ3 HCS3 HCL HY3 c0;have hc1_:(Tryz.prog.info? 109).map (·.size)=some [.int .i64 3,.slice (some ⟨w3.heap.size,0,none⟩) 1 1,S8 [],.bool false,.slice none 0 0,.int .i64 0,.bool false,.bool false,.string { data:=#[] },.int .i64 0,.string { data:=#[] },.slice none 0 0,.slice none 0 0].length:=by rw[HL4.o];exact cD
     have hc2_:zx.length=[.int .i64 3,.slice (some ⟨w3.heap.size,0,none⟩) 1 1,S8 [],.bool false,.slice none 0 0,.int .i64 0,.bool false,.bool false,.string { data:=#[] },.int .i64 0,.string { data:=#[] },.slice none 0 0,.slice none 0 0].length:=by rw[HL4.o];rfl
     have ho1_:=HRW4.o.one;have HPC1:=lh hc1_;have HPC2:=lh hc2_;have HPO:=lh ho1_;clear hc1_ hc2_ ho1_
     go_wp2_with (with_reducible refine iA rfl 109 (.tmp 2) (.tmp 23) rfl [.int .i64 3,.slice (some ⟨w3.heap.size,0,none⟩) 1 1,S8 [],.bool false,.slice none 0 0,.int .i64 0,.bool false,.bool false,.string { data:=#[] },.int .i64 0,.string { data:=#[] },.slice none 0 0,.slice none 0 0] rfl rfl HZ4.o HPC1.o HPC2.o HPO.o ?_)
     intro w9 hb9 hf9 hz9;have HB9:=lh hb9;have HF9:=lh hf9;clear hb9 hf9 hz9;go_wp2_with fail;exact bH rfl rfl HB9.o HL4.o (HQ.o _ _ (aB HE.o ⟨_,rfl,(HRW4.o.fr HF9.o (fun g hg=>by simp;omega)).mono (fun g hg=>by omega)⟩ (HR4.o.fr HF9.o (by simp;omega)) (HF4.o.trans HF9.o (fun x hx=>.inr (by simp at hx;omega)))))
   ·have HE:Hid (lK (aA txt) E S d s=none):=lh (by rw[HE1.o,if_neg h6]);have d6:(wh == 6)=false:=bF (by omega)
    have d7:(wh == 7)=false:=bF (by omega)
    clear h6;go_wp2_with fail;refine(aE _).mono ?_;rintro e w4 ⟨rfl,rfl⟩;exact⟨rfl,HQ.o _ _ (bB HE.o HF3.o)⟩
end
def vW:DataW Unit:=(((((DataW.map []).put (.string sH) (.lit (.bool false))).put (.string nG) (.lit (.bool false))).put (.string oG) (.lit (.bool false))).put (.string kK) (.lit (.bool true))).put (.string iI) (.lit (.bool true))
theorem tV:vW=.map [(.string nG,.lit (.bool false)),(.string sH,.lit (.bool false)),(.string kK,.lit (.bool true)),(.string iI,.lit (.bool true)),(.string oG,.lit (.bool false))]:=by rfl
theorem uV (x:List UInt8):vW.atKey (.string x) (.lit (.bool false))=.lit (.bool (cB x)):=by
 rw[tV]
 by_cases h1:x=nG
 ·subst h1;rfl
 ·by_cases h2:x=sH
  ·subst h2;rfl
  ·by_cases h3:x=kK
   ·subst h3;rfl
   ·by_cases h4:x=iI
    ·subst h4;rfl
    ·by_cases h5:x=oG
     ·subst h5;rfl
     ·have e3:cB x=false:=by unfold cB;rw[beq_eq_false_iff_ne.2 h3,beq_eq_false_iff_ne.2 h4];rfl
      rw[e3]
      simp[DataW.atKey,List.find?,Lit.sameKey,beq_eq_false_iff_ne.2 (Ne.symm h1),beq_eq_false_iff_ne.2 (Ne.symm h2),beq_eq_false_iff_ne.2 (Ne.symm h3),beq_eq_false_iff_ne.2 (Ne.symm h4),beq_eq_false_iff_ne.2 (Ne.symm h5)]
theorem aAD (x:List UInt8):Maps.has vW (.string x)=tI x:=by
 rw[tV];have hc:∀ a b:List UInt8,(a == b)=(b == a):=fun a b=>by rw[Bool.beq_comm]
 simp only[Maps.has,List.any_cons,List.any_nil,Lit.sameKey,Bool.or_false,tI,pJ,List.contains_cons,List.contains_nil,hc _ x];generalize (x == nG)=a;generalize (x == sH)=b;generalize (x == kK)=c;generalize (x == iI)=d;generalize (x == oG)=e
 revert a b c d e
 decide
def qN (w:World) (b:Nat):Prop:=w.ownsMap Tryz.prog 9 (plainElem Tryz.prog 4) b 5 vW
section
variable {w w' : World} {b : Nat}
theorem oT {P:Program} {e:TypeId} (he:P.underlying e=some .bool) {v:Value} {c:Bool} {ps:List MemPlace} (h:plainElem (H:=Unit) P e v=some (.lit (.bool c),ps)):v=.bool c:=by
 unfold plainElem at h;rw[he] at h
 cases v <;> simp at h
 rw[h.1]
theorem wJ {v:Value} {c:Bool} {ps:List MemPlace} (h:plainElem (H:=Unit) Tryz.prog 4 v=some (.lit (.bool c),ps)):v=.bool c:=oT Tryz.underlying4 h
theorem aDP (w:World):(zeroValue 4).run Tryz.prog w=.ok (.bool false) w:=by kernel_rfl
theorem qN.look_ok (h:qN w b) (s:ByteArray) (hs:s.size<=maxLen):(Instr.lookup 134 (.map (some b)) (.string s) true).run Tryz.prog w=.ok (.tuple #[.bool (cB (aA s)),.bool (tI (aA s))]) w:=by
 obtain⟨v,ps,h1,h2⟩:=World.ownsMap.look_ok h (Maps.string_keyed Tryz.underlying9) Tryz.underlying134 (aDP w) (plainElem_bool Tryz.underlying4 false) (WideMaps.keyOf_string_mk Tryz.underlying9 hs);rw[uV] at h2;rw[h1,wJ h2];exact congrArg (fun z=>Result.ok (Value.tuple #[.bool (cB (aA s)),.bool z]) w) (aAD (aA s))
theorem qN.look (h:qN w b) (s:ByteArray) (hs:s.size<=maxLen):(Instr.lookup 134 (.map (some b)) (.string s) false).run Tryz.prog w=.ok (.bool (cB (aA s))) w:=by
 obtain⟨v,ps,h1,h2⟩:=World.ownsMap.lookup h (Maps.string_keyed Tryz.underlying9) Tryz.underlying134 (aDP w) (plainElem_bool Tryz.underlying4 false) (WideMaps.keyOf_string_mk Tryz.underlying9 hs);rw[uV] at h2;rw[h1,wJ h2]
 rfl
theorem yY {n:Nat} {D:DataW Unit} (h:w.ownsMap Tryz.prog 9 (plainElem Tryz.prog 4) b n D) (hn:n < 5) (s:ByteArray) (hs:s.size<=maxLen) (c:Bool):∃ w',(Instr.mapUpdate 134 (.map (some b)) (.string s) (.bool c)).run Tryz.prog w=.ok () w'/\w'.ownsMap Tryz.prog 9 (plainElem Tryz.prog 4) b (n+1) (D.put (.string (aA s)) (.lit (.bool c)))/\Fr [b] w w':=by
 obtain⟨w',h1,h2,h3⟩:=World.ownsMap.update h (Maps.string_keyed Tryz.underlying9) Tryz.underlying134 (by unfold maxLen;omega) (WideMaps.keyOf_string_mk Tryz.underlying9 hs) (plainElem_bool Tryz.underlying4 c);exact⟨w',h1,h2,(Fr.refl [b] w).grown h3 (fun g hg=>by cases hg;exact .inl (by simp))⟩
theorem rN:Calls Tryz.prog 74 #[] w fun e w'=>∃ b,e=.returned (.map (some b))/\qN w' b/\Fr [] w w':=by
 refine bA fun R HQ=>?_;have hmm:=run_makeMap (P:=Tryz.prog) 134 w;have o0:=World.ownsMap_made w Tryz.prog 9 (plainElem (H:=Unit) Tryz.prog 4);have f0:Fr [] w (w.alloc (.map #[] 0)):=(Fr.refl [] w).alloc _;generalize w.alloc (.map #[] 0)=w0 at *;obtain⟨w1,r1,o1,f1⟩:=yY o0 (by decide) ⟨#[108,101,110,103,116,104]⟩ (by decide) false;obtain⟨w2,r2,o2,f2⟩:=yY o1 (by decide) ⟨#[99,111,117,110,116]⟩ (by decide) false;obtain⟨w3,r3,o3,f3⟩:=yY o2 (by decide) ⟨#[118,97,108,117,101]⟩ (by decide) false;obtain⟨w4,r4,o4,f4⟩:=yY o3 (by decide) ⟨#[109,97,116,99,104]⟩ (by decide) true;obtain⟨w5,r5,o5,f5⟩:=yY o4 (by decide) ⟨#[115,101,97,114,99,104]⟩ (by decide) true;have HF:Hid (Fr [] w w5):=lh (((((f0.trans f1 (fun x hx=>.inr (by simp at hx;omega))).trans f2 (fun x hx=>.inr (by simp at hx;omega))).trans f3 (fun x hx=>.inr (by simp at hx;omega))).trans f4 (fun x hx=>.inr (by simp at hx;omega))).trans f5 (fun x hx=>.inr (by simp at hx;omega)));have HO:Hid (qN w5 w.heap.size):=lh o5;clear o0 o1 o2 o3 o4 o5 f0 f1 f2 f3 f4 f5
 go_enter Tryz.func74,Tryz.ntmps74
 go_wp2_with fail;exact HQ.o _ _ ⟨_,rfl,HO.o,HF.o⟩
end
theorem cH {w:World} {N:Nat -> Prop} (k:Int) (b:Bool) (n:Dcm) (s:List UInt8):gA w N (Xpr.lit ⟨k,b,n,s,.rows 8 [],.rows 9 []⟩).cells [.int .i64 5,.slice none 0 0,.string { data:=#[] },.bool false,.slice none 0 0,.int .i64 k,.bool b,.bool n.neg,S8 n.digits,.int .i64 n.exp,S8 s,.slice none 0 0,.slice none 0 0]:=
 .tl rfl (.cons (CAt.nil w N (by decide) none 0) (.tl rfl (.tl rfl (.cons (CAt.nil w N (by decide) none 0) (.tl rfl (.tl rfl (.tl rfl (.tl rfl (.tl rfl (.tl rfl (.cons (CAt.nil w N (by decide) none 0) (.cons (CAt.nil w N (by decide) none 0) (.nil w N)))))))))))))
theorem sN {w:World} {N:Nat -> Prop} {q:Qry} {rel:Bool} {v:Value} (h:gA w N q.cells [.bool rel,v]):gA w N (Xpr.path q).cells [.int .i64 6,.slice none 0 0,.string { data:=#[] },.bool rel,v,.int .i64 0,.bool false,.bool false,.string { data:=#[] },.int .i64 0,.string { data:=#[] },.slice none 0 0,.slice none 0 0]:=by
 obtain⟨a,b⟩:=q;obtain⟨v1,cs1,e1,h1,h2⟩:=h.inv;injection e1 with e1 e2;subst e1 e2;obtain⟨v2,cs2,e3,h3,h4⟩:=h2.inv;injection e3 with e3 e4;subst e3 e4;exact .tl rfl (.cons (CAt.nil w N (by decide) none 0) (.tl rfl (.cons h1 (.cons h3 (.tl rfl (.tl rfl (.tl rfl (.tl rfl (.tl rfl (.tl rfl (.cons (CAt.nil w N (by decide) none 0) (.cons (CAt.nil w N (by decide) none 0) (.nil w N)))))))))))))
section
variable {w : World} {r gl n lo : Nat} {txt : ByteArray} {d : Int} {s : QS} {E S : Int -> Rd Xpr}
def qM (S:Int -> Rd Xpr) (d:Int) (s:QS):Option (List Xpr × QS):=if s.next [41]=true then some ([],s) else eC [44] (S d) s
def aDQ (x:ByteArray) (p lo:Nat) (w:World) (l:List Xpr):Prop:=∃ A m c,Blk w p 109 [.int .i64 7,.slice A m c,.string x,.bool false,.slice none 0 0,.int .i64 0,.bool false,.bool false,.string { data:=#[] },.int .i64 0,.string { data:=#[] },.slice none 0 0,.slice none 0 0]/\CAt w (fun g=>lo<=g) (.rows 13 (xF l)) (.slice A m c)
theorem aDQ.fr {x:ByteArray} {p lo r:Nat} {w w':World} {l:List Xpr} (h:aDQ x p lo w l) (hf:Fr [r] w w') (hp:p ≠ r) (hr:r < lo):aDQ x p lo w' l:=by
 obtain⟨A,m,c,h1,h2⟩:=h;exact⟨A,m,c,h1.fr hf (by simpa using hp),h2.fr hf (fun g hg=>by simp;omega)⟩
theorem aCr (hS:EK 235 txt S n) (hSo:∀ d,(S d).on) {p1 p3:Nat} {tb:TypeId} {x:ByteArray} (h:wD w r gl txt d s) (hn:s.l.length < n) (hd:d+s.l.length<=80000) (hb1:Blk w p1 tb [.pointer (some ⟨r,0,none⟩)])
  (hb3:Blk w p3 109 [.int .i64 7,.slice none 0 0,.string x,.bool false,.slice none 0 0,.int .i64 0,.bool false,.bool false,.string { data:=#[] },.int .i64 0,.string { data:=#[] },.slice none 0 0,.slice none 0 0]) (hlo:lo<=w.heap.size) (hp:r < p3) (hpl:p3 < lo):
  Calls Tryz.prog 254 #[.pointer (some ⟨p1,0,none⟩),.pointer (some ⟨p3,0,none⟩)] w (aAB (aDQ x p3 lo) w r gl txt d [p3] (qM S d s)):=by
 refine bA fun R HQ=>?_;have b0:=hb1.at_ (i:=0) rfl;have HB3:=lh hb3;have HB1:=lh hb1;have HH:=lh h;have HSK:=lh hS;have HNX:=lh (zQ h ⟨#[41]⟩);rw[show aA ⟨#[41]⟩=[41] from rfl] at HNX;have hpb:=hb1.lt;clear hb1 hb3 h hS
 go_enter Tryz.func254,Tryz.ntmps254
 go_wp2_with fail;refine HNX.o.mono ?_;rintro e w1 ⟨rfl,hf1⟩;have HB31:=lh (HB3.o.fr hf1);have hb11:=HB1.o.fr hf1;have HR1:=lh (HH.o.fr hf1);have HF1:=lh hf1;have b1:=hb11.at_ (i:=0) rfl;have hsz1:=hf1.size;clear hf1 b0 HNX hb11
 cases hnx:s.next [41] with
 | true=>
  have HX:Hid (qM S d s=some ([],s)):=lh (by unfold qM;rw[if_pos hnx]);clear hnx;go_wp2_with fail
  go_end0
  exact HQ.o _ _ (yK HX.o ⟨_,_,_,HB31.o,CAt.nil _ _ (by decide) none 0⟩ HR1.o (HF1.o.mono (by simp)))
 | false=>
  have HX0:Hid (qM S d s=eC [44] (S d) s):=lh (by unfold qM;rw[if_neg (by rw[hnx];simp)]);have HC:=lh (aR (f:=235) (n:=s.l.length) (fun w=>by kernel_rfl) (hSo d) (fun wa sa hra hna=>HSK.o wa r gl d sa hra (by omega) (by omega)) HR1.o (Nat.le_refl _) ⟨#[44]⟩);rw[show aA ⟨#[44]⟩=[44] from rfl] at HC;clear hnx;go_wp2_with fail
  cases hX:eC [44] (S d) s with
  | none=>
   have HX:Hid (qM S d s=none):=lh (by rw[HX0.o,hX]);rw[hX] at HC;refine HC.o.mono ?_;rintro e w2 ⟨rfl,hf2⟩;exact⟨rfl,HQ.o _ _ (pN HX.o ((HF1.o.mono (by simp)).trans (hf2.mono (T:=r :: [p3]) (fun x hx=>.inl (by simp at hx;simp[hx]))) (fun x hx=>.inl hx)))⟩
  | some y=>
   obtain⟨l,s2⟩:=y;have HX:Hid (qM S d s=some (l,s2)):=lh (by rw[HX0.o,hX]);rw[hX] at HC;clear hX HX0;refine HC.o.mono ?_;rintro e w2 ⟨_,rfl,hcv,hr2,hf2⟩;obtain⟨A,c,rfl,-⟩:=hcv.slice;have hll:(l.map Xpr.cells).length=l.length:=by simp
   rw[hll] at hcv ⊢;have HCV:=lh hcv;have HR2:=lh hr2;have HF2:=lh ((HF1.o.mono (by simp):Fr [r] w w1).trans hf2 (fun x hx=>.inl hx));have hb2:=HB31.o.fr hf2 (by simp;omega);have HB2:=lh hb2;have y1:=hb2.at_ (i:=1) rfl;have yf:=hb2.free;have hyl:=hb2.lt;clear hcv hr2 hf2 hb2 hll HC;obtain⟨ln,hln⟩:∃ ln,l.length=ln:=⟨_,rfl⟩;rw[hln] at HCV ⊢;clear hln;go_wp2_with fail
   go_end0
   have hf5:Fr [p3] w2 (w2.setCell ⟨p3,1,none⟩ (.slice A ln c)):=(Fr.refl [p3] w2).setCell (.inl (by simp)) _;exact HQ.o _ _ (yK HX.o ⟨_,_,_,HB2.o.set_ 1 _,by rw[oC];exact(HCV.o.fr hf5 (fun g hg=>by simp;omega)).mono (fun g hg=>by omega)⟩ (HR2.o.fr hf5 (by simpa using hp)) ((HF2.o.mono (by simp)).trans hf5 (fun x hx=>.inl (by simp at hx;simp[hx]))))
end
theorem nC (x:ByteArray) (l:List UInt8):(x.toList == l)=decide (aA x=l):=by
 rw[ByteArray.toList_eq];unfold aA;rw[Bool.beq_eq_decide_eq]
theorem vV {S:Int -> Rd Xpr} {d:Int} {x:List UInt8} {s:QS} (h:x=iM):wE S d x s=some (.lit { Vlu.null with kind:=0,b:=false },s):=by unfold wE;rw[if_pos h];rfl
theorem wV {S:Int -> Rd Xpr} {d:Int} {x:List UInt8} {s:QS} (h:x=cM):wE S d x s=some (.lit { Vlu.null with kind:=1,b:=true },s):=by subst h;rfl
theorem pT {S:Int -> Rd Xpr} {d:Int} {x:List UInt8} {s:QS} (h:x=oJ):wE S d x s=some (.lit { Vlu.null with kind:=1,b:=false },s):=by subst h;rfl
theorem cR {S:Int -> Rd Xpr} {d:Int} {x:List UInt8} {s:QS} (h1:x ≠ iM) (h2:x ≠ cM) (h3:x ≠ oJ) (h4:¬ (x ∈ pJ/\s.next [40]=true)):wE S d x s=none:=by
 unfold wE;rw[if_neg h1,if_neg (fun h=>h.elim h2 h3),if_neg h4]
theorem aFv {S:Int -> Rd Xpr} {d:Int} {x:List UInt8} {s:QS} (h1:x ≠ iM) (h2:x ≠ cM) (h3:x ≠ oJ) (h4:x ∈ pJ) (h5:s.next [40]=true):wE S d x s=match qM S (d+1) ⟨s.go.l,max s.go.most (d+1)⟩ with | none=>none | some (l,s)=>gF [41] (.of 7 l x) s:=by
 have e:(⟨s.go.l,max s.most (d+1)⟩:QS)=⟨s.go.l,max s.go.most (d+1)⟩:=rfl;unfold wE qM;rw[if_neg h1,if_neg (fun h=>h.elim h2 h3),if_pos ⟨h4,h5⟩,<- e]
 simp only
 cases h6:QS.next ⟨s.go.l,max s.most (d+1)⟩ [41] with
 | true=>simp[gF,h6]
 | false=>
  simp only[Bool.false_eq_true,if_false]
  cases eC [44] (S (d+1)) ⟨s.go.l,max s.most (d+1)⟩ <;> rfl
section
variable {w : World} {r gl n : Nat} {txt : ByteArray} {d : Int} {s : QS} {S : Int -> Rd Xpr}
theorem aDR (hS:EK 235 txt S n) (hSo:∀ d,(S d).on) (x:ByteArray) (hx:x.size<=9223372036854775807) (h:wD w r gl txt d s) (hn:s.l.length<=n) (hd:d+s.l.length<=80000):Calls Tryz.prog 247 #[.pointer (some ⟨r,0,none⟩),.string x] w (rJ (cF Xpr.cells w) w r gl txt d (wE S d (aA x) s)):=by
 refine bA fun R HQ=>?_;have hrlt:=h.lt;have hdp:=h.deep;have HH:=lh h;have HSK:=lh hS;have HSO:=lh hSo;have q1:(x.toList == [110,117,108,108])=decide (aA x=iM):=nC x [110,117,108,108];have q2:(x.toList == [116,114,117,101])=decide (aA x=cM):=nC x [116,114,117,101];have q3:(x.toList == [102,97,108,115,101])=decide (aA x=oJ):=nC x [102,97,108,115,101];clear h hS hSo
 go_enter Tryz.func247,Tryz.ntmps247
 go_wp2_with (with_reducible refine vD rfl 109 rfl (.agg zx.toArray) zx iH sE ?_)
 intro w0 hb0 hf0 hz0;have hb1:Blk w0 w.heap.size 60 [.pointer (some ⟨r,0,none⟩)]:=(Blk.new w 60 [.pointer (some ⟨r,0,none⟩)]).fr hf0;have hf1:Fr [] w w0:=((Fr.refl [] w).alloc _).trans hf0;have c1:=hb1.at_ (i:=0) rfl;have HB1:=lh hb1;have HZ1:=lh hb0;have HF1:Hid (Fr [r] w w0):=lh (hf1.mono (by simp));have HR1:=lh (HH.o.fr hf1);have HZS:=lh hz0;clear hb0 hf0 hz0 hb1 hf1
 by_cases h1:aA x=iM
 ·rw[decide_eq_true h1] at q1;have H1:=lh h1;clear h1 q2 q3;have HE:Hid (wE S d (aA x) s=some (.lit { Vlu.null with kind:=0,b:=false },s)):=lh (vV H1.o);have HRW0:Hid (gA w0 (fun g=>w.heap.size+1 < g) (Xpr.lit { Vlu.null with kind:=0,b:=false }).cells [.int .i64 5,.slice none 0 0,.string { data:=#[] },.bool false,.slice none 0 0,.int .i64 0,.bool false,.bool false,.string { data:=#[] },.int .i64 0,.string { data:=#[] },.slice none 0 0,.slice none 0 0]):=lh (cH (w:=w0) (N:=fun g=>w.heap.size+1 < g) 0 false .zero []);have HL0:Hid (([.int .i64 5,.slice none 0 0,.string { data:=#[] },.bool false,.slice none 0 0,.int .i64 0,.bool false,.bool false,(.string { data:=#[] }:Value),.int .i64 0,.string { data:=#[] },.slice none 0 0,.slice none 0 0]:List Value).length=13):=lh rfl;have hc1_:(Tryz.prog.info? 109).map (·.size)=some [.int .i64 5,.slice none 0 0,.string { data:=#[] },.bool false,.slice none 0 0,.int .i64 0,.bool false,.bool false,(.string { data:=#[] }:Value),.int .i64 0,.string { data:=#[] },.slice none 0 0,.slice none 0 0].length:=by rw[HL0.o];exact cD
  have hc2_:zx.length=[.int .i64 5,.slice none 0 0,.string { data:=#[] },.bool false,.slice none 0 0,.int .i64 0,.bool false,.bool false,(.string { data:=#[] }:Value),.int .i64 0,.string { data:=#[] },.slice none 0 0,.slice none 0 0].length:=by rw[HL0.o];rfl
  have ho1_:=HRW0.o.one;have HPC1:=lh hc1_;have HPC2:=lh hc2_;have HPO:=lh ho1_;clear hc1_ hc2_ ho1_
  go_wp2_with (with_reducible refine iA rfl 109 (.tmp 4) (.tmp 11) rfl [.int .i64 5,.slice none 0 0,.string { data:=#[] },.bool false,.slice none 0 0,.int .i64 0,.bool false,.bool false,(.string { data:=#[] }:Value),.int .i64 0,.string { data:=#[] },.slice none 0 0,.slice none 0 0] rfl rfl HZ1.o HPC1.o HPC2.o HPO.o ?_)
  intro w9 hb9 hf9 hz9;have HB9:=lh hb9;have HF9:=lh hf9;clear hb9 hf9 hz9;go_wp2_with fail;exact bH rfl rfl HB9.o HL0.o (HQ.o _ _ (aB HE.o ⟨_,rfl,(HRW0.o.fr HF9.o (fun g hg=>by simp;omega)).mono (fun g hg=>by omega)⟩ (HR1.o.fr HF9.o (by simp;omega)) (HF1.o.trans HF9.o (fun x hx=>.inr (by simp at hx;omega)))))
 ·rw[decide_eq_false h1] at q1
  by_cases h2:aA x=cM
  ·rw[decide_eq_true h2] at q2;have H2:=lh h2;clear h1 h2 q3;have HE:Hid (wE S d (aA x) s=some (.lit { Vlu.null with kind:=1,b:=true },s)):=lh (wV H2.o);have HRW0:Hid (gA w0 (fun g=>w.heap.size+1 < g) (Xpr.lit { Vlu.null with kind:=1,b:=true }).cells [.int .i64 5,.slice none 0 0,.string { data:=#[] },.bool false,.slice none 0 0,.int .i64 1,.bool true,.bool false,.string { data:=#[] },.int .i64 0,.string { data:=#[] },.slice none 0 0,.slice none 0 0]):=lh (cH (w:=w0) (N:=fun g=>w.heap.size+1 < g) 1 true .zero []);have HL0:Hid (([.int .i64 5,.slice none 0 0,.string { data:=#[] },.bool false,.slice none 0 0,.int .i64 1,.bool true,.bool false,(.string { data:=#[] }:Value),.int .i64 0,.string { data:=#[] },.slice none 0 0,.slice none 0 0]:List Value).length=13):=lh rfl;have hc1_:(Tryz.prog.info? 109).map (·.size)=some [.int .i64 5,.slice none 0 0,.string { data:=#[] },.bool false,.slice none 0 0,.int .i64 1,.bool true,.bool false,(.string { data:=#[] }:Value),.int .i64 0,.string { data:=#[] },.slice none 0 0,.slice none 0 0].length:=by rw[HL0.o];exact cD
   have hc2_:zx.length=[.int .i64 5,.slice none 0 0,.string { data:=#[] },.bool false,.slice none 0 0,.int .i64 1,.bool true,.bool false,(.string { data:=#[] }:Value),.int .i64 0,.string { data:=#[] },.slice none 0 0,.slice none 0 0].length:=by rw[HL0.o];rfl
   have ho1_:=HRW0.o.one;have HPC1:=lh hc1_;have HPC2:=lh hc2_;have HPO:=lh ho1_;clear hc1_ hc2_ ho1_
   go_wp2_with (with_reducible refine iA rfl 109 (.tmp 4) (.tmp 18) rfl [.int .i64 5,.slice none 0 0,.string { data:=#[] },.bool false,.slice none 0 0,.int .i64 1,.bool true,.bool false,(.string { data:=#[] }:Value),.int .i64 0,.string { data:=#[] },.slice none 0 0,.slice none 0 0] rfl rfl HZ1.o HPC1.o HPC2.o HPO.o ?_)
   intro w9 hb9 hf9 hz9;have HB9:=lh hb9;have HF9:=lh hf9;clear hb9 hf9 hz9;go_wp2_with fail;exact bH rfl rfl HB9.o HL0.o (HQ.o _ _ (aB HE.o ⟨_,rfl,(HRW0.o.fr HF9.o (fun g hg=>by simp;omega)).mono (fun g hg=>by omega)⟩ (HR1.o.fr HF9.o (by simp;omega)) (HF1.o.trans HF9.o (fun x hx=>.inr (by simp at hx;omega)))))
  ·rw[decide_eq_false h2] at q2
   by_cases h3:aA x=oJ
   ·rw[decide_eq_true h3] at q3;have H3:=lh h3;clear h1 h2 h3;have HE:Hid (wE S d (aA x) s=some (.lit { Vlu.null with kind:=1,b:=false },s)):=lh (pT H3.o);have HRW0:Hid (gA w0 (fun g=>w.heap.size+1 < g) (Xpr.lit { Vlu.null with kind:=1,b:=false }).cells [.int .i64 5,.slice none 0 0,.string { data:=#[] },.bool false,.slice none 0 0,.int .i64 1,.bool false,.bool false,.string { data:=#[] },.int .i64 0,.string { data:=#[] },.slice none 0 0,.slice none 0 0]):=lh (cH (w:=w0) (N:=fun g=>w.heap.size+1 < g) 1 false .zero []);have HL0:Hid (([.int .i64 5,.slice none 0 0,.string { data:=#[] },.bool false,.slice none 0 0,.int .i64 1,.bool false,.bool false,(.string { data:=#[] }:Value),.int .i64 0,.string { data:=#[] },.slice none 0 0,.slice none 0 0]:List Value).length=13):=lh rfl;have hc1_:(Tryz.prog.info? 109).map (·.size)=some [.int .i64 5,.slice none 0 0,.string { data:=#[] },.bool false,.slice none 0 0,.int .i64 1,.bool false,.bool false,(.string { data:=#[] }:Value),.int .i64 0,.string { data:=#[] },.slice none 0 0,.slice none 0 0].length:=by rw[HL0.o];exact cD
    have hc2_:zx.length=[.int .i64 5,.slice none 0 0,.string { data:=#[] },.bool false,.slice none 0 0,.int .i64 1,.bool false,.bool false,(.string { data:=#[] }:Value),.int .i64 0,.string { data:=#[] },.slice none 0 0,.slice none 0 0].length:=by rw[HL0.o];rfl
    have ho1_:=HRW0.o.one;have HPC1:=lh hc1_;have HPC2:=lh hc2_;have HPO:=lh ho1_;clear hc1_ hc2_ ho1_
    go_wp2_with (with_reducible refine iA rfl 109 (.tmp 4) (.tmp 18) rfl [.int .i64 5,.slice none 0 0,.string { data:=#[] },.bool false,.slice none 0 0,.int .i64 1,.bool false,.bool false,(.string { data:=#[] }:Value),.int .i64 0,.string { data:=#[] },.slice none 0 0,.slice none 0 0] rfl rfl HZ1.o HPC1.o HPC2.o HPO.o ?_)
    intro w9 hb9 hf9 hz9;have HB9:=lh hb9;have HF9:=lh hf9;clear hb9 hf9 hz9;go_wp2_with fail;exact bH rfl rfl HB9.o HL0.o (HQ.o _ _ (aB HE.o ⟨_,rfl,(HRW0.o.fr HF9.o (fun g hg=>by simp;omega)).mono (fun g hg=>by omega)⟩ (HR1.o.fr HF9.o (by simp;omega)) (HF1.o.trans HF9.o (fun x hx=>.inr (by simp at hx;omega)))))
   ·rw[decide_eq_false h3] at q3;have H1:=lh h1;have H2:=lh h2;have H3:=lh h3;clear h1 h2 h3;go_wp2_with fail;refine rN.mono ?_;rintro e w2 ⟨mb,rfl,hcm,hf2⟩;have hlk:=hcm.look_ok x hx;have hf2':Fr [r] w0 w2:=hf2.mono (by simp);have hb2:=HB1.o.fr hf2;have HB2:=lh hb2;have c2:=hb2.at_ (i:=0) rfl;have HZ2:=lh (HZ1.o.fr hf2' (by simp;omega));have HF2:=lh (HF1.o.trans hf2' (fun x hx=>.inl hx));have HR2:=lh (HR1.o.fr hf2);clear hcm hf2 hf2' hb2 c1 q1 q2 q3 HB1 HZ1 HF1 HR1;obtain⟨ic,hic⟩:∃ ic,tI (aA x)=ic:=⟨_,rfl⟩;rw[hic] at hlk
    cases ic with
    | false=>
     have HE:Hid (wE S d (aA x) s=none):=lh (cR H1.o H2.o H3.o (fun h=>by
      have h9:tI (aA x)=true:=by unfold tI;exact List.contains_iff_mem.2 h.1
      rw[hic] at h9;cases h9))
     clear hic;go_wp2_with fail;refine(aE _).mono ?_;rintro e w3 ⟨rfl,rfl⟩;exact⟨rfl,HQ.o _ _ (bB HE.o HF2.o)⟩
    | true=>
     have HIN:Hid (aA x ∈ pJ):=lh (List.contains_iff_mem.1 hic);clear hic;go_wp2_with fail
     cases hn4:s.next [40] with
     | false=>
      have HE:Hid (wE S d (aA x) s=none):=lh (cR H1.o H2.o H3.o (fun h=>by rw[hn4] at h;cases h.2));refine(mH HR2.o ⟨#[40]⟩ hn4).mono ?_;rintro e w3 ⟨rfl,hr3,hf3⟩;have HF3:=lh (HF2.o.trans hf3 (fun x hx=>.inl hx));clear hr3 hf3 hn4;go_wp2_with fail;refine(aE _).mono ?_;rintro e w4 ⟨rfl,rfl⟩;exact⟨rfl,HQ.o _ _ (bB HE.o HF3.o)⟩
     | true=>
      have e4:=dH hn4;have HE0:=lh (aFv (S:=S) (d:=d) H1.o H2.o H3.o HIN.o hn4);refine(qF HR2.o ⟨#[40]⟩ hn4).mono ?_;rintro e w3 ⟨rfl,hr3,hf3⟩;have HB3:=lh (HB2.o.fr hf3 (by simp;omega));have HZ3:=lh (HZ2.o.fr hf3 (by simp;omega));have HF3:=lh (HF2.o.trans hf3 (fun x hx=>.inl hx));have HR3:=lh hr3;clear hr3 hf3 hn4 c2 hlk HB2 HZ2 HF2 HR2;go_wp2_with fail;refine(iE _).mono ?_;rintro e w4 ⟨rfl,rfl⟩;have HLC:Hid (([.int .i64 7,.slice none 0 0,.string x,.bool false,.slice none 0 0,.int .i64 0,.bool false,.bool false,.string { data:=#[] },.int .i64 0,.string { data:=#[] },.slice none 0 0,.slice none 0 0]:List Value).length=13):=lh rfl
      have HO7:Hid (∀ v ∈ ([.int .i64 7,.slice none 0 0,.string x,.bool false,.slice none 0 0,.int .i64 0,.bool false,.bool false,.string { data:=#[] },.int .i64 0,.string { data:=#[] },.slice none 0 0,.slice none 0 0]:List Value),v.oneCell'=true):=lh (by
       intro v hv;simp only[List.mem_cons,List.not_mem_nil,or_false] at hv;rcases hv with rfl | rfl | rfl | rfl | rfl | rfl | rfl | rfl | rfl | rfl | rfl | rfl | rfl <;> rfl)
      have HS7:Hid ((Tryz.prog.info? 109).map (·.size)=some ([.int .i64 7,.slice none 0 0,.string x,.bool false,.slice none 0 0,.int .i64 0,.bool false,.bool false,.string { data:=#[] },.int .i64 0,.string { data:=#[] },.slice none 0 0,.slice none 0 0]:List Value).length):=lh cD;have HS8:Hid (zx.length=([.int .i64 7,.slice none 0 0,.string x,.bool false,.slice none 0 0,.int .i64 0,.bool false,.bool false,.string { data:=#[] },.int .i64 0,.string { data:=#[] },.slice none 0 0,.slice none 0 0]:List Value).length):=lh rfl
      go_wp2_with (with_reducible refine zC rfl rfl 109 (.tmp 32) rfl rfl rfl rfl (.agg zx.toArray) zx iH sE [.int .i64 7,.slice none 0 0,.string x,.bool false,.slice none 0 0,.int .i64 0,.bool false,.bool false,.string { data:=#[] },.int .i64 0,.string { data:=#[] },.slice none 0 0,.slice none 0 0] rfl rfl HS7.o HS8.o HO7.o ?_)
      intro w5 hy5 hf5 hz5;obtain⟨p,hp⟩:∃ p,w3.heap.size=p:=⟨_,rfl⟩;rw[hp] at hy5 hz5 ⊢;have hzl3:=HZ3.o.lt;have hb5:=HB3.o.fr hf5;have hr5:=HR3.o.fr hf5;have c5:=hb5.at_ (i:=0) rfl;have hpl:w.heap.size+1 < p:=by omega
      have HW:=lh (xO (α:=List Xpr) (f:=254) (cap:=#[.pointer (some ⟨w.heap.size,0,none⟩),.pointer (some ⟨p,0,none⟩)]) (fun w=>by kernel_rfl) rfl hr5 (by omega) (X:=qM S (d+1) ⟨s.go.l,max s.go.most (d+1)⟩) (V:=aDQ x p w5.heap.size) [p]
       (fun wa hra hfa=>aCr HSK.o HSO.o hra (by simp only;omega) (by simp only;omega) (hb5.fr hfa (by simp;omega)) (hy5.fr hfa (by simp;omega)) hfa.size (by omega) (by omega))
       (fun wa wb y hv hf=>hv.fr hf (by omega) (by omega)))
      have HZ5:=lh (HZ3.o.fr hf5);have HF5:=lh (HF3.o.trans hf5);have HZS5:=lh hz5;have HB5:=lh hb5;clear hy5 hf5 hz5 hb5 hr5 hp HLC HO7 HS7 HS8 HB3 HZ3 HF3 HR3 HZS;go_wp2_with fail
      cases hX:qM S (d+1) ⟨s.go.l,max s.go.most (d+1)⟩ with
      | none=>
       have HE:Hid (wE S d (aA x) s=none):=lh (by rw[HE0.o,hX]);rw[hX] at HW;refine HW.o.mono ?_;rintro e w6 ⟨rfl,hf6⟩;exact⟨rfl,HQ.o _ _ (bB HE.o (HF5.o.trans hf6 (fun x hx=>by simp at hx;exact hx.elim (fun h=>.inl (by simp[h])) (fun h=>.inr (by omega)))))⟩
      | some y=>
       obtain⟨l,s6⟩:=y;have HE1:Hid (wE S d (aA x) s=gF [41] (.of 7 l (aA x)) s6):=lh (by rw[HE0.o,hX]);rw[hX] at HW;clear hX HE0;refine HW.o.mono ?_;rintro e w6 ⟨rfl,⟨A,m,c,hy6,hca⟩,hr6,hf6⟩;have hb6:=HB5.o.fr hf6 (by simp;omega);have c6:=hb6.at_ (i:=0) rfl;have HY6:=lh hy6;have HR6:=lh hr6;have HCA:=lh (hca.mono (M:=fun g=>w.heap.size+1 < g/\p < g) (fun g hg=>by have:=HZS5.o;omega));have HZ6:=lh (HZ5.o.fr hf6 (by simp;omega));have HF6:=lh (HF5.o.trans hf6 (fun x hx=>by simp at hx;exact hx.elim (fun h=>.inl (by simp[h])) (fun h=>.inr (by omega))));clear hy6 hca hr6 hf6 hb6 HW c5 HB5 HZ5 HF5;go_wp2_with fail
       cases hn5:s6.next [41] with
       | true=>
        have HE:Hid (wE S d (aA x) s=some (.of 7 l (aA x),s6.go)):=lh (by rw[HE1.o,gF,if_pos hn5]);refine(qF HR6.o ⟨#[41]⟩ hn5).mono ?_;rintro e w7 ⟨rfl,hr7,hf7⟩;have HY7:=lh (HY6.o.fr hf7 (by simp;omega));have HCA7:=lh (HCA.o.fr hf7 (fun g hg=>by simp;omega));have HZ7:=lh (HZ6.o.fr hf7 (by simp;omega));have HF7:=lh (HF6.o.trans hf7 (fun x hx=>.inl hx));have HR7:=lh hr7;have hrw:=wG (what:=7) (op:=aA x) (l:=l) HCA7.o;rw[show S8 (aA x)=.string x from rfl] at hrw;have HRW7:=lh hrw;have hc1:(Tryz.prog.info? 109).map (·.size)=some ([.int .i64 7,.slice A m c,.string x,.bool false,.slice none 0 0,.int .i64 0,.bool false,.bool false,.string { data:=#[] },.int .i64 0,.string { data:=#[] },.slice none 0 0,.slice none 0 0]:List Value).length:=cD;have HC1:=lh hc1;have HL7:Hid (([.int .i64 7,.slice A m c,.string x,.bool false,.slice none 0 0,.int .i64 0,.bool false,.bool false,.string { data:=#[] },.int .i64 0,.string { data:=#[] },.slice none 0 0,.slice none 0 0]:List Value).length=13):=lh rfl;clear hr7 hf7 hn5 hrw hc1 c6 HY6 HZ6 HF6 HR6 HCA HCA7;go_wp2_with fail;refine(iE _).mono ?_;rintro e w8 ⟨rfl,rfl⟩;have hcz:zx.length=([.int .i64 7,.slice A m c,.string x,.bool false,.slice none 0 0,.int .i64 0,.bool false,.bool false,.string { data:=#[] },.int .i64 0,.string { data:=#[] },.slice none 0 0,.slice none 0 0]:List Value).length:=rfl;have HCZ:=lh hcz;have HO:=lh HRW7.o.one;clear hcz
        go_wp2_with (first
         | (with_reducible refine uA rfl 109 (.tmp 7) rfl rfl HY7.o Tryz.underlying109 rfl HC1.o ?_)
         | (with_reducible refine iA rfl 109 (.tmp 4) (.tmp 39) rfl [.int .i64 7,.slice A m c,.string x,.bool false,.slice none 0 0,.int .i64 0,.bool false,.bool false,.string { data:=#[] },.int .i64 0,.string { data:=#[] },.slice none 0 0,.slice none 0 0] rfl rfl HZ7.o HC1.o HCZ.o HO.o ?_))
        intro w9 hb9 hf9 hz9;have HB9:=lh hb9;have HF9:=lh hf9;clear hb9 hf9 hz9;go_wp2_with fail;exact bH rfl rfl HB9.o rfl (HQ.o _ _ (aB HE.o ⟨_,rfl,(HRW7.o.fr HF9.o (fun g hg=>by simp;omega)).mono (fun g hg=>by omega)⟩ (HR7.o.fr HF9.o (by simp;omega)) (HF7.o.trans HF9.o (fun x hx=>.inr (by simp at hx;omega)))))
       | false=>
        have HE:Hid (wE S d (aA x) s=none):=lh (by rw[HE1.o,gF,if_neg (by rw[hn5];simp)]);refine(mH HR6.o ⟨#[41]⟩ hn5).mono ?_;rintro e w7 ⟨rfl,hr7,hf7⟩;have HF7:=lh (HF6.o.trans hf7 (fun x hx=>.inl hx));clear hr7 hf7 hn5 c6;go_wp2_with fail;refine(aE _).mono ?_;rintro e w8 ⟨rfl,rfl⟩;exact⟨rfl,HQ.o _ _ (bB HE.o HF7.o)⟩
end
end
end Go.Proofs.YtbggkiebfflcdaaGreatDoor
