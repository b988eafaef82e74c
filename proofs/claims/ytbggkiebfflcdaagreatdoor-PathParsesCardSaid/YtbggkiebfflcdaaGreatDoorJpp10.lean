/-
  Joined by join.py: Ge Gf Gg
-/
import Derived.Test.YtbggkiebfflcdaaGreatDoorJpp9
set_option maxRecDepth 100000
set_option maxHeartbeats 32000000
namespace Go.Proofs.YtbggkiebfflcdaaGreatDoor
section
open Go.RowKit Go.Shelf
theorem rV {w:World} {r gl:Nat} {txt:ByteArray} {d:Int} {s:QS} (h:wD w r gl txt d s):Calls Tryz.prog 114 #[.pointer (some ⟨r,0,none⟩)] w (rJ (cF Slr.cells w) w r gl txt d (xB s)):=by
 refine bA fun R HQ=>?_;have hrlt:=h.lt;have HZ:=lh (Blk.new w 50 zs);have hf1:=(Fr.refl [] w).alloc (.cells zs.toArray 50);have HR1:=lh (h.fr hf1);have HF1:Hid (Fr [r] w _):=lh (hf1.mono (by simp));unfold zs at HZ HR1 HF1;clear hf1 h
 go_enter Tryz.func114,Tryz.ntmps114
 go_wp2_with fail
 cases hnx:s.next [42] with
 | true=>
  have HE:Hid (xB s=some (.of 2,s.go)):=lh (by unfold xB;rw[if_pos hnx]);refine(qF HR1.o ⟨#[42]⟩ hnx).mono ?_;rintro e w2 ⟨rfl,hr2,hf2⟩;have HZ2:=lh (HZ.o.fr hf2 (by simp;omega));have HR2:=lh hr2;have HF2:=lh (HF1.o.trans hf2 (fun x hx=>.inl hx));clear hr2 hf2 hnx HZ HR1 HF1;have z0:=HZ2.o.at_ (i:=0) rfl;have z1:=HZ2.o.at_ (i:=1) rfl;have z2:=HZ2.o.at_ (i:=2) rfl;have z3:=HZ2.o.at_ (i:=3) rfl;have z4:=HZ2.o.at_ (i:=4) rfl;have z5:=HZ2.o.at_ (i:=5) rfl;have z6:=HZ2.o.at_ (i:=6) rfl;have z7:=HZ2.o.at_ (i:=7) rfl;have z8:=HZ2.o.at_ (i:=8) rfl;have z9:=HZ2.o.at_ (i:=9) rfl;have zf:=HZ2.o.free;go_wp2_with fail;have hb9:=HZ2.o.setL (vs:=[.int .i64 2,.string { data:=#[] },.int .i64 0,.bool false,.bool false,.bool false,.int .i64 0,.int .i64 0,.int .i64 0,.slice none 0 0]) rfl;have hf9:Fr [w.heap.size] w2 _:=(Fr.refl [w.heap.size] w2).setL (g:=w.heap.size) (k:=0) (vs:=[.int .i64 2,.string { data:=#[] },.int .i64 0,.bool false,.bool false,.bool false,.int .i64 0,.int .i64 0,.int .i64 0,.slice none 0 0]) (.inl (by simp));exact dJ rfl rfl hb9 rfl (HQ.o _ _ (aB HE.o ⟨_,rfl,yF 2 [] 0 (false,false,false) (0,0,0)⟩ (HR2.o.fr hf9 (by simp;omega)) (HF2.o.trans hf9 (fun x hx=>.inr (by simp at hx;omega)))))
 | false=>
  have HE0:Hid (xB s=match s.take with | none=>none | some (t,s1)=>if t.kind=1 then some (.ofName t.s,s1) else none):=lh (by
   unfold xB QS.take;rw[if_neg (by rw[hnx];simp)]
   cases s.l <;> rfl)
  refine(mH HR1.o ⟨#[42]⟩ hnx).mono ?_;rintro e w2 ⟨rfl,hr2,hf2⟩;have HZ2:=lh (HZ.o.fr hf2 (by simp;omega));have HR2:=lh hr2;have HF2:=lh (HF1.o.trans hf2 (fun x hx=>.inl hx));have HT:=lh (xK hr2);clear hr2 hf2 hnx HZ HR1 HF1;go_wp2_with fail
  cases htk:s.take with
  | none=>
   have HE:Hid (xB s=none):=lh (by rw[HE0.o,htk]);rw[htk] at HT;refine HT.o.mono ?_;rintro e w3 ⟨rfl,hf⟩;exact⟨rfl,HQ.o _ _ (bB HE.o (HF2.o.trans hf (fun x hx=>.inl hx)))⟩
  | some y=>
   obtain⟨t,s1⟩:=y;have HE1:Hid (xB s=if t.kind=1 then some (.ofName t.s,s1) else none):=lh (by rw[HE0.o,htk]);rw[htk] at HT;clear htk HE0;refine HT.o.mono ?_;rintro e w3 ⟨_,rfl,hv,hr3,hf3⟩;unfold aDA at hv;subst hv;obtain⟨sv,dv,hsv,-,hv⟩:=sC t;rw[hv];have HZ3:=lh ((HZ2.o.fr hf3 (by simp;omega)).alloc (.cells #[.int .i64 (t.kind:Int),.string sv,.bool t.n.neg,.string dv,.int .i64 t.n.exp,.int .i64 (t.frm:Int),.int .i64 (t.til:Int)] 95));have HR3:=lh (hr3.fr ((Fr.refl [] w3).alloc (.cells #[.int .i64 (t.kind:Int),.string sv,.bool t.n.neg,.string dv,.int .i64 t.n.exp,.int .i64 (t.frm:Int),.int .i64 (t.til:Int)] 95)));have HF3:=lh ((HF2.o.trans hf3 (fun x hx=>.inl hx)).alloc (.cells #[.int .i64 (t.kind:Int),.string sv,.bool t.n.neg,.string dv,.int .i64 t.n.exp,.int .i64 (t.frm:Int),.int .i64 (t.til:Int)] 95))
   have HROW:Hid (∀ W,gA W (fun g=>w.heap.size<=g) (Slr.cells (.ofName t.s)) [.int .i64 1,.string sv,.int .i64 0,.bool false,.bool false,.bool false,.int .i64 0,.int .i64 0,.int .i64 0,.slice none 0 0]):=lh fun W=>by
    have h9:=yF (w:=W) (N:=fun g=>w.heap.size<=g) 1 t.s 0 (false,false,false) (0,0,0);rw[show S8 t.s=.string sv by rw[<- hsv];rfl] at h9;exact h9
   clear hv hsv hr3 hf3 HZ2 HR2 HF2 HT;obtain⟨k,hk⟩:∃ k,t.kind=k:=⟨_,rfl⟩;rw[hk] at HZ3 HR3 HF3 HE1 ⊢;clear hk
   by_cases hk1:k=1
   ·have HE:Hid (xB s=some (.ofName t.s,s1)):=lh (by rw[HE1.o,if_pos hk1]);have dk:((k:Int) == 1)=true:=by rw[hk1];rfl
    clear hk1;go_wp2_with fail;refine(iE _).mono ?_;rintro e w4 ⟨rfl,rfl⟩;generalize hw4:w3.alloc (.cells #[.int .i64 (k:Int),.string sv,.bool t.n.neg,.string dv,.int .i64 t.n.exp,.int .i64 (t.frm:Int),.int .i64 (t.til:Int)] 95)=w4 at *;have x1:w4.cell? ⟨w3.heap.size,1,none⟩=some (.string sv):=by rw[<- hw4];exact(Blk.new w3 95 [.int .i64 (k:Int),.string sv,.bool t.n.neg,.string dv,.int .i64 t.n.exp,.int .i64 (t.frm:Int),.int .i64 (t.til:Int)]).at_ (i:=1) rfl
    clear hw4;have z0:=HZ3.o.at_ (i:=0) rfl;have z1:=HZ3.o.at_ (i:=1) rfl;have z2:=HZ3.o.at_ (i:=2) rfl;have z3:=HZ3.o.at_ (i:=3) rfl;have z4:=HZ3.o.at_ (i:=4) rfl;have z5:=HZ3.o.at_ (i:=5) rfl;have z6:=HZ3.o.at_ (i:=6) rfl;have z7:=HZ3.o.at_ (i:=7) rfl;have z8:=HZ3.o.at_ (i:=8) rfl;have z9:=HZ3.o.at_ (i:=9) rfl;have zf:=HZ3.o.free;go_wp2_with fail;have hb9:=HZ3.o.setL (vs:=[.int .i64 1,.string sv,.int .i64 0,.bool false,.bool false,.bool false,.int .i64 0,.int .i64 0,.int .i64 0,.slice none 0 0]) rfl;have hf9:Fr [w.heap.size] w4 _:=(Fr.refl [w.heap.size] w4).setL (g:=w.heap.size) (k:=0) (vs:=[.int .i64 1,.string sv,.int .i64 0,.bool false,.bool false,.bool false,.int .i64 0,.int .i64 0,.int .i64 0,.slice none 0 0]) (.inl (by simp));exact dJ rfl rfl hb9 rfl (HQ.o _ _ (aB HE.o ⟨_,rfl,HROW.o _⟩ (HR3.o.fr hf9 (by simp;omega)) (HF3.o.trans hf9 (fun x hx=>.inr (by simp at hx;omega)))))
   ·have HE:Hid (xB s=none):=lh (by rw[HE1.o,if_neg hk1]);have dk:((k:Int) == 1)=false:=by rw[beq_eq_false_iff_ne];omega
    clear hk1;go_wp2_with fail;refine(aE _).mono ?_;rintro e w4 ⟨rfl,rfl⟩;exact⟨rfl,HQ.o _ _ (bB HE.o HF3.o)⟩
def EK (f:FuncId) (txt:ByteArray) (E:Int -> Rd Xpr) (n:Nat):Prop:=∀ (w:World) (r gl:Nat) (d:Int) (s:QS),wD w r gl txt d s -> s.l.length < n -> d+s.l.length<=80000 -> Calls Tryz.prog f #[.pointer (some ⟨r,0,none⟩)] w (rJ (cF Xpr.cells w) w r gl txt d (E d s))
def aDJ (p lo:Nat) (w:World) (e:Xpr):Prop:=∃ A c,Blk w p 50 [.int .i64 5,.string { data:=#[] },.int .i64 0,.bool false,.bool false,.bool false,.int .i64 0,.int .i64 0,.int .i64 0,.slice A 1 c]/\CAt w (fun g=>lo<=g) (.rows 13 [e.cells]) (.slice A 1 c)
theorem aDJ.fr {p lo r:Nat} {w w':World} {e:Xpr} (h:aDJ p lo w e) (hf:Fr [r] w w') (hp:p ≠ r) (hr:r < lo):aDJ p lo w' e:=by
 obtain⟨A,c,h1,h2⟩:=h;exact⟨A,c,h1.fr hf (by simpa using hp),h2.fr hf (fun g hg=>by simp;omega)⟩
section
variable {w : World} {r gl n lo : Nat} {txt : ByteArray} {d : Int} {s : QS} {E : Int -> Rd Xpr}
theorem aDK (hE:EK 167 txt E n) {p1 p3:Nat} {tb:TypeId} (h:wD w r gl txt d s) (hn:s.l.length < n) (hd:d+s.l.length<=80000) (hb1:Blk w p1 tb [.pointer (some ⟨r,0,none⟩)])
  (hb3:Blk w p3 50 [.int .i64 5,.string { data:=#[] },.int .i64 0,.bool false,.bool false,.bool false,.int .i64 0,.int .i64 0,.int .i64 0,.slice none 0 0]) (hlo:lo<=w.heap.size) (hp:r < p3) (hpl:p3 < lo):
  Calls Tryz.prog 166 #[.pointer (some ⟨p1,0,none⟩),.pointer (some ⟨p3,0,none⟩)] w (aAB (aDJ p3 lo) w r gl txt d [p3] (E d s)):=by
 refine bA fun R HQ=>?_;have b0:=hb1.at_ (i:=0) rfl;have HC:=lh (hE w r gl d s h hn hd);have HB3:=lh hb3;obtain⟨iu,hi,hz',hsz',hby⟩:=info_parts tW;have k0:0 < 13:=by decide
 have kb:13<=16777216:=by decide
 have hrl:=h.lt;clear hb1 hb3 h hE
 go_enter Tryz.func166,Tryz.ntmps166
 go_wp2_with fail
 cases hX:E d s with
 | none=>
  have HX:=lh hX;rw[hX] at HC;refine HC.o.mono ?_;rintro e w2 ⟨rfl,hf⟩;exact⟨rfl,HQ.o _ _ (pN HX.o (hf.mono (fun x hx=>.inl (by simp at hx;simp[hx]))))⟩
 | some y=>
  obtain⟨y,s'⟩:=y;have HX:=lh hX;rw[hX] at HC;clear hX;refine HC.o.mono ?_;rintro e w2 ⟨_,rfl,⟨cs,rfl,hcs⟩,hr2,hf2⟩;have HR2:=lh hr2;have HF2:=lh hf2;have HCS:=lh hcs;have HCL:Hid (cs.length=13):=lh (hcs.1.trans (kA y));have HB2:=lh (HB3.o.fr hf2 (by simp;omega));have hz2:=hf2.size;clear hr2 hf2 hcs HC HB3 b0
  go_wp2_with (with_reducible refine cC rfl (.tmp 3) rfl Tryz.underlying48 hi hz' cs rfl HCL.o hsz' rD k0 kb ?_)
  intro w3 hb3 hf3 hz3;have hca:=CAt.of_blk hb3 (HCS.o.fr hf3) (kA y) (by decide) (N:=fun g=>w.heap.size<=g) hz2;have HCA:=lh hca;have hb4:=HB2.o.fr hf3;have HB4:=lh hb4;have HF3:=lh (HF2.o.trans hf3);have HR3:=lh (HR2.o.fr hf3);have c9:=hb4.at_ (i:=9) rfl;have cf:=hb4.free;have hpl3:=hb4.lt;clear hb3 hf3 hz3 hca hb4;go_wp2_with fail
  go_end0
  have hf5:Fr [p3] w3 (w3.setCell ⟨p3,9,none⟩ (.slice (some ⟨w2.heap.size,0,none⟩) 1 1)):=(Fr.refl [p3] w3).setCell (.inl (by simp)) _;exact HQ.o _ _ (yK HX.o ⟨_,1,HB4.o.set_ 9 _,(HCA.o.fr hf5 (fun g hg=>by simp;omega)).mono (fun g hg=>by omega)⟩ (HR3.o.fr hf5 (by simpa using hp)) ((HF3.o.mono (by simp)).trans hf5 (fun x hx=>.inl (by simp at hx;simp[hx]))))
theorem fld0 (x0 x1 x2 x3 x4 x5 x6:Value) (W:World):(Instr.field 95 (.agg #[x0,x1,x2,x3,x4,x5,x6]) 0).run Tryz.prog W=.ok x0 W:=by kernel_rfl
theorem fld1 (x0 x1 x2 x3 x4 x5 x6:Value) (W:World):(Instr.field 95 (.agg #[x0,x1,x2,x3,x4,x5,x6]) 1).run Tryz.prog W=.ok x1 W:=by kernel_rfl
theorem dQ (hE:EK 167 txt E n) (h:wD w r gl txt d s) (hn:s.l.length<=n) (hd:d+s.l.length<=80000):Calls Tryz.prog 113 #[.pointer (some ⟨r,0,none⟩)] w (rJ (cF Slr.cells w) w r gl txt d (uG (aA txt) E d s)):=by
 refine bA fun R HQ=>?_;have hrlt:=h.lt;have hdp:=h.deep;obtain⟨w1,hw1⟩:∃ w1,w1=(w.alloc (.cells #[.pointer (some ⟨r,0,none⟩)] 60)).alloc (.cells #[.int .i64 0,.string { data:=#[] },.int .i64 0,.bool false,.bool false,.bool false,.int .i64 0,.int .i64 0,.int .i64 0,.slice none 0 0] 50):=⟨_,rfl⟩;have hb1:Blk w1 w.heap.size 60 [.pointer (some ⟨r,0,none⟩)]:=by rw[hw1];exact(Blk.new w 60 [.pointer (some ⟨r,0,none⟩)]).alloc _
 have hz1:Blk w1 (w.heap.size+1) 50 [.int .i64 0,.string { data:=#[] },.int .i64 0,.bool false,.bool false,.bool false,.int .i64 0,.int .i64 0,.int .i64 0,.slice none 0 0]:=by
  have:=Blk.new (w.alloc (.cells #[.pointer (some ⟨r,0,none⟩)] 60)) 50 [.int .i64 0,.string { data:=#[] },.int .i64 0,.bool false,.bool false,.bool false,.int .i64 0,.int .i64 0,.int .i64 0,.slice none 0 0];rw[hw1];simpa using this
 have hf1:Fr [] w w1:=by rw[hw1];exact((Fr.refl [] w).alloc _).alloc _
 have HB1:=lh hb1;have HZ1:=lh hz1;have HF1:Hid (Fr [r] w w1):=lh (hf1.mono (by simp));have HR1:=lh (h.fr hf1);have HE:=lh hE;have c1:=hb1.at_ (i:=0) rfl;clear hb1 hz1 hf1 hE h;have HP:=lh (yP HR1.o);obtain⟨sv,dv,hsv,-,hv⟩:=sC s.peek;rw[hv] at HP;have HSV:=lh hsv;obtain⟨k,hk⟩:∃ k,s.peek.kind=k:=⟨_,rfl⟩;rw[hk] at HP;have HK:=lh hk;clear hv hk hsv
 go_enter Tryz.func113,Tryz.ntmps113
 go_wp2_with fail;rw[<- hw1];clear hw1;refine HP.o.mono ?_;rintro e w2 ⟨rfl,hf2⟩;have hf2':Fr [r] w1 w2:=hf2.mono (by simp);have HB2:=lh (HB1.o.fr hf2' (by simp;omega));have HZ2:=lh (HZ1.o.fr hf2' (by simp;omega));have HF2:=lh (HF1.o.trans hf2' (fun x hx=>.inl hx));have HR2:=lh (HR1.o.fr hf2);have c2:=HB2.o.at_ (i:=0) rfl;have g0:=fld0 (.int .i64 (k:Int)) (.string sv) (.bool s.peek.n.neg) (.string dv) (.int .i64 s.peek.n.exp) (.int .i64 (s.peek.frm:Int)) (.int .i64 (s.peek.til:Int));clear hf2 hf2' HP HB1 HZ1 HF1 HR1 c1
 by_cases hk2:k=2
 ·obtain⟨t,l,hl,hpk⟩:=yO (s:=s) (by have:=HK.o;omega);have HS:Hid (uG (aA txt) E d s=some (.ofName s.peek.s,s.go)):=lh (by unfold uG;rw[if_pos (by rw[HK.o];exact hk2)]);have htk:s.take=some (t,s.go):=by unfold QS.take;rw[hl]
  have HT:=lh (xK HR2.o);rw[htk] at HT;have d0:((k:Int) == 2)=true:=by rw[hk2];rfl
  rw[hpk] at HSV HS;clear hl hpk htk hk2 HK;go_wp2_with fail;refine HT.o.mono ?_;rintro e w3 ⟨_,rfl,hv,hr3,hf3⟩;unfold aDA at hv;subst hv;obtain⟨sv2,dv2,hsv2,-,hv⟩:=sC t;rw[hv]
  have HROW:Hid (∀ W,gA W (fun g=>w.heap.size<=g) (Slr.cells (.ofName t.s)) [.int .i64 1,.string sv2,.int .i64 0,.bool false,.bool false,.bool false,.int .i64 0,.int .i64 0,.int .i64 0,.slice none 0 0]):=lh fun W=>by
   have h9:=yF (w:=W) (N:=fun g=>w.heap.size<=g) 1 t.s 0 (false,false,false) (0,0,0);rw[show S8 t.s=.string sv2 by rw[<- hsv2];rfl] at h9;exact h9
  have HB3:=lh (HB2.o.fr hf3 (by simp;omega));have HZ3:=lh (HZ2.o.fr hf3 (by simp;omega));have HF3:=lh (HF2.o.trans hf3 (fun x hx=>.inl hx));have HR3:=lh hr3;have g1:=fld1 (.int .i64 (t.kind:Int)) (.string sv2) (.bool t.n.neg) (.string dv2) (.int .i64 t.n.exp) (.int .i64 (t.frm:Int)) (.int .i64 (t.til:Int));clear hr3 hf3 hv hsv2 HT c2 HB2 HZ2 HF2 HR2 g0;have HE:=HS;have z0:=HZ3.o.at_ (i:=0) rfl;have z1:=HZ3.o.at_ (i:=1) rfl;have z2:=HZ3.o.at_ (i:=2) rfl;have z3:=HZ3.o.at_ (i:=3) rfl;have z4:=HZ3.o.at_ (i:=4) rfl;have z5:=HZ3.o.at_ (i:=5) rfl;have z6:=HZ3.o.at_ (i:=6) rfl;have z7:=HZ3.o.at_ (i:=7) rfl;have z8:=HZ3.o.at_ (i:=8) rfl;have z9:=HZ3.o.at_ (i:=9) rfl;have zf:=HZ3.o.free;go_wp2_with fail;have hb9:=HZ3.o.setL (vs:=[.int .i64 1,.string sv2,.int .i64 0,.bool false,.bool false,.bool false,.int .i64 0,.int .i64 0,.int .i64 0,.slice none 0 0]) rfl;have hf9:Fr [(w.heap.size+1)] w3 _:=(Fr.refl [(w.heap.size+1)] w3).setL (g:=(w.heap.size+1)) (k:=0) (vs:=[.int .i64 1,.string sv2,.int .i64 0,.bool false,.bool false,.bool false,.int .i64 0,.int .i64 0,.int .i64 0,.slice none 0 0]) (.inl (by simp));exact dJ rfl rfl hb9 rfl (HQ.o _ _ (aB HE.o ⟨_,rfl,HROW.o _⟩ (HR3.o.fr hf9 (by simp;omega)) (HF3.o.trans hf9 (fun x hx=>.inr (by simp at hx;omega)))))
 ·have d0:((k:Int) == 2)=false:=by rw[beq_eq_false_iff_ne];omega
  have HS1:Hid (uG (aA txt) E d s=if s.next [42]=true then some (.of 2,s.go)
   else if s.next [63]=true then
    match E (d+1) ⟨s.go.l,max s.most (d+1)⟩ with
    | none=>none
    | some (e,s)=>some (.ofExpr e,s)
   else if (nA (aA txt) s).2.2.next [58]=true then kE (aA txt) (nA (aA txt) s).1 (nA (aA txt) s).2.1 (nA (aA txt) s).2.2
   else if (nA (aA txt) s).2.1=true then some (.ofAt (nA (aA txt) s).1,(nA (aA txt) s).2.2) else none):=lh (by unfold uG;rw[if_neg (by rw[HK.o];exact hk2)];rfl)
  clear hk2 HK HSV;go_wp2_with fail
  cases hn1:s.next [42] with
  | true=>
   have HS:Hid (uG (aA txt) E d s=some (.of 2,s.go)):=lh (by rw[HS1.o,if_pos hn1]);refine(qF HR2.o ⟨#[42]⟩ hn1).mono ?_;rintro e w3 ⟨rfl,hr3,hf3⟩;have HB3:=lh (HB2.o.fr hf3 (by simp;omega));have HZ3:=lh (HZ2.o.fr hf3 (by simp;omega));have HF3:=lh (HF2.o.trans hf3 (fun x hx=>.inl hx));have HR3:=lh hr3;clear hr3 hf3 hn1 c2 HB2 HZ2 HF2 HR2;have HE:=HS;have z0:=HZ3.o.at_ (i:=0) rfl;have z1:=HZ3.o.at_ (i:=1) rfl;have z2:=HZ3.o.at_ (i:=2) rfl;have z3:=HZ3.o.at_ (i:=3) rfl;have z4:=HZ3.o.at_ (i:=4) rfl;have z5:=HZ3.o.at_ (i:=5) rfl;have z6:=HZ3.o.at_ (i:=6) rfl;have z7:=HZ3.o.at_ (i:=7) rfl;have z8:=HZ3.o.at_ (i:=8) rfl;have z9:=HZ3.o.at_ (i:=9) rfl;have zf:=HZ3.o.free;go_wp2_with fail;have hb9:=HZ3.o.setL (vs:=[.int .i64 2,.string { data:=#[] },.int .i64 0,.bool false,.bool false,.bool false,.int .i64 0,.int .i64 0,.int .i64 0,.slice none 0 0]) rfl;have hf9:Fr [(w.heap.size+1)] w3 _:=(Fr.refl [(w.heap.size+1)] w3).setL (g:=(w.heap.size+1)) (k:=0) (vs:=[.int .i64 2,.string { data:=#[] },.int .i64 0,.bool false,.bool false,.bool false,.int .i64 0,.int .i64 0,.int .i64 0,.slice none 0 0]) (.inl (by simp));exact dJ rfl rfl hb9 rfl (HQ.o _ _ (aB HE.o ⟨_,rfl,yF 2 [] 0 (false,false,false) (0,0,0)⟩ (HR3.o.fr hf9 (by simp;omega)) (HF3.o.trans hf9 (fun x hx=>.inr (by simp at hx;omega)))))
  | false=>
   have hs2:=HS1.o;rw[if_neg (by rw[hn1];simp)] at hs2;have HS2:=lh hs2;refine(mH HR2.o ⟨#[42]⟩ hn1).mono ?_;rintro e w3 ⟨rfl,hr3,hf3⟩;have HB3:=lh (HB2.o.fr hf3 (by simp;omega));have HZ3:=lh (HZ2.o.fr hf3 (by simp;omega));have HF3:=lh (HF2.o.trans hf3 (fun x hx=>.inl hx));have HR3:=lh hr3;have c3:=HB3.o.at_ (i:=0) rfl;clear hr3 hf3 hn1 hs2 HS1 c2 HB2 HZ2 HF2 HR2;go_wp2_with fail
   cases hn2:s.next [63] with
   | true=>
    have hs4:=HS2.o;rw[if_pos hn2] at hs4;have HS4:=lh hs4;obtain⟨t,htk,hlg⟩:=lJ hn2;refine(qF HR3.o ⟨#[63]⟩ hn2).mono ?_;rintro e w4 ⟨rfl,hr4,hf4⟩;have HB4:=lh (HB3.o.fr hf4 (by simp;omega));have HZ4:=lh (HZ3.o.fr hf4 (by simp;omega));have HF4:=lh (HF3.o.trans hf4 (fun x hx=>.inl hx));have HR4:=lh hr4;have c4:=HB4.o.at_ (i:=0) rfl;have cl4:=HB4.o.lt;clear hr4 hf4 hn2 hs4 HS2 c3 htk HB3 HZ3 HF3 HR3;go_wp2_with fail;have hf5:Fr [] w4 (w4.alloc (.cells #[.int .i64 5,.string { data:=#[] },.int .i64 0,.bool false,.bool false,.bool false,.int .i64 0,.int .i64 0,.int .i64 0,.slice none 0 0] 50)):=(Fr.refl [] w4).alloc _;have hy5:=Blk.new w4 50 [.int .i64 5,.string { data:=#[] },.int .i64 0,.bool false,.bool false,.bool false,.int .i64 0,.int .i64 0,.int .i64 0,.slice none 0 0];have hz5:(w4.alloc (.cells #[.int .i64 5,.string { data:=#[] },.int .i64 0,.bool false,.bool false,.bool false,.int .i64 0,.int .i64 0,.int .i64 0,.slice none 0 0] 50)).heap.size=w4.heap.size+1:=by simp
    have hr5:=HR4.o.fr hf5;have hb5:=HB4.o.fr hf5;have hZ5:=HZ4.o.fr hf5;have hF5:=HF4.o.trans hf5;have hz4:=HZ4.o.lt;generalize w4.alloc (.cells #[.int .i64 5,.string { data:=#[] },.int .i64 0,.bool false,.bool false,.bool false,.int .i64 0,.int .i64 0,.int .i64 0,.slice none 0 0] 50)=w5 at *
    have HW:=lh (xO (α:=Xpr) (f:=166) (cap:=#[.pointer (some ⟨w.heap.size,0,none⟩),.pointer (some ⟨w4.heap.size,0,none⟩)]) (fun w=>by kernel_rfl) rfl hr5 (by omega) (X:=E (d+1) ⟨s.go.l,max s.go.most (d+1)⟩) (V:=aDJ w4.heap.size w5.heap.size) [w4.heap.size]
     (fun wa hra hfa=>aDK HE.o hra (by simp only;omega) (by simp only;omega) (hb5.fr hfa (by simp;omega)) (hy5.fr hfa (by simp;omega)) hfa.size (by omega) (by omega))
     (fun wa wb y hv hf=>hv.fr hf (by omega) (by omega)))
    have HY5:=lh hy5;have HZ5:=lh hZ5;have HF5:=lh hF5;have HZS:=lh hz5;clear hf5 hy5 hz5 hr5 hb5 hZ5 hF5 c4
    cases hX:E (d+1) ⟨s.go.l,max s.go.most (d+1)⟩ with
    | none=>
     have HS:Hid (uG (aA txt) E d s=none):=lh (by have h9:E (d+1) ⟨s.go.l,max s.most (d+1)⟩=none:=hX;rw[HS4.o,h9]);rw[hX] at HW;refine HW.o.mono ?_;rintro e w6 ⟨rfl,hf6⟩;exact⟨rfl,HQ.o _ _ (bB HS.o (HF5.o.trans hf6 (fun x hx=>by simp at hx;exact hx.elim (fun h=>.inl (by simp[h])) (fun h=>.inr (by omega)))))⟩
    | some y=>
     obtain⟨y,s6⟩:=y;have HS:Hid (uG (aA txt) E d s=some (.ofExpr y,s6)):=lh (by have h9:E (d+1) ⟨s.go.l,max s.most (d+1)⟩=some (y,s6):=hX;rw[HS4.o,h9]);rw[hX] at HW;clear hX HS4;refine HW.o.mono ?_;rintro e w6 ⟨rfl,⟨A,c,hy6,hca⟩,hr6,hf6⟩;have HE9:=HS;have HY6:=lh hy6;have HCA:=lh hca;have HR6:=lh hr6;have HZ6:=lh (HZ5.o.fr hf6 (by simp;omega));have HF6:=lh (HF5.o.trans hf6 (fun x hx=>by simp at hx;exact hx.elim (fun h=>.inl (by simp[h])) (fun h=>.inr (by omega))));have hzl:=HZ6.o.lt;have hyl:=HY6.o.lt;have hne:¬ w.heap.size+1=w4.heap.size:=by omega
     clear hy6 hca hr6 hf6 HW HY5 HZ5 HF5 HB4 HZ4 HF4 HR4;have y0:=HY6.o.at_ (i:=0) rfl;have y1:=HY6.o.at_ (i:=1) rfl;have y2:=HY6.o.at_ (i:=2) rfl;have y3:=HY6.o.at_ (i:=3) rfl;have y4:=HY6.o.at_ (i:=4) rfl;have y5:=HY6.o.at_ (i:=5) rfl;have y6:=HY6.o.at_ (i:=6) rfl;have y7:=HY6.o.at_ (i:=7) rfl;have y8:=HY6.o.at_ (i:=8) rfl;have y9:=HY6.o.at_ (i:=9) rfl;have yf:=HY6.o.free;have z0:=HZ6.o.at_ (i:=0) rfl;have z1:=HZ6.o.at_ (i:=1) rfl;have z2:=HZ6.o.at_ (i:=2) rfl;have z3:=HZ6.o.at_ (i:=3) rfl;have z4:=HZ6.o.at_ (i:=4) rfl;have z5:=HZ6.o.at_ (i:=5) rfl;have z6:=HZ6.o.at_ (i:=6) rfl;have z7:=HZ6.o.at_ (i:=7) rfl;have z8:=HZ6.o.at_ (i:=8) rfl;have z9:=HZ6.o.at_ (i:=9) rfl;have zf:=HZ6.o.free;go_wp2_with fail;have hb9:=HZ6.o.setL (vs:=[.int .i64 5,.string { data:=#[] },.int .i64 0,.bool false,.bool false,.bool false,.int .i64 0,.int .i64 0,.int .i64 0,.slice A 1 c]) rfl;have hf9:Fr [w.heap.size+1] w6 _:=(Fr.refl [w.heap.size+1] w6).setL (g:=w.heap.size+1) (k:=0) (vs:=[.int .i64 5,.string { data:=#[] },.int .i64 0,.bool false,.bool false,.bool false,.int .i64 0,.int .i64 0,.int .i64 0,.slice A 1 c]) (.inl (by simp));exact dJ rfl rfl hb9 rfl (HQ.o _ _ (aB HE9.o ⟨_,rfl,.tl rfl (.tl rfl (.tl rfl (.tl rfl (.tl rfl (.tl rfl (.tl rfl (.tl rfl (.tl rfl (.cons ((HCA.o.fr hf9 (fun g hg=>by have:=HZS.o;simp;omega)).mono (fun g hg=>by have:=HZS.o;omega)) (.nil _ _))))))))))⟩ (HR6.o.fr hf9 (by simp;omega)) (HF6.o.trans hf9 (fun x hx=>.inr (by simp at hx;omega)))))
   | false=>
    have hs4:=HS2.o;rw[if_neg (by rw[hn2];simp)] at hs4;have HS4:=lh hs4;refine(mH HR3.o ⟨#[63]⟩ hn2).mono ?_;rintro e w4 ⟨rfl,hr4,hf4⟩;have HB4:=lh (HB3.o.fr hf4 (by simp;omega));have HZ4:=lh (HZ3.o.fr hf4 (by simp;omega));have HF4:=lh (HF3.o.trans hf4 (fun x hx=>.inl hx));have HR4:=lh hr4;have c4:=HB4.o.at_ (i:=0) rfl;clear hr4 hf4 hn2 hs4 HS2 c3 HB3 HZ3 HF3 HR3;go_wp2_with fail;refine(bR HR4.o).mono ?_;rintro e w5 ⟨rfl,hr5,hf5⟩;generalize nA (aA txt) s=a at *;obtain⟨n1,b1,s5⟩:=a
    simp only at hr5 HS4 ⊢
    have HB5:=lh (HB4.o.fr hf5 (by simp;omega));have HZ5:=lh (HZ4.o.fr hf5 (by simp;omega));have HF5:=lh (HF4.o.trans hf5 (fun x hx=>.inl hx));have HR5:=lh hr5;have c5:=HB5.o.at_ (i:=0) rfl;clear hr5 hf5 c4 HB4 HZ4 HF4 HR4;go_wp2_with fail;refine(zQ HR5.o ⟨#[58]⟩).mono ?_;rintro e w6 ⟨rfl,hf6⟩;have hf6':Fr [r] w5 w6:=hf6.mono (by simp);have HB6:=lh (HB5.o.fr hf6' (by simp;omega));have HZ6:=lh (HZ5.o.fr hf6' (by simp;omega));have HF6:=lh (HF5.o.trans hf6' (fun x hx=>.inl hx));have HR6:=lh (HR5.o.fr hf6);have c6:=HB6.o.at_ (i:=0) rfl;rw[show aA ⟨#[58]⟩=[58] from rfl];clear hf6 hf6' c5 HB5 HZ5 HF5 HR5
    cases hn3:s5.next [58] with
    | true=>
     have hs6:=HS4.o;rw[if_pos hn3] at hs6;have HS6:=lh hs6;have HC:=lh (aCq HR6.o n1 b1);clear hn3 hs6 HS4;go_wp2_with fail
     cases hX:kE (aA txt) n1 b1 s5 with
     | none=>
      have HS:Hid (uG (aA txt) E d s=none):=lh (by rw[HS6.o,hX]);rw[hX] at HC;refine HC.o.mono ?_;rintro e w7 ⟨rfl,hf7⟩;exact⟨rfl,HQ.o _ _ (bB HS.o (HF6.o.trans hf7 (fun x hx=>.inl hx)))⟩
     | some y=>
      obtain⟨y,s7⟩:=y;have HS:Hid (uG (aA txt) E d s=some (y,s7)):=lh (by rw[HS6.o,hX]);rw[hX] at HC;clear hX HS6;refine HC.o.mono ?_;rintro e w7 ⟨_,rfl,⟨cs,rfl,hcs⟩,hr7,hf7⟩;have HB7:=lh (HB6.o.fr hf7 (by simp;omega));have HZ7:=lh (HZ6.o.fr hf7 (by simp;omega));have HF7:=lh (HF6.o.trans hf7 (fun x hx=>.inl hx));have HR7:=lh hr7;have HCS:=lh hcs;have HCL:Hid (cs.length=10):=lh (hcs.1.trans (aD y));have hsz6:=HF6.o.size;have hz67:=HZ6.o.lt;have hcl1:(Tryz.prog.info? 50).map (·.size)=some cs.length:=by rw[HCL.o];exact vJ
      have hcl2:[Value.int .i64 0,.string { data:=#[] },.int .i64 0,.bool false,.bool false,.bool false,.int .i64 0,.int .i64 0,.int .i64 0,.slice none 0 0].length=cs.length:=by rw[HCL.o];rfl
      have HC1:=lh hcl1;have HC2:=lh hcl2;clear hr7 hf7 hcs hcl1 hcl2 c6 HC HB6 HZ6 HF6 HR6
      go_wp2_with (with_reducible refine iA rfl 50 (.tmp 2) (.tmp 37) rfl cs rfl rfl HZ7.o HC1.o HC2.o HCS.o.one ?_)
      intro w9 hb9 hf9 hz9;have HB9:=lh hb9;have HF9:=lh hf9;clear hb9 hf9 hz9;go_wp2_with fail;exact dJ rfl rfl HB9.o HCL.o (HQ.o _ _ (aB HS.o ⟨_,rfl,(HCS.o.fr HF9.o (fun g hg=>by simp;omega)).mono (fun g hg=>by omega)⟩ (HR7.o.fr HF9.o (by simp;omega)) (HF7.o.trans HF9.o (fun x hx=>.inr (by simp at hx;omega)))))
    | false=>
     have hs6:=HS4.o;rw[if_neg (by rw[hn3];simp)] at hs6
     cases b1 with
     | true=>
      have HS:Hid (uG (aA txt) E d s=some (.ofAt n1,s5)):=lh (by rw[hs6];rfl);clear hn3 hs6 HS4;go_wp2_with fail;refine(iE _).mono ?_;rintro e w7 ⟨rfl,rfl⟩;have HE9:=HS;clear HE;have HE:=HE9;have z0:=HZ6.o.at_ (i:=0) rfl;have z1:=HZ6.o.at_ (i:=1) rfl;have z2:=HZ6.o.at_ (i:=2) rfl;have z3:=HZ6.o.at_ (i:=3) rfl;have z4:=HZ6.o.at_ (i:=4) rfl;have z5:=HZ6.o.at_ (i:=5) rfl;have z6:=HZ6.o.at_ (i:=6) rfl;have z7:=HZ6.o.at_ (i:=7) rfl;have z8:=HZ6.o.at_ (i:=8) rfl;have z9:=HZ6.o.at_ (i:=9) rfl;have zf:=HZ6.o.free;go_wp2_with fail;have hb9:=HZ6.o.setL (vs:=[.int .i64 3,.string { data:=#[] },.int .i64 n1,.bool false,.bool false,.bool false,.int .i64 0,.int .i64 0,.int .i64 0,.slice none 0 0]) rfl;have hf9:Fr [(w.heap.size+1)] w6 _:=(Fr.refl [(w.heap.size+1)] w6).setL (g:=(w.heap.size+1)) (k:=0) (vs:=[.int .i64 3,.string { data:=#[] },.int .i64 n1,.bool false,.bool false,.bool false,.int .i64 0,.int .i64 0,.int .i64 0,.slice none 0 0]) (.inl (by simp));exact dJ rfl rfl hb9 rfl (HQ.o _ _ (aB HE.o ⟨_,rfl,yF 3 [] n1 (false,false,false) (0,0,0)⟩ (HR6.o.fr hf9 (by simp;omega)) (HF6.o.trans hf9 (fun x hx=>.inr (by simp at hx;omega)))))
     | false=>
      have HS:Hid (uG (aA txt) E d s=none):=lh (by rw[hs6];rfl);clear hn3 hs6 HS4;go_wp2_with fail;refine(aE _).mono ?_;rintro e w7 ⟨rfl,rfl⟩;exact⟨rfl,HQ.o _ _ (bB HS.o HF6.o)⟩
end
section
variable {txt : List UInt8} {E : Int -> Rd Xpr} {d : Int} {s : QS}
def fB (txt:List UInt8) (E:Int -> Rd Xpr) (d:Int) (s:QS):Option ((Sgm × Bool) × QS):=
 if s.next [46,46]=true then
  if s.go.next [91]=true then match kB txt E d s.go.go with | none=>none | some (l,s2)=>some ((.mk true l,true),s2)
  else match xB s.go with | none=>none | some (x,s2)=>some ((.mk true [x],true),s2)
 else if s.next [91]=true then match kB txt E d s.go with | none=>none | some (l,s2)=>some ((.mk false l,true),s2)
 else if s.next [46]=true then match xB s.go with | none=>none | some (x,s2)=>some ((.mk false [x],true),s2)
 else some ((.mk false [],false),s)
theorem zK (n:Nat):dD txt E d (n+1) s=match fB txt E d s with
  | none=>none
  | some ((g,true),s')=>(match dD txt E d n s' with | none=>none | some (m,s'')=>some (g :: m,s''))
  | some ((_,false),s')=>some ([],s'):=by
 rw[dD];unfold fB
 simp only
 cases h1:s.next [46,46] with
 | true=>
  simp only[if_true]
  cases h2:s.go.next [91] with
  | true=>simp only[if_true];cases kB txt E d s.go.go <;> rfl
  | false=>simp only[Bool.false_eq_true,if_false];cases xB s.go <;> rfl
 | false=>
  simp only[Bool.false_eq_true,if_false]
  cases h2:s.next [91] with
  | true=>simp only[if_true];cases kB txt E d s.go <;> rfl
  | false=>
   simp only[Bool.false_eq_true,if_false]
   cases h3:s.next [46] with
   | true=>simp only[if_true];cases xB s.go <;> rfl
   | false=>simp only[Bool.false_eq_true,if_false]
theorem dH {x:List UInt8} (h:s.next x=true):s.l.length=s.go.l.length+1:=by obtain⟨_,_,h2⟩:=lJ h;exact h2
theorem vY (hE:∀ d,(E d).on) {g:Sgm} {b:Bool} {s':QS} (h:fB txt E d s=some ((g,b),s')):s'.l.length<=s.l.length/\(b=true -> s'.l.length < s.l.length):=by
 unfold fB at h
 split at h
 ·rename_i h1
  have e1:=dH h1
  split at h
  ·rename_i h2
   have e2:=dH h2
   split at h
   ·cases h
   ·rename_i l s2 h3
    have:=(vG hE d _ _ _ h3).length_le;obtain⟨_,rfl⟩:=eA h;omega
  ·split at h
   ·cases h
   ·rename_i x s2 h3
    have:=(aI _ _ _ h3).length_le;obtain⟨_,rfl⟩:=eA h;omega
 ·split at h
  ·rename_i h2
   have e2:=dH h2
   split at h
   ·cases h
   ·rename_i l s2 h3
    have:=(vG hE d _ _ _ h3).length_le;obtain⟨_,rfl⟩:=eA h;omega
  ·split at h
   ·rename_i h2
    have e2:=dH h2
    split at h
    ·cases h
    ·rename_i x s2 h3
     have:=(aI _ _ _ h3).length_le;obtain⟨_,rfl⟩:=eA h;omega
   ·obtain⟨h1,rfl⟩:=eA h;obtain⟨_,rfl⟩:=Prod.mk.inj h1;exact⟨Nat.le_refl _,fun h=>by cases h⟩
end
def SgV (w:World) (w':World) (x:Sgm × Bool) (v:Value):Prop:=∃ cs,v=.tuple #[.agg cs.toArray,.bool x.2]/\gA w' (fun g=>w.heap.size<=g) x.1.cells cs
section
variable {w : World} {r gl n : Nat} {txt : ByteArray} {d : Int} {s : QS} {E : Int -> Rd Xpr}
theorem wY (hE:EK 167 txt E n) (hEo:∀ d,(E d).on) (h:wD w r gl txt d s) (hn:s.l.length<=n) (hd:d+s.l.length<=80000):Calls Tryz.prog 70 #[.pointer (some ⟨r,0,none⟩)] w (rJ (SgV w) w r gl txt d (fB (aA txt) E d s)):=by
 refine bA fun R HQ=>?_;have hrlt:=h.lt;have hdp:=h.deep;have hz0:=Blk.new w 54 [.bool false,.slice none 0 0];have hf0:=(Fr.refl [] w).alloc (.cells #[.bool false,.slice none 0 0] 54);have hs0:(w.alloc (.cells #[.bool false,.slice none 0 0] 54)).heap.size=w.heap.size+1:=by simp
 have HR0:=lh (h.fr hf0);have HZ0:=lh hz0;have HF0:Hid (Fr [r] w _):=lh (hf0.mono (by simp));obtain⟨iu,hi,hz',hsz',hby⟩:=info_parts aDH;have k0:0 < 10:=by decide
 have kb:10<=16777216:=by decide
 have HEK:=lh hE;have HEO:=lh hEo;clear hz0 hf0 h hE hEo
 go_enter Tryz.func70,Tryz.ntmps70
 go_wp2_with fail;generalize w.alloc (.cells #[.bool false,.slice none 0 0] 54)=w0 at *;have HS0:=lh hs0;clear hs0
 cases hn1:s.next [46,46] with
 | true=>
  have e1:=dH hn1
  have HE0:Hid (fB (aA txt) E d s=if s.go.next [91]=true then match kB (aA txt) E d s.go.go with | none=>none | some (l,s2)=>some ((.mk true l,true),s2)
   else match xB s.go with | none=>none | some (x,s2)=>some ((.mk true [x],true),s2)):=lh (by unfold fB;rw[if_pos hn1])
  refine(qF HR0.o ⟨#[46,46]⟩ hn1).mono ?_;rintro e w1 ⟨rfl,hr1,hf1⟩;have hf1':Fr [r] w w1:=HF0.o.trans hf1 (fun x hx=>.inl hx);have hz1:=HZ0.o.fr hf1 (by simp;omega);have hfa:Fr [] w1 (w1.alloc (.cells #[.bool true,.slice none 0 0] 54)):=(Fr.refl [] w1).alloc _;have hya:=Blk.new w1 54 [.bool true,.slice none 0 0];have hza:=hz1.fr hfa;have hra:=hr1.fr hfa;have hwz:=hz1.lt;clear hn1;go_upto_region 3 with fail
  generalize w1.alloc (.cells #[.bool true,.slice none 0 0] 54)=w2 at *;obtain⟨p,hp⟩:∃ p,w1.heap.size=p:=⟨_,rfl⟩;rw[hp] at hya ⊢;have hwp:w.heap.size < p:=by omega
  have HY2:=lh hya;have HZ2:=lh hza;have HF2:Hid (Fr [r] w w2):=lh (hf1'.trans hfa);have HR2:=lh hra;clear hf1 hf1' hz1 hfa hya hza hra hr1 hp hwz HF0 HZ0 HR0 HS0;go_wp2_with fail
  cases hnb:s.go.next [91] with
  | true=>
   have HEB:Hid (fB (aA txt) E d s=match kB (aA txt) E d s.go.go with | none=>none | some (l,s2)=>some ((.mk true l,true),s2)):=lh (by rw[HE0.o,if_pos hnb]);clear HE0;have e3:=dH hnb;refine(qF HR2.o ⟨#[91]⟩ hnb).mono ?_;rintro e w3 ⟨rfl,hr3,hf3⟩;have HY3:=lh (HY2.o.fr hf3 (by simp;omega));have HZ3:=lh (HZ2.o.fr hf3 (by simp;omega));have HF3:=lh (HF2.o.trans hf3 (fun x hx=>.inl hx));have HR3:=lh hr3;clear hr3 hf3 hnb HY2 HZ2 HF2 HR2;have HC:=lh (qV (f:=113) (n:=s.go.go.l.length) (fun w=>by kernel_rfl) (wP HEO.o d) (fun wa sa hra hna=>dQ HEK.o hra (by omega) (by omega)) HR3.o (Nat.le_refl _) ⟨#[44]⟩);rw[show aA ⟨#[44]⟩=[44] from rfl] at HC;go_wp2_with fail
   cases hX:eC [44] (uG (aA txt) E d) s.go.go with
   | none=>
    have HE:Hid (fB (aA txt) E d s=none):=lh (by rw[HEB.o,kB,hX]);rw[hX] at HC;refine HC.o.mono ?_;rintro e w4 ⟨rfl,hf4⟩;exact⟨rfl,HQ.o _ _ (bB HE.o (HF3.o.trans hf4 (fun x hx=>.inl hx)))⟩
   | some y=>
    obtain⟨l,s4⟩:=y;have HE1:Hid (fB (aA txt) E d s=match gF [93] l s4 with | none=>none | some (l,s2)=>some ((.mk true l,true),s2)):=lh (by rw[HEB.o,kB,hX]);rw[hX] at HC;clear hX HEB;refine HC.o.mono ?_;rintro e w4 ⟨_,rfl,hcv,hr4,hf4⟩;obtain⟨A,c,rfl,-⟩:=hcv.slice;have hyl3:=HY3.o.lt;have HY4:=lh (HY3.o.fr hf4 (by simp;omega));have HZ4:=lh (HZ3.o.fr hf4 (by simp;omega));have HF4:=lh (HF3.o.trans hf4 (fun x hx=>.inl hx));have HR4:=lh hr4;have hca:=hcv.mono (M:=fun g=>p < g) (fun g hg=>by omega);have hll:(l.map Slr.cells).length=l.length:=by simp
    rw[hll] at hca ⊢;clear hcv hr4 hf4 HC HY3 HZ3 HF3 HR3 hll;generalize l.length=ln at *;have HCA:=lh hca;have p1:=HY4.o.at_ (i:=1) rfl;have pf:=HY4.o.free;have pl:=HY4.o.lt;clear hca;go_upto_region 5 with fail
    have hf9:Fr [p] w4 (w4.setCell ⟨p,1,none⟩ (.slice A ln c)):=(Fr.refl [p] w4).setCell (.inl (by simp)) _;have hy9:Blk (w4.setCell ⟨p,1,none⟩ (.slice A ln c)) p 54 [.bool true,.slice A ln c]:=HY4.o.set_ 1 _;generalize w4.setCell ⟨p,1,none⟩ (.slice A ln c)=w9 at *;have HY9:=lh hy9;have HZ9:=lh (HZ4.o.fr hf9 (by simp;omega));have HF9:=lh (HF4.o.trans hf9 (fun x hx=>.inr (by simp at hx;omega)));have HR9:=lh (HR4.o.fr hf9 (by simp;omega));have HCA9:=lh ((HCA.o.fr hf9 (fun g hg=>by simp;omega)).mono (M:=fun g=>w.heap.size+1<=g) (fun g hg=>by omega));clear hf9 hy9 p1 pf pl HCA HY4 HZ4 HF4 HR4;go_wp2_with fail
    cases hn5:s4.next [93] with
    | true=>
     have HE:Hid (fB (aA txt) E d s=some ((.mk true l,true),s4.go)):=lh (by rw[HE1.o,gF,if_pos hn5]);refine(qF HR9.o ⟨#[93]⟩ hn5).mono ?_;rintro e w5 ⟨rfl,hr5,hf5⟩;have HY5:=lh (HY9.o.fr hf5 (by simp;omega));have HZ5:=lh (HZ9.o.fr hf5 (by simp;omega));have HF5:=lh (HF9.o.trans hf5 (fun x hx=>.inl hx));have HR5:=lh hr5;have HCA5:Hid (CAt w5 (fun g=>w.heap.size+1<=g) (.rows 10 (lH l)) (.slice A ln c)):=lh (by rw[yE];exact HCA9.o.fr hf5 (fun g hg=>by simp;omega));clear hr5 hf5 hn5 HY9 HZ9 HF9 HR9 HCA9;go_wp2_with fail;refine(iE _).mono ?_;rintro e w6 ⟨rfl,rfl⟩;have y0:=HY5.o.at_ (i:=0) rfl;have y1:=HY5.o.at_ (i:=1) rfl;have z0:=HZ5.o.at_ (i:=0) rfl;have z1:=HZ5.o.at_ (i:=1) rfl;have zf:=HZ5.o.free;have hzl:=HZ5.o.lt;have hyl:=HY5.o.lt;go_wp2_with fail;have hb9:=(HZ5.o.set_ 0 (.bool true)).set_ 1 (.slice A ln c);have hf9:Fr [w.heap.size] w5 ((w5.setCell ⟨w.heap.size,0,none⟩ (.bool true)).setCell ⟨w.heap.size,1,none⟩ (.slice A ln c)):=((Fr.refl [w.heap.size] w5).setCell (.inl (by simp)) _).setCell (.inl (by simp)) _;exact bodyPost_ret (fA rfl rfl hb9 Tryz.underlying54 rfl (by kernel_rfl)) rfl (HQ.o _ _ (aB HE.o ⟨_,rfl,.tl rfl (.cons ((HCA5.o.fr hf9 (fun g hg=>by simp;omega)).mono (fun g hg=>by omega)) (.nil _ _))⟩ (HR5.o.fr hf9 (by simp;omega)) (HF5.o.trans hf9 (fun x hx=>.inr (by simp at hx;omega)))))
    | false=>
     have HE:Hid (fB (aA txt) E d s=none):=lh (by rw[HE1.o,gF,if_neg (by rw[hn5];simp)]);refine(mH HR9.o ⟨#[93]⟩ hn5).mono ?_;rintro e w5 ⟨rfl,hr5,hf5⟩;have HF5:=lh (HF9.o.trans hf5 (fun x hx=>.inl hx));clear hr5 hf5 hn5;go_wp2_with fail;refine(aE _).mono ?_;rintro e w6 ⟨rfl,rfl⟩;exact⟨rfl,HQ.o _ _ (bB HE.o HF5.o)⟩
  | false=>
   have HE1:Hid (fB (aA txt) E d s=match xB s.go with | none=>none | some (x,s2)=>some ((.mk true [x],true),s2)):=lh (by rw[HE0.o,if_neg (by rw[hnb];simp)]);refine(mH HR2.o ⟨#[91]⟩ hnb).mono ?_;rintro e w3 ⟨rfl,hr3,hf3⟩;have HY3:=lh (HY2.o.fr hf3 (by simp;omega));have HZ3:=lh (HZ2.o.fr hf3 (by simp;omega));have HF3:=lh (HF2.o.trans hf3 (fun x hx=>.inl hx));have HR3:=lh hr3;have q0:=HY3.o.at_ (i:=0) rfl;clear hr3 hf3 hnb HE0 HY2 HZ2 HF2 HR2;have HC:=lh (rV HR3.o);go_wp2_with fail
   cases hX:xB s.go with
   | none=>
    have HE:Hid (fB (aA txt) E d s=none):=lh (by rw[HE1.o,hX]);rw[hX] at HC;refine HC.o.mono ?_;rintro e w7 ⟨rfl,hf7⟩;exact⟨rfl,HQ.o _ _ (bB HE.o (HF3.o.trans hf7 (fun x hx=>.inl hx)))⟩
   | some y=>
    obtain⟨y,s7⟩:=y;have HE:Hid (fB (aA txt) E d s=some ((.mk true [y],true),s7)):=lh (by rw[HE1.o,hX]);rw[hX] at HC;clear hX HE1;refine HC.o.mono ?_;rintro e w7 ⟨_,rfl,⟨cs,rfl,hcs⟩,hr7,hf7⟩;have HY7:=lh (HY3.o.fr hf7 (by simp;omega));have HZ7:=lh (HZ3.o.fr hf7 (by simp;omega));have HF7:=lh (HF3.o.trans hf7 (fun x hx=>.inl hx));have HR7:=lh hr7;have HCS:=lh hcs;have HCL:Hid (cs.length=10):=lh (hcs.1.trans (aD y));have hyl6:=HY3.o.lt;clear hr7 hf7 hcs HC HY3 HZ3 HF3 HR3
    go_wp2_with (with_reducible refine cC rfl (.tmp 28) rfl Tryz.underlying52 hi hz' cs rfl HCL.o hsz' uJ k0 kb ?_)
    intro w8 hb8 hf8 hz8;have hsz7:=HF7.o.size;have hyl7:=HY7.o.lt;have hca:=CAt.of_blk hb8 ((HCS.o.fr hf8).mono (M:=fun g=>p < g) (fun g hg=>by omega)) (aD y) (by decide) hyl7;have hf8':Fr [r] w7 w8:=hf8.mono (by simp);have HY8:=lh (HY7.o.fr hf8' (by simp;omega));have HZ8:=lh (HZ7.o.fr hf8' (by simp;omega));have HF8:=lh (HF7.o.trans hf8' (fun x hx=>.inl hx));have HR8:=lh (HR7.o.fr hf8);have HCA:=lh hca;have p1:=HY8.o.at_ (i:=1) rfl;have pf:=HY8.o.free;have pl:=HY8.o.lt;clear hca;go_upto_region 8 with fail
    have hf9:Fr [p] w8 (w8.setCell ⟨p,1,none⟩ (.slice (some ⟨w7.heap.size,0,none⟩) 1 1)):=(Fr.refl [p] w8).setCell (.inl (by simp)) _;have hy9:Blk (w8.setCell ⟨p,1,none⟩ (.slice (some ⟨w7.heap.size,0,none⟩) 1 1)) p 54 [.bool true,.slice (some ⟨w7.heap.size,0,none⟩) 1 1]:=HY8.o.set_ 1 _;generalize w8.setCell ⟨p,1,none⟩ (.slice (some ⟨w7.heap.size,0,none⟩) 1 1)=w9 at *;have HY9:=lh hy9;have HZ9:=lh (HZ8.o.fr hf9 (by simp;omega));have HF9:=lh (HF8.o.trans hf9 (fun x hx=>.inr (by simp at hx;omega)));have HR9:=lh (HR8.o.fr hf9 (by simp;omega));have HCA9:=lh ((HCA.o.fr hf9 (fun g hg=>by simp;omega)).mono (M:=fun g=>w.heap.size+1<=g) (fun g hg=>by omega));clear hf9 hy9 p1 pf pl HCA HY8 HZ8 HF8 HR8;have y0:=HY9.o.at_ (i:=0) rfl;have y1:=HY9.o.at_ (i:=1) rfl;have z0:=HZ9.o.at_ (i:=0) rfl;have z1:=HZ9.o.at_ (i:=1) rfl;have zf:=HZ9.o.free;have hzl:=HZ9.o.lt;have hyl:=HY9.o.lt;go_wp2_with fail;have hb9:=(HZ9.o.set_ 0 (.bool true)).set_ 1 (.slice (some ⟨w7.heap.size,0,none⟩) 1 1);have hf9:Fr [w.heap.size] w9 ((w9.setCell ⟨w.heap.size,0,none⟩ (.bool true)).setCell ⟨w.heap.size,1,none⟩ (.slice (some ⟨w7.heap.size,0,none⟩) 1 1)):=((Fr.refl [w.heap.size] w9).setCell (.inl (by simp)) _).setCell (.inl (by simp)) _;exact bodyPost_ret (fA rfl rfl hb9 Tryz.underlying54 rfl (by kernel_rfl)) rfl (HQ.o _ _ (aB HE.o ⟨_,rfl,.tl rfl (.cons ((HCA9.o.fr hf9 (fun g hg=>by simp;omega)).mono (fun g hg=>by omega)) (.nil _ _))⟩ (HR9.o.fr hf9 (by simp;omega)) (HF9.o.trans hf9 (fun x hx=>.inr (by simp at hx;omega)))))
 | false=>
  have HE0:Hid (fB (aA txt) E d s=if s.next [91]=true then match kB (aA txt) E d s.go with | none=>none | some (l,s2)=>some ((.mk false l,true),s2)
   else if s.next [46]=true then match xB s.go with | none=>none | some (x,s2)=>some ((.mk false [x],true),s2) else some ((.mk false [],false),s)):=lh (by unfold fB;rw[if_neg (by rw[hn1];simp)])
  refine(mH HR0.o ⟨#[46,46]⟩ hn1).mono ?_;rintro e w1 ⟨rfl,hr1,hf1⟩;have hf1':Fr [r] w w1:=HF0.o.trans hf1 (fun x hx=>.inl hx);have hz1:=HZ0.o.fr hf1 (by simp;omega);have hfa:Fr [] w1 (w1.alloc (.cells #[.bool false,.slice none 0 0] 54)):=(Fr.refl [] w1).alloc _;have hya:=Blk.new w1 54 [.bool false,.slice none 0 0];have hza:=hz1.fr hfa;have hra:=hr1.fr hfa;have hwz:=hz1.lt;clear hn1;go_upto_region 3 with fail
  generalize w1.alloc (.cells #[.bool false,.slice none 0 0] 54)=w2 at *;obtain⟨p,hp⟩:∃ p,w1.heap.size=p:=⟨_,rfl⟩;rw[hp] at hya ⊢;have hwp:w.heap.size < p:=by omega
  have HY2:=lh hya;have HZ2:=lh hza;have HF2:Hid (Fr [r] w w2):=lh (hf1'.trans hfa);have HR2:=lh hra;clear hf1 hf1' hz1 hfa hya hza hra hr1 hp hwz HF0 HZ0 HR0 HS0;go_wp2_with fail
  cases hnb:s.next [91] with
  | true=>
   have HEB:Hid (fB (aA txt) E d s=match kB (aA txt) E d s.go with | none=>none | some (l,s2)=>some ((.mk false l,true),s2)):=lh (by rw[HE0.o,if_pos hnb]);clear HE0;have e3:=dH hnb;refine(qF HR2.o ⟨#[91]⟩ hnb).mono ?_;rintro e w3 ⟨rfl,hr3,hf3⟩;have HY3:=lh (HY2.o.fr hf3 (by simp;omega));have HZ3:=lh (HZ2.o.fr hf3 (by simp;omega));have HF3:=lh (HF2.o.trans hf3 (fun x hx=>.inl hx));have HR3:=lh hr3;clear hr3 hf3 hnb HY2 HZ2 HF2 HR2;have HC:=lh (qV (f:=113) (n:=s.go.l.length) (fun w=>by kernel_rfl) (wP HEO.o d) (fun wa sa hra hna=>dQ HEK.o hra (by omega) (by omega)) HR3.o (Nat.le_refl _) ⟨#[44]⟩);rw[show aA ⟨#[44]⟩=[44] from rfl] at HC;go_wp2_with fail
   cases hX:eC [44] (uG (aA txt) E d) s.go with
   | none=>
    have HE:Hid (fB (aA txt) E d s=none):=lh (by rw[HEB.o,kB,hX]);rw[hX] at HC;refine HC.o.mono ?_;rintro e w4 ⟨rfl,hf4⟩;exact⟨rfl,HQ.o _ _ (bB HE.o (HF3.o.trans hf4 (fun x hx=>.inl hx)))⟩
   | some y=>
    obtain⟨l,s4⟩:=y;have HE1:Hid (fB (aA txt) E d s=match gF [93] l s4 with | none=>none | some (l,s2)=>some ((.mk false l,true),s2)):=lh (by rw[HEB.o,kB,hX]);rw[hX] at HC;clear hX HEB;refine HC.o.mono ?_;rintro e w4 ⟨_,rfl,hcv,hr4,hf4⟩;obtain⟨A,c,rfl,-⟩:=hcv.slice;have hyl3:=HY3.o.lt;have HY4:=lh (HY3.o.fr hf4 (by simp;omega));have HZ4:=lh (HZ3.o.fr hf4 (by simp;omega));have HF4:=lh (HF3.o.trans hf4 (fun x hx=>.inl hx));have HR4:=lh hr4;have hca:=hcv.mono (M:=fun g=>p < g) (fun g hg=>by omega);have hll:(l.map Slr.cells).length=l.length:=by simp
    rw[hll] at hca ⊢;clear hcv hr4 hf4 HC HY3 HZ3 HF3 HR3 hll;generalize l.length=ln at *;have HCA:=lh hca;have p1:=HY4.o.at_ (i:=1) rfl;have pf:=HY4.o.free;have pl:=HY4.o.lt;clear hca;go_upto_region 5 with fail
    have hf9:Fr [p] w4 (w4.setCell ⟨p,1,none⟩ (.slice A ln c)):=(Fr.refl [p] w4).setCell (.inl (by simp)) _;have hy9:Blk (w4.setCell ⟨p,1,none⟩ (.slice A ln c)) p 54 [.bool false,.slice A ln c]:=HY4.o.set_ 1 _;generalize w4.setCell ⟨p,1,none⟩ (.slice A ln c)=w9 at *;have HY9:=lh hy9;have HZ9:=lh (HZ4.o.fr hf9 (by simp;omega));have HF9:=lh (HF4.o.trans hf9 (fun x hx=>.inr (by simp at hx;omega)));have HR9:=lh (HR4.o.fr hf9 (by simp;omega));have HCA9:=lh ((HCA.o.fr hf9 (fun g hg=>by simp;omega)).mono (M:=fun g=>w.heap.size+1<=g) (fun g hg=>by omega));clear hf9 hy9 p1 pf pl HCA HY4 HZ4 HF4 HR4;go_wp2_with fail
    cases hn5:s4.next [93] with
    | true=>
     have HE:Hid (fB (aA txt) E d s=some ((.mk false l,true),s4.go)):=lh (by rw[HE1.o,gF,if_pos hn5]);refine(qF HR9.o ⟨#[93]⟩ hn5).mono ?_;rintro e w5 ⟨rfl,hr5,hf5⟩;have HY5:=lh (HY9.o.fr hf5 (by simp;omega));have HZ5:=lh (HZ9.o.fr hf5 (by simp;omega));have HF5:=lh (HF9.o.trans hf5 (fun x hx=>.inl hx));have HR5:=lh hr5;have HCA5:Hid (CAt w5 (fun g=>w.heap.size+1<=g) (.rows 10 (lH l)) (.slice A ln c)):=lh (by rw[yE];exact HCA9.o.fr hf5 (fun g hg=>by simp;omega));clear hr5 hf5 hn5 HY9 HZ9 HF9 HR9 HCA9;go_wp2_with fail;refine(iE _).mono ?_;rintro e w6 ⟨rfl,rfl⟩;have y0:=HY5.o.at_ (i:=0) rfl;have y1:=HY5.o.at_ (i:=1) rfl;have z0:=HZ5.o.at_ (i:=0) rfl;have z1:=HZ5.o.at_ (i:=1) rfl;have zf:=HZ5.o.free;have hzl:=HZ5.o.lt;have hyl:=HY5.o.lt;go_wp2_with fail;have hb9:=(HZ5.o.set_ 0 (.bool false)).set_ 1 (.slice A ln c);have hf9:Fr [w.heap.size] w5 ((w5.setCell ⟨w.heap.size,0,none⟩ (.bool false)).setCell ⟨w.heap.size,1,none⟩ (.slice A ln c)):=((Fr.refl [w.heap.size] w5).setCell (.inl (by simp)) _).setCell (.inl (by simp)) _;exact bodyPost_ret (fA rfl rfl hb9 Tryz.underlying54 rfl (by kernel_rfl)) rfl (HQ.o _ _ (aB HE.o ⟨_,rfl,.tl rfl (.cons ((HCA5.o.fr hf9 (fun g hg=>by simp;omega)).mono (fun g hg=>by omega)) (.nil _ _))⟩ (HR5.o.fr hf9 (by simp;omega)) (HF5.o.trans hf9 (fun x hx=>.inr (by simp at hx;omega)))))
    | false=>
     have HE:Hid (fB (aA txt) E d s=none):=lh (by rw[HE1.o,gF,if_neg (by rw[hn5];simp)]);refine(mH HR9.o ⟨#[93]⟩ hn5).mono ?_;rintro e w5 ⟨rfl,hr5,hf5⟩;have HF5:=lh (HF9.o.trans hf5 (fun x hx=>.inl hx));clear hr5 hf5 hn5;go_wp2_with fail;refine(aE _).mono ?_;rintro e w6 ⟨rfl,rfl⟩;exact⟨rfl,HQ.o _ _ (bB HE.o HF5.o)⟩
  | false=>
   have hE1:=HE0.o;rw[if_neg (by rw[hnb];simp)] at hE1;have HE2:=lh hE1;refine(mH HR2.o ⟨#[91]⟩ hnb).mono ?_;rintro e w3 ⟨rfl,hr3,hf3⟩;have HY3:=lh (HY2.o.fr hf3 (by simp;omega));have HZ3:=lh (HZ2.o.fr hf3 (by simp;omega));have HF3:=lh (HF2.o.trans hf3 (fun x hx=>.inl hx));have HR3:=lh hr3;have q0:=HY3.o.at_ (i:=0) rfl;clear hr3 hf3 hnb hE1 HE0 HY2 HZ2 HF2 HR2;go_wp2_with fail
   cases hn4:s.next [46] with
   | true=>
    have HE1:Hid (fB (aA txt) E d s=match xB s.go with | none=>none | some (x,s2)=>some ((.mk false [x],true),s2)):=lh (by rw[HE2.o,if_pos hn4]);refine(qF HR3.o ⟨#[46]⟩ hn4).mono ?_;rintro e w4 ⟨rfl,hr4,hf4⟩;have HY4:=lh (HY3.o.fr hf4 (by simp;omega));have HZ4:=lh (HZ3.o.fr hf4 (by simp;omega));have HF4:=lh (HF3.o.trans hf4 (fun x hx=>.inl hx));have HR4:=lh hr4;clear hr4 hf4 hn4 q0 HE2 HY3 HZ3 HF3 HR3;have HC:=lh (rV HR4.o);go_wp2_with fail
    cases hX:xB s.go with
    | none=>
     have HE:Hid (fB (aA txt) E d s=none):=lh (by rw[HE1.o,hX]);rw[hX] at HC;refine HC.o.mono ?_;rintro e w7 ⟨rfl,hf7⟩;exact⟨rfl,HQ.o _ _ (bB HE.o (HF4.o.trans hf7 (fun x hx=>.inl hx)))⟩
    | some y=>
     obtain⟨y,s7⟩:=y;have HE:Hid (fB (aA txt) E d s=some ((.mk false [y],true),s7)):=lh (by rw[HE1.o,hX]);rw[hX] at HC;clear hX HE1;refine HC.o.mono ?_;rintro e w7 ⟨_,rfl,⟨cs,rfl,hcs⟩,hr7,hf7⟩;have HY7:=lh (HY4.o.fr hf7 (by simp;omega));have HZ7:=lh (HZ4.o.fr hf7 (by simp;omega));have HF7:=lh (HF4.o.trans hf7 (fun x hx=>.inl hx));have HR7:=lh hr7;have HCS:=lh hcs;have HCL:Hid (cs.length=10):=lh (hcs.1.trans (aD y));have hyl6:=HY4.o.lt;clear hr7 hf7 hcs HC HY4 HZ4 HF4 HR4
     go_wp2_with (with_reducible refine cC rfl (.tmp 28) rfl Tryz.underlying52 hi hz' cs rfl HCL.o hsz' uJ k0 kb ?_)
     intro w8 hb8 hf8 hz8;have hsz7:=HF7.o.size;have hyl7:=HY7.o.lt;have hca:=CAt.of_blk hb8 ((HCS.o.fr hf8).mono (M:=fun g=>p < g) (fun g hg=>by omega)) (aD y) (by decide) hyl7;have hf8':Fr [r] w7 w8:=hf8.mono (by simp);have HY8:=lh (HY7.o.fr hf8' (by simp;omega));have HZ8:=lh (HZ7.o.fr hf8' (by simp;omega));have HF8:=lh (HF7.o.trans hf8' (fun x hx=>.inl hx));have HR8:=lh (HR7.o.fr hf8);have HCA:=lh hca;have p1:=HY8.o.at_ (i:=1) rfl;have pf:=HY8.o.free;have pl:=HY8.o.lt;clear hca;go_upto_region 8 with fail
     have hf9:Fr [p] w8 (w8.setCell ⟨p,1,none⟩ (.slice (some ⟨w7.heap.size,0,none⟩) 1 1)):=(Fr.refl [p] w8).setCell (.inl (by simp)) _;have hy9:Blk (w8.setCell ⟨p,1,none⟩ (.slice (some ⟨w7.heap.size,0,none⟩) 1 1)) p 54 [.bool false,.slice (some ⟨w7.heap.size,0,none⟩) 1 1]:=HY8.o.set_ 1 _;generalize w8.setCell ⟨p,1,none⟩ (.slice (some ⟨w7.heap.size,0,none⟩) 1 1)=w9 at *;have HY9:=lh hy9;have HZ9:=lh (HZ8.o.fr hf9 (by simp;omega));have HF9:=lh (HF8.o.trans hf9 (fun x hx=>.inr (by simp at hx;omega)));have HR9:=lh (HR8.o.fr hf9 (by simp;omega));have HCA9:=lh ((HCA.o.fr hf9 (fun g hg=>by simp;omega)).mono (M:=fun g=>w.heap.size+1<=g) (fun g hg=>by omega));clear hf9 hy9 p1 pf pl HCA HY8 HZ8 HF8 HR8;have y0:=HY9.o.at_ (i:=0) rfl;have y1:=HY9.o.at_ (i:=1) rfl;have z0:=HZ9.o.at_ (i:=0) rfl;have z1:=HZ9.o.at_ (i:=1) rfl;have zf:=HZ9.o.free;have hzl:=HZ9.o.lt;have hyl:=HY9.o.lt;go_wp2_with fail;have hb9:=(HZ9.o.set_ 0 (.bool false)).set_ 1 (.slice (some ⟨w7.heap.size,0,none⟩) 1 1);have hf9:Fr [w.heap.size] w9 ((w9.setCell ⟨w.heap.size,0,none⟩ (.bool false)).setCell ⟨w.heap.size,1,none⟩ (.slice (some ⟨w7.heap.size,0,none⟩) 1 1)):=((Fr.refl [w.heap.size] w9).setCell (.inl (by simp)) _).setCell (.inl (by simp)) _;exact bodyPost_ret (fA rfl rfl hb9 Tryz.underlying54 rfl (by kernel_rfl)) rfl (HQ.o _ _ (aB HE.o ⟨_,rfl,.tl rfl (.cons ((HCA9.o.fr hf9 (fun g hg=>by simp;omega)).mono (fun g hg=>by omega)) (.nil _ _))⟩ (HR9.o.fr hf9 (by simp;omega)) (HF9.o.trans hf9 (fun x hx=>.inr (by simp at hx;omega)))))
   | false=>
    have HE:Hid (fB (aA txt) E d s=some ((.mk false [],false),s)):=lh (by rw[HE2.o,if_neg (by rw[hn4];simp)]);refine(mH HR3.o ⟨#[46]⟩ hn4).mono ?_;rintro e w4 ⟨rfl,hr4,hf4⟩;have HY4:=lh (HY3.o.fr hf4 (by simp;omega));have HZ4:=lh (HZ3.o.fr hf4 (by simp;omega));have HF4:=lh (HF3.o.trans hf4 (fun x hx=>.inl hx));have HR4:=lh hr4;have HCA9:Hid (CAt w4 (fun g=>w.heap.size+1<=g) (.rows 10 (lH [])) (.slice none 0 0)):=lh (CAt.nil _ _ (by decide) none 0);clear hr4 hf4 hn4 q0 HE2 HY3 HZ3 HF3 HR3;have y0:=HY4.o.at_ (i:=0) rfl;have y1:=HY4.o.at_ (i:=1) rfl;have z0:=HZ4.o.at_ (i:=0) rfl;have z1:=HZ4.o.at_ (i:=1) rfl;have zf:=HZ4.o.free;have hzl:=HZ4.o.lt;have hyl:=HY4.o.lt;go_wp2_with fail;have hb9:=(HZ4.o.set_ 0 (.bool false)).set_ 1 (.slice none 0 0);have hf9:Fr [w.heap.size] w4 ((w4.setCell ⟨w.heap.size,0,none⟩ (.bool false)).setCell ⟨w.heap.size,1,none⟩ (.slice none 0 0)):=((Fr.refl [w.heap.size] w4).setCell (.inl (by simp)) _).setCell (.inl (by simp)) _;exact bodyPost_ret (fA rfl rfl hb9 Tryz.underlying54 rfl (by kernel_rfl)) rfl (HQ.o _ _ (aB HE.o ⟨_,rfl,.tl rfl (.cons ((HCA9.o.fr hf9 (fun g hg=>by simp;omega)).mono (fun g hg=>by omega)) (.nil _ _))⟩ (HR4.o.fr hf9 (by simp;omega)) (HF4.o.trans hf9 (fun x hx=>.inr (by simp at hx;omega)))))
end
theorem aHc:(Tryz.prog.info? 54).map (fun i=>(i.zero,i.size,i.bytes))=some (some (.agg #[.bool false,.slice none 0 0]),2,32):=by kernel_rfl
theorem cI:(Tryz.prog.info? 25).map (·.size)=some 2:=by kernel_rfl
theorem aDL:(Value.agg #[.bool false,.slice none 0 0]).cells.size=2:=rfl
def QrRel (w:World) (r gl n:Nat) (txt:ByteArray) (d:Int) (E:Int -> Rd Xpr) (rel:Bool) (X:Option (List Sgm × QS)) (j:Nat) (wr:World):Prop:=
 ∃ (acc:List Sgm) (s:QS) (m:Nat) (v:Value),s.l.length<=j/\s.l.length < m/\s.l.length<=n/\X=xE acc (dD (aA txt) E d m s)/\acc.length+s.l.length<=8193/\Blk wr (w.heap.size+1) 25 [.bool rel,v]/\Blk wr w.heap.size 25 [.bool false,.slice none 0 0] /\
  iF wr (w.heap.size+2) 54 2 v (acc.map Sgm.cells)/\wD wr r gl txt d s/\Fr [r] w wr
theorem sV {w:World} {r gl n:Nat} {txt:ByteArray} {d:Int} {s:QS} {E:Int -> Rd Xpr} (hE:EK 167 txt E n) (hEo:∀ d,(E d).on) (h:wD w r gl txt d s) (hn:s.l.length<=n) (hd:d+s.l.length<=80000) (rel:Bool):Calls Tryz.prog 42 #[.pointer (some ⟨r,0,none⟩),.bool rel] w (rJ (cF Qry.cells w) w r gl txt d (pD (aA txt) E d rel s)):=by
 refine bA fun R HQ=>?_;have hrlt:=h.lt;have hlen:=h.len;have hza:=(Blk.new w 25 [.bool false,.slice none 0 0]).alloc (.cells #[.bool rel,.slice none 0 0] 25);have hya:=Blk.new (w.alloc (.cells #[.bool false,.slice none 0 0] 25)) 25 [.bool rel,.slice none 0 0];have hfa:=((Fr.refl [] w).alloc (.cells #[.bool false,.slice none 0 0] 25)).alloc (.cells #[.bool rel,.slice none 0 0] 25);rw[show(w.alloc (.cells #[.bool false,.slice none 0 0] 25)).heap.size=w.heap.size+1 by simp] at hya;have HR0:=lh (h.fr hfa);have HZ0:=lh hza;have HY0:=lh hya;have HF0:Hid (Fr [r] w _):=lh (hfa.mono (by simp));obtain⟨iu,hi,hz',hsz',hby⟩:=info_parts aHc;have k0:0 < 2:=by decide
 have kb:2<=16777216:=by decide
 have HEK:=lh hE;have HEO:=lh hEo;have HX:Hid (pD (aA txt) E d rel s=match dD (aA txt) E d (s.l.length+1) s with | none=>none | some (l,s)=>some (.mk rel l,s)):=lh rfl;clear hza hya hfa h hE hEo
 go_enter Tryz.func42,Tryz.ntmps42
 go_wp2_with fail;generalize (w.alloc (.cells #[.bool false,.slice none 0 0] 25)).alloc (.cells #[.bool rel,.slice none 0 0] 25)=w0 at *
 go_loopg [7] s.l.length (fun j _ wr=>QrRel w r gl s.l.length txt d E rel (dD (aA txt) E d (s.l.length+1) s) j wr)
 case atStart=>exact⟨[],s,s.l.length+1,.slice none 0 0,Nat.le_refl _,by omega,Nat.le_refl _,by cases dD (aA txt) E d (s.l.length+1) s <;> simp[xE],by simp;omega,HY0.o,HZ0.o,iF.nil _ _ _ _,HR0.o,HF0.o⟩
 case round=>
  obtain⟨acc,s3,m,v,hj,hm,hsn,hE,hac,hY,hZ,hO,hR,hF⟩:=hrel;have HO:=lh hO;have HR:=lh hR;have HF:=lh hF;have HE:=lh hE;have HY:=lh hY;have HZ:=lh hZ;have HAC:=lh hac;clear hO hR hF hE hY hZ hac HR0 HZ0 HY0 HF0;obtain⟨A,c,hov⟩:=HO.o.slice;obtain⟨m1,hm1⟩:∃ m1,m=m1+1:=⟨m - 1,by omega⟩;have HM:=lh hm1;have HC:=lh (wY HEK.o HEO.o HR.o (by omega) (by omega));subst hov;clear hm1;go_wp2_with fail
  cases hX:fB (aA txt) E d s3 with
  | none=>
   have HE9:Hid (pD (aA txt) E d rel s=none):=lh (by rw[HX.o,HE.o,HM.o,zK,hX] <;> rfl);rw[hX] at HC;refine HC.o.mono ?_;rintro e w1 ⟨rfl,hf1⟩;exact⟨rfl,HQ.o _ _ (bB HE9.o (HF.o.trans hf1 (fun x hx=>.inl hx)))⟩
  | some y=>
   obtain⟨⟨g,ok⟩,s4⟩:=y;have hlt:=vY HEO.o hX
   have HE1:Hid (dD (aA txt) E d (s.l.length+1) s=xE acc (match (some ((g,ok),s4):Option ((Sgm × Bool) × QS)) with
    | none=>none
    | some ((g,true),s')=>(match dD (aA txt) E d m1 s' with | none=>none | some (m,s'')=>some (g :: m,s''))
    | some ((_,false),s')=>some ([],s'))):=lh (by rw[HE.o,HM.o,zK,hX] <;> rfl)
   rw[hX] at HC;clear hX HE;refine HC.o.mono ?_;rintro e w1 ⟨_,rfl,⟨cs,rfl,hcs⟩,hr1,hf1⟩;have hY1:=HY.o.fr hf1 (by simp;omega);have hZ1:=HZ.o.fr hf1 (by simp;omega);have hO1:=HO.o.fr hf1 (fun x hx=>.inl (by simp at hx;omega));have hF1:=HF.o.trans hf1 (fun x hx=>.inl hx);have hcs1:gA w1 (fun q=>w.heap.size+2<=q/\(Value.slice A (acc.map Sgm.cells).length c).ownBlock ≠ some q) g.cells cs:=hcs.mono (fun q hq=>⟨by have:=HY.o.lt;omega,fun e=>by have:=HO.o.lt q e;omega⟩);have hcl:cs.length=2:=hcs.1.trans (vL g)
   obtain⟨c0,c1,hcc⟩:∃ c0 c1,cs=[c0,c1]:=by
    match cs,hcl with
    | [c0,c1],_=>exact⟨c0,c1,rfl⟩
   subst hcc;have o1:=hcs1.one c0 (by simp);have o2:=hcs1.one c1 (by simp);obtain⟨gd,gs⟩:=g
   have hg0:c0=.bool gd:=by
    have h9:=hcs1.lf;obtain⟨cs',h9,_⟩:=h9;injection h9
   have hg1:∃ A1 n1 c1',c1=.slice A1 n1 c1':=by
    have h9:=hcs1.2 1 (.rows 10 (lH gs)) c1 rfl rfl;obtain⟨A1,c1',h9,_⟩:=h9.slice;exact⟨A1,_,c1',h9⟩
   obtain⟨A1,n1,c1',rfl⟩:=hg1;subst hg0;have HR1:=lh hr1;have HF1:=lh hF1;have HO1:=lh hO1;have HY1:=lh hY1;have HZ1:=lh hZ1;have HCS:=lh hcs1;clear hr1 hf1 hY1 hZ1 hO1 hF1 hcs hcs1 HC HR HF HO HY HZ
   cases ok with
   | false=>
    have HE9:Hid (pD (aA txt) E d rel s=some (.mk rel acc,s4)):=lh (by rw[HX.o,HE1.o];simp[xE]);have y0:=HY1.o.at_ (i:=0) rfl;have y1:=HY1.o.at_ (i:=1) rfl;have z0:=HZ1.o.at_ (i:=0) rfl;have z1:=HZ1.o.at_ (i:=1) rfl;have zf:=HZ1.o.free;have hyl:=HY1.o.lt;have hzl:=HZ1.o.lt;go_wp2_with fail;have hf9:Fr [w.heap.size] w1 (((w1.setCell ⟨w.heap.size,0,none⟩ (.bool rel)).setCell ⟨w.heap.size,1,none⟩ (.slice A acc.length c)).alloc (.cells #[.bool gd,.slice A1 n1 c1'] 54)):=(((Fr.refl [w.heap.size] w1).setCell (.inl (by simp)) _).setCell (.inl (by simp)) _).alloc _;have hb9:=((HZ1.o.set_ 0 (.bool rel)).set_ 1 (.slice A acc.length c)).alloc (.cells #[.bool gd,.slice A1 n1 c1'] 54);have hll:(acc.map Sgm.cells).length=acc.length:=by simp
    have hca:=(HO1.o.cat (by decide)).fr hf9 (fun g hg=>by simp;omega);rw[hll] at hca;refine xD rfl rfl hb9 Tryz.underlying25 rfl cI (HQ.o _ _ (aB HE9.o ⟨_,rfl,.tl rfl (.cons ?_ (.nil _ _))⟩ (HR1.o.fr hf9 (by simp;omega)) (HF1.o.trans hf9 (fun x hx=>.inr (by simp at hx;omega)))));rw[dE];exact hca.mono (fun g hg=>by omega)
   | true=>
    have HE2:Hid (dD (aA txt) E d (s.l.length+1) s=xE (acc ++ [.mk gd gs]) (dD (aA txt) E d m1 s4)):=lh (by
     rw[HE1.o]
     simp only
     cases dD (aA txt) E d m1 s4 <;> simp[xE])
    have y1:=HY1.o.at_ (i:=1) rfl;have hyl:=HY1.o.lt;have hll:(acc.map Sgm.cells).length=acc.length:=by simp
    have hlt2:=hlt.2 rfl;clear HE1 hlt;go_upto_region 5 with fail
    refine wp_region_lit ?_
    iterate 3 (refine rn rfl (by go_simp <;> with_reducible rfl) ?_;simp only[nrm])
    have hb2:=Blk.new w1 54 [.bool gd,.slice A1 n1 c1'];have hf2:Fr [] w1 (w1.alloc (.cells #[.bool gd,.slice A1 n1 c1'] 54)):=(Fr.refl [] w1).alloc _;have hz2:(w1.alloc (.cells #[.bool gd,.slice A1 n1 c1'] 54)).heap.size=w1.heap.size+1:=by simp
    generalize w1.alloc (.cells #[.bool gd,.slice A1 n1 c1'] 54)=w2 at *;refine lp fun K hK=>?_;refine kD (.tmp 20) rfl Tryz.underlying23 hi hz' [.bool gd,.slice A1 n1 c1'] rfl hsz' rfl (by simp) (by simp) (hK _ _ ?_);simp only[nrm];clear hK;have hb3:=Blk.new w2 54 [.bool gd,.slice A1 n1 c1'];have hf3:Fr [] w2 (w2.alloc (.cells #[.bool gd,.slice A1 n1 c1'] 54)):=(Fr.refl [] w2).alloc _;have hz3:(w2.alloc (.cells #[.bool gd,.slice A1 n1 c1'] 54)).heap.size=w2.heap.size+1:=by simp
    generalize w2.alloc (.cells #[.bool gd,.slice A1 n1 c1'] 54)=w3 at *;obtain⟨css,hcss,how6,hge6,-⟩:=HO1.o;rw[hll] at how6;have hf23:Fr [] w1 w3:=hf2.trans hf3;refine lp fun K hK=>?_;refine jB (.tmp 19) (.tmp 21) rfl 54 2 32 Tryz.underlying23 hi hz' hsz' hby rfl (by omega) (.slice A acc.length c) acc.length css.flatten rfl (sB how6 hf23 (by simp)) ⟨w2.heap.size,0,none⟩ 1 1 [.bool gd,.slice A1 n1 c1'] rfl rfl (fun j u hu=>by rw[Addr.add_mid,Nat.zero_add];exact hb3.at_ hu) HCS.o.one (by omega) (by unfold maxLen;have:=HAC.o;omega) (by have:=HAC.o;omega) (w2.heap.size+1) hz3 fun g7 cap w7 ho7 hf7 hat7 hlt7=>hK _ _ ?_;simp only[nrm];clear hK;have HO7:=lh (iF.app (p:=Sgm.cells (.mk gd gs)) (l:=acc.map Sgm.cells) (g7:=g7) (cap:=cap) HO1.o (by rw[hll]) hf23 hz3 (by have:=HF1.o.size;have:=HY1.o.lt;omega) rfl (by rw[<- hll];exact HCS.o) (by rw[hll];exact hf7) (by rw[hll];exact ho7) (by rw[hll];exact how6) (by rw[hll];exact hat7));have hlo7:∀ x,(Value.slice A acc.length c).ownBlock=some x -> w.heap.size+2<=x:=fun x hx=>hge6 x (by rw[hll];exact hx);have hr7:=((HR1.o.fr hf23).fr hf7 (fun x hx=>by have:=hlo7 x (by simpa using hx);omega));have hf17:=((HF1.o.trans hf23).trans hf7 (fun x hx=>.inr (by have:=hlo7 x (by simpa using hx);omega)));have hy7:=(HY1.o.fr hf23).fr hf7 (fun hm=>by have:=hlo7 _ (by simpa using hm);omega);have hz7:=(HZ1.o.fr hf23).fr hf7 (fun hm=>by have:=hlo7 _ (by simpa using hm);omega);have HR7:=lh hr7;have HF7:=lh hf17;have HY7:=lh hy7;have HZ7:=lh hz7;have q1:=hy7.at_ (i:=1) rfl;have qf:=hy7.free;have hne7:=hy7.lt;clear hb2 hf2 hz2 hb3 hf3 hz3 how6 hge6 hf23 ho7 hf7 hat7 hlt7 hr7 hf17 hy7 hz7 y1 hlo7;refine rn rfl (by go_simp <;> with_reducible rfl) ?_;simp only[nrm];refine lp fun K hK=>?_;refine pC (w':=w7.setCell ⟨w.heap.size+1,1,none⟩ (.slice (some ⟨g7,0,none⟩) (acc.length+1) cap)) (by go_simp) (hK _ _ ?_);simp only[Act.put];clear hK;refine wpList_nil ?_;have hf9:Fr [w.heap.size+1] w7 (w7.setCell ⟨w.heap.size+1,1,none⟩ (.slice (some ⟨g7,0,none⟩) (acc.length+1) cap)):=(Fr.refl [w.heap.size+1] w7).setCell (.inl (by simp)) _;have hy9:Blk (w7.setCell ⟨w.heap.size+1,1,none⟩ (.slice (some ⟨g7,0,none⟩) (acc.length+1) cap)) (w.heap.size+1) 25 [.bool rel,.slice (some ⟨g7,0,none⟩) (acc.length+1) cap]:=HY7.o.set_ 1 _;generalize w7.setCell ⟨w.heap.size+1,1,none⟩ (.slice (some ⟨g7,0,none⟩) (acc.length+1) cap)=w9 at *;have HO9:=lh (HO7.o.fr hf9 (fun x hx=>.inl (by simp at hx;omega)));have HR9:=lh (HR7.o.fr hf9 (by simp;omega));have HZ9:=lh (HZ7.o.fr hf9);have HF9:=lh (HF7.o.trans hf9 (fun x hx=>.inr (by simp at hx;omega)));have HY9:=lh hy9;clear hf9 hy9 q1 qf hne7;go_wp2_with fail
    go_roundg s4.l.length
    case measure=>omega
    case rel=>exact⟨acc ++ [.mk gd gs],s4,m1,_,Nat.le_refl _,by have:=HM.o;omega,by omega,HE2.o,by have:=HAC.o;rw[List.length_append];simp;omega,HY9.o,HZ9.o,by simpa using HO9.o,HR9.o,HF9.o⟩
end
end Go.Proofs.YtbggkiebfflcdaaGreatDoor
