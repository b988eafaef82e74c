/-
  Joined by join.py: Mt Mu
-/
import Derived.Test.YtbggkiebfflcdaaGreatDoorJpp23
set_option maxRecDepth 100000
set_option maxHeartbeats 32000000
namespace Go.Proofs.YtbggkiebfflcdaaGreatDoor
section
open Go.RowKit Go.Shelf
def oQ (f:FuncId) (txt:ByteArray) (E:Int -> Rd Xpr) (n:Nat):Prop:=∀ (w:World) (r gl:Nat) (TS:List Tkn) (s:DS),DAt w r gl txt TS s -> s.bad=false -> s.k<=TS.length -> (s.q TS).l.length < n -> s.d+(s.q TS).l.length<=80000 -> Calls Tryz.prog f #[.pointer (some ⟨r,0,none⟩)] w (mR (cF Xpr.cells w) w r gl txt TS s (E s.d (s.q TS)))
theorem eI {α:Type} {V:α -> Prop} {TS:List Tkn} {s':DS} {X:Option (α × QS)} {y:α} {q:QS} (h:X=some (y,q)) (h1:s'.bad=false) (h2:s'.k<=TS.length) (h3:s'.q TS=q) (hv:V y):Mch V TS s' X:=by
 subst h;exact⟨h1,h2,h3,hv⟩
theorem cN {α:Type} {V:α -> Prop} {TS:List Tkn} {s':DS} {X:Option (α × QS)} {y:α} (h:X=none) (h1:s'.bad=true) (hv:V y):Mch V TS s' X:=by
 subst h;exact⟨h1,y,hv⟩
theorem tB:(Tryz.prog.info? 117).map (·.size)=some 13:=by kernel_rfl
theorem wH:(Tryz.prog.info? 117).map (·.zero)=some (some (.agg zx.toArray)):=by kernel_rfl
theorem pQ:(Tryz.prog.info? 117).map (fun i=>(i.zero,i.size,i.bytes))=some (some (.agg zx.toArray),13,192):=by kernel_rfl
theorem aEJ {W:World} {N:Nat -> Prop} {e:Xpr} {v:Value} (h:CAt W N (.rows 13 [e.cells]) v):gA W N (Slr.cells (.ofExpr e)) [.int .i64 5,.string { data:=#[] },.int .i64 0,.bool false,.bool false,.bool false,.int .i64 0,.int .i64 0,.int .i64 0,v]:=
 .tl rfl (.tl rfl (.tl rfl (.tl rfl (.tl rfl (.tl rfl (.tl rfl (.tl rfl (.tl rfl (.cons h (.nil W N))))))))))
theorem bK {α:Type} {c:α -> List Cl} {w w':World} {y:α} {cs:List Value} (h:cF c w w' y (.agg cs.toArray)):gA w' (fun g=>w.heap.size<=g) (c y) cs:=by
 obtain⟨cs',he,hr⟩:=h;injection he with he;have:cs=cs':=by simpa using he
 rw[this];exact hr
theorem oU {S:List Nat} {w6 w7 w10:World} {y:Xpr} {cs:List Value} {g:Nat} {t:TypeId} (h:cF Xpr.cells w6 w7 y (.agg cs.toArray)) (hb:Blk w10 g t cs) (hf:Fr S w7 w10) (hS:∀ x ∈ S,x < w6.heap.size) (hg:w6.heap.size<=g):CAt w10 (fun g=>w6.heap.size<=g) (.rows 13 [y.cells]) (.slice (some ⟨g,0,none⟩) 1 1):=
 CAt.of_blk hb ((bK h).fr hf (fun g hg hm=>absurd (hS g hm) (by omega))) (kA y) (by decide) hg
theorem eH {α:Type} {c:α -> List Cl} {S:List Nat} {w w6 w7 w8:World} {y:α} {cs:List Value} (h:cF c w6 w7 y (.agg cs.toArray)) (hf:Fr S w7 w8) (hS:∀ x ∈ S,x < w6.heap.size) (hw:w.heap.size<=w6.heap.size):cF c w w8 y (.agg cs.toArray):=
 ⟨cs,rfl,((bK h).fr hf (fun g hg hm=>absurd (hS g hm) (by omega))).mono (fun g hg=>by omega)⟩
section
variable {w w' : World} {r gl n : Nat} {txt : ByteArray} {TS : List Tkn} {s s' : DS} {E S : Int -> Rd Xpr}
theorem bC (s:DS) (TS:List Tkn):(s.q TS).l.length=TS.length - s.k:=by
 unfold DS.q
 simp
theorem aBn (hE:oQ 128 txt E n) (h:DAt w r gl txt TS s) (hb:s.bad=false) (hk:s.k<=TS.length) (hn:(s.q TS).l.length<=n) (hd:s.d+(s.q TS).l.length<=80000):Calls Tryz.prog 83 #[.pointer (some ⟨r,0,none⟩)] w (mR (cF Slr.cells w) w r gl txt TS s (uG (aA txt) E s.d (s.q TS))):=by
 refine bA fun R HQ=>?_;have hrlt:=h.lt;have hdp:=h.deep;have hz0:=Blk.new w 80 zs;have hf0:=(Fr.refl [] w).alloc (.cells zs.toArray 80);have hd0:=h.fr hf0;have hs0:(w.alloc (.cells zs.toArray 80)).heap.size=w.heap.size+1:=by simp
 unfold zs at hz0 hf0 hd0 hs0;have HEK:=lh hE;clear h hE
 go_enter Tryz.func83,Tryz.ntmps83
 go_upto_region 1 with fail
 generalize w.alloc (.cells #[.int .i64 0,.string { data:=#[] },.int .i64 0,.bool false,.bool false,.bool false,.int .i64 0,.int .i64 0,.int .i64 0,.slice none 0 0] 80)=w0 at *;have HZ:=lh hz0;have HF:Hid (Fr [r] w w0):=lh (hf0.mono (by simp));have HD:=lh hd0;have HS0:=lh hs0;clear hz0 hf0 hd0 hs0;obtain⟨sv,dv,hsv,-,hv⟩:=sC (s.q TS).peek
 have HROW:Hid (∀ W,gA W (fun g=>w.heap.size<=g) (Slr.cells (.ofName (s.q TS).peek.s)) [.int .i64 1,.string sv,.int .i64 0,.bool false,.bool false,.bool false,.int .i64 0,.int .i64 0,.int .i64 0,.slice none 0 0]):=lh fun W=>by
  have h9:=yF (w:=W) (N:=fun g=>w.heap.size<=g) 1 (s.q TS).peek.s 0 (false,false,false) (0,0,0);rw[show S8 (s.q TS).peek.s=.string sv by rw[<- hsv];rfl] at h9;exact h9
 have HP:=lh (lR HD.o);rw[hv] at HP;have hkl:=fun hk=>iW (s:=s) (TS:=TS) (k:=2) hk (by decide);have hE2:∀ t,(s.q TS).peek=t -> t.kind=2 -> uG (aA txt) E s.d (s.q TS)=some (.ofName t.s,(s.q TS).go):=fun t ht h2=>by unfold uG;rw[ht,if_pos h2]
 have hE3:∀ t,(s.q TS).peek=t -> t.kind ≠ 2 -> uG (aA txt) E s.d (s.q TS)=if (s.q TS).next [42]=true then some (.of 2,(s.q TS).go)
  else if (s.q TS).next [63]=true then
   match E (s.d+1) ⟨(s.q TS).go.l,max (s.q TS).most (s.d+1)⟩ with
   | none=>none
   | some (e,s)=>some (.ofExpr e,s)
  else
   if (nA (aA txt) (s.q TS)).2.2.next [58]=true then kE (aA txt) (nA (aA txt) (s.q TS)).1 (nA (aA txt) (s.q TS)).2.1 (nA (aA txt) (s.q TS)).2.2
   else if (nA (aA txt) (s.q TS)).2.1=true then some (.ofAt (nA (aA txt) (s.q TS)).1,(nA (aA txt) (s.q TS)).2.2) else none:=fun t ht h2=>by
  unfold uG;rw[ht,if_neg h2]
  rfl
 generalize hpk:(s.q TS).peek=t at *;have HE2:=lh (hE2 t rfl);have HE3:=lh (hE3 t rfl);obtain⟨k,hkk⟩:∃ k,t.kind=k:=⟨_,rfl⟩;rw[hkk] at HE2 HE3 HP hkl;have HKL:=lh hkl;have HBD:=lh hb;obtain⟨tneg,htneg⟩:∃ b,t.n.neg=b:=⟨_,rfl⟩;obtain⟨tex,htex⟩:∃ b,t.n.exp=b:=⟨_,rfl⟩;rw[htneg,htex] at HP;clear hv hsv hE2 hE3 hpk hkk hkl hb htneg htex;go_wp2_with fail;refine HP.o.mono ?_;rintro e w1 ⟨rfl,hf1⟩;go_upto_region 2 with fail
 have hT1:=Blk.new w1 112 [.int .i64 (k:Int),.string sv,.bool tneg,.string dv,.int .i64 tex,.int .i64 (t.frm:Int),.int .i64 (t.til:Int)];have hf2:=hf1.alloc (.cells #[.int .i64 (k:Int),.string sv,.bool tneg,.string dv,.int .i64 tex,.int .i64 (t.frm:Int),.int .i64 (t.til:Int)] 112);have hz1:=hf1.size;generalize w1.alloc (.cells #[.int .i64 (k:Int),.string sv,.bool tneg,.string dv,.int .i64 tex,.int .i64 (t.frm:Int),.int .i64 (t.til:Int)] 112)=w2 at *;have htb:w.heap.size < w1.heap.size:=by have:=HS0.o;omega
 generalize w1.heap.size=tb at *
 replace HD:=lh (HD.o.fr hf2);replace HF:=lh (HF.o.trans hf2);have HT:=lh hT1;replace HZ:=lh (HZ.o.fr hf2)
 clear hf1 hf2 hT1 HP hz1
 by_cases hk2:k=2
 ·have HE:=lh (HE2.o hk2);have HK:Hid (s.go.k<=TS.length):=lh (HKL.o hk2);have dk:((k:Int) == 2)=true:=by rw[hk2];rfl
  have t0:=HT.o.at_ (i:=0) rfl;have c2:=HD.o.cells.1 1 _ rfl;have cf:=HD.o.cells.2;simp only[Nat.succ_ne_zero,if_false,Nat.reduceAdd] at c2;have hlen:=HD.o.len;have hwk:IntKind.i64.wrap ((s.k:Int)+1)=(s.k:Int)+1:=by rw[IntKind.wrap_i64];omega
  have hd4:=HD.o.put 2 (.int .i64 ((s.k:Int)+1)) (by decide) (s':=s.go) (by show s.k+1<=_;omega) HD.o.most HD.o.deep (fun v=>by rw[show(s.k:Int)+1=((s.k+1:Nat):Int) by omega];rfl);have hf4:Fr [r] w2 (w2.setCell ⟨r,2,none⟩ (.int .i64 ((s.k:Int)+1))):=(Fr.refl [r] w2).setCell (.inl (by simp)) _;clear hk2 HE2 HE3;go_upto_region 4 with fail
  generalize w2.setCell ⟨r,2,none⟩ (.int .i64 ((s.k:Int)+1))=w4 at *;clear c2 cf hwk t0
  replace HF:=lh (HF.o.trans hf4 (fun x hx=>.inl hx))
  replace HZ:=lh (HZ.o.fr hf4 (by simp;omega))
  replace HT:=lh (HT.o.fr hf4 (by simp;omega))
  replace HD:=lh hd4
  clear hf4 hd4;have t1:=HT.o.at_ (i:=1) rfl;have z0:=HZ.o.at_ (i:=0) rfl;have z1:=HZ.o.at_ (i:=1) rfl;have z2:=HZ.o.at_ (i:=2) rfl;have z3:=HZ.o.at_ (i:=3) rfl;have z4:=HZ.o.at_ (i:=4) rfl;have z5:=HZ.o.at_ (i:=5) rfl;have z6:=HZ.o.at_ (i:=6) rfl;have z7:=HZ.o.at_ (i:=7) rfl;have z8:=HZ.o.at_ (i:=8) rfl;have z9:=HZ.o.at_ (i:=9) rfl;have zf:=HZ.o.free;have hzl:=HZ.o.lt;go_wp2_with fail;have hb9:=HZ.o.setL (vs:=[.int .i64 1,.string sv,.int .i64 0,.bool false,.bool false,.bool false,.int .i64 0,.int .i64 0,.int .i64 0,.slice none 0 0]) rfl;have hf9:Fr [w.heap.size] w4 _:=(Fr.refl [w.heap.size] w4).setL (g:=w.heap.size) (k:=0) (vs:=[.int .i64 1,.string sv,.int .i64 0,.bool false,.bool false,.bool false,.int .i64 0,.int .i64 0,.int .i64 0,.slice none 0 0]) (.inl (by simp));exact xD rfl rfl hb9 Tryz.underlying80 rfl rG (HQ.o _ _ ⟨_,_,rfl,HD.o.fr hf9 (by simp;omega),rfl,HF.o.trans hf9 (fun x hx=>.inr (by simp at hx;omega)),eI HE.o HBD.o HK.o (DS.q_go s TS) ⟨_,rfl,HROW.o _⟩⟩)
 ·have HE:=lh (HE3.o hk2);have dk:((k:Int) == 2)=false:=by rw[beq_eq_false_iff_ne];omega
  have t0:=HT.o.at_ (i:=0) rfl;have HI:=lh (qK HD.o ⟨#[42]⟩);rw[show aA ⟨#[42]⟩=[42] from rfl] at HI;clear hk2 HE2 HE3 HROW
  cases hn1:s.nx TS [42] with
  | true=>
   have HE4:=lh (HE.o.trans (if_pos hn1));have HK:Hid (s.go.k<=TS.length):=lh (aG hn1);rw[hn1,if_pos rfl] at HI;clear hn1 HE;go_wp2_with fail;refine HI.o.mono ?_;rintro e w4 ⟨rfl,hd4,hf4⟩;clear HI t0
   replace HF:=lh (HF.o.trans hf4 (fun x hx=>.inl hx))
   replace HZ:=lh (HZ.o.fr hf4 (by simp;omega))
   replace HT:=lh (HT.o.fr hf4 (by simp;omega))
   replace HD:=lh hd4
   clear hf4 hd4;have z0:=HZ.o.at_ (i:=0) rfl;have z1:=HZ.o.at_ (i:=1) rfl;have z2:=HZ.o.at_ (i:=2) rfl;have z3:=HZ.o.at_ (i:=3) rfl;have z4:=HZ.o.at_ (i:=4) rfl;have z5:=HZ.o.at_ (i:=5) rfl;have z6:=HZ.o.at_ (i:=6) rfl;have z7:=HZ.o.at_ (i:=7) rfl;have z8:=HZ.o.at_ (i:=8) rfl;have z9:=HZ.o.at_ (i:=9) rfl;have zf:=HZ.o.free;have hzl:=HZ.o.lt;go_wp2_with fail;have hb9:=HZ.o.setL (vs:=[.int .i64 2,.string { data:=#[] },.int .i64 0,.bool false,.bool false,.bool false,.int .i64 0,.int .i64 0,.int .i64 0,.slice none 0 0]) rfl;have hf9:Fr [w.heap.size] w4 _:=(Fr.refl [w.heap.size] w4).setL (g:=w.heap.size) (k:=0) (vs:=[.int .i64 2,.string { data:=#[] },.int .i64 0,.bool false,.bool false,.bool false,.int .i64 0,.int .i64 0,.int .i64 0,.slice none 0 0]) (.inl (by simp));exact xD rfl rfl hb9 Tryz.underlying80 rfl rG (HQ.o _ _ ⟨_,_,rfl,HD.o.fr hf9 (by simp;omega),rfl,HF.o.trans hf9 (fun x hx=>.inr (by simp at hx;omega)),eI HE4.o HBD.o HK.o (DS.q_go s TS) ⟨_,rfl,yF 2 [] 0 (false,false,false) (0,0,0)⟩⟩)
  | false=>
   have HE4:=lh (HE.o.trans (if_neg (by rw[show(s.q TS).next [42]=false from hn1];simp)));rw[hn1,if_neg (by simp)] at HI;clear hn1 HE;go_wp2_with fail;refine HI.o.mono ?_;rintro e w4 ⟨rfl,hd4,hf4⟩;clear HI t0
   replace HF:=lh (HF.o.trans hf4 (fun x hx=>.inl hx))
   replace HZ:=lh (HZ.o.fr hf4 (by simp;omega))
   replace HT:=lh (HT.o.fr hf4 (by simp;omega))
   replace HD:=lh hd4
   clear hf4 hd4;have HI:=lh (qK HD.o ⟨#[63]⟩);rw[show aA ⟨#[63]⟩=[63] from rfl] at HI
   cases hn2:s.nx TS [63] with
   | true=>
    have hE5:=HE4.o.trans (if_pos hn2);have HK:Hid (s.go.k<=TS.length):=lh (aG hn2);have hgl:s.k < TS.length:=aG hn2;rw[hn2,if_pos rfl] at HI;rw[show(⟨(s.q TS).go.l,max (s.q TS).most (s.d+1)⟩:QS)=s.go.down.q TS by rw[<- DS.q_go];rfl] at hE5;have HE5:=lh hE5;rw[bC] at hn hd;clear hn2 HE4 hE5;go_wp2_with fail;refine HI.o.mono ?_;rintro e w5 ⟨rfl,hd5,hf5⟩;clear HI
    replace HF:=lh (HF.o.trans hf5 (fun x hx=>.inl hx))
    replace HZ:=lh (HZ.o.fr hf5 (by simp;omega))
    replace HT:=lh (HT.o.fr hf5 (by simp;omega))
    replace HD:=lh hd5
    clear hf5 hd5;go_wp2_with fail;refine(aBm HD.o (by show s.d<=90000;omega)).mono ?_;rintro e w6 ⟨rfl,hd6,hf6⟩
    replace HF:=lh (HF.o.trans hf6 (fun x hx=>.inl hx))
    replace HZ:=lh (HZ.o.fr hf6 (by simp;omega))
    replace HT:=lh (HT.o.fr hf6 (by simp;omega))
    replace HD:=lh hd6
    clear hf6 hd6;have hzl6:=HZ.o.lt;have HC:=lh (HEK.o _ _ _ _ _ HD.o HBD.o HK.o (by rw[bC];show TS.length - (s.k+1) < n;omega) (by rw[bC];show s.d+1+((TS.length - (s.k+1):Nat):Int)<=80000;omega));rw[show s.go.down.d=s.d+1 from rfl] at HC;generalize E (s.d+1) (s.go.down.q TS)=X at *;go_wp2_with fail;refine HC.o.mono ?_;rintro e w7 ⟨v,s3,rfl,hd7,hp7,hf7,hm7⟩;obtain⟨y0,cs,rfl,hcs0⟩:=kG hm7;have HCL:Hid (cs.length=13):=lh (hcs0.1.trans (kA y0));have HO:=lh hcs0.one;have hc1:(Tryz.prog.info? 117).map (·.size)=some cs.length:=by rw[HCL.o];exact tB
    have hc2:zx.length=cs.length:=by rw[HCL.o];rfl
    have HM:=lh hm7;have HC1:=lh hc1;have HC2:=lh hc2;have HP7:Hid (s3.d=s.d+1):=lh hp7;have hz6:=hf7.size;have hz60:=HF.o.size;clear HC hcs0 hm7 hp7 hc1 hc2
    replace HF:=lh (HF.o.trans hf7 (fun x hx=>.inl hx))
    replace HZ:=lh (HZ.o.fr hf7 (by simp;omega))
    replace HT:=lh (HT.o.fr hf7 (by simp;omega))
    replace HD:=lh hd7
    clear hf7 hd7
    go_wp2_with (with_reducible refine zC rfl rfl 117 (.tmp 30) rfl rfl rfl rfl (.agg zx.toArray) zx wH sE cs rfl rfl HC1.o HC2.o HO.o ?_)
    intro w8 hb8 hf8 hz8;have HB:=lh hb8
    replace HF:=lh (HF.o.trans hf8);replace HD:=lh (HD.o.fr hf8);replace HZ:=lh (HZ.o.fr hf8);replace HT:=lh (HT.o.fr hf8)
    have HM8:=lh hf8;clear hb8 hf8 hz8;go_wp2_with fail;refine(aEF HD.o (by have:=HP7.o;omega)).mono ?_;rintro e w9 ⟨rfl,hd9,hf9⟩;have hbl:=HB.o.lt;have hmx:=(HM8.o.mono (by simp):Fr [r] w7 w8).trans hf9 (fun x hx=>.inl hx)
    replace HB:=lh (HB.o.fr hf9 (by simp;omega))
    replace HM8:=lh hmx
    clear hmx
    replace HF:=lh (HF.o.trans hf9 (fun x hx=>.inl hx))
    replace HZ:=lh (HZ.o.fr hf9 (by simp;omega))
    replace HT:=lh (HT.o.fr hf9 (by simp;omega))
    replace HD:=lh hd9
    clear hf9 hd9;obtain⟨iu,hi,hz',hsz',hby⟩:=info_parts pQ;have k0:(0:Nat) < 13:=by decide
    have kb:(13:Nat)<=16777216:=by decide
    have hz79:=HM8.o.size;have hr6:r < w6.heap.size:=by omega
    have hrm:∀ x ∈ [r],x < w6.heap.size:=fun x hx=>by simp at hx;omega
    have hzi:∀ g,w6.heap.size<=g -> g ∉ [w.heap.size]:=fun g hg=>by simp;omega
    have hge:∀ g,w6.heap.size<=g -> w.heap.size<=g:=fun g hg=>by omega
    have hg69:w6.heap.size<=w9.heap.size:=by omega
    have HEX:Hid (uG (aA txt) E s.d (s.q TS)=X.map fun r=>(Slr.ofExpr r.1,r.2)):=lh (HE5.o.trans (by cases X <;> rfl));have hsd:s3.up.d=s.d:=by show s3.d - 1=s.d;have:=HP7.o;omega
    go_wp2_with (first
     | (with_reducible refine uA rfl 117 (.tmp 4) rfl rfl HB.o Tryz.underlying117 rfl HC1.o ?_)
     | (with_reducible refine cC rfl (.tmp 33) rfl Tryz.underlying78 hi hz' cs rfl HCL.o hsz' rD k0 kb ?_))
    intro w10 hb10 hf10 hz10;have hz9:=HF.o.size;have HB10:=lh hb10;have hmx:=HM8.o.trans hf10
    replace HM8:=lh hmx
    replace HF:=lh (HF.o.trans hf10);replace HD:=lh (HD.o.fr hf10);replace HZ:=lh (HZ.o.fr hf10)
    clear hb10 hf10 hz10 hmx hi hz' hsz' hby k0 kb;have z0:=HZ.o.at_ (i:=0) rfl;have z1:=HZ.o.at_ (i:=1) rfl;have z2:=HZ.o.at_ (i:=2) rfl;have z3:=HZ.o.at_ (i:=3) rfl;have z4:=HZ.o.at_ (i:=4) rfl;have z5:=HZ.o.at_ (i:=5) rfl;have z6:=HZ.o.at_ (i:=6) rfl;have z7:=HZ.o.at_ (i:=7) rfl;have z8:=HZ.o.at_ (i:=8) rfl;have z9:=HZ.o.at_ (i:=9) rfl;have zf:=HZ.o.free;have hzl:=HZ.o.lt;go_wp2_with fail;have hb9:=HZ.o.setL (vs:=[.int .i64 5,.string { data:=#[] },.int .i64 0,.bool false,.bool false,.bool false,.int .i64 0,.int .i64 0,.int .i64 0,.slice (some ⟨w9.heap.size,0,none⟩) 1 1]) rfl;have hf9:Fr [w.heap.size] w10 _:=(Fr.refl [w.heap.size] w10).setL (g:=w.heap.size) (k:=0) (vs:=[.int .i64 5,.string { data:=#[] },.int .i64 0,.bool false,.bool false,.bool false,.int .i64 0,.int .i64 0,.int .i64 0,.slice (some ⟨w9.heap.size,0,none⟩) 1 1]) (.inl (by simp));exact xD rfl rfl hb9 Tryz.underlying80 rfl rG (HQ.o _ _ ⟨_,_,rfl,HD.o.fr hf9 (by simp;omega),hsd,HF.o.trans hf9 (fun x hx=>.inr (by simp at hx;omega)),tE HM.o HEX.o (fun y hy=>⟨_,rfl,aEJ (((oU hy HB10.o HM8.o hrm hg69).fr hf9 hzi).mono hge)⟩) rfl rfl rfl⟩)
   | false=>
    have hE5:=HE4.o.trans (if_neg (by rw[show(s.q TS).next [63]=false from hn2];simp));rw[hn2,if_neg (by simp)] at HI;clear hn2 HE4;go_wp2_with fail;refine HI.o.mono ?_;rintro e w5 ⟨rfl,hd5,hf5⟩;clear HI
    replace HF:=lh (HF.o.trans hf5 (fun x hx=>.inl hx))
    replace HZ:=lh (HZ.o.fr hf5 (by simp;omega))
    replace HT:=lh (HT.o.fr hf5 (by simp;omega))
    replace HD:=lh hd5
    clear hf5 hd5;go_wp2_with fail;refine(iX HD.o).mono ?_;rintro e w6 ⟨rfl,hd6,hf6⟩;obtain⟨s2,hs2,hq2,hb2,hdp2,hk2⟩:=nU (T:=aA txt) hk;rw[hs2] at hd6;generalize nA (aA txt) (s.q TS)=a at *;obtain⟨n1,b1,q4⟩:=a
    simp only at hd6 hE5 hq2 hs2 ⊢
    subst hq2;have HBD2:Hid (s2.bad=false):=lh (hb2.trans HBD.o);have HDP2:Hid (s2.d=s.d):=lh hdp2;have HE5:=lh hE5
    replace HF:=lh (HF.o.trans hf6 (fun x hx=>.inl hx))
    replace HZ:=lh (HZ.o.fr hf6 (by simp;omega))
    replace HT:=lh (HT.o.fr hf6 (by simp;omega))
    replace HD:=lh hd6
    clear hf6 hd6;clear hs2 hb2 hdp2 hE5;obtain⟨sv2,dv2,hsv2,-,hv2⟩:=sC (s2.q TS).peek;have HP:=lh (lR HD.o);obtain⟨vs2,hvs2⟩:∃ vs2,(s2.q TS).peek.vals=vs2:=⟨_,rfl⟩;have hone:=eT (s2.q TS).peek;rw[hvs2] at HP hv2 hone
    have HNX:Hid (s2.nx TS [58]=((s2.q TS).peek.kind == 4 && sv2.toList == [58])):=lh (by
     rw[show(sv2.toList == ([58]:List UInt8))=((s2.q TS).peek.s == [58]) by rw[nC,hsv2,<- Bool.beq_eq_decide_eq]]
     rfl)
    generalize (s2.q TS).peek=u at *;obtain⟨k2,hkk2⟩:∃ k,u.kind=k:=⟨_,rfl⟩;rw[hkk2] at hv2 HNX;have HO:=lh hone;have HV2:=lh hv2;have hl7:[Value.int .i64 (k:Int),.string sv,.bool tneg,.string dv,.int .i64 tex,.int .i64 (t.frm:Int),.int .i64 (t.til:Int)].length=vs2.length:=by rw[hv2];rfl
    have hc7:(Tryz.prog.info? 112).map (·.size)=some vs2.length:=by rw[hv2];exact pE
    have HL7:=lh hl7;have HC7:=lh hc7;clear hv2 hsv2 hkk2 hone hl7 hc7 hvs2;go_wp2_with fail;refine HP.o.mono ?_;rintro e w7 ⟨rfl,hf7⟩
    replace HF:=lh (HF.o.trans hf7);replace HD:=lh (HD.o.fr hf7);replace HZ:=lh (HZ.o.fr hf7);replace HT:=lh (HT.o.fr hf7)
    clear hf7 HP
    go_wp2_with (with_reducible refine iA rfl 112 (.tmp 3) (.tmp 42) rfl vs2 rfl rfl HT.o HC7.o HL7.o HO.o ?_)
    intro w8 hb8 hf8 hz8;have HT8:=lh hb8
    replace HF:=lh (HF.o.trans hf8 (fun x hx=>.inr (by simp at hx;omega)));replace HD:=lh (HD.o.fr hf8 (by simp;omega));replace HZ:=lh (HZ.o.fr hf8 (by simp;omega))
    clear hb8 hf8 hz8 HT;have t0:=HT8.o.at_ (i:=0) (v:=.int .i64 (k2:Int)) (by rw[HV2.o];rfl);have t1:=HT8.o.at_ (i:=1) (v:=.string sv2) (by rw[HV2.o];rfl);have HT:=HT8;clear HT8;obtain⟨nxb,hnxb⟩:∃ b,s2.nx TS [58]=b:=⟨_,rfl⟩;rw[hnxb] at HNX;have HNB:=lh hnxb;clear hnxb;go_upto_region 14 with fail
    go_cut [50] (fun v wc=>v=.bool nxb/\w8=wc)
    case first=>
     by_cases hk4:k2=4
     ·have dk4:((k2:Int) == 4)=true:=by rw[hk4];rfl
      have HV:Hid (nxb=(sv2.toList == [58])):=lh (by rw[HNX.o,hk4];simp);clear hk4;go_wp2_with fail
      go_meet
      exact⟨by rw[HV.o],rfl⟩
     ·have dk4:((k2:Int) == 4)=false:=by rw[beq_eq_false_iff_ne];omega
      have HV:Hid (nxb=false):=lh (by rw[HNX.o,beq_eq_false_iff_ne.2 hk4];rfl);clear hk4;go_wp2_with fail
      go_meet
      exact⟨by rw[HV.o],rfl⟩
    case rest=>
    obtain⟨rfl,rfl⟩:=hcut;clear t0 t1 HNX
    cases nxb with
    | true=>
     have HE6:=lh (HE5.o.trans (if_pos HNB.o));have HC:=lh (aGd HD.o HBD2.o HNB.o n1 b1);have hz8:=HF.o.size;clear HE5 HNB;go_wp2_with fail;refine HC.o.mono ?_;rintro e w9 ⟨v,s3,rfl,hd9,hp9,hf9,hm9⟩;obtain⟨y0,cs,rfl,hcs0⟩:=kG hm9;have HCL:Hid (cs.length=10):=lh (hcs0.1.trans (aD y0));have HO9:=lh hcs0.one;have hc1:(Tryz.prog.info? 80).map (·.size)=some cs.length:=by rw[HCL.o];exact rG
     have hc2:[Value.int .i64 0,.string { data:=#[] },.int .i64 0,.bool false,.bool false,.bool false,.int .i64 0,.int .i64 0,.int .i64 0,.slice none 0 0].length=cs.length:=by rw[HCL.o];rfl
     have HM:=lh hm9;have HC1:=lh hc1;have HC2:=lh hc2;have HP9:Hid (s3.d=s.d):=lh (hp9.trans HDP2.o);clear HC hcs0 hm9 hp9 hc1 hc2;have hzl8:=HZ.o.lt
     replace HF:=lh (HF.o.trans hf9 (fun x hx=>.inl hx))
     replace HZ:=lh (HZ.o.fr hf9 (by simp;omega))
     replace HT:=lh (HT.o.fr hf9 (by simp;omega))
     replace HD:=lh hd9
     clear hf9 hd9
     go_wp2_with (with_reducible refine iA rfl 80 (.tmp 2) (.tmp 54) rfl cs rfl rfl HZ.o HC1.o HC2.o HO9.o ?_)
     intro w10 hb10 hf10 hz10;have HB10:=lh hb10;have HF10:=lh hf10;clear hb10 hf10 hz10;go_wp2_with fail;exact xD rfl rfl HB10.o Tryz.underlying80 rfl HC1.o (HQ.o _ _ ⟨_,_,rfl,HD.o.fr HF10.o (by simp;omega),HP9.o,HF.o.trans HF10.o (fun x hx=>.inr (by simp at hx;omega)),tE (f:=fun y=>y) HM.o (HE6.o.trans (by cases kE (aA txt) n1 b1 (s2.q TS) <;> rfl)) (fun y hy=>eH hy HF10.o (fun x hx=>by simp at hx;omega) hz8) rfl rfl rfl⟩)
    | false=>
     have hE6:=HE5.o.trans (if_neg (by rw[show(s2.q TS).next [58]=false from HNB.o];simp))
     cases b1 with
     | true=>
      have HE6:=lh (hE6.trans (if_pos rfl));clear hE6 HE5;have z0:=HZ.o.at_ (i:=0) rfl;have z1:=HZ.o.at_ (i:=1) rfl;have z2:=HZ.o.at_ (i:=2) rfl;have z3:=HZ.o.at_ (i:=3) rfl;have z4:=HZ.o.at_ (i:=4) rfl;have z5:=HZ.o.at_ (i:=5) rfl;have z6:=HZ.o.at_ (i:=6) rfl;have z7:=HZ.o.at_ (i:=7) rfl;have z8:=HZ.o.at_ (i:=8) rfl;have z9:=HZ.o.at_ (i:=9) rfl;have zf:=HZ.o.free;have hzl:=HZ.o.lt;go_wp2_with fail;have hb9:=HZ.o.setL (vs:=[.int .i64 3,.string { data:=#[] },.int .i64 n1,.bool false,.bool false,.bool false,.int .i64 0,.int .i64 0,.int .i64 0,.slice none 0 0]) rfl;have hf9:Fr [w.heap.size] w8 _:=(Fr.refl [w.heap.size] w8).setL (g:=w.heap.size) (k:=0) (vs:=[.int .i64 3,.string { data:=#[] },.int .i64 n1,.bool false,.bool false,.bool false,.int .i64 0,.int .i64 0,.int .i64 0,.slice none 0 0]) (.inl (by simp));exact xD rfl rfl hb9 Tryz.underlying80 rfl rG (HQ.o _ _ ⟨_,_,rfl,HD.o.fr hf9 (by simp;omega),HDP2.o,HF.o.trans hf9 (fun x hx=>.inr (by simp at hx;omega)),eI HE6.o HBD2.o hk2 rfl ⟨_,rfl,yF 3 [] n1 (false,false,false) (0,0,0)⟩⟩)
     | false=>
      have HE6:=lh (hE6.trans (if_neg (by simp)));have c5:=HD.o.cells.1 4 _ rfl;have cf:=HD.o.cells.2;simp only[Nat.succ_ne_zero,if_false,Nat.reduceAdd] at c5;have hd5:=HD.o.put 5 (.bool true) (by decide) (s':=s2.fail) HD.o.kle HD.o.most HD.o.deep (fun v=>rfl);have hf5:Fr [r] w8 (w8.setCell ⟨r,5,none⟩ (.bool true)):=(Fr.refl [r] w8).setCell (.inl (by simp)) _;clear hE6 HE5;go_upto_region 18 with fail
      generalize w8.setCell ⟨r,5,none⟩ (.bool true)=w9 at *;clear c5 cf
      replace HF:=lh (HF.o.trans hf5 (fun x hx=>.inl hx))
      replace HZ:=lh (HZ.o.fr hf5 (by simp;omega))
      replace HT:=lh (HT.o.fr hf5 (by simp;omega))
      replace HD:=lh hd5
      clear hf5 hd5;have z0:=HZ.o.at_ (i:=0) rfl;have z1:=HZ.o.at_ (i:=1) rfl;have z2:=HZ.o.at_ (i:=2) rfl;have z3:=HZ.o.at_ (i:=3) rfl;have z4:=HZ.o.at_ (i:=4) rfl;have z5:=HZ.o.at_ (i:=5) rfl;have z6:=HZ.o.at_ (i:=6) rfl;have z7:=HZ.o.at_ (i:=7) rfl;have z8:=HZ.o.at_ (i:=8) rfl;have z9:=HZ.o.at_ (i:=9) rfl;have zf:=HZ.o.free;have hzl:=HZ.o.lt;go_wp2_with fail;have hb9:=HZ.o.setL (vs:=[.int .i64 3,.string { data:=#[] },.int .i64 n1,.bool false,.bool false,.bool false,.int .i64 0,.int .i64 0,.int .i64 0,.slice none 0 0]) rfl;have hf9:Fr [w.heap.size] w9 _:=(Fr.refl [w.heap.size] w9).setL (g:=w.heap.size) (k:=0) (vs:=[.int .i64 3,.string { data:=#[] },.int .i64 n1,.bool false,.bool false,.bool false,.int .i64 0,.int .i64 0,.int .i64 0,.slice none 0 0]) (.inl (by simp));exact xD rfl rfl hb9 Tryz.underlying80 rfl rG (HQ.o _ _ ⟨_,_,rfl,HD.o.fr hf9 (by simp;omega),HDP2.o,HF.o.trans hf9 (fun x hx=>.inr (by simp at hx;omega)),cN HE6.o rfl ⟨_,rfl,yF 3 [] n1 (false,false,false) (0,0,0)⟩⟩)
end
structure LsD {α:Type} (c:α -> List Cl) (T:TypeId) (k:Nat) (w wr:World) (lo r gl:Nat) (txt:ByteArray) (TS:List Tkn) (s0:DS) (x:List UInt8) (item:Rd α) (X:Option (List α × QS)) (acc:List α) (m:Nat) (v:Value) (s:DS):Prop where
 st:DAt wr r gl txt TS s
 good:s.bad=false
 kle:s.k<=TS.length
 dep:s.d=s0.d
 le:s0.k<=s.k
 fuel:TS.length < m+s.k
 spec:X=xE acc (rB x item m (s.q TS))
 own:iF wr lo T k v (acc.map c)
 few:acc.length<=s.k
 fr:Fr [r] w wr
theorem qQ {α:Type} {TS:List Tkn} {s':DS} {x:List UInt8} {item:Rd α} (hon:item.on) {V:α -> Prop} {q:QS} {X:Option (List α × QS)} {acc:List α} {m:Nat} (hE:X=xE acc (rB x item (m+1) q)) (h:Mch V TS s' (item q)):∃ y,V y/\(s'.bad=true -> X=none)/\(s'.bad=false -> s'.k<=TS.length/\TS.length - s'.k<=q.l.length/\X=if s'.nx TS x=true then xE (acc ++ [y]) (rB x item m (s'.go.q TS)) else some (acc ++ [y],s'.q TS)):=by
 cases hi:item q with
 | none=>
  rw[hi] at h;obtain⟨hb,y,hy⟩:=h
  have h3:X=none:=by
   rw[hE,rB,hi]
   rfl
  refine⟨y,hy,?_,?_⟩
  ·exact fun _=>h3
  ·intro h2;rw[hb] at h2
   cases h2
 | some y=>
  obtain⟨a,q2⟩:=y;rw[hi] at h;obtain⟨hb,hk,hq,hv⟩:=h;refine⟨a,hv,?_,?_⟩
  ·intro h2;rw[hb] at h2
   cases h2
  intro _;refine⟨hk,?_,?_⟩
  ·have h2:=(hon q a q2 hi).length_le;rw[<- hq,bC] at h2;exact h2
  ·rw[hE,rB,hi]
   simp only
   rw[DS.q_go,hq,show s'.nx TS x=q2.next x by rw[<- hq];rfl]
   split
   ·cases rB x item m q2.go <;> simp[xE]
   ·rfl
theorem pU {txt:List UInt8} {E:Int -> Rd Xpr} {d:Int} {q:QS}:kB txt E d q=(eC [44] (uG txt E d) q).bind fun r=>gF [93] r.1 r.2:=by
 unfold kB
 cases eC [44] (uG txt E d) q <;> rfl
section
variable {w w' : World} {r gl n : Nat} {txt : ByteArray} {TS : List Tkn} {s s' : DS} {E S : Int -> Rd Xpr}
def aGe (w:World) (r gl:Nat) (txt:ByteArray) (TS:List Tkn) (s0:DS) (E:Int -> Rd Xpr) (X:Option (List Slr × QS)) (j:Nat) (v:Value) (wr:World):Prop:=∃ acc m s,LsD Slr.cells 80 10 w wr w.heap.size r gl txt TS s0 [44] (uG (aA txt) E s0.d) X acc m v s/\TS.length - s.k<=j
theorem qU (hE:oQ 128 txt E n) (hEo:∀ d,(E d).on) (h:DAt w r gl txt TS s) (hb:s.bad=false) (hk:s.k<=TS.length) (hn:(s.q TS).l.length<=n) (hd:s.d+(s.q TS).l.length<=80000):Calls Tryz.prog 51 #[.pointer (some ⟨r,0,none⟩)] w (mR (aCR w) w r gl txt TS s (kB (aA txt) E s.d (s.q TS))):=by
 refine bA fun R HQ=>?_;have hrlt:=h.lt;have HEK:=lh hE;have HH:=lh h;have HBR:=lh (pU (txt:=aA txt) (E:=E) (d:=s.d) (q:=s.q TS))
 have hx0:eC [44] (uG (aA txt) E s.d) (s.q TS)=xE [] (rB [44] (uG (aA txt) E s.d) (TS.length - s.k+1) (s.q TS)):=by
  unfold eC;rw[bC]
  cases rB [44] (uG (aA txt) E s.d) (TS.length - s.k+1) (s.q TS) <;> rfl
 generalize eC [44] (uG (aA txt) E s.d) (s.q TS)=X at *;have HX0:=lh hx0;have HBD:=lh hb;have hlen:=h.len;rw[bC] at hn hd;obtain⟨iu,hi,hz',hsz',hby⟩:=info_parts aEI;have k0:(0:Nat) < 10:=by decide
 have kb:(10:Nat)<=16777216:=by decide
 clear hx0 h hE hb
 go_enter Tryz.func51,Tryz.ntmps51
 go_wp2_with fail
 go_loopg [3] (TS.length - s.k) (fun j v wr=>aGe w r gl txt TS s E X j v wr)
 case atStart=>exact⟨[],_,s,⟨HH.o,HBD.o,hk,rfl,Nat.le_refl _,by omega,HX0.o,iF.nil _ _ _ _,by simp,Fr.refl _ _⟩,Nat.le_refl _⟩
 case round=>
  obtain⟨j,rfl⟩:=nm (gk);obtain⟨acc,m,s1,hL,hj⟩:=hrel;obtain⟨m,rfl⟩:∃ m1,m=m1+1:=⟨m - 1,by have:=hL.fuel;have:=hL.kle;omega⟩;have HL:=lh hL;have hk1:=hL.kle;have hle1:=hL.le;have hfu1:=hL.fuel;have hfw1:=hL.few;have c5:=hL.st.cells.1 4 _ rfl;rw[hL.good] at c5;simp only[Nat.succ_ne_zero,if_false,Nat.reduceAdd] at c5;have HC:=lh (aBn HEK.o hL.st hL.good hL.kle (by rw[bC];omega) (by rw[bC,hL.dep];omega));rw[hL.dep] at HC;obtain⟨oA,oc,hov⟩:=hL.own.slice;have HOV:=lh hov;clear hL hov;go_wp2_with fail;refine HC.o.mono ?_;rintro e w5 ⟨v',s2,rfl,hd5,hdp5,hf5,hm5⟩;obtain⟨y,hy,hz1,hz2⟩:=qQ (wP hEo _) HL.o.spec hm5;obtain⟨cs,rfl,hcs⟩:=hy;have HZ1:=lh hz1;have HZ2:=lh hz2;have HDP:Hid (s2.d=s.d):=lh (hdp5.trans HL.o.dep);have HD5:=lh hd5;have HO5:=lh (HL.o.own.fr hf5 (fun x hx=>.inl (by simp at hx;omega)))
  have HCS:Hid (gA w5 (fun g=>w.heap.size<=g/\(Value.slice oA (acc.map Slr.cells).length oc).ownBlock ≠ some g) (Slr.cells y) cs):=lh (hcs.mono (fun g hg=>⟨by have:=HL.o.fr.size;omega,fun e=>by
   have h1:=HL.o.own.lt g (by rw[HOV.o];exact e);omega⟩))
  have HF5:=lh (HL.o.fr.trans hf5 (fun x hx=>.inl hx));have HCL:Hid (cs.length=10):=lh (hcs.1.trans (aD y));clear hcs hd5 hdp5 hf5 hm5 hz1 hz2 HC c5
  go_wp2_with (with_reducible refine cC rfl (.tmp 11) rfl Tryz.underlying75 hi hz' cs rfl HCL.o hsz' uJ k0 kb ?_)
  intro w6 hb6 hf6 hz6;obtain⟨css,hcss,how6,hge6,-⟩:=HO5.o;have hl7:acc.length+1<=8194:=by omega
  have how6':=sB (by simpa using how6) hf6 (by simp:∀ g,u3.ownBlock=some g -> g ∉ ([]:List Nat));have hcl6:cs.length=1 * 10:=by rw[HCL.o]
  have hat6:∀ (j:Nat) (u:Value),cs[j]? = some u -> w6.cell? ((⟨w5.heap.size,0,none⟩:Addr).add j)=some u:=fun j u hu=>by rw[Addr.add_mid,Nat.zero_add];exact hb6.at_ hu
  have hml6:acc.length+1<=maxLen:=by unfold maxLen;omega
  have hbb6:(acc.length+1) * 88<=140737488355328:=by omega
  go_wp2_with (with_reducible refine eE rfl (.tmp 9) (.tmp 12) rfl 80 10 88 Tryz.underlying75 hi hz' hsz' hby uJ k0 u3 acc.length css.flatten rfl how6' ⟨w5.heap.size,0,none⟩ 1 1 cs rfl hcl6 hat6 HCS.o.one Nat.one_pos hml6 hbb6 (w5.heap.size+1) hz6 ?_)
  intro g7 cap w7 ho7 hf7 hat7;have HO7:=lh (iF.app (p:=Slr.cells y) (l:=acc.map Slr.cells) (g7:=g7) (cap:=cap) HO5.o HOV.o hf6 hz6 (by have:=HF5.o.size;exact this) (aD y) HCS.o hf7 (by simpa using ho7) how6 (by simpa using hat7));have HD7:=lh ((HD5.o.fr hf6).fr hf7 (fun x hx=>by have:=HO5.o.lo_of x (by simpa using hx);omega));have HF7:=lh ((HF5.o.trans hf6).trans hf7 (fun x hx=>.inr (HO5.o.lo_of x (by simpa using hx))));have hls:=HL.o.few;have hlenl:(acc.map Slr.cells).length=acc.length:=by simp
  rw[hlenl] at HO7;clear hb6 hf6 hz6 ho7 hf7 hat7 how6 hge6 HL HO5 HCS HF5 HD5 how6' hat6 hcss;have c5:=HD7.o.cells.1 4 _ rfl;simp only[Nat.succ_ne_zero,if_false,Nat.reduceAdd] at c5
  cases hbd:s2.bad with
  | true=>
   rw[hbd] at c5;have HX:Hid (Mch (fun l=>CAt w7 (fun g=>w.heap.size<=g) (.rows 10 (l.map Slr.cells)) (.slice (some ⟨g7,0,none⟩) (acc.length+1) cap)) TS s2 X):=lh (cN (y:=acc ++ [y]) (HZ1.o hbd) hbd (by simpa using HO7.o.cat k0));clear hbd;go_upto_region 5 with fail
   have HNE:=lh (fP HD7.o ⟨#[93]⟩);rw[show aA ⟨#[93]⟩=[93] from rfl] at HNE;have hlo7:=HO7.o.lo_of;go_wp2_with fail;refine HNE.o.mono ?_;rintro e w9 ⟨rfl,hd9,hf9⟩;have HD9:=lh hd9;have HF9:=lh (HF7.o.trans hf9 (fun x hx=>.inl hx));have HFX:=lh hf9;clear hd9 hf9;go_wp2_with fail;exact HQ.o _ _ ⟨_,_,rfl,HD9.o,(by split <;> exact HDP.o),HF9.o,bN (f:=fun y=>y) HX.o HBR.o (fun l hl=>CAt.fr hl HFX.o (fun g hg=>by simp;omega))⟩
  | false=>
   rw[hbd] at c5;obtain⟨hk2,hq2,hX2⟩:=HZ2.o hbd;rw[bC] at hq2;have HX2:=lh hX2;have HI:=lh (qK HD7.o ⟨#[44]⟩);rw[show aA ⟨#[44]⟩=[44] from rfl] at HI;have HBD2:=lh hbd;clear hbd hX2
   cases hnx:s2.nx TS [44] with
   | false=>
    have HXE:=lh (HX2.o.trans (if_neg (by rw[hnx];simp)));rw[hnx,if_neg (by simp)] at HI;clear hnx;go_wp2_with fail;refine HI.o.mono ?_;rintro e w8 ⟨rfl,hd8,hf8⟩;have hlo7:=HO7.o.lo_of
    replace HO7:=lh (HO7.o.fr hf8 (fun x hx=>.inl (by simp at hx;omega)))
    replace HD7:=lh hd8
    replace HF7:=lh (HF7.o.trans hf8 (fun x hx=>.inl hx))
    have HX:Hid (Mch (fun l=>CAt w8 (fun g=>w.heap.size<=g) (.rows 10 (l.map Slr.cells)) (.slice (some ⟨g7,0,none⟩) (acc.length+1) cap)) TS s2 X):=lh (eI HXE.o HBD2.o hk2 rfl (by simpa using HO7.o.cat k0));clear hd8 hf8 c5 HI hlo7;go_upto_region 5 with fail
    have HNE:=lh (fP HD7.o ⟨#[93]⟩);rw[show aA ⟨#[93]⟩=[93] from rfl] at HNE;have hlo7:=HO7.o.lo_of;go_wp2_with fail;refine HNE.o.mono ?_;rintro e w9 ⟨rfl,hd9,hf9⟩;have HD9:=lh hd9;have HF9:=lh (HF7.o.trans hf9 (fun x hx=>.inl hx));have HFX:=lh hf9;clear hd9 hf9;go_wp2_with fail;exact HQ.o _ _ ⟨_,_,rfl,HD9.o,(by split <;> exact HDP.o),HF9.o,bN (f:=fun y=>y) HX.o HBR.o (fun l hl=>CAt.fr hl HFX.o (fun g hg=>by simp;omega))⟩
   | true=>
    have HXE:=lh (HX2.o.trans (if_pos hnx));have hk3:s2.go.k<=TS.length:=aG hnx;have hk3':s2.k+1<=TS.length:=hk3;rw[hnx,if_pos rfl] at HI;clear hnx;go_wp2_with fail;refine HI.o.mono ?_;rintro e w8 ⟨rfl,hd8,hf8⟩
    replace HO7:=lh (HO7.o.fr hf8 (fun x hx=>.inl (by simp at hx;omega)))
    replace HD7:=lh hd8
    replace HF7:=lh (HF7.o.trans hf8 (fun x hx=>.inl hx))
    clear hd8 hf8 c5 HI;go_wp2_with fail
    go_roundg (TS.length - (s2.k+1))
    case measure=>omega
    case rel=>exact⟨acc ++ [y],m,s2.go,⟨HD7.o,HBD2.o,hk3,HDP.o,by show s.k<=s2.k+1;omega,by show TS.length < m+(s2.k+1);omega,HXE.o,by simpa using HO7.o,by rw[List.length_append];show acc.length+1<=s2.k+1;omega,HF7.o⟩,Nat.le_refl _⟩
end
end
end Go.Proofs.YtbggkiebfflcdaaGreatDoor
