/-
  Joined by join.py: Gm Gn Go
-/
import Derived.Defers
import Derived.Recover
import Derived.Test.YtbggkiebfflcdaaGreatDoorJpp11
set_option maxRecDepth 100000
set_option maxHeartbeats 32000000
namespace Go.Proofs.YtbggkiebfflcdaaGreatDoor
section
open Go.RowKit Go.Shelf
theorem aAE (c:UInt8):Lib.contains [36,64] [c]=decide (([c]:List UInt8)=[36] ∨ ([c]:List UInt8)=[64]):=by
 have:=qD (fun c=>Lib.contains [36,64] [c] == decide (([c]:List UInt8)=[36] ∨ ([c]:List UInt8)=[64])) (by decide +kernel) c;exact eq_of_beq this
theorem aAF {l:List UInt8} (h:l.length=1 ∨ l ∈ nL):Lib.contains [36,64] l=decide (l=[36] ∨ l=[64]):=by
 rcases h with h | h
 ·match l,h with
  | [c],_=>exact aAE c
 ·have:∀ l ∈ nL,Lib.contains [36,64] l=decide (l=[36] ∨ l=[64]):=by decide +kernel
  exact this l h
section
variable {w : World} {r gl n : Nat} {txt : ByteArray} {d : Int} {s : QS} {E S : Int -> Rd Xpr}
theorem aAG (hE:EK 167 txt E n) (hEo:∀ d,(E d).on) (hS:EK 235 txt S n) (hSo:∀ d,(S d).on) (h:wD w r gl txt d s) (hn:s.l.length<=n) (hd:d+s.l.length<=80000):Calls Tryz.prog 235 #[.pointer (some ⟨r,0,none⟩)] w (rJ (cF Xpr.cells w) w r gl txt d (qA (aA txt) E S d s)):=by
 refine bA fun R HQ=>?_;have hrlt:=h.lt;have HH:=lh h;have HEK:=lh hE;have HEO:=lh hEo;have HSK:=lh hS;have HSO:=lh hSo;have htoks:=h.toks;have hnames:=h.names;clear h hE hEo hS hSo
 go_enter Tryz.func235,Tryz.ntmps235
 go_wp2_with (with_reducible refine vD rfl 109 rfl (.agg zx.toArray) zx iH sE ?_)
 intro w0 hb0 hf0 hz0;have HZ0:=lh hb0;have HF0:Hid (Fr [r] w w0):=lh (hf0.mono (by simp));have HR0:=lh (HH.o.fr hf0);have HT:=lh (xK HR0.o)
 have HE0:Hid (qA (aA txt) E S d s=match s.take with
   | none=>none
   | some (t,s1)=>if t.kind=3 then some (.lit { Vlu.null with kind:=2,n:=t.n },s1)
    else if t.kind=2 then some (.lit { Vlu.null with kind:=3,s:=t.s },s1)
    else if t.kind=1 then wE S d t.s s1
    else if t.s=[36] ∨ t.s=[64] then
     match pD (aA txt) E d (decide (t.s=[64])) s1 with
     | none=>none
     | some (q,s)=>some (.path q,s)
    else none):=lh (by unfold qA QS.take;cases s.l <;> rfl)
 clear hb0 hf0;go_wp2_with fail
 cases htk:s.take with
 | none=>
  have HE:Hid (qA (aA txt) E S d s=none):=lh (by rw[HE0.o,htk]);rw[htk] at HT;refine HT.o.mono ?_;rintro e w1 ⟨rfl,hf1⟩;exact⟨rfl,HQ.o _ _ (bB HE.o (HF0.o.trans hf1 (fun x hx=>.inl hx)))⟩
 | some y=>
  obtain⟨t,s1⟩:=y
  have hs1:s1=s.go/\s.l.length=s.go.l.length+1/\t.ok txt.size/\(t.kind=1 -> t.s.length<=100000):=by
   unfold QS.take at htk
   cases hl:s.l with
   | nil=>rw[hl] at htk;cases htk
   | cons a l=>
    rw[hl] at htk;obtain⟨rfl,h2⟩:=eA htk;exact⟨h2.symm,by simp[QS.go,hl],htoks a (by rw[hl];simp),hnames a (by rw[hl];simp)⟩
  obtain⟨hs1a,hs1b,htok,hnam⟩:=hs1;rw[<- hs1a] at hs1b;have hHE1:=HE0.o;rw[htk] at hHE1;rw[htk] at HT;have HE1:=lh hHE1;clear htk hs1a htoks hnames hHE1 HE0;refine HT.o.mono ?_;rintro e w1 ⟨_,rfl,hv,hr1,hf1⟩;unfold aDA at hv;subst hv;obtain⟨sv,dv,hsv,hdv,hv⟩:=sC t;rw[hv];have hS8s:S8 t.s=.string sv:=by rw[<- hsv];rfl
  have hS8d:S8 t.n.digits=.string dv:=by rw[<- hdv];rfl
  have hfa:Fr [] w1 (w1.alloc (.cells #[.int .i64 (t.kind:Int),.string sv,.bool t.n.neg,.string dv,.int .i64 t.n.exp,.int .i64 (t.frm:Int),.int .i64 (t.til:Int)] 95)):=(Fr.refl [] w1).alloc _;have hya:=Blk.new w1 95 [.int .i64 (t.kind:Int),.string sv,.bool t.n.neg,.string dv,.int .i64 t.n.exp,.int .i64 (t.frm:Int),.int .i64 (t.til:Int)];have hz1:=HZ0.o.fr hf1 (by simp;omega);have HZ2:=lh (hz1.fr hfa);have HR2:=lh (hr1.fr hfa);have HF2:=lh ((HF0.o.trans hf1 (fun x hx=>.inl hx)).trans hfa);have hwz1:=hz1.lt;clear hz1 hr1 hf1 HT HZ0 HF0 HR0 hv;go_upto_region 4 with fail
  generalize w1.alloc (.cells #[.int .i64 (t.kind:Int),.string sv,.bool t.n.neg,.string dv,.int .i64 t.n.exp,.int .i64 (t.frm:Int),.int .i64 (t.til:Int)] 95)=w2 at *;have y0:=hya.at_ (i:=0) rfl;have HYA:=lh hya;have HS8s:=lh hS8s;have HS8d:=lh hS8d;have HSV:=lh hsv;have HTOK:=lh htok;obtain⟨k,hk⟩:∃ k,t.kind=k:=⟨_,rfl⟩;rw[hk] at y0 HE1 ⊢;have HK:=lh hk;have HNM:=lh hnam;clear hnam;clear hya hfa hS8s hS8d hsv hdv htok hk
  by_cases k3:k=3
  ·have HE:Hid (qA (aA txt) E S d s=some (.lit { Vlu.null with kind:=2,n:=t.n },s1)):=lh (by rw[HE1.o];simp only[if_pos k3]);have d3:((k:Int) == 3)=true:=by rw[k3];rfl
   have y2:=HYA.o.at_ (i:=2) rfl;have y3:=HYA.o.at_ (i:=3) rfl;have y4:=HYA.o.at_ (i:=4) rfl;have HRW0:Hid (gA w2 (fun g=>w.heap.size < g) (Xpr.lit { Vlu.null with kind:=2,n:=t.n }).cells [.int .i64 5,.slice none 0 0,.string { data:=#[] },.bool false,.slice none 0 0,.int .i64 2,.bool false,.bool t.n.neg,.string dv,.int .i64 t.n.exp,.string { data:=#[] },.slice none 0 0,.slice none 0 0]):=lh (by rw[<- HS8d.o];exact cH 2 false t.n []);clear k3;have hc1_:(Tryz.prog.info? 109).map (·.size)=some ([.int .i64 5,.slice none 0 0,.string { data:=#[] },.bool false,.slice none 0 0,.int .i64 2,.bool false,.bool t.n.neg,.string dv,.int .i64 t.n.exp,.string { data:=#[] },.slice none 0 0,.slice none 0 0]:List Value).length:=cD;have hc2_:zx.length=([.int .i64 5,.slice none 0 0,.string { data:=#[] },.bool false,.slice none 0 0,.int .i64 2,.bool false,.bool t.n.neg,.string dv,.int .i64 t.n.exp,.string { data:=#[] },.slice none 0 0,.slice none 0 0]:List Value).length:=rfl;have ho1_:=HRW0.o.one;have HPC1:=lh hc1_;have HPC2:=lh hc2_;have HPO:=lh ho1_;clear hc1_ hc2_ ho1_
   go_wp2_with (with_reducible refine iA rfl 109 (.tmp 2) (.tmp 23) rfl [.int .i64 5,.slice none 0 0,.string { data:=#[] },.bool false,.slice none 0 0,.int .i64 2,.bool false,.bool t.n.neg,.string dv,.int .i64 t.n.exp,.string { data:=#[] },.slice none 0 0,.slice none 0 0] rfl rfl HZ2.o HPC1.o HPC2.o HPO.o ?_)
   intro w9 hb9 hf9 hz9;have HB9:=lh hb9;have HF9:=lh hf9;clear hb9 hf9 hz9;go_wp2_with fail;exact bH rfl rfl HB9.o rfl (HQ.o _ _ (aB HE.o ⟨_,rfl,(HRW0.o.fr HF9.o (fun g hg=>by simp;omega)).mono (fun g hg=>by omega)⟩ (HR2.o.fr HF9.o (by simp;omega)) (HF2.o.trans HF9.o (fun x hx=>.inr (by simp at hx;omega)))))
  ·have d3:((k:Int) == 3)=false:=by rw[beq_eq_false_iff_ne];omega
   by_cases k2:k=2
   ·have HE:Hid (qA (aA txt) E S d s=some (.lit { Vlu.null with kind:=3,s:=t.s },s1)):=lh (by rw[HE1.o];simp only[if_neg k3,if_pos k2]);have d2:((k:Int) == 2)=true:=by rw[k2];rfl
    have y1:=HYA.o.at_ (i:=1) rfl;have HRW0:Hid (gA w2 (fun g=>w.heap.size < g) (Xpr.lit { Vlu.null with kind:=3,s:=t.s }).cells [.int .i64 5,.slice none 0 0,.string { data:=#[] },.bool false,.slice none 0 0,.int .i64 3,.bool false,.bool false,.string { data:=#[] },.int .i64 0,.string sv,.slice none 0 0,.slice none 0 0]):=lh (by rw[<- HS8s.o];exact cH 3 false .zero t.s);clear k3 k2;have hc1_:(Tryz.prog.info? 109).map (·.size)=some ([.int .i64 5,.slice none 0 0,.string { data:=#[] },.bool false,.slice none 0 0,.int .i64 3,.bool false,.bool false,.string { data:=#[] },.int .i64 0,.string sv,.slice none 0 0,.slice none 0 0]:List Value).length:=cD;have hc2_:zx.length=([.int .i64 5,.slice none 0 0,.string { data:=#[] },.bool false,.slice none 0 0,.int .i64 3,.bool false,.bool false,.string { data:=#[] },.int .i64 0,.string sv,.slice none 0 0,.slice none 0 0]:List Value).length:=rfl;have ho1_:=HRW0.o.one;have HPC1:=lh hc1_;have HPC2:=lh hc2_;have HPO:=lh ho1_;clear hc1_ hc2_ ho1_
    go_wp2_with (with_reducible refine iA rfl 109 (.tmp 2) (.tmp 31) rfl [.int .i64 5,.slice none 0 0,.string { data:=#[] },.bool false,.slice none 0 0,.int .i64 3,.bool false,.bool false,.string { data:=#[] },.int .i64 0,.string sv,.slice none 0 0,.slice none 0 0] rfl rfl HZ2.o HPC1.o HPC2.o HPO.o ?_)
    intro w9 hb9 hf9 hz9;have HB9:=lh hb9;have HF9:=lh hf9;clear hb9 hf9 hz9;go_wp2_with fail;exact bH rfl rfl HB9.o rfl (HQ.o _ _ (aB HE.o ⟨_,rfl,(HRW0.o.fr HF9.o (fun g hg=>by simp;omega)).mono (fun g hg=>by omega)⟩ (HR2.o.fr HF9.o (by simp;omega)) (HF2.o.trans HF9.o (fun x hx=>.inr (by simp at hx;omega)))))
   ·have d2:((k:Int) == 2)=false:=by rw[beq_eq_false_iff_ne];omega
    by_cases k1:k=1
    ·have HE2:Hid (qA (aA txt) E S d s=wE S d (aA sv) s1):=lh (by rw[HE1.o,HSV.o];simp only[if_neg k3,if_neg k2,if_pos k1]);have d1:((k:Int) == 1)=true:=by rw[k1];rfl
     have y1:=HYA.o.at_ (i:=1) rfl;have hsz:sv.size<=100000:=by rw[lA HSV.o];exact HNM.o (by rw[HK.o];exact k1)
     have HC:=lh (aDR HSK.o HSO.o sv (by omega) HR2.o (by omega) (by omega));clear k3 k2 k1 hsz;go_wp2_with fail
     cases hX:wE S d (aA sv) s1 with
     | none=>
      have HE:Hid (qA (aA txt) E S d s=none):=lh (by rw[HE2.o,hX]);rw[hX] at HC;refine HC.o.mono ?_;rintro e w3 ⟨rfl,hf3⟩;exact⟨rfl,HQ.o _ _ (bB HE.o (HF2.o.trans hf3 (fun x hx=>.inl hx)))⟩
     | some y=>
      obtain⟨y,s3⟩:=y;have HE:Hid (qA (aA txt) E S d s=some (y,s3)):=lh (by rw[HE2.o,hX]);rw[hX] at HC;clear hX HE1 HE2;refine HC.o.mono ?_;rintro e w3 ⟨_,rfl,⟨cs,rfl,hcs⟩,hr3,hf3⟩;have HZ3:=lh (HZ2.o.fr hf3 (by simp;omega));have HF3:=lh (HF2.o.trans hf3 (fun x hx=>.inl hx));have HR3:=lh hr3;have HRW3:=lh (hcs.mono (M:=fun g=>w.heap.size < g) (fun g hg=>by have:=HF2.o.size;have:=HZ2.o.lt;omega));have HCL3:Hid (cs.length=13):=lh (hcs.1.trans (kA y));clear hr3 hf3 hcs HC HZ2 HF2 HR2 y0 y1;have hc1_:(Tryz.prog.info? 109).map (·.size)=some cs.length:=by rw[HCL3.o];exact cD
      have hc2_:zx.length=cs.length:=by rw[HCL3.o];rfl
      have ho1_:=HRW3.o.one;have HPC1:=lh hc1_;have HPC2:=lh hc2_;have HPO:=lh ho1_;clear hc1_ hc2_ ho1_
      go_wp2_with (with_reducible refine iA rfl 109 (.tmp 2) (.tmp 39) rfl cs rfl rfl HZ3.o HPC1.o HPC2.o HPO.o ?_)
      intro w9 hb9 hf9 hz9;have HB9:=lh hb9;have HF9:=lh hf9;clear hb9 hf9 hz9;go_wp2_with fail;exact bH rfl rfl HB9.o HCL3.o (HQ.o _ _ (aB HE.o ⟨_,rfl,(HRW3.o.fr HF9.o (fun g hg=>by simp;omega)).mono (fun g hg=>by omega)⟩ (HR3.o.fr HF9.o (by simp;omega)) (HF3.o.trans HF9.o (fun x hx=>.inr (by simp at hx;omega)))))
    ·have d1:((k:Int) == 1)=false:=by rw[beq_eq_false_iff_ne];omega
     have hk4:k=4:=by have h9:=HTOK.o;have h8:=HK.o;have:=h9.2.2.1;have:=h9.2.2.2.1;omega
     have hfour:=HTOK.o.2.2.2.2 (by rw[HK.o];exact hk4);rw[<- HSV.o] at hfour;have hdol:=aAF hfour;obtain⟨mx,hmx⟩:=HR2.o.glob.len;have HCT:=lh (Tryz.strings_Contains ⟨#[36,64]⟩ sv mx w2 (by decide) hmx);rw[show(⟨#[36,64]⟩:ByteArray).data.toList=[36,64] from rfl,show sv.data.toList=aA sv from rfl,hdol] at HCT
     have HE2:Hid (qA (aA txt) E S d s=if aA sv=[36] ∨ aA sv=[64] then
       match pD (aA txt) E d (decide (aA sv=[64])) s1 with
       | none=>none
       | some (q,s)=>some (.path q,s)
      else none):=lh (by rw[HE1.o,HSV.o];simp only[if_neg k3,if_neg k2,if_neg k1])
     have y1:=HYA.o.at_ (i:=1) rfl;clear k3 k2 k1 hk4 hfour hdol hmx HE1
     by_cases hdl:aA sv=[36] ∨ aA sv=[64]
     ·rw[decide_eq_true hdl] at HCT;have HE3:Hid (qA (aA txt) E S d s=match pD (aA txt) E d (decide (aA sv=[64])) s1 with | none=>none | some (q,s)=>some (.path q,s)):=lh (by rw[HE2.o,if_pos hdl]);have q64:=nC sv [64];obtain⟨rel,hrel⟩:∃ rel,decide (aA sv=[64])=rel:=⟨_,rfl⟩;rw[hrel] at q64 HE3;have HC:=lh (sV HEK.o HEO.o HR2.o (by omega) (by omega) rel);clear hdl hrel HE2;go_wp2_with fail;refine HCT.o.mono ?_;rintro e w3 ⟨rfl,rfl⟩;go_wp2_with fail;refine(iE _).mono ?_;rintro e w3 ⟨rfl,rfl⟩;go_wp2_with fail
      cases hX:pD (aA txt) E d rel s1 with
      | none=>
       have HE:Hid (qA (aA txt) E S d s=none):=lh (by rw[HE3.o,hX]);rw[hX] at HC;refine HC.o.mono ?_;rintro e w3 ⟨rfl,hf3⟩;exact⟨rfl,HQ.o _ _ (bB HE.o (HF2.o.trans hf3 (fun x hx=>.inl hx)))⟩
      | some y=>
       obtain⟨y,s3⟩:=y;have HE:Hid (qA (aA txt) E S d s=some (.path y,s3)):=lh (by rw[HE3.o,hX]);rw[hX] at HC;clear hX HE3;refine HC.o.mono ?_;rintro e w3 ⟨_,rfl,⟨cs,rfl,hcs⟩,hr3,hf3⟩;have HZ3:=lh (HZ2.o.fr hf3 (by simp;omega));have HF3:=lh (HF2.o.trans hf3 (fun x hx=>.inl hx));have HR3:=lh hr3;have hcs2:=hcs.mono (M:=fun g=>w.heap.size < g) (fun g hg=>by have:=HF2.o.size;have:=HZ2.o.lt;omega)
       obtain⟨b9,A9,n9,c9,rfl⟩:∃ b A n c,cs=[.bool b,.slice A n c]:=by
        obtain⟨qr,ql⟩:=y;obtain⟨cs',rfl,h9⟩:=hcs2.lf;obtain⟨v,cs'',rfl,h8,h7⟩:=h9.inv;obtain⟨A,c,rfl,_⟩:=h8.slice;rw[h7.nil_inv];exact⟨_,_,_,_,rfl⟩
       have HRW3:=lh (sN hcs2);clear hr3 hf3 hcs hcs2 HC HZ2 HF2 HR2 y0 y1 q64;have hc1_:(Tryz.prog.info? 109).map (·.size)=some ([.int .i64 6,.slice none 0 0,.string { data:=#[] },.bool b9,.slice A9 n9 c9,.int .i64 0,.bool false,.bool false,.string { data:=#[] },.int .i64 0,.string { data:=#[] },.slice none 0 0,.slice none 0 0]:List Value).length:=cD;have hc2_:zx.length=([.int .i64 6,.slice none 0 0,.string { data:=#[] },.bool b9,.slice A9 n9 c9,.int .i64 0,.bool false,.bool false,.string { data:=#[] },.int .i64 0,.string { data:=#[] },.slice none 0 0,.slice none 0 0]:List Value).length:=rfl;have ho1_:=HRW3.o.one;have HPC1:=lh hc1_;have HPC2:=lh hc2_;have HPO:=lh ho1_;clear hc1_ hc2_ ho1_
       go_wp2_with (with_reducible refine iA rfl 109 (.tmp 2) (.tmp 15) rfl [.int .i64 6,.slice none 0 0,.string { data:=#[] },.bool b9,.slice A9 n9 c9,.int .i64 0,.bool false,.bool false,.string { data:=#[] },.int .i64 0,.string { data:=#[] },.slice none 0 0,.slice none 0 0] rfl rfl HZ3.o HPC1.o HPC2.o HPO.o ?_)
       intro w9 hb9 hf9 hz9;have HB9:=lh hb9;have HF9:=lh hf9;clear hb9 hf9 hz9;go_wp2_with fail;exact bH rfl rfl HB9.o rfl (HQ.o _ _ (aB HE.o ⟨_,rfl,(HRW3.o.fr HF9.o (fun g hg=>by simp;omega)).mono (fun g hg=>by omega)⟩ (HR3.o.fr HF9.o (by simp;omega)) (HF3.o.trans HF9.o (fun x hx=>.inr (by simp at hx;omega)))))
     ·rw[decide_eq_false hdl] at HCT;have HE:Hid (qA (aA txt) E S d s=none):=lh (by rw[HE2.o,if_neg hdl]);clear hdl;go_wp2_with fail;refine HCT.o.mono ?_;rintro e w3 ⟨rfl,rfl⟩;go_wp2_with fail;refine(aE _).mono ?_;rintro e w3 ⟨rfl,rfl⟩;exact⟨rfl,HQ.o _ _ (bB HE.o HF2.o)⟩
end
section
variable {P : Program} {ops : Array Oper} {Q : Exit -> Act -> World -> Prop} {md : Region.Mode} {S : World -> Prop} {I : List Nat}
theorem sD {j:Nat} (d:Option Tmp) {o:Oper} {fuel:Nat} {listed:Array Bool} {a:Act} {w:World} (ho:ops[j]? = some o) (hd:o.dst=d) (hr:Region.ready md ops listed=[j]) (hg:Region.wanted o (yielded ops a.tmps)=true)
  (h:∀ K:Act -> World -> Prop,(∀ v w',(kL md ops I j=true -> S w') -> pF P md ops Q S I fuel (listed.setIfInBounds j true) (a.put d v) w' -> K (a.put o.dst v) w') -> Oper.wp P o a w K Q):
  pF P md ops Q S I (fuel+1) listed a w:=by
 subst hd;refine⟨fun h0=>absurd (hr ▸ h0) (by simp),fun i hi=>?_⟩;rw[hr] at hi;obtain rfl:i=j:=by simpa using hi
 refine wpOp_step ho fun K hK=>?_;rw[if_pos hg];exact h K (fun v w' h1 h2=>hK _ w' ⟨h1,h2⟩)
end
theorem aCs (x0 x1 x2 x3 x4 x5 x6 x7 x8 x9 x10 x11 x12 y0 y1 y2 y3 y4 y5 y6 y7 y8 y9 y10 y11 y12:Value) (w:World):(Instr.buildSlice 48 2 #[(0,.agg #[x0,x1,x2,x3,x4,x5,x6,x7,x8,x9,x10,x11,x12]),(1,.agg #[y0,y1,y2,y3,y4,y5,y6,y7,y8,y9,y10,y11,y12])]).run Tryz.prog w=.ok (.slice (some ⟨w.heap.size,0,none⟩) 2 2) (w.alloc (.cells #[x0,x1,x2,x3,x4,x5,x6,x7,x8,x9,x10,x11,x12,y0,y1,y2,y3,y4,y5,y6,y7,y8,y9,y10,y11,y12] 109)):=by kernel_rfl
theorem aDS {cs ds:List Value} (hc:cs.length=13) (hd:ds.length=13) (w:World):(Instr.buildSlice 48 2 #[(0,.agg cs.toArray),(1,.agg ds.toArray)]).run Tryz.prog w=.ok (.slice (some ⟨w.heap.size,0,none⟩) 2 2) (w.alloc (.cells (cs ++ ds).toArray 109)):=by
 match cs,hc,ds,hd with
 | [x0,x1,x2,x3,x4,x5,x6,x7,x8,x9,x10,x11,x12],_,[y0,y1,y2,y3,y4,y5,y6,y7,y8,y9,y10,y11,y12],_=>exact aCs x0 x1 x2 x3 x4 x5 x6 x7 x8 x9 x10 x11 x12 y0 y1 y2 y3 y4 y5 y6 y7 y8 y9 y10 y11 y12 w
def wL:List ByteArray:=oO.map fun l=>⟨l.toArray⟩
section
variable {P : Program} {o : Oper} {a : Act} {W : World}
theorem qT {g:Nat} {t t':TypeId} {cs:List Value} {d:TypeDesc} {x:Operand} (ho:o.op=.load t x) (hx:a.eval x=.pointer (some ⟨g,0,none⟩)) (hb:Blk W g t' cs) (hu:P.underlying t=some d) (hd:d.isRow=true) (hi:(P.info? t).map (·.size)=some cs.length):(execOp a.eval o).run P W=.ok (.value (.agg cs.toArray)) W:=by
 have hl:=run_loadVar_row (P:=P) W g t' t cs.toArray (0,0) d hb hu (by cases d <;> simp_all) (by simpa using hi)
 simp[execOp,ho,hx,Instr.loadAt,Instr.sureAddr,hl,Result.andThen]
end
theorem dA {w w':World} (h:Fr [] w w') {p:Addr} {v:Value} (hc:w.cell? p=some v):w'.cell? p=some v:=by
 rw[h.cell (World.block_lt_of_cell? w _ hc) (by simp)];exact hc
theorem aFw (w:World):Calls Tryz.prog 186 #[] w fun e w'=>e=.returned (.slice (some ⟨w.heap.size,0,none⟩) 6 6)/\(∀ j,j < wL.length -> w'.cell? ⟨w.heap.size,0+j,none⟩=some (.string (wL.getD j ByteArray.empty)))/\Fr [] w w':=by
 go_enter Tryz.func186,Tryz.ntmps186
 go_wp2_with fail
 go_ret
 refine⟨rfl,fun j hj=>?_,(Fr.refl _ _).alloc _⟩;have hb:=Blk.new w 9 (wL.map Value.string);rw[Nat.zero_add];refine hb.at_ ?_;rw[List.getElem?_map,List.getD_eq_getElem?_getD,List.getElem?_eq_getElem hj]
 rfl
theorem aDT (x:ByteArray):Lib.containsS (wL.take 6) x=decide (aA x ∈ oO):=by
 rw[Bool.eq_iff_iff,Lib.containsS_iff,decide_eq_true_eq]
 show x ∈ wL ↔ _
 unfold wL;rw[List.mem_map]
 constructor
 ·rintro⟨l,hl,rfl⟩
  simpa[aA] using hl
 ·intro h;exact⟨aA x,h,tF (by simp[aA])⟩
theorem CAt.two {w:World} {N:Nat -> Prop} {a b:List Cl} {cs ds:List Value} {g:Nat} {t:TypeId} (hb:Blk w g t (cs ++ ds)) (ha:gA w N a cs) (hb':gA w N b ds) (h1:a.length=13) (h2:b.length=13) (hg:N g):CAt w N (.rows 13 [a,b]) (.slice (some ⟨g,0,none⟩) 2 2):=by
 have l1:cs.length=13:=ha.1.trans h1;have l2:ds.length=13:=hb'.1.trans h2;refine .rows 13 [a,b] _ 2 g 0 (fun i=>if i=0 then cs else ds) (by decide) (Nat.le_refl 2) (fun _=>⟨rfl,hg⟩) (fun r hr=>?_) (fun i hi=>?_) (fun i r j x u e1 e2 e3=>?_)
 ·simp at hr;rcases hr with rfl | rfl <;> assumption
 ·have:i=0 ∨ i=1:=by simp at hi;omega
  rcases this with rfl | rfl
  ·refine⟨l1,fun j u hu=>?_⟩;rw[show 0+13 * 0+j=j by omega];refine hb.at_ ?_;have hu':cs[j]? = some u:=hu;rw[List.getElem?_append_left (List.getElem?_eq_some_iff.1 hu').1];exact hu'
  ·refine⟨l2,fun j u hu=>?_⟩;rw[show 0+13 * 1+j=cs.length+j by omega];refine hb.at_ ?_;rw[List.getElem?_append_right (by omega),show cs.length+j - cs.length=j by omega];exact hu
 ·have hi:=(List.getElem?_eq_some_iff.1 e1).1;have:i=0 ∨ i=1:=by simp at hi;omega
  rcases this with rfl | rfl
  ·simp at e1;subst e1;exact ha.2 j x u e2 e3
  ·simp at e1;subst e1;exact hb'.2 j x u e2 e3
section
variable {w : World} {r gl n : Nat} {txt : ByteArray} {d : Int} {s : QS} {E S : Int -> Rd Xpr}
theorem aDU (hE:EK 167 txt E n) (hS:EK 235 txt (qA (aA txt) E S) (n+1)) (hSo:∀ d,Rd.on (qA (aA txt) E S d)) (h:wD w r gl txt d s) (hn:s.l.length<=n) (hd:d+s.l.length<=80000):Calls Tryz.prog 222 #[.pointer (some ⟨r,0,none⟩)] w (rJ (cF Xpr.cells w) w r gl txt d (yC (aA txt) E S d s)):=by
 refine bA fun R HQ=>?_;have hrlt:=h.lt;have HH:=lh h;have HEK:=lh hE;have HSK:=lh hS;have HSO:=lh hSo;clear h hE hS hSo
 go_enter Tryz.func222,Tryz.ntmps222
 go_wp2_with (with_reducible refine vD rfl 109 rfl (.agg zx.toArray) zx iH sE ?_)
 intro w0 hb0 hf0 hz0;have HZ0:=lh hb0;have HF0:Hid (Fr [r] w w0):=lh (hf0.mono (by simp));have HR0:=lh (HH.o.fr hf0);clear hb0 hf0;go_wp2_with fail
 cases hn1:s.next [33] with
 | true=>
  have e1:=dH hn1;have HE0:Hid (yC (aA txt) E S d s=lK (aA txt) E S d s.go):=lh (by unfold yC;rw[if_pos hn1]);refine(qF HR0.o ⟨#[33]⟩ hn1).mono ?_;rintro e w1 ⟨rfl,hr1,hf1⟩;have HZ1:=lh (HZ0.o.fr hf1 (by simp;omega));have HF1:=lh (HF0.o.trans hf1 (fun x hx=>.inl hx));have HR1:=lh hr1;have HC:=lh (aFu HEK.o HSK.o hr1 (by omega) (by omega));clear hr1 hf1 hn1 HZ0 HF0 HR0;go_wp2_with fail
  cases hX:lK (aA txt) E S d s.go with
  | none=>
   have HE:Hid (yC (aA txt) E S d s=none):=lh (by rw[HE0.o,hX]);rw[hX] at HC;refine HC.o.mono ?_;rintro e w3 ⟨rfl,hf3⟩;exact⟨rfl,HQ.o _ _ (bB HE.o (HF1.o.trans hf3 (fun x hx=>.inl hx)))⟩
  | some y=>
   obtain⟨y,s3⟩:=y;have HE:Hid (yC (aA txt) E S d s=some (y,s3)):=lh (by rw[HE0.o,hX]);rw[hX] at HC;clear hX HE0;refine HC.o.mono ?_;rintro e w3 ⟨_,rfl,⟨cs,rfl,hcs⟩,hr3,hf3⟩;have HZ3:=lh (HZ1.o.fr hf3 (by simp;omega));have HF3:=lh (HF1.o.trans hf3 (fun x hx=>.inl hx));have HR3:=lh hr3;have HRW3:=lh (hcs.mono (M:=fun g=>w.heap.size < g) (fun g hg=>by have:=HF1.o.size;have:=HZ1.o.lt;omega));have HCL3:Hid (cs.length=13):=lh (hcs.1.trans (kA y));clear hr3 hf3 hcs HC HZ1 HF1 HR1;have hc1_:(Tryz.prog.info? 109).map (·.size)=some cs.length:=by rw[HCL3.o];exact cD
   have hc2_:zx.length=cs.length:=by rw[HCL3.o];rfl
   have ho1_:=HRW3.o.one;have HPC1:=lh hc1_;have HPC2:=lh hc2_;have HPO:=lh ho1_;clear hc1_ hc2_ ho1_
   go_wp2_with (with_reducible refine iA rfl 109 (.tmp 2) (.tmp 9) rfl cs rfl rfl HZ3.o HPC1.o HPC2.o HPO.o ?_)
   intro w9 hb9 hf9 hz9;have HB9:=lh hb9;have HF9:=lh hf9;clear hb9 hf9 hz9;go_wp2_with fail;exact bH rfl rfl HB9.o HCL3.o (HQ.o _ _ (aB HE.o ⟨_,rfl,(HRW3.o.fr HF9.o (fun g hg=>by simp;omega)).mono (fun g hg=>by omega)⟩ (HR3.o.fr HF9.o (by simp;omega)) (HF3.o.trans HF9.o (fun x hx=>.inr (by simp at hx;omega)))))
 | false=>
  have hE0:yC (aA txt) E S d s=if s.next [40]=true then bD E d s.go else match qA (aA txt) E S d s with
   | none=>none
   | some (e,s)=>if s.peek.kind=4/\s.peek.s ∈ oO then
     match qA (aA txt) E S d s.go with
     | none=>none
     | some (f,s1)=>some (.of 4 [e,f] s.peek.s,s1)
    else some (e,s):=by unfold yC;rw[if_neg (by rw[hn1];simp)];rfl
  have HE9:=lh hE0;refine(mH HR0.o ⟨#[33]⟩ hn1).mono ?_;rintro e w1 ⟨rfl,hr1,hf1⟩;have HZ1:=lh (HZ0.o.fr hf1 (by simp;omega));have HF1:=lh (HF0.o.trans hf1 (fun x hx=>.inl hx));have HR1:=lh hr1;clear hr1 hf1 hn1 hE0 HZ0 HF0 HR0;go_wp2_with fail
  cases hn2:s.next [40] with
  | true=>
   have e1:=dH hn2;have HE0:Hid (yC (aA txt) E S d s=bD E d s.go):=lh (by rw[HE9.o,if_pos hn2]);refine(qF HR1.o ⟨#[40]⟩ hn2).mono ?_;rintro e w2 ⟨rfl,hr2,hf2⟩;have hz2:=HZ1.o.fr hf2 (by simp;omega);have hF2:=HF1.o.trans hf2 (fun x hx=>.inl hx);clear HZ1 HF1 HR1;have HZ1:=lh hz2;have HF1:=lh hF2;have HR1:=lh hr2;have HC:=lh (nT HEK.o hr2 (by omega) (by omega));clear hr2 hf2 hn2 hz2 hF2 HE9;go_wp2_with fail
   cases hX:bD E d s.go with
   | none=>
    have HE:Hid (yC (aA txt) E S d s=none):=lh (by rw[HE0.o,hX]);rw[hX] at HC;refine HC.o.mono ?_;rintro e w3 ⟨rfl,hf3⟩;exact⟨rfl,HQ.o _ _ (bB HE.o (HF1.o.trans hf3 (fun x hx=>.inl hx)))⟩
   | some y=>
    obtain⟨y,s3⟩:=y;have HE:Hid (yC (aA txt) E S d s=some (y,s3)):=lh (by rw[HE0.o,hX]);rw[hX] at HC;clear hX HE0;refine HC.o.mono ?_;rintro e w3 ⟨_,rfl,⟨cs,rfl,hcs⟩,hr3,hf3⟩;have HZ3:=lh (HZ1.o.fr hf3 (by simp;omega));have HF3:=lh (HF1.o.trans hf3 (fun x hx=>.inl hx));have HR3:=lh hr3;have HRW3:=lh (hcs.mono (M:=fun g=>w.heap.size < g) (fun g hg=>by have:=HF1.o.size;have:=HZ1.o.lt;omega));have HCL3:Hid (cs.length=13):=lh (hcs.1.trans (kA y));clear hr3 hf3 hcs HC HZ1 HF1 HR1;have hc1_:(Tryz.prog.info? 109).map (·.size)=some cs.length:=by rw[HCL3.o];exact cD
    have hc2_:zx.length=cs.length:=by rw[HCL3.o];rfl
    have ho1_:=HRW3.o.one;have HPC1:=lh hc1_;have HPC2:=lh hc2_;have HPO:=lh ho1_;clear hc1_ hc2_ ho1_
    go_wp2_with (with_reducible refine iA rfl 109 (.tmp 2) (.tmp 14) rfl cs rfl rfl HZ3.o HPC1.o HPC2.o HPO.o ?_)
    intro w9 hb9 hf9 hz9;have HB9:=lh hb9;have HF9:=lh hf9;clear hb9 hf9 hz9;go_wp2_with fail;exact bH rfl rfl HB9.o HCL3.o (HQ.o _ _ (aB HE.o ⟨_,rfl,(HRW3.o.fr HF9.o (fun g hg=>by simp;omega)).mono (fun g hg=>by omega)⟩ (HR3.o.fr HF9.o (by simp;omega)) (HF3.o.trans HF9.o (fun x hx=>.inr (by simp at hx;omega)))))
  | false=>
   have hE1:=HE9.o;rw[if_neg (by rw[hn2];simp)] at hE1;have HE1:=lh hE1;refine(mH HR1.o ⟨#[40]⟩ hn2).mono ?_;rintro e w2 ⟨rfl,hr2,hf2⟩;have HZ2:=lh (HZ1.o.fr hf2 (by simp;omega));have HF2:=lh (HF1.o.trans hf2 (fun x hx=>.inl hx));have HR2:=lh hr2;have HC:=lh (HSK.o w2 r gl d s hr2 (by omega) hd);clear hr2 hf2 hn2 hE1 HE9 HZ1 HF1 HR1;go_wp2_with fail
   cases hX:qA (aA txt) E S d s with
   | none=>
    have HE:Hid (yC (aA txt) E S d s=none):=lh (by rw[HE1.o,hX]);rw[hX] at HC;refine HC.o.mono ?_;rintro e w3 ⟨rfl,hf3⟩;exact⟨rfl,HQ.o _ _ (bB HE.o (HF2.o.trans hf3 (fun x hx=>.inl hx)))⟩
   | some y=>
    obtain⟨y,s3⟩:=y;have hon:=(HSO.o d s y s3 hX).length_le
    have HE2:Hid (yC (aA txt) E S d s=if s3.peek.kind=4/\s3.peek.s ∈ oO then
     match qA (aA txt) E S d s3.go with
     | none=>none
     | some (f,s1)=>some (.of 4 [y,f] s3.peek.s,s1)
    else some (y,s3)):=lh (by rw[HE1.o,hX])
    rw[hX] at HC;clear hX HE1;refine HC.o.mono ?_;rintro e w3 ⟨_,rfl,⟨cs,rfl,hcs⟩,hr3,hf3⟩;have HZ3:=lh (HZ2.o.fr hf3 (by simp;omega));have HF3:=lh (HF2.o.trans hf3 (fun x hx=>.inl hx));have HR3:=lh hr3;have HCSa:=lh (hcs.bound.mono (M:=fun g=>w.heap.size < g/\g < w3.heap.size) (fun g hg=>by have:=HF2.o.size;have:=HZ2.o.lt;omega));have hcl:cs.length=13:=hcs.1.trans (kA y);have hc1:(Tryz.prog.info? 109).map (·.size)=some cs.length:=by rw[hcl];exact cD
    have hc2:zx.length=cs.length:=by rw[hcl];rfl
    have HCL:=lh hcl;have HC1:=lh hc1;have HC2:=lh hc2;have HO:=lh hcs.one;clear hcs hr3 hf3 HC hcl hc1 hc2 HZ2 HF2 HR2
    go_wp2_with (with_reducible refine zC rfl rfl 109 (.tmp 16) rfl rfl rfl rfl (.agg zx.toArray) zx iH sE cs rfl rfl HC1.o HC2.o HO.o ?_)
    intro w4 hy4 hf4 hz4;obtain⟨p,hp⟩:∃ p,w3.heap.size=p:=⟨_,rfl⟩;have hzl:=HZ3.o.lt;rw[hp] at hy4 hz4 HCSa hzl ⊢;have HY4:=lh hy4;have HZ4:=lh (HZ3.o.fr hf4);have HF4:=lh (HF3.o.trans hf4);have HR4:=lh (HR3.o.fr hf4);have HCS4:=lh (HCSa.o.fr hf4);have HP:=lh (yP HR4.o);obtain⟨sv,dv,hsv,-,hv⟩:=sC s3.peek;rw[hv] at HP;have hS8s:S8 s3.peek.s=.string sv:=by rw[<- hsv];rfl
    have HS8s:=lh hS8s;have HSV:=lh hsv;clear hy4 hf4 hz4 hp hv hsv hS8s HZ3 HF3 HR3 HCSa;go_wp2_with fail;refine HP.o.mono ?_;rintro e w5 ⟨rfl,hf5⟩;have hfa:Fr [] w5 (w5.alloc (.cells #[.int .i64 (s3.peek.kind:Int),.string sv,.bool s3.peek.n.neg,.string dv,.int .i64 s3.peek.n.exp,.int .i64 (s3.peek.frm:Int),.int .i64 (s3.peek.til:Int)] 95)):=(Fr.refl [] w5).alloc _;have hta:=Blk.new w5 95 [.int .i64 (s3.peek.kind:Int),.string sv,.bool s3.peek.n.neg,.string dv,.int .i64 s3.peek.n.exp,.int .i64 (s3.peek.frm:Int),.int .i64 (s3.peek.til:Int)];have hf46:=hf5.trans hfa;have HY6:=lh (HY4.o.fr hf46);have HZ6:=lh (HZ4.o.fr hf46);have HF6:=lh (HF4.o.trans hf46);have HR6:=lh (HR4.o.fr hf46);have HCS6:=lh (HCS4.o.fr hf46);have hpl5:=(HY4.o.fr hf5).lt;clear HP HY4 HZ4 HF4 HR4 HCS4 hf5 hf46;go_upto_region 7 with fail
    generalize w5.alloc (.cells #[.int .i64 (s3.peek.kind:Int),.string sv,.bool s3.peek.n.neg,.string dv,.int .i64 s3.peek.n.exp,.int .i64 (s3.peek.frm:Int),.int .i64 (s3.peek.til:Int)] 95)=w6 at *;obtain⟨q,hq⟩:∃ q,w5.heap.size=q:=⟨_,rfl⟩;rw[hq] at hta hpl5 ⊢;obtain⟨k,hk⟩:∃ k,s3.peek.kind=k:=⟨_,rfl⟩;rw[hk] at hta HE2 ⊢;have t0:=hta.at_ (i:=0) rfl;have t1:=hta.at_ (i:=1) rfl;have HT6:=lh hta;have HK:=lh hk;have hql:=hta.lt;clear hta hfa hq hk
    by_cases hk4:k=4
    ·have d4:((k:Int) == 4)=true:=by rw[hk4];rfl
     obtain⟨B,hB⟩:∃ B,decide (aA sv ∈ oO)=B:=⟨_,rfl⟩;have HOPS:=lh (aFw w6.drew);refine mA (fun W=>W.cell? ⟨q,0,none⟩=some (.int .i64 (k:Int))/\W.cell? ⟨q,1,none⟩=some (.string sv)) [0,1,2,3,5,6,8] (by kernel_rfl) ?_;refine tks [0,1,2,3,5,6] ?_
     iterate 6 (refine tk rfl rfl ⟨t0,t1⟩ rfl (fun _ hW=>by(obtain⟨q0,q1⟩:=hW;go_simp) <;> with_reducible rfl) ?_;simp only[nrm])
     refine tke ?_;refine sD (j:=4) (some 23) rfl rfl (by kernel_rfl) rfl fun K hK=>?_;refine zA (l:=[]) rfl [] rfl (fun W=>by kernel_rfl) (HOPS.o.mono ?_);rintro e w7 ⟨rfl,hcell,hf7⟩;have hf67:Fr [] w6 w7:=((Fr.refl [] w6).drew).trans hf7;have hk0:=dA hf67 t0;have hk1:=dA hf67 t1;have hct:=Tryz.slices_Contains_string w6.drew.heap.size 0 6 6 wL sv w7 (by decide) (by decide) hcell;rw[aDT,hB] at hct;refine⟨_,rfl,hK _ _ (fun _=>⟨hk0,hk1⟩) ?_⟩;simp only[nrm];clear hK HOPS;refine sD (j:=7) (some 26) rfl rfl (by kernel_rfl) rfl fun K hK=>?_;refine zA (l:=[.tmp 23,.tmp 25]) rfl [.slice (some ⟨w6.drew.heap.size,0,none⟩) 6 6,.string sv] rfl (fun W=>by kernel_rfl) (hct.mono ?_);rintro e w8 ⟨rfl,rfl⟩;refine⟨_,rfl,hK _ _ (fun _=>⟨hk0,hk1⟩) ?_⟩;simp only[nrm];clear hK;refine tks [8] ?_;refine tk rfl rfl ⟨hk0,hk1⟩ rfl (fun _ hW=>by(obtain⟨q0,q1⟩:=hW;go_simp) <;> with_reducible rfl) ?_;simp only[nrm];refine tke ?_;refine wd ?_ _;have HY8:=lh (HY6.o.fr hf67);have HZ8:=lh (HZ6.o.fr hf67);have HF8:=lh (HF6.o.trans hf67);have HR8:=lh (HR6.o.fr hf67);have HCS8:=lh (HCS6.o.fr hf67);have HT8:=lh (HT6.o.fr hf67);have hB':=hB;rw[HSV.o] at hB';have HB:=lh hB';clear hct hcell hf7 hf67 hk0 hk1 t0 t1 hB hB' HY6 HZ6 HF6 HR6 HCS6 HT6
     cases B with
     | false=>
      have HE:Hid (yC (aA txt) E S d s=some (y,s3)):=lh (by rw[HE2.o,if_neg (fun h=>by have h9:=HB.o;rw[decide_eq_true h.2] at h9;cases h9)])
      go_wp2_with (first
       | (with_reducible refine uA rfl 109 (.tmp 3) rfl rfl HY8.o Tryz.underlying109 rfl HC1.o ?_)
       | (with_reducible refine iA rfl 109 (.tmp 2) (.tmp 37) rfl cs rfl rfl HZ8.o HC1.o HC2.o HO.o ?_))
      intro wZ hbZ hfZ hzZ;have HBZ:=lh hbZ;have HFZ:=lh hfZ;clear hbZ hfZ hzZ;go_wp2_with fail;exact bH rfl rfl HBZ.o HCL.o (HQ.o _ _ (aB HE.o ⟨_,rfl,(HCS8.o.fr HFZ.o (fun g hg=>by simp;omega)).mono (fun g hg=>by omega)⟩ (HR8.o.fr HFZ.o (by simp;omega)) (HF8.o.trans HFZ.o (fun x hx=>.inr (by simp at hx;omega)))))
     | true=>
      have hin:s3.peek.s ∈ oO:=of_decide_eq_true HB.o;have HE3:Hid (yC (aA txt) E S d s=match qA (aA txt) E S d s3.go with | none=>none | some (f,s1)=>some (.of 4 [y,f] s3.peek.s,s1)):=lh (by rw[HE2.o,if_pos ⟨hk4,hin⟩]);have hpkc:∃ t,s3.take=some (t,s3.go)/\s3.l.length=s3.go.l.length+1:=lJ (x:=s3.peek.s) (by unfold QS.next;rw[HK.o,hk4];simp);obtain⟨tt,htk,hlg⟩:=hpkc;have HTK:=lh (xK HR8.o);rw[htk] at HTK;clear hin htk HE2;go_wp2_with fail;refine HTK.o.mono ?_;rintro e w9 ⟨_,rfl,-,hr9,hf9⟩;have HY9:=lh (HY8.o.fr hf9 (by simp;omega));have HZ9:=lh (HZ8.o.fr hf9 (by simp;omega));have HF9:=lh (HF8.o.trans hf9 (fun x hx=>.inl hx));have HR9:=lh hr9;have HCS9:=lh (HCS8.o.fr hf9 (fun g hg=>by simp;omega));have HT9:=lh (HT8.o.fr hf9 (by simp;omega));clear hr9 hf9 HTK HY8 HZ8 HF8 HR8 HCS8 HT8;go_upto_region 9 with fail
      have t1:=HT9.o.at_ (i:=1) rfl;have hd9:d+s3.go.l.length<=80000:=by omega
      have HC9:=lh (HSK.o w9.drew r gl d s3.go (HR9.o.fr ((Fr.refl [] w9).drew)) (by omega) hd9);refine mA (fun W=>W.cell? ⟨q,1,none⟩=some (.string sv)/\Blk W p 109 cs) [0,1,2,3] (by kernel_rfl) ?_;refine tks [0,1] ?_
      iterate 2 (refine tk rfl rfl ⟨t1,HY9.o⟩ rfl (fun _ hW=>by(obtain⟨q0,q1⟩:=hW;go_simp) <;> with_reducible rfl) ?_;simp only[nrm])
      refine tke ?_;refine tv 2 (.agg cs.toArray) rfl rfl ⟨t1,HY9.o⟩ (.inl ⟨rfl,fun W hW=>qT rfl rfl hW.2 Tryz.underlying109 rfl HC1.o⟩) ?_;simp only[nrm];refine tks [3] ?_;refine tk rfl rfl ⟨t1,HY9.o⟩ rfl (fun _ hW=>by(obtain⟨q0,q1⟩:=hW;go_simp) <;> with_reducible rfl) ?_;simp only[nrm];refine tke ?_;have hdr:Fr [] w9 w9.drew:=(Fr.refl [] w9).drew
      cases hX:qA (aA txt) E S d s3.go with
      | none=>
       have HE:Hid (yC (aA txt) E S d s=none):=lh (by rw[HE3.o,hX]);rw[hX] at HC9;refine sp 4 rfl rfl rfl fun K hK=>?_;refine uX (l:=[.tmp 33]) rfl [.pointer (some ⟨r,0,none⟩)] rfl (fun W=>by kernel_rfl) (HC9.o.mono ?_);rintro e wA ⟨rfl,hfA⟩;refine .inr ⟨_,rfl,?_⟩;exact⟨rfl,HQ.o _ _ (bB HE.o ((HF9.o.trans hdr).trans hfA (fun x hx=>.inl hx)))⟩
      | some y2=>
       obtain⟨y2,s4⟩:=y2;have HE:Hid (yC (aA txt) E S d s=some (.of 4 [y,y2] s3.peek.s,s4)):=lh (by rw[HE3.o,hX]);rw[hX] at HC9;clear hX HE3;refine sp 4 rfl rfl rfl fun K hK=>?_;refine uX (l:=[.tmp 33]) rfl [.pointer (some ⟨r,0,none⟩)] rfl (fun W=>by kernel_rfl) (HC9.o.mono ?_);rintro e w10 ⟨_,rfl,⟨ds,rfl,hds⟩,hr10,hf10⟩;have hfz:Fr [r] w9 w10:=(hdr.mono (by simp):Fr [r] w9 w9.drew).trans hf10 (fun x hx=>.inl hx);have hy10:=HY9.o.fr hfz (by simp;omega);have ht10:=(HT9.o.fr hfz (by simp;omega)).at_ (i:=1) rfl;have hz10:=HZ9.o.fr hfz (by simp;omega);have hsz9:=hfz.size;have hzl9:=HZ9.o.lt;have hds2:=hds.mono (M:=fun g=>w.heap.size < g) (fun g hg=>by have h9:w9.heap.size<=g:=hg;omega);have HR10:=lh hr10;have HF10:=lh (HF9.o.trans hfz (fun x hx=>.inl hx));have HCS10:=lh ((HCS9.o.fr hfz (fun g hg=>by simp;omega)).mono (M:=fun g=>w.heap.size < g) (fun g hg=>hg.1));have HDS:=lh hds2;have HDL:Hid (ds.length=13):=lh (hds.1.trans (kA y2));have HY10:=lh hy10;have HZ10:=lh hz10;have HT10:=lh ht10;clear hds hds2 hr10 hf10 hfz hy10 ht10 hz10 HY9 HZ9 HF9 HR9 HCS9 HT9 HC9 t1 hdr;refine .inl ⟨_,rfl,hK _ _ (fun _=>⟨HT10.o,HY10.o⟩) ?_⟩;simp only[nrm];clear hK;refine sp 5 rfl rfl rfl fun K hK=>?_;refine tG (v:=.slice (some ⟨w10.heap.size,0,none⟩) 2 2) (w':=w10.alloc (.cells (cs ++ ds).toArray 109)) (by simp[execOp,Act.eval,aDS HCL.o HDL.o,Result.andThen]) (hK _ _ (fun _=>⟨dA ((Fr.refl [] w10).alloc _) HT10.o,HY10.o.alloc _⟩) ?_);simp only[nrm];clear hK;have hbx:=Blk.new w10 109 (cs ++ ds);have hfx:Fr [] w10 (w10.alloc (.cells (cs ++ ds).toArray 109)):=(Fr.refl [] w10).alloc _;generalize w10.alloc (.cells (cs ++ ds).toArray 109)=w11 at *;have hzl10:=HZ10.o.lt;have hrw:=wG (what:=4) (op:=s3.peek.s) (l:=[y,y2]) (CAt.two hbx (HCS10.o.fr hfx) (HDS.o.fr hfx) (kA y) (kA y2) hzl10);rw[HS8s.o] at hrw;have HRW:=lh hrw;have HZ11:=lh (HZ10.o.fr hfx);have HF11:=lh (HF10.o.trans hfx);have HR11:=lh (HR10.o.fr hfx);have HT11:=lh (dA hfx HT10.o);have HY11:=lh (HY10.o.fr hfx);clear hbx hfx hrw HY10 HZ10 HF10 HR10 HCS10 HDS HDL HT10;refine sp 6 rfl rfl rfl fun K hK=>?_;refine tA (v:=?aq2_6) ?yq2_6 (hK _ _ (fun _=>⟨HT11.o,HY11.o⟩) ?_)
       case yq2_6=>go_simp <;> with_reducible rfl
       simp only[nrm];refine iC (j:=7) none rfl rfl (by kernel_rfl) rfl fun K hK=>?_;refine yI 109 (.tmp 2) (.tmp 36) rfl [.int .i64 4,.slice (some ⟨w10.heap.size,0,none⟩) 2 2,.string sv,.bool false,.slice none 0 0,.int .i64 0,.bool false,.bool false,.string { data:=#[] },.int .i64 0,.string { data:=#[] },.slice none 0 0,.slice none 0 0] rfl rfl HZ11.o cD rfl HRW.o.one fun w12 hb12 hf12 hz12=>hK _ _ (fun h=>absurd h (by decide +kernel)) ?_;simp only[Act.put];clear hK;refine wd ?_ _;have HB12:=lh hb12;have HF12:=lh hf12;clear hb12 hf12 hz12;go_wp2_with fail;exact bH rfl rfl HB12.o rfl (HQ.o _ _ (aB HE.o ⟨_,rfl,(HRW.o.fr HF12.o (fun g hg=>by simp;omega)).mono (fun g hg=>by omega)⟩ (HR11.o.fr HF12.o (by simp;omega)) (HF11.o.trans HF12.o (fun x hx=>.inr (by simp at hx;omega)))))
    ·have d4:((k:Int) == 4)=false:=by rw[beq_eq_false_iff_ne];omega
     have HE:Hid (yC (aA txt) E S d s=some (y,s3)):=lh (by rw[HE2.o,if_neg (fun h=>hk4 h.1)]);clear hk4 HE2
     go_quiet (fail)
     have hfq:Fr [] w6 (w6.drewN nq):=(Fr.refl [] w6).drewN nq;generalize w6.drewN nq=w8 at *;have HY8:=lh (HY6.o.fr hfq);have HZ8:=lh (HZ6.o.fr hfq);have HF8:=lh (HF6.o.trans hfq);have HR8:=lh (HR6.o.fr hfq);have HCS8:=lh (HCS6.o.fr hfq);clear hfq t0 t1 HY6 HZ6 HF6 HR6 HCS6 HT6
     go_wp2_with (first
      | (with_reducible refine uA rfl 109 (.tmp 3) rfl rfl HY8.o Tryz.underlying109 rfl HC1.o ?_)
      | (with_reducible refine iA rfl 109 (.tmp 2) (.tmp 37) rfl cs rfl rfl HZ8.o HC1.o HC2.o HO.o ?_))
     intro wZ hbZ hfZ hzZ;have HBZ:=lh hbZ;have HFZ:=lh hfZ;clear hbZ hfZ hzZ;go_wp2_with fail;exact bH rfl rfl HBZ.o HCL.o (HQ.o _ _ (aB HE.o ⟨_,rfl,(HCS8.o.fr HFZ.o (fun g hg=>by simp;omega)).mono (fun g hg=>by omega)⟩ (HR8.o.fr HFZ.o (by simp;omega)) (HF8.o.trans HFZ.o (fun x hx=>.inr (by simp at hx;omega)))))
end
theorem xV {txt:List UInt8} {E S:Int -> Rd Xpr} {d:Int} {s:QS}:mI txt E S d s=(eC [38,38] (yC txt E S d) s).map fun r=>(Xpr.many 2 r.1,r.2):=by
 unfold mI
 cases eC [38,38] (yC txt E S d) s <;> rfl
theorem uR {txt:List UInt8} {E S:Int -> Rd Xpr} {d:Int} {s:QS}:tH txt E S d s=(eC [124,124] (mI txt E S d) s).map fun r=>(Xpr.many 1 r.1,r.2):=by
 unfold tH
 cases eC [124,124] (mI txt E S d) s <;> rfl
theorem zY (txt:ByteArray):∀ m,EK 167 txt (eG (aA txt) m).1 m/\EK 235 txt (eG (aA txt) m).2 m
 | 0=>⟨fun w r gl d s h hn hd=>absurd hn (by omega),fun w r gl d s h hn hd=>absurd hn (by omega)⟩
 | m+1=>by
  obtain⟨hE,hS⟩:=zY txt m;obtain⟨oE,oS⟩:=iG (txt:=aA txt) m;have hSi:EK 235 txt (qA (aA txt) (eG (aA txt) m).1 (eG (aA txt) m).2) (m+1):=fun w r gl d s h hn hd=>aAG hE oE hS oS h (by omega) hd;have oSi:∀ d,Rd.on (qA (aA txt) (eG (aA txt) m).1 (eG (aA txt) m).2 d):=fun d=>fH oE oS d;refine⟨fun w r gl d s h hn hd=>?_,hSi⟩
  show Calls Tryz.prog 167 _ w (rJ _ w r gl txt d (tH (aA txt) (eG (aA txt) m).1 (eG (aA txt) m).2 d s))
  rw[uR];refine aAC (n:=s.l.length) (xP oE oS d) (fun w1 s1 h1 hn1=>?_) h (Nat.le_refl _);rw[xV];exact aDM (n:=s1.l.length) (pM oE oS d) (fun w2 s2 h2 hn2=>aDU hE hSi oSi h2 (by omega) (by omega)) h1 (Nat.le_refl _)
theorem eM {w:World} {gp gk:Nat} {x0 x1:Value} {b:Bool} (hp:Blk w gp 25 [x0,x1]) (hk:Blk w gk 4 [.bool b]):
  CallsD Tryz.prog 39 #[.pointer (some ⟨gp,0,none⟩),.pointer (some ⟨gk,0,none⟩)] (.panicking [oI]) w fun e u' w'=>
   e=.returned (.tuple #[])/\u'=.panicking [{ oI with recovered:=true }]/\Blk w' gp 25 [.bool false,.slice none 0 0]/\Blk w' gk 4 [.bool false]/\Fr [gp,gk] w w':=by
 refine callsD_of_wpS Tryz.func39 rfl fun c₀ cs hu=>?_
 apply wpS_seq
 apply wpS_region
 simp[wpOpsS,go_sem,recoverD,hu,Tryz.ntmps39,Exit.thenS,oI]
 refine wpS_of_wp ?_;have hk0:=hk.at_ (i:=0) rfl;have hkf:=hk.free;have p0:=hp.at_ (i:=0) rfl;have p1:=hp.at_ (i:=1) rfl;have hs0:=hp.free;have HP:=lh hp;have HK:=lh hk;have lp:=hp.lt;have lk:=hk.lt;have hne:¬ gk=gp:=fun e=>hp.ne_ hk (by decide) e.symm;have hne':¬ gp=gk:=fun e=>hne e.symm;clear hp hk;have ep:(#[Value.pointer (some ⟨gp,0,none⟩),Value.pointer (some ⟨gk,0,none⟩)] ++ ((Array.replicate 15 undef).setIfInBounds 3 (.iface 99 (.agg #[]))).setIfInBounds 0 (.iface 99 (.agg #[])):Array Value)=#[.pointer (some ⟨gp,0,none⟩),.pointer (some ⟨gk,0,none⟩),.iface 99 (.agg #[]),undef,undef,.iface 99 (.agg #[]),undef,undef,undef,undef,undef,undef,undef,undef,undef,undef,undef]:=rfl;rw[ep];clear ep;have hta:∀ w:World,(Instr.typeAssert (.iface 99 (.agg #[])) 20 99 true).run Tryz.prog w=.ok (.tuple #[.agg #[],.bool true]) w:=fun _=>by kernel_rfl
 go_wp2_with fail;refine⟨rfl,_,rfl,.tuple #[],by simp[results,Tryz.results39],rfl,rfl,?_,?_,?_⟩
 ·exact(((HP.o.set_ 0 (.bool false)).set_ 1 (.slice none 0 0)).far (p:=⟨gk,0,none⟩) hne' _).alloc _
 ·exact((((HK.o.far (p:=⟨gp,0,none⟩) hne _).far (p:=⟨gp,1,none⟩) hne _)).set_ 0 (.bool false)).alloc _
 ·exact((((Fr.refl [gp,gk] w).setCell (.inl (by simp)) _).setCell (.inl (by simp)) _).setCell (.inl (by simp)) _).alloc _
theorem aAH (w:World) (gp gk:Nat):
  CallsD Tryz.prog 39 #[.pointer (some ⟨gp,0,none⟩),.pointer (some ⟨gk,0,none⟩)] .returning w fun e u' w'=>e=.returned (.tuple #[])/\u'=.returning/\w'=w:=by
 refine callsD_of_wpS Tryz.func39 rfl fun c₀ cs hu=>?_
 apply wpS_seq
 apply wpS_region
 simp[wpOpsS,go_sem,recoverD,hu,Tryz.ntmps39,Exit.thenS]
 refine wpS_of_wp ?_;have ep:(#[Value.pointer (some ⟨gp,0,none⟩),Value.pointer (some ⟨gk,0,none⟩)] ++ ((Array.replicate 15 undef).setIfInBounds 3 .nilIface).setIfInBounds 0 .nilIface:Array Value)=#[.pointer (some ⟨gp,0,none⟩),.pointer (some ⟨gk,0,none⟩),.nilIface,undef,undef,.nilIface,undef,undef,undef,undef,undef,undef,undef,undef,undef,undef,undef]:=rfl;rw[ep];clear ep;go_wp2_with fail;exact⟨rfl,.returning,by cases c₀;simp_all,.tuple #[],by simp[results,Tryz.results39],rfl,rfl,rfl⟩
theorem rM {P:Program} {fn:Func} {tmps:Array Value} {w:World} {k k2:Tmp} {t t' t2 t2':TypeId} {g g2:Nat} {cs:List Value} {v:Value} {d:TypeDesc} (hr:fn.results=#[.cell k t,.cell k2 t2]) (ha:tmps.getD k undef=.pointer (some ⟨g,0,none⟩)) (ha2:tmps.getD k2 undef=.pointer (some ⟨g2,0,none⟩)) (hb:Blk w g t' cs) (hb2:Blk w g2 t2' [v])
  (hu:P.underlying t=some d) (hd:d.isRow=true) (hi:(P.info? t).map (·.size)=some cs.length) (h2:∀ w':World,w'.cell? ⟨g2,0,none⟩=some v -> (loadVar t2 ⟨g2,0,none⟩).run P w'=.ok v w'):(results fn tmps).run P w=.ok (.tuple #[.agg cs.toArray,v]) w:=by
 have hl:=run_loadVar_row (P:=P) w g t' t cs.toArray (0,0) d hb hu (by cases d <;> simp_all) (by simpa using hi);have ha':tmps[k]?.getD undef=.pointer (some ⟨g,0,none⟩):=by simpa using ha
 have ha2':tmps[k2]?.getD undef=.pointer (some ⟨g2,0,none⟩):=by simpa using ha2
 have hl2:=h2 w (hb2.at_ (i:=0) rfl)
 simp[results,hr,ha',ha2',hl,hl2,asAddr,Sem.run_bind]
theorem dR {w:World} {g:Nat} {b:Bool} (h:w.cell? ⟨g,0,none⟩=some (.bool b)):(loadVar 4 ⟨g,0,none⟩).run Tryz.prog w=.ok (.bool b) w:=by
 have hu:=Tryz.underlying4
 simp[loadVar,isAgg,run_underlying hu,go_sem,h]
def xI (txt:List UInt8) (n:Nat) (s:QS):Option (Qry × QS):=if s.next [36]=true then pD txt (eG txt n).1 0 false s.go else none
def rT (w:World) (r gl:Nat) (txt:ByteArray) (x:Option (Qry × QS)) (e:Ending) (w':World):Prop:=
 match x with
 | none=>e=.returned (.tuple #[.agg #[.bool false,.slice none 0 0],.bool false])/\Fr [r] w w'
 | some (q,s)=>∃ cs,e=.returned (.tuple #[.agg cs.toArray,.bool (decide (s.l=[]))])/\gA w' (fun g=>w.heap.size<=g) q.cells cs/\wD w' r gl txt 0 s/\Fr [r] w w'
theorem mO {w w':World} {r gl:Nat} {txt:ByteArray} {x:Option (Qry × QS)} (h:x=none) (hf:Fr [r] w w'):rT w r gl txt x (.returned (.tuple #[.agg #[.bool false,.slice none 0 0],.bool false])) w':=by
 subst h;exact⟨rfl,hf⟩
theorem vU {w w':World} {r gl:Nat} {txt:ByteArray} {x:Option (Qry × QS)} {p:Qry} {s:QS} {cs:List Value} {b:Bool} (h:x=some (p,s)) (hb:b=decide (s.l=[])) (hp:gA w' (fun g=>w.heap.size<=g) p.cells cs) (hr:wD w' r gl txt 0 s) (hf:Fr [r] w w'):rT w r gl txt x (.returned (.tuple #[.agg cs.toArray,.bool b])) w':=by
 subst h hb;exact⟨cs,rfl,hp,hr,hf⟩
theorem aFx {n:Nat} {w:World} {r gl:Nat} {txt:ByteArray} {s:QS} (h:wD w r gl txt 0 s) (hn:s.l.length<=n):Calls Tryz.prog 20 #[.pointer (some ⟨r,0,none⟩)] w (rT w r gl txt (xI (aA txt) n s)):=by
 refine bA fun R HQ=>?_;have hmf:∀ (fn:Fn) (first cap:Array Value) (w:World),(Instr.makeFunc fn first cap).run Tryz.prog w=.ok (.func fn first cap) w:=fun _ _ _ _=>rfl;have hlt:=h.lt;have hlen:=h.len;have hz:=(Blk.new w 25 [.bool false,.slice none 0 0]).alloc (.cells #[.bool false] 4);have hk:=Blk.new (w.alloc (.cells #[.bool false,.slice none 0 0] 25)) 4 [.bool false];rw[show(w.alloc (.cells #[.bool false,.slice none 0 0] 25)).heap.size=w.heap.size+1 by simp] at hk;have hfa:Fr [] w ((w.alloc (.cells #[.bool false,.slice none 0 0] 25)).alloc (.cells #[.bool false] 4)):=((Fr.refl [] w).alloc _).alloc _;have hsz:((w.alloc (.cells #[.bool false,.slice none 0 0] 25)).alloc (.cells #[.bool false] 4)).heap.size=w.heap.size+2:=by simp
 have HR:=lh (h.fr hfa);have HZ:=lh hz;have HK:=lh hk;have HFA:=lh hfa;have HSZ:=lh hsz;obtain⟨hE,hS⟩:=zY txt n;have hEo:=(iG (txt:=aA txt) n).1;have HEK:=lh hE;have HEO:=lh hEo;clear h hz hk hfa hsz hE hS hEo
 go_enter_defers Tryz.func20,Tryz.ntmps20
 go_wp2_with fail;generalize (w.alloc (.cells #[.bool false,.slice none 0 0] 25)).alloc (.cells #[.bool false] 4)=w0 at *
 cases hn1:s.next [36] with
 | false=>
  have HE:Hid (xI (aA txt) n s=none):=lh (by unfold xI;rw[if_neg (by rw[hn1];simp)]);refine(mH HR.o ⟨#[36]⟩ hn1).mono ?_;rintro e w1 ⟨rfl,hr1,hf1⟩;clear hr1 hn1;have HZ1:=lh (HZ.o.fr hf1 (by simp;omega));have HK1:=lh (HK.o.fr hf1 (by simp;omega));have HF1:=lh ((HFA.o.mono (by simp):Fr [r] w w0).trans hf1 (fun x hx=>.inl hx));clear hf1;go_wp2_with fail;refine(aE _).mono ?_;rintro e w2 ⟨rfl,rfl⟩;refine leaves_cons (f:=39) (args:=#[.pointer (some ⟨w.heap.size,0,none⟩),.pointer (some ⟨w.heap.size+1,0,none⟩)]) (by simp) (by simp[go_sem]) ?_;refine(eM HZ1.o HK1.o).mono ?_;rintro e u' w2 ⟨rfl,rfl,hz2,hk2,hf2⟩;exact⟨.tuple #[.agg #[.bool false,.slice none 0 0],.bool false],rM (cs:=[.bool false,.slice none 0 0]) rfl rfl rfl hz2 hk2 Tryz.underlying25 rfl cI (fun w' h=>dR h),HQ.o _ _ (mO HE.o (HF1.o.trans hf2 (fun x hx=>.inr (by simp at hx;omega))))⟩
 | true=>
  have e1:=dH hn1;have HE0:Hid (xI (aA txt) n s=pD (aA txt) (eG (aA txt) n).1 0 false s.go):=lh (by unfold xI;rw[if_pos hn1]);refine(qF HR.o ⟨#[36]⟩ hn1).mono ?_;rintro e w1 ⟨rfl,hr1,hf1⟩;have HZ1:=lh (HZ.o.fr hf1 (by simp;omega));have HK1:=lh (HK.o.fr hf1 (by simp;omega));have HF1:=lh ((HFA.o.mono (by simp):Fr [r] w w0).trans hf1 (fun x hx=>.inl hx));have HC:=lh (sV HEK.o HEO.o hr1 (by omega) (by omega) false);have hsz1:=hf1.size;clear hr1 hf1 hn1 HR HZ HK HFA;go_wp2_with fail;refine(iE _).mono ?_;rintro e w2 ⟨rfl,rfl⟩;go_wp2_with fail
  cases hX:pD (aA txt) (eG (aA txt) n).1 0 false s.go with
  | none=>
   have HE:Hid (xI (aA txt) n s=none):=lh (by rw[HE0.o,hX]);rw[hX] at HC;refine HC.o.mono ?_;rintro e w2 ⟨rfl,hf2⟩;have HZ2:=lh (HZ1.o.fr hf2 (by simp;omega));have HK2:=lh (HK1.o.fr hf2 (by simp;omega));have HF2:=lh (HF1.o.trans hf2 (fun x hx=>.inl hx));refine leaves_cons (f:=39) (args:=#[.pointer (some ⟨w.heap.size,0,none⟩),.pointer (some ⟨w.heap.size+1,0,none⟩)]) (by simp) (by simp[go_sem]) ?_;refine(eM HZ2.o HK2.o).mono ?_;rintro e u' w3 ⟨rfl,rfl,hz3,hk3,hf3⟩;exact⟨.tuple #[.agg #[.bool false,.slice none 0 0],.bool false],rM (cs:=[.bool false,.slice none 0 0]) rfl rfl rfl hz3 hk3 Tryz.underlying25 rfl cI (fun w' h=>dR h),HQ.o _ _ (mO HE.o (HF2.o.trans hf3 (fun x hx=>.inr (by simp at hx;omega))))⟩
  | some y=>
   obtain⟨y,s2⟩:=y;have HE:Hid (xI (aA txt) n s=some (y,s2)):=lh (by rw[HE0.o,hX]);rw[hX] at HC;clear hX HE0;refine HC.o.mono ?_;rintro e w2 ⟨_,rfl,⟨cs,rfl,hcs⟩,hr2,hf2⟩;have hcs2:=hcs.mono (M:=fun g=>w.heap.size+1 < g) (fun g hg=>by have h9:w1.heap.size<=g:=hg;have:=HSZ.o;omega)
   obtain⟨b9,A9,n9,c9,rfl⟩:∃ b A n c,cs=[.bool b,.slice A n c]:=by
    obtain⟨qr,ql⟩:=y;obtain⟨cs',rfl,h9⟩:=hcs2.lf;obtain⟨v,cs'',rfl,h8,h7⟩:=h9.inv;obtain⟨A,c,rfl,_⟩:=h8.slice;rw[h7.nil_inv];exact⟨_,_,_,_,rfl⟩
   have hz2:=HZ1.o.fr hf2 (by simp;omega);have hk2:=HK1.o.fr hf2 (by simp;omega);have z0:=hz2.at_ (i:=0) rfl;have z1:=hz2.at_ (i:=1) rfl;have zf:=hz2.free;have k0:=hk2.at_ (i:=0) rfl;have kf:=hk2.free;have lz:=hz2.lt;have lk:=hk2.lt;have HR2:=lh hr2;have HCS:=lh hcs2;have HF2:=lh (HF1.o.trans hf2 (fun x hx=>.inl hx));have HZ2:=lh hz2;have HK2:=lh hk2;obtain⟨v,hb,hsl⟩:=hr2.at_;obtain⟨A2,c2,off2,rfl,hcl2,_⟩:=hsl;have r1:=hb.at_ (i:=1) rfl;have hne1:¬ w.heap.size=r:=by omega
   have hne2:¬ w.heap.size+1=r:=by omega
   have hne3:¬ r=w.heap.size:=by omega
   have hne4:¬ r=w.heap.size+1:=by omega
   clear hcs hcs2 hr2 hf2 hz2 hk2 hb HC HZ1 HK1 HF1;go_wp2_with fail
   go_region
   go_wp2_with fail;have hz8:=(((((HZ2.o.set_ 0 (.bool b9)).set_ 1 (.slice A9 n9 c9)).set_ 0 (.bool b9)).set_ 1 (.slice A9 n9 c9)).far (p:=⟨w.heap.size+1,0,none⟩) (by simp) (.bool ((s2.l.length:Int) == 0))).drew;have hk8:=((((((HK2.o.far (p:=⟨w.heap.size,0,none⟩) (by simp) (.bool b9)).far (p:=⟨w.heap.size,1,none⟩) (by simp) (.slice A9 n9 c9)).far (p:=⟨w.heap.size,0,none⟩) (by simp) (.bool b9)).far (p:=⟨w.heap.size,1,none⟩) (by simp) (.slice A9 n9 c9))).set_ 0 (.bool ((s2.l.length:Int) == 0))).drew;have hf8:Fr [w.heap.size,w.heap.size+1] w2 (((((w2.setCell ⟨w.heap.size,0,none⟩ (.bool b9)).setCell ⟨w.heap.size,1,none⟩ (.slice A9 n9 c9)).setCell ⟨w.heap.size,0,none⟩ (.bool b9)).setCell ⟨w.heap.size,1,none⟩ (.slice A9 n9 c9)).setCell ⟨w.heap.size+1,0,none⟩ (.bool ((s2.l.length:Int) == 0))).drew:=((((((Fr.refl _ w2).setCell (.inl (by simp)) _).setCell (.inl (by simp)) _).setCell (.inl (by simp)) _).setCell (.inl (by simp)) _).setCell (.inl (by simp)) _).drew;refine leaves_cons (f:=39) (args:=#[.pointer (some ⟨w.heap.size,0,none⟩),.pointer (some ⟨w.heap.size+1,0,none⟩)]) (by simp) (by simp[go_sem]) ?_;refine(aAH _ _ _).mono ?_;rintro e u' w3 ⟨rfl,rfl,rfl⟩;refine⟨.tuple #[.agg #[.bool b9,.slice A9 n9 c9],.bool ((s2.l.length:Int) == 0)],rM (cs:=[.bool b9,.slice A9 n9 c9]) rfl rfl rfl hz8 hk8 Tryz.underlying25 rfl cI (fun w' h=>dR h),HQ.o _ _ (vU (cs:=[.bool b9,.slice A9 n9 c9]) HE.o ?_ ?_ ?_ ?_)⟩
   ·rw[Bool.eq_iff_iff];simp[List.length_eq_zero_iff]
   ·exact(HCS.o.fr hf8 (fun g hg=>by simp;omega)).mono (fun g hg=>by omega)
   ·exact HR2.o.fr hf8 (by simp;omega)
   ·exact HF2.o.trans hf8 (fun x hx=>.inr (by simp at hx;omega))
end
end Go.Proofs.YtbggkiebfflcdaaGreatDoor
