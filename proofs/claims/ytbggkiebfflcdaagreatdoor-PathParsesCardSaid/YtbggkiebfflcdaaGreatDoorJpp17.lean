/-
  Joined by join.py: In Hh Eo Hm Hs Ht Hu Hx Tb Ie Io
-/
import Derived.KernelRfl
import Derived.Lib.ItoaLen
import Derived.Test.YtbggkiebfflcdaaGreatDoorJpp16
set_option maxRecDepth 100000
set_option maxHeartbeats 32000000
namespace Go.Proofs.YtbggkiebfflcdaaGreatDoor
section
open Go.RowKit Go.Shelf
theorem aW {w:World} {kind:Int} {b neg:Bool} {digits s:List UInt8} {exp:Int} {l m:Cl} {vl vm:Value} (hk0:kind=2 -> Dcm.sane ⟨neg,digits,exp⟩=true) (hlen:s.length<=100000000):
  RV 56 #[.agg #[.int .i64 5,.slice none 0 0,.string ⟨#[]⟩,.bool false,.slice none 0 0,.int .i64 kind,.bool b,.bool neg,.string ⟨digits.toArray⟩,.int .i64 exp,.string ⟨s.toArray⟩,vl,vm]] w (.string ⟨(Vlu.text ⟨kind,b,⟨neg,digits,exp⟩,s,l,m⟩).toArray⟩):=by
 refine bA fun R HQ=>?_;obtain⟨n,hn⟩:∃ n:Dcm,n=⟨neg,digits,exp⟩:=⟨_,rfl⟩;have hk:kind=2 -> n.sane=true:=by rw[hn];exact hk0
 rw[<- hn] at HQ;clear hk0;have HDP:=lh (fun W (hs:n.sane=true)=>aFE (w:=W) n hs);have HT:Hid (Vlu.text ⟨kind,b,n,s,l,m⟩=if kind=0 then iM else if kind=1 then (if b=true then cM else oJ) else if kind=2 then n.text else wO s):=lh rfl;rw[HT.o] at HQ;unfold gC S8 at HDP;generalize n.text=nt at *;subst hn
 simp only at HDP
 generalize hds:(⟨digits.toArray⟩:ByteArray)=ds at *;have HK:=lh hk;clear HT hk hds
 go_enter Tryz.func56,Tryz.ntmps56
 go_wp2_with (with_reducible refine dB rfl 117 (.tmp 0) rfl [.int .i64 5,.slice none 0 0,.string ⟨#[]⟩,.bool false,.slice none 0 0,.int .i64 kind,.bool b,.bool neg,.string ds,.int .i64 exp,.string ⟨s.toArray⟩,vl,vm] rfl ?_)
 intro w0 hb0 hf0 hz0;have z0:=hb0.at_ (i:=0) rfl;have c0:=hb0.at_ (i:=5) rfl;have c1:=hb0.at_ (i:=6) rfl;have c2:=hb0.at_ (i:=7) rfl;have c3:=hb0.at_ (i:=8) rfl;have c4:=hb0.at_ (i:=9) rfl;have c5:=hb0.at_ (i:=10) rfl;have HF0:=lh hf0;clear hb0 hf0 hz0
 by_cases h0:kind=0
 ·have d0:(kind == 0)=true:=by simpa using h0
  rw[if_pos h0] at HQ;clear h0 hlen;go_wp2_with fail;exact HQ.o _ _ ⟨rfl,HF0.o⟩
 ·have d0:(kind == 0)=false:=by simpa using h0
  rw[if_neg h0] at HQ
  by_cases h1:kind=1
  ·have d1:(kind == 1)=true:=by simpa using h1
   rw[if_pos h1] at HQ;clear h0 h1 hlen
   cases b with
   | true=>
    go_wp2_with fail;exact HQ.o _ _ ⟨rfl,HF0.o⟩
   | false=>
    go_wp2_with fail;exact HQ.o _ _ ⟨rfl,HF0.o⟩
  ·have d1:(kind == 1)=false:=by simpa using h1
   rw[if_neg h1] at HQ
   by_cases h2:kind=2
   ·have d2:(kind == 2)=true:=by simpa using h2
    rw[if_pos h2] at HQ;have HS:=lh (HK.o h2);clear h0 h1 h2 hlen;go_wp2_with fail;refine(HDP.o _ HS.o).mono ?_;rintro e w1 ⟨rfl,hf1⟩;have HF1:=lh (HF0.o.trans hf1);clear hf1;go_wp2_with fail;exact HQ.o _ _ ⟨rfl,HF1.o⟩
   ·have d2:(kind == 2)=false:=by simpa using h2
    rw[if_neg h2] at HQ;have HQT:=lh (fun W=>jZ (w:=W) ⟨s.toArray⟩ (by show s.toArray.size<=_;simp;omega));clear h0 h1 h2 hlen;go_wp2_with fail;refine(HQT.o _).mono ?_;rintro e w1 ⟨rfl,hf1⟩;have HF1:=lh (HF0.o.trans hf1);clear hf1;go_wp2_with fail;exact HQ.o _ _ ⟨rfl,HF1.o⟩
theorem gR {w:World} {N:Nat -> Prop} {x:Xpr} {cs:List Value} (h:gA w N x.cells cs):∃ A c Aq cq vcs,cs=.int .i64 x.what :: .slice A x.l.length c :: .string ⟨x.op.toArray⟩ :: .bool x.q.rel :: .slice Aq x.q.l.length cq :: vcs /\
  CAt w N (.rows 13 (x.l.map Xpr.cells)) (.slice A x.l.length c)/\gA w N x.q.cells [.bool x.q.rel,.slice Aq x.q.l.length cq]/\gA w N x.v.cells vcs:=by
 obtain⟨what,l,op,⟨rel,ql⟩,v⟩:=x;obtain⟨c1,rfl,h1⟩:=h.lf;obtain⟨v1,c2,rfl,k1,h2⟩:=h1.inv;obtain⟨c3,rfl,h3⟩:=h2.lf;obtain⟨c4,rfl,h4⟩:=gA.lf (a:=.bool rel) (row:=.rows 2 (jJ ql) :: v.cells) h3;obtain⟨v2,c5,rfl,k2,h5⟩:=h4.inv;rw[oC] at k1;obtain⟨A,c,rfl,_⟩:=k1.slice;have k3:=k2;rw[dE] at k3;obtain⟨Aq,cq,rfl,_⟩:=k3.slice;refine⟨A,c,Aq,cq,c5,by simp[Xpr.what,Xpr.l,Xpr.op,Xpr.q,Qry.rel,Qry.l,S8],by simpa[Xpr.l] using k1,?_,h5⟩;have h8:gA w N (Qry.cells (.mk rel ql)) [.bool rel,.slice Aq (ql.map Sgm.cells).length cq]:=.tl rfl (.cons k2 (.nil _ _))
 simpa[Xpr.q,Qry.l,Qry.rel] using h8
section
variable {w : World} {N : Nat -> Prop} {cs : List Value}
end
end
section
open Go.RowKit
def aHe:List UInt8:=[36,46,97,91,49,93]
def aHf:List UInt8:=[36,91,63,108,101,110,103,116,104,40,64,46,42,41,61,61,49,93]
def aEj:List UInt8:=[36,91,39,97,39,93,91,49,93]
def uI:Qry:=.mk false [.mk false [.ofName [97]],.mk false [.ofAt 1]]
theorem lZ:fC aHe=.ok uI:=by kernel_rfl
theorem aCB:xX aHf=8:=by decide +kernel
end
section
open Go.RowKit Go.Shelf
theorem aGQ (w:World):(Op.equalIn 10000 46 (.agg #[.bool false,.bool false,.bool false]) (.agg #[.bool false,.bool false,.bool false])).run Tryz.prog w=.ok true w:=by kernel_rfl
theorem aGR (w:World):(Op.equalIn 10000 47 (.agg #[.int .i64 0,.int .i64 0,.int .i64 0]) (.agg #[.int .i64 0,.int .i64 0,.int .i64 0])).run Tryz.prog w=.ok true w:=by kernel_rfl
section
variable {w : World} {N : Nat -> Prop} {cs : List Value}
theorem aEk {d:Int} {A:Option Addr} {c:Nat} {name:List UInt8} (hk:sI name=true) (hsz:name.length<=1000000):RV 64 #[.agg ([.int .i64 1,.string ⟨name.toArray⟩,.int .i64 0,.bool false,.bool false,.bool false,.int .i64 0,.int .i64 0,.int .i64 0,.slice A 0 c]:List Value).toArray,.int .i64 d] w (.bool true):=by
 refine bA fun R HQ=>?_;have HK:=lh hk;clear hk;obtain⟨cs,hcs⟩:∃ cs:List Value,[.int .i64 1,.string ⟨name.toArray⟩,.int .i64 0,.bool false,.bool false,.bool false,.int .i64 0,.int .i64 0,.int .i64 0,.slice A 0 c]=cs:=⟨_,rfl⟩;rw[hcs]
 go_enter Tryz.func64,Tryz.ntmps64
 go_wp2_with (with_reducible refine dB rfl 50 (.tmp 0) rfl cs rfl ?_)
 intro w0 hb0 hf0 hz0;subst hcs;have c0:=hb0.at_ (i:=0) rfl;have c1:=hb0.at_ (i:=1) rfl;have c2:=hb0.at_ (i:=2) rfl;have c3:=hb0.at_ (i:=3) rfl;have c4:=hb0.at_ (i:=4) rfl;have c5:=hb0.at_ (i:=5) rfl;have c6:=hb0.at_ (i:=6) rfl;have c7:=hb0.at_ (i:=7) rfl;have c8:=hb0.at_ (i:=8) rfl;have c9:=hb0.at_ (i:=9) rfl;have HF0:=lh hf0;clear hb0 hf0;go_upto_region 8 with fail
 have hfa:Fr [] w0 (w0.alloc (.cells ([.int .i64 0,.string ⟨#[]⟩,.int .i64 0,.bool false,.bool false,.bool false,.int .i64 0,.int .i64 0,.int .i64 0,.slice none 0 0]:List Value).toArray 50)):=(Fr.refl [] w0).alloc _;have hb1:=Blk.new w0 50 [.int .i64 0,.string ⟨#[]⟩,.int .i64 0,.bool false,.bool false,.bool false,.int .i64 0,.int .i64 0,.int .i64 0,.slice none 0 0];simp only[List.toArray] at hfa hb1;generalize w0.alloc (.cells _ 50)=w1 at *;rw[hz0] at hb1;have k0:=dA hfa c0;have k1:=dA hfa c1;have k2:=dA hfa c2;have k3:=dA hfa c3;have k4:=dA hfa c4;have k5:=dA hfa c5;have k6:=dA hfa c6;have k7:=dA hfa c7;have k8:=dA hfa c8;have k9:=dA hfa c9;have HF1:=lh (HF0.o.trans hfa);have HB1:=lh hb1;clear c0 c1 c2 c3 c4 c5 c6 c7 c8 c9 hfa hb1;obtain⟨C,w2,hcv,hC,hba,hf2⟩:=nK w1 ⟨name.toArray⟩ (by simp[ByteArray.size];omega);have HBA:=lh hba;have HF2:=lh (HF1.o.trans hf2);have HB2:=lh (HB1.o.fr hf2);clear hba hf2 k0 k2 k3 k4 k5 k6 k7 k8 k9;go_wp2_with fail;refine(pL HBA.o hC).mono ?_;rintro e w3 ⟨x,rfl,hx,hf3⟩;have hx':decide (x < 0)=true:=by rw[hx];exact HK.o
 have HF3:=lh (HF2.o.trans hf3);have HB3:=lh (HB2.o.fr hf3);clear hx hf3 k1;have e1:=HB3.o.at_ (i:=1) rfl;have e2:=HB3.o.at_ (i:=2) rfl;have e3:=HB3.o.at_ (i:=3) rfl;have e4:=HB3.o.at_ (i:=4) rfl;have e5:=HB3.o.at_ (i:=5) rfl;have e6:=HB3.o.at_ (i:=6) rfl;have e7:=HB3.o.at_ (i:=7) rfl;have e8:=HB3.o.at_ (i:=8) rfl;have q1:=aGQ w3;have q2:=aGR w3;go_wp2_with fail;exact HQ.o _ _ ⟨rfl,HF3.o⟩
theorem aEl {d at_:Int} {A:Option Addr} {c:Nat} (hk:tY at_=true):RV 64 #[.agg ([.int .i64 3,.string ⟨#[]⟩,.int .i64 at_,.bool false,.bool false,.bool false,.int .i64 0,.int .i64 0,.int .i64 0,.slice A 0 c]:List Value).toArray,.int .i64 d] w (.bool true):=by
 refine bA fun R HQ=>?_;have hk1:decide (at_<=9007199254740991)=true:=by simp[tY] at hk;simpa using hk.2
 have hk2:decide (at_ ≥ -9007199254740991)=true:=by simp[tY] at hk;simpa using hk.1
 clear hk;obtain⟨cs,hcs⟩:∃ cs:List Value,[.int .i64 3,.string ⟨#[]⟩,.int .i64 at_,.bool false,.bool false,.bool false,.int .i64 0,.int .i64 0,.int .i64 0,.slice A 0 c]=cs:=⟨_,rfl⟩;rw[hcs]
 go_enter Tryz.func64,Tryz.ntmps64
 go_wp2_with (with_reducible refine dB rfl 50 (.tmp 0) rfl cs rfl ?_)
 intro w0 hb0 hf0 hz0;subst hcs;have c0:=hb0.at_ (i:=0) rfl;have c1:=hb0.at_ (i:=1) rfl;have c2:=hb0.at_ (i:=2) rfl;have c3:=hb0.at_ (i:=3) rfl;have c4:=hb0.at_ (i:=4) rfl;have c5:=hb0.at_ (i:=5) rfl;have c6:=hb0.at_ (i:=6) rfl;have c7:=hb0.at_ (i:=7) rfl;have c8:=hb0.at_ (i:=8) rfl;have c9:=hb0.at_ (i:=9) rfl;have HF0:=lh hf0;clear hb0 hf0;go_upto_region 12 with fail
 have hfa:Fr [] w0 (w0.alloc (.cells ([.int .i64 0,.string ⟨#[]⟩,.int .i64 0,.bool false,.bool false,.bool false,.int .i64 0,.int .i64 0,.int .i64 0,.slice none 0 0]:List Value).toArray 50)):=(Fr.refl [] w0).alloc _;have hb1:=Blk.new w0 50 [.int .i64 0,.string ⟨#[]⟩,.int .i64 0,.bool false,.bool false,.bool false,.int .i64 0,.int .i64 0,.int .i64 0,.slice none 0 0];simp only[List.toArray] at hfa hb1;generalize w0.alloc (.cells _ 50)=w1 at *;rw[hz0] at hb1;have k0:=dA hfa c0;have k1:=dA hfa c1;have k2:=dA hfa c2;have k3:=dA hfa c3;have k4:=dA hfa c4;have k5:=dA hfa c5;have k6:=dA hfa c6;have k7:=dA hfa c7;have k8:=dA hfa c8;have k9:=dA hfa c9;have HF1:=lh (HF0.o.trans hfa);have HB1:=lh hb1;clear c0 c1 c2 c3 c4 c5 c6 c7 c8 c9 hfa hb1;have e1:=HB1.o.at_ (i:=1) rfl;have e2:=HB1.o.at_ (i:=2) rfl;have e3:=HB1.o.at_ (i:=3) rfl;have e4:=HB1.o.at_ (i:=4) rfl;have e5:=HB1.o.at_ (i:=5) rfl;have e6:=HB1.o.at_ (i:=6) rfl;have e7:=HB1.o.at_ (i:=7) rfl;have e8:=HB1.o.at_ (i:=8) rfl;have q1:=aGQ w1;have q2:=aGR w1;go_wp2_with fail;exact HQ.o _ _ ⟨rfl,HF1.o⟩
end
def SHQ (q:Qry) (d:Int):Prop:=∀ (w:World) (N:Nat -> Prop) (cs:List Value),gA w N q.cells cs -> RV 34 #[.agg cs.toArray,.int .i64 d] w (.bool true)
def SHS (x:Slr) (d:Int):Prop:=∀ (w:World) (N:Nat -> Prop) (cs:List Value),gA w N x.cells cs -> RV 64 #[.agg cs.toArray,.int .i64 d] w (.bool true)
section
variable {w : World} {N : Nat -> Prop} {cs : List Value}
theorem aEm {x:Slr} {d:Int} {b:Nat} (h:gA w N x.cells cs) (hb:w.cell? ⟨b,0,none⟩=some (.int .i64 d)) (hS:SHS x d):
  RV 63 #[.agg cs.toArray,.pointer (some ⟨b,0,none⟩)] w (.bool false):=by
 refine bA fun R HQ=>?_;have hcl:cs.length=10:=h.1.trans (aD x);have hc1:(Tryz.prog.info? 50).map (·.size)=some cs.length:=by rw[hcl];exact vJ
 have HC1:=lh hc1;have HH:=lh h;have HSS:=lh hS;clear h hcl hc1 hS
 go_enter Tryz.func63,Tryz.ntmps63
 go_wp2_with (with_reducible refine dB rfl 50 (.tmp 0) rfl cs rfl ?_)
 intro w0 hb0 hf0 hz0;have HC:=lh (HSS.o w0 N cs (HH.o.fr hf0));have HF0:=lh hf0;have HB0:=lh hb0;have cd:=dA hf0 hb;clear hf0 hb0 hb
 go_wp2_with (with_reducible refine uA rfl 50 (.tmp 2) rfl rfl HB0.o Tryz.underlying50 rfl HC1.o ?_)
 refine HC.o.mono ?_;rintro e w2 ⟨rfl,hf2⟩;have HF2:=lh (HF0.o.trans hf2);clear hf2 cd;go_wp2_with fail;exact HQ.o _ _ ⟨rfl,HF2.o⟩
theorem aFH {x:Sgm} {d:Int} {b:Nat} (h:gA w N x.cells cs) (hb:w.cell? ⟨b,0,none⟩=some (.int .i64 d)) (hl:x.l ≠ []) (hn:x.l.length<=1000000) (hS:∀ y ∈ x.l,SHS y d):
  RV 61 #[.agg cs.toArray,.pointer (some ⟨b,0,none⟩)] w (.bool false):=by
 refine bA fun R HQ=>?_;obtain⟨A,c,rfl,hc⟩:=sF h;have hfa:Fr [] w (w.alloc (.cells #[.bool x.deep,.slice A x.l.length c] 54)):=(Fr.refl [] w).alloc _;have hbd:=dA hfa hb
 have HC:=lh (aCt (hc.fr hfa) hn (f:=63) (first:=#[]) (cap:=#[.pointer (some ⟨b,0,none⟩)]) (all:=fun v=>#[v,.pointer (some ⟨b,0,none⟩)]) (fun v=>rfl) (fun v w=>by kernel_rfl) (fun _=>false)
  (fun y hy w1 cs1 hf1 h1=>aEm h1 (dA hf1 hbd) (hS y hy)))
 have HFA:=lh hfa;have HE:Hid ((x.l.any fun _=>false)=false):=lh (by simp);rw[HE.o] at HC
 have hl0:(((x.l.length:Nat):Int) == 0)=false:=by
  have:=List.length_pos_iff.2 hl;rw[beq_eq_false_iff_ne];omega
 obtain⟨ln,hln⟩:∃ ln,x.l.length=ln:=⟨_,rfl⟩;rw[hln] at HC HFA hl0 ⊢;clear h hc hfa hln hn hl hS hbd hb HE
 go_enter Tryz.func61,Tryz.ntmps61
 go_wp2_with fail;refine HC.o.mono ?_;rintro e w2 ⟨rfl,hf2⟩;have HF2:=lh (HFA.o.trans hf2);clear hf2;go_wp2_with fail;exact HQ.o _ _ ⟨rfl,HF2.o⟩
theorem zW {q:Qry} {d:Int} (h:gA w N q.cells cs) (hn:q.l.length<=1000000) (hS:∀ x ∈ q.l,x.l ≠ []/\x.l.length<=1000000/\∀ y ∈ x.l,SHS y d):
  RV 34 #[.agg cs.toArray,.int .i64 d] w (.bool true):=by
 refine bA fun R HQ=>?_;obtain⟨A,c,rfl,hc⟩:=gD h;have hfa:Fr [] w ((w.alloc (.cells #[.bool q.rel,.slice A q.l.length c] 25)).alloc (.cells #[.int .i64 d] 3)):=((Fr.refl [] w).alloc _).alloc _;have hbd:=Blk.new (w.alloc (.cells #[.bool q.rel,.slice A q.l.length c] 25)) 3 [.int .i64 d];rw[show(w.alloc (.cells #[.bool q.rel,.slice A q.l.length c] 25)).heap.size=w.heap.size+1 by simp] at hbd
 have HC:=lh (yV (hc.fr hfa) hn (f:=61) (first:=#[]) (cap:=#[.pointer (some ⟨w.heap.size+1,0,none⟩)]) (all:=fun v=>#[v,.pointer (some ⟨w.heap.size+1,0,none⟩)]) (fun v=>rfl) (fun v w=>by kernel_rfl) (fun _=>false)
  (fun x hx w1 cs1 hf1 h1=>aFH h1 ((hbd.fr hf1).at_ (i:=0) rfl) (hS x hx).1 (hS x hx).2.1 (hS x hx).2.2))
 have HFA:=lh hfa;have HE:Hid ((q.l.any fun _=>false)=false):=lh (by simp);rw[HE.o] at HC;obtain⟨ln,hln⟩:∃ ln,q.l.length=ln:=⟨_,rfl⟩;rw[hln] at HC HFA ⊢;clear h hc hfa hln hn hS hbd HE
 go_enter Tryz.func34,Tryz.ntmps34
 go_wp2_with fail;refine HC.o.mono ?_;rintro e w2 ⟨rfl,hf2⟩;have HF2:=lh (HFA.o.trans hf2);clear hf2;go_wp2_with fail;exact HQ.o _ _ ⟨rfl,HF2.o⟩
end
section
variable {w : World} {N : Nat -> Prop} {cs : List Value}
theorem aFI {q:Qry} (h:gA w N q.cells cs) (hw:q.wt<=1000000) (hS:SHQ q 0) (h1:q.rel=false) (h3:q.typed=true) (h4:q.parts<=512):RV 17 #[.agg cs.toArray] w (.bool true):=by
 refine bA fun R HQ=>?_;obtain⟨A,c,rfl,hc⟩:=gD h;have HH:=lh h;have HS:=lh hS;have HT:=lh (Qry.typed_any hw);have HP:=lh (Qry.parts_any hw);have HT3:=lh h3;have h5:decide ((q.parts:Int)<=512)=true:=dT (by omega)
 rw[h1] at HH ⊢;obtain⟨ln,hln⟩:∃ ln,q.l.length=ln:=⟨_,rfl⟩;rw[hln] at HH ⊢;clear h hc h1 h3 h4 hln hw hS;obtain⟨cs,hcs⟩:∃ cs:List Value,[Value.bool false,.slice A ln c]=cs:=⟨_,rfl⟩;rw[hcs]
 go_enter Tryz.func17,Tryz.ntmps17
 go_wp2_with (with_reducible refine dB rfl 25 (.tmp 0) rfl cs rfl ?_)
 intro w0 hb0 hf0 hz0;subst hcs;have c0:=hb0.at_ (i:=0) rfl;have c1:=hb0.at_ (i:=1) rfl;have HF0:=lh hf0;have HC:=lh (HS.o w0 N _ (HH.o.fr hf0));clear hb0 hf0 hz0;go_wp2_with fail;refine HC.o.mono ?_;rintro e w2 ⟨rfl,hf2⟩;have HF2:=lh (HF0.o.trans hf2);have k0:=dA hf2 c0;have k1:=dA hf2 c1;have HC2:=lh (HT.o w2 N _ (HH.o.fr HF2.o));clear hf2 c0 c1 HC;go_wp2_with fail;refine HC2.o.mono ?_;rintro e w3 ⟨rfl,hf3⟩;rw[HT3.o];have HF3:=lh (HF2.o.trans hf3);have j0:=dA hf3 k0;have j1:=dA hf3 k1;have HC3:=lh (HP.o w3 N _ (HH.o.fr HF3.o));clear hf3 k0 k1 HC2;go_wp2_with fail;refine HC3.o.mono ?_;rintro e w4 ⟨rfl,hf4⟩;have HF4:=lh (HF3.o.trans hf4);clear hf4;go_wp2_with fail;exact HQ.o _ _ ⟨rfl,HF4.o⟩
end
section
variable {w : World} {N : Nat -> Prop} {cs : List Value}
theorem aEn (hg:bO w) (h8:8<=w.heap.size) (txt:ByteArray) (hz:txt.size<=100000) {q:Qry} (hq:fC (aA txt)=.ok q):
  Calls Tryz.prog 10 #[.string txt] w fun e w'=>∃ A c,e=.returned (.tuple #[.agg #[.bool q.rel,.slice A q.l.length c],.int .i64 0])/\gA w' (fun g=>w.heap.size<=g) q.cells [.bool q.rel,.slice A q.l.length c]/\Fr [] w w':=by
 refine(eR hg h8 txt hz).mono ?_;intro e w' h;unfold uM at h;rw[hq] at h;obtain⟨cs,rfl,hr,hf⟩:=h;obtain⟨A,c,rfl,-⟩:=gD hr;exact⟨A,c,rfl,hr,hf⟩
theorem aAV (hg:bO w) (h8:8<=w.heap.size) (txt:ByteArray) (hz:txt.size<=100000):
  Calls Tryz.prog 10 #[.string txt] w fun e w'=>∃ r A n c,e=.returned (.tuple #[.agg #[.bool r,.slice A n c],.int .i64 (xX (aA txt))])/\Fr [] w w':=by
 refine(eR hg h8 txt hz).mono ?_;intro e w' h;unfold uM at h;unfold xX
 cases hq:fC (aA txt) with
 | error er=>
  rw[hq] at h;obtain⟨rfl,hf⟩:=h;exact⟨_,_,_,_,rfl,hf⟩
 | ok q=>
  rw[hq] at h;obtain⟨cs,rfl,hr,hf⟩:=h;obtain⟨A,c,rfl,-⟩:=gD hr;exact⟨_,_,_,_,rfl,hf⟩
end
theorem eqb3 (a b c:Bool) (w:World):(Op.equalIn 10000 46 (.agg #[.bool a,.bool b,.bool c]) (.agg #[.bool a,.bool b,.bool c])).run Tryz.prog w=.ok true w:=by
 cases a <;> cases b <;> cases c <;> kernel_rfl
theorem eqi1 (d:Nat) (a:Int) (w:World):(Op.equalIn (d+1) 3 (.int .i64 a) (.int .i64 a)).run Tryz.prog w=.ok true w:=by
 simp[Op.equalIn,Sem.run_bind,run_underlying Tryz.underlying3]
theorem aEo:∃ i,Tryz.prog.info? 3=some i:=by
 have h:(Tryz.prog.info? 3).isSome=true:=by kernel_rfl
 exact Option.isSome_iff_exists.1 h
theorem eqi3 (a b c:Int) (w:World):(Op.equalIn 10000 47 (.agg #[.int .i64 a,.int .i64 b,.int .i64 c]) (.agg #[.int .i64 a,.int .i64 b,.int .i64 c])).run Tryz.prog w=.ok true w:=by
 obtain⟨i,hi⟩:=aEo;have hc:Tryz.prog.cellsOf 3=1:=by kernel_rfl
 have p0:∀ W,(part 3 #[.int .i64 a,.int .i64 b,.int .i64 c] 0).run Tryz.prog W=.ok (.int .i64 a) W:=fun W=>by kernel_rfl
 have p1:∀ W,(part 3 #[.int .i64 a,.int .i64 b,.int .i64 c] 1).run Tryz.prog W=.ok (.int .i64 b) W:=fun W=>by kernel_rfl
 have p2:∀ W,(part 3 #[.int .i64 a,.int .i64 b,.int .i64 c] 2).run Tryz.prog W=.ok (.int .i64 c) W:=fun W=>by kernel_rfl
 have e':∀ (a:Int) (w:World),(Op.equalIn 9999 3 (.int .i64 a) (.int .i64 a)).run Tryz.prog w=.ok true w:=fun a w=>eqi1 9998 a w;refine(run_equalIn_array w 9999 _ _ Tryz.underlying47 hi).trans ?_;rw[hc];generalize 9999=D at *
 simp[Op.eqItems,List.range,List.range.loop,Sem.run_bind,p0,p1,p2,e',Result.andThen]
def SmX (f:List Xpr):Prop:=∀ (w:World) (N M:Nat -> Prop) (v1 v2:Value),CAt w N (.rows 13 (f.map Xpr.cells)) v1 -> CAt w M (.rows 13 (f.map Xpr.cells)) v2 -> RV 28 #[v1,v2] w (.bool true)
theorem aFJ:SmX []:=by
 intro w N M v1 v2 h1 h2;refine bA fun R HQ=>?_;obtain⟨A,c,rfl,-⟩:=h1.slice;obtain⟨B,d,rfl,-⟩:=h2.slice;clear h1 h2;simp only[List.map_nil,List.length_nil]
 go_enter Tryz.func28,Tryz.ntmps28
 go_wp2_with fail
 go_loopg [5] 0 (fun j v5 wr=>v5=.int .i64 0/\w=wr)
 case atStart=>exact⟨rfl,rfl⟩
 case round=>
  obtain⟨rfl,rfl⟩:=hrel;go_wp2_with fail;exact HQ.o _ _ ⟨rfl,Fr.refl [] w⟩
def aEp (w:World) (ln:Nat) (j:Nat) (v:Value) (wr:World):Prop:=∃ k:Nat,k+j=ln/\v=.int .i64 (k:Int)/\Fr [] w wr
theorem aCC {w:World} {N M:Nat -> Prop} {q:Qry} {cs ds:List Value} (h1:gA w N q.cells cs) (h2:gA w M q.cells ds) (hw:q.wt<=1000000) (hS:∀ x ∈ q.l,∀ y ∈ x.l,SmX y.f):
  RV 12 #[.agg cs.toArray,.agg ds.toArray] w (.bool true):=by
 refine bA fun R HQ=>?_;obtain⟨A,c,rfl,hc⟩:=gD h1;obtain⟨B,d,rfl,hd⟩:=gD h2;have hwe:=q.wt_eq;have hll:=sL q.l;obtain⟨A',c',g,off,hv,hA,hrow⟩:=hc.row;obtain⟨B',d',g',off',hv',hB,hrow'⟩:=hd.row;injection hv with e1 e2 e3;subst e1 e3;clear e2;injection hv' with e1 e2 e3;subst e1 e3;have hml:(q.l.map Sgm.cells).length=q.l.length:=by simp
 rw[hml] at hA hB;obtain⟨ln,hln⟩:∃ ln,q.l.length=ln:=⟨_,rfl⟩;have HLN:=lh hln;rw[hln] at hA hB ⊢;have HROW:=lh hrow;have HROW':=lh hrow';have HA:=lh hA;have HB:=lh hB;have HSS:=lh hS;have hlb:ln<=1000000:=by omega
 have HWT:=lh hw;obtain⟨rel,hrel⟩:∃ rel,q.rel=rel:=⟨_,rfl⟩;rw[hrel];clear h1 h2 hc hd hrow hrow' hA hB hS e2 hwe hll hml hln hw hrel
 go_enter Tryz.func12,Tryz.ntmps12
 go_upto_region 1 with fail
 have hf0:Fr [] w ((w.alloc (.cells #[.bool rel,.slice A ln c] 31)).alloc (.cells #[.bool rel,.slice B ln d] 31)):=((Fr.refl [] w).alloc _).alloc _;have hb0:=(Blk.new w 31 [.bool rel,.slice A ln c]).alloc (.cells #[.bool rel,.slice B ln d] 31);have hb1:=Blk.new (w.alloc (.cells #[.bool rel,.slice A ln c] 31)) 31 [.bool rel,.slice B ln d];rw[show(w.alloc (.cells #[.bool rel,.slice A ln c] 31)).heap.size=w.heap.size+1 by simp] at hb1;generalize (w.alloc (.cells #[.bool rel,.slice A ln c] 31)).alloc (.cells #[.bool rel,.slice B ln d] 31)=w0 at *;have HB0:=lh hb0;have HB1:=lh hb1;have HF0:=lh hf0;have b0:=hb0.at_ (i:=0) rfl;have b1:=hb0.at_ (i:=1) rfl;have d0:=hb1.at_ (i:=0) rfl;have d1:=hb1.at_ (i:=1) rfl;clear hb0 hb1 hf0;go_wp2_with fail;clear b0 b1 d0 d1
 go_loopg [5] ln (fun j v5 wr=>aEp w0 ln j v5 wr)
 case atStart=>exact⟨0,by omega,rfl,Fr.refl _ _⟩
 case round=>
  obtain⟨wo,rfl⟩:=nm (wr);obtain⟨k,hk,rfl,hF⟩:=hrel;have HFo:=lh hF;have hb0:=HB0.o.fr hF;have hb1:=HB1.o.fr hF;have b0:=hb0.at_ (i:=0) rfl;have b1:=hb0.at_ (i:=1) rfl;have d0:=hb1.at_ (i:=0) rfl;have d1:=hb1.at_ (i:=1) rfl;clear hF hb0 hb1
  by_cases hkl:k < ln
  ·obtain⟨x,hx⟩:∃ x,q.l[k]? = some x:=gx (by rw[HLN.o];exact hkl);obtain⟨rfl,-⟩:=HA.o (by omega);obtain⟨rfl,-⟩:=HB.o (by omega);obtain⟨_,es,hes,hcell⟩:=HROW.o k x.cells (by rw[List.getElem?_map,hx];rfl);obtain⟨_,es',hes',hcell'⟩:=HROW'.o k x.cells (by rw[List.getElem?_map,hx];rfl);obtain⟨A5,c5,rfl,hc5⟩:=sF hes;obtain⟨B5,d5,rfl,hd5⟩:=sF hes';have hFo:Fr [] w wo:=HF0.o.trans HFo.o
   have hl1:∀ {i:Nat} {u:Value},w.cell? ⟨g,off+2 * k+i,none⟩=some u -> wo.cell? ⟨g,off+k * 2+i,none⟩=some u:=fun {i u} hi=>by
    rw[show off+k * 2+i=off+2 * k+i by rw[Nat.mul_comm],hFo.cell (World.block_lt_of_cell? w _ hi) (by simp)];exact hi
   have hl2:∀ {i:Nat} {u:Value},w.cell? ⟨g',off'+2 * k+i,none⟩=some u -> wo.cell? ⟨g',off'+k * 2+i,none⟩=some u:=fun {i u} hi=>by
    rw[show off'+k * 2+i=off'+2 * k+i by rw[Nat.mul_comm],hFo.cell (World.block_lt_of_cell? w _ hi) (by simp)];exact hi
   have x0:=hl1 (hcell 0 _ rfl);have x1:=hl1 (hcell 1 _ rfl);have y0:=hl2 (hcell' 0 _ rfl);have y1:=hl2 (hcell' 1 _ rfl);rw[Nat.add_zero] at x0 y0;have HX:=lh hx;have HC5:=lh hc5;have HD5:=lh hd5;obtain⟨m,hm⟩:∃ m,x.l.length=m:=⟨_,rfl⟩;obtain⟨dp,hdp⟩:∃ dp,x.deep=dp:=⟨_,rfl⟩;have HM:=lh hm;rw[hm] at x1 y1 HC5 HD5;rw[hdp] at x0 y0;have HMB:Hid (m<=1000000):=lh (by have h1:=lE (List.mem_of_getElem? hx);have h2:=gH x.l;have h3:=x.wt_eq;have h4:=q.wt_eq;have h5:=HWT.o;omega);have hki:(k:Int) < (ln:Int):=by omega
   clear hes hes' hcell hcell' hc5 hd5 hl1 hl2 hx hm hdp hFo;go_upto_region 6 with fail
   go_quiet (fail)
   have hfq:Fr [] wo (wo.drewN nq):=(Fr.refl [] wo).drewN nq
   replace b1:=dA hfq b1
   replace d1:=dA hfq d1
   replace x1:=dA hfq x1
   replace y1:=dA hfq y1
   have HF1:=lh (HFo.o.trans hfq);generalize wo.drewN nq=w1 at *;clear hfq b0 d0 x0 y0;go_wp2_with fail
   go_loopg [6] m (fun j v6 wi=>aEp w1 m j v6 wi)
   case atStart=>exact⟨0,by omega,rfl,Fr.refl _ _⟩
   case round=>
    obtain⟨wi,rfl⟩:=nm (wr);obtain⟨i,hi,rfl,hFi⟩:=hrel;have HFi:=lh hFi
    replace b1:=dA hFi b1
    replace d1:=dA hFi d1
    replace x1:=dA hFi x1
    replace y1:=dA hFi y1
    clear hFi
    by_cases him:i < m
    ·obtain⟨y,hy⟩:∃ y,x.l[i]? = some y:=gx (by rw[HM.o];exact him);have hml5:(x.l.map Slr.cells).length=m:=by simp[HM.o]
     obtain⟨A6,c6,g5,off5,hv5,hA5,hrow5⟩:=HC5.o.row;obtain⟨B6,d6,g6,off6,hv6,hB5,hrow6⟩:=HD5.o.row;injection hv5 with e1 e2 e3;subst e1;clear e2 e3;injection hv6 with e1 e2 e3;subst e1;clear e3;obtain⟨rfl,-⟩:=hA5 (by omega);obtain⟨rfl,-⟩:=hB5 (by omega);obtain⟨_,es,hes,hcell5⟩:=hrow5 i y.cells (by rw[List.getElem?_map,hy];rfl);obtain⟨_,fs,hfs,hcell6⟩:=hrow6 i y.cells (by rw[List.getElem?_map,hy];rfl);obtain⟨what,name,at_,⟨a0,a1,a2⟩,⟨s0,s1,s2⟩,f⟩:=y;obtain⟨Af,cf,rfl,hcf⟩:=bL hes;obtain⟨Bf,df,rfl,hdf⟩:=bL hfs;simp only[Slr.what,Slr.name,Slr.at_,Slr.has,Slr.s,Slr.f] at hcell5 hcf hcell6 hdf;have HSM:=lh (HSS.o x (List.mem_of_getElem? HX.o) _ (List.mem_of_getElem? hy));simp only[Slr.f] at HSM;have hFwi:Fr [] w wi:=(HF0.o.trans HF1.o).trans HFi.o;have HFWI:=lh hFwi
     have hl5:∀ {a:Nat} {u:Value},w.cell? ⟨g5,off5+10 * i+a,none⟩=some u -> wi.cell? ⟨g5,off5+i * 10+a,none⟩=some u:=fun {a u} h9=>by
      rw[show off5+i * 10+a=off5+10 * i+a by rw[Nat.mul_comm],hFwi.cell (World.block_lt_of_cell? w _ h9) (by simp)];exact h9
     have hl6:∀ {a:Nat} {u:Value},w.cell? ⟨g6,off6+10 * i+a,none⟩=some u -> wi.cell? ⟨g6,off6+i * 10+a,none⟩=some u:=fun {a u} h9=>by
      rw[show off6+i * 10+a=off6+10 * i+a by rw[Nat.mul_comm],hFwi.cell (World.block_lt_of_cell? w _ h9) (by simp)];exact h9
     have y0:=hl5 (hcell5 0 _ rfl);have y1':=hl5 (hcell5 1 _ rfl);have y2:=hl5 (hcell5 2 _ rfl);have y3:=hl5 (hcell5 3 _ rfl);have y4:=hl5 (hcell5 4 _ rfl);have y5:=hl5 (hcell5 5 _ rfl);have y6:=hl5 (hcell5 6 _ rfl);have y7:=hl5 (hcell5 7 _ rfl);have y8:=hl5 (hcell5 8 _ rfl);have y9:=hl5 (hcell5 9 _ rfl);have z0:=hl6 (hcell6 0 _ rfl);have z1:=hl6 (hcell6 1 _ rfl);have z2:=hl6 (hcell6 2 _ rfl);have z3:=hl6 (hcell6 3 _ rfl);have z4:=hl6 (hcell6 4 _ rfl);have z5:=hl6 (hcell6 5 _ rfl);have z6:=hl6 (hcell6 6 _ rfl);have z7:=hl6 (hcell6 7 _ rfl);have z8:=hl6 (hcell6 8 _ rfl);have z9:=hl6 (hcell6 9 _ rfl);rw[Nat.add_zero] at y0 z0;have HCF:=lh hcf;have HDF:=lh hdf;have hm0:0 < m:=by omega
     have hmb:=HMB.o;have him':decide ((i:Int) < (m:Int))=true:=dT (by omega)
     have hltg5:=World.block_lt_of_cell? wi _ y0;have hltg6:=World.block_lt_of_cell? wi _ z0;have hltb:=World.block_lt_of_cell? wi _ b1;have hltd:=World.block_lt_of_cell? wi _ d1;have hltx:=World.block_lt_of_cell? wi _ x1;have hlty:=World.block_lt_of_cell? wi _ y1
     simp only at hltg5 hltg6 hltb hltd hltx hlty
     obtain⟨fl,hfl⟩:∃ fl,f.length=fl:=⟨_,rfl⟩;rw[hfl] at y9 z9 HCF HDF;clear hes hfs hcell5 hcell6 hcf hdf hl5 hl6 hy hrow5 hrow6 hA5 hB5 hml5 hFwi e2 hfl;go_upto_region 13 with fail
     have hf2:Fr [] wi ((wi.alloc (.cells #[.int .i64 what,.string ⟨name.toArray⟩,.int .i64 at_,.bool a0,.bool a1,.bool a2,.int .i64 s0,.int .i64 s1,.int .i64 s2,.slice Af fl cf] 80)).alloc (.cells #[.int .i64 what,.string ⟨name.toArray⟩,.int .i64 at_,.bool a0,.bool a1,.bool a2,.int .i64 s0,.int .i64 s1,.int .i64 s2,.slice Bf fl df] 80)):=((Fr.refl [] wi).alloc _).alloc _;have hb2:=(Blk.new wi 80 [.int .i64 what,.string ⟨name.toArray⟩,.int .i64 at_,.bool a0,.bool a1,.bool a2,.int .i64 s0,.int .i64 s1,.int .i64 s2,.slice Af fl cf]).alloc (.cells #[.int .i64 what,.string ⟨name.toArray⟩,.int .i64 at_,.bool a0,.bool a1,.bool a2,.int .i64 s0,.int .i64 s1,.int .i64 s2,.slice Bf fl df] 80);have hb3:=Blk.new (wi.alloc (.cells #[.int .i64 what,.string ⟨name.toArray⟩,.int .i64 at_,.bool a0,.bool a1,.bool a2,.int .i64 s0,.int .i64 s1,.int .i64 s2,.slice Af fl cf] 80)) 80 [.int .i64 what,.string ⟨name.toArray⟩,.int .i64 at_,.bool a0,.bool a1,.bool a2,.int .i64 s0,.int .i64 s1,.int .i64 s2,.slice Bf fl df];rw[show(wi.alloc (.cells #[.int .i64 what,.string ⟨name.toArray⟩,.int .i64 at_,.bool a0,.bool a1,.bool a2,.int .i64 s0,.int .i64 s1,.int .i64 s2,.slice Af fl cf] 80)).heap.size=wi.heap.size+1 by simp] at hb3;generalize (wi.alloc (.cells #[.int .i64 what,.string ⟨name.toArray⟩,.int .i64 at_,.bool a0,.bool a1,.bool a2,.int .i64 s0,.int .i64 s1,.int .i64 s2,.slice Af fl cf] 80)).alloc (.cells #[.int .i64 what,.string ⟨name.toArray⟩,.int .i64 at_,.bool a0,.bool a1,.bool a2,.int .i64 s0,.int .i64 s1,.int .i64 s2,.slice Bf fl df] 80)=w2 at *;have u0:=hb2.at_ (i:=0) rfl;have v0:=hb3.at_ (i:=0) rfl;have u1:=hb2.at_ (i:=1) rfl;have v1:=hb3.at_ (i:=1) rfl;have u2:=hb2.at_ (i:=2) rfl;have v2:=hb3.at_ (i:=2) rfl;have u3:=hb2.at_ (i:=3) rfl;have v3:=hb3.at_ (i:=3) rfl;have u4:=hb2.at_ (i:=4) rfl;have v4:=hb3.at_ (i:=4) rfl;have u5:=hb2.at_ (i:=5) rfl;have v5:=hb3.at_ (i:=5) rfl;have u6:=hb2.at_ (i:=6) rfl;have v6:=hb3.at_ (i:=6) rfl;have u7:=hb2.at_ (i:=7) rfl;have v7:=hb3.at_ (i:=7) rfl;have u8:=hb2.at_ (i:=8) rfl;have v8:=hb3.at_ (i:=8) rfl;have u9:=hb2.at_ (i:=9) rfl;have v9:=hb3.at_ (i:=9) rfl;have q1:=eqb3 a0 a1 a2 w2;have q2:=eqi3 s0 s1 s2 w2;have HF2:=lh (HFi.o.trans hf2);have HCC:=lh (HSM.o w2 N M _ _ ((HCF.o.fr HFWI.o).fr hf2) ((HDF.o.fr HFWI.o).fr hf2));clear hf2 hb2 hb3 y0 y1' y2 y3 y4 y5 y6 y7 y8 y9 z0 z1 z2 z3 z4 z5 z6 z7 z8 z9 b1 d1 x1 y1;go_wp2_with fail;refine HCC.o.mono ?_;rintro e w3 ⟨rfl,hf3⟩;have HF3:=lh (HF2.o.trans hf3);clear hf3;go_wp2_with fail
     go_roundg (m - (i+1))
     case measure=>omega
     case rel=>exact⟨i+1,by omega,by go_num,HF3.o⟩
    ·obtain rfl:i=m:=by omega
     go_wp2_with fail
     go_roundg (ln - (k+1))
     case measure=>omega
     case rel=>exact⟨k+1,by omega,by go_num,HF1.o.trans HFi.o⟩
  ·go_wp2_with fail;exact HQ.o _ _ ⟨rfl,HF0.o.trans HFo.o⟩
end
section
open Go.RowKit
def pI (w:World) (p lo:Nat) (t:TypeId) (k:Nat) (v:Value) (l:List (List Cl)):Prop:=
 ∃ css:List (List Value),css.length=l.length/\w.ownsRow 0 t k v l.length css.flatten/\(∀ x,v.ownBlock=some x -> lo<=x) /\
  ∀ (i:Nat) (q:List Cl) (cs:List Value),l[i]? = some q -> css[i]? = some cs -> q.length=k/\gA w (fun g=>(lo<=g ∨ g < p)/\v.ownBlock ≠ some g/\g < w.heap.size) q cs
theorem pI.nil (w:World) (p lo:Nat) (t:TypeId) (k:Nat):pI w p lo t k (.slice none 0 0) []:=⟨[],rfl,sG _ _ _ _,by simp[Value.ownBlock],fun i q cs h=>by simp at h⟩
theorem pI.fr {S:List Nat} {w w':World} {p lo:Nat} {t:TypeId} {k:Nat} {v:Value} {l:List (List Cl)} (h:pI w p lo t k v l) (hf:Fr S w w') (hS:∀ x ∈ S,(p<=x/\x < lo) ∨ w.heap.size<=x:=by simp):pI w' p lo t k v l:=by
 obtain⟨css,h1,h2,h3,h4⟩:=h;refine⟨css,h1,sB h2 hf (fun g hg hm=>?_),h3,fun i q cs hq hc=>⟨(h4 i q cs hq hc).1,((h4 i q cs hq hc).2.fr hf (fun g hg hm=>?_)).mono (fun g hg=>⟨hg.1,hg.2.1,by have:=hf.size;omega⟩)⟩⟩
 ·have:=h3 g hg;have:=iL h2 g hg;rcases hS g hm with h | h <;> omega
 ·have:=hg.1;have:=hg.2.2;rcases hS g hm with h | h <;> omega
theorem pI.lt {w:World} {p lo:Nat} {t:TypeId} {k:Nat} {v:Value} {l:List (List Cl)} (h:pI w p lo t k v l):∀ g,v.ownBlock=some g -> g < w.heap.size:=by
 obtain⟨css,h1,h2,h3,h4⟩:=h;exact iL h2
theorem pI.slice {w:World} {p lo:Nat} {t:TypeId} {k:Nat} {v:Value} {l:List (List Cl)} (h:pI w p lo t k v l):∃ A c,v=.slice A l.length c:=by
 obtain⟨css,h1,h2,h3,h4⟩:=h;obtain⟨A,c,hv,_⟩:=jC h2;exact⟨A,c,hv⟩
theorem pI.cat {w:World} {p lo:Nat} {t:TypeId} {k:Nat} {v:Value} {l:List (List Cl)} (h:pI w p lo t k v l) (hk0:0 < k):CAt w (fun g=>lo<=g ∨ g < p) (.rows k l) v:=by
 obtain⟨css,h1,h2,h3,h4⟩:=h;obtain⟨A,c,rfl,hc,_⟩:=jC h2;have hck:∀ i,i < l.length -> css[i]? = some (css.getD i []):=fun i hi=>by rw[List.getD_eq_getElem?_getD,List.getElem?_eq_getElem (by omega)];rfl
 have hlen:∀ row ∈ l,row.length=k:=fun row hr=>by
  obtain⟨i,hi,rfl⟩:=List.mem_iff_getElem.1 hr;exact(h4 i _ _ (List.getElem?_eq_getElem hi) (hck i hi)).1
 have h6:∀ cs ∈ css,cs.length=k:=fun cs hcs=>by
  obtain⟨i,hi,rfl⟩:=List.mem_iff_getElem.1 hcs;have:=h4 i _ _ (List.getElem?_eq_getElem (by omega)) (List.getElem?_eq_getElem hi);exact this.2.1.trans this.1
 by_cases h0:0 < l.length
 ·obtain⟨g,rfl,hg⟩:=rK h2 h0;refine .rows k l _ c g 0 (fun i=>css.getD i []) hk0 hc (fun _=>⟨rfl,.inl (h3 g rfl)⟩) hlen (fun i hi=>?_) (fun i q j x u hq hx hu=>?_)
  ·have hci:=hck i hi;have hl:(css.getD i []).length=k:=h6 _ (List.mem_of_getElem? hci);refine⟨hl,fun j u hj=>?_⟩;have hj6:j < k:=by have:=(List.getElem?_eq_some_iff.1 hj).1;omega
   refine hg _ u ?_;rw[Nat.zero_add,jS css h6 i _ hci j hj6];exact hj
  ·have hi:i < l.length:=(List.getElem?_eq_some_iff.1 hq).1;exact((h4 i q _ hq (hck i hi)).2.2 j x u hx hu).mono (fun g hg=>hg.1)
 ·have hl0:l=[]:=List.eq_nil_of_length_eq_zero (by omega);subst hl0;exact CAt.nil w _ hk0 A c
theorem pI.push {w w3 w7:World} {p lo:Nat} {t:TypeId} {k:Nat} {v:Value} {l:List (List Cl)} {row:List Cl} {cs:List Value} {g7 cap H:Nat} (h:pI w p lo t k v l) (hf3:Fr [] w w3) (hH:w3.heap.size=H) (hlo:lo<=H) (hpk:row.length=k) (hp:gA w3 (fun g=>(lo<=g ∨ g < p)/\v.ownBlock ≠ some g) row cs)
  (hf7:Fr v.ownBlock.toList w3 w7) (xs:List Value) (ho7:w7.ownsRow 0 t k (.slice (some ⟨g7,0,none⟩) (l.length+1) cap) (l.length+1) (xs ++ cs)) (hxs:w.ownsRow 0 t k v l.length xs) (hat:v.ownBlock=some g7 ∨ g7=H):pI w7 p lo t k (.slice (some ⟨g7,0,none⟩) (l.length+1) cap) (l ++ [row]):=by
 obtain⟨css,h1,h2,h3,h4⟩:=h
 have hx:xs=css.flatten:=by
  rcases h2.2 with ⟨hv,hz⟩ | ⟨g,c,cur,hv,_,hh,hn,hc,hs,ht⟩
  ·rcases hxs.2 with ⟨_,hz'⟩ | ⟨g',c',cur',hv',_,_,_,_,_,ht'⟩
   ·have e1:=hxs.1;have e2:=h2.1;rw[hz] at e1 e2;exact(List.eq_nil_of_length_eq_zero (by simpa using e1)).trans (List.eq_nil_of_length_eq_zero (by simpa using e2)).symm
   ·rw[hv] at hv';cases hv'
  ·rcases hxs.2 with ⟨hv',_⟩ | ⟨g',c',cur',hv',_,hh',_,_,_,ht'⟩
   ·rw[hv] at hv';cases hv'
   ·rw[hv] at hv';injection hv' with e1 e2 e3;simp only[Option.some.injEq,Addr.mk.injEq] at e1;obtain⟨rfl,_⟩:=e1;rw[hh] at hh';injection hh' with hh';injection hh' with e4;rw[<- ht,<- ht',e4]
 have hpb:=hp.bound;have hz7:=hf7.size;have hz3:=hf3.size
 have hg7:lo<=g7:=by
  rcases hat with h | h
  ·exact h3 _ h
  ·omega
 refine⟨css ++ [cs],by simp[h1],?_,fun x hx=>?_,fun i q cs' hq hc=>?_⟩
 ·rw[show(l ++ [row]).length=l.length+1 by simp,List.flatten_append,<- hx]
  simpa using ho7
 ·simp[Value.ownBlock] at hx;omega
 ·have hne:∀ g,v.ownBlock ≠ some g -> g < w3.heap.size -> (Value.slice (some ⟨g7,0,none⟩) (l.length+1) cap).ownBlock ≠ some g:=fun g hg hlt e=>by
   have e':g7=g:=by simpa[Value.ownBlock] using e
   rcases hat with h | h
   ·exact hg (e' ▸ h)
   ·omega
  by_cases hi:i < l.length
  ·rw[List.getElem?_append_left hi] at hq;rw[List.getElem?_append_left (by omega)] at hc;refine⟨(h4 i q cs' hq hc).1,(((h4 i q cs' hq hc).2.fr hf3).fr hf7 (fun g hg=>by simpa using hg.2.1)).mono (fun g hg=>⟨hg.1,hne g hg.2.1 (by omega),by omega⟩)⟩
  ·have hil:i=l.length:=by
    have:=(List.getElem?_eq_some_iff.1 hq).1
    simp at this;omega
   subst hil
   simp at hq
   rw[<- h1] at hc
   simp at hc
   subst hq hc;exact⟨hpk,(hpb.fr hf7 (fun g hg=>by simpa using hg.1.2)).mono (fun g hg=>⟨hg.1.1,hne g hg.1.2 hg.2,by omega⟩)⟩
theorem pI.app {w w3 w7:World} {p lo:Nat} {t:TypeId} {k H:Nat} {v:Value} {A:Option Addr} {c n:Nat} {l:List (List Cl)} {row:List Cl} {cs:List Value} {g7 cap:Nat} (h:pI w p lo t k v l) (hv:v=.slice A n c) (hf3:Fr [] w w3) (hH:w3.heap.size=H+1) (hlo:lo<=H) (hpk:row.length=k) (hp:gA w (fun g=>(lo<=g ∨ g < p)/\(Value.slice A n c).ownBlock ≠ some g) row cs)
  (hf7:Fr v.ownBlock.toList w3 w7) {xs:List Value} (ho7:w7.ownsRow 0 t k (.slice (some ⟨g7,0,none⟩) (l.length+1) cap) (l.length+1) (xs ++ cs)) (hxs:w.ownsRow 0 t k v l.length xs) (hat:v.ownBlock=some g7 ∨ g7=H+1):pI w7 p lo t k (.slice (some ⟨g7,0,none⟩) (l.length+1) cap) (l ++ [row]):=by
 subst hv;exact h.push hf3 hH (by omega) hpk (hp.fr hf3) hf7 xs ho7 hxs hat
theorem yJ {w w':World} {g o:Nat} {cs:List Value} (h:w.rangeAt g o cs) (hf:Fr [] w w'):w'.rangeAt g o cs:=fun j u hu=>dA hf (h j u hu)
theorem bW {S:List Nat} {w w':World} {g o:Nat} {cs:List Value} (h:w.rangeAt g o cs) (hf:Fr S w w') (hg:g ∉ S):w'.rangeAt g o cs:=fun j u hu=>by
 rw[hf.cell (World.block_lt_of_cell? w _ (h j u hu)) hg];exact h j u hu
section
variable {P : Program} {o : Oper} {a : Act} {W : World}
theorem cL {g off:Nat} {t:TypeId} {cs:List Value} {d:TypeDesc} {x:Operand} (ho:o.op=.load t x) (hx:a.eval x=.pointer (some ⟨g,off,none⟩)) (hr:W.rangeAt g off cs) (hu:P.underlying t=some d) (hd:d.isRow=true) (hi:(P.info? t).map (·.size)=some cs.length):(execOp a.eval o).run P W=.ok (.value (.agg cs.toArray)) W:=by
 unfold execOp;simp only[ho,hx,Instr.loadAt,Instr.sureAddr,Sem.run_bind,Sem.run_pure,Result.andThen_ok,run_loadVar_mid W g off t cs d hr hu hd hi]
end
end
section
open Go.RowKit Go.Shelf
def SmQ (q:Qry):Prop:=∀ (w:World) (N M:Nat -> Prop) (cs ds:List Value),gA w N q.cells cs -> gA w M q.cells ds -> RV 12 #[.agg cs.toArray,.agg ds.toArray] w (.bool true)
def LitV (v:Vlu):Prop:=(v.kind=2 -> v.n.sane=true)/\v.s.length<=100000000/\v.l.isR 8=true/\v.m.isR 9=true
theorem mS {W:World} {g:Nat} {t:TypeId} {cs:List Value} (h:Blk W g t cs) (o:Nat) (ds:List Value) (hd:∀ j u,ds[j]? = some u -> cs[o+j]? = some u):W.rangeAt g o ds:=fun j u hu=>h.at_ (hd j u hu)
theorem aEq {f:List Xpr} (hn:f.length<=1000000) (hE:∀ x ∈ f,SmX x.l/\SmQ x.q/\LitV x.v):SmX f:=by
 intro w N M v1 v2 h1 h2;refine bA fun R HQ=>?_;obtain⟨A,c,g,off,rfl,hA,hrow⟩:=h1.row;obtain⟨A',c',g',off',rfl,hA',hrow'⟩:=h2.row;have hml:(f.map Xpr.cells).length=f.length:=by simp
 rw[hml] at hA hA' ⊢;obtain⟨ln,hln⟩:∃ ln,f.length=ln:=⟨_,rfl⟩;have HLN:=lh hln;rw[hln] at hA hA' hn ⊢;have HROW:=lh hrow;have HROW':=lh hrow';have HA:=lh hA;have HA':=lh hA';have HEE:=lh hE;clear h1 h2 hrow hrow' hA hA' hE hml hln
 go_enter Tryz.func28,Tryz.ntmps28
 go_wp2_with fail
 go_loopg [5] ln (fun j v5 wr=>aEp w ln j v5 wr)
 case atStart=>exact⟨0,by omega,rfl,Fr.refl _ _⟩
 case round=>
  obtain⟨wo,rfl⟩:=nm (wr);obtain⟨k,hk,rfl,hF⟩:=hrel;have HF:=lh hF;clear hF
  by_cases hkl:k < ln
  ·obtain⟨x,hx⟩:∃ x,f[k]? = some x:=gx (by rw[HLN.o];exact hkl);obtain⟨rfl,-⟩:=HA.o (by omega);obtain⟨rfl,-⟩:=HA'.o (by omega);obtain⟨_,ds,hds,hcell⟩:=HROW.o k x.cells (by rw[List.getElem?_map,hx];rfl);obtain⟨_,es,hes,hcell'⟩:=HROW'.o k x.cells (by rw[List.getElem?_map,hx];rfl);obtain⟨A5,c5,A6,c6,vcs,rfl,hc5,hrq,hrv⟩:=gR hds;obtain⟨B5,d5,B6,d6,ucs,rfl,hd5,hsq,hsv⟩:=gR hes;have hrv0:=hrv;have hsv0:=hsv;obtain⟨vl,vm,rfl,hvl,hvm⟩:=fR hrv0;obtain⟨ul,um,rfl,hul,hum⟩:=fR hsv0;obtain⟨hX1,hX2,hX3⟩:=HEE.o x (List.mem_of_getElem? hx);obtain⟨what,l,op,⟨rel,ql⟩,⟨kind,b,⟨neg,dg,ex⟩,s,cl,cm⟩⟩:=x;simp only[Xpr.what,Xpr.l,Xpr.op,Xpr.q,Xpr.v,Qry.rel,Qry.l] at hcell hcell' hc5 hd5 hrq hsq hrv hsv hX1 hX2 hX3
   obtain⟨ck,crl,rfl⟩:∃ k rl,cl=.rows k rl:=by
    cases cl with
    | leaf _=>exact absurd hX3.2.2.1 (by simp[Cl.isR])
    | rows k rl=>exact⟨k,rl,rfl⟩
   obtain⟨mk,mrl,rfl⟩:∃ k rl,cm=.rows k rl:=by
    cases cm with
    | leaf _=>exact absurd hX3.2.2.2 (by simp[Cl.isR])
    | rows k rl=>exact⟨k,rl,rfl⟩
   obtain⟨Vl,vlc,rfl,-⟩:=hvl.slice;obtain⟨Vm,vmc,rfl,-⟩:=hvm.slice;obtain⟨Ul,ulc,rfl,-⟩:=hul.slice;obtain⟨Um,umc,rfl,-⟩:=hum.slice;generalize crl.length=rl1 at *;generalize mrl.length=rl2 at *;have hF0:=HF.o
   have hl1:∀ (i:Nat) (u:Value),([.int .i64 what,.slice A5 l.length c5,.string ⟨op.toArray⟩,.bool rel,.slice A6 ql.length c6,.int .i64 kind,.bool b,.bool neg,.string ⟨dg.toArray⟩,.int .i64 ex,.string ⟨s.toArray⟩,.slice Vl rl1 vlc,.slice Vm rl2 vmc]:List Value)[i]? = some u -> wo.cell? ⟨g,off+k * 13+i,none⟩=some u:=fun i u hi=>by
    have h9:=hcell i u hi;rw[show off+k * 13+i=off+13 * k+i by rw[Nat.mul_comm],hF0.cell (World.block_lt_of_cell? w _ h9) (by simp)];exact h9
   have hl2:∀ (i:Nat) (u:Value),([.int .i64 what,.slice B5 l.length d5,.string ⟨op.toArray⟩,.bool rel,.slice B6 ql.length d6,.int .i64 kind,.bool b,.bool neg,.string ⟨dg.toArray⟩,.int .i64 ex,.string ⟨s.toArray⟩,.slice Ul rl1 ulc,.slice Um rl2 umc]:List Value)[i]? = some u -> wo.cell? ⟨g',off'+k * 13+i,none⟩=some u:=fun i u hi=>by
    have h9:=hcell' i u hi;rw[show off'+k * 13+i=off'+13 * k+i by rw[Nat.mul_comm],hF0.cell (World.block_lt_of_cell? w _ h9) (by simp)];exact h9
   have x0:=hl1 0 _ rfl;rw[Nat.add_zero] at x0;have x1:=hl1 1 _ rfl;have x2:=hl1 2 _ rfl;have x3:=hl1 3 _ rfl;have x4:=hl1 4 _ rfl;have x5:=hl1 5 _ rfl;have x6:=hl1 6 _ rfl;have x7:=hl1 7 _ rfl;have x8:=hl1 8 _ rfl;have x9:=hl1 9 _ rfl;have x10:=hl1 10 _ rfl;have x11:=hl1 11 _ rfl;have x12:=hl1 12 _ rfl;have y0:=hl2 0 _ rfl;rw[Nat.add_zero] at y0;have y1:=hl2 1 _ rfl;have y2:=hl2 2 _ rfl;have y3:=hl2 3 _ rfl;have y4:=hl2 4 _ rfl;have y5:=hl2 5 _ rfl;have y6:=hl2 6 _ rfl;have y7:=hl2 7 _ rfl;have y8:=hl2 8 _ rfl;have y9:=hl2 9 _ rfl;have y10:=hl2 10 _ rfl;have y11:=hl2 11 _ rfl;have y12:=hl2 12 _ rfl;have HC5:=lh (hc5.fr hF0);have HRQ:=lh (hrq.fr hF0);have HRV:=lh (hrv.fr hF0);have HD5:=lh (hd5.fr hF0);have HSQ:=lh (hsq.fr hF0);have HSV:=lh (hsv.fr hF0);have HX1:=lh hX1;have HX2:=lh hX2;have HX3:=lh hX3;have hki:(k:Int) < (ln:Int):=by omega
   have hm0:0 < ln:=by omega
   have hltg:=World.block_lt_of_cell? wo _ x0;have hltg':=World.block_lt_of_cell? wo _ y0
   simp only at hltg hltg'
   obtain⟨ll,hll⟩:∃ ll,l.length=ll:=⟨_,rfl⟩;obtain⟨lq,hlq⟩:∃ lq,ql.length=lq:=⟨_,rfl⟩;have HLL:=lh hll;have HLQ:=lh hlq;rw[hll] at x1 y1;rw[hlq] at x4 y4;clear hds hes hcell hcell' hc5 hd5 hrq hsq hrv hsv hvl hvm hul hum hX1 hX2 hX3 hx hF0 hl1 hl2 hrv0 hsv0 hll hlq;go_upto_region 8 with fail
   have hf2:Fr [] wo ((wo.alloc (.cells #[.int .i64 what,.slice A5 ll c5,.string ⟨op.toArray⟩,.bool rel,.slice A6 lq c6,.int .i64 kind,.bool b,.bool neg,.string ⟨dg.toArray⟩,.int .i64 ex,.string ⟨s.toArray⟩,.slice Vl rl1 vlc,.slice Vm rl2 vmc] 117)).alloc (.cells #[.int .i64 what,.slice B5 ll d5,.string ⟨op.toArray⟩,.bool rel,.slice B6 lq d6,.int .i64 kind,.bool b,.bool neg,.string ⟨dg.toArray⟩,.int .i64 ex,.string ⟨s.toArray⟩,.slice Ul rl1 ulc,.slice Um rl2 umc] 117)):=((Fr.refl [] wo).alloc _).alloc _;have hb2:=(Blk.new wo 117 [.int .i64 what,.slice A5 ll c5,.string ⟨op.toArray⟩,.bool rel,.slice A6 lq c6,.int .i64 kind,.bool b,.bool neg,.string ⟨dg.toArray⟩,.int .i64 ex,.string ⟨s.toArray⟩,.slice Vl rl1 vlc,.slice Vm rl2 vmc]).alloc (.cells #[.int .i64 what,.slice B5 ll d5,.string ⟨op.toArray⟩,.bool rel,.slice B6 lq d6,.int .i64 kind,.bool b,.bool neg,.string ⟨dg.toArray⟩,.int .i64 ex,.string ⟨s.toArray⟩,.slice Ul rl1 ulc,.slice Um rl2 umc] 117);have hb3:=Blk.new (wo.alloc (.cells #[.int .i64 what,.slice A5 ll c5,.string ⟨op.toArray⟩,.bool rel,.slice A6 lq c6,.int .i64 kind,.bool b,.bool neg,.string ⟨dg.toArray⟩,.int .i64 ex,.string ⟨s.toArray⟩,.slice Vl rl1 vlc,.slice Vm rl2 vmc] 117)) 117 [.int .i64 what,.slice B5 ll d5,.string ⟨op.toArray⟩,.bool rel,.slice B6 lq d6,.int .i64 kind,.bool b,.bool neg,.string ⟨dg.toArray⟩,.int .i64 ex,.string ⟨s.toArray⟩,.slice Ul rl1 ulc,.slice Um rl2 umc];rw[show(wo.alloc (.cells #[.int .i64 what,.slice A5 ll c5,.string ⟨op.toArray⟩,.bool rel,.slice A6 lq c6,.int .i64 kind,.bool b,.bool neg,.string ⟨dg.toArray⟩,.int .i64 ex,.string ⟨s.toArray⟩,.slice Vl rl1 vlc,.slice Vm rl2 vmc] 117)).heap.size=wo.heap.size+1 by simp] at hb3;generalize (wo.alloc (.cells #[.int .i64 what,.slice A5 ll c5,.string ⟨op.toArray⟩,.bool rel,.slice A6 lq c6,.int .i64 kind,.bool b,.bool neg,.string ⟨dg.toArray⟩,.int .i64 ex,.string ⟨s.toArray⟩,.slice Vl rl1 vlc,.slice Vm rl2 vmc] 117)).alloc (.cells #[.int .i64 what,.slice B5 ll d5,.string ⟨op.toArray⟩,.bool rel,.slice B6 lq d6,.int .i64 kind,.bool b,.bool neg,.string ⟨dg.toArray⟩,.int .i64 ex,.string ⟨s.toArray⟩,.slice Ul rl1 ulc,.slice Um rl2 umc] 117)=w2 at *;have HF2:=lh (HF.o.trans hf2);have HFa:=lh hf2;have hS:(fun W=>Blk W wo.heap.size 117 [.int .i64 what,.slice A5 ll c5,.string ⟨op.toArray⟩,.bool rel,.slice A6 lq c6,.int .i64 kind,.bool b,.bool neg,.string ⟨dg.toArray⟩,.int .i64 ex,.string ⟨s.toArray⟩,.slice Vl rl1 vlc,.slice Vm rl2 vmc]/\Blk W (wo.heap.size+1) 117 [.int .i64 what,.slice B5 ll d5,.string ⟨op.toArray⟩,.bool rel,.slice B6 lq d6,.int .i64 kind,.bool b,.bool neg,.string ⟨dg.toArray⟩,.int .i64 ex,.string ⟨s.toArray⟩,.slice Ul rl1 ulc,.slice Um rl2 umc]) w2:=⟨hb2,hb3⟩;have hSf:∀ {W W':World},Fr [] W W' -> (fun W=>Blk W wo.heap.size 117 [.int .i64 what,.slice A5 ll c5,.string ⟨op.toArray⟩,.bool rel,.slice A6 lq c6,.int .i64 kind,.bool b,.bool neg,.string ⟨dg.toArray⟩,.int .i64 ex,.string ⟨s.toArray⟩,.slice Vl rl1 vlc,.slice Vm rl2 vmc]/\Blk W (wo.heap.size+1) 117 [.int .i64 what,.slice B5 ll d5,.string ⟨op.toArray⟩,.bool rel,.slice B6 lq d6,.int .i64 kind,.bool b,.bool neg,.string ⟨dg.toArray⟩,.int .i64 ex,.string ⟨s.toArray⟩,.slice Ul rl1 ulc,.slice Um rl2 umc]) W -> (fun W=>Blk W wo.heap.size 117 [.int .i64 what,.slice A5 ll c5,.string ⟨op.toArray⟩,.bool rel,.slice A6 lq c6,.int .i64 kind,.bool b,.bool neg,.string ⟨dg.toArray⟩,.int .i64 ex,.string ⟨s.toArray⟩,.slice Vl rl1 vlc,.slice Vm rl2 vmc]/\Blk W (wo.heap.size+1) 117 [.int .i64 what,.slice B5 ll d5,.string ⟨op.toArray⟩,.bool rel,.slice B6 lq d6,.int .i64 kind,.bool b,.bool neg,.string ⟨dg.toArray⟩,.int .i64 ex,.string ⟨s.toArray⟩,.slice Ul rl1 ulc,.slice Um rl2 umc]) W':=fun hf h=>⟨h.1.fr hf,h.2.fr hf⟩;clear hf2 hb2 hb3 x0 x1 x2 x3 x4 x5 x6 x7 x8 x9 x10 x11 x12 y0 y1 y2 y3 y4 y5 y6 y7 y8 y9 y10 y11 y12 hltg hltg';refine mA (fun W=>Blk W wo.heap.size 117 [.int .i64 what,.slice A5 ll c5,.string ⟨op.toArray⟩,.bool rel,.slice A6 lq c6,.int .i64 kind,.bool b,.bool neg,.string ⟨dg.toArray⟩,.int .i64 ex,.string ⟨s.toArray⟩,.slice Vl rl1 vlc,.slice Vm rl2 vmc]/\Blk W (wo.heap.size+1) 117 [.int .i64 what,.slice B5 ll d5,.string ⟨op.toArray⟩,.bool rel,.slice B6 lq d6,.int .i64 kind,.bool b,.bool neg,.string ⟨dg.toArray⟩,.int .i64 ex,.string ⟨s.toArray⟩,.slice Ul rl1 ulc,.slice Um rl2 umc]) [0,1,2,3,4,5,6,7,8,9,10,11,12,13,14,15,16,18,19,20,21,22,23,24,26,27,28,29,30,31,33,34,35,37,38] (by kernel_rfl) ?_;refine tks [0,1,2,3,4,5,6,7,8,9,10,11,12,13] ?_
   iterate 14 (refine tk rfl rfl hS rfl (fun _ hW=>by(obtain⟨k0,k1⟩:=hW;have e0:=k0.at_ (i:=0) rfl;have e1:=k0.at_ (i:=1) rfl;have e2:=k0.at_ (i:=2) rfl;have f0:=k1.at_ (i:=0) rfl;have f1:=k1.at_ (i:=1) rfl;have f2:=k1.at_ (i:=2) rfl;go_simp) <;> with_reducible rfl) ?_;simp only[nrm])
   refine tke ?_;refine tv 14 (.agg #[.bool rel,.slice A6 lq c6]) rfl rfl hS (.inl ⟨rfl,fun W hW=>cL (cs:=[.bool rel,.slice A6 lq c6]) (off:=3) rfl rfl (mS hW.1 3 _ (fun j u hu=>match j,hu with | 0,hu=>hu | 1,hu=>hu | j+2,hu=>by simp at hu)) Tryz.underlying31 rfl (by kernel_rfl)⟩) ?_;simp only[nrm];refine tks [15] ?_;refine tk rfl rfl hS rfl (fun _ hW=>by(obtain⟨k0,k1⟩:=hW;have e0:=k0.at_ (i:=0) rfl;have e1:=k0.at_ (i:=1) rfl;have e2:=k0.at_ (i:=2) rfl;have f0:=k1.at_ (i:=0) rfl;have f1:=k1.at_ (i:=1) rfl;have f2:=k1.at_ (i:=2) rfl;go_simp) <;> with_reducible rfl) ?_;simp only[nrm];refine tke ?_;refine tv 16 (.agg #[.bool rel,.slice B6 lq d6]) rfl rfl hS (.inl ⟨rfl,fun W hW=>cL (cs:=[.bool rel,.slice B6 lq d6]) (off:=3) rfl rfl (mS hW.2 3 _ (fun j u hu=>match j,hu with | 0,hu=>hu | 1,hu=>hu | j+2,hu=>by simp at hu)) Tryz.underlying31 rfl (by kernel_rfl)⟩) ?_;simp only[nrm];refine sD (j:=17) (some 44) rfl rfl (by kernel_rfl) rfl fun K hK=>?_;have hfd:Fr [] w2 w2.drew:=(Fr.refl [] w2).drew;refine zA (l:=[.tmp 41,.tmp 43]) rfl [.agg #[.bool rel,.slice A6 lq c6],.agg #[.bool rel,.slice B6 lq d6]] rfl (fun W=>by kernel_rfl) ((HX2.o w2.drew N M [.bool rel,.slice A6 lq c6] [.bool rel,.slice B6 lq d6] (by have h9:=(HRQ.o.fr HFa.o).fr hfd;rw[HLQ.o] at h9;exact h9) (by have h9:=(HSQ.o.fr HFa.o).fr hfd;rw[HLQ.o] at h9;exact h9)).mono ?_);rintro e wa ⟨rfl,hfb⟩;have HKa:=lh (hfd.trans hfb);have hSa:=hSf HKa.o hS;refine⟨_,rfl,hK _ _ (fun _=>hSa) ?_⟩;simp only[nrm];clear hK hfd hfb hS;refine tks [18,19,20,21,22,23,24] ?_
   iterate 7 (refine tk rfl rfl hSa rfl (fun _ hW=>by(obtain⟨k0,k1⟩:=hW;have e0:=k0.at_ (i:=0) rfl;have e1:=k0.at_ (i:=1) rfl;have e2:=k0.at_ (i:=2) rfl;have f0:=k1.at_ (i:=0) rfl;have f1:=k1.at_ (i:=1) rfl;have f2:=k1.at_ (i:=2) rfl;go_simp) <;> with_reducible rfl) ?_;simp only[nrm])
   refine tke ?_;refine sD (j:=25) (some 52) rfl rfl (by kernel_rfl) rfl fun K hK=>?_;refine zA (l:=[.tmp 49,.tmp 51]) rfl [.slice A5 ll c5,.slice B5 ll d5] rfl (fun W=>by kernel_rfl) ((HX1.o wa N M (.slice A5 ll c5) (.slice B5 ll d5) (by have h9:=(HC5.o.fr HFa.o).fr HKa.o;rw[HLL.o] at h9;exact h9) (by have h9:=(HD5.o.fr HFa.o).fr HKa.o;rw[HLL.o] at h9;exact h9)).mono ?_);rintro e wb ⟨rfl,hfb⟩;have HKb:=lh (HKa.o.trans hfb);have hSb:=hSf hfb hSa;refine⟨_,rfl,hK _ _ (fun _=>hSb) ?_⟩;simp only[nrm];clear hK hfb hSa;refine tks [26,27,28,29] ?_
   iterate 4 (refine tk rfl rfl hSb rfl (fun _ hW=>by(obtain⟨k0,k1⟩:=hW;have e0:=k0.at_ (i:=0) rfl;have e1:=k0.at_ (i:=1) rfl;have e2:=k0.at_ (i:=2) rfl;have f0:=k1.at_ (i:=0) rfl;have f1:=k1.at_ (i:=1) rfl;have f2:=k1.at_ (i:=2) rfl;go_simp) <;> with_reducible rfl) ?_;simp only[nrm])
   refine tke ?_;refine tv 30 (.agg #[.int .i64 kind,.bool b,.bool neg,.string ⟨dg.toArray⟩,.int .i64 ex,.string ⟨s.toArray⟩,.slice Vl rl1 vlc,.slice Vm rl2 vmc]) rfl rfl hSb (.inl ⟨rfl,fun W hW=>cL (cs:=[.int .i64 kind,.bool b,.bool neg,.string ⟨dg.toArray⟩,.int .i64 ex,.string ⟨s.toArray⟩,.slice Vl rl1 vlc,.slice Vm rl2 vmc]) (off:=5) rfl rfl (mS hW.1 5 _ (fun j u hu=>by rw[Nat.add_comm];exact hu)) Tryz.underlying107 rfl (by kernel_rfl)⟩) ?_;simp only[nrm];refine tks [31,33] ?_
   iterate 2 (refine tk rfl rfl hSb rfl (fun _ hW=>by(obtain⟨k0,k1⟩:=hW;have e0:=k0.at_ (i:=0) rfl;have e1:=k0.at_ (i:=1) rfl;have e2:=k0.at_ (i:=2) rfl;have f0:=k1.at_ (i:=0) rfl;have f1:=k1.at_ (i:=1) rfl;have f2:=k1.at_ (i:=2) rfl;go_simp) <;> with_reducible rfl) ?_;simp only[nrm])
   refine tke ?_;refine tv 34 (.agg #[.int .i64 kind,.bool b,.bool neg,.string ⟨dg.toArray⟩,.int .i64 ex,.string ⟨s.toArray⟩,.slice Ul rl1 ulc,.slice Um rl2 umc]) rfl rfl hSb (.inl ⟨rfl,fun W hW=>cL (cs:=[.int .i64 kind,.bool b,.bool neg,.string ⟨dg.toArray⟩,.int .i64 ex,.string ⟨s.toArray⟩,.slice Ul rl1 ulc,.slice Um rl2 umc]) (off:=5) rfl rfl (mS hW.2 5 _ (fun j u hu=>by rw[Nat.add_comm];exact hu)) Tryz.underlying107 rfl (by kernel_rfl)⟩) ?_;simp only[nrm];refine tks [35] ?_;refine tk rfl rfl hSb rfl (fun _ hW=>by(obtain⟨k0,k1⟩:=hW;have e0:=k0.at_ (i:=0) rfl;have e1:=k0.at_ (i:=1) rfl;have e2:=k0.at_ (i:=2) rfl;have f0:=k1.at_ (i:=0) rfl;have f1:=k1.at_ (i:=1) rfl;have f2:=k1.at_ (i:=2) rfl;go_simp) <;> with_reducible rfl) ?_;simp only[nrm];refine tke ?_;refine sD (j:=32) (some 59) rfl rfl (by kernel_rfl) rfl fun K hK=>?_;refine zA (l:=[.tmp 58]) rfl [.agg #[.int .i64 5,.slice none 0 0,.string ⟨#[]⟩,.bool false,.slice none 0 0,.int .i64 kind,.bool b,.bool neg,.string ⟨dg.toArray⟩,.int .i64 ex,.string ⟨s.toArray⟩,.slice Vl rl1 vlc,.slice Vm rl2 vmc]] rfl (fun W=>by kernel_rfl) ((aW (l:=.rows ck crl) (m:=.rows mk mrl) HX3.o.1 HX3.o.2.1).mono ?_);rintro e wc ⟨rfl,hfb⟩;have HKc:=lh (HKb.o.trans hfb);have hSc:=hSf hfb hSb;refine⟨_,rfl,hK _ _ (fun _=>hSc) ?_⟩;simp only[nrm];clear hK hfb hSb;refine sD (j:=36) (some 63) rfl rfl (by kernel_rfl) rfl fun K hK=>?_;refine zA (l:=[.tmp 62]) rfl [.agg #[.int .i64 5,.slice none 0 0,.string ⟨#[]⟩,.bool false,.slice none 0 0,.int .i64 kind,.bool b,.bool neg,.string ⟨dg.toArray⟩,.int .i64 ex,.string ⟨s.toArray⟩,.slice Ul rl1 ulc,.slice Um rl2 umc]] rfl (fun W=>by kernel_rfl) ((aW (l:=.rows ck crl) (m:=.rows mk mrl) HX3.o.1 HX3.o.2.1).mono ?_);rintro e wd ⟨rfl,hfb⟩;have HKd:=lh (HKc.o.trans hfb);have hSd:=hSf hfb hSc;refine⟨_,rfl,hK _ _ (fun _=>hSd) ?_⟩;simp only[nrm];clear hK hfb hSc;refine tks [37,38] ?_
   iterate 2 (refine tk rfl rfl hSd rfl (fun _ hW=>by(obtain⟨k0,k1⟩:=hW;have e0:=k0.at_ (i:=0) rfl;have e1:=k0.at_ (i:=1) rfl;have e2:=k0.at_ (i:=2) rfl;have f0:=k1.at_ (i:=0) rfl;have f1:=k1.at_ (i:=1) rfl;have f2:=k1.at_ (i:=2) rfl;go_simp) <;> with_reducible rfl) ?_;simp only[nrm])
   refine tke ?_;refine _root_.Go.Proofs.YtbggkiebfflcdaaGreatDoor.wd ?_ _;have HFE:=lh (HF2.o.trans HKd.o);clear hSf;go_wp2_with fail
   go_roundg (ln - (k+1))
   case measure=>omega
   case rel=>exact⟨k+1,by omega,by go_num,HFE.o⟩
  ·obtain rfl:k=ln:=by omega
   go_wp2_with fail;exact HQ.o _ _ ⟨rfl,HF.o⟩
end
end Go.Proofs.YtbggkiebfflcdaaGreatDoor
