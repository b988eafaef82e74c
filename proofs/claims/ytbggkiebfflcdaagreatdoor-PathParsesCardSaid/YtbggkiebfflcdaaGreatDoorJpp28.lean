/-
  Joined by join.py: Aa Ab Ad
-/
import Derived.Test.YtbggkiebfflcdaaGreatDoorJpp27
set_option maxRecDepth 100000
set_option maxHeartbeats 32000000
namespace Go.Proofs.YtbggkiebfflcdaaGreatDoor
section
open Go.RowKit Go.Shelf
def exs (k:Int) (v:Value):List Value:=[.int .i64 k,v,.string { data:=#[] },.bool false,.slice none 0 0,.int .i64 0,.bool false,.bool false,.string { data:=#[] },.int .i64 0,.string { data:=#[] },.slice none 0 0,.slice none 0 0]
theorem aBQ {W:World} {N:Nat -> Prop} {k:Int} {l:List Xpr} {v:Value} (h:CAt W N (.rows 13 (l.map Xpr.cells)) v):gA W N (Xpr.of k l []).cells (exs k v):=by
 rw[<- oC] at h;exact wG (op:=[]) h
theorem aGq {k:Int} {A:Option Addr} {n c:Nat}:∀ u ∈ exs k (.slice A n c),u.oneCell'=true:=one3
section
variable {P : Program} {o : Oper} {a : Act} {W : World}
theorem aES {g off:Nat} {t:TypeId} {cs:List Value} {d:TypeDesc} {x:Operand} (ho:o.op=.load t x) (hx:a.eval x=.pointer (some ⟨g,off,none⟩)) (hr:W.rangeAt g off cs) (hu:P.underlying t=some d) (hd:d.isRow=true) (hi:(P.info? t).map (·.size)=some cs.length):(execOp a.eval o).run P W=.ok (.value (.agg cs.toArray)) W:=by
 unfold execOp;simp only[ho,hx,Instr.loadAt,Instr.sureAddr,Sem.run_bind,Sem.run_pure,Result.andThen_ok,run_loadVar_mid W g off t cs d hr hu hd hi]
end
theorem aBR {W:World} {N:Nat -> Prop} {l:List Xpr} {A:Option Addr} {c:Nat} (h:CAt W N (.rows 13 (l.map Xpr.cells)) (.slice A 1 c)):∃ e g off cs,l=[e]/\A=some ⟨g,off,none⟩/\N g/\cs.length=13/\W.rangeAt g off cs/\gA W N e.cells cs:=by
 obtain⟨A',c',g,off,hv,hA,hrow⟩:=h.row;injection hv with e1 e2 e3;subst e1 e3;rw[List.length_map] at e2 hA
 obtain⟨e,rfl⟩:∃ e,l=[e]:=by
  match l,e2 with
  | [e],_=>exact⟨e,rfl⟩
  | a :: b :: l,h9=>simp at h9
 obtain⟨rfl,hNg⟩:=hA (by simp);obtain⟨_,cs,hcs,hcell⟩:=hrow 0 e.cells rfl;exact⟨e,g,off,cs,rfl,rfl,hNg,hcs.1.trans (kA e),fun j u hj=>by have:=hcell j u hj;simpa using this,hcs⟩
theorem fr_at {w w':World} {S:List Nat} (h:Fr S w w') {p:Addr} {v:Value} (hc:w.cell? p=some v) (hp:p.block ∉ S):w'.cell? p=some v:=by
 rw[h.cell (World.block_lt_of_cell? w _ hc) hp];exact hc
theorem aBS {W:World} {N:Nat -> Prop} {l:List Xpr} {A:Option Addr} {n c:Nat} (h:CAt W N (.rows 13 (l.map Xpr.cells)) (.slice A n c)):l.length=n:=by
 obtain⟨A',c',hv,_⟩:=h.slice;injection hv with e1 e2 e3;rw[List.length_map] at e2;exact e2.symm
section
variable {w w' : World} {r gl n : Nat} {txt : ByteArray} {TS : List Tkn} {s s' : DS} {E S : Int -> Rd Xpr}
def Lst {α:Type} (TS:List Tkn) (s2:DS) (X:Option (List α × QS)) (l:List α):Prop:=(s2.bad=true/\X=none) ∨ (s2.bad=false/\s2.k<=TS.length/\X=some (l,s2.q TS))
theorem oX {α β:Type} {s2:DS} {X:Option (List α × QS)} {Y:Option (β × QS)} {l:List α} {V:β -> Prop} {f:List α -> β} (h:Lst TS s2 X l) (hY:Y=X.map fun r=>(f r.1,r.2)) (hv:V (f l)):Mch V TS s2 Y:=by
 subst hY;rcases h with ⟨h1,rfl⟩ | ⟨h1,h2,rfl⟩
 ·exact⟨h1,_,hv⟩
 ·exact⟨h1,h2,rfl,hv⟩
def aGr (w:World) (r gl:Nat) (txt:ByteArray) (TS:List Tkn) (s0:DS) (T:Int -> Rd Xpr) (X:Option (List Xpr × QS)) (j:Nat) (wr:World):Prop:=∃ acc m s v,LsD Xpr.cells 117 13 w wr (w.heap.size+1) r gl txt TS s0 [38,38] (T s0.d) X acc m v s/\Blk wr w.heap.size 117 (exs 2 v)/\TS.length - s.k<=j
def aGs (w:World) (r gl:Nat) (txt:ByteArray) (TS:List Tkn) (s0:DS) (T:Int -> Rd Xpr) (X:Option (List Xpr × QS)) (j:Nat) (wr:World):Prop:=∃ acc m s v,LsD Xpr.cells 117 13 w wr (w.heap.size+2) r gl txt TS s0 [124,124] (T s0.d) X acc m v s/\Blk wr (w.heap.size+1) 117 (exs 1 v)/\Blk wr w.heap.size 117 zx/\TS.length - s.k<=j
def aET (w wc:World) (r gl:Nat) (txt:ByteArray) (TS:List Tkn) (s0:DS) (lo po:Nat) (k:Int) (X:Option (List Xpr × QS)):Prop:=∃ l s2 A n c,DAt wc r gl txt TS s2/\s2.d=s0.d/\Blk wc po 117 (exs k (.slice A n c))/\CAt wc (fun g=>lo<=g) (.rows 13 (l.map Xpr.cells)) (.slice A n c)/\Fr [r] w wc/\Lst TS s2 X l
theorem aHB (hE:oQ 128 txt E n) (hEo:∀ d,(E d).on) (hS:oQ 202 txt (qA (aA txt) E S) (n+1)) (hSo:∀ d,(S d).on) (h:DAt w r gl txt TS s) (hb:s.bad=false) (hk:s.k<=TS.length) (hn:(s.q TS).l.length<=n) (hd:s.d+(s.q TS).l.length<=80000):Calls Tryz.prog 128 #[.pointer (some ⟨r,0,none⟩)] w (mR (cF Xpr.cells w) w r gl txt TS s (tH (aA txt) E S s.d (s.q TS))):=by
 refine bA fun R HQ=>?_;have hrlt:=h.lt;have hlen:=h.len;have hza:=(Blk.new w 117 zx).alloc (.cells (exs 1 (.slice none 0 0)).toArray 117);have hya:=Blk.new (w.alloc (.cells zx.toArray 117)) 117 (exs 1 (.slice none 0 0));have hfa:=((Fr.refl [] w).alloc (.cells zx.toArray 117)).alloc (.cells (exs 1 (.slice none 0 0)).toArray 117);rw[show(w.alloc (.cells zx.toArray 117)).heap.size=w.heap.size+1 by simp] at hya;have hd0:=h.fr hfa;unfold exs zx at hza hya hfa hd0;have HEK:=lh hE;have HEO:=lh hEo;have HSK:=lh hS;have HSO:=lh hSo;have HBD:=lh hb;obtain⟨iu,hi,hz',hsz',hby⟩:=info_parts pQ;have k0:(0:Nat) < 13:=by decide
 have kb:(13:Nat)<=16777216:=by decide
 rw[bC] at hn hd;have HEI:=lh (uR (txt:=aA txt) (E:=E) (S:=S) (d:=s.d) (s:=s.q TS))
 have hx0:eC [124,124] (mI (aA txt) E S s.d) (s.q TS)=xE [] (rB [124,124] (mI (aA txt) E S s.d) (TS.length - s.k+1) (s.q TS)):=by
  unfold eC;rw[bC]
  cases rB [124,124] (mI (aA txt) E S s.d) (TS.length - s.k+1) (s.q TS) <;> rfl
 generalize eC [124,124] (mI (aA txt) E S s.d) (s.q TS)=X at *;have HX0:=lh hx0;clear h hE hEo hS hSo hb hx0
 go_enter Tryz.func128,Tryz.ntmps128
 go_upto_block 0 with fail
 generalize (w.alloc (.cells #[.int .i64 0,.slice none 0 0,.string { data:=#[] },.bool false,.slice none 0 0,.int .i64 0,.bool false,.bool false,.string { data:=#[] },.int .i64 0,.string { data:=#[] },.slice none 0 0,.slice none 0 0] 117)).alloc (.cells #[.int .i64 1,.slice none 0 0,.string { data:=#[] },.bool false,.slice none 0 0,.int .i64 0,.bool false,.bool false,.string { data:=#[] },.int .i64 0,.string { data:=#[] },.slice none 0 0,.slice none 0 0] 117)=w0 at *;have HY:Hid (Blk w0 (w.heap.size+1) 117 (exs 1 (.slice none 0 0))):=lh hya;have HZ:Hid (Blk w0 w.heap.size 117 zx):=lh hza;have HF:Hid (Fr [r] w w0):=lh (hfa.mono (by simp));have HD:=lh hd0;clear hya hza hfa hd0
 go_cut [] (fun wc=>aET w wc r gl txt TS s (w.heap.size+2) (w.heap.size+1) 1 X/\Blk wc w.heap.size 117 zx)
 case first=>
  go_wp2_with fail
  go_loopg [] (TS.length - s.k) (fun j wr=>aGs w r gl txt TS s (fun d=>mI (aA txt) E S d) X j wr)
  case atStart=>exact⟨[],_,s,.slice none 0 0,⟨HD.o,HBD.o,hk,rfl,Nat.le_refl _,by omega,HX0.o,iF.nil _ _ _ _,by simp,HF.o⟩,HY.o,HZ.o,Nat.le_refl _⟩
  case round=>
   obtain⟨j,rfl⟩:=nm (gk);obtain⟨wA,rfl⟩:=nm (wr);obtain⟨acc,m,s1,v,hL,hY,hZ,hj⟩:=hrel;obtain⟨m,rfl⟩:∃ m1,m=m1+1:=⟨m - 1,by have:=hL.fuel;have:=hL.kle;omega⟩;obtain⟨A,c,hov⟩:=hL.own.slice;rw[List.length_map] at hov;subst hov;clear HY HZ HF HD;have HL:=lh hL;have HY:=lh hY;have HZ:=lh hZ;have HF:=lh hL.fr;have hk1:=hL.kle;have hle1:s.k<=s1.k:=hL.le;have hfu1:=hL.fuel;have hfw1:=hL.few;have hdq1:s1.d=s.d:=hL.dep;have HAC:Hid (acc.length<=8193):=lh (by omega);have HDQ:=lh hdq1;have HLY:Hid (w.heap.size+2<=wA.heap.size):=lh hY.lt;have HB1:=lh hL.good;have hrA:=hL.st.lt;have HD:=lh hL.st;have hta:=Blk.new wA 117 (exs 2 (.slice none 0 0));have hfa:Fr [] wA (wA.alloc (.cells (exs 2 (.slice none 0 0)).toArray 117)):=(Fr.refl [] wA).alloc _;have hza:(wA.alloc (.cells (exs 2 (.slice none 0 0)).toArray 117)).heap.size=wA.heap.size+1:=by simp
   unfold exs at hta hfa hza;clear hL hY hZ hdq1
   go_upto_block 2 with fail
   generalize wA.alloc (.cells #[.int .i64 2,.slice none 0 0,.string { data:=#[] },.bool false,.slice none 0 0,.int .i64 0,.bool false,.bool false,.string { data:=#[] },.int .i64 0,.string { data:=#[] },.slice none 0 0,.slice none 0 0] 117)=w1 at *;have HTA:Hid (Blk w1 wA.heap.size 117 (exs 2 (.slice none 0 0))):=lh hta;have HFA:Hid (Fr [r] wA w1):=lh (hfa.mono (by simp));have hbt:=xV (txt:=aA txt) (E:=E) (S:=S) (d:=s.d) (s:=s1.q TS)
   have hxt:eC [38,38] (yC (aA txt) E S s.d) (s1.q TS)=xE [] (rB [38,38] (yC (aA txt) E S s.d) (TS.length - s1.k+1) (s1.q TS)):=by
    unfold eC;rw[bC]
    cases rB [38,38] (yC (aA txt) E S s.d) (TS.length - s1.k+1) (s1.q TS) <;> rfl
   have hon:Rd.on (eC [38,38] (yC (aA txt) E S s.d)):=oM (pM HEO.o HSO.o s.d);have hon1:=hon (s1.q TS);generalize eC [38,38] (yC (aA txt) E S s.d) (s1.q TS)=Xt at *;have HBT:=lh hbt;have HXT:=lh hxt
   replace HD:=lh (HD.o.fr hfa)
   clear hta hfa hbt hxt hon hon1;have hkm:TS.length - s1.k<=n:=by omega
   go_cut [] (fun wc=>aET wA wc r gl txt TS s1 (wA.heap.size+1) wA.heap.size 2 Xt)
   case first=>
    go_wp2_with fail
    go_loopg [] (TS.length - s1.k) (fun j wr=>aGr wA r gl txt TS s1 (fun d=>yC (aA txt) E S d) Xt j wr)
    case atStart=>exact⟨[],TS.length - s1.k+1,s1,.slice none 0 0,⟨HD.o,HB1.o,hk1,rfl,Nat.le_refl _,by omega,by have h9:=HXT.o;rw[<- HDQ.o] at h9;exact h9,iF.nil _ _ _ _,by simp,HFA.o⟩,HTA.o,Nat.le_refl _⟩
    case round=>
     obtain⟨j,rfl⟩:=nm (gk);obtain⟨wB,rfl⟩:=nm (wr);obtain⟨ac2,m2,s3,v2,hL2,hT2,hj2⟩:=hrel;obtain⟨m2,rfl⟩:∃ m1,m2=m1+1:=⟨m2 - 1,by have:=hL2.fuel;have:=hL2.kle;omega⟩;obtain⟨A2,c2,hov⟩:=hL2.own.slice;rw[List.length_map] at hov;subst hov;clear HD HTA HFA;have HL2:=lh hL2;have HT:=lh hT2;have HFB:=lh hL2.fr;have hk3:=hL2.kle;have hle3:s1.k<=s3.k:=hL2.le;have hfu3:=hL2.fuel;have hfw3:=hL2.few;have hdq3:s3.d=s.d:=hL2.dep.trans HDQ.o;have HAC2:Hid (ac2.length<=8193):=lh (by omega);have HCALL:=lh (aHA HEK.o HEO.o HSK.o HSO.o (hL2.st.fr ((Fr.refl [] wB).drew)) hL2.good hL2.kle (by rw[bC];omega) (by rw[bC];omega));rw[hdq3] at HCALL;have HDQ3:=lh hdq3;have hlt2:=hT2.lt;have HSP:Hid (Xt=xE ac2 (rB [38,38] (yC (aA txt) E S s.d) (m2+1) (s3.q TS))):=lh (by have h9:=hL2.spec;dsimp only at h9;rw[HDQ.o] at h9;exact h9);clear hL2 hT2 hdq3;go_upto_region 3 with fail
     have hTc:=HT.o;have hol:=HL2.o.own.lt;refine mA (fun W=>Blk W wA.heap.size 117 (exs 2 (.slice A2 ac2.length c2))/\True) [0,1,2,6] (by kernel_rfl) ?_;refine tks [0,1,2] ?_
     iterate 3 (refine tk rfl rfl ⟨hTc,trivial⟩ rfl (fun _ hW=>by(obtain⟨k0',k1'⟩:=hW;have z1:=k0'.at_ (i:=1) rfl;go_simp) <;> with_reducible rfl) ?_;simp only[nrm])
     refine tke ?_;refine sp 3 rfl rfl rfl fun K hK=>?_;have hfd:Fr [] wB wB.drew:=(Fr.refl [] wB).drew;refine zA (l:=[.tmp 9]) rfl [.pointer (some ⟨r,0,none⟩)] rfl (fun W=>by kernel_rfl) (HCALL.o.mono ?_);rintro e w5 ⟨v',s2,rfl,hd5,hdp5,hf5',hm5⟩;obtain⟨y,⟨cs,rfl,hcs⟩,hz1,hz2⟩:=qQ (pM HEO.o HSO.o _) HSP.o hm5;have hf5:Fr [r] wB w5:=(hfd.mono (by simp):Fr [r] wB wB.drew).trans hf5' (fun x hx=>.inl hx);have HO:=lh (HL2.o.own.fr hf5 (fun x hx=>.inl (by simp at hx;omega)))
     replace HFB:=lh (HFB.o.trans hf5 (fun x hx=>.inl hx))
     replace HT:=lh (HT.o.fr hf5 (by simp;omega))
     have HD:=lh hd5;have hTc5:=HT.o;refine⟨_,rfl,hK _ _ (fun _=>⟨hTc5,trivial⟩) ?_⟩;simp only[nrm];clear hK hfd hf5' hd5 hm5 HCALL;have HZ1:=lh hz1;have HZ2:=lh hz2;have HDP:Hid (s2.d=s.d):=lh (hdp5.trans HDQ3.o);have HCL:Hid (cs.length=13):=lh (hcs.1.trans (kA y));have hwz:=HL2.o.fr.size
     have HCS:Hid (gA w5 (fun g=>wA.heap.size+1<=g/\(Value.slice A2 ac2.length c2).ownBlock ≠ some g) (Xpr.cells y) cs):=lh (hcs.mono (fun g hg=>by
      have h2:wB.heap.size<=g:=hg;exact⟨by omega,fun e=>by have h1:=hol g e;omega⟩))
     clear hcs hz1 hz2 hdp5 hf5 hol HL2;refine sp 4 rfl rfl rfl fun K hK=>?_;refine kD (.tmp 10) rfl Tryz.underlying78 hi hz' cs rfl (hsz'.trans HCL.o.symm) (by rw[HCL.o];exact rD) (by rw[HCL.o];omega) (by rw[HCL.o];omega) (hK _ _ (fun _=>⟨hTc5.alloc _,trivial⟩) ?_);simp only[nrm];clear hK;have hb6:=Blk.new w5 117 cs;have hf6:Fr [] w5 (w5.alloc (.cells cs.toArray 117)):=(Fr.refl [] w5).alloc _;have hz6:(w5.alloc (.cells cs.toArray 117)).heap.size=w5.heap.size+1:=by simp
     generalize w5.alloc (.cells cs.toArray 117)=w6 at *;obtain⟨css,hcss,how6,hge6,-⟩:=HO.o;rw[List.length_map] at how6;have hTc6:=hTc5.fr hf6;refine sp 5 rfl rfl rfl fun K hK=>?_;refine jB (.tmp 8) (.tmp 11) rfl 117 13 192 Tryz.underlying78 hi hz' hsz' hby rD (by omega) (.slice A2 ac2.length c2) ac2.length css.flatten rfl (sB how6 hf6 (by simp)) ⟨w5.heap.size,0,none⟩ 1 1 cs rfl (by rw[HCL.o]) (fun j u hu=>by rw[Addr.add_mid,Nat.zero_add];exact hb6.at_ hu) (HCS.o.one) (by omega) (by unfold maxLen;have:=HAC2.o;omega) (by have:=HAC2.o;omega) (w5.heap.size+1) hz6 fun g7 cap w7 ho7 hf7 hat7 hlt7=>hK _ _ (fun _=>⟨hTc6.fr hf7 (fun hm=>by have:=hge6 _ (by simpa using hm);omega),trivial⟩) ?_;simp only[nrm];clear hK;have hHO7:=iF.app (p:=Xpr.cells y) (l:=ac2.map Xpr.cells) (g7:=g7) (cap:=cap) HO.o rfl hf6 hz6 (by have:=HT.o.lt;omega) (kA y) (by simpa using HCS.o) hf7 (by simpa using ho7) (by simpa using how6) hat7;have hTc7:=hTc6.fr hf7 (fun hm=>by have:=hge6 _ (by simpa using hm);omega);have hHF7:=(HFB.o.trans hf6).trans hf7 (fun x hx=>.inr (by have:=hge6 _ (by simpa using hx);omega));have hHD7:=(HD.o.fr hf6).fr hf7 (fun x hx=>by have:=hge6 _ (by simpa using hx);omega);clear HFB HD HO HT HCS;have HO:=lh hHO7;have HFB:=lh hHF7;have HD:=lh hHD7;have HT:=lh hTc7;clear hHO7 hHF7 hHD7 hb6 hf6 hz6 hf7 ho7 hat7 hlt7 how6 hge6 hTc hTc5 hTc6 hcss;refine tks [6] ?_;refine tk rfl rfl ⟨hTc7,trivial⟩ rfl (fun _ hW=>by(obtain⟨k0',k1'⟩:=hW;go_simp) <;> with_reducible rfl) ?_;simp only[nrm];refine tke ?_;refine iC (j:=7) none rfl rfl (by kernel_rfl) rfl fun K hK=>?_;have q1:=hTc7.at_ (i:=1) rfl;have qf:=hTc7.free;refine pC (w':=w7.setCell ⟨wA.heap.size,1,none⟩ (.slice (some ⟨g7,0,none⟩) (ac2.length+1) cap)) (by go_simp) (hK _ _ (fun h=>absurd h (by decide +kernel)) ?_);simp only[Act.put];clear hK;refine wd ?_ _;have hf8:Fr [wA.heap.size] w7 (w7.setCell ⟨wA.heap.size,1,none⟩ (.slice (some ⟨g7,0,none⟩) (ac2.length+1) cap)):=(Fr.refl [wA.heap.size] w7).setCell (.inl (by simp)) _;have hy8:Blk (w7.setCell ⟨wA.heap.size,1,none⟩ (.slice (some ⟨g7,0,none⟩) (ac2.length+1) cap)) wA.heap.size 117 (exs 2 (.slice (some ⟨g7,0,none⟩) (ac2.length+1) cap)):=HT.o.set_ 1 _;generalize w7.setCell ⟨wA.heap.size,1,none⟩ (.slice (some ⟨g7,0,none⟩) (ac2.length+1) cap)=w8 at *
     replace HT:=lh hy8
     replace HFB:=lh (HFB.o.trans hf8 (fun x hx=>.inr (by simp at hx;omega)))
     replace HD:=lh (HD.o.fr hf8 (by simp;omega))
     replace HO:=lh (HO.o.fr hf8 (fun x hx=>.inl (by simp at hx;omega)))
     have HMP:Hid ((ac2 ++ [y]).map Xpr.cells=ac2.map Xpr.cells ++ [Xpr.cells y]):=lh (by simp);rw[List.length_map] at HO;clear q1 qf hTc7 hf8 hy8;have c5:=HD.o.cells.1 4 _ rfl;simp only[Nat.succ_ne_zero,if_false,Nat.reduceAdd] at c5
     cases hbd:s2.bad with
     | true=>
      rw[hbd] at c5;have HX:Hid (Lst TS s2 Xt (ac2 ++ [y])):=lh (.inl ⟨hbd,HZ1.o hbd⟩);clear hbd;go_wp2_with fail
      go_meet
      exact⟨_,s2,_,_,_,HD.o,HDP.o.trans HDQ.o.symm,HT.o,by rw[HMP.o];exact HO.o.cat k0,HFB.o,HX.o⟩
     | false=>
      rw[hbd] at c5;obtain⟨hk2,hq2,hX2⟩:=HZ2.o hbd;rw[bC] at hq2;have HX2:=lh hX2;have HI:=lh (qK HD.o ⟨#[38,38]⟩);rw[show aA ⟨#[38,38]⟩=[38,38] from rfl] at HI;have HBD2:=lh hbd;clear hbd hX2;have hzT:=HT.o.lt
      cases hnx:s2.nx TS [38,38] with
      | false=>
       have HX:Hid (Lst TS s2 Xt (ac2 ++ [y])):=lh (.inr ⟨HBD2.o,hk2,HX2.o.trans (if_neg (by rw[hnx];simp))⟩);rw[hnx,if_neg (by simp)] at HI;clear hnx;go_wp2_with fail;refine HI.o.mono ?_;rintro e w11 ⟨rfl,hd11,hf11⟩
       replace HFB:=lh (HFB.o.trans hf11 (fun x hx=>.inl hx))
       replace HT:=lh (HT.o.fr hf11 (by simp;omega))
       replace HO:=lh (HO.o.fr hf11 (fun x hx=>.inl (by simp at hx;omega)))
       replace HD:=lh hd11
       clear hd11 hf11 c5 HI;go_wp2_with fail
       go_meet
       exact⟨_,s2,_,_,_,HD.o,HDP.o.trans HDQ.o.symm,HT.o,by rw[HMP.o];exact HO.o.cat k0,HFB.o,HX.o⟩
      | true=>
       have HXE:=lh (HX2.o.trans (if_pos hnx));have hk4:s2.k+1<=TS.length:=aG hnx;rw[hnx,if_pos rfl] at HI;clear hnx;go_wp2_with fail;refine HI.o.mono ?_;rintro e w11 ⟨rfl,hd11,hf11⟩
       replace HFB:=lh (HFB.o.trans hf11 (fun x hx=>.inl hx))
       replace HT:=lh (HT.o.fr hf11 (by simp;omega))
       replace HO:=lh (HO.o.fr hf11 (fun x hx=>.inl (by simp at hx;omega)))
       replace HD:=lh hd11
       clear hd11 hf11 c5 HI;go_wp2_with fail
       go_roundg (TS.length - (s2.k+1))
       case measure=>omega
       case rel=>exact⟨ac2 ++ [y],m2,s2.go,_,⟨HD.o,HBD2.o,hk4,HDP.o.trans HDQ.o.symm,by show s1.k<=s2.k+1;omega,by show TS.length < m2+(s2.k+1);omega,by have h9:=HXE.o;rw[<- HDQ.o] at h9;exact h9,by rw[HMP.o];exact HO.o,by rw[List.length_append];show ac2.length+1<=s2.k+1;omega,HFB.o⟩,HT.o,Nat.le_refl _⟩
   case rest=>
    obtain⟨l,s2,A2,n2,c2,hd2,hdp2,hy2,hca2,hf2,hl2⟩:=hcut;obtain⟨w2,rfl⟩:=nm (wc);clear HD HTA HFA;have HD:=lh hd2;have HT:=lh hy2;have HCA:=lh hca2;have HLL:=lh hl2;have HDP:Hid (s2.d=s.d):=lh (hdp2.trans HDQ.o);have hrw:r < w.heap.size:=hrlt;have HO:=lh (HL.o.own.fr hf2 (fun x hx=>.inl (by simp at hx;omega)));have HFS:=lh hf2
    replace HF:=lh (HF.o.trans hf2 (fun x hx=>.inl hx))
    replace HZ:=lh (HZ.o.fr hf2 (by simp;omega))
    replace HY:=lh (HY.o.fr hf2 (by simp;omega))
    have hsz2:=hf2.size;have hlt2:=hy2.lt;have hol:=HL.o.own.lt;have t1:=HT.o.at_ (i:=1) rfl;clear hd2 hdp2 hy2 hca2 hf2 hl2
    go_upto_if 26 with fail
    have HRL:Hid (∀ cs,gA w2 (fun g=>wA.heap.size+1<=g) (Xpr.cells (.many 2 l)) cs -> gA w2 (fun g=>w.heap.size+2<=g/\(Value.slice A acc.length c).ownBlock ≠ some g) (Xpr.cells (.many 2 l)) cs):=lh (fun cs hcs=>hcs.mono (fun g hg=>⟨by have:=HLY.o;omega,fun e=>by have h1:=hol g e;omega⟩));have HOL:=lh hol;clear hol t1
    go_cut [] (fun wc=>∃ v',DAt wc r gl txt TS s2/\Blk wc (w.heap.size+1) 117 (exs 1 v')/\Blk wc w.heap.size 117 zx/\iF wc (w.heap.size+2) 117 13 v' ((acc ++ [Xpr.many 2 l]).map Xpr.cells)/\Fr [r] w wc)
    case first=>
     have HMP:Hid ((acc ++ [Xpr.many 2 l]).map Xpr.cells=acc.map Xpr.cells ++ [Xpr.cells (.many 2 l)]):=lh (by simp);have hYc:=HY.o;have hTc:=HT.o;obtain⟨css,hcss,how2,hge2,-⟩:=HO.o;rw[List.length_map] at how2
     by_cases h1:n2=1
     ·have d1:((n2:Int) == 1)=true:=by rw[h1];rfl
      have hca1:=HCA.o;rw[h1] at hca1;obtain⟨e1,g1,o1,cs,hle,rfl,hng,hcl,hra,hcs⟩:=aBR hca1;have hp1:=HRL.o cs (by rw[hle];exact hcs);have HNG:Hid (wA.heap.size+1<=g1):=lh hng;have HP1:=lh hp1;have HCL:=lh hcl;have hc1:(Tryz.prog.info? 117).map (·.size)=some cs.length:=by rw[hcl];exact tB
      have HC1:=lh hc1;have hn2:0 < n2:=by omega
      clear h1 hca1 hcs hp1 hcl hc1 HCA hle hng;go_upto_region 6 with fail
      refine mA (fun W=>Blk W (w.heap.size+1) 117 (exs 1 (.slice A acc.length c))/\Blk W wA.heap.size 117 (exs 2 (.slice (some ⟨g1,o1,none⟩) n2 c2))/\W.rangeAt g1 o1 cs) [0,1,2,3,4,5] (by kernel_rfl) ?_;refine tks [0,1,2,3,4] ?_
      iterate 5 (refine tk rfl rfl ⟨hYc,hTc,hra⟩ rfl (fun _ hW=>by(obtain⟨k0',k1',k2'⟩:=hW;have z1:=k0'.at_ (i:=1) rfl;have z2:=k1'.at_ (i:=1) rfl;go_simp) <;> with_reducible rfl) ?_;simp only[nrm])
      refine tke ?_;refine tv 5 (.agg cs.toArray) rfl rfl ⟨hYc,hTc,hra⟩ (.inl ⟨rfl,fun W hW=>aES rfl rfl hW.2.2 Tryz.underlying117 rfl HC1.o⟩) ?_;simp only[nrm];refine sp 6 rfl rfl rfl fun K hK=>?_;have hfa6:Fr [] w2 (w2.drew.alloc (.cells cs.toArray 117)):=((Fr.refl [] w2).drew).alloc _;have hra6:(w2.drew.alloc (.cells cs.toArray 117)).rangeAt g1 o1 cs:=fun j u hj=>dA hfa6 (hra j u hj);refine kD (.tmp 32) rfl Tryz.underlying78 hi hz' cs rfl (hsz'.trans HCL.o.symm) (by rw[HCL.o];exact rD) (by rw[HCL.o];omega) (by rw[HCL.o];omega) (hK _ _ (fun _=>⟨hYc.fr hfa6,hTc.fr hfa6,hra6⟩) ?_);simp only[nrm];clear hK;have hb6:Blk (w2.drew.alloc (.cells cs.toArray 117)) w2.heap.size 117 cs:=Blk.new w2.drew 117 cs;have hz6:(w2.drew.alloc (.cells cs.toArray 117)).heap.size=w2.heap.size+1:=by simp
      generalize w2.drew.alloc (.cells cs.toArray 117)=w6 at *;have hYc6:=hYc.fr hfa6;have hTc6:=hTc.fr hfa6;refine sp 7 rfl rfl rfl fun K hK=>?_;refine jB (.tmp 28) (.tmp 33) rfl 117 13 192 Tryz.underlying78 hi hz' hsz' hby rD (by omega) (.slice A acc.length c) acc.length css.flatten rfl (sB how2 hfa6 (by simp)) ⟨w2.heap.size,0,none⟩ 1 1 cs rfl (by rw[HCL.o]) (fun j u hu=>by rw[Addr.add_mid,Nat.zero_add];exact hb6.at_ hu) (HP1.o.one) (by omega) (by unfold maxLen;have:=HAC.o;omega) (by have:=HAC.o;omega) (w2.heap.size+1) hz6 fun g7 cap w7 ho7 hf7 hat7 hlt7=>hK _ _ (fun _=>⟨hYc6.fr hf7 (fun hm=>by have:=hge2 _ (by simpa using hm);omega),hTc6.fr hf7 (fun hm=>by have:=HOL.o _ (by simpa using hm);omega),fun j u hj=>fr_at hf7 (hra6 j u hj) (fun hm=>by have:=HOL.o _ (by simpa using hm);have:=HNG.o;omega)⟩) ?_;simp only[nrm];clear hK;have hHO7:=iF.app (p:=Xpr.cells (.many 2 l)) (l:=acc.map Xpr.cells) (g7:=g7) (cap:=cap) HO.o rfl hfa6 hz6 (by have:=HY.o.lt;omega) (kA _) (by simpa using HP1.o) hf7 (by simpa using ho7) (by simpa using how2) hat7;have hYc7:=hYc6.fr hf7 (fun hm=>by have:=hge2 _ (by simpa using hm);omega);have hHF7:=(HF.o.trans hfa6).trans hf7 (fun x hx=>.inr (by have:=hge2 _ (by simpa using hx);omega));have hHZ7:=(HZ.o.fr hfa6).fr hf7 (fun hm=>by have:=hge2 _ (by simpa using hm);omega);have hHD7:=(HD.o.fr hfa6).fr hf7 (fun x hx=>by have:=hge2 _ (by simpa using hx);omega);clear HF HZ HD HO HY;have HO:=lh hHO7;have HF:=lh hHF7;have HZ:=lh hHZ7;have HD:=lh hHD7;have HY:=lh hYc7;clear hHO7 hHF7 hHZ7 hHD7 hb6 hfa6 hz6 hf7 ho7 hat7 how2 hge2 hYc hYc6 hTc hTc6 hcss;refine sp 8 rfl rfl rfl fun K hK=>?_;refine tA (v:=?aq2_8) ?yq2_8 (hK _ _ (fun h=>absurd h (by decide +kernel)) ?_)
      case yq2_8=>go_simp <;> with_reducible rfl
      simp only[nrm];refine iC (j:=9) none rfl rfl (by kernel_rfl) rfl fun K hK=>?_;have q1:=hYc7.at_ (i:=1) rfl;have qf:=hYc7.free;refine pC (w':=w7.setCell ⟨w.heap.size+1,1,none⟩ (.slice (some ⟨g7,0,none⟩) (acc.length+1) cap)) (by go_simp) (hK _ _ (fun h=>absurd h (by decide +kernel)) ?_);simp only[Act.put];clear hK;refine wd ?_ _;have hf8:Fr [w.heap.size+1] w7 (w7.setCell ⟨w.heap.size+1,1,none⟩ (.slice (some ⟨g7,0,none⟩) (acc.length+1) cap)):=(Fr.refl [w.heap.size+1] w7).setCell (.inl (by simp)) _;have hy8:Blk (w7.setCell ⟨w.heap.size+1,1,none⟩ (.slice (some ⟨g7,0,none⟩) (acc.length+1) cap)) (w.heap.size+1) 117 (exs 1 (.slice (some ⟨g7,0,none⟩) (acc.length+1) cap)):=HY.o.set_ 1 _;generalize w7.setCell ⟨w.heap.size+1,1,none⟩ (.slice (some ⟨g7,0,none⟩) (acc.length+1) cap)=w8 at *
      replace HF:=lh (HF.o.trans hf8 (fun x hx=>.inr (by simp at hx;omega)))
      replace HZ:=lh (HZ.o.fr hf8)
      replace HD:=lh (HD.o.fr hf8 (by simp;omega))
      replace HO:=lh (HO.o.fr hf8 (fun x hx=>.inl (by simp at hx;omega)))
      rw[List.length_map] at HO;have HY8:=lh hy8;clear q1 qf hYc7 hf8 hy8;go_wp2_with fail
      go_meet
      exact⟨_,HD.o,HY8.o,HZ.o,by rw[HMP.o];exact HO.o,HF.o⟩
     ·have d1:((n2:Int) == 1)=false:=by rw[beq_eq_false_iff_ne];omega
      have hm2:Xpr.many 2 l=.of 2 l []:=uW (by rw[aBS HCA.o];exact h1);have hp1:=HRL.o (exs 2 (.slice A2 n2 c2)) (by rw[hm2];exact aBQ HCA.o);have HP1:=lh hp1;have HC1:Hid ((Tryz.prog.info? 117).map (·.size)=some (exs 2 (.slice A2 n2 c2)).length):=lh tB;have HCL:Hid ((exs 2 (.slice A2 n2 c2)).length=13):=lh rfl;have y1:=hYc.at_ (i:=1) rfl;clear h1 hm2 hp1 HCA
      go_wp2_with (first
       | (with_reducible refine uA rfl 117 (.tmp 4) rfl rfl HT.o Tryz.underlying117 rfl HC1.o ?_)
       | (with_reducible refine cC rfl (.tmp 38) rfl Tryz.underlying78 hi hz' (exs 2 (.slice A2 n2 c2)) rfl HCL.o hsz' rD k0 kb ?_))
      intro w6 hb6 hfa6 hz6;have how6':=sB how2 hfa6 (by simp:∀ g,(Value.slice A acc.length c).ownBlock=some g -> g ∉ ([]:List Nat));have hcl6:(exs 2 (.slice A2 n2 c2)).length=1 * 13:=rfl;have hat6:∀ (j:Nat) (u:Value),(exs 2 (.slice A2 n2 c2))[j]? = some u -> w6.cell? ((⟨w2.heap.size,0,none⟩:Addr).add j)=some u:=fun j u hu=>by rw[Addr.add_mid,Nat.zero_add];exact hb6.at_ hu
      have hml6:acc.length+1<=maxLen:=by unfold maxLen;have:=HAC.o;omega
      have hbb6:(acc.length+1) * 192<=140737488355328:=by have:=HAC.o;omega
      have HOW6:=lh how6';have HAT6:=lh hat6;have hYc6:=hYc.fr hfa6;have hTc6:=hTc.fr hfa6;clear how6' hat6
      go_wp2_with (with_reducible refine eE rfl (.tmp 37) (.tmp 39) rfl 117 13 192 Tryz.underlying78 hi hz' hsz' hby rD k0 (.slice A acc.length c) acc.length css.flatten rfl HOW6.o ⟨w2.heap.size,0,none⟩ 1 1 (exs 2 (.slice A2 n2 c2)) rfl hcl6 HAT6.o HP1.o.one Nat.one_pos hml6 hbb6 (w2.heap.size+1) hz6 ?_)
      intro g7 cap w7 ho7 hf7 hat7;have hHO7:=iF.app (p:=Xpr.cells (.many 2 l)) (l:=acc.map Xpr.cells) (g7:=g7) (cap:=cap) HO.o rfl hfa6 hz6 (by have:=HY.o.lt;omega) (kA _) (by simpa using HP1.o) hf7 (by simpa using ho7) (by simpa using how2) hat7;have hYc7:=hYc6.fr hf7 (fun hm=>by have:=hge2 _ (by simpa using hm);omega);have hHF7:=(HF.o.trans hfa6).trans hf7 (fun x hx=>.inr (by have:=hge2 _ (by simpa using hx);omega));have hHZ7:=(HZ.o.fr hfa6).fr hf7 (fun hm=>by have:=hge2 _ (by simpa using hm);omega);have hHD7:=(HD.o.fr hfa6).fr hf7 (fun x hx=>by have:=hge2 _ (by simpa using hx);omega);clear HF HZ HD HO HY;have HO:=lh hHO7;have HF:=lh hHF7;have HZ:=lh hHZ7;have HD:=lh hHD7;have HY:=lh hYc7;clear hHO7 hHF7 hHZ7 hHD7 hb6 hfa6 hz6 hf7 ho7 hat7 how2 hge2 hYc hYc6 hTc hTc6 hcss;have q1:=hYc7.at_ (i:=1) rfl;have qf:=hYc7.free;go_wp2_with fail;have hf8:Fr [w.heap.size+1] w7 (w7.setCell ⟨w.heap.size+1,1,none⟩ (.slice (some ⟨g7,0,none⟩) (acc.length+1) cap)):=(Fr.refl [w.heap.size+1] w7).setCell (.inl (by simp)) _;have hy8:Blk (w7.setCell ⟨w.heap.size+1,1,none⟩ (.slice (some ⟨g7,0,none⟩) (acc.length+1) cap)) (w.heap.size+1) 117 (exs 1 (.slice (some ⟨g7,0,none⟩) (acc.length+1) cap)):=HY.o.set_ 1 _;generalize w7.setCell ⟨w.heap.size+1,1,none⟩ (.slice (some ⟨g7,0,none⟩) (acc.length+1) cap)=w8 at *
      replace HF:=lh (HF.o.trans hf8 (fun x hx=>.inr (by simp at hx;omega)))
      replace HZ:=lh (HZ.o.fr hf8)
      replace HD:=lh (HD.o.fr hf8 (by simp;omega))
      replace HO:=lh (HO.o.fr hf8 (fun x hx=>.inl (by simp at hx;omega)))
      rw[List.length_map] at HO;have HY8:=lh hy8;clear q1 qf hYc7 hf8 hy8
      go_meet
      exact⟨_,HD.o,HY8.o,HZ.o,by rw[HMP.o];exact HO.o,HF.o⟩
    case rest=>
     obtain⟨v',hd4,hy4,hz4,ho4,hf4⟩:=hcut;obtain⟨w4,rfl⟩:=nm (wc);obtain⟨A4,c4,hov⟩:=ho4.slice;rw[List.length_map,List.length_append,List.length_singleton] at hov;subst hov;clear HY HZ HF HD HO HT HCA HRL;have HD:=lh hd4;have HY:=lh hy4;have HZ:=lh hz4;have HO:=lh ho4;have HF:=lh hf4;have c5:=HD.o.cells.1 4 _ rfl;simp only[Nat.succ_ne_zero,if_false,Nat.reduceAdd] at c5;have HSP:Hid (X=xE acc (rB [124,124] (mI (aA txt) E S s.d) (m+1) (s1.q TS))):=lh HL.o.spec;have HMB:=lh (oX (V:=fun y=>y=Xpr.many 2 l) HLL.o HBT.o rfl);clear hd4 hy4 hz4 ho4 hf4 HL HFS;obtain⟨y,hyv,hz1,hz2⟩:=qQ (xP HEO.o HSO.o s.d) HSP.o HMB.o;subst hyv;have HZ1:=lh hz1;have HZ2:=lh hz2;clear hz1 hz2;have hzy:=HY.o.lt
     cases hbd:s2.bad with
     | true=>
      rw[hbd] at c5;have HX:Hid (Lst TS s2 X (acc ++ [Xpr.many 2 l])):=lh (.inl ⟨hbd,HZ1.o hbd⟩);clear hbd;go_wp2_with fail
      go_meet
      exact⟨⟨_,s2,_,_,_,HD.o,HDP.o,HY.o,HO.o.cat k0,HF.o,HX.o⟩,HZ.o⟩
     | false=>
      rw[hbd] at c5;obtain⟨hk2,hq2,hX2⟩:=HZ2.o hbd;rw[bC] at hq2;have HX2:=lh hX2;have HI:=lh (qK HD.o ⟨#[124,124]⟩);rw[show aA ⟨#[124,124]⟩=[124,124] from rfl] at HI;have HBD2:=lh hbd;clear hbd hX2
      cases hnx:s2.nx TS [124,124] with
      | false=>
       have HX:Hid (Lst TS s2 X (acc ++ [Xpr.many 2 l])):=lh (.inr ⟨HBD2.o,hk2,HX2.o.trans (if_neg (by rw[hnx];simp))⟩);rw[hnx,if_neg (by simp)] at HI;clear hnx;go_wp2_with fail;refine HI.o.mono ?_;rintro e w11 ⟨rfl,hd11,hf11⟩
       replace HF:=lh (HF.o.trans hf11 (fun x hx=>.inl hx))
       replace HZ:=lh (HZ.o.fr hf11 (by simp;omega))
       replace HY:=lh (HY.o.fr hf11 (by simp;omega))
       replace HO:=lh (HO.o.fr hf11 (fun x hx=>.inl (by simp at hx;omega)))
       replace HD:=lh hd11
       clear hd11 hf11 c5 HI;go_wp2_with fail
       go_meet
       exact⟨⟨_,s2,_,_,_,HD.o,HDP.o,HY.o,HO.o.cat k0,HF.o,HX.o⟩,HZ.o⟩
      | true=>
       have HXE:=lh (HX2.o.trans (if_pos hnx));have hk4:s2.k+1<=TS.length:=aG hnx;rw[hnx,if_pos rfl] at HI;clear hnx;go_wp2_with fail;refine HI.o.mono ?_;rintro e w11 ⟨rfl,hd11,hf11⟩
       replace HF:=lh (HF.o.trans hf11 (fun x hx=>.inl hx))
       replace HZ:=lh (HZ.o.fr hf11 (by simp;omega))
       replace HY:=lh (HY.o.fr hf11 (by simp;omega))
       replace HO:=lh (HO.o.fr hf11 (fun x hx=>.inl (by simp at hx;omega)))
       replace HD:=lh hd11
       clear hd11 hf11 c5 HI;go_wp2_with fail
       go_roundg (TS.length - (s2.k+1))
       case measure=>omega
       case rel=>exact⟨acc ++ [Xpr.many 2 l],m,s2.go,_,⟨HD.o,HBD2.o,hk4,HDP.o,by show s.k<=s2.k+1;omega,by show TS.length < m+(s2.k+1);omega,HXE.o,HO.o,by rw[List.length_append];show acc.length+1<=s2.k+1;omega,HF.o⟩,HY.o,HZ.o,Nat.le_refl _⟩
 case rest=>
  obtain⟨⟨l,s2,A2,n2,c2,hd2,hdp2,hy2,hca2,hf2,hl2⟩,hz2⟩:=hcut;obtain⟨w2,rfl⟩:=nm (wc);clear HD HF HZ HY;have HD:=lh hd2;have HT:=lh hy2;have HCA:=lh hca2;have HLL:=lh hl2;have HDP:=lh hdp2;have HF:=lh hf2;have HZ:=lh hz2;have t1:=HT.o.at_ (i:=1) rfl;clear hd2 hdp2 hy2 hca2 hf2 hl2 hz2
  by_cases h1:n2=1
  ·have d1:((n2:Int) == 1)=true:=by rw[h1];rfl
   have hca1:=HCA.o;rw[h1] at hca1;obtain⟨e1,g1,o1,cs,hle,rfl,hng,hcl,hra,hcs⟩:=aBR hca1;have HRW:Hid (gA w2 (fun g=>w.heap.size+2<=g) (Xpr.many 1 l).cells cs):=lh (by rw[hle];exact hcs);have HRA:=lh hra;have HCL:=lh hcl;have HO:=lh hcs.one;have hc1:(Tryz.prog.info? 117).map (·.size)=some cs.length:=by rw[hcl];exact tB
   have hc2:zx.length=cs.length:=by rw[hcl];rfl
   have HC1:=lh hc1;have HC2:=lh hc2;have hn2:0 < n2:=by omega
   clear h1 hca1 hle hng hcl hra hcs hc1 hc2 HCA
   go_wp2_with (first
    | (with_reducible refine wpList_load_mid rfl 117 (.tmp 57) rfl g1 o1 rfl cs _ HRA.o Tryz.underlying117 rfl HC1.o ?_)
    | (with_reducible refine iA rfl 117 (.tmp 2) (.tmp 58) rfl cs rfl rfl HZ.o HC1.o HC2.o HO.o ?_))
   intro w9 hb9 hf9 hz9;have HB9:=lh hb9;have HF9:=lh hf9;clear hb9 hf9 hz9;go_wp2_with fail;exact zD rfl rfl HB9.o HCL.o (HQ.o _ _ ⟨_,_,rfl,HD.o.fr HF9.o (by simp;omega),HDP.o,HF.o.trans HF9.o (fun x hx=>.inr (by simp at hx;omega)),oX HLL.o HEI.o ⟨_,rfl,(HRW.o.fr HF9.o (fun g hg=>by simp;omega)).mono (fun g hg=>by omega)⟩⟩)
  ·have d1:((n2:Int) == 1)=false:=by rw[beq_eq_false_iff_ne];omega
   have hm2:Xpr.many 1 l=.of 1 l []:=uW (by rw[aBS HCA.o];exact h1);have HRW:Hid (gA w2 (fun g=>w.heap.size+2<=g) (Xpr.many 1 l).cells (exs 1 (.slice A2 n2 c2))):=lh (by rw[hm2];exact aBQ HCA.o);have HC1:Hid ((Tryz.prog.info? 117).map (·.size)=some (exs 1 (.slice A2 n2 c2)).length):=lh tB;have HC2:Hid (zx.length=(exs 1 (.slice A2 n2 c2)).length):=lh rfl;have HO:=lh (aGq (k:=1) (A:=A2) (n:=n2) (c:=c2));clear h1 hm2 HCA
   go_wp2_with (first
    | (with_reducible refine uA rfl 117 (.tmp 3) rfl rfl HT.o Tryz.underlying117 rfl HC1.o ?_)
    | (with_reducible refine iA rfl 117 (.tmp 2) (.tmp 59) rfl (exs 1 (.slice A2 n2 c2)) rfl rfl HZ.o HC1.o HC2.o HO.o ?_))
   intro w9 hb9 hf9 hz9;have HB9:=lh hb9;have HF9:=lh hf9;clear hb9 hf9 hz9;go_wp2_with fail;exact zD rfl rfl HB9.o rfl (HQ.o _ _ ⟨_,_,rfl,HD.o.fr HF9.o (by simp;omega),HDP.o,HF.o.trans HF9.o (fun x hx=>.inr (by simp at hx;omega)),oX HLL.o HEI.o ⟨_,rfl,(HRW.o.fr HF9.o (fun g hg=>by simp;omega)).mono (fun g hg=>by omega)⟩⟩)
end
theorem gJ (x:ByteArray) (l:List UInt8):(x.toList == l)=(aA x == l):=by rw[ByteArray.toList_eq];rfl
theorem aBo (x:List UInt8):(tI x && !cB x)=(x == sH || x == nG || x == oG):=by
 unfold tI cB pJ
 by_cases h1:x=sH
 ·subst h1;rfl
 ·by_cases h2:x=nG
  ·subst h2;rfl
  ·by_cases h3:x=oG
   ·subst h3;rfl
   ·have e1:(x == sH)=false:=by simpa using h1
    have e2:(x == nG)=false:=by simpa using h2
    have e3:(x == oG)=false:=by simpa using h3
    rw[e1,e2,e3];simp only[List.contains,List.elem,e1,e2,e3]
    cases (x == kK) <;> cases (x == iI) <;> rfl
section
variable {w : World} {N : Nat -> Prop} {cs : List Value}
theorem aBT {x:Xpr} (h:gA w N x.cells cs) (ho:x.op.length<=1000000):RV 54 #[.agg cs.toArray] w (.bool x.truth):=by
 refine bA fun R HQ=>?_;obtain⟨wh,hwh⟩:∃ wh,x.what=wh:=⟨_,rfl⟩;obtain⟨op,hop⟩:∃ op:ByteArray,op=⟨x.op.toArray⟩:=⟨_,rfl⟩;have hopb:aA op=x.op:=by rw[hop];simp[aA]
 have hw0:=eF h;have hw2:=sM h;rw[hwh] at hw0;rw[<- hop] at hw2;have hos:op.size<=maxLen:=by rw[lA hopb];unfold maxLen;omega
 have HW0:=lh hw0;have HW2:=lh hw2;have HOPB:=lh hopb;have HOS:=lh hos;have HH:=lh h;have HWH:=lh hwh;clear h hw0 hw2 hopb hos hop hwh;have HE:Hid (x.truth=(decide (1<=wh/\wh<=4) || wh == 6 || (wh == 7 && (op.toList == kK || op.toList == iI)))):=lh (by unfold Xpr.truth cB;rw[HWH.o,<- HOPB.o,gJ,gJ])
 go_enter Tryz.func54,Tryz.ntmps54
 go_wp2_with (with_reducible refine dB rfl 117 (.tmp 0) rfl cs rfl ?_)
 intro w0 hb0 hf0 hz0;have c0:=hb0.at_ HW0.o;have c2:=hb0.at_ HW2.o;have HF0:=lh hf0;clear hb0 hf0 hz0;rw[HE.o] at HQ;obtain⟨m,hm⟩:∃ m,(op.toList == [109,97,116,99,104])=m:=⟨_,rfl⟩;obtain⟨sr,hsr⟩:∃ sr,(op.toList == [115,101,97,114,99,104])=sr:=⟨_,rfl⟩;rw[show(op.toList == kK)=m from hm,show(op.toList == iI)=sr from hsr] at HQ
 by_cases h7:wh=7
 ·subst h7;rw[show(decide (1<=(7:Int)/\(7:Int)<=4) || (7:Int) == 6 || ((7:Int) == 7 && (m || sr)))=(m || sr) from by simp] at HQ
  cases m <;> cases sr <;> (go_wp2_with fail;exact HQ.o _ _ ⟨rfl,HF0.o⟩)
 ·have d7:(wh == 7)=false:=by simpa using h7
  by_cases h1:1<=wh
  ·have d1:decide (wh ≥ 1)=true:=by simpa using h1
   by_cases h4:wh<=4
   ·have d4:decide (wh<=4)=true:=by simpa using h4
    rw[show decide (1<=wh/\wh<=4)=true from by simp[h1,h4]] at HQ;clear h7 h1 h4 hm hsr;go_wp2_with fail;exact HQ.o _ _ ⟨rfl,HF0.o⟩
   ·have d4:decide (wh<=4)=false:=by simpa using h4
    rw[show decide (1<=wh/\wh<=4)=false from by simp[h4],d7] at HQ
    by_cases h6:wh=6
    ·have d6:(wh == 6)=true:=by simpa using h6
     rw[d6] at HQ;clear h7 h1 h4 h6 hm hsr;go_wp2_with fail;exact HQ.o _ _ ⟨rfl,HF0.o⟩
    ·have d6:(wh == 6)=false:=by simpa using h6
     rw[d6] at HQ;clear h7 h1 h4 h6 hm hsr;go_wp2_with fail;exact HQ.o _ _ ⟨rfl,HF0.o⟩
  ·have d1:decide (wh ≥ 1)=false:=by simpa using h1
   have d6:(wh == 6)=false:=bF (by omega)
   rw[show decide (1<=wh/\wh<=4)=false from by simp[h1],d6,d7] at HQ;clear h7 h1 hm hsr;go_wp2_with fail;exact HQ.o _ _ ⟨rfl,HF0.o⟩
def aGt (w:World) (q:Qry) (ln:Nat) (j:Nat) (v:Value) (wr:World):Prop:=∃ k:Nat,k+j=ln/\v=.int .i64 (k:Int)/\Fr [] w wr/\(q.l.take k).all Sgm.single=true
theorem aBp {q:Qry} (h:gA w N q.cells cs) (hn:q.l.length<=1000000):RV 132 #[.agg cs.toArray] w (.bool q.singular):=by
 refine bA fun R HQ=>?_;obtain⟨A,c,rfl,hc⟩:=gD h;obtain⟨A',c',g,off,hv,hA,hrow⟩:=hc.row;injection hv with e1 e2 e3;subst e1 e3;rw[List.length_map] at hA;obtain⟨ln,hln⟩:∃ ln,q.l.length=ln:=⟨_,rfl⟩;have HLN:=lh hln;rw[hln] at hA hn ⊢;have HROW:=lh hrow;have HA:=lh hA;obtain⟨rel,hrel⟩:∃ rel,q.rel=rel:=⟨_,rfl⟩;rw[hrel];clear h hc hrow hA e2 hln hrel;have hb0:=Blk.new w 31 [.bool rel,.slice A ln c];have hf0:Fr [] w (w.alloc (.cells #[.bool rel,.slice A ln c] 31)):=(Fr.refl [] w).alloc _
 go_enter Tryz.func132,Tryz.ntmps132
 go_upto_region 1 with fail
 generalize w.alloc (.cells #[.bool rel,.slice A ln c] 31)=w0 at *;have HB0:=lh hb0;have HF0:=lh hf0;clear hb0 hf0;go_wp2_with fail
 go_loopg [3] ln (fun j v wr=>aGt w0 q ln j v wr)
 case atStart=>exact⟨0,by omega,rfl,Fr.refl _ _,rfl⟩
 case round=>
  obtain⟨wA,rfl⟩:=nm (wr);obtain⟨k,hk,rfl,hF,hall⟩:=hrel;have HF:=lh hF;have HALL:=lh hall;have hb0:=HB0.o.fr hF;have b1:=hb0.at_ (i:=1) rfl;clear hF hall hb0
  by_cases hkl:k < ln
  ·obtain⟨x,hx⟩:∃ x,q.l[k]? = some x:=gx (by rw[HLN.o];exact hkl);obtain⟨rfl,-⟩:=HA.o (by omega);obtain⟨_,es,hes,hcell⟩:=HROW.o k x.cells (by rw[List.getElem?_map,hx];rfl);obtain⟨A5,c5,rfl,hc5⟩:=sF hes;have hFo:Fr [] w wA:=HF0.o.trans HF.o
   have hl1:∀ {i:Nat} {u:Value},w.cell? ⟨g,off+2 * k+i,none⟩=some u -> wA.cell? ⟨g,off+k * 2+i,none⟩=some u:=fun {i u} hi=>by
    rw[show off+k * 2+i=off+2 * k+i by rw[Nat.mul_comm],hFo.cell (World.block_lt_of_cell? w _ hi) (by simp)];exact hi
   have x0:=hl1 (hcell 0 _ rfl);have x1:=hl1 (hcell 1 _ rfl);rw[Nat.add_zero] at x0;have hki:(k:Int) < (ln:Int):=by omega
   have hTK:q.l.take (k+1)=q.l.take k ++ [x]:=by
    obtain⟨h1,h2⟩:=List.getElem?_eq_some_iff.1 hx;rw[List.take_succ_eq_append_getElem h1,h2]
   have HIN:Hid (x ∈ q.l):=lh (List.mem_of_getElem? hx);have HTK:=lh hTK;obtain⟨A6,c6,g6,o6,hv6,hA6,hrow6⟩:=hc5.row;injection hv6 with e1 e2 e3;subst e1 e3;obtain⟨dp,l⟩:=x;simp only[Sgm.deep,Sgm.l] at *;rw[List.length_map] at hA6;obtain⟨m,hm⟩:∃ m,l.length=m:=⟨_,rfl⟩;have HM:=lh hm;rw[hm] at x1 hA6;clear hes hcell hc5 hl1 hx e2 hTK hm
   cases dp with
   | true=>
    have HNO:Hid (q.singular=false):=lh (by
     unfold Qry.singular;rw[List.all_eq_false];exact⟨_,HIN.o,by simp[Sgm.single,Sgm.deep]⟩)
    rw[HNO.o] at HQ;clear hrow6 hA6;go_wp2_with fail;exact HQ.o _ _ ⟨rfl,hFo⟩
   | false=>
    by_cases h1:m=1
    ·subst h1
     obtain⟨y,rfl⟩:∃ y,l=[y]:=by
      match l,HM.o with
      | [y],_=>exact⟨y,rfl⟩
     obtain⟨rfl,-⟩:=hA6 (by omega);obtain⟨_,ds,hds,hcell6⟩:=hrow6 0 y.cells rfl;have hyw:=aZ hds;obtain⟨yw,hyw2⟩:∃ yw,y.what=yw:=⟨_,rfl⟩;rw[hyw2] at hyw;have hc0:=hcell6 0 _ hyw;rw[show o6+10 * 0+0=o6 by omega] at hc0;have hy0:wA.cell? ⟨g6,o6,none⟩=some (.int .i64 yw):=by rw[hFo.cell (World.block_lt_of_cell? w _ hc0) (by simp)];exact hc0
     have HSG:Hid (Sgm.single (.mk false [y])=(yw == 1 || yw == 3)):=lh (by simp[Sgm.single,Sgm.deep,Sgm.l,Slr.single,hyw2]);clear hrow6 hcell6 hds hyw hyw2 hc0 hA6
     by_cases h1:yw=1
     ·have d1:(yw != 1)=false:=by simp[h1]
      have HS1:Hid (Sgm.single (.mk false [y])=true):=lh (by rw[HSG.o,h1];rfl);clear h1;go_wp2_with fail;have hwi:=wi k (by omega)
      go_wp2_with fail
      go_roundg (ln - (k+1))
      case measure=>omega
      case rel=>exact⟨k+1,by omega,by rw[show((k+1:Nat):Int)=(k:Int)+1 by omega],HF.o,by rw[HTK.o,List.all_append,HALL.o];simp[HS1.o]⟩
     ·have d1:(yw != 1)=true:=by simp[h1]
      by_cases h3:yw=3
      ·have d3:(yw != 3)=false:=by simp[h3]
       have HS1:Hid (Sgm.single (.mk false [y])=true):=lh (by rw[HSG.o,h3];rfl);clear h1 h3;go_wp2_with fail;have hwi:=wi k (by omega)
       go_wp2_with fail
       go_roundg (ln - (k+1))
       case measure=>omega
       case rel=>exact⟨k+1,by omega,by rw[show((k+1:Nat):Int)=(k:Int)+1 by omega],HF.o,by rw[HTK.o,List.all_append,HALL.o];simp[HS1.o]⟩
      ·have d3:(yw != 3)=true:=by simp[h3]
       have HNO:Hid (q.singular=false):=lh (by
        unfold Qry.singular;rw[List.all_eq_false];exact⟨_,HIN.o,by rw[HSG.o];simp[h1,h3]⟩)
       rw[HNO.o] at HQ;clear h1 h3;go_wp2_with fail;exact HQ.o _ _ ⟨rfl,hFo⟩
    ·have d1:((m:Int) != 1)=true:=by rw[bne_iff_ne];omega
     have HNO:Hid (q.singular=false):=lh (by
      unfold Qry.singular;rw[List.all_eq_false];refine⟨_,HIN.o,?_⟩;unfold Sgm.single;simp only[Sgm.deep,Sgm.l]
      match l,HM.o with
      | [x],h9=>exact absurd h9.symm h1
      | [],_=>simp
      | a :: b :: l,_=>simp)
     rw[HNO.o] at HQ;clear h1 hrow6 hA6;go_wp2_with fail;exact HQ.o _ _ ⟨rfl,hFo⟩
  ·have hki:¬ (k:Int) < (ln:Int):=by omega
   have HYES:Hid (q.singular=true):=lh (by
    have h1:=HALL.o;rw[List.take_of_length_le (by rw[HLN.o];omega)] at h1;exact h1)
   rw[HYES.o] at HQ;go_wp2_with fail;exact HQ.o _ _ ⟨rfl,HF0.o.trans HF.o⟩
theorem aBU {x:Xpr} (h:gA w N x.cells cs) (hq:x.q.l.length<=1000000) (ho:x.op.length<=1000000):RV 84 #[.agg cs.toArray] w (.bool x.value):=by
 refine bA fun R HQ=>?_;obtain⟨wh,hwh⟩:∃ wh,x.what=wh:=⟨_,rfl⟩;obtain⟨op,hop⟩:∃ op:ByteArray,op=⟨x.op.toArray⟩:=⟨_,rfl⟩;have hopb:aA op=x.op:=by rw[hop];simp[aA]
 have hw0:=eF h;have hw2:=sM h;rw[hwh] at hw0;rw[<- hop] at hw2;have hos:op.size<=maxLen:=by rw[lA hopb];unfold maxLen;omega
 have HW0:=lh hw0;have HW2:=lh hw2;have HOPB:=lh hopb;have HOS:=lh hos;have HH:=lh h;have HWH:=lh hwh;clear h hw0 hw2 hopb hos hop hwh
 have HE:Hid (x.value=(wh == 5 || (wh == 6 && x.q.singular) || (wh == 7 && (op.toList == sH || op.toList == nG || op.toList == oG)))):=lh (by
  unfold Xpr.value;rw[HWH.o,<- HOPB.o,gJ,gJ,gJ,<- aBo,Bool.and_assoc])
 go_enter Tryz.func84,Tryz.ntmps84
 go_wp2_with (with_reducible refine dB rfl 117 (.tmp 0) rfl cs rfl ?_)
 intro w0 hb0 hf0 hz0;have c0:=hb0.at_ HW0.o;have c2:=hb0.at_ HW2.o;obtain⟨A,cq,hc3,hc4,hrq⟩:=mJ HH.o;have c3:=hb0.at_ hc3;have c4:=hb0.at_ hc4;have HF0:=lh hf0;have HSG:=lh (aBp (hrq.fr hf0) hq);have hlt:=hb0.lt;clear hb0 hf0 hz0 hc3 hc4 hrq;rw[HE.o] at HQ;obtain⟨sg,hsg⟩:∃ sg,x.q.singular=sg:=⟨_,rfl⟩;obtain⟨ql,hql⟩:∃ ql,x.q.l.length=ql:=⟨_,rfl⟩;rw[hsg] at HQ HSG;rw[hql] at HSG c4;obtain⟨a1,ha1⟩:∃ m,(op.toList == [108,101,110,103,116,104])=m:=⟨_,rfl⟩;obtain⟨a2,ha2⟩:∃ m,(op.toList == [99,111,117,110,116])=m:=⟨_,rfl⟩;obtain⟨a3,ha3⟩:∃ m,(op.toList == [118,97,108,117,101])=m:=⟨_,rfl⟩;rw[show(op.toList == sH)=a1 from ha1,show(op.toList == nG)=a2 from ha2,show(op.toList == oG)=a3 from ha3] at HQ;clear hsg hql hq HE
 by_cases h7:wh=7
 ·subst h7;rw[show((7:Int) == 5 || ((7:Int) == 6 && sg) || ((7:Int) == 7 && (a1 || a2 || a3)))=(a1 || a2 || a3) from by simp] at HQ
  cases a1 with
  | true=>go_wp2_with fail;exact HQ.o _ _ ⟨rfl,HF0.o⟩
  | false=>
   cases a2 with
   | true=>go_wp2_with fail;exact HQ.o _ _ ⟨rfl,HF0.o⟩
   | false=>cases a3 <;> (go_wp2_with fail;exact HQ.o _ _ ⟨rfl,HF0.o⟩)
 ·have d7:(wh == 7)=false:=by simpa using h7
  clear ha1 ha2 ha3
  by_cases h5:wh=5
  ·have d5:(wh == 5)=true:=by simpa using h5
   rw[d5] at HQ;clear h5 h7;go_wp2_with fail;exact HQ.o _ _ ⟨by simp,HF0.o⟩
  ·have d5:(wh == 5)=false:=by simpa using h5
   by_cases h6:wh=6
   ·have d6:(wh == 6)=true:=by simpa using h6
    rw[d5,d6,d7] at HQ;clear h5 h6 h7;go_wp2_with fail;refine HSG.o.mono ?_;rintro e w3 ⟨rfl,hf3⟩;have HF3:=lh (HF0.o.trans hf3);have j0:=dA hf3 c0;clear hf3 c0
    cases sg <;> (go_wp2_with fail;exact HQ.o _ _ ⟨rfl,HF3.o⟩)
   ·have d6:(wh == 6)=false:=by simpa using h6
    rw[d5,d6,d7] at HQ;clear h5 h6 h7;go_wp2_with fail;exact HQ.o _ _ ⟨rfl,HF0.o⟩
end
def TX16 (x:Xpr):Prop:=∀ (w:World) (N:Nat -> Prop) (cs:List Value),gA w N x.cells cs -> RV 53 #[.agg cs.toArray] w (.bool x.typed)
def TQ16 (q:Qry):Prop:=∀ (w:World) (N:Nat -> Prop) (cs:List Value),gA w N q.cells cs -> RV 26 #[.agg cs.toArray] w (.bool q.typed)
def tyB (e:Xpr):Bool:=e.typed && e.truth
theorem aBV {q:Qry} {x:Sgm} {y:Slr} {e:Xpr} (h1:x ∈ q.l) (h2:y ∈ x.l) (h3:e ∈ y.f):e ∈ q.fil:=by
 unfold Qry.fil gB oB;exact List.mem_flatMap.2 ⟨x,h1,List.mem_flatMap.2 ⟨y,h2,h3⟩⟩
def pX (w:World) (ln:Nat) (P:Nat -> Bool) (j:Nat) (v:Value) (wr:World):Prop:=∃ k:Nat,k+j=ln/\v=.int .i64 (k:Int)/\Fr [] w wr/\P k=true
theorem aEU {w:World} {N:Nat -> Prop} {cs:List Value} {q:Qry} (h:gA w N q.cells cs) (hw:q.wt<=1000000) (hE:∀ e ∈ q.fil,TX16 e/\e.op.length<=1000000):RV 26 #[.agg cs.toArray] w (.bool q.typed):=by
 refine bA fun R HQ=>?_;obtain⟨A,c,rfl,hc⟩:=gD h;obtain⟨A',c',g,off,hv,hA,hrow⟩:=hc.row;injection hv with e1 e2 e3;subst e1 e3;rw[List.length_map] at hA;have hll:=q.fil_wt;obtain⟨ln,hln⟩:∃ ln,q.l.length=ln:=⟨_,rfl⟩;have hlb:ln<=1000000:=by omega
 have HLN:=lh hln;have HWT:=lh hw;rw[hln] at hA ⊢;have HROW:=lh hrow;have HA:=lh hA;have HEE:=lh hE;obtain⟨rel,hrel⟩:∃ rel,q.rel=rel:=⟨_,rfl⟩;rw[hrel];clear h hc hrow hA e2 hln hrel hE hll hw;have hb0:=Blk.new w 31 [.bool rel,.slice A ln c];have hf0:Fr [] w (w.alloc (.cells #[.bool rel,.slice A ln c] 31)):=(Fr.refl [] w).alloc _
 go_enter Tryz.func26,Tryz.ntmps26
 go_upto_region 1 with fail
 generalize w.alloc (.cells #[.bool rel,.slice A ln c] 31)=w0 at *;have HB0:=lh hb0;have HF0:=lh hf0;clear hb0 hf0;go_wp2_with fail
 go_loopg [3] ln (fun j v wr=>pX w0 ln (fun k=>(gB (q.l.take k)).all tyB) j v wr)
 case atStart=>exact⟨0,by omega,rfl,Fr.refl _ _,rfl⟩
 case round=>
  obtain⟨wA,rfl⟩:=nm (wr);obtain⟨k,hk,rfl,hF,hall⟩:=hrel;have HFW:=lh hF;have HALL:=lh hall;clear hF hall;have b1:=(HB0.o.fr HFW.o).at_ (i:=1) rfl
  by_cases hkl:k < ln
  ·have hki:(k:Int) < (ln:Int):=by omega
   obtain⟨x,hx⟩:∃ x,q.l[k]? = some x:=gx (by rw[HLN.o];exact hkl);obtain⟨rfl,-⟩:=HA.o (by omega);obtain⟨_,es,hes,hcell⟩:=HROW.o k x.cells (by rw[List.getElem?_map,hx];rfl);obtain⟨A5,c5,rfl,hc5⟩:=sF hes;obtain⟨A6,c6,g6,o6,hv6,hA6,hrow6⟩:=hc5.row;injection hv6 with e1 e2 e3;subst e1 e3;rw[List.length_map] at hA6;obtain⟨m,hm⟩:∃ m,x.l.length=m:=⟨_,rfl⟩;have hxc:w.cell? ⟨g,off+2 * k+1,none⟩=some (.slice A5 m c5):=by rw[<- hm];exact hcell 1 _ rfl
   have HXC:=lh hxc;have HM:=lh hm;have HX:=lh hx;rw[hm] at hA6;have HA6:=lh hA6;have HROW6:=lh hrow6;clear hx hes hcell hc5 e2 hm hA6 hrow6 hxc;go_wp2_with fail;clear b1
   go_loopg [4] m (fun j v wr=>pX w0 m (fun i=>(gB (q.l.take k) ++ oB (x.l.take i)).all tyB) j v wr)
   case atStart=>exact⟨0,by omega,rfl,HFW.o,by show(gB (q.l.take k) ++ oB (x.l.take 0)).all tyB=true;rw[List.take_zero];simpa[oB] using HALL.o⟩
   case round=>
    obtain⟨wB,rfl⟩:=nm (wr);obtain⟨i,hi,rfl,hF,hall⟩:=hrel;clear HFW HALL;have HFW:=lh hF;have HALL:=lh hall;clear hF hall;have b1:=(HB0.o.fr HFW.o).at_ (i:=1) rfl
    have x1:wB.cell? ⟨g,off+k * 2+1,none⟩=some (.slice A5 m c5):=by
     rw[show off+k * 2+1=off+2 * k+1 by omega];exact dA (HF0.o.trans HFW.o) HXC.o
    by_cases him:i < m
    ·have hii:(i:Int) < (m:Int):=by omega
     obtain⟨y,hy⟩:∃ y,x.l[i]? = some y:=gx (by rw[HM.o];exact him);obtain⟨rfl,-⟩:=HA6.o (by omega);obtain⟨_,ds,hds,hcell6⟩:=HROW6.o i y.cells (by rw[List.getElem?_map,hy];rfl);obtain⟨A7,c7,hd9,hc7⟩:=aDX hds;obtain⟨A8,c8,g7,o7,hv7,hA7,hrow7⟩:=hc7.row;injection hv7 with e1 e2 e3;subst e1 e3;rw[List.length_map] at hA7;obtain⟨fn,hfn⟩:∃ fn,y.f.length=fn:=⟨_,rfl⟩;have hyc:w.cell? ⟨g6,o6+10 * i+9,none⟩=some (.slice A7 fn c7):=by rw[<- hfn];exact hcell6 9 _ hd9
     have HYC:=lh hyc;have HFN:=lh hfn;have HYY:=lh hy;rw[hfn] at hA7;have HA7:=lh hA7;have HROW7:=lh hrow7;clear hy hds hcell6 hd9 hc7 e2 hfn hA7 hrow7 hyc;go_wp2_with fail;clear b1 x1
     go_loopg [5] fn (fun j v wr=>pX w0 fn (fun t=>(gB (q.l.take k) ++ oB (x.l.take i) ++ y.f.take t).all tyB) j v wr)
     case atStart=>exact⟨0,by omega,rfl,HFW.o,by show(gB (q.l.take k) ++ oB (x.l.take i) ++ y.f.take 0).all tyB=true;rw[List.take_zero,List.append_nil];exact HALL.o⟩
     case round=>
      obtain⟨wC,rfl⟩:=nm (wr);obtain⟨t,ht,rfl,hF,hall⟩:=hrel;clear HFW HALL;have HFW:=lh hF;have HALL:=lh hall;clear hF hall;have b1:=(HB0.o.fr HFW.o).at_ (i:=1) rfl
      have x1:wC.cell? ⟨g,off+k * 2+1,none⟩=some (.slice (some ⟨g6,o6,none⟩) m c5):=by
       rw[show off+k * 2+1=off+2 * k+1 by omega];exact dA (HF0.o.trans HFW.o) HXC.o
      have y9:wC.cell? ⟨g6,o6+i * 10+9,none⟩=some (.slice A7 fn c7):=by
       rw[show o6+i * 10+9=o6+10 * i+9 by omega];exact dA (HF0.o.trans HFW.o) HYC.o
      by_cases htf:t < fn
      ·have hti:(t:Int) < (fn:Int):=by omega
       obtain⟨e0,he0⟩:∃ e0,y.f[t]? = some e0:=gx (by rw[HFN.o];exact htf);obtain⟨rfl,-⟩:=HA7.o (by omega);obtain⟨_,fs,hfs,hcell7⟩:=HROW7.o t e0.cells (by rw[List.getElem?_map,he0];rfl);have hfl:fs.length=13:=hfs.1.trans (kA e0);have hFo:=HF0.o.trans HFW.o;have hra:wC.rangeAt g7 (o7+t * 13) fs:=fun j u hj=>by rw[show o7+t * 13+j=o7+13 * t+j by omega];exact dA hFo (hcell7 j u hj)
       have hmem:e0 ∈ q.fil:=aBV (List.mem_of_getElem? HX.o) (List.mem_of_getElem? HYY.o) (List.mem_of_getElem? he0);obtain⟨hx1,hx2⟩:=HEE.o e0 hmem;have hc1:(Tryz.prog.info? 117).map (·.size)=some fs.length:=by rw[hfl];exact tB
       have hc2:zx.length=fs.length:=by rw[hfl];rfl
       have HRA:=lh hra;have HC1:=lh hc1;have HC2:=lh hc2;have HO:=lh hfs.one;have HRW:=lh (hfs.fr hFo);have HE0:=lh he0;have HMEM:=lh hmem;have HX1:=lh hx1;have HX2:=lh hx2
       have htake:y.f.take (t+1)=y.f.take t ++ [e0]:=by
        obtain⟨h1,h2⟩:=List.getElem?_eq_some_iff.1 he0;rw[List.take_succ_eq_append_getElem h1,h2]
       have HTK:=lh htake;clear hfs hcell7 hfl hra hc1 hc2 hFo he0 hmem hx1 hx2 htake
       go_wp2_with (first
        | (with_reducible refine wpList_load_mid rfl 117 (.tmp 51) rfl g7 (o7+t * 13) rfl fs _ HRA.o Tryz.underlying117 rfl HC1.o ?_)
        | (with_reducible refine zC rfl rfl 117 (.tmp 52) rfl rfl rfl rfl (.agg zx.toArray) zx wH sE fs rfl rfl HC1.o HC2.o HO.o ?_))
       intro w3 hy3 hf3 hz3;have HY3:=lh hy3;have HF3:=lh hf3;have HT:=lh (HX1.o w3 N fs (HRW.o.fr hf3));clear hy3 hf3 hz3 b1 x1 y9
       go_wp2_with (with_reducible refine uA rfl 117 (.tmp 6) rfl rfl HY3.o Tryz.underlying117 rfl HC1.o ?_)
       refine HT.o.mono ?_;rintro e w4 ⟨rfl,hf4⟩;obtain⟨ty,hty⟩:∃ ty,e0.typed=ty:=⟨_,rfl⟩;rw[hty];have HTY:=lh hty;have HF4:=lh hf4;clear hty hf4 HT
       cases ty with
       | false=>
        have HNO:Hid (q.typed=false):=lh (by
         rw[Qry.typed_all,List.all_eq_false];exact⟨e0,HMEM.o,by rw[HTY.o];simp⟩)
        rw[HNO.o] at HQ;go_wp2_with fail;exact HQ.o _ _ ⟨rfl,((HF0.o.trans HFW.o).trans HF3.o).trans HF4.o⟩
       | true=>
        have hra4:w4.rangeAt w3.heap.size 0 []:=fun j u hj=>by simp at hj
        clear hra4;have hy4:=HY3.o.fr HF4.o;have hr4:∀ {gg:Nat},Blk w4 gg 117 fs -> w4.rangeAt gg 0 fs:=fun hb j u hj=>by rw[Nat.zero_add];exact hb.at_ hj
        have HR4:=lh (hr4 hy4);have HTR:=lh (aBT ((HRW.o.fr HF3.o).fr HF4.o) HX2.o);clear hy4 hr4
        go_wp2_with (refine eJ (by kernel_rfl) 117 (.tmp 6) rfl _ 0 rfl fs _ HR4.o Tryz.underlying117 rfl HC1.o ?_)
        refine HTR.o.mono ?_;rintro e w5 ⟨rfl,hf5⟩;obtain⟨tr,htr⟩:∃ tr,e0.truth=tr:=⟨_,rfl⟩;rw[htr];have HTT:=lh htr;have HF5:=lh ((((HFW.o.trans HF3.o).trans HF4.o).trans hf5));clear htr hf5 HTR
        cases tr with
        | false=>
         have HNO:Hid (q.typed=false):=lh (by
          rw[Qry.typed_all,List.all_eq_false];exact⟨e0,HMEM.o,by rw[HTT.o];simp⟩)
         rw[HNO.o] at HQ;go_wp2_with fail;exact HQ.o _ _ ⟨rfl,HF0.o.trans HF5.o⟩
        | true=>
         have hfb:fn<=1000000:=by
          have h1:=HWT.o;have h2:=q.fil_wt;have h3:=lE (List.mem_of_getElem? HX.o);have h4:=tJ (List.mem_of_getElem? HYY.o);have h5:=q.wt_eq;have h6:=x.wt_eq;have h7:=y.wt_eq;have h8:=bE y.f;have h9:=HFN.o;omega
         have hwi:=wi t (by omega)
         go_wp2_with fail
         go_roundg (fn - (t+1))
         case measure=>omega
         case rel=>exact⟨t+1,by omega,by rw[show((t+1:Nat):Int)=(t:Int)+1 by omega],HF5.o,by
          show(gB (q.l.take k) ++ oB (x.l.take i) ++ y.f.take (t+1)).all tyB=true
          rw[HTK.o,<- List.append_assoc,List.all_append,HALL.o]
          simp[tyB,HTY.o,HTT.o]⟩
      ·have hti:¬ (t:Int) < (fn:Int):=by omega
       have hmb:m<=1000000:=by
        have h1:=HWT.o;have h3:=lE (List.mem_of_getElem? HX.o);have h5:=q.wt_eq;have h6:=x.wt_eq;have h8:=gH x.l;have h9:=HM.o;omega
       have hwi:=wi i (by omega)
       go_wp2_with fail
       go_roundg (m - (i+1))
       case measure=>omega
       case rel=>exact⟨i+1,by omega,by rw[show((i+1:Nat):Int)=(i:Int)+1 by omega],HFW.o,by
        have h1:(gB (q.l.take k) ++ oB (x.l.take i) ++ y.f.take t).all tyB=true:=HALL.o;rw[show y.f.take t=y.f from List.take_of_length_le (by rw[HFN.o];omega),List.append_assoc,<- gQ HYY.o] at h1;exact h1⟩
    ·have hii:¬ (i:Int) < (m:Int):=by omega
     have hwi:=wi k (by omega)
     go_wp2_with fail
     go_roundg (ln - (k+1))
     case measure=>omega
     case rel=>exact⟨k+1,by omega,by rw[show((k+1:Nat):Int)=(k:Int)+1 by omega],HFW.o,by
      have h1:(gB (q.l.take k) ++ oB (x.l.take i)).all tyB=true:=HALL.o;rw[show x.l.take i=x.l from List.take_of_length_le (by rw[HM.o];omega),<- fQ HX.o] at h1;exact h1⟩
  ·have hki:¬ (k:Int) < (ln:Int):=by omega
   have HYES:Hid (q.typed=true):=lh (by
    have h1:(gB (q.l.take k)).all tyB=true:=HALL.o;rw[List.take_of_length_le (by rw[HLN.o];omega)] at h1;rw[Qry.typed_all];exact h1)
   rw[HYES.o] at HQ;go_wp2_with fail;exact HQ.o _ _ ⟨rfl,HF0.o.trans HFW.o⟩
end
end Go.Proofs.YtbggkiebfflcdaaGreatDoor
