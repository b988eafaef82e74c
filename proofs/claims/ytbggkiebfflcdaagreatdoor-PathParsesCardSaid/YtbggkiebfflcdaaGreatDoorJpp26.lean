/-
  Joined by join.py: My
-/
import Derived.Test.YtbggkiebfflcdaaGreatDoorJpp25
set_option maxRecDepth 100000
set_option maxHeartbeats 32000000
namespace Go.Proofs.YtbggkiebfflcdaaGreatDoor
section
open Go.RowKit Go.Shelf
section
variable {txt : List UInt8} {E S : Int -> Rd Xpr} {d : Int} {q : QS}
theorem aCS {x:List UInt8} (h:q.next x=true):∃ t l,q.l=t :: l/\t.kind=4/\t.s=x:=by
 unfold QS.next QS.peek at h
 cases hl:q.l with
 | nil=>rw[hl] at h;cases h
 | cons t l=>
  rw[hl] at h;simp only[Bool.and_eq_true,beq_iff_eq] at h;exact⟨t,l,rfl,h.1,h.2⟩
theorem aEN {x:List UInt8} (h:q.next x=true) (hx:x=[36] ∨ x=[64]):qA txt E S d q=(pD txt E d (decide (x=[64])) q.go).map fun r=>(.path r.1,r.2):=by
 obtain⟨t,l,hl,hk,hs⟩:=aCS h;unfold qA;rw[hl]
 dsimp only
 rw[if_neg (by omega),if_neg (by omega),if_neg (by omega),hs,if_pos hx]
 cases pD txt E d (decide (x=[64])) q.go <;> rfl
theorem gP {t:Tkn} {k:Nat} (h:q.peek=t) (hk:t.kind=k) (h0:k ≠ 0):∃ l,q.l=t :: l:=by
 unfold QS.peek at h
 cases hl:q.l with
 | nil=>rw[hl] at h;subst h;exact absurd hk.symm h0
 | cons u l=>rw[hl] at h;subst h;exact⟨l,rfl⟩
theorem aHt {t:Tkn} (h:q.peek=t) (hk:t.kind=3):qA txt E S d q=some (.lit { Vlu.null with kind:=2,n:=t.n },q.go):=by
 obtain⟨l,hl⟩:=gP h hk (by decide);unfold qA;rw[hl]
 dsimp only
 rw[if_pos hk]
theorem aHu {t:Tkn} (h:q.peek=t) (hk:t.kind=2):qA txt E S d q=some (.lit { Vlu.null with kind:=3,s:=t.s },q.go):=by
 obtain⟨l,hl⟩:=gP h hk (by decide);unfold qA;rw[hl]
 dsimp only
 rw[if_neg (by omega),if_pos hk]
theorem aHv {t:Tkn} (h:q.peek=t) (hk:t.kind=1):qA txt E S d q=wE S d t.s q.go:=by
 obtain⟨l,hl⟩:=gP h hk (by decide);unfold qA;rw[hl]
 dsimp only
 rw[if_neg (by omega),if_neg (by omega),if_pos hk]
theorem aHw {t:Tkn} (h:q.peek=t) (h1:t.kind ≠ 1) (h2:t.kind ≠ 2) (h3:t.kind ≠ 3) (hok:∀ u ∈ q.l,1<=u.kind/\u.kind<=4) (ha:q.next [36]=false) (hb:q.next [64]=false):qA txt E S d q=none:=by
 unfold qA
 cases hl:q.l with
 | nil=>rfl
 | cons u l=>
  have hu:u=t:=by unfold QS.peek at h;rw[hl] at h;exact h
  have hk:=hok u (by rw[hl];simp)
  dsimp only
  rw[hu] at hk ⊢;rw[if_neg h3,if_neg h2,if_neg h1,if_neg];have hk4:t.kind=4:=by omega
  unfold QS.next at ha hb;rw[h,hk4] at ha hb;rintro(h5 | h5)
  ·rw[h5] at ha;cases ha
  ·rw[h5] at hb;cases hb
theorem aCT {x:List UInt8} (hx:x ∈ pJ) (hn:q.next [40]=true):wE S d x q=iK S d x ⟨q.go.l,max q.most (d+1)⟩:=by
 have hne:∀ y ∈ pJ,y ≠ iM/\y ≠ cM/\y ≠ oJ:=by decide
 obtain⟨h1,h2,h3⟩:=hne x hx;unfold wE iK;rw[if_neg h1,if_neg (by rintro(h | h) <;> contradiction),if_pos ⟨hx,hn⟩]
 dsimp only
 split
 ·rfl
 ·cases eC [44] (S (d+1)) ⟨q.go.l,max q.most (d+1)⟩ <;> rfl
end
theorem jW {w w4 w5 w9:World} {y:Qry} {b:Bool} {A:Option Addr} {n c:Nat} (h:cF Qry.cells w4 w5 y (.agg #[.bool b,.slice A n c])) (hf:Fr [w.heap.size] w5 w9) (hz:w.heap.size < w4.heap.size):cF Xpr.cells w w9 (.path y) (.agg #[.int .i64 6,.slice none 0 0,.string { data:=#[] },.bool b,.slice A n c,.int .i64 0,.bool false,.bool false,.string { data:=#[] },.int .i64 0,.string { data:=#[] },.slice none 0 0,.slice none 0 0]):=
 ⟨_,rfl,((sN (bK h)).fr hf (fun g hg=>by
  have h2:w4.heap.size<=g:=hg
  simp
  omega)).mono (fun g hg=>by
  have h2:w4.heap.size<=g:=hg;omega)⟩
theorem nX {s:DS} {TS:List Tkn} {t:Tkn} (h:(s.q TS).peek=t) (hk:t.kind ≠ 0):s.k+1<=TS.length:=by
 unfold DS.q QS.peek at h
 simp only at h
 cases hd:TS.drop s.k with
 | nil=>rw[hd] at h;subst h;exact absurd rfl hk
 | cons u l=>
  have:=congrArg List.length hd;rw[List.length_drop,List.length_cons] at this;omega
theorem aHx (s:DS) (TS:List Tkn):s.go.go.down.q TS=⟨(s.q TS).go.go.l,max (s.q TS).go.most (s.d+1)⟩:=by
 unfold DS.q DS.go DS.down QS.go
 simp
section
variable {w w' : World} {r gl n : Nat} {txt : ByteArray} {TS : List Tkn} {s s' : DS} {E S : Int -> Rd Xpr}
theorem aEO (hE:oQ 128 txt E n) (hEo:∀ d,(E d).on) (hS:oQ 202 txt S n) (hSo:∀ d,(S d).on) (h:DAt w r gl txt TS s) (hb:s.bad=false) (hk:s.k<=TS.length) (hn:(s.q TS).l.length<=n) (hd:s.d+(s.q TS).l.length<=80000):Calls Tryz.prog 202 #[.pointer (some ⟨r,0,none⟩)] w (mR (cF Xpr.cells w) w r gl txt TS s (qA (aA txt) E S s.d (s.q TS))):=by
 refine bA fun R HQ=>?_;have hrlt:=h.lt;have hlen:=h.len;have htoks:=h.toks;have HH:=lh h;have HEK:=lh hE;have HEO:=lh hEo;have HSK:=lh hS;have HSO:=lh hSo;have HBD:=lh hb;rw[bC] at hn hd
 have HOK:Hid (∀ u ∈ (s.q TS).l,1<=u.kind/\u.kind<=4):=lh (fun u hu=>by
  have h1:=htoks u ((List.drop_sublist s.k TS).subset hu);exact⟨h1.2.2.1,h1.2.2.2.1⟩)
 clear h hE hEo hS hSo hb htoks
 go_enter Tryz.func202,Tryz.ntmps202
 go_wp2_with (with_reducible refine vD rfl 117 rfl (.agg zx.toArray) zx wH sE ?_)
 intro w0 hb0 hf0 hz0;have HZ:=lh hb0;have HF:Hid (Fr [r] w w0):=lh (hf0.mono (by simp));have HD:=lh (HH.o.fr hf0);have HZS:=lh hz0;clear hb0 hf0 hz0;obtain⟨sv,dv,hsv,hdv,hv⟩:=sC (s.q TS).peek;have HP:=lh (lR HD.o);rw[hv] at HP;obtain⟨t,ht⟩:∃ t,(s.q TS).peek=t:=⟨_,rfl⟩;rw[ht] at HP hsv hdv;have HPK:=lh ht;have HSV:=lh hsv;have HDV:=lh hdv;obtain⟨k,hkk⟩:∃ k,t.kind=k:=⟨_,rfl⟩;rw[hkk] at HP;have HKK:=lh hkk;obtain⟨tneg,htneg⟩:∃ b,t.n.neg=b:=⟨_,rfl⟩;obtain⟨tex,htex⟩:∃ b,t.n.exp=b:=⟨_,rfl⟩;rw[htneg,htex] at HP;have HNG:=lh htneg;have HXP:=lh htex;clear hv hsv hdv ht hkk htneg htex;go_wp2_with fail;refine HP.o.mono ?_;rintro e w1 ⟨rfl,hf1⟩;go_upto_region 2 with fail
 have hT1:=Blk.new w1 112 [.int .i64 (k:Int),.string sv,.bool tneg,.string dv,.int .i64 tex,.int .i64 (t.frm:Int),.int .i64 (t.til:Int)];have hf2:=hf1.alloc (.cells #[.int .i64 (k:Int),.string sv,.bool tneg,.string dv,.int .i64 tex,.int .i64 (t.frm:Int),.int .i64 (t.til:Int)] 112);have hz1:=hf1.size;generalize w1.alloc (.cells #[.int .i64 (k:Int),.string sv,.bool tneg,.string dv,.int .i64 tex,.int .i64 (t.frm:Int),.int .i64 (t.til:Int)] 112)=w2 at *;have htb:w.heap.size < w1.heap.size:=by have:=HZS.o;omega
 generalize w1.heap.size=tb at *
 replace HD:=lh (HD.o.fr hf2);replace HF:=lh (HF.o.trans hf2);have HT:=lh hT1;replace HZ:=lh (HZ.o.fr hf2)
 clear hf1 hf2 hT1 HP hz1;have HI:=lh (qK HD.o ⟨#[36]⟩);rw[show aA ⟨#[36]⟩=[36] from rfl] at HI
 cases hn1:s.nx TS [36] with
 | true=>
  have HE:=lh (aEN (txt:=aA txt) (E:=E) (S:=S) (d:=s.d) (q:=s.q TS) hn1 (.inl rfl));rw[<- DS.q_go,show decide (([36]:List UInt8)=[64])=false from rfl] at HE;have hk2:s.k+1<=TS.length:=aG hn1;rw[hn1,if_pos rfl] at HI;clear hn1;go_wp2_with fail;refine HI.o.mono ?_;rintro e w4 ⟨rfl,hd4,hf4⟩;clear HI
  replace HF:=lh (HF.o.trans hf4 (fun x hx=>.inl hx))
  replace HZ:=lh (HZ.o.fr hf4 (by simp;omega))
  replace HT:=lh (HT.o.fr hf4 (by simp;omega))
  replace HD:=lh hd4
  clear hf4 hd4;have HC:=lh (kX HEK.o HEO.o HD.o HBD.o hk2 (by rw[bC];show TS.length - (s.k+1)<=n;omega) (by rw[bC];show s.d+((TS.length - (s.k+1):Nat):Int)<=80000;omega) false);rw[show s.go.d=s.d from rfl] at HC;have hzc:=HF.o.size;have hzl:=HZ.o.lt;go_wp2_with fail;refine HC.o.mono ?_;rintro e w5 ⟨v5,s5,rfl,hd5,hp5,hf5,hm5⟩;obtain⟨y0,cs,rfl,hcs0⟩:=kG hm5;obtain⟨Aq,cq,rfl,-⟩:=gD hcs0;obtain⟨nq,hnq⟩:∃ nq,y0.l.length=nq:=⟨_,rfl⟩;obtain⟨rq,hrq⟩:∃ rq,y0.rel=rq:=⟨_,rfl⟩;rw[hnq,hrq] at hm5 hcs0 ⊢;have HRW0:=lh (sN hcs0);have HM:=lh hm5;have HP5:Hid (s5.d=s.d):=lh hp5;clear hnq hrq hcs0 hm5 hp5 HC
  replace HF:=lh (HF.o.trans hf5 (fun x hx=>.inl hx))
  replace HZ:=lh (HZ.o.fr hf5 (by simp;omega))
  replace HT:=lh (HT.o.fr hf5 (by simp;omega))
  replace HD:=lh hd5
  clear hf5 hd5;have HPC1:Hid ((Tryz.prog.info? 117).map (·.size)=some ([.int .i64 6,.slice none 0 0,.string { data:=#[] },.bool rq,.slice Aq nq cq,.int .i64 0,.bool false,.bool false,.string { data:=#[] },.int .i64 0,.string { data:=#[] },.slice none 0 0,.slice none 0 0]:List Value).length):=lh tB;have HPC2:Hid (zx.length=([.int .i64 6,.slice none 0 0,.string { data:=#[] },.bool rq,.slice Aq nq cq,.int .i64 0,.bool false,.bool false,.string { data:=#[] },.int .i64 0,.string { data:=#[] },.slice none 0 0,.slice none 0 0]:List Value).length):=lh rfl;have HPO:Hid (∀ u ∈ ([.int .i64 6,.slice none 0 0,.string { data:=#[] },.bool rq,.slice Aq nq cq,.int .i64 0,.bool false,.bool false,.string { data:=#[] },.int .i64 0,.string { data:=#[] },.slice none 0 0,.slice none 0 0]:List Value),u.oneCell'=true):=lh HRW0.o.one
  go_wp2_with (with_reducible refine iA rfl 117 (.tmp 2) (.tmp 10) rfl [.int .i64 6,.slice none 0 0,.string { data:=#[] },.bool rq,.slice Aq nq cq,.int .i64 0,.bool false,.bool false,.string { data:=#[] },.int .i64 0,.string { data:=#[] },.slice none 0 0,.slice none 0 0] rfl rfl HZ.o HPC1.o HPC2.o HPO.o ?_)
  intro w9 hb9 hf9 hz9;have HB9:=lh hb9;have HF9:=lh hf9;clear hb9 hf9 hz9;go_wp2_with fail;exact zD rfl rfl HB9.o rfl (HQ.o _ _ ⟨_,_,rfl,HD.o.fr HF9.o (by simp;omega),HP5.o,HF.o.trans HF9.o (fun x hx=>.inr (by simp at hx;omega)),tE (f:=Xpr.path) HM.o HE.o (fun y hy=>jW hy HF9.o (by omega)) rfl rfl rfl⟩)
 | false=>
  rw[hn1,if_neg (by simp)] at HI;have HN1:Hid ((s.q TS).next [36]=false):=lh hn1;clear hn1;go_wp2_with fail;refine HI.o.mono ?_;rintro e w3 ⟨rfl,hd3,hf3⟩;clear HI
  replace HF:=lh (HF.o.trans hf3 (fun x hx=>.inl hx))
  replace HZ:=lh (HZ.o.fr hf3 (by simp;omega))
  replace HT:=lh (HT.o.fr hf3 (by simp;omega))
  replace HD:=lh hd3
  clear hf3 hd3;have HI:=lh (qK HD.o ⟨#[64]⟩);rw[show aA ⟨#[64]⟩=[64] from rfl] at HI
  cases hn2:s.nx TS [64] with
  | true=>
   have HE:=lh (aEN (txt:=aA txt) (E:=E) (S:=S) (d:=s.d) (q:=s.q TS) hn2 (.inr rfl));rw[<- DS.q_go,show decide (([64]:List UInt8)=[64])=true from rfl] at HE;have hk2:s.k+1<=TS.length:=aG hn2;rw[hn2,if_pos rfl] at HI;clear hn2;go_wp2_with fail;refine HI.o.mono ?_;rintro e w4 ⟨rfl,hd4,hf4⟩;clear HI
   replace HF:=lh (HF.o.trans hf4 (fun x hx=>.inl hx))
   replace HZ:=lh (HZ.o.fr hf4 (by simp;omega))
   replace HT:=lh (HT.o.fr hf4 (by simp;omega))
   replace HD:=lh hd4
   clear hf4 hd4;have HC:=lh (kX HEK.o HEO.o HD.o HBD.o hk2 (by rw[bC];show TS.length - (s.k+1)<=n;omega) (by rw[bC];show s.d+((TS.length - (s.k+1):Nat):Int)<=80000;omega) true);rw[show s.go.d=s.d from rfl] at HC;have hzc:=HF.o.size;have hzl:=HZ.o.lt;go_wp2_with fail;refine HC.o.mono ?_;rintro e w5 ⟨v5,s5,rfl,hd5,hp5,hf5,hm5⟩;obtain⟨y0,cs,rfl,hcs0⟩:=kG hm5;obtain⟨Aq,cq,rfl,-⟩:=gD hcs0;obtain⟨nq,hnq⟩:∃ nq,y0.l.length=nq:=⟨_,rfl⟩;obtain⟨rq,hrq⟩:∃ rq,y0.rel=rq:=⟨_,rfl⟩;rw[hnq,hrq] at hm5 hcs0 ⊢;have HRW0:=lh (sN hcs0);have HM:=lh hm5;have HP5:Hid (s5.d=s.d):=lh hp5;clear hnq hrq hcs0 hm5 hp5 HC
   replace HF:=lh (HF.o.trans hf5 (fun x hx=>.inl hx))
   replace HZ:=lh (HZ.o.fr hf5 (by simp;omega))
   replace HT:=lh (HT.o.fr hf5 (by simp;omega))
   replace HD:=lh hd5
   clear hf5 hd5;have HPC1:Hid ((Tryz.prog.info? 117).map (·.size)=some ([.int .i64 6,.slice none 0 0,.string { data:=#[] },.bool rq,.slice Aq nq cq,.int .i64 0,.bool false,.bool false,.string { data:=#[] },.int .i64 0,.string { data:=#[] },.slice none 0 0,.slice none 0 0]:List Value).length):=lh tB;have HPC2:Hid (zx.length=([.int .i64 6,.slice none 0 0,.string { data:=#[] },.bool rq,.slice Aq nq cq,.int .i64 0,.bool false,.bool false,.string { data:=#[] },.int .i64 0,.string { data:=#[] },.slice none 0 0,.slice none 0 0]:List Value).length):=lh rfl;have HPO:Hid (∀ u ∈ ([.int .i64 6,.slice none 0 0,.string { data:=#[] },.bool rq,.slice Aq nq cq,.int .i64 0,.bool false,.bool false,.string { data:=#[] },.int .i64 0,.string { data:=#[] },.slice none 0 0,.slice none 0 0]:List Value),u.oneCell'=true):=lh HRW0.o.one
   go_wp2_with (with_reducible refine iA rfl 117 (.tmp 2) (.tmp 15) rfl [.int .i64 6,.slice none 0 0,.string { data:=#[] },.bool rq,.slice Aq nq cq,.int .i64 0,.bool false,.bool false,.string { data:=#[] },.int .i64 0,.string { data:=#[] },.slice none 0 0,.slice none 0 0] rfl rfl HZ.o HPC1.o HPC2.o HPO.o ?_)
   intro w9 hb9 hf9 hz9;have HB9:=lh hb9;have HF9:=lh hf9;clear hb9 hf9 hz9;go_wp2_with fail;exact zD rfl rfl HB9.o rfl (HQ.o _ _ ⟨_,_,rfl,HD.o.fr HF9.o (by simp;omega),HP5.o,HF.o.trans HF9.o (fun x hx=>.inr (by simp at hx;omega)),tE (f:=Xpr.path) HM.o HE.o (fun y hy=>jW hy HF9.o (by omega)) rfl rfl rfl⟩)
  | false=>
   rw[hn2,if_neg (by simp)] at HI;have HN2:Hid ((s.q TS).next [64]=false):=lh hn2;clear hn2;go_wp2_with fail;refine HI.o.mono ?_;rintro e w4 ⟨rfl,hd4,hf4⟩;clear HI
   replace HF:=lh (HF.o.trans hf4 (fun x hx=>.inl hx))
   replace HZ:=lh (HZ.o.fr hf4 (by simp;omega))
   replace HT:=lh (HT.o.fr hf4 (by simp;omega))
   replace HD:=lh hd4
   clear hf4 hd4;have hlen2:=HD.o.len;have c2:=HD.o.cells.1 1 _ rfl;have cf:=HD.o.cells.2;simp only[Nat.succ_ne_zero,if_false,Nat.reduceAdd] at c2;have hwk:IntKind.i64.wrap ((s.k:Int)+1)=(s.k:Int)+1:=by rw[IntKind.wrap_i64];omega
   go_upto_region 7 with fail
   have hd5:=HD.o.put 2 (.int .i64 ((s.k:Int)+1)) (by decide) (s':=s.go) (by show s.k+1<=_;omega) HD.o.most HD.o.deep (fun v=>by rw[show(s.k:Int)+1=((s.k+1:Nat):Int) by omega];rfl);have hf5:Fr [r] w4 (w4.setCell ⟨r,2,none⟩ (.int .i64 ((s.k:Int)+1))):=(Fr.refl [r] w4).setCell (.inl (by simp)) _;generalize w4.setCell ⟨r,2,none⟩ (.int .i64 ((s.k:Int)+1))=w5 at *;clear c2 cf hwk
   replace HF:=lh (HF.o.trans hf5 (fun x hx=>.inl hx))
   replace HZ:=lh (HZ.o.fr hf5 (by simp;omega))
   replace HT:=lh (HT.o.fr hf5 (by simp;omega))
   replace HD:=lh hd5
   clear hf5 hd5;have y0:=HT.o.at_ (i:=0) rfl;have hS8s:S8 t.s=.string sv:=by rw[<- HSV.o];rfl
   have hS8d:S8 t.n.digits=.string dv:=by rw[<- HDV.o];rfl
   have HS8s:=lh hS8s;have HS8d:=lh hS8d;clear hS8s hS8d
   by_cases k3:k=3
   ·have HE:=lh (aHt (txt:=aA txt) (E:=E) (S:=S) (d:=s.d) HPK.o (HKK.o.trans k3));have hk2:s.k+1<=TS.length:=nX HPK.o (by rw[HKK.o];omega);have d3:((k:Int) == 3)=true:=by rw[k3];rfl
    have y2:=HT.o.at_ (i:=2) rfl;have y3:=HT.o.at_ (i:=3) rfl;have y4:=HT.o.at_ (i:=4) rfl;have HRN:Hid (∀ (W:World) (N:Nat -> Prop),gA W N (Xpr.lit { Vlu.null with kind:=2,b:=false,n:=t.n,s:=[] }).cells [.int .i64 5,.slice none 0 0,.string { data:=#[] },.bool false,.slice none 0 0,.int .i64 2,.bool false,.bool tneg,.string dv,.int .i64 tex,.string { data:=#[] },.slice none 0 0,.slice none 0 0]):=lh (fun W N=>by rw[<- HS8d.o,<- HNG.o,<- HXP.o];exact cH 2 false t.n []);clear k3;have HRW0:Hid (∀ (W:World) (N:Nat -> Prop),gA W N (Xpr.lit { Vlu.null with kind:=2,b:=false,n:=t.n,s:=[] }).cells [.int .i64 5,.slice none 0 0,.string { data:=#[] },.bool false,.slice none 0 0,.int .i64 2,.bool false,.bool tneg,.string dv,.int .i64 tex,.string { data:=#[] },.slice none 0 0,.slice none 0 0]):=lh (fun W N=>HRN.o W N);have HO1:=lh (HRW0.o w5 (fun _=>True));have HPC1:Hid ((Tryz.prog.info? 117).map (·.size)=some ([.int .i64 5,.slice none 0 0,.string { data:=#[] },.bool false,.slice none 0 0,.int .i64 2,.bool false,.bool tneg,.string dv,.int .i64 tex,.string { data:=#[] },.slice none 0 0,.slice none 0 0]:List Value).length):=lh tB;have HPC2:Hid (zx.length=([.int .i64 5,.slice none 0 0,.string { data:=#[] },.bool false,.slice none 0 0,.int .i64 2,.bool false,.bool tneg,.string dv,.int .i64 tex,.string { data:=#[] },.slice none 0 0,.slice none 0 0]:List Value).length):=lh rfl;have HPO:Hid (∀ u ∈ ([.int .i64 5,.slice none 0 0,.string { data:=#[] },.bool false,.slice none 0 0,.int .i64 2,.bool false,.bool tneg,.string dv,.int .i64 tex,.string { data:=#[] },.slice none 0 0,.slice none 0 0]:List Value),u.oneCell'=true):=lh HO1.o.one
    go_wp2_with (with_reducible refine iA rfl 117 (.tmp 2) (.tmp 30) rfl [.int .i64 5,.slice none 0 0,.string { data:=#[] },.bool false,.slice none 0 0,.int .i64 2,.bool false,.bool tneg,.string dv,.int .i64 tex,.string { data:=#[] },.slice none 0 0,.slice none 0 0] rfl rfl HZ.o HPC1.o HPC2.o HPO.o ?_)
    intro w9 hb9 hf9 hz9;have HB9:=lh hb9;have HF9:=lh hf9;clear hb9 hf9 hz9;go_wp2_with fail;exact zD rfl rfl HB9.o rfl (HQ.o _ _ ⟨_,_,rfl,HD.o.fr HF9.o (by simp;omega),rfl,HF.o.trans HF9.o (fun x hx=>.inr (by simp at hx;omega)),eI HE.o HBD.o hk2 (DS.q_go s TS) ⟨_,rfl,HRW0.o _ _⟩⟩)
   ·have d3:((k:Int) == 3)=false:=by rw[beq_eq_false_iff_ne];omega
    by_cases k2:k=2
    ·have HE:=lh (aHu (txt:=aA txt) (E:=E) (S:=S) (d:=s.d) HPK.o (HKK.o.trans k2));have hk2:s.k+1<=TS.length:=nX HPK.o (by rw[HKK.o];omega);have d2:((k:Int) == 2)=true:=by rw[k2];rfl
     have y1:=HT.o.at_ (i:=1) rfl;have HRN:Hid (∀ (W:World) (N:Nat -> Prop),gA W N (Xpr.lit { Vlu.null with kind:=3,b:=false,n:=Dcm.zero,s:=t.s }).cells [.int .i64 5,.slice none 0 0,.string { data:=#[] },.bool false,.slice none 0 0,.int .i64 3,.bool false,.bool false,.string { data:=#[] },.int .i64 0,.string sv,.slice none 0 0,.slice none 0 0]):=lh (fun W N=>by rw[<- HS8s.o];exact cH 3 false .zero t.s);clear k3 k2;have HRW0:Hid (∀ (W:World) (N:Nat -> Prop),gA W N (Xpr.lit { Vlu.null with kind:=3,b:=false,n:=Dcm.zero,s:=t.s }).cells [.int .i64 5,.slice none 0 0,.string { data:=#[] },.bool false,.slice none 0 0,.int .i64 3,.bool false,.bool false,.string { data:=#[] },.int .i64 0,.string sv,.slice none 0 0,.slice none 0 0]):=lh (fun W N=>HRN.o W N);have HO1:=lh (HRW0.o w5 (fun _=>True));have HPC1:Hid ((Tryz.prog.info? 117).map (·.size)=some ([.int .i64 5,.slice none 0 0,.string { data:=#[] },.bool false,.slice none 0 0,.int .i64 3,.bool false,.bool false,.string { data:=#[] },.int .i64 0,.string sv,.slice none 0 0,.slice none 0 0]:List Value).length):=lh tB;have HPC2:Hid (zx.length=([.int .i64 5,.slice none 0 0,.string { data:=#[] },.bool false,.slice none 0 0,.int .i64 3,.bool false,.bool false,.string { data:=#[] },.int .i64 0,.string sv,.slice none 0 0,.slice none 0 0]:List Value).length):=lh rfl;have HPO:Hid (∀ u ∈ ([.int .i64 5,.slice none 0 0,.string { data:=#[] },.bool false,.slice none 0 0,.int .i64 3,.bool false,.bool false,.string { data:=#[] },.int .i64 0,.string sv,.slice none 0 0,.slice none 0 0]:List Value),u.oneCell'=true):=lh HO1.o.one
     go_wp2_with (with_reducible refine iA rfl 117 (.tmp 2) (.tmp 38) rfl [.int .i64 5,.slice none 0 0,.string { data:=#[] },.bool false,.slice none 0 0,.int .i64 3,.bool false,.bool false,.string { data:=#[] },.int .i64 0,.string sv,.slice none 0 0,.slice none 0 0] rfl rfl HZ.o HPC1.o HPC2.o HPO.o ?_)
     intro w9 hb9 hf9 hz9;have HB9:=lh hb9;have HF9:=lh hf9;clear hb9 hf9 hz9;go_wp2_with fail;exact zD rfl rfl HB9.o rfl (HQ.o _ _ ⟨_,_,rfl,HD.o.fr HF9.o (by simp;omega),rfl,HF.o.trans HF9.o (fun x hx=>.inr (by simp at hx;omega)),eI HE.o HBD.o hk2 (DS.q_go s TS) ⟨_,rfl,HRW0.o _ _⟩⟩)
    ·have d2:((k:Int) == 2)=false:=by rw[beq_eq_false_iff_ne];omega
     by_cases k1:k=1
     ·have HE1:Hid (qA (aA txt) E S s.d (s.q TS)=wE S s.d (aA sv) (s.q TS).go):=lh (by rw[HSV.o];exact aHv HPK.o (HKK.o.trans k1));have hk2:s.k+1<=TS.length:=nX HPK.o (by rw[HKK.o];omega);have d1:((k:Int) == 1)=true:=by rw[k1];rfl
      have y1:=HT.o.at_ (i:=1) rfl;have q1:(sv.toList == [110,117,108,108])=decide (aA sv=iM):=nC sv [110,117,108,108];have q2:(sv.toList == [116,114,117,101])=decide (aA sv=cM):=nC sv [116,114,117,101];have q3:(sv.toList == [102,97,108,115,101])=decide (aA sv=oJ):=nC sv [102,97,108,115,101];clear k3 k2 k1
      by_cases h1:aA sv=iM
      ·rw[decide_eq_true h1] at q1;have HE:=lh (HE1.o.trans (vV h1));clear h1 q2 q3;have HRW0:Hid (∀ (W:World) (N:Nat -> Prop),gA W N (Xpr.lit { Vlu.null with kind:=0,b:=false,n:=Dcm.zero,s:=[] }).cells [.int .i64 5,.slice none 0 0,.string { data:=#[] },.bool false,.slice none 0 0,.int .i64 0,.bool false,.bool false,.string { data:=#[] },.int .i64 0,.string { data:=#[] },.slice none 0 0,.slice none 0 0]):=lh (fun W N=>cH 0 false .zero []);have HO1:=lh (HRW0.o w5 (fun _=>True));have HPC1:Hid ((Tryz.prog.info? 117).map (·.size)=some ([.int .i64 5,.slice none 0 0,.string { data:=#[] },.bool false,.slice none 0 0,.int .i64 0,.bool false,.bool false,.string { data:=#[] },.int .i64 0,.string { data:=#[] },.slice none 0 0,.slice none 0 0]:List Value).length):=lh tB;have HPC2:Hid (zx.length=([.int .i64 5,.slice none 0 0,.string { data:=#[] },.bool false,.slice none 0 0,.int .i64 0,.bool false,.bool false,.string { data:=#[] },.int .i64 0,.string { data:=#[] },.slice none 0 0,.slice none 0 0]:List Value).length):=lh rfl;have HPO:Hid (∀ u ∈ ([.int .i64 5,.slice none 0 0,.string { data:=#[] },.bool false,.slice none 0 0,.int .i64 0,.bool false,.bool false,.string { data:=#[] },.int .i64 0,.string { data:=#[] },.slice none 0 0,.slice none 0 0]:List Value),u.oneCell'=true):=lh HO1.o.one
       go_wp2_with (with_reducible refine iA rfl 117 (.tmp 2) (.tmp 48) rfl [.int .i64 5,.slice none 0 0,.string { data:=#[] },.bool false,.slice none 0 0,.int .i64 0,.bool false,.bool false,.string { data:=#[] },.int .i64 0,.string { data:=#[] },.slice none 0 0,.slice none 0 0] rfl rfl HZ.o HPC1.o HPC2.o HPO.o ?_)
       intro w9 hb9 hf9 hz9;have HB9:=lh hb9;have HF9:=lh hf9;clear hb9 hf9 hz9;go_wp2_with fail;exact zD rfl rfl HB9.o rfl (HQ.o _ _ ⟨_,_,rfl,HD.o.fr HF9.o (by simp;omega),rfl,HF.o.trans HF9.o (fun x hx=>.inr (by simp at hx;omega)),eI HE.o HBD.o hk2 (DS.q_go s TS) ⟨_,rfl,HRW0.o _ _⟩⟩)
      ·rw[decide_eq_false h1] at q1
       by_cases h2:aA sv=cM
       ·rw[decide_eq_true h2] at q2;have HE:=lh (HE1.o.trans (wV h2));clear h1 h2 q3;have HRW0:Hid (∀ (W:World) (N:Nat -> Prop),gA W N (Xpr.lit { Vlu.null with kind:=1,b:=true,n:=Dcm.zero,s:=[] }).cells [.int .i64 5,.slice none 0 0,.string { data:=#[] },.bool false,.slice none 0 0,.int .i64 1,.bool true,.bool false,.string { data:=#[] },.int .i64 0,.string { data:=#[] },.slice none 0 0,.slice none 0 0]):=lh (fun W N=>cH 1 true .zero []);have HO1:=lh (HRW0.o w5 (fun _=>True));have HPC1:Hid ((Tryz.prog.info? 117).map (·.size)=some ([.int .i64 5,.slice none 0 0,.string { data:=#[] },.bool false,.slice none 0 0,.int .i64 1,.bool true,.bool false,.string { data:=#[] },.int .i64 0,.string { data:=#[] },.slice none 0 0,.slice none 0 0]:List Value).length):=lh tB;have HPC2:Hid (zx.length=([.int .i64 5,.slice none 0 0,.string { data:=#[] },.bool false,.slice none 0 0,.int .i64 1,.bool true,.bool false,.string { data:=#[] },.int .i64 0,.string { data:=#[] },.slice none 0 0,.slice none 0 0]:List Value).length):=lh rfl;have HPO:Hid (∀ u ∈ ([.int .i64 5,.slice none 0 0,.string { data:=#[] },.bool false,.slice none 0 0,.int .i64 1,.bool true,.bool false,.string { data:=#[] },.int .i64 0,.string { data:=#[] },.slice none 0 0,.slice none 0 0]:List Value),u.oneCell'=true):=lh HO1.o.one
        go_wp2_with (with_reducible refine iA rfl 117 (.tmp 2) (.tmp 67) rfl [.int .i64 5,.slice none 0 0,.string { data:=#[] },.bool false,.slice none 0 0,.int .i64 1,.bool true,.bool false,.string { data:=#[] },.int .i64 0,.string { data:=#[] },.slice none 0 0,.slice none 0 0] rfl rfl HZ.o HPC1.o HPC2.o HPO.o ?_)
        intro w9 hb9 hf9 hz9;have HB9:=lh hb9;have HF9:=lh hf9;clear hb9 hf9 hz9;go_wp2_with fail;exact zD rfl rfl HB9.o rfl (HQ.o _ _ ⟨_,_,rfl,HD.o.fr HF9.o (by simp;omega),rfl,HF.o.trans HF9.o (fun x hx=>.inr (by simp at hx;omega)),eI HE.o HBD.o hk2 (DS.q_go s TS) ⟨_,rfl,HRW0.o _ _⟩⟩)
       ·rw[decide_eq_false h2] at q2
        by_cases h3:aA sv=oJ
        ·rw[decide_eq_true h3] at q3;have HE:=lh (HE1.o.trans (pT h3));clear h1 h2 h3;have HRW0:Hid (∀ (W:World) (N:Nat -> Prop),gA W N (Xpr.lit { Vlu.null with kind:=1,b:=false,n:=Dcm.zero,s:=[] }).cells [.int .i64 5,.slice none 0 0,.string { data:=#[] },.bool false,.slice none 0 0,.int .i64 1,.bool false,.bool false,.string { data:=#[] },.int .i64 0,.string { data:=#[] },.slice none 0 0,.slice none 0 0]):=lh (fun W N=>cH 1 false .zero []);have HO1:=lh (HRW0.o w5 (fun _=>True));have HPC1:Hid ((Tryz.prog.info? 117).map (·.size)=some ([.int .i64 5,.slice none 0 0,.string { data:=#[] },.bool false,.slice none 0 0,.int .i64 1,.bool false,.bool false,.string { data:=#[] },.int .i64 0,.string { data:=#[] },.slice none 0 0,.slice none 0 0]:List Value).length):=lh tB;have HPC2:Hid (zx.length=([.int .i64 5,.slice none 0 0,.string { data:=#[] },.bool false,.slice none 0 0,.int .i64 1,.bool false,.bool false,.string { data:=#[] },.int .i64 0,.string { data:=#[] },.slice none 0 0,.slice none 0 0]:List Value).length):=lh rfl;have HPO:Hid (∀ u ∈ ([.int .i64 5,.slice none 0 0,.string { data:=#[] },.bool false,.slice none 0 0,.int .i64 1,.bool false,.bool false,.string { data:=#[] },.int .i64 0,.string { data:=#[] },.slice none 0 0,.slice none 0 0]:List Value),u.oneCell'=true):=lh HO1.o.one
         go_wp2_with (with_reducible refine iA rfl 117 (.tmp 2) (.tmp 67) rfl [.int .i64 5,.slice none 0 0,.string { data:=#[] },.bool false,.slice none 0 0,.int .i64 1,.bool false,.bool false,.string { data:=#[] },.int .i64 0,.string { data:=#[] },.slice none 0 0,.slice none 0 0] rfl rfl HZ.o HPC1.o HPC2.o HPO.o ?_)
         intro w9 hb9 hf9 hz9;have HB9:=lh hb9;have HF9:=lh hf9;clear hb9 hf9 hz9;go_wp2_with fail;exact zD rfl rfl HB9.o rfl (HQ.o _ _ ⟨_,_,rfl,HD.o.fr HF9.o (by simp;omega),rfl,HF.o.trans HF9.o (fun x hx=>.inr (by simp at hx;omega)),eI HE.o HBD.o hk2 (DS.q_go s TS) ⟨_,rfl,HRW0.o _ _⟩⟩)
        ·rw[decide_eq_false h3] at q3;have H1:=lh h1;have H2:=lh h2;have H3:=lh h3;clear h1 h2 h3;go_upto_region 15 with fail
         clear q1 q2 q3;obtain⟨mb,hmb⟩:∃ mb,(decide (aA sv ∈ pJ) && s.go.nx TS [40])=mb:=⟨_,rfl⟩
         go_cut [68] (fun v wc=>v=.bool mb/\DAt wc r gl txt TS (if mb=true then s.go.go else s.go)/\Fr [r] w5 wc)
         case first=>
          by_cases hic:aA sv ∈ pJ
          ·have HI:=lh (qK HD.o ⟨#[40]⟩);rw[show aA ⟨#[40]⟩=[40] from rfl] at HI;rw[decide_eq_true hic,Bool.true_and] at hmb;rw[hmb] at HI;clear hmb;have hcw:=hic;unfold pJ at hcw;simp only[List.mem_cons,List.not_mem_nil,or_false] at hcw;rcases hcw with hcw | hcw | hcw | hcw | hcw
           ·have p1:(sv.toList == [108,101,110,103,116,104])=true:=(nC sv _).trans (by rw[hcw];rfl);clear hic hcw;go_wp2_with fail;refine HI.o.mono ?_;rintro e w6 ⟨rfl,hd6,hf6⟩;have HD6:=lh hd6;have HF6:=lh hf6;clear hd6 hf6 HI;go_wp2_with fail
            go_meet
            exact⟨rfl,HD6.o,HF6.o⟩
           ·have p1:(sv.toList == [108,101,110,103,116,104])=false:=(nC sv _).trans (by rw[hcw];rfl);have p2:(sv.toList == [99,111,117,110,116])=true:=(nC sv _).trans (by rw[hcw];rfl);clear hic hcw;go_wp2_with fail;refine HI.o.mono ?_;rintro e w6 ⟨rfl,hd6,hf6⟩;have HD6:=lh hd6;have HF6:=lh hf6;clear hd6 hf6 HI;go_wp2_with fail
            go_meet
            exact⟨rfl,HD6.o,HF6.o⟩
           ·have p1:(sv.toList == [108,101,110,103,116,104])=false:=(nC sv _).trans (by rw[hcw];rfl);have p2:(sv.toList == [99,111,117,110,116])=false:=(nC sv _).trans (by rw[hcw];rfl);have p3:(sv.toList == [109,97,116,99,104])=false:=(nC sv _).trans (by rw[hcw];rfl);have p4:(sv.toList == [115,101,97,114,99,104])=false:=(nC sv _).trans (by rw[hcw];rfl);have p5:(sv.toList == [118,97,108,117,101])=true:=(nC sv _).trans (by rw[hcw];rfl);clear hic hcw;go_wp2_with fail;refine HI.o.mono ?_;rintro e w6 ⟨rfl,hd6,hf6⟩;have HD6:=lh hd6;have HF6:=lh hf6;clear hd6 hf6 HI;go_wp2_with fail
            go_meet
            exact⟨rfl,HD6.o,HF6.o⟩
           ·have p1:(sv.toList == [108,101,110,103,116,104])=false:=(nC sv _).trans (by rw[hcw];rfl);have p2:(sv.toList == [99,111,117,110,116])=false:=(nC sv _).trans (by rw[hcw];rfl);have p3:(sv.toList == [109,97,116,99,104])=true:=(nC sv _).trans (by rw[hcw];rfl);clear hic hcw;go_wp2_with fail;refine HI.o.mono ?_;rintro e w6 ⟨rfl,hd6,hf6⟩;have HD6:=lh hd6;have HF6:=lh hf6;clear hd6 hf6 HI;go_wp2_with fail
            go_meet
            exact⟨rfl,HD6.o,HF6.o⟩
           ·have p1:(sv.toList == [108,101,110,103,116,104])=false:=(nC sv _).trans (by rw[hcw];rfl);have p2:(sv.toList == [99,111,117,110,116])=false:=(nC sv _).trans (by rw[hcw];rfl);have p3:(sv.toList == [109,97,116,99,104])=false:=(nC sv _).trans (by rw[hcw];rfl);have p4:(sv.toList == [115,101,97,114,99,104])=true:=(nC sv _).trans (by rw[hcw];rfl);clear hic hcw;go_wp2_with fail;refine HI.o.mono ?_;rintro e w6 ⟨rfl,hd6,hf6⟩;have HD6:=lh hd6;have HF6:=lh hf6;clear hd6 hf6 HI;go_wp2_with fail
            go_meet
            exact⟨rfl,HD6.o,HF6.o⟩
          ·rw[decide_eq_false hic,Bool.false_and] at hmb;subst hmb;have hne:∀ y ∈ pJ,decide (aA sv=y)=false:=fun y hy=>decide_eq_false (fun e=>hic (by rw[e];exact hy));have p1:(sv.toList == [108,101,110,103,116,104])=false:=(nC sv _).trans (hne sH (by decide));have p2:(sv.toList == [99,111,117,110,116])=false:=(nC sv _).trans (hne nG (by decide));have p3:(sv.toList == [109,97,116,99,104])=false:=(nC sv _).trans (hne kK (by decide));have p4:(sv.toList == [115,101,97,114,99,104])=false:=(nC sv _).trans (hne iI (by decide));have p5:(sv.toList == [118,97,108,117,101])=false:=(nC sv _).trans (hne oG (by decide));clear hic hne;go_wp2_with fail
           go_meet
           exact⟨rfl,HD.o,Fr.refl _ _⟩
         case rest=>
          obtain⟨rfl,hd6,hf6⟩:=hcut;obtain⟨w6,rfl⟩:=nm (wc);have y1:=(HT.o.fr hf6 (by simp;omega)).at_ (i:=1) rfl
          replace HF:=lh (HF.o.trans hf6 (fun x hx=>.inl hx))
          replace HZ:=lh (HZ.o.fr hf6 (by simp;omega))
          replace HT:=lh (HT.o.fr hf6 (by simp;omega))
          replace HD:=lh hd6
          clear hf6 hd6
          cases mb with
          | true=>
           rw[Bool.and_eq_true,decide_eq_true_eq] at hmb;rw[if_pos rfl] at HD;have hk3:s.k+2<=TS.length:=aG hmb.2;have HE:Hid (qA (aA txt) E S s.d (s.q TS)=iK S s.d (aA sv) (s.go.go.down.q TS)):=lh (by rw[HE1.o,aCT hmb.1 (by rw[<- DS.q_go];exact hmb.2),aHx]);have HC:=lh (aHs HSK.o HSO.o sv HD.o HBD.o hk3 (by rw[bC];show TS.length - (s.k+2) < n;omega) (by rw[bC];show s.d+1+((TS.length - (s.k+2):Nat):Int)<=80000;omega));rw[show s.go.go.d=s.d from rfl,<- HE.o] at HC;have hzc:=HZ.o.lt;clear hmb;go_wp2_with fail;refine HC.o.mono ?_;rintro e w8 ⟨v8,s8,rfl,hd8,hp8,hf8,hm8⟩;obtain⟨y9,cs,rfl,hcs0⟩:=kG hm8;have HCL:Hid (cs.length=13):=lh (hcs0.1.trans (kA y9));have HO1:=lh hcs0.one;have HM:=lh hm8;have HP8:Hid (s8.d=s.d):=lh hp8;have HPC1:Hid ((Tryz.prog.info? 117).map (·.size)=some cs.length):=lh (by rw[HCL.o];exact tB);have HPC2:Hid (zx.length=cs.length):=lh (by rw[HCL.o];rfl);clear hcs0 hm8 hp8 HC y1
           replace HF:=lh (HF.o.trans hf8 (fun x hx=>.inl hx))
           replace HZ:=lh (HZ.o.fr hf8 (by simp;omega))
           replace HT:=lh (HT.o.fr hf8 (by simp;omega))
           replace HD:=lh hd8
           clear hf8 hd8
           go_wp2_with (with_reducible refine iA rfl 117 (.tmp 2) (.tmp 104) rfl cs rfl rfl HZ.o HPC1.o HPC2.o HO1.o ?_)
           intro w9 hb9 hf9 hz9;have HB9:=lh hb9;have HF9:=lh hf9;clear hb9 hf9 hz9;go_wp2_with fail;exact zD rfl rfl HB9.o HCL.o (HQ.o _ _ ⟨_,_,rfl,HD.o.fr HF9.o (by simp;omega),HP8.o,HF.o.trans HF9.o (fun x hx=>.inr (by simp at hx;omega)),tE (f:=fun y=>y) HM.o (by cases qA (aA txt) E S s.d (s.q TS) <;> rfl) (fun y hy=>eH hy HF9.o (fun x hx=>by simp at hx;omega) (by omega)) rfl rfl rfl⟩)
          | false=>
           rw[if_neg (by simp)] at HD;have HE:Hid (qA (aA txt) E S s.d (s.q TS)=none):=lh (HE1.o.trans (cR H1.o H2.o H3.o (fun h=>by rw[decide_eq_true h.1,show s.go.nx TS [40]=true from by rw[<- h.2,<- DS.q_go];rfl] at hmb;cases hmb)));clear hmb y1;have c5:=HD.o.cells.1 4 _ rfl;have cf:=HD.o.cells.2;simp only[Nat.succ_ne_zero,if_false,Nat.reduceAdd] at c5;go_upto_region 18 with fail
           have hd7:=HD.o.put 5 (.bool true) (by decide) (s':=s.go.fail) HD.o.kle HD.o.most HD.o.deep (fun v=>rfl);have hf7:Fr [r] w6 (w6.setCell ⟨r,5,none⟩ (.bool true)):=(Fr.refl [r] w6).setCell (.inl (by simp)) _;generalize w6.setCell ⟨r,5,none⟩ (.bool true)=w7 at *;clear c5 cf
           replace HF:=lh (HF.o.trans hf7 (fun x hx=>.inl hx))
           replace HZ:=lh (HZ.o.fr hf7 (by simp;omega))
           replace HT:=lh (HT.o.fr hf7 (by simp;omega))
           replace HD:=lh hd7
           clear hf7 hd7;have HRW0:Hid (∀ (W:World) (N:Nat -> Prop),gA W N (Xpr.of 0 [] []).cells zx):=lh (fun W N=>wG (CAt.nil W N (by decide) none 0));have HO1:=lh (HRW0.o w7 (fun _=>True));have HPC1:Hid ((Tryz.prog.info? 117).map (·.size)=some (zx:List Value).length):=lh tB;have HPC2:Hid (zx.length=(zx:List Value).length):=lh rfl;have HPO:Hid (∀ u ∈ (zx:List Value),u.oneCell'=true):=lh HO1.o.one
           go_wp2_with (with_reducible refine iA rfl 117 (.tmp 2) (.tmp 108) rfl zx rfl rfl HZ.o HPC1.o HPC2.o HPO.o ?_)
           intro w9 hb9 hf9 hz9;have HB9:=lh hb9;have HF9:=lh hf9;clear hb9 hf9 hz9;go_wp2_with fail;exact zD rfl rfl HB9.o rfl (HQ.o _ _ ⟨_,_,rfl,HD.o.fr HF9.o (by simp;omega),rfl,HF.o.trans HF9.o (fun x hx=>.inr (by simp at hx;omega)),cN HE.o rfl ⟨_,rfl,HRW0.o _ _⟩⟩)
     ·have d1:((k:Int) == 1)=false:=by rw[beq_eq_false_iff_ne];omega
      have HE:Hid (qA (aA txt) E S s.d (s.q TS)=none):=lh (aHw HPK.o (by rw[HKK.o];exact k1) (by rw[HKK.o];exact k2) (by rw[HKK.o];exact k3) HOK.o HN1.o HN2.o);clear k3 k2 k1;go_upto_region 17 with fail
      obtain⟨w6,rfl⟩:=nm (w5);have c5:=HD.o.cells.1 4 _ rfl;have cf:=HD.o.cells.2;simp only[Nat.succ_ne_zero,if_false,Nat.reduceAdd] at c5;go_upto_region 18 with fail
      have hd7:=HD.o.put 5 (.bool true) (by decide) (s':=s.go.fail) HD.o.kle HD.o.most HD.o.deep (fun v=>rfl);have hf7:Fr [r] w6 (w6.setCell ⟨r,5,none⟩ (.bool true)):=(Fr.refl [r] w6).setCell (.inl (by simp)) _;generalize w6.setCell ⟨r,5,none⟩ (.bool true)=w7 at *;clear c5 cf
      replace HF:=lh (HF.o.trans hf7 (fun x hx=>.inl hx))
      replace HZ:=lh (HZ.o.fr hf7 (by simp;omega))
      replace HT:=lh (HT.o.fr hf7 (by simp;omega))
      replace HD:=lh hd7
      clear hf7 hd7;have HRW0:Hid (∀ (W:World) (N:Nat -> Prop),gA W N (Xpr.of 0 [] []).cells zx):=lh (fun W N=>wG (CAt.nil W N (by decide) none 0));have HO1:=lh (HRW0.o w7 (fun _=>True));have HPC1:Hid ((Tryz.prog.info? 117).map (·.size)=some (zx:List Value).length):=lh tB;have HPC2:Hid (zx.length=(zx:List Value).length):=lh rfl;have HPO:Hid (∀ u ∈ (zx:List Value),u.oneCell'=true):=lh HO1.o.one
      go_wp2_with (with_reducible refine iA rfl 117 (.tmp 2) (.tmp 108) rfl zx rfl rfl HZ.o HPC1.o HPC2.o HPO.o ?_)
      intro w9 hb9 hf9 hz9;have HB9:=lh hb9;have HF9:=lh hf9;clear hb9 hf9 hz9;go_wp2_with fail;exact zD rfl rfl HB9.o rfl (HQ.o _ _ ⟨_,_,rfl,HD.o.fr HF9.o (by simp;omega),rfl,HF.o.trans HF9.o (fun x hx=>.inr (by simp at hx;omega)),cN HE.o rfl ⟨_,rfl,HRW0.o _ _⟩⟩)
end
end
end Go.Proofs.YtbggkiebfflcdaaGreatDoor
