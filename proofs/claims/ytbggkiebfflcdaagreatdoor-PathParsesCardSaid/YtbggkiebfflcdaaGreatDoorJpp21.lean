/-
  Joined by join.py: Mn
-/
import Derived.Test.YtbggkiebfflcdaaGreatDoorJpp20
set_option maxRecDepth 100000
set_option maxHeartbeats 32000000
namespace Go.Proofs.YtbggkiebfflcdaaGreatDoor
section
open Go.RowKit Go.Shelf
theorem yN (l:List UInt8):l.take (l.takeWhile yA).length=l.takeWhile yA:=by
 have h:=List.take_left (l₁:=l.takeWhile yA) (l₂:=l.dropWhile yA)
 rwa [List.takeWhile_append_dropWhile] at h
theorem aFX {l:List UInt8} (h:(l.takeWhile yA).length ≠ 0):(l.takeWhile yA).head? = l.head?:=by
 cases l with
 | nil=>rfl
 | cons c t=>
  rw[List.takeWhile_cons] at h ⊢
  split
  ·rfl
  ·rename_i h2;rw[if_neg h2] at h;exact absurd rfl h
theorem qG {l:List UInt8} {neg pt:Bool} {W P:List UInt8} {x:Int × List UInt8 × Bool} (h:fE l=jD neg pt W P x) (hb:(!x.2.2 || !x.2.1.isEmpty || W.isEmpty || (decide (1 < W.length) && jA 48 W) || (pt && P.isEmpty))=true):sA l=(gC .zero,2):=by
 unfold sA;rw[h];unfold jD;rw[if_pos hb]
theorem aAd (c:UInt8) (t:List UInt8) (k:UInt8) (n:Int) (hn:n=k.toNat):jA k (c :: t)=((c.toNat:Int) == n):=by
 subst hn;unfold jA;rw[List.head?_cons,Bool.eq_iff_iff,beq_iff_eq,beq_iff_eq]
 constructor
 ·intro h;injection h with h;rw[h]
 ·intro h;rw[UInt8.toNat_inj.1 (show c.toNat=k.toNat by omega)]
theorem aFY {l:List UInt8} (h:∀ c t,l=c :: t -> eB c=false):rI l=(0,l,true):=by
 cases l with
 | nil=>rfl
 | cons c t=>unfold rI;simp[h c t rfl]
theorem lQ {c:UInt8} {t r:List UInt8} {m:Bool} (he:eB c=true) (hm:jA 45 t=m) (hr:(if (m || jA 43 t)=true then t.drop 1 else t)=r):rI (c :: t)=(if m=true then -(dG (r.takeWhile yA):Int) else (dG (r.takeWhile yA):Int),r.dropWhile yA,!(r.takeWhile yA).isEmpty):=by
 unfold rI
 simp only
 rw[if_pos he,hm,hr]
theorem aFZ {w:World} (s:ByteArray):RV 79 #[.string s] w (.tuple #[(sA (aA s)).1,.int .i64 (sA (aA s)).2]):=by
 refine bA fun R HQ=>?_;have hfz:=(Fr.refl [] w).alloc (.cells #[.bool false,.string { data:=#[] },.int .i64 0] 93);have hbz:=Blk.new w 93 [.bool false,.string { data:=#[] },.int .i64 0]
 go_enter Tryz.func79,Tryz.ntmps79
 go_upto_region 1 with fail
 generalize w.alloc (.cells #[.bool false,.string { data:=#[] },.int .i64 0] 93)=w0 at *;have HFZ:=lh hfz;have HBZ:=lh hbz;clear hfz hbz
 by_cases h1:1000 < s.size
 ·have d1:decide ((1000:Int) < (s.size:Int))=true:=dT (by omega)
  have HE:Hid (sA (aA s)=(gC .zero,4)):=lh (by unfold sA fE;rw[if_pos (by rw[cA];exact h1)]);have z0:=HBZ.o.at_ (i:=0) rfl;have z1:=HBZ.o.at_ (i:=1) rfl;have z2:=HBZ.o.at_ (i:=2) rfl;have zf:=HBZ.o.free;go_wp2_with fail;have hb:=HBZ.o.setL (vs:=[.bool false,.string { data:=#[] },.int .i64 0]) rfl;exact bodyPost_ret (fA (d:=_) rfl rfl hb Tryz.underlying93 rfl (by kernel_rfl)) rfl (HQ.o _ _ ⟨by rw[HE.o];rfl,HFZ.o.setL (k:=0) (vs:=[.bool false,.string { data:=#[] },.int .i64 0]) (.inr (Nat.le_refl _))⟩)
 ·have d1:decide ((1000:Int) < (s.size:Int))=false:=dF (by omega)
  have hsz:s.size<=1000:=by omega
  have hsn:=gE s;go_upto_region 3 with fail
  clear d1 h1;obtain⟨neg,hneg⟩:∃ neg,jA 45 (aA s)=neg:=⟨_,rfl⟩
  go_cut [4] (fun v4 wc=>v4=.bool neg/\w0=wc)
  case first=>
   cases hsb:aA s with
   | nil=>
    rw[hsb] at hsn hneg;have HNG:=lh hneg;rw[show([]:List UInt8).isEmpty=true from rfl] at hsn;clear hneg hsb;go_wp2_with fail
    go_meet
    exact⟨by rw[<- HNG.o];rfl,rfl⟩
   | cons c t=>
    rw[hsb] at hsn hneg;rw[aAd c t 45 45 rfl] at hneg;have hix:∀ W,(Instr.index 9 (.string s) (.int .i64 0)).run Tryz.prog W=.ok (.int .u8 (c.toNat:Int)) W:=fun W=>rA (s:=s) (by rw[hsb];rfl) .i64 W;rw[show(c :: t).isEmpty=false from rfl] at hsn;clear hsb;go_wp2_with fail
    go_meet
    exact⟨rfl,rfl⟩
  case rest=>
  obtain⟨rfl,rfl⟩:=hcut;have HNEG:=lh hneg;clear hneg hsn
  go_upto_if 21 with fail
  go_cut [0] (fun v0 wc=>∃ s1:ByteArray,v0=.string s1/\aA s1=(if neg=true then (aA s).drop 1 else aA s)/\w0=wc)
  case first=>
   cases neg with
   | true=>
    have hs1:1<=s.size:=by
     rw[<- cA]
     cases h:aA s with
     | nil=>have:=HNEG.o;rw[h] at this;cases this
     | cons _ _=>simp
    obtain⟨s1,hs1b,hsl0⟩:=mD s 1 hs1;have hsl:=hsl0 .i64;rw[show((1:Nat):Int)=1 from rfl] at hsl;have HS1:=lh hs1b;clear hs1b hsl0;go_wp2_with fail
    go_meet
    exact⟨s1,rfl,HS1.o,rfl⟩
   | false=>
    go_wp2_with fail
    go_meet
    exact⟨s,rfl,rfl,rfl⟩
  case rest=>
  obtain⟨s1,rfl,hs1,rfl⟩:=hcut
  have hz1:s1.size<=1000:=by
   rw[lA hs1];have:=cA s
   split
   ·rw[List.length_drop];omega
   ·omega
  have HP0:=lh (xQ (s:=aA s) (s1:=aA s1) (pt:=jA 46 ((aA s1).dropWhile yA)) (by rw[cA];omega) HNEG.o hs1 rfl);obtain⟨L,hL⟩:∃ L,aA s1=L:=⟨_,rfl⟩;obtain⟨W,hW⟩:∃ W,L.takeWhile yA=W:=⟨_,rfl⟩;obtain⟨R1,hR1⟩:∃ R1,L.dropWhile yA=R1:=⟨_,rfl⟩;obtain⟨n,hn⟩:∃ n,W.length=n:=⟨_,rfl⟩;have hrun:=fun W'=>eW (w:=W') s1 (by omega);rw[hL,hW,hn] at hrun;rw[hL,hW,hR1] at HP0;have hnl:n<=s1.size:=by rw[<- hn,<- hW,<- hL,<- cA];exact mC _ _
  have hhd:n ≠ 0 -> W.head? = L.head?:=fun h=>by rw[<- hW];exact aFX (by rw[hW,hn];exact h)
  have HL:=lh hL;have HW:=lh hW;have HR1:=lh hR1;have HN:=lh hn;have HRUN:=lh hrun;have HHD:=lh hhd;clear hs1 hL hW hR1 hn hrun hhd HNEG;go_wp2_with fail;refine(HRUN.o _).mono ?_;rintro e w1 ⟨rfl,rfl⟩
  by_cases hn0:n=0
  ·subst hn0;have HE:Hid (sA (aA s)=(gC .zero,2)):=lh (by rw[qG HP0.o];simp[List.length_eq_zero_iff.1 HN.o]);have z0:=HBZ.o.at_ (i:=0) rfl;have z1:=HBZ.o.at_ (i:=1) rfl;have z2:=HBZ.o.at_ (i:=2) rfl;have zf:=HBZ.o.free;go_wp2_with fail;have hb:=HBZ.o.setL (vs:=[.bool false,.string { data:=#[] },.int .i64 0]) rfl;exact bodyPost_ret (fA (d:=_) rfl rfl hb Tryz.underlying93 rfl (by kernel_rfl)) rfl (HQ.o _ _ ⟨by rw[HE.o];rfl,HFZ.o.setL (k:=0) (vs:=[.bool false,.string { data:=#[] },.int .i64 0]) (.inr (Nat.le_refl _))⟩)
  ·have e0:((n:Int) == 0)=false:=by rw[beq_eq_false_iff_ne];omega
   obtain⟨c0,hc0⟩:∃ c,L[0]? = some c:=gx (by rw[<- HL.o,cA];omega);have hix:∀ W,(Instr.index 9 (.string s1) (.int .i64 0)).run Tryz.prog W=.ok (.int .u8 (c0.toNat:Int)) W:=fun W=>rA (s:=s1) (by rw[HL.o];exact hc0) .i64 W
   have hh0:jA 48 W=((c0.toNat:Int) == 48):=by
    have h:=HHD.o hn0;rw[List.head?_eq_getElem?,List.head?_eq_getElem?,hc0] at h;exact kS h
   obtain⟨zb,hzb⟩:∃ zb,((c0.toNat:Int) == 48)=zb:=⟨_,rfl⟩;rw[hzb] at hh0;have HH0:=lh hh0;clear hc0 hh0
   by_cases hbad:1 < n/\zb=true
   ·obtain⟨hn1,rfl⟩:=hbad;have e1:decide ((1:Int) < (n:Int))=true:=dT (by omega)
    have HE:Hid (sA (aA s)=(gC .zero,2)):=lh (by rw[qG HP0.o];simp[HH0.o,HN.o,hn1]);have z0:=HBZ.o.at_ (i:=0) rfl;have z1:=HBZ.o.at_ (i:=1) rfl;have z2:=HBZ.o.at_ (i:=2) rfl;have zf:=HBZ.o.free;go_wp2_with fail;have hb:=HBZ.o.setL (vs:=[.bool false,.string { data:=#[] },.int .i64 0]) rfl;exact bodyPost_ret (fA (d:=_) rfl rfl hb Tryz.underlying93 rfl (by kernel_rfl)) rfl (HQ.o _ _ ⟨by rw[HE.o];rfl,HFZ.o.setL (k:=0) (vs:=[.bool false,.string { data:=#[] },.int .i64 0]) (.inr (Nat.le_refl _))⟩)
   ·have HWOK:Hid ((W.isEmpty || (decide (1 < W.length) && jA 48 W))=false):=lh (by
     rw[HH0.o,HN.o]
     have h2:W.isEmpty=false:=by
      cases hw:W with
      | nil=>have:=HN.o;rw[hw] at this;exact absurd this.symm hn0
      | cons _ _=>rfl
     rw[h2]
     cases zb with
     | false=>simp
     | true=>simp;simp at hbad;omega)
    go_upto_region 7 with fail
    go_cut [36] (fun v wc=>v=.bool false/\w0=wc)
    case first=>
     by_cases hn1:1 < n
     ·have e1:decide ((1:Int) < (n:Int))=true:=dT (by omega)
      obtain rfl:zb=false:=by cases zb with | false=>rfl | true=>exact absurd ⟨hn1,rfl⟩ hbad
      go_wp2_with fail
      go_meet
      exact⟨rfl,rfl⟩
     ·have e1:decide ((1:Int) < (n:Int))=false:=dF (by omega)
      go_wp2_with fail
      go_meet
      exact⟨rfl,rfl⟩
    case rest=>
    obtain⟨rfl,rfl⟩:=hcut;clear hbad hix hzb HH0 HRUN HHD e0;obtain⟨al,hal,hsa0⟩:=lM s1 n hnl;obtain⟨r1,hr1,hsb0⟩:=mD s1 n hnl;have hsa:=hsa0 .i64;have hsb:=hsb0 .i64;have HAL:Hid (aA al=W):=lh (by rw[hal,HL.o,<- HN.o,<- HW.o];exact yN L);have HR:Hid (aA r1=R1):=lh (by rw[hr1,HL.o,<- HR1.o,wF,HW.o,HN.o]);have hrz:r1.size<=1000:=by rw[lA hr1,List.length_drop,cA];omega
    have haz:al.size<=1000:=by rw[lA hal,List.length_take,cA];omega
    have hrn:=gE r1;clear hal hr1 hsa0 hsb0;go_upto_region 12 with fail
    obtain⟨pt,hpt⟩:∃ pt,jA 46 R1=pt:=⟨_,rfl⟩;rw[hpt] at HP0
    go_cut [50] (fun v wc=>v=.bool pt/\w0=wc)
    case first=>
     cases hR:R1 with
     | nil=>
      rw[HR.o,hR,show([]:List UInt8).isEmpty=true from rfl] at hrn;rw[hR] at hpt;have HPT:=lh hpt;clear hR hpt;go_wp2_with fail
      go_meet
      exact⟨by rw[<- HPT.o];rfl,rfl⟩
     | cons c t=>
      rw[HR.o,hR,show(c :: t).isEmpty=false from rfl] at hrn;rw[hR,aAd c t 46 46 rfl] at hpt;have hix:∀ W,(Instr.index 9 (.string r1) (.int .i64 0)).run Tryz.prog W=.ok (.int .u8 (c.toNat:Int)) W:=fun W=>rA (s:=r1) (by rw[HR.o,hR];rfl) .i64 W;clear hR;go_wp2_with fail
      go_meet
      exact⟨rfl,rfl⟩
    case rest=>
    obtain⟨rfl,rfl⟩:=hcut;have HPT:=lh hpt;clear hpt hrn hsa hsb
    go_upto_if 50 with fail
    go_cut [0,6,7] (fun v0 v6 v7 wc=>∃ (r2 a2:ByteArray) (PS:List UInt8),v0=.string r2/\v6=.string a2/\v7=.int .i64 (-(PS.length:Int))/\fE (aA s)=jD neg pt W PS (rI (aA r2))/\(pt && PS.isEmpty)=false/\aA a2=W ++ PS/\r2.size<=1000/\a2.size<=3000/\PS.length<=1000/\PS.all yA=true/\w0=wc)
    case first=>
     cases pt with
     | false=>
      go_wp2_with fail
      go_meet
      exact⟨r1,al,[],rfl,rfl,rfl,by rw[HP0.o,HR.o];rfl,rfl,by rw[HAL.o,List.append_nil],hrz,by omega,by simp,rfl,rfl⟩
     | true=>
      have hr1:1<=r1.size:=by
       rw[<- cA,HR.o]
       cases h:R1 with
       | nil=>have:=HPT.o;rw[h] at this;cases this
       | cons _ _=>simp
      obtain⟨bh,hbh,hsl0⟩:=mD r1 1 hr1;have hsl:=hsl0 .i64;rw[show((1:Nat):Int)=1 from rfl] at hsl;rw[HR.o] at hbh;have hbz:bh.size=r1.size - 1:=by rw[lA hbh,List.length_drop,<- HR.o,cA]
      obtain⟨PS,hPS⟩:∃ PS,(R1.drop 1).takeWhile yA=PS:=⟨_,rfl⟩;obtain⟨pn,hpn⟩:∃ pn,PS.length=pn:=⟨_,rfl⟩;have hrun:=fun W'=>eW (w:=W') bh (by omega);rw[hbh,hPS,hpn] at hrun;have hpl:pn<=bh.size:=by rw[<- hpn,<- hPS,<- cA,hbh];exact mC _ _
      have HPS:=lh hPS;have HPN:=lh hpn;have HRUN:=lh hrun;have HBH:=lh hbh;clear hsl0 hPS hpn hrun hbh;go_wp2_with fail;refine(HRUN.o _).mono ?_;rintro e w1 ⟨rfl,rfl⟩
      by_cases hp0:pn=0
      ·subst hp0;have HTL:Hid (List.takeWhile yA R1.tail=[]):=lh (by rw[<- List.drop_one,HPS.o];exact List.length_eq_zero_iff.1 HPN.o);have HE:Hid (sA (aA s)=(gC .zero,2)):=lh (by rw[qG HP0.o];simp[HTL.o]);have z0:=HBZ.o.at_ (i:=0) rfl;have z1:=HBZ.o.at_ (i:=1) rfl;have z2:=HBZ.o.at_ (i:=2) rfl;have zf:=HBZ.o.free;go_wp2_with fail;have hb:=HBZ.o.setL (vs:=[.bool false,.string { data:=#[] },.int .i64 0]) rfl;exact bodyPost_ret (fA (d:=_) rfl rfl hb Tryz.underlying93 rfl (by kernel_rfl)) rfl (HQ.o _ _ ⟨by rw[HE.o];rfl,HFZ.o.setL (k:=0) (vs:=[.bool false,.string { data:=#[] },.int .i64 0]) (.inr (Nat.le_refl _))⟩)
      ·have e0:((pn:Int) == 0)=false:=by rw[beq_eq_false_iff_ne];omega
       obtain⟨ps,hps,hpsz,hss0⟩:=uH r1 1 (1+pn) (by omega) (by omega);obtain⟨r2,hr2,hsr0⟩:=mD r1 (1+pn) (by omega);have hss:=hss0 .i64 .i64;have hsr:=hsr0 .i64;rw[show((1+pn:Nat):Int)=1+(pn:Int) by omega,show((1:Nat):Int)=1 from rfl] at hss;rw[show((1+pn:Nat):Int)=1+(pn:Int) by omega] at hsr;have hw1:IntKind.i64.wrap (1+(pn:Int))=1+(pn:Int):=by rw[IntKind.wrap_i64];omega
       have hw2:IntKind.i64.wrap (-(pn:Int)) = -(pn:Int):=by rw[IntKind.wrap_i64];omega
       have HPB:Hid (aA ps=PS):=lh (by rw[hps,HR.o,show 1+pn - 1=pn by omega,<- HPN.o,<- HPS.o];exact yN _);have HR2:Hid (aA r2=(R1.drop 1).dropWhile yA):=lh (by rw[hr2,HR.o,wF,HPS.o,HPN.o,List.drop_drop]);have hr2z:r2.size<=1000:=by rw[lA hr2,List.length_drop,cA];omega
       have had:=fun W=>run_string_add_sum (P:=Tryz.prog) W al ps (by omega);have HSN:Hid (aA (al ++ ps)=W ++ PS):=lh (by rw[pH,HAL.o,HPB.o]);have hcz:(al ++ ps).size<=3000:=by rw[ByteArray.size_append];omega
       generalize al ++ ps=cat at *;clear hps hr2 hss0 hsr0 hpsz
       have HNE:Hid ((true && PS.isEmpty)=false):=lh (by
        cases h:PS with
        | nil=>have:=HPN.o;rw[h] at this;exact absurd this.symm hp0
        | cons _ _=>rfl)
       go_wp2_with fail
       go_meet
       exact⟨r2,cat,PS,rfl,rfl,by rw[HPN.o],by rw[HP0.o,HR2.o,<- HPS.o];rfl,HNE.o,HSN.o,hr2z,hcz,by rw[HPN.o];omega,by rw[<- HPS.o];exact List.all_takeWhile,rfl⟩
    case rest=>
    obtain⟨r2,a2,PS,rfl,rfl,rfl,hp2,hpe,ha2,hr2z,ha2z,hpz,hpf,rfl⟩:=hcut;have HA2F:Hid ((aA a2).all yA=true):=lh (by rw[ha2,List.all_append,hpf,<- HW.o,List.all_takeWhile];rfl);clear hpf;have HP2:=lh hp2;have HPE:=lh hpe;have HA2:=lh ha2;clear hp2 hpe ha2 HP0 HR HAL HR1 HL hrz haz hnl hz1 hn0 HPT;go_upto_region 19 with fail
    obtain⟨L2,hL2⟩:∃ L2,aA r2=L2:=⟨_,rfl⟩;have hrn:=gE r2;rw[hL2] at hrn;have HL2:=lh hL2;clear hL2;obtain⟨eb,heb⟩:∃ eb,(match L2 with | []=>false | c :: _=>eB c)=eb:=⟨_,rfl⟩
    go_cut [80] (fun v wc=>v=.bool eb/\w0=wc)
    case first=>
     cases hR:L2 with
     | nil=>
      rw[hR,show([]:List UInt8).isEmpty=true from rfl] at hrn;rw[hR] at heb;have HEB:=lh heb;clear hR heb;go_wp2_with fail
      go_meet
      exact⟨by rw[<- HEB.o],rfl⟩
     | cons c t=>
      rw[hR,show(c :: t).isEmpty=false from rfl] at hrn
      have heb2:((c.toNat:Int) == 101 || (c.toNat:Int) == 69)=eb:=by
       rw[<- heb,hR]
       show _=(c.toNat == 101 || c.toNat == 69)
       rw[Bool.eq_iff_iff,Bool.or_eq_true,Bool.or_eq_true,beq_iff_eq,beq_iff_eq,beq_iff_eq,beq_iff_eq];omega
      have hix:∀ W,(Instr.index 9 (.string r2) (.int .i64 0)).run Tryz.prog W=.ok (.int .u8 (c.toNat:Int)) W:=fun W=>rA (s:=r2) (by rw[HL2.o,hR];rfl) .i64 W;clear hR heb
      by_cases h101:((c.toNat:Int) == 101)=true
      ·rw[h101] at heb2;obtain rfl:eb=true:=heb2.symm;go_wp2_with fail
       go_meet
       exact⟨rfl,rfl⟩
      ·have h101:((c.toNat:Int) == 101)=false:=by simpa using h101
       rw[h101,Bool.false_or] at heb2;go_wp2_with fail
       go_meet
       exact⟨rfl,rfl⟩
    case rest=>
    obtain⟨rfl,rfl⟩:=hcut;have HEB:=lh heb;clear heb hrn
    go_upto_if 80 with fail
    go_cut [0,7] (fun v0 v7 wc=>∃ (r3:ByteArray) (xv:Int),v0=.string r3/\v7=.int .i64 (xv - (PS.length:Int))/\rI L2=(xv,aA r3,true) /\ -1000000<=xv/\xv<=1000000/\w0=wc)
    case first=>
     cases eb with
     | false=>
      have HX:Hid (rI L2=(0,L2,true)):=lh (aFY (fun c t h=>by have:=HEB.o;rw[h] at this;exact this));go_wp2_with fail
      go_meet
      exact⟨r2,0,rfl,by go_num,by rw[HX.o,HL2.o],by omega,by omega,rfl⟩
     | true=>
      cases hR:L2 with
      | nil=>have:=HEB.o;rw[hR] at this;cases this
      | cons c t=>
      have HEC:Hid (eB c=true):=lh (by have h:=HEB.o;rw[hR] at h;exact h);have HLC:=lh (HL2.o.trans hR);have HR0:=lh hR;have hr2p:1<=r2.size:=by rw[<- cA,HLC.o];simp
      obtain⟨s2,hs2,hsl0⟩:=mD r2 1 hr2p;have hsl:=hsl0 .i64;rw[show((1:Nat):Int)=1 from rfl] at hsl;have hs2z:s2.size<=1000:=by rw[lA hs2,List.length_drop,cA];omega
      rw[HLC.o,List.drop_one,List.tail_cons] at hs2;have HS2:=lh hs2;have hsn2:=gE s2;rw[hs2] at hsn2;rw[HLC.o] at HP2;rw[hR] at HEB HL2;clear hs2 hsl0 hR
      cases hT:t with
      | nil=>
       rw[hT,show([]:List UInt8).isEmpty=true from rfl] at hsn2;rw[hT] at HS2;have HM:Hid (jA 45 t=false):=lh (by rw[hT];rfl);have HRR:Hid ((if (false || jA 43 t)=true then t.drop 1 else t)=[]):=lh (by rw[hT];rfl);have HTT:=lh hT;clear hT;obtain⟨D,hD⟩:∃ D,([]:List UInt8).takeWhile yA=D:=⟨_,rfl⟩;obtain⟨dn,hdn⟩:∃ dn,D.length=dn:=⟨_,rfl⟩;have hex:=lQ HEC.o HM.o HRR.o;rw[hD] at hex;have hrun:=fun W'=>eW (w:=W') s2 (by omega);rw[HS2.o,hD,hdn] at hrun;have hdl:dn<=s2.size:=by rw[<- hdn,<- hD,<- cA,HS2.o];exact mC _ _
       have HD:=lh hD;have HDN:=lh hdn;have HEX:=lh hex;have HRUN:=lh hrun;clear hD hdn hex hrun;go_wp2_with fail;refine(HRUN.o _).mono ?_;rintro e w1 ⟨rfl,rfl⟩
       by_cases hd0:dn=0
       ·subst hd0;have HEX2:=HEX.o;rw[List.length_eq_zero_iff.1 HDN.o] at HEX2;have HEX3:=lh HEX2;clear HEX2;have HE:Hid (sA (aA s)=(gC .zero,2)):=lh (by rw[qG HP2.o];rw[HEX3.o,List.isEmpty_nil,Bool.not_true,Bool.not_false,Bool.true_or,Bool.true_or,Bool.true_or,Bool.true_or]);have z0:=HBZ.o.at_ (i:=0) rfl;have z1:=HBZ.o.at_ (i:=1) rfl;have z2:=HBZ.o.at_ (i:=2) rfl;have zf:=HBZ.o.free;go_wp2_with fail;have hb:=HBZ.o.setL (vs:=[.bool false,.string { data:=#[] },.int .i64 0]) rfl;exact bodyPost_ret (fA (d:=_) rfl rfl hb Tryz.underlying93 rfl (by kernel_rfl)) rfl (HQ.o _ _ ⟨by rw[HE.o];rfl,HFZ.o.setL (k:=0) (vs:=[.bool false,.string { data:=#[] },.int .i64 0]) (.inr (Nat.le_refl _))⟩)
       ·have e0:((dn:Int) == 0)=false:=by rw[beq_eq_false_iff_ne];omega
        obtain⟨ds,hds,hsd0⟩:=lM s2 dn hdl;obtain⟨r3,hr3,hsr0⟩:=mD s2 dn hdl;have hsd:=hsd0 .i64;have hsr:=hsr0 .i64;have HDS:Hid (aA ds=D):=lh (by rw[hds,HS2.o,<- HDN.o,<- HD.o];exact yN _);have HR3:Hid (aA r3=([]:List UInt8).dropWhile yA):=lh (by rw[hr3,HS2.o,wF,HD.o,HDN.o])
        have HNE:Hid ((!D.isEmpty)=true):=lh (by
         cases h:D with
         | nil=>have:=HDN.o;rw[h] at this;exact absurd this.symm hd0
         | cons _ _=>rfl)
        have hdz:ds.size<=1000:=by rw[lA hds,List.length_take,cA];omega
        have hsm:=fun W'=>rS (w:=W') ds (by omega) (by rw[HDS.o,<- HD.o];exact fun c hc=>List.all_eq_true.1 List.all_takeWhile c hc);rw[HDS.o] at hsm;have hsl9:=uK D;obtain⟨v,hv⟩:∃ v,dG D=v:=⟨_,rfl⟩;rw[hv] at hsm hsl9;have HV:=lh hv;have HSM:=lh hsm;have hw3:IntKind.i64.wrap (-(v:Int)) = -(v:Int):=by rw[IntKind.wrap_i64];omega
        have hw4:IntKind.i64.wrap (-(PS.length:Int)+v)=(v:Int) - PS.length:=by rw[IntKind.wrap_i64];omega
        have hw5:IntKind.i64.wrap (-(PS.length:Int) + -(v:Int)) = -(v:Int) - PS.length:=by rw[IntKind.wrap_i64];omega
        clear hds hr3 hsd0 hsr0 hv hsm;go_wp2_with fail;refine(HSM.o _).mono ?_;rintro e w1 ⟨rfl,rfl⟩;go_wp2_with fail
        go_meet
        exact⟨r3,(if false=true then -(v:Int) else (v:Int)),rfl,rfl,by rw[HR0.o,HEX.o,HR3.o,HV.o,HNE.o] <;> simp,by simp <;> omega,by simp <;> omega,rfl⟩
      | cons x u=>
       rw[hT,show(x :: u).isEmpty=false from rfl] at hsn2;rw[hT] at HS2;have hix:∀ W,(Instr.index 9 (.string s2) (.int .i64 0)).run Tryz.prog W=.ok (.int .u8 (x.toNat:Int)) W:=fun W=>rA (s:=s2) (by rw[HS2.o];rfl) .i64 W;have hm45:=(aAd x u 45 45 rfl).symm;have hm43:=(aAd x u 43 43 rfl).symm
       cases h45:jA 45 (x :: u) with
       | true=>
        rw[h45] at hm45;have HM:Hid (jA 45 t=true):=lh (by rw[hT];exact h45);have HRR:Hid ((if (true || jA 43 t)=true then t.drop 1 else t)=u):=lh (by rw[hT];rfl);obtain⟨s3,hs3,hsl5⟩:=mD s2 1 (by rw[<- cA,HS2.o];simp);have hsl6:=hsl5 .i64;rw[show((1:Nat):Int)=1 from rfl] at hsl6;have hs3z:s3.size<=1000:=by rw[lA hs3,List.length_drop,cA];omega
        rw[HS2.o,List.drop_one,List.tail_cons] at hs3;have HS3:=lh hs3;clear hs3 hsl5 hT h45 hm43;obtain⟨D,hD⟩:∃ D,u.takeWhile yA=D:=⟨_,rfl⟩;obtain⟨dn,hdn⟩:∃ dn,D.length=dn:=⟨_,rfl⟩;have hex:=lQ HEC.o HM.o HRR.o;rw[hD] at hex;have hrun:=fun W'=>eW (w:=W') s3 (by omega);rw[HS3.o,hD,hdn] at hrun;have hdl:dn<=s3.size:=by rw[<- hdn,<- hD,<- cA,HS3.o];exact mC _ _
        have HD:=lh hD;have HDN:=lh hdn;have HEX:=lh hex;have HRUN:=lh hrun;clear hD hdn hex hrun;go_wp2_with fail;refine(HRUN.o _).mono ?_;rintro e w1 ⟨rfl,rfl⟩
        by_cases hd0:dn=0
        ·subst hd0;have HEX2:=HEX.o;rw[List.length_eq_zero_iff.1 HDN.o] at HEX2;have HEX3:=lh HEX2;clear HEX2;have HE:Hid (sA (aA s)=(gC .zero,2)):=lh (by rw[qG HP2.o];rw[HEX3.o,List.isEmpty_nil,Bool.not_true,Bool.not_false,Bool.true_or,Bool.true_or,Bool.true_or,Bool.true_or]);have z0:=HBZ.o.at_ (i:=0) rfl;have z1:=HBZ.o.at_ (i:=1) rfl;have z2:=HBZ.o.at_ (i:=2) rfl;have zf:=HBZ.o.free;go_wp2_with fail;have hb:=HBZ.o.setL (vs:=[.bool false,.string { data:=#[] },.int .i64 0]) rfl;exact bodyPost_ret (fA (d:=_) rfl rfl hb Tryz.underlying93 rfl (by kernel_rfl)) rfl (HQ.o _ _ ⟨by rw[HE.o];rfl,HFZ.o.setL (k:=0) (vs:=[.bool false,.string { data:=#[] },.int .i64 0]) (.inr (Nat.le_refl _))⟩)
        ·have e0:((dn:Int) == 0)=false:=by rw[beq_eq_false_iff_ne];omega
         obtain⟨ds,hds,hsd0⟩:=lM s3 dn hdl;obtain⟨r3,hr3,hsr0⟩:=mD s3 dn hdl;have hsd:=hsd0 .i64;have hsr:=hsr0 .i64;have HDS:Hid (aA ds=D):=lh (by rw[hds,HS3.o,<- HDN.o,<- HD.o];exact yN _);have HR3:Hid (aA r3=u.dropWhile yA):=lh (by rw[hr3,HS3.o,wF,HD.o,HDN.o])
         have HNE:Hid ((!D.isEmpty)=true):=lh (by
          cases h:D with
          | nil=>have:=HDN.o;rw[h] at this;exact absurd this.symm hd0
          | cons _ _=>rfl)
         have hdz:ds.size<=1000:=by rw[lA hds,List.length_take,cA];omega
         have hsm:=fun W'=>rS (w:=W') ds (by omega) (by rw[HDS.o,<- HD.o];exact fun c hc=>List.all_eq_true.1 List.all_takeWhile c hc);rw[HDS.o] at hsm;have hsl9:=uK D;obtain⟨v,hv⟩:∃ v,dG D=v:=⟨_,rfl⟩;rw[hv] at hsm hsl9;have HV:=lh hv;have HSM:=lh hsm;have hw3:IntKind.i64.wrap (-(v:Int)) = -(v:Int):=by rw[IntKind.wrap_i64];omega
         have hw4:IntKind.i64.wrap (-(PS.length:Int)+v)=(v:Int) - PS.length:=by rw[IntKind.wrap_i64];omega
         have hw5:IntKind.i64.wrap (-(PS.length:Int) + -(v:Int)) = -(v:Int) - PS.length:=by rw[IntKind.wrap_i64];omega
         clear hds hr3 hsd0 hsr0 hv hsm;go_wp2_with fail;refine(HSM.o _).mono ?_;rintro e w1 ⟨rfl,rfl⟩;go_wp2_with fail
         go_meet
         exact⟨r3,(if true=true then -(v:Int) else (v:Int)),rfl,rfl,by rw[HR0.o,HEX.o,HR3.o,HV.o,HNE.o] <;> simp,by simp <;> omega,by simp <;> omega,rfl⟩
       | false=>
        rw[h45] at hm45;have HM:Hid (jA 45 t=false):=lh (by rw[hT];exact h45)
        cases h43:jA 43 (x :: u) with
        | true=>
         rw[h43] at hm43;have HRR:Hid ((if (false || jA 43 t)=true then t.drop 1 else t)=u):=lh (by rw[hT,h43];rfl);obtain⟨s3,hs3,hsl5⟩:=mD s2 1 (by rw[<- cA,HS2.o];simp);have hsl6:=hsl5 .i64;rw[show((1:Nat):Int)=1 from rfl] at hsl6;have hs3z:s3.size<=1000:=by rw[lA hs3,List.length_drop,cA];omega
         rw[HS2.o,List.drop_one,List.tail_cons] at hs3;have HS3:=lh hs3;clear hs3 hsl5 hT h45 h43;obtain⟨D,hD⟩:∃ D,u.takeWhile yA=D:=⟨_,rfl⟩;obtain⟨dn,hdn⟩:∃ dn,D.length=dn:=⟨_,rfl⟩;have hex:=lQ HEC.o HM.o HRR.o;rw[hD] at hex;have hrun:=fun W'=>eW (w:=W') s3 (by omega);rw[HS3.o,hD,hdn] at hrun;have hdl:dn<=s3.size:=by rw[<- hdn,<- hD,<- cA,HS3.o];exact mC _ _
         have HD:=lh hD;have HDN:=lh hdn;have HEX:=lh hex;have HRUN:=lh hrun;clear hD hdn hex hrun;go_wp2_with fail;refine(HRUN.o _).mono ?_;rintro e w1 ⟨rfl,rfl⟩
         by_cases hd0:dn=0
         ·subst hd0;have HEX2:=HEX.o;rw[List.length_eq_zero_iff.1 HDN.o] at HEX2;have HEX3:=lh HEX2;clear HEX2;have HE:Hid (sA (aA s)=(gC .zero,2)):=lh (by rw[qG HP2.o];rw[HEX3.o,List.isEmpty_nil,Bool.not_true,Bool.not_false,Bool.true_or,Bool.true_or,Bool.true_or,Bool.true_or]);have z0:=HBZ.o.at_ (i:=0) rfl;have z1:=HBZ.o.at_ (i:=1) rfl;have z2:=HBZ.o.at_ (i:=2) rfl;have zf:=HBZ.o.free;go_wp2_with fail;have hb:=HBZ.o.setL (vs:=[.bool false,.string { data:=#[] },.int .i64 0]) rfl;exact bodyPost_ret (fA (d:=_) rfl rfl hb Tryz.underlying93 rfl (by kernel_rfl)) rfl (HQ.o _ _ ⟨by rw[HE.o];rfl,HFZ.o.setL (k:=0) (vs:=[.bool false,.string { data:=#[] },.int .i64 0]) (.inr (Nat.le_refl _))⟩)
         ·have e0:((dn:Int) == 0)=false:=by rw[beq_eq_false_iff_ne];omega
          obtain⟨ds,hds,hsd0⟩:=lM s3 dn hdl;obtain⟨r3,hr3,hsr0⟩:=mD s3 dn hdl;have hsd:=hsd0 .i64;have hsr:=hsr0 .i64;have HDS:Hid (aA ds=D):=lh (by rw[hds,HS3.o,<- HDN.o,<- HD.o];exact yN _);have HR3:Hid (aA r3=u.dropWhile yA):=lh (by rw[hr3,HS3.o,wF,HD.o,HDN.o])
          have HNE:Hid ((!D.isEmpty)=true):=lh (by
           cases h:D with
           | nil=>have:=HDN.o;rw[h] at this;exact absurd this.symm hd0
           | cons _ _=>rfl)
          have hdz:ds.size<=1000:=by rw[lA hds,List.length_take,cA];omega
          have hsm:=fun W'=>rS (w:=W') ds (by omega) (by rw[HDS.o,<- HD.o];exact fun c hc=>List.all_eq_true.1 List.all_takeWhile c hc);rw[HDS.o] at hsm;have hsl9:=uK D;obtain⟨v,hv⟩:∃ v,dG D=v:=⟨_,rfl⟩;rw[hv] at hsm hsl9;have HV:=lh hv;have HSM:=lh hsm;have hw3:IntKind.i64.wrap (-(v:Int)) = -(v:Int):=by rw[IntKind.wrap_i64];omega
          have hw4:IntKind.i64.wrap (-(PS.length:Int)+v)=(v:Int) - PS.length:=by rw[IntKind.wrap_i64];omega
          have hw5:IntKind.i64.wrap (-(PS.length:Int) + -(v:Int)) = -(v:Int) - PS.length:=by rw[IntKind.wrap_i64];omega
          clear hds hr3 hsd0 hsr0 hv hsm;go_wp2_with fail;refine(HSM.o _).mono ?_;rintro e w1 ⟨rfl,rfl⟩;go_wp2_with fail
          go_meet
          exact⟨r3,(if false=true then -(v:Int) else (v:Int)),rfl,rfl,by rw[HR0.o,HEX.o,HR3.o,HV.o,HNE.o] <;> simp,by simp <;> omega,by simp <;> omega,rfl⟩
        | false=>
         rw[h43] at hm43;have HRR:Hid ((if (false || jA 43 t)=true then t.drop 1 else t)=x :: u):=lh (by rw[hT,h43];rfl);clear hT h45 h43;obtain⟨D,hD⟩:∃ D,(x :: u).takeWhile yA=D:=⟨_,rfl⟩;obtain⟨dn,hdn⟩:∃ dn,D.length=dn:=⟨_,rfl⟩;have hex:=lQ HEC.o HM.o HRR.o;rw[hD] at hex;have hrun:=fun W'=>eW (w:=W') s2 (by omega);rw[HS2.o,hD,hdn] at hrun;have hdl:dn<=s2.size:=by rw[<- hdn,<- hD,<- cA,HS2.o];exact mC _ _
         have HD:=lh hD;have HDN:=lh hdn;have HEX:=lh hex;have HRUN:=lh hrun;clear hD hdn hex hrun;go_wp2_with fail;refine(HRUN.o _).mono ?_;rintro e w1 ⟨rfl,rfl⟩
         by_cases hd0:dn=0
         ·subst hd0;have HEX2:=HEX.o;rw[List.length_eq_zero_iff.1 HDN.o] at HEX2;have HEX3:=lh HEX2;clear HEX2;have HE:Hid (sA (aA s)=(gC .zero,2)):=lh (by rw[qG HP2.o];rw[HEX3.o,List.isEmpty_nil,Bool.not_true,Bool.not_false,Bool.true_or,Bool.true_or,Bool.true_or,Bool.true_or]);have z0:=HBZ.o.at_ (i:=0) rfl;have z1:=HBZ.o.at_ (i:=1) rfl;have z2:=HBZ.o.at_ (i:=2) rfl;have zf:=HBZ.o.free;go_wp2_with fail;have hb:=HBZ.o.setL (vs:=[.bool false,.string { data:=#[] },.int .i64 0]) rfl;exact bodyPost_ret (fA (d:=_) rfl rfl hb Tryz.underlying93 rfl (by kernel_rfl)) rfl (HQ.o _ _ ⟨by rw[HE.o];rfl,HFZ.o.setL (k:=0) (vs:=[.bool false,.string { data:=#[] },.int .i64 0]) (.inr (Nat.le_refl _))⟩)
         ·have e0:((dn:Int) == 0)=false:=by rw[beq_eq_false_iff_ne];omega
          obtain⟨ds,hds,hsd0⟩:=lM s2 dn hdl;obtain⟨r3,hr3,hsr0⟩:=mD s2 dn hdl;have hsd:=hsd0 .i64;have hsr:=hsr0 .i64;have HDS:Hid (aA ds=D):=lh (by rw[hds,HS2.o,<- HDN.o,<- HD.o];exact yN _);have HR3:Hid (aA r3=(x :: u).dropWhile yA):=lh (by rw[hr3,HS2.o,wF,HD.o,HDN.o])
          have HNE:Hid ((!D.isEmpty)=true):=lh (by
           cases h:D with
           | nil=>have:=HDN.o;rw[h] at this;exact absurd this.symm hd0
           | cons _ _=>rfl)
          have hdz:ds.size<=1000:=by rw[lA hds,List.length_take,cA];omega
          have hsm:=fun W'=>rS (w:=W') ds (by omega) (by rw[HDS.o,<- HD.o];exact fun c hc=>List.all_eq_true.1 List.all_takeWhile c hc);rw[HDS.o] at hsm;have hsl9:=uK D;obtain⟨v,hv⟩:∃ v,dG D=v:=⟨_,rfl⟩;rw[hv] at hsm hsl9;have HV:=lh hv;have HSM:=lh hsm;have hw3:IntKind.i64.wrap (-(v:Int)) = -(v:Int):=by rw[IntKind.wrap_i64];omega
          have hw4:IntKind.i64.wrap (-(PS.length:Int)+v)=(v:Int) - PS.length:=by rw[IntKind.wrap_i64];omega
          have hw5:IntKind.i64.wrap (-(PS.length:Int) + -(v:Int)) = -(v:Int) - PS.length:=by rw[IntKind.wrap_i64];omega
          clear hds hr3 hsd0 hsr0 hv hsm;go_wp2_with fail;refine(HSM.o _).mono ?_;rintro e w1 ⟨rfl,rfl⟩;go_wp2_with fail
          go_meet
          exact⟨r3,(if false=true then -(v:Int) else (v:Int)),rfl,rfl,by rw[HR0.o,HEX.o,HR3.o,HV.o,HNE.o] <;> simp,by simp <;> omega,by simp <;> omega,rfl⟩
    case rest=>
    obtain⟨r3,xv,rfl,rfl,hx,hx1,hx2,rfl⟩:=hcut;have HX:=lh hx;rw[HL2.o,hx] at HP2;clear hx HEB HL2;have hrn:=gE r3
    cases hre:(aA r3).isEmpty with
    | false=>
     rw[hre] at hrn;have HRE:=lh hre;clear hre;have HE:Hid (sA (aA s)=(gC .zero,2)):=lh (by rw[qG HP2.o];simp[HRE.o]);have z0:=HBZ.o.at_ (i:=0) rfl;have z1:=HBZ.o.at_ (i:=1) rfl;have z2:=HBZ.o.at_ (i:=2) rfl;have zf:=HBZ.o.free;go_wp2_with fail;have hb:=HBZ.o.setL (vs:=[.bool false,.string { data:=#[] },.int .i64 0]) rfl;exact bodyPost_ret (fA (d:=_) rfl rfl hb Tryz.underlying93 rfl (by kernel_rfl)) rfl (HQ.o _ _ ⟨by rw[HE.o];rfl,HFZ.o.setL (k:=0) (vs:=[.bool false,.string { data:=#[] },.int .i64 0]) (.inr (Nat.le_refl _))⟩)
    | true=>
     rw[hre] at hrn
     have hgood:(!((xv,aA r3,true):Int × List UInt8 × Bool).2.2 || !((xv,aA r3,true):Int × List UInt8 × Bool).2.1.isEmpty || W.isEmpty || (decide (1 < W.length) && jA 48 W) || (pt && PS.isEmpty))=false:=by
      rw[HPE.o,Bool.or_false];simp only[hre,Bool.not_true,Bool.false_or];exact HWOK.o
     have HPD:Hid (sA (aA s)=if (qI neg (aA a2) (xv - (PS.length:Int))).sane=true then (gC (qI neg (aA a2) (xv - (PS.length:Int))),0) else (gC .zero,4)):=lh (by
      unfold sA;rw[HP2.o];unfold jD;rw[if_neg (by rw[hgood];simp),aFV,HA2.o];generalize qI neg (W ++ PS) (xv - (PS.length:Int))=B
      cases B.sane <;> rfl)
     obtain⟨pn,hpn⟩:∃ pn,PS.length=pn:=⟨_,rfl⟩;rw[hpn] at HPD hpz ⊢;have hform:lU (qI neg (aA a2) (xv - (pn:Int))):=aAc neg _ HA2F.o (by rw[cA];omega) (by omega) (by omega);have HFO:=lh (fun W'=>aHp (w:=W') neg a2 (xv - (pn:Int)) (by omega) (by omega) (by omega));have HTO:=lh (fun W'=>aHq (w:=W') _ hform);clear hre hgood hpn hform;go_wp2_with fail;refine(HFO.o _).mono ?_;rintro e w1 ⟨rfl,hf1⟩;have HF1:=lh (HFZ.o.trans hf1);have HB1:=lh (HBZ.o.fr hf1);unfold aED at HTO;generalize qI neg (aA a2) (xv - (pn:Int))=B at *;clear hf1 HFO;go_wp2_with fail;refine(HTO.o _).mono ?_;rintro e w2 ⟨rfl,hf2⟩;have HF2:=lh (HF1.o.trans hf2);have HB2:=lh (HB1.o.fr hf2);clear hf2 HTO;have z0:=HB2.o.at_ (i:=0) rfl;have z1:=HB2.o.at_ (i:=1) rfl;have z2:=HB2.o.at_ (i:=2) rfl;have zf:=HB2.o.free
     cases hbs:B.sane with
     | true=>
      rw[hbs] at HPD;obtain⟨bneg,bdg,bex⟩:=B;unfold gC S8 at HPD ⊢;simp only[if_true] at HPD ⊢;obtain⟨dx,hdx⟩:∃ dx:ByteArray,dx=⟨bdg.toArray⟩:=⟨_,rfl⟩;rw[<- hdx] at HPD ⊢;clear hdx hbs;go_wp2_with fail;have hb:=HB2.o.setL (vs:=[.bool bneg,.string dx,.int .i64 bex]) rfl;exact bodyPost_ret (fA (d:=_) rfl rfl hb Tryz.underlying93 rfl (by kernel_rfl)) rfl (HQ.o _ _ ⟨by rw[HPD.o];rfl,HF2.o.setL (k:=0) (vs:=[.bool bneg,.string dx,.int .i64 bex]) (.inr (Nat.le_refl _))⟩)
     | false=>
      rw[hbs] at HPD;simp only[Bool.false_eq_true,if_false] at HPD ⊢;rw[show gC .zero=.agg #[.bool false,.string { data:=#[] },.int .i64 0] from rfl] at HPD ⊢;clear hbs;go_wp2_with fail;have hb:=HB2.o.setL (vs:=[.bool false,.string { data:=#[] },.int .i64 0]) rfl;exact bodyPost_ret (fA (d:=_) rfl rfl hb Tryz.underlying93 rfl (by kernel_rfl)) rfl (HQ.o _ _ ⟨by rw[HPD.o];rfl,HF2.o.setL (k:=0) (vs:=[.bool false,.string { data:=#[] },.int .i64 0]) (.inr (Nat.le_refl _))⟩)
end
end Go.Proofs.YtbggkiebfflcdaaGreatDoor
