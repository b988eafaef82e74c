/-
  Joined by join.py: Ff Fg Fh Str Fi
-/
import Derived.Lib.OthersKept
import Derived.Laws.BytesArg
import Derived.Test.YtbggkiebfflcdaaGreatDoorJpp5
set_option maxRecDepth 100000
set_option maxHeartbeats 32000000
namespace Go.Proofs.YtbggkiebfflcdaaGreatDoor
section
open Go.RowKit Go.Shelf
def sA (l:List UInt8):Value × Int:=match fE l with
 | .ok d=>(gC d,0)
 | .error e=>(gC .zero,e)
def jD (neg point:Bool) (whole part:List UInt8) (x:Int × List UInt8 × Bool):Except Int Dcm:=
 if (!x.2.2 || !x.2.1.isEmpty || whole.isEmpty || (decide (1 < whole.length) && jA 48 whole) || (point && part.isEmpty))=true then .error 2 else mG neg (whole ++ part) (x.1 - part.length)
theorem xQ {s s1:List UInt8} {neg pt:Bool} (hl:s.length<=1000) (h1:jA 45 s=neg) (h2:s1=if neg=true then s.drop 1 else s) (h3:jA 46 (s1.dropWhile yA)=pt):
  fE s=jD neg pt (s1.takeWhile yA) (if pt=true then ((s1.dropWhile yA).drop 1).takeWhile yA else []) (rI (if pt=true then ((s1.dropWhile yA).drop 1).dropWhile yA else s1.dropWhile yA)):=by
 unfold fE jD;rw[if_neg (by omega)]
 simp only
 rw[h1,<- h2,h3]
theorem aBy (s:ByteArray) (c:UInt8) (w:World):Calls Tryz.prog 156 #[.string s,.string { data:=#[c] }] w fun e w'=>∃ t,e=.returned (.tuple #[.string t,.bool (jA c (aA s))])/\aA t=(if jA c (aA s)=true then (aA s).drop 1 else aA s)/\w=w':=by
 refine(Tryz.strings_CutPrefix s { data:=#[c] } w).mono ?_;rintro e w' ⟨rfl,rfl⟩
 have:Lib.hasPrefix s.data.toList [c]=jA c (aA s):=by
  unfold Lib.hasPrefix jA aA
  cases s.data.toList with
  | nil=>rfl
  | cons x xs=>simp[List.isPrefixOf,Bool.beq_comm]
 refine⟨_,by rw[<- this],?_,rfl⟩;rw[<- this]
 rfl
theorem aBz (l:List UInt8):-1000000<=(rI l).1/\(rI l).1<=1000000:=by
 unfold rI
 match l with
 | []=>simp
 | c :: cs=>
  simp only
  split
  ·have:=uK ((if (jA 45 cs || jA 43 cs)=true then List.drop 1 cs else cs).takeWhile yA)
   simp only
   split <;> omega
  ·simp
theorem kS {l:List UInt8} {c:UInt8} (h:l[0]? = some c):jA 48 l=((c.toNat:Int) == 48):=by
 match l,h with
 | x :: xs,h=>
  simp only[List.getElem?_cons_zero,Option.some.injEq] at h;subst h
  exact eq_of_beq (qD (fun c=>jA 48 (c :: xs) == ((c.toNat:Int) == 48)) (by
   intro n;have:∀ n:Fin 256,(some (UInt8.ofNat n.val) == some 48) == (((UInt8.ofNat n.val).toNat:Int) == 48):=by decide +kernel
   exact this n) x)
theorem jV {w:World} (s:ByteArray) (hs:s.size<=140737488355328):RV 108 #[.string s] w (.tuple #[(sA (aA s)).1,.int .i64 (sA (aA s)).2]):=by
 refine bA fun R HQ=>?_;have hfz:=(Fr.refl [] w).alloc (.cells #[.bool false,.string { data:=#[] },.int .i64 0] 93);have hbz:=Blk.new w 93 [.bool false,.string { data:=#[] },.int .i64 0];have HFZ:=lh hfz;have HBZ:=lh hbz;clear hfz hbz
 by_cases h1:1000 < s.size
 ·have HE:Hid (sA (aA s)=(gC .zero,4)):=lh (by unfold sA fE;rw[if_pos (by rw[cA];exact h1)])
  go_enter Tryz.func108,Tryz.ntmps108
  go_wp2_with fail;exact bodyPost_ret (fA (d:=_) rfl rfl HBZ.o Tryz.underlying93 rfl (by kernel_rfl)) rfl (HQ.o _ _ ⟨by rw[HE.o];rfl,HFZ.o⟩)
 ·have hsz:s.size<=1000:=by omega
  go_enter Tryz.func108,Tryz.ntmps108
  go_wp2_with fail;refine(aBy s 45 _).mono ?_;rintro e w1 ⟨s1,rfl,hs1,rfl⟩;obtain⟨neg,hneg⟩:∃ neg,jA 45 (aA s)=neg:=⟨_,rfl⟩;rw[hneg] at hs1 ⊢
  have hz1:s1.size<=1000:=by
   rw[lA hs1];have:=cA s
   split
   ·rw[List.length_drop];omega
   ·omega
  have HS1:=lh hs1;have HNEG:=lh hneg;clear hs1 hneg;go_wp2_with fail;refine(mM s1 (by omega)).mono ?_;rintro e w2 ⟨wh,r1,rfl,hwh,hr1,hf2⟩;have HWH:=lh hwh;have HR1:=lh hr1
  have hwz:wh.size<=1000:=by
   rw[lA hwh];have:=mC yA (aA s1);have:=cA s1;omega
  have hrz:r1.size<=1000:=by
   rw[lA hr1];have:=cE yA (aA s1);have:=cA s1;omega
  have HF2:=lh (HFZ.o.trans hf2);have HB2:=lh (HBZ.o.fr hf2);clear hwh hr1 hf2;go_wp2_with fail;refine(aBy r1 46 _).mono ?_;rintro e w3 ⟨bh,rfl,hbh,rfl⟩;obtain⟨pt,hpt⟩:∃ pt,jA 46 (aA r1)=pt:=⟨_,rfl⟩;rw[hpt] at hbh ⊢
  have hbz:bh.size<=1000:=by
   rw[lA hbh];have:=cA r1
   split
   ·rw[List.length_drop];omega
   ·omega
  have HPT:=lh hpt;have HP0:Hid (fE (aA s)=_):=lh (xQ (s1:=aA s1) (pt:=pt) (by rw[cA];omega) HNEG.o HS1.o (by rw[<- HR1.o];exact hpt))
  cases pt with
  | true=>
   have hbh':aA bh=(aA r1).drop 1:=hbh;have HBH:=lh hbh';clear hbh hbh' hpt;go_wp2_with fail;refine(mM bh (by omega)).mono ?_;rintro e w4 ⟨ps,r2,rfl,hps,hr2,hf4⟩
   have hpz:ps.size<=1000:=by
    rw[lA hps];have:=mC yA (aA bh);have:=cA bh;omega
   have hrz2:r2.size<=1000:=by
    rw[lA hr2];have:=cE yA (aA bh);have:=cA bh;omega
   have HPS:=lh hps;have HR2:=lh hr2;have HFK:=lh (HF2.o.trans hf4);have HBK:=lh (HB2.o.fr hf4);clear hps hr2 hf4
   have HP:Hid (fE (aA s)=jD neg true (aA wh) (aA ps) (rI (aA r2))):=lh (by
    rw[HP0.o,HPS.o,HR2.o,HBH.o,HWH.o,HR1.o];rfl)
   go_wp2_with fail;refine(rP r2 (by omega)).mono ?_;rintro e wN ⟨xr,rfl,hxr,hfN⟩;obtain⟨xv,hxv⟩:=nm (rI (aA r2));have hxb:-1000000<=xv.1/\xv.1<=1000000:=by rw[hxv];exact aBz _
   rw[<- hxv] at hxr ⊢;have HFN:=lh (HFK.o.trans hfN);have HBN:=lh (HBK.o.fr hfN);have z0:=HBN.o.at_ (i:=0) rfl;have z1:=HBN.o.at_ (i:=1) rfl;have z2:=HBN.o.at_ (i:=2) rfl;have zf:=HBN.o.free;have hxn:=gE xr;have hwn:=gE wh;rw[hxr] at hxn;obtain⟨xe,xl,xo⟩:=xv;have HXV:=lh hxv
   simp only at hxn hxb ⊢
   clear hxv hxr hfN
   by_cases hw1:1 < wh.size
   ·have d1:decide (1 < (wh.size:Int))=true:=dT (by omega)
    have d1':decide (1 < (aA wh).length)=true:=by rw[decide_eq_true_eq,cA];exact hw1
    obtain⟨c0,hc0⟩:∃ c0,(aA wh)[0]? = some c0:=gx (by rw[cA];omega);have hx0:=rA (s:=wh) (i:=0) hc0 .i64;rw[show((0:Nat):Int)=0 from rfl] at hx0;have hzz:((c0.toNat:Int) == 48)=jA 48 (aA wh):=by rw[kS hc0]
    have hwe:(aA wh).isEmpty=false:=by
     cases hl:aA wh with
     | nil=>rw[hl] at hc0;cases hc0
     | cons x xs=>rfl
    rw[hwe] at hwn;have HWE:=lh hwe
    cases hzz2:jA 48 (aA wh) with
    | true=>
     rw[hzz2] at hzz;have HZZ:=lh hzz2;have HD1:=lh d1';clear hzz2 d1' hc0 hwe
     cases xo with
     | false=>
      have HE:Hid (sA (aA s)=(gC .zero,2)):=lh (by
       unfold sA;rw[HP.o,<- HXV.o];unfold jD;rw[if_pos (by simp)])
      go_wp2_with fail;have hb:=HBN.o.setL (vs:=[.bool false,.string { data:=#[] },.int .i64 0]) rfl;exact bodyPost_ret (fA (d:=_) rfl rfl hb Tryz.underlying93 rfl (by kernel_rfl)) rfl (HQ.o _ _ ⟨by rw[HE.o];rfl,HFN.o.setL (k:=0) (vs:=[.bool false,.string { data:=#[] },.int .i64 0]) (.inr (Nat.le_refl _))⟩)
     | true=>
      cases hxl:xl.isEmpty
      case' false=>
       rw[hxl] at hxn
       have HE:Hid (sA (aA s)=(gC .zero,2)):=lh (by
        unfold sA;rw[HP.o,<- HXV.o];unfold jD;rw[if_pos (by simp[hxl])])
      case' true=>
       rw[hxl] at hxn
       have HE:Hid (sA (aA s)=(gC .zero,2)):=lh (by
        unfold sA;rw[HP.o,<- HXV.o];unfold jD;rw[if_pos (by simp[HZZ.o,of_decide_eq_true HD1.o])])
      all_goals
       go_wp2_with fail;have hb:=HBN.o.setL (vs:=[.bool false,.string { data:=#[] },.int .i64 0]) rfl;exact bodyPost_ret (fA (d:=_) rfl rfl hb Tryz.underlying93 rfl (by kernel_rfl)) rfl (HQ.o _ _ ⟨by rw[HE.o];rfl,HFN.o.setL (k:=0) (vs:=[.bool false,.string { data:=#[] },.int .i64 0]) (.inr (Nat.le_refl _))⟩)
    | false=>
     rw[hzz2] at hzz;have HZ:Hid ((decide (1 < (aA wh).length) && jA 48 (aA wh))=false):=lh (by rw[hzz2,Bool.and_false]);clear hzz2 d1' hc0 hwe
     cases xo with
     | false=>
      have HE:Hid (sA (aA s)=(gC .zero,2)):=lh (by
       unfold sA;rw[HP.o,<- HXV.o];unfold jD;rw[if_pos (by simp)])
      go_wp2_with fail;have hb:=HBN.o.setL (vs:=[.bool false,.string { data:=#[] },.int .i64 0]) rfl;exact bodyPost_ret (fA (d:=_) rfl rfl hb Tryz.underlying93 rfl (by kernel_rfl)) rfl (HQ.o _ _ ⟨by rw[HE.o];rfl,HFN.o.setL (k:=0) (vs:=[.bool false,.string { data:=#[] },.int .i64 0]) (.inr (Nat.le_refl _))⟩)
     | true=>
      cases hxl:xl.isEmpty with
      | false=>
       rw[hxl] at hxn
       have HE:Hid (sA (aA s)=(gC .zero,2)):=lh (by
        unfold sA;rw[HP.o,<- HXV.o];unfold jD;rw[if_pos (by simp[hxl])])
       go_wp2_with fail;have hb:=HBN.o.setL (vs:=[.bool false,.string { data:=#[] },.int .i64 0]) rfl;exact bodyPost_ret (fA (d:=_) rfl rfl hb Tryz.underlying93 rfl (by kernel_rfl)) rfl (HQ.o _ _ ⟨by rw[HE.o];rfl,HFN.o.setL (k:=0) (vs:=[.bool false,.string { data:=#[] },.int .i64 0]) (.inr (Nat.le_refl _))⟩)
      | true=>
       rw[hxl] at hxn;have HXL:=lh hxl;clear hxl;have hpn:=gE ps
       cases hpe:(aA ps).isEmpty with
       | true=>
        rw[hpe] at hpn
        have HE:Hid (sA (aA s)=(gC .zero,2)):=lh (by
         unfold sA;rw[HP.o,<- HXV.o];unfold jD;rw[if_pos (by simp[hpe])])
        go_wp2_with fail;have hb:=HBN.o.setL (vs:=[.bool false,.string { data:=#[] },.int .i64 0]) rfl;exact bodyPost_ret (fA (d:=_) rfl rfl hb Tryz.underlying93 rfl (by kernel_rfl)) rfl (HQ.o _ _ ⟨by rw[HE.o];rfl,HFN.o.setL (k:=0) (vs:=[.bool false,.string { data:=#[] },.int .i64 0]) (.inr (Nat.le_refl _))⟩)
       | false=>
        rw[hpe] at hpn;have HPE:=lh hpe;have hcs:(wh ++ ps).size<=1000000:=by rw[ByteArray.size_append];omega
        have had:=fun W=>run_string_add_sum (P:=Tryz.prog) W wh ps (by omega);have HSN:Hid (aA (wh ++ ps)=aA wh ++ aA ps):=lh (pH _ _);obtain⟨cat,hcat⟩:∃ cat,wh ++ ps=cat:=⟨_,rfl⟩;rw[hcat] at hcs had HSN;clear hpe hcat;have HG:Hid ((!true || !xl.isEmpty || (aA wh).isEmpty || (decide (1 < (aA wh).length) && jA 48 (aA wh)) || (true && (aA ps).isEmpty))=false):=lh (by rw[HXL.o,HWE.o,HZ.o,HPE.o];rfl);have HCT:Hid (mG neg (aA wh ++ aA ps) (xe - ((aA ps).length:Int))=mG neg (aA cat) (xe - (ps.size:Int))):=lh (by rw[HSN.o,cA])
        have HE:Hid (sA (aA s)=wI neg (aA cat) (xe - (ps.size:Int))):=lh (by
         unfold sA wI;rw[HP.o,<- HXV.o];unfold jD;rw[if_neg (by rw[HG.o];simp),HCT.o]
         all_goals (cases mG neg (aA cat) (xe - (ps.size:Int)) <;> rfl))
        go_wp2_with fail;refine(tP neg cat (xe - (ps.size:Int)) (by omega) (by omega) (by omega)).mono ?_;rintro e w6 ⟨rfl,hf6⟩;rw[<- HE.o];have HF6:=lh (HFN.o.trans hf6);have hb6:=HBN.o.fr hf6;have q0:=hb6.at_ (i:=0) rfl;have q1:=hb6.at_ (i:=1) rfl;have q2:=hb6.at_ (i:=2) rfl;have qf:=hb6.free;have HB6:=lh hb6
        obtain⟨D,hD⟩:∃ D:Dcm,(sA (aA s)).1=gC D:=by
         unfold sA
         cases fE (aA s) with
         | ok d=>exact⟨d,rfl⟩
         | error e=>exact⟨.zero,rfl⟩
        have HD:=lh hD;rw[hD];unfold gC S8;clear hf6 hb6 hD z0 z1 z2 zf;obtain⟨dx,hdx⟩:∃ dx:ByteArray,dx=⟨D.digits.toArray⟩:=⟨_,rfl⟩;rw[<- hdx];have HDX:=lh hdx;clear hdx;go_wp2_with fail;have hb:=HB6.o.setL (vs:=[.bool D.neg,.string dx,.int .i64 D.exp]) rfl;exact bodyPost_ret (fA (d:=_) rfl rfl hb Tryz.underlying93 rfl (by kernel_rfl)) rfl (HQ.o _ _ ⟨by rw[HD.o];unfold gC S8;rw[<- HDX.o];rfl,HF6.o.setL (k:=0) (vs:=[.bool D.neg,.string dx,.int .i64 D.exp]) (.inr (Nat.le_refl _))⟩)
   ·have d1:decide (1 < (wh.size:Int))=false:=dF (by omega)
    have HZ:Hid ((decide (1 < (aA wh).length) && jA 48 (aA wh))=false):=lh (by rw[decide_eq_false (by rw[cA];exact hw1),Bool.false_and])
    cases xo with
    | false=>
     have HE:Hid (sA (aA s)=(gC .zero,2)):=lh (by
      unfold sA;rw[HP.o,<- HXV.o];unfold jD;rw[if_pos (by simp)])
     go_wp2_with fail;have hb:=HBN.o.setL (vs:=[.bool false,.string { data:=#[] },.int .i64 0]) rfl;exact bodyPost_ret (fA (d:=_) rfl rfl hb Tryz.underlying93 rfl (by kernel_rfl)) rfl (HQ.o _ _ ⟨by rw[HE.o];rfl,HFN.o.setL (k:=0) (vs:=[.bool false,.string { data:=#[] },.int .i64 0]) (.inr (Nat.le_refl _))⟩)
    | true=>
     cases hxl:xl.isEmpty with
     | false=>
      rw[hxl] at hxn
      have HE:Hid (sA (aA s)=(gC .zero,2)):=lh (by
       unfold sA;rw[HP.o,<- HXV.o];unfold jD;rw[if_pos (by simp[hxl])])
      go_wp2_with fail;have hb:=HBN.o.setL (vs:=[.bool false,.string { data:=#[] },.int .i64 0]) rfl;exact bodyPost_ret (fA (d:=_) rfl rfl hb Tryz.underlying93 rfl (by kernel_rfl)) rfl (HQ.o _ _ ⟨by rw[HE.o];rfl,HFN.o.setL (k:=0) (vs:=[.bool false,.string { data:=#[] },.int .i64 0]) (.inr (Nat.le_refl _))⟩)
     | true=>
      rw[hxl] at hxn;have HXL:=lh hxl
      cases hwe:(aA wh).isEmpty with
      | true=>
       rw[hwe] at hwn;have HWE:=lh hwe;clear hwe hxl
       have HE:Hid (sA (aA s)=(gC .zero,2)):=lh (by
        unfold sA;rw[HP.o,<- HXV.o];unfold jD;rw[if_pos (by simp[HWE.o])])
       go_wp2_with fail;have hb:=HBN.o.setL (vs:=[.bool false,.string { data:=#[] },.int .i64 0]) rfl;exact bodyPost_ret (fA (d:=_) rfl rfl hb Tryz.underlying93 rfl (by kernel_rfl)) rfl (HQ.o _ _ ⟨by rw[HE.o];rfl,HFN.o.setL (k:=0) (vs:=[.bool false,.string { data:=#[] },.int .i64 0]) (.inr (Nat.le_refl _))⟩)
      | false=>
       rw[hwe] at hwn;have HWE:=lh hwe;clear hwe hxl;have hpn:=gE ps
       cases hpe:(aA ps).isEmpty with
       | true=>
        rw[hpe] at hpn
        have HE:Hid (sA (aA s)=(gC .zero,2)):=lh (by
         unfold sA;rw[HP.o,<- HXV.o];unfold jD;rw[if_pos (by simp[hpe])])
        go_wp2_with fail;have hb:=HBN.o.setL (vs:=[.bool false,.string { data:=#[] },.int .i64 0]) rfl;exact bodyPost_ret (fA (d:=_) rfl rfl hb Tryz.underlying93 rfl (by kernel_rfl)) rfl (HQ.o _ _ ⟨by rw[HE.o];rfl,HFN.o.setL (k:=0) (vs:=[.bool false,.string { data:=#[] },.int .i64 0]) (.inr (Nat.le_refl _))⟩)
       | false=>
        rw[hpe] at hpn;have HPE:=lh hpe;have hcs:(wh ++ ps).size<=1000000:=by rw[ByteArray.size_append];omega
        have had:=fun W=>run_string_add_sum (P:=Tryz.prog) W wh ps (by omega);have HSN:Hid (aA (wh ++ ps)=aA wh ++ aA ps):=lh (pH _ _);obtain⟨cat,hcat⟩:∃ cat,wh ++ ps=cat:=⟨_,rfl⟩;rw[hcat] at hcs had HSN;clear hpe hcat;have HG:Hid ((!true || !xl.isEmpty || (aA wh).isEmpty || (decide (1 < (aA wh).length) && jA 48 (aA wh)) || (true && (aA ps).isEmpty))=false):=lh (by rw[HXL.o,HWE.o,HZ.o,HPE.o];rfl);have HCT:Hid (mG neg (aA wh ++ aA ps) (xe - ((aA ps).length:Int))=mG neg (aA cat) (xe - (ps.size:Int))):=lh (by rw[HSN.o,cA])
        have HE:Hid (sA (aA s)=wI neg (aA cat) (xe - (ps.size:Int))):=lh (by
         unfold sA wI;rw[HP.o,<- HXV.o];unfold jD;rw[if_neg (by rw[HG.o];simp),HCT.o]
         all_goals (cases mG neg (aA cat) (xe - (ps.size:Int)) <;> rfl))
        go_wp2_with fail;refine(tP neg cat (xe - (ps.size:Int)) (by omega) (by omega) (by omega)).mono ?_;rintro e w6 ⟨rfl,hf6⟩;rw[<- HE.o];have HF6:=lh (HFN.o.trans hf6);have hb6:=HBN.o.fr hf6;have q0:=hb6.at_ (i:=0) rfl;have q1:=hb6.at_ (i:=1) rfl;have q2:=hb6.at_ (i:=2) rfl;have qf:=hb6.free;have HB6:=lh hb6
        obtain⟨D,hD⟩:∃ D:Dcm,(sA (aA s)).1=gC D:=by
         unfold sA
         cases fE (aA s) with
         | ok d=>exact⟨d,rfl⟩
         | error e=>exact⟨.zero,rfl⟩
        have HD:=lh hD;rw[hD];unfold gC S8;clear hf6 hb6 hD z0 z1 z2 zf;obtain⟨dx,hdx⟩:∃ dx:ByteArray,dx=⟨D.digits.toArray⟩:=⟨_,rfl⟩;rw[<- hdx];have HDX:=lh hdx;clear hdx;go_wp2_with fail;have hb:=HB6.o.setL (vs:=[.bool D.neg,.string dx,.int .i64 D.exp]) rfl;exact bodyPost_ret (fA (d:=_) rfl rfl hb Tryz.underlying93 rfl (by kernel_rfl)) rfl (HQ.o _ _ ⟨by rw[HD.o];unfold gC S8;rw[<- HDX.o];rfl,HF6.o.setL (k:=0) (vs:=[.bool D.neg,.string dx,.int .i64 D.exp]) (.inr (Nat.le_refl _))⟩)
  | false=>
   have HFK:=HF2;have HBK:=HB2
   have HP:Hid (fE (aA s)=jD neg false (aA wh) [] (rI (aA r1))):=lh (by
    rw[HP0.o,HWH.o,HR1.o];rfl)
   clear hbh hpt;go_wp2_with fail;refine(rP r1 (by omega)).mono ?_;rintro e wN ⟨xr,rfl,hxr,hfN⟩;obtain⟨xv,hxv⟩:=nm (rI (aA r1));have hxb:-1000000<=xv.1/\xv.1<=1000000:=by rw[hxv];exact aBz _
   rw[<- hxv] at hxr ⊢;have HFN:=lh (HFK.o.trans hfN);have HBN:=lh (HBK.o.fr hfN);have z0:=HBN.o.at_ (i:=0) rfl;have z1:=HBN.o.at_ (i:=1) rfl;have z2:=HBN.o.at_ (i:=2) rfl;have zf:=HBN.o.free;have hxn:=gE xr;have hwn:=gE wh;rw[hxr] at hxn;obtain⟨xe,xl,xo⟩:=xv;have HXV:=lh hxv
   simp only at hxn hxb ⊢
   clear hxv hxr hfN
   by_cases hw1:1 < wh.size
   ·have d1:decide (1 < (wh.size:Int))=true:=dT (by omega)
    have d1':decide (1 < (aA wh).length)=true:=by rw[decide_eq_true_eq,cA];exact hw1
    obtain⟨c0,hc0⟩:∃ c0,(aA wh)[0]? = some c0:=gx (by rw[cA];omega);have hx0:=rA (s:=wh) (i:=0) hc0 .i64;rw[show((0:Nat):Int)=0 from rfl] at hx0;have hzz:((c0.toNat:Int) == 48)=jA 48 (aA wh):=by rw[kS hc0]
    have hwe:(aA wh).isEmpty=false:=by
     cases hl:aA wh with
     | nil=>rw[hl] at hc0;cases hc0
     | cons x xs=>rfl
    rw[hwe] at hwn;have HWE:=lh hwe
    cases hzz2:jA 48 (aA wh) with
    | true=>
     rw[hzz2] at hzz;have HZZ:=lh hzz2;have HD1:=lh d1';clear hzz2 d1' hc0 hwe
     cases xo with
     | false=>
      have HE:Hid (sA (aA s)=(gC .zero,2)):=lh (by
       unfold sA;rw[HP.o,<- HXV.o];unfold jD;rw[if_pos (by simp)])
      go_wp2_with fail;have hb:=HBN.o.setL (vs:=[.bool false,.string { data:=#[] },.int .i64 0]) rfl;exact bodyPost_ret (fA (d:=_) rfl rfl hb Tryz.underlying93 rfl (by kernel_rfl)) rfl (HQ.o _ _ ⟨by rw[HE.o];rfl,HFN.o.setL (k:=0) (vs:=[.bool false,.string { data:=#[] },.int .i64 0]) (.inr (Nat.le_refl _))⟩)
     | true=>
      cases hxl:xl.isEmpty
      case' false=>
       rw[hxl] at hxn
       have HE:Hid (sA (aA s)=(gC .zero,2)):=lh (by
        unfold sA;rw[HP.o,<- HXV.o];unfold jD;rw[if_pos (by simp[hxl])])
      case' true=>
       rw[hxl] at hxn
       have HE:Hid (sA (aA s)=(gC .zero,2)):=lh (by
        unfold sA;rw[HP.o,<- HXV.o];unfold jD;rw[if_pos (by simp[HZZ.o,of_decide_eq_true HD1.o])])
      all_goals
       go_wp2_with fail;have hb:=HBN.o.setL (vs:=[.bool false,.string { data:=#[] },.int .i64 0]) rfl;exact bodyPost_ret (fA (d:=_) rfl rfl hb Tryz.underlying93 rfl (by kernel_rfl)) rfl (HQ.o _ _ ⟨by rw[HE.o];rfl,HFN.o.setL (k:=0) (vs:=[.bool false,.string { data:=#[] },.int .i64 0]) (.inr (Nat.le_refl _))⟩)
    | false=>
     rw[hzz2] at hzz;have HZ:Hid ((decide (1 < (aA wh).length) && jA 48 (aA wh))=false):=lh (by rw[hzz2,Bool.and_false]);clear hzz2 d1' hc0 hwe
     cases xo with
     | false=>
      have HE:Hid (sA (aA s)=(gC .zero,2)):=lh (by
       unfold sA;rw[HP.o,<- HXV.o];unfold jD;rw[if_pos (by simp)])
      go_wp2_with fail;have hb:=HBN.o.setL (vs:=[.bool false,.string { data:=#[] },.int .i64 0]) rfl;exact bodyPost_ret (fA (d:=_) rfl rfl hb Tryz.underlying93 rfl (by kernel_rfl)) rfl (HQ.o _ _ ⟨by rw[HE.o];rfl,HFN.o.setL (k:=0) (vs:=[.bool false,.string { data:=#[] },.int .i64 0]) (.inr (Nat.le_refl _))⟩)
     | true=>
      cases hxl:xl.isEmpty with
      | false=>
       rw[hxl] at hxn
       have HE:Hid (sA (aA s)=(gC .zero,2)):=lh (by
        unfold sA;rw[HP.o,<- HXV.o];unfold jD;rw[if_pos (by simp[hxl])])
       go_wp2_with fail;have hb:=HBN.o.setL (vs:=[.bool false,.string { data:=#[] },.int .i64 0]) rfl;exact bodyPost_ret (fA (d:=_) rfl rfl hb Tryz.underlying93 rfl (by kernel_rfl)) rfl (HQ.o _ _ ⟨by rw[HE.o];rfl,HFN.o.setL (k:=0) (vs:=[.bool false,.string { data:=#[] },.int .i64 0]) (.inr (Nat.le_refl _))⟩)
      | true=>
       rw[hxl] at hxn;have HXL:=lh hxl;clear hxl;have HSN:Hid (aA (wh ++ { data:=#[] })=aA wh ++ []):=lh (pH _ _);have hcs:(wh ++ ({ data:=#[] }:ByteArray)).size<=1000000:=by rw[ByteArray.size_append,show({ data:=#[] }:ByteArray).size=0 from rfl];omega
       have had:=fun W=>run_string_add_sum (P:=Tryz.prog) W wh { data:=#[] } (by rw[show({ data:=#[] }:ByteArray).size=0 from rfl];omega);obtain⟨cat,hcat⟩:∃ cat,wh ++ { data:=#[] }=cat:=⟨_,rfl⟩;rw[hcat] at hcs had HSN;clear hcat;have HG:Hid ((!true || !xl.isEmpty || (aA wh).isEmpty || (decide (1 < (aA wh).length) && jA 48 (aA wh)) || (false && ([]:List UInt8).isEmpty))=false):=lh (by rw[HXL.o,HWE.o,HZ.o];rfl);have HCT:Hid (mG neg (aA wh ++ []) (xe - (([]:List UInt8).length:Int))=mG neg (aA cat) xe):=lh (by rw[HSN.o,show xe - (([]:List UInt8).length:Int)=xe by simp])
       have HE:Hid (sA (aA s)=wI neg (aA cat) (xe)):=lh (by
        unfold sA wI;rw[HP.o,<- HXV.o];unfold jD;rw[if_neg (by rw[HG.o];simp),HCT.o]
        all_goals (cases mG neg (aA cat) (xe) <;> rfl))
       go_wp2_with fail;refine(tP neg cat (xe) (by omega) (by omega) (by omega)).mono ?_;rintro e w6 ⟨rfl,hf6⟩;rw[<- HE.o];have HF6:=lh (HFN.o.trans hf6);have hb6:=HBN.o.fr hf6;have q0:=hb6.at_ (i:=0) rfl;have q1:=hb6.at_ (i:=1) rfl;have q2:=hb6.at_ (i:=2) rfl;have qf:=hb6.free;have HB6:=lh hb6
       obtain⟨D,hD⟩:∃ D:Dcm,(sA (aA s)).1=gC D:=by
        unfold sA
        cases fE (aA s) with
        | ok d=>exact⟨d,rfl⟩
        | error e=>exact⟨.zero,rfl⟩
       have HD:=lh hD;rw[hD];unfold gC S8;clear hf6 hb6 hD z0 z1 z2 zf;obtain⟨dx,hdx⟩:∃ dx:ByteArray,dx=⟨D.digits.toArray⟩:=⟨_,rfl⟩;rw[<- hdx];have HDX:=lh hdx;clear hdx;go_wp2_with fail;have hb:=HB6.o.setL (vs:=[.bool D.neg,.string dx,.int .i64 D.exp]) rfl;exact bodyPost_ret (fA (d:=_) rfl rfl hb Tryz.underlying93 rfl (by kernel_rfl)) rfl (HQ.o _ _ ⟨by rw[HD.o];unfold gC S8;rw[<- HDX.o];rfl,HF6.o.setL (k:=0) (vs:=[.bool D.neg,.string dx,.int .i64 D.exp]) (.inr (Nat.le_refl _))⟩)
   ·have d1:decide (1 < (wh.size:Int))=false:=dF (by omega)
    have HZ:Hid ((decide (1 < (aA wh).length) && jA 48 (aA wh))=false):=lh (by rw[decide_eq_false (by rw[cA];exact hw1),Bool.false_and])
    cases xo with
    | false=>
     have HE:Hid (sA (aA s)=(gC .zero,2)):=lh (by
      unfold sA;rw[HP.o,<- HXV.o];unfold jD;rw[if_pos (by simp)])
     go_wp2_with fail;have hb:=HBN.o.setL (vs:=[.bool false,.string { data:=#[] },.int .i64 0]) rfl;exact bodyPost_ret (fA (d:=_) rfl rfl hb Tryz.underlying93 rfl (by kernel_rfl)) rfl (HQ.o _ _ ⟨by rw[HE.o];rfl,HFN.o.setL (k:=0) (vs:=[.bool false,.string { data:=#[] },.int .i64 0]) (.inr (Nat.le_refl _))⟩)
    | true=>
     cases hxl:xl.isEmpty with
     | false=>
      rw[hxl] at hxn
      have HE:Hid (sA (aA s)=(gC .zero,2)):=lh (by
       unfold sA;rw[HP.o,<- HXV.o];unfold jD;rw[if_pos (by simp[hxl])])
      go_wp2_with fail;have hb:=HBN.o.setL (vs:=[.bool false,.string { data:=#[] },.int .i64 0]) rfl;exact bodyPost_ret (fA (d:=_) rfl rfl hb Tryz.underlying93 rfl (by kernel_rfl)) rfl (HQ.o _ _ ⟨by rw[HE.o];rfl,HFN.o.setL (k:=0) (vs:=[.bool false,.string { data:=#[] },.int .i64 0]) (.inr (Nat.le_refl _))⟩)
     | true=>
      rw[hxl] at hxn;have HXL:=lh hxl
      cases hwe:(aA wh).isEmpty with
      | true=>
       rw[hwe] at hwn;have HWE:=lh hwe;clear hwe hxl
       have HE:Hid (sA (aA s)=(gC .zero,2)):=lh (by
        unfold sA;rw[HP.o,<- HXV.o];unfold jD;rw[if_pos (by simp[HWE.o])])
       go_wp2_with fail;have hb:=HBN.o.setL (vs:=[.bool false,.string { data:=#[] },.int .i64 0]) rfl;exact bodyPost_ret (fA (d:=_) rfl rfl hb Tryz.underlying93 rfl (by kernel_rfl)) rfl (HQ.o _ _ ⟨by rw[HE.o];rfl,HFN.o.setL (k:=0) (vs:=[.bool false,.string { data:=#[] },.int .i64 0]) (.inr (Nat.le_refl _))⟩)
      | false=>
       rw[hwe] at hwn;have HWE:=lh hwe;clear hwe hxl;have HSN:Hid (aA (wh ++ { data:=#[] })=aA wh ++ []):=lh (pH _ _);have hcs:(wh ++ ({ data:=#[] }:ByteArray)).size<=1000000:=by rw[ByteArray.size_append,show({ data:=#[] }:ByteArray).size=0 from rfl];omega
       have had:=fun W=>run_string_add_sum (P:=Tryz.prog) W wh { data:=#[] } (by rw[show({ data:=#[] }:ByteArray).size=0 from rfl];omega);obtain⟨cat,hcat⟩:∃ cat,wh ++ { data:=#[] }=cat:=⟨_,rfl⟩;rw[hcat] at hcs had HSN;clear hcat;have HG:Hid ((!true || !xl.isEmpty || (aA wh).isEmpty || (decide (1 < (aA wh).length) && jA 48 (aA wh)) || (false && ([]:List UInt8).isEmpty))=false):=lh (by rw[HXL.o,HWE.o,HZ.o];rfl);have HCT:Hid (mG neg (aA wh ++ []) (xe - (([]:List UInt8).length:Int))=mG neg (aA cat) xe):=lh (by rw[HSN.o,show xe - (([]:List UInt8).length:Int)=xe by simp])
       have HE:Hid (sA (aA s)=wI neg (aA cat) (xe)):=lh (by
        unfold sA wI;rw[HP.o,<- HXV.o];unfold jD;rw[if_neg (by rw[HG.o];simp),HCT.o]
        all_goals (cases mG neg (aA cat) (xe) <;> rfl))
       go_wp2_with fail;refine(tP neg cat (xe) (by omega) (by omega) (by omega)).mono ?_;rintro e w6 ⟨rfl,hf6⟩;rw[<- HE.o];have HF6:=lh (HFN.o.trans hf6);have hb6:=HBN.o.fr hf6;have q0:=hb6.at_ (i:=0) rfl;have q1:=hb6.at_ (i:=1) rfl;have q2:=hb6.at_ (i:=2) rfl;have qf:=hb6.free;have HB6:=lh hb6
       obtain⟨D,hD⟩:∃ D:Dcm,(sA (aA s)).1=gC D:=by
        unfold sA
        cases fE (aA s) with
        | ok d=>exact⟨d,rfl⟩
        | error e=>exact⟨.zero,rfl⟩
       have HD:=lh hD;rw[hD];unfold gC S8;clear hf6 hb6 hD z0 z1 z2 zf;obtain⟨dx,hdx⟩:∃ dx:ByteArray,dx=⟨D.digits.toArray⟩:=⟨_,rfl⟩;rw[<- hdx];have HDX:=lh hdx;clear hdx;go_wp2_with fail;have hb:=HB6.o.setL (vs:=[.bool D.neg,.string dx,.int .i64 D.exp]) rfl;exact bodyPost_ret (fA (d:=_) rfl rfl hb Tryz.underlying93 rfl (by kernel_rfl)) rfl (HQ.o _ _ ⟨by rw[HD.o];unfold gC S8;rw[<- HDX.o];rfl,HF6.o.setL (k:=0) (vs:=[.bool D.neg,.string dx,.int .i64 D.exp]) (.inr (Nat.le_refl _))⟩)
theorem aFi (c:UInt8):decide (0<=Lib.indexByte aS c)=yA c:=eq_of_beq (qD (fun c=>decide (0<=Lib.indexByte aS c) == yA c) (by decide +kernel) c)
theorem kJ (c:UInt8) (w:World):Calls Tryz.prog 106 #[.int .u8 (c.toNat:Int)] w fun e w'=>e=.returned (.bool (yA c))/\w=w':=by
 have h:=aFi c
 go_enter Tryz.func106,Tryz.ntmps106
 go_wp2_with fail;refine(jH _ c _).mono ?_;rintro e w1 ⟨rfl,rfl⟩;obtain⟨x,hx⟩:∃ x,Lib.indexByte aS c=x:=⟨_,rfl⟩;have e:Lib.indexByte (ByteArray.mk #[48,49,50,51,52,53,54,55,56,57]).data.toList c=x:=hx;rw[hx] at h;rw[e];clear e hx;go_wp2_with fail
 go_ret
 exact⟨by rw[<- h];rfl,rfl⟩
def bS (r:Int):Bool:=decide (97<=r/\r<=122) || decide (65<=r/\r<=90) || r == 95 || decide (127 < r)
theorem oW (c:UInt8):bS (c.toNat:Int)=zI c:=eq_of_beq (qD (fun c=>bS (c.toNat:Int) == zI c) (by decide +kernel) c)
theorem aFj {r:Int} (h:128<=r):bS r=true:=by
 unfold bS;rw[decide_eq_true (show 127 < r by omega)];simp
theorem aT (r:Int) (w:World):Calls Tryz.prog 104 #[.int .i32 r] w fun e w'=>e=.returned (.bool (bS r))/\w=w':=by
 have hs:∀ b,bS r=b -> Calls Tryz.prog 104 #[.int .i32 r] w fun e w'=>e=.returned (.bool b)/\w=w':=by
  intro b hb;unfold bS at hb
  by_cases h1:97<=r
  ·by_cases h2:r<=122
   ·obtain rfl:b=true:=by rw[<- hb,decide_eq_true (show 97<=r/\r<=122 from⟨h1,h2⟩)];simp
    clear hb
    go_enter Tryz.func104,Tryz.ntmps104
    go_wp2_with fail
    go_ret
    exact⟨rfl,rfl⟩
   ·by_cases h3:127 < r
    ·obtain rfl:b=true:=by rw[<- hb,decide_eq_true h3];simp
     have h4:¬ r<=90:=by omega
     have h5:(r == 95)=false:=bF (by omega)
     clear hb
     go_enter Tryz.func104,Tryz.ntmps104
     go_wp2_with fail
     go_ret
     exact⟨rfl,rfl⟩
    ·obtain rfl:b=false:=by rw[<- hb,decide_eq_false h3,decide_eq_false (show ¬ (97<=r/\r<=122) by omega),decide_eq_false (show ¬ (65<=r/\r<=90) by omega),show(r == 95)=false by rw[beq_eq_false_iff_ne];omega];rfl
     have h4:¬ r<=90:=by omega
     have h5:(r == 95)=false:=bF (by omega)
     clear hb
     go_enter Tryz.func104,Tryz.ntmps104
     go_wp2_with fail
     go_ret
     exact⟨rfl,rfl⟩
  ·have h3:¬ 127 < r:=by omega
   by_cases h2:65<=r
   ·by_cases h4:r<=90
    ·obtain rfl:b=true:=by rw[<- hb,decide_eq_true (show 65<=r/\r<=90 from⟨h2,h4⟩)];simp
     clear hb
     go_enter Tryz.func104,Tryz.ntmps104
     go_wp2_with fail
     go_ret
     exact⟨rfl,rfl⟩
    ·obtain rfl:b=(r == 95):=by rw[<- hb,decide_eq_false h3,decide_eq_false (show ¬ (97<=r/\r<=122) by omega),decide_eq_false (show ¬ (65<=r/\r<=90) by omega)];simp
     clear hb
     cases h5:(r == 95)
     ·skip
      go_enter Tryz.func104,Tryz.ntmps104
      go_wp2_with fail
      go_ret
      exact⟨rfl,rfl⟩
     ·skip
      go_enter Tryz.func104,Tryz.ntmps104
      go_wp2_with fail
      go_ret
      exact⟨rfl,rfl⟩
   ·obtain rfl:b=false:=by rw[<- hb,decide_eq_false h3,decide_eq_false (show ¬ (97<=r/\r<=122) by omega),decide_eq_false (show ¬ (65<=r/\r<=90) by omega),show(r == 95)=false by rw[beq_eq_false_iff_ne];omega];rfl
    have h5:(r == 95)=false:=bF (by omega)
    clear hb
    go_enter Tryz.func104,Tryz.ntmps104
    go_wp2_with fail
    go_ret
    exact⟨rfl,rfl⟩
 exact hs _ rfl
theorem Fr.iterAt {S:List Nat} {a b:World} (h:Fr S a b) {k:Nat} (hk:a.heap.size<=k) (s:ByteArray) (pos:Nat):Fr S a (b.iterAt k s pos):=
 ⟨h.os,h.tape,h.output,by rw[Lib.iterAt_size];exact h.size,fun i hi hn=>(Lib.iterAt_other b k i s pos (by omega)).trans (h.block i hi hn)⟩
def NmRel (w:World) (s:ByteArray) (j:Nat) (v4:Value) (wr:World):Prop:=∃ pos,v4=.int .i64 (s.size:Int)/\pos<=s.size/\s.size<=pos+j/\wr.heap[w.heap.size]? = some (.stringIter s pos)/\(∀ c ∈ (aA s).take pos,nB c=true)/\Fr [] w wr
theorem aCe (s:ByteArray) (pos:Nat) (h:pos < s.size):∃ r k:Nat,Utf8.decode s pos=(r,k)/\1<=k/\pos+k<=s.size/\r<=2097151 /\
  ((bS (r:Int)=true ∨ (48<=r/\r<=57)) -> ∀ c ∈ ((aA s).drop pos).take k,nB c=true)/\(¬ (bS (r:Int)=true ∨ (48<=r/\r<=57)) -> nB (s[pos]'h)=false):=by
 by_cases ha:(s[pos]'h).toNat < 128
 ·refine⟨_,_,decode_ascii s pos h ha,Nat.le_refl _,by omega,by omega,fun hl c hc=>?_,fun hl=>?_⟩
  ·rw[xA (kI s h)] at hc;simp only[List.take_succ_cons,List.take_zero,List.mem_singleton] at hc;subst hc;unfold nB;rw[<- oW];rcases hl with hl | hl
   ·rw[hl];rfl
   ·unfold yA;rw[decide_eq_true hl];simp
  ·unfold nB;rw[<- oW];simp only[not_or] at hl;rw[Bool.not_eq_true] at hl;rw[hl.1];unfold yA;rw[decide_eq_false hl.2];rfl
 ·obtain⟨r,k,hd,h1,h2,h3,h4,h5⟩:=aBX s pos h (by omega);refine⟨r,k,hd,h3,h4,h2,fun _ c hc=>?_,fun hl=>absurd (.inl (aFj (by omega))) hl⟩;obtain⟨j,hj⟩:=List.mem_iff_getElem?.1 hc;rw[List.getElem?_take] at hj
  split at hj
  ·rename_i hjk
   rw[List.getElem?_drop] at hj;have hjs:pos+j < s.size:=by omega
   rw[kI s hjs] at hj;injection hj with hj;rw[<- hj];exact aDd (h5 _ hjs (by omega) (by omega))
  ·cases hj
theorem aDq {w:World} (s:ByteArray) (hs:s.size<=1000000):RV 105 #[.string s] w (.tuple #[.int .i64 (((aA s).takeWhile nB).length:Int),.bool (sI ((aA s).takeWhile nB))]):=by
 refine bA fun R HQ=>?_
 go_enter Tryz.func105,Tryz.ntmps105
 go_wp2_with fail;have hit0:(w.iter s 0).heap[w.heap.size]? = some (.stringIter s 0):=World.iter_heap w s 0;have hf0:Fr [] w (w.iter s 0):=(Fr.refl [] w).alloc _;generalize w.iter s 0=w0 at *;have HI0:=lh hit0;have HF0:=lh hf0;clear hit0 hf0
 go_loopg [4,5,6] s.size (fun j v4 _ _ wr=>NmRel w s j v4 wr)
 case atStart=>exact⟨0,rfl,Nat.zero_le _,by omega,HI0.o,by simp,HF0.o⟩
 case round=>
  obtain⟨pos,rfl,hp,hj,hit,hall,hf⟩:=hrel;have HIT:=lh hit;have HALL:=lh hall;have HF:=lh hf;clear hit hall hf HI0 HF0
  by_cases hps:pos < s.size
  ·obtain⟨r,k,hd,hk1,hk2,hr,hy,hn⟩:=aCe s pos hps
   have hnx:∀ ty,(Instr.next (.pointer (some ⟨w.heap.size,0,none⟩)) true ty).run Tryz.prog wr=.ok (.tuple #[.bool true,.int .i64 pos,.int .i32 r]) (wr.iterAt w.heap.size s (pos+k)):=fun ty=>by
    have:=Lib.run_next_any_at (P:=Tryz.prog) wr w.heap.size s pos ty HIT.o hps;rw[hd] at this;exact this
   have HIT2:=lh (Lib.iterAt_heap wr w.heap.size s pos (pos+k) HIT.o);have HF2:=lh (HF.o.iterAt (Nat.le_refl _) s (pos+k));have HY:=lh hy;have HN:=lh hn;obtain⟨w2,hw2⟩:∃ w2,wr.iterAt w.heap.size s (pos+k)=w2:=⟨_,rfl⟩;rw[hw2] at hnx HIT2 HF2;clear hy hn hd hw2;obtain⟨lt,hlt⟩:∃ lt,bS (r:Int)=lt:=⟨_,rfl⟩
   have hmore:(bS (r:Int)=true ∨ (48<=r/\r<=57)) -> ∀ c ∈ (aA s).take (pos+k),nB c=true:=fun h c hc=>by
    rw[List.take_add] at hc;rcases List.mem_append.1 hc with h1 | h1
    ·exact HALL.o c h1
    ·exact HY.o h c h1
   have hstop:¬ (bS (r:Int)=true ∨ (48<=r/\r<=57)) -> (aA s).takeWhile nB=(aA s).take pos:=fun h=>
    (oL (by rw[cA];exact hp) HALL.o (fun c hc=>by
     rw[kI s hps] at hc;injection hc with hc;rw[<- hc];exact HN.o h)).1
   have HM:=lh hmore;have HS:=lh hstop;have HLT:=lh hlt;clear hmore hstop hlt;go_wp2_with fail;refine(aT _ _).mono ?_;rintro e w3 ⟨rfl,rfl⟩;rw[HLT.o]
   cases lt with
   | true=>
    have HM2:=lh (HM.o (.inl HLT.o));clear hnx;go_wp2_with fail
    go_roundg (s.size - (pos+k))
    case measure=>omega
    case rel=>exact⟨pos+k,rfl,hk2,by omega,HIT2.o,HM2.o,HF2.o⟩
   | false=>
    by_cases h48:r < 48
    ·have HTK:=lh (HS.o (by rw[HLT.o];simp;omega));have d1:decide ((r:Int) < 48)=true:=dT (by omega)
     have HFW:=HF2;clear hnx;obtain⟨t,hext⟩:∃ t,s.extract 0 pos=t:=⟨_,rfl⟩;have ht:aA t=(aA s).take pos:=by rw[<- hext,lC];simp
     have htw:aA t=(aA s).takeWhile nB:=by rw[ht];exact HTK.o.symm
     have htz:t.size=pos:=by rw[lA ht,List.length_take,cA];omega
     obtain⟨C,w3,hcv,hC,hba,hf3⟩:=nK w2 t (by omega);rw[htw,htz] at hba;rw[htz] at hcv;have HF3:=lh (HFW.o.trans hf3);have HBA:=lh hba;have HTW:=lh htw;clear ht hba hf3 htw;go_wp2_with fail;refine(pL HBA.o (by omega)).mono ?_;rintro e w4 ⟨x,rfl,hx,hf4⟩;have HF4:=lh (HF3.o.trans hf4);have HX:=lh hx;clear hf4 hx hcv hext;go_wp2_with fail;have hlen:((aA s).takeWhile nB).length=pos:=by rw[<- HTW.o,cA,htz]
     exact HQ.o _ _ ⟨by rw[hlen,<- HX.o];rfl,HF4.o⟩
    ·have d1:decide ((r:Int) < 48)=false:=dF (by omega)
     by_cases h57:57 < r
     ·have HTK:=lh (HS.o (by rw[HLT.o];simp;omega));have d2:decide (57 < (r:Int))=true:=dT (by omega)
      have HFW:=HF2;clear hnx;obtain⟨t,hext⟩:∃ t,s.extract 0 pos=t:=⟨_,rfl⟩;have ht:aA t=(aA s).take pos:=by rw[<- hext,lC];simp
      have htw:aA t=(aA s).takeWhile nB:=by rw[ht];exact HTK.o.symm
      have htz:t.size=pos:=by rw[lA ht,List.length_take,cA];omega
      obtain⟨C,w3,hcv,hC,hba,hf3⟩:=nK w2 t (by omega);rw[htw,htz] at hba;rw[htz] at hcv;have HF3:=lh (HFW.o.trans hf3);have HBA:=lh hba;have HTW:=lh htw;clear ht hba hf3 htw;go_wp2_with fail;refine(pL HBA.o (by omega)).mono ?_;rintro e w4 ⟨x,rfl,hx,hf4⟩;have HF4:=lh (HF3.o.trans hf4);have HX:=lh hx;clear hf4 hx hcv hext;go_wp2_with fail;have hlen:((aA s).takeWhile nB).length=pos:=by rw[<- HTW.o,cA,htz]
      exact HQ.o _ _ ⟨by rw[hlen,<- HX.o];rfl,HF4.o⟩
     ·have HM2:=lh (HM.o (.inr ⟨by omega,by omega⟩));have d2:decide (57 < (r:Int))=false:=dF (by omega)
      clear hnx;go_wp2_with fail
      go_roundg (s.size - (pos+k))
      case measure=>omega
      case rel=>exact⟨pos+k,rfl,hk2,by omega,HIT2.o,HM2.o,HF2.o⟩
  ·have hpe:pos=s.size:=by omega
   subst hpe;have hnx:∀ ty,(Instr.next (.pointer (some ⟨w.heap.size,0,none⟩)) true ty).run Tryz.prog wr=.ok (.tuple #[.bool false]) wr:=fun ty=>Lib.run_next_end_at wr w.heap.size s s.size ty HIT.o hps
   have HTK:Hid ((aA s).takeWhile nB=(aA s).take s.size):=lh
    (oL (by rw[cA];exact Nat.le_refl _) HALL.o (fun c hc=>by
     rw[List.getElem?_eq_none (by rw[cA];exact Nat.le_refl _)] at hc;cases hc)).1
   have HFW:=HF;obtain⟨t,hext⟩:∃ t,s.extract 0 s.size=t:=⟨_,rfl⟩;have ht:aA t=(aA s).take s.size:=by rw[<- hext,lC];simp
   have htw:aA t=(aA s).takeWhile nB:=by rw[ht];exact HTK.o.symm
   have htz:t.size=s.size:=by rw[lA ht,List.length_take,cA];omega
   obtain⟨C,w3,hcv,hC,hba,hf3⟩:=nK wr t (by omega);rw[htw,htz] at hba;rw[htz] at hcv;have HF3:=lh (HFW.o.trans hf3);have HBA:=lh hba;have HTW:=lh htw;clear ht hba hf3 htw;go_wp2_with fail;refine(pL HBA.o (by omega)).mono ?_;rintro e w4 ⟨x,rfl,hx,hf4⟩;have HF4:=lh (HF3.o.trans hf4);have HX:=lh hx;clear hf4 hx hcv hext;go_wp2_with fail;have hlen:((aA s).takeWhile nB).length=s.size:=by rw[<- HTW.o,cA,htz]
   exact HQ.o _ _ ⟨by rw[hlen,<- HX.o];rfl,HF4.o⟩
theorem aBA (c:UInt8):(bits .or .u8 (c.toNat:Int) 32 == 101)=eB c:=eq_of_beq (qD (fun c=>(bits .or .u8 (c.toNat:Int) 32 == 101) == eB c) (by decide +kernel) c)
theorem rO (s p:ByteArray) (w:World):Calls Tryz.prog 155 #[.string s,.string p] w fun e w'=>e=.returned (.bool ((aA p).isPrefixOf (aA s)))/\w=w':=by
 refine(Tryz.strings_HasPrefix s p w).mono ?_;rintro e w' ⟨rfl,rfl⟩;exact⟨rfl,rfl⟩
def NuRel (w:World) (s:ByteArray) (j:Nat) (v8:Value) (wr:World):Prop:=∃ (pos:Nat) (p:Option UInt8),pos<=s.size/\s.size<=pos+j/\v8=.int .i64 (pos:Int)/\vA none (aA s)=pos+vA p ((aA s).drop pos) /\
 ((pos=0/\p=none) ∨ ∃ i b,pos=i+1/\p=some b/\(aA s)[i]? = some b)/\Fr [] w wr
theorem bT {w:World} (s:ByteArray) (hs:s.size<=1000000):RV 107 #[.string s] w (.int .i64 (vA none (aA s):Int)):=by
 refine bA fun R HQ=>?_
 go_enter Tryz.func107,Tryz.ntmps107
 go_wp2_with fail
 go_loopg [8] s.size (fun j v8 wr=>NuRel w s j v8 wr)
 case atStart=>exact⟨0,none,Nat.zero_le _,by omega,rfl,by simp,.inl ⟨rfl,rfl⟩,Fr.refl _ _⟩
 case round=>
  obtain⟨pos,p,hp,hj,rfl,hn,hprev,hq⟩:=hrel;have HN:=lh hn;clear hn
  by_cases hps:pos < s.size
  ·obtain⟨c,hc⟩:∃ c,(aA s)[pos]? = some c:=⟨_,kI s hps⟩;have hx:=rA hc .i64;have HC:=lh hc;have HD:Hid ((aA s).drop pos=c :: (aA s).drop (pos+1)):=lh (xA hc);obtain⟨sp,hsp,hsl0⟩:=mD s pos hp
   have hdots:c.toNat=46 -> (aA { data:=#[46,46] }).isPrefixOf (aA sp)=jA 46 ((aA s).drop (pos+1)):=fun h46=>by
    have e:c=46:=UInt8.toNat_inj.1 h46;rw[hsp,HD.o,e]
    show List.isPrefixOf [46,46] (46 :: (aA s).drop (pos+1))=_
    cases (aA s).drop (pos+1) with
    | nil=>rfl
    | cons x xs=>simp[List.isPrefixOf,jA,Bool.beq_comm]
   have he:=aBA c;have HDT:=lh hdots;clear hc hsp hdots;have d0:decide ((pos:Int) < (s.size:Int))=true:=dT (by omega)
   rcases hprev with ⟨hp0,hpn⟩ | ⟨i,b,hpi,hpb,hb⟩
   ·subst hpn;have hpI:(pos:Int)=0:=by omega
    have HBH:Hid (gG none=true):=lh rfl;have HSL0:=lh hsl0;have d1:((pos:Int) == 0)=true:=by rw[hpI];rfl
    clear hsl0 hp0 hpI;go_wp2_with fail;refine(kJ c _).mono ?_;rintro e w1 ⟨rfl,rfl⟩
    cases hfg:yA c with
    | true=>
     have HFG:=lh hfg;clear hfg
     skip
     have HN2:Hid (vA none (aA s)=(pos+1)+vA (some c) ((aA s).drop (pos+1))):=lh (by
      rw[HN.o,HD.o,vA,if_pos (by simp[HFG.o])];omega)
     go_wp2_with fail
     go_roundg (s.size - (pos+1))
     case measure=>omega
     case rel=>exact⟨pos+1,some c,by omega,by omega,by go_num,HN2.o,.inr ⟨pos,c,rfl,rfl,HC.o⟩,hq⟩
    | false=>
     have HFG:=lh hfg;clear hfg
     cases heb:eB c with
     | true=>
      have HEB:=lh heb;rw[heb] at he;clear heb
      have HN2:Hid (vA none (aA s)=(pos+1)+vA (some c) ((aA s).drop (pos+1))):=lh (by
       rw[HN.o,HD.o,vA,if_pos (by simp[HFG.o,HEB.o])];omega)
      go_wp2_with fail
      go_roundg (s.size - (pos+1))
      case measure=>omega
      case rel=>exact⟨pos+1,some c,by omega,by omega,by go_num,HN2.o,.inr ⟨pos,c,rfl,rfl,HC.o⟩,hq⟩
     | false=>
      have HEB:=lh heb;rw[heb] at he;clear heb
      cases hp1:((c.toNat:Int) == 43) with
      | true=>
       have c43:c.toNat=43:=by have:=eq_of_beq hp1;omega
       have c46:((c.toNat:Int) == 46)=false:=by rw[c43];rfl
       have HCS:=lh c43;clear c43
       have HN2:Hid (vA none (aA s)=(pos+1)+vA (some c) ((aA s).drop (pos+1))):=lh (by
        rw[HN.o,HD.o,vA,if_pos (by simp[HFG.o,HEB.o,HCS.o,HBH.o])];omega)
       go_wp2_with fail
       go_roundg (s.size - (pos+1))
       case measure=>omega
       case rel=>exact⟨pos+1,some c,by omega,by omega,by go_num,HN2.o,.inr ⟨pos,c,rfl,rfl,HC.o⟩,hq⟩
      | false=>
       cases hp2:((c.toNat:Int) == 45) with
       | true=>
        have c45:c.toNat=45:=by have:=eq_of_beq hp2;omega
        have c46:((c.toNat:Int) == 46)=false:=by rw[c45];rfl
        have HCS:=lh c45;clear c45
        have HN2:Hid (vA none (aA s)=(pos+1)+vA (some c) ((aA s).drop (pos+1))):=lh (by
         rw[HN.o,HD.o,vA,if_pos (by simp[HFG.o,HEB.o,HCS.o,HBH.o])];omega)
        go_wp2_with fail
        go_roundg (s.size - (pos+1))
        case measure=>omega
        case rel=>exact⟨pos+1,some c,by omega,by omega,by go_num,HN2.o,.inr ⟨pos,c,rfl,rfl,HC.o⟩,hq⟩
       | false=>
        have N43:Hid (c.toNat ≠ 43):=lh (by intro e;rw[e] at hp1;cases hp1);have N45:Hid (c.toNat ≠ 45):=lh (by intro e;rw[e] at hp2;cases hp2)
        cases hp3:((c.toNat:Int) == 46) with
        | false=>
         have N46:Hid (c.toNat ≠ 46):=lh (by intro e;rw[e] at hp3;cases hp3)
         have HNE:Hid (vA none (aA s)=pos):=lh (by
          rw[HN.o,HD.o,vA,if_neg (by simp[HFG.o,HEB.o,N43.o,N45.o,N46.o])];omega)
         go_wp2_with fail;exact HQ.o _ _ ⟨by rw[HNE.o];first | done | rfl,hq⟩
        | true=>
         have C46:Hid (c.toNat=46):=lh (by have:=eq_of_beq hp3;omega);have hsl:=HSL0.o .i64;go_wp2_with fail;refine(rO sp _ _).mono ?_;rintro e w1 ⟨rfl,rfl⟩;rw[HDT.o C46.o]
         cases hdd:jA 46 ((aA s).drop (pos+1)) with
         | true=>
          have HDD:=lh hdd;clear hdd hsl
          have HNE:Hid (vA none (aA s)=pos):=lh (by
           rw[HN.o,HD.o,vA,if_neg (by simp[HFG.o,HEB.o,C46.o,HDD.o])];omega)
          go_wp2_with fail;exact HQ.o _ _ ⟨by rw[HNE.o];first | done | rfl,hq⟩
         | false=>
          have HDD:=lh hdd;clear hdd hsl
          have HN2:Hid (vA none (aA s)=(pos+1)+vA (some c) ((aA s).drop (pos+1))):=lh (by
           rw[HN.o,HD.o,vA,if_pos (by simp[HFG.o,HEB.o,C46.o,HDD.o])];omega)
          go_wp2_with fail
          go_roundg (s.size - (pos+1))
          case measure=>omega
          case rel=>exact⟨pos+1,some c,by omega,by omega,by go_num,HN2.o,.inr ⟨pos,c,rfl,rfl,HC.o⟩,hq⟩
   ·subst hpb;have d1:((pos:Int) == 0)=false:=by rw[beq_eq_false_iff_ne];omega
    have hxp:=rA hb .i64;have w1:IntKind.i64.wrap ((pos:Int) - 1)=(i:Int):=by rw[IntKind.wrap_i64];omega
    have w2:(pos:Int) - 1=(i:Int):=by omega
    have hob:=aBA b;have HSL0:=lh hsl0;clear hsl0 hpi hb;go_wp2_with fail;refine(kJ c _).mono ?_;rintro e w3 ⟨rfl,rfl⟩
    cases hfg:yA c with
    | true=>
     have HFG:=lh hfg;clear hfg
     skip
     have HN2:Hid (vA none (aA s)=(pos+1)+vA (some c) ((aA s).drop (pos+1))):=lh (by
      rw[HN.o,HD.o,vA,if_pos (by simp[HFG.o])];omega)
     go_wp2_with fail
     go_roundg (s.size - (pos+1))
     case measure=>omega
     case rel=>exact⟨pos+1,some c,by omega,by omega,by go_num,HN2.o,.inr ⟨pos,c,rfl,rfl,HC.o⟩,hq⟩
    | false=>
     have HFG:=lh hfg;clear hfg
     cases heb:eB c with
     | true=>
      have HEB:=lh heb;rw[heb] at he;clear heb
      have HN2:Hid (vA none (aA s)=(pos+1)+vA (some c) ((aA s).drop (pos+1))):=lh (by
       rw[HN.o,HD.o,vA,if_pos (by simp[HFG.o,HEB.o])];omega)
      go_wp2_with fail
      go_roundg (s.size - (pos+1))
      case measure=>omega
      case rel=>exact⟨pos+1,some c,by omega,by omega,by go_num,HN2.o,.inr ⟨pos,c,rfl,rfl,HC.o⟩,hq⟩
     | false=>
      have HEB:=lh heb;rw[heb] at he;clear heb
      cases hp1:((c.toNat:Int) == 43) with
      | true=>
       have c43:c.toNat=43:=by have:=eq_of_beq hp1;omega
       have c46:((c.toNat:Int) == 46)=false:=by rw[c43];rfl
       have HCS:=lh c43;clear c43
       cases hbv:eB b with
       | true=>
        have HBH:Hid (gG (some b)=true):=lh hbv;rw[hbv] at hob;clear hbv
        have HN2:Hid (vA none (aA s)=(pos+1)+vA (some c) ((aA s).drop (pos+1))):=lh (by
         rw[HN.o,HD.o,vA,if_pos (by simp[HFG.o,HEB.o,HCS.o,HBH.o])];omega)
        go_wp2_with fail
        go_roundg (s.size - (pos+1))
        case measure=>omega
        case rel=>exact⟨pos+1,some c,by omega,by omega,by go_num,HN2.o,.inr ⟨pos,c,rfl,rfl,HC.o⟩,hq⟩
       | false=>
        have HBH:Hid (gG (some b)=false):=lh hbv;rw[hbv] at hob;clear hbv
        have HNE:Hid (vA none (aA s)=pos):=lh (by
         rw[HN.o,HD.o,vA,if_neg (by simp[HFG.o,HEB.o,HCS.o,HBH.o])];omega)
        go_wp2_with fail;exact HQ.o _ _ ⟨by rw[HNE.o];first | done | rfl,hq⟩
      | false=>
       cases hp2:((c.toNat:Int) == 45) with
       | true=>
        have c45:c.toNat=45:=by have:=eq_of_beq hp2;omega
        have c46:((c.toNat:Int) == 46)=false:=by rw[c45];rfl
        have HCS:=lh c45;clear c45
        cases hbv:eB b with
        | true=>
         have HBH:Hid (gG (some b)=true):=lh hbv;rw[hbv] at hob;clear hbv
         have HN2:Hid (vA none (aA s)=(pos+1)+vA (some c) ((aA s).drop (pos+1))):=lh (by
          rw[HN.o,HD.o,vA,if_pos (by simp[HFG.o,HEB.o,HCS.o,HBH.o])];omega)
         go_wp2_with fail
         go_roundg (s.size - (pos+1))
         case measure=>omega
         case rel=>exact⟨pos+1,some c,by omega,by omega,by go_num,HN2.o,.inr ⟨pos,c,rfl,rfl,HC.o⟩,hq⟩
        | false=>
         have HBH:Hid (gG (some b)=false):=lh hbv;rw[hbv] at hob;clear hbv
         have HNE:Hid (vA none (aA s)=pos):=lh (by
          rw[HN.o,HD.o,vA,if_neg (by simp[HFG.o,HEB.o,HCS.o,HBH.o])];omega)
         go_wp2_with fail;exact HQ.o _ _ ⟨by rw[HNE.o];first | done | rfl,hq⟩
       | false=>
        have N43:Hid (c.toNat ≠ 43):=lh (by intro e;rw[e] at hp1;cases hp1);have N45:Hid (c.toNat ≠ 45):=lh (by intro e;rw[e] at hp2;cases hp2)
        cases hp3:((c.toNat:Int) == 46) with
        | false=>
         have N46:Hid (c.toNat ≠ 46):=lh (by intro e;rw[e] at hp3;cases hp3)
         have HNE:Hid (vA none (aA s)=pos):=lh (by
          rw[HN.o,HD.o,vA,if_neg (by simp[HFG.o,HEB.o,N43.o,N45.o,N46.o])];omega)
         go_wp2_with fail;exact HQ.o _ _ ⟨by rw[HNE.o];first | done | rfl,hq⟩
        | true=>
         have C46:Hid (c.toNat=46):=lh (by have:=eq_of_beq hp3;omega);have hsl:=HSL0.o .i64;go_wp2_with fail;refine(rO sp _ _).mono ?_;rintro e w1 ⟨rfl,rfl⟩;rw[HDT.o C46.o]
         cases hdd:jA 46 ((aA s).drop (pos+1)) with
         | true=>
          have HDD:=lh hdd;clear hdd hsl
          have HNE:Hid (vA none (aA s)=pos):=lh (by
           rw[HN.o,HD.o,vA,if_neg (by simp[HFG.o,HEB.o,C46.o,HDD.o])];omega)
          go_wp2_with fail;exact HQ.o _ _ ⟨by rw[HNE.o];first | done | rfl,hq⟩
         | false=>
          have HDD:=lh hdd;clear hdd hsl
          have HN2:Hid (vA none (aA s)=(pos+1)+vA (some c) ((aA s).drop (pos+1))):=lh (by
           rw[HN.o,HD.o,vA,if_pos (by simp[HFG.o,HEB.o,C46.o,HDD.o])];omega)
          go_wp2_with fail
          go_roundg (s.size - (pos+1))
          case measure=>omega
          case rel=>exact⟨pos+1,some c,by omega,by omega,by go_num,HN2.o,.inr ⟨pos,c,rfl,rfl,HC.o⟩,hq⟩
  ·have hpe:pos=s.size:=by omega
   subst hpe
   have HNE:Hid (vA none (aA s)=s.size):=lh (by
    rw[HN.o,List.drop_of_length_le (by rw[cA];exact Nat.le_refl _)];simp[vA])
   go_wp2_with fail;exact HQ.o _ _ ⟨by rw[HNE.o];rfl,hq⟩
end
section
open Go.RowKit
theorem gO {P:Program} {w:World} {src e dst:TypeId} (hs:P.underlying src=some (.slice e)) (he:P.underlying e=some (.int .u8)) (hd:P.underlying dst=some .string) {v:Value} {bs:List UInt8} {g:Nat} (h:pB w v bs g):
  (convert src dst v).run P w=.ok (.string ⟨bs.toArray⟩) w:=by
 obtain⟨A,c,off,rfl,hc,hb⟩:=h;rw[run_convert_bytes_string w src dst e _ _ c hs he hd]
 cases A with
 | none=>
  have h0:bs=[]:=by
   cases bs with
   | nil=>rfl
   | cons x xs=>have:=(hb (by simp)).1;cases this
  subst h0
  simp[Conv.bytesToString]
  rfl
 | some a=>
  have hl:(loadCells a bs.length).run P w=.ok ((bs.map fun(c:UInt8)=>(c.toNat:Int)).map (Value.int .u8)).toArray w:=by
   have:=run_loadCells_list (P:=P) w a (iB bs) (fun j v hj=>by
    have h0:0 < bs.length:=by have:=(List.getElem?_eq_some_iff.1 hj).1;rw[lG] at this;omega
    obtain⟨ha,hcell⟩:=hb h0;injection ha with ha;subst ha;rw[Addr.add_mid];exact hcell j v hj)
   rw[lG] at this;rw[this]
   congr 2
   simp[iB,B8,Function.comp_def]
  rw[run_bytesToString w a bs.length c _ hl,foldl_push_bytes]
  have e:(bs.map fun(c:UInt8)=>(c.toNat:Int)).map (fun n=>UInt8.ofNat n.toNat)=bs:=by
   rw[List.map_map]
   conv=>rhs;rw[<- List.map_id bs]
   apply List.map_congr_left
   intro x _
   simp
  rw[e]
  simp[ByteArray.empty,ByteArray.emptyWithCapacity]
  rfl
end
section
open Go.RowKit Go.Shelf
theorem aDr (a b:UInt8):((a.toNat:Int) == (b.toNat:Int))=(a == b):=by
 by_cases h:a=b
 ·subst h;simp
 ·have:a.toNat ≠ b.toNat:=fun e=>h (UInt8.toNat_inj.1 e);rw[beq_eq_false_iff_ne.2 h,beq_eq_false_iff_ne];omega
theorem sR (c b:UInt8) (l:List UInt8):jA c (b :: l)=((b.toNat:Int) == (c.toNat:Int)):=by
 rw[aDr];unfold jA;simp
theorem aDs {w:World} {A:Option Addr} {n c g:Nat} {bs:List UInt8} (q:UInt8) (hv:pB w (.slice A n c) bs g) (hc:c<=9223372036854775807):RV 160 #[.slice A n c,.int .u8 (q.toNat:Int)] w (aCb (lI q bs)):=by
 refine bA fun R HQ=>?_;obtain⟨hn,hnc⟩:=hv.len;have HV:=lh hv;have HN:=lh hn;clear hv
 cases bs with
 | nil=>
  have hn0:n=0:=by simpa using hn
  subst hn0;clear hn;have HE:Hid (lI q []=aH []):=lh rfl
  go_enter Tryz.func160,Tryz.ntmps160
  go_wp2_with fail;refine(yS HV.o hc).mono ?_;rintro e w1 ⟨rfl,hf1⟩;rw[<- HE.o]
  cases he:lI q [] with
  | none=>
   simp only[aCb];rw[he] at HQ;go_wp2_with fail;exact HQ.o _ _ ⟨rfl,hf1⟩
  | some y=>cases he
 | cons b0 l=>
  obtain⟨off,rfl,c0⟩:=HV.o.head;have h0n:0 < n:=by rw[hn];simp
  have d0:decide (0 < (n:Int))=true:=dT (by omega)
  clear hn;have e1:=sR q b0 l;have e2:=sR 34 b0 l;rw[show((34:UInt8).toNat:Int)=34 from rfl] at e2
  cases h1:jA q (b0 :: l) with
  | true=>
   have HE:Hid (lI q (b0 :: l)=some (q.toNat,1)):=lh (by unfold lI;rw[if_pos h1]);have b3:IntKind.i32.wrap (q.toNat:Int)=(q.toNat:Int):=by rw[IntKind.wrap_i32];have:=q.toNat_lt;omega
   rw[h1] at e1;have e1':=e1.symm;clear h1 e1 e2
   go_enter Tryz.func160,Tryz.ntmps160
   go_wp2_with fail;exact HQ.o _ _ ⟨by rw[HE.o];rfl,Fr.refl _ _⟩
  | false=>
   rw[h1] at e1;have e1':=e1.symm
   cases h2:jA 34 (b0 :: l) with
   | true=>
    have HE:Hid (lI q (b0 :: l)=none):=lh (by unfold lI;rw[if_neg (by rw[h1];simp),if_pos h2]);rw[h2] at e2;have e2':=e2.symm;clear h1 h2 e1 e2
    go_enter Tryz.func160,Tryz.ntmps160
    go_wp2_with fail;exact HQ.o _ _ ⟨by rw[HE.o];rfl,Fr.refl _ _⟩
   | false=>
    have HE:Hid (lI q (b0 :: l)=aH (b0 :: l)):=lh (by unfold lI;rw[if_neg (by rw[h1];simp),if_neg (by rw[h2];simp)]);rw[h2] at e2;have e2':=e2.symm;clear h1 h2 e1 e2
    go_enter Tryz.func160,Tryz.ntmps160
    go_wp2_with fail;refine(yS HV.o hc).mono ?_;rintro e w1 ⟨rfl,hf1⟩;rw[<- HE.o];have HF1:=lh hf1;clear hf1
    cases he:lI q (b0 :: l) with
    | none=>
     rw[he] at HQ;clear he;simp only[aCb];go_wp2_with fail;exact HQ.o _ _ ⟨rfl,HF1.o⟩
    | some y=>
     obtain⟨r,k⟩:=y;rw[he] at HQ;clear he;simp only[aCb];go_wp2_with fail;exact HQ.o _ _ ⟨rfl,HF1.o⟩
end
end Go.Proofs.YtbggkiebfflcdaaGreatDoor
