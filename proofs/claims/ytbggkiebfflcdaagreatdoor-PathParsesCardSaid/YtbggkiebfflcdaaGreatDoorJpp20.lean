/-
  Joined by join.py: Mk Ml Mm
-/
import Derived.Test.YtbggkiebfflcdaaGreatDoorJpp19
set_option maxRecDepth 100000
set_option maxHeartbeats 32000000
namespace Go.Proofs.YtbggkiebfflcdaaGreatDoor
section
open Go.RowKit Go.Shelf
theorem aAa {l:List UInt8} {v k:Nat} (h:aH l=some (v,k)):1<=k/\k<=l.length:=by
 match l,h with
 | c :: t,h=>
  unfold aH at h
  dsimp only at h
  split at h
  ·simp only[Option.some.injEq,Prod.mk.injEq] at h;obtain⟨_,rfl⟩:=h
   simp
  iterate 5
   split at h
   ·simp only[Option.some.injEq,Prod.mk.injEq] at h;obtain⟨_,rfl⟩:=h
    simp
  split at h
  ·cases h
  ·rename_i x hx
   have h5:5<=(c :: t).length:=by
    unfold oD at hx
    split at hx
    ·rename_i h1;exact h1.1
    ·cases hx
   split at h
   ·simp only[Option.some.injEq,Prod.mk.injEq] at h;obtain⟨_,rfl⟩:=h;omega
   ·split at h
    ·rename_i h2
     split at h
     ·cases h
     ·split at h
      ·simp only[Option.some.injEq,Prod.mk.injEq] at h;obtain⟨_,rfl⟩:=h;have:=h2.2.1;omega
      ·cases h
    ·cases h
def aBN (a:Nat) (T:Option (List UInt8 × Nat)):Value:=match T with
 | none=>.tuple #[.string ⟨#[]⟩,.int .i64 0,.int .i64 2]
 | some (o,m)=>.tuple #[.string ⟨o.toArray⟩,.int .i64 ((a+m:Nat):Int),.int .i64 0]
def goT (O:List UInt8) (j:Nat) (t:Option (List UInt8 × Nat)):Option (List UInt8 × Nat):=t.map fun r=>(O ++ r.1,j+r.2)
theorem kQ {O:List UInt8} {j f r k:Nat} {q b:UInt8} {bs:List UInt8} (hb:b ≠ q) (hs:vI q (b :: bs)=some (r,k)):goT O j (uD (f+1) q (b :: bs))=goT (O ++ vC r) (j+k) (uD f q ((b :: bs).drop k)):=by
 rw[uD,if_neg hb,hs]
 dsimp only
 unfold goT
 cases uD f q ((b :: bs).drop k) with
 | none=>rfl
 | some p=>
  obtain⟨o,m⟩:=p
  simp[Nat.add_assoc]
theorem aFS {O:List UInt8} {j f:Nat} {q:UInt8} {bs:List UInt8}:goT O j (uD (f+1) q (q :: bs))=some (O,j+1):=by
 rw[uD]
 simp[goT]
theorem zM {O:List UInt8} {j f:Nat} {q b:UInt8} {bs:List UInt8} (hb:b ≠ q) (hs:vI q (b :: bs)=none):goT O j (uD (f+1) q (b :: bs))=none:=by
 rw[uD,if_neg hb,hs]
 rfl
theorem aFT {O:List UInt8} {j f:Nat} {q:UInt8}:goT O j (uD f q [])=none:=by
 cases f <;> rfl
def aFU (w:World) (L:List UInt8) (q:UInt8) (a:Nat) (T:Option (List UInt8 × Nat)) (v1 v9:Value) (wr:World):Prop:=
 ∃ (k f:Nat) (O:List UInt8) (g:Nat),a<=k/\k<=L.length/\v1=.int .i64 (k:Int)/\L.length < f+k/\goT O (k - a) (uD f q (L.drop k))=T/\pB wr v9 O g/\O.length<=4 * k/\Fr [] w wr
theorem aHm {w:World} (s:ByteArray) (at_:Nat) (q:UInt8) (hq:(aA s)[at_]? = some q) (hq8:q.toNat < 128) (hz:s.size<=1000000):Calls Tryz.prog 80 #[.string s,.int .i64 (at_:Int)] w fun e w'=>e=.returned (aBN (at_+1) (uD (((aA s).drop (at_+1)).length+1) q ((aA s).drop (at_+1))))/\Fr [] w w':=by
 refine bA fun R HQ=>?_;have hlen:=cA s;obtain⟨C,w0,hcv,hC,hba,hf0⟩:=nK w s (by omega);obtain⟨L,hL⟩:∃ L,aA s=L:=⟨_,rfl⟩;obtain⟨n0,hn0⟩:∃ n,s.size=n:=⟨_,rfl⟩;have hix:=fun W=>rA (s:=s) hq .i64 W;obtain⟨T,hT⟩:∃ T,uD (((aA s).drop (at_+1)).length+1) q ((aA s).drop (at_+1))=T:=⟨_,rfl⟩;rw[hT] at HQ;rw[hL] at hT hba hq;rw[hL,hn0] at hlen;rw[hn0] at hcv hba hz;have hal:at_ < n0:=by have:=(List.getElem?_eq_some_iff.1 hq).1;omega
 have HT:=lh hT;have HLN:=lh hlen;have HBA:=lh hba;have HF0:=lh hf0;have hCn:n0<=C:=by have:=hba.len.2;omega
 obtain⟨off,hoff,hcell⟩:=hba.get (by omega);injection hoff with hoff;injection hoff with _ hoff _;subst hoff;simp only[Nat.zero_add] at hcell;have HC:=lh hcell;have has:at_ < s.size:=by rw[hn0];exact hal
 have hqs:∀ {r:Nat},r=q.toNat -> lB (r:Int)=true:=fun h=>by rw[h];unfold lB;rw[decide_eq_true_eq];omega
 have HQS:=lh (hqs rfl);have hq32:IntKind.i32.wrap (q.toNat:Int)=(q.toNat:Int):=by rw[IntKind.wrap_i32];omega
 clear hL hT hlen hba hf0 hcell hq hn0 hqs
 go_enter Tryz.func80,Tryz.ntmps80
 go_wp2_with fail;clear hcv hix
 go_loopw [1,9] (fun v1 v9 wr=>aFU w0 L q (at_+1) T v1 v9 wr) (fun v1 _ _=>n0 - (intOf v1).toNat)
 case atStart=>exact⟨at_+1,(L.drop (at_+1)).length+1,[],0,Nat.le_refl _,by rw[HLN.o];omega,by go_num,by rw[List.length_drop,HLN.o];omega,by
  rw[<- HT.o,Nat.sub_self];unfold goT
  cases uD ((L.drop (at_+1)).length+1) q (L.drop (at_+1)) <;> simp,pB.nil _ _,by simp,Fr.refl _ _⟩
 case round=>
  obtain⟨k,f,O,g,hak,hk,rfl,hf,hgo,hO,hOl,hF⟩:=hrel;rw[HLN.o] at hk hf;have HF:=lh hF;have HGO:=lh hgo;have HOO:=lh hO;have HOL:=lh hOl;clear hF hgo hO hOl
  by_cases hkn:k < n0
  ·obtain⟨f,rfl⟩:∃ f',f=f'+1:=⟨f - 1,by omega⟩;obtain⟨b,hb⟩:∃ b,L[k]? = some b:=gx (by rw[HLN.o];exact hkn);have z1:=dA HF.o (HC.o k b hb);have HDC:=lh (xA hb);have hki:(k:Int) < (n0:Int):=by omega
   have hwk:=wi k (by omega)
   have hgo:=HGO.o;rw[HDC.o] at hgo;have HGB:=lh hgo;clear hb hgo HGO
   by_cases hbq:b=q
   ·have d1:((b.toNat:Int) == (q.toNat:Int))=true:=by rw[hbq];simp
    have HE:Hid (T=some (O,k - (at_+1)+1)):=lh (by rw[<- HGB.o,hbq,aFS]);have hst:=gO (P:=Tryz.prog) (w:=wr) (src:=149) (e:=5) (dst:=9) Tryz.underlying149 Tryz.underlying5 Tryz.underlying9 HOO.o;clear hbq;go_wp2_with fail;exact bodyPost_ret (aF rfl) rfl (HQ.o _ _ ⟨by rw[HE.o];unfold aBN;dsimp only;rw[show at_+1+(k - (at_+1)+1)=k+1 by omega];rfl,HF0.o.trans HF.o⟩)
   ·have d1:((b.toNat:Int) == (q.toNat:Int))=false:=by rw[beq_eq_false_iff_ne];intro h;exact hbq (UInt8.toNat_inj.1 (by omega))
    have hbs:=(HBA.o.fr HF.o).from_ k (by rw[HLN.o];exact hk);rw[HLN.o] at hbs;have hsl:=iD (P:=Tryz.prog) (t:=149) Tryz.underlying149 (by kernel_rfl) (some ⟨w.heap.size,0,none⟩) n0 C k .i64 hk;generalize (if C=k then some (⟨w.heap.size,0,none⟩:Addr) else (some (⟨w.heap.size,0,none⟩:Addr)).map (·.add k))=sa at *;have HBS:=lh hbs;have hs1:=hsl wr;have HBQ:=lh hbq;clear hbs hsl hbq;go_wp2_with fail;refine(aBd HBS.o (by rw[List.length_drop,HLN.o];omega)).mono ?_;rintro e w4 ⟨rfl,hf4⟩;have HFA:=lh (HF.o.trans hf4);have HFB:=lh hf4;have HFW:=lh (HF0.o.trans HFA.o);clear hf4 hs1 z1;rw[HDC.o];unfold tC
    cases hN:mB (b :: L.drop (k+1)) with
    | none=>
     have HEV:T=none:=by rw[<- HGB.o,zM HBQ.o (by unfold vI;rw[hN])]
     have HE:Hid (T=none):=lh HEV;clear hN;go_wp2_with fail;exact bodyPost_ret (aF rfl) rfl (HQ.o _ _ ⟨by rw[HE.o];rfl,HFW.o⟩)
    | some y=>
     obtain⟨r,j⟩:=y;obtain⟨p1,p2,p3,p4⟩:=uF hN;have hjl:k+j<=n0:=by rw[<- HDC.o,List.length_drop,HLN.o] at p2;omega
     have j0:((j:Int) == 0)=false:=by rw[beq_eq_false_iff_ne];omega
     have HST:Hid (vI q (b :: L.drop (k+1))=if r=92 then (match lI q (L.drop (k+1)) with | none=>none | some (r',n')=>some (r',n'+1)) else if r < 32 then none else some (r,j)):=lh (by unfold vI;rw[hN];rfl);have HNX:=lh hN;clear hN
     by_cases h92:r=92
     ·subst h92;have HS2:Hid (vI q (b :: L.drop (k+1))=match lI q (L.drop (k+1)) with | none=>none | some (r',n')=>some (r',n'+1)):=lh (by rw[HST.o,if_pos rfl]);clear HST
      by_cases hk1:k+1 < n0
      ·obtain⟨x,hx⟩:∃ x,L[k+1]? = some x:=gx (by rw[HLN.o];exact hk1);have z2:=dA HFA.o (HC.o (k+1) x hx);have HD2:=lh (xA hx);have hk1i:(k:Int)+1 < (n0:Int):=by omega
       clear hx
       by_cases hxq:x=q
       ·have d2:((x.toNat:Int) == (q.toNat:Int))=true:=by rw[hxq];simp
        have HSO:=lh HQS.o
        have HTN:Hid (goT (O ++ vC q.toNat) (k+2 - (at_+1)) (uD f q (L.drop (k+2)))=T):=lh (by
         have hst2:vI q (b :: L.drop (k+1))=some (q.toNat,2):=by rw[HS2.o];unfold lI;rw[HD2.o,if_pos (by rw[hxq];simp[jA])]
         rw[<- HGB.o,kQ HBQ.o hst2,<- HDC.o,List.drop_drop,show k - (at_+1)+2=k+2 - (at_+1) by omega])
        clear hxq;go_wp2_with fail;refine(aBM (HOO.o.fr HFB.o) HSO.o (by have:=HOL.o;omega)).mono ?_;rintro e w7 ⟨v7,g7,rfl,hb7,hf7⟩;have HF7:=lh (HFA.o.trans hf7);have HB7:=lh hb7;clear hf7 hb7;go_wp2_with fail
        go_roundw
        case rel=>exact⟨k+(2),f,O ++ vC (q.toNat),g7,by omega,by rw[HLN.o];omega,by go_num,by rw[HLN.o];omega,HTN.o,HB7.o,by have:=HOL.o;have:=vK (q.toNat);rw[List.length_append];omega,HF7.o⟩
        case measure=>simp[intOf];omega
       ·have d2:((x.toNat:Int) == (q.toNat:Int))=false:=by rw[beq_eq_false_iff_ne];intro h;exact hxq (UInt8.toNat_inj.1 (by omega))
        have HH:Hid (jA q (L.drop (k+1))=false):=lh (by rw[HD2.o];simp[jA,hxq]);clear hxq
        by_cases hx34:x=34
        ·have d3:((x.toNat:Int) == 34)=true:=by subst hx34;rfl
         have HEV:T=none:=by
          rw[<- HGB.o,zM HBQ.o];rw[HS2.o];unfold lI;rw[HH.o,if_neg (by simp),HD2.o,hx34,if_pos (by simp[jA])]
         have HE:Hid (T=none):=lh HEV;clear hx34;go_wp2_with fail;exact bodyPost_ret (aF rfl) rfl (HQ.o _ _ ⟨by rw[HE.o];rfl,HFW.o⟩)
        ·have d3:((x.toNat:Int) == 34)=false:=by rw[beq_eq_false_iff_ne];intro h;exact hx34 (UInt8.toNat_inj.1 (by show x.toNat=34;omega))
         have HS3:Hid (lI q (L.drop (k+1))=aH (L.drop (k+1))):=lh (by unfold lI;rw[HH.o,if_neg (by simp),if_neg];rw[HD2.o];simp[jA,hx34]);have hbs2:=(HBA.o.fr HFA.o).from_ (k+1) (by rw[HLN.o];omega);rw[HLN.o] at hbs2;have hsl2:=iD (P:=Tryz.prog) (t:=149) Tryz.underlying149 (by kernel_rfl) (some ⟨w.heap.size,0,none⟩) n0 C (k+1) .i64 (by omega);generalize (if C=k+1 then some (⟨w.heap.size,0,none⟩:Addr) else (some (⟨w.heap.size,0,none⟩:Addr)).map (·.add (k+1)))=sb at *;have HBS2:=lh hbs2;have hs2:=hsl2 w4;rw[show((k+1:Nat):Int)=(k:Int)+1 by omega] at hs2;clear hbs2 hsl2;go_wp2_with fail;refine(vZ HBS2.o (by rw[List.length_drop,HLN.o];omega) (by omega)).mono ?_;rintro e w5 ⟨rfl,hf5⟩
         replace HFA:=lh (HFA.o.trans hf5)
         replace HFB:=lh (HFB.o.trans hf5)
         replace HFW:=lh (HFW.o.trans hf5)
         clear hf5 hs2;unfold zG
         cases hE:aH (L.drop (k+1)) with
         | none=>
          have HEV:T=none:=by rw[<- HGB.o,zM HBQ.o];rw[HS2.o,HS3.o,hE]
          have HE:Hid (T=none):=lh HEV;clear hE;go_wp2_with fail;exact bodyPost_ret (aF rfl) rfl (HQ.o _ _ ⟨by rw[HE.o];rfl,HFW.o⟩)
         | some y=>
          obtain⟨v,j2⟩:=y;obtain⟨p5,p6⟩:=aAa hE;have hjl2:k+(j2+1)<=n0:=by rw[List.length_drop,HLN.o] at p6;omega
          have HSO:=lh (sO hE);have j20:((j2:Int) == 0)=false:=by rw[beq_eq_false_iff_ne];omega
          have hwj:=wi j2 (by omega)
          have HTN:Hid (goT (O ++ vC v) (k+(j2+1) - (at_+1)) (uD f q (L.drop (k+(j2+1))))=T):=lh (by
           have hst2:vI q (b :: L.drop (k+1))=some (v,j2+1):=by rw[HS2.o,HS3.o,hE]
           rw[<- HGB.o,kQ HBQ.o hst2,<- HDC.o,List.drop_drop,show k - (at_+1)+(j2+1)=k+(j2+1) - (at_+1) by omega])
          clear hE;go_wp2_with fail;refine(aBM (HOO.o.fr HFB.o) HSO.o (by have:=HOL.o;omega)).mono ?_;rintro e w7 ⟨v7,g7,rfl,hb7,hf7⟩;have HF7:=lh (HFA.o.trans hf7);have HB7:=lh hb7;clear hf7 hb7;go_wp2_with fail
          go_roundw
          case rel=>exact⟨k+(j2+1),f,O ++ vC (v),g7,by omega,by rw[HLN.o];omega,by go_num,by rw[HLN.o];omega,HTN.o,HB7.o,by have:=HOL.o;have:=vK (v);rw[List.length_append];omega,HF7.o⟩
          case measure=>simp[intOf];omega
      ·have hk1i:¬ (k:Int)+1 < (n0:Int):=by omega
       have hk1d:decide ((k:Int)+1 < (n0:Int))=false:=decide_eq_false hk1i;have HS3:Hid (lI q (L.drop (k+1))=aH (L.drop (k+1))):=lh (by rw[List.drop_of_length_le (by rw[HLN.o];omega)];rfl);have hbs2:=(HBA.o.fr HFA.o).from_ (k+1) (by rw[HLN.o];omega);rw[HLN.o] at hbs2;have hsl2:=iD (P:=Tryz.prog) (t:=149) Tryz.underlying149 (by kernel_rfl) (some ⟨w.heap.size,0,none⟩) n0 C (k+1) .i64 (by omega);generalize (if C=k+1 then some (⟨w.heap.size,0,none⟩:Addr) else (some (⟨w.heap.size,0,none⟩:Addr)).map (·.add (k+1)))=sb at *;have HBS2:=lh hbs2;have hs2:=hsl2 w4;rw[show((k+1:Nat):Int)=(k:Int)+1 by omega] at hs2;clear hbs2 hsl2;go_wp2_with fail;refine(vZ HBS2.o (by rw[List.length_drop,HLN.o];omega) (by omega)).mono ?_;rintro e w5 ⟨rfl,hf5⟩
       replace HFA:=lh (HFA.o.trans hf5)
       replace HFB:=lh (HFB.o.trans hf5)
       replace HFW:=lh (HFW.o.trans hf5)
       clear hf5 hs2;unfold zG
       cases hE:aH (L.drop (k+1)) with
       | none=>
        have HEV:T=none:=by rw[<- HGB.o,zM HBQ.o];rw[HS2.o,HS3.o,hE]
        have HE:Hid (T=none):=lh HEV;clear hE;go_wp2_with fail;exact bodyPost_ret (aF rfl) rfl (HQ.o _ _ ⟨by rw[HE.o];rfl,HFW.o⟩)
       | some y=>
        obtain⟨v,j2⟩:=y;obtain⟨p5,p6⟩:=aAa hE;have hjl2:k+(j2+1)<=n0:=by rw[List.length_drop,HLN.o] at p6;omega
        have HSO:=lh (sO hE);have j20:((j2:Int) == 0)=false:=by rw[beq_eq_false_iff_ne];omega
        have hwj:=wi j2 (by omega)
        have HTN:Hid (goT (O ++ vC v) (k+(j2+1) - (at_+1)) (uD f q (L.drop (k+(j2+1))))=T):=lh (by
         have hst2:vI q (b :: L.drop (k+1))=some (v,j2+1):=by rw[HS2.o,HS3.o,hE]
         rw[<- HGB.o,kQ HBQ.o hst2,<- HDC.o,List.drop_drop,show k - (at_+1)+(j2+1)=k+(j2+1) - (at_+1) by omega])
        clear hE;go_wp2_with fail;refine(aBM (HOO.o.fr HFB.o) HSO.o (by have:=HOL.o;omega)).mono ?_;rintro e w7 ⟨v7,g7,rfl,hb7,hf7⟩;have HF7:=lh (HFA.o.trans hf7);have HB7:=lh hb7;clear hf7 hb7;go_wp2_with fail
        go_roundw
        case rel=>exact⟨k+(j2+1),f,O ++ vC (v),g7,by omega,by rw[HLN.o];omega,by go_num,by rw[HLN.o];omega,HTN.o,HB7.o,by have:=HOL.o;have:=vK (v);rw[List.length_append];omega,HF7.o⟩
        case measure=>simp[intOf];omega
     ·have d92:((r:Int) == 92)=false:=by rw[beq_eq_false_iff_ne];omega
      by_cases h32:r < 32
      ·have d32:decide ((r:Int) < 32)=true:=dT (by omega)
       have HEV:T=none:=by rw[<- HGB.o,zM HBQ.o];rw[HST.o,if_neg h92,if_pos h32]
       have HE:Hid (T=none):=lh HEV;clear h92;go_wp2_with fail;exact bodyPost_ret (aF rfl) rfl (HQ.o _ _ ⟨by rw[HE.o];rfl,HFW.o⟩)
      ·have d32:decide ((r:Int) < 32)=false:=dF (by omega)
       have HSO:Hid (lB (r:Int)=true):=lh (by obtain⟨_,_,_,_,_,_,h⟩:=pZ HNX.o;exact h)
       have HTN:Hid (goT (O ++ vC r) (k+j - (at_+1)) (uD f q (L.drop (k+j)))=T):=lh (by
        have hst2:vI q (b :: L.drop (k+1))=some (r,j):=by rw[HST.o,if_neg h92,if_neg h32]
        rw[<- HGB.o,kQ HBQ.o hst2,<- HDC.o,List.drop_drop,show k - (at_+1)+j=k+j - (at_+1) by omega])
       go_wp2_with fail;refine(aBM (HOO.o.fr HFB.o) HSO.o (by have:=HOL.o;omega)).mono ?_;rintro e w7 ⟨v7,g7,rfl,hb7,hf7⟩;have HF7:=lh (HFA.o.trans hf7);have HB7:=lh hb7;clear hf7 hb7;go_wp2_with fail
       go_roundw
       case rel=>exact⟨k+(j),f,O ++ vC (r),g7,by omega,by rw[HLN.o];omega,by go_num,by rw[HLN.o];omega,HTN.o,HB7.o,by have:=HOL.o;have:=vK (r);rw[List.length_append];omega,HF7.o⟩
       case measure=>simp[intOf];omega
  ·have hki:¬ (k:Int) < (n0:Int):=by omega
   have HEV:T=none:=by rw[<- HGO.o,List.drop_of_length_le (by rw[HLN.o];omega),aFT]
   have HFW:=lh (HF0.o.trans HF.o);have HE:Hid (T=none):=lh HEV;clear HEV;go_wp2_with fail;exact bodyPost_ret (aF rfl) rfl (HQ.o _ _ ⟨by rw[HE.o];rfl,HFW.o⟩)
def aHn (w:World) (L:List UInt8) (m:Nat) (v:Value) (wr:World):Prop:=∃ k:Nat,k<=L.length/\v=.int .i64 (k:Int)/\k+((L.drop k).takeWhile yA).length=m/\w=wr
theorem eW {w:World} (s:ByteArray) (hz:s.size<=1000000):Calls Tryz.prog 121 #[.string s] w fun e w'=>e=.returned (.int .i64 (((aA s).takeWhile yA).length:Int))/\w=w':=by
 refine bA fun R HQ=>?_;have hlen:=cA s;obtain⟨L,hL⟩:∃ L,aA s=L:=⟨_,rfl⟩;obtain⟨n0,hn0⟩:∃ n,s.size=n:=⟨_,rfl⟩;obtain⟨m,hm⟩:∃ m,(L.takeWhile yA).length=m:=⟨_,rfl⟩;rw[hL,hn0] at hlen;rw[hn0] at hz;rw[hL,hm] at HQ;have HL:=lh hL;have HN:=lh hn0;have HM:=lh hm;have HLN:=lh hlen;clear hL hn0 hm hlen
 go_enter Tryz.func121,Tryz.ntmps121
 go_wp2_with fail
 go_loopw [3] (fun v wr=>aHn w L m v wr) (fun v _=>n0 - (intOf v).toNat)
 case atStart=>exact⟨0,by omega,rfl,by rw[List.drop_zero,HM.o];omega,rfl⟩
 case round=>
  obtain⟨k,hk,rfl,hmk,rfl⟩:=hrel;rw[HLN.o] at hk;have HMK:=lh hmk;clear hmk
  by_cases hkn:k < n0
  ·have hkn':k < s.size:=by rw[HN.o];exact hkn
   obtain⟨c,hc⟩:∃ c,L[k]? = some c:=gx (by rw[HLN.o];exact hkn);have hix:=fun W=>rA (s:=s) (by rw[HL.o];exact hc) .i64 W;have HDC:=lh (xA hc);have HDG:=lh (fun W=>xW c W);clear hc
   cases hb:yA c with
   | true=>
    have HMN:Hid (k+1+((L.drop (k+1)).takeWhile yA).length=m):=lh (by rw[<- HMK.o,HDC.o,List.takeWhile_cons,if_pos hb,List.length_cons];omega);rw[hb] at HDG;clear hb;go_wp2_with fail;refine(HDG.o _).mono ?_;rintro e w1 ⟨rfl,rfl⟩;go_wp2_with fail
    go_roundw
    case rel=>exact⟨k+1,by rw[HLN.o];omega,by go_num,HMN.o,rfl⟩
    case measure=>simp[intOf];omega
   | false=>
    have HMN:Hid (m=k):=lh (by rw[<- HMK.o,HDC.o,List.takeWhile_cons,if_neg (by rw[hb];simp)];simp);rw[hb] at HDG;clear hb;go_wp2_with fail;refine(HDG.o _).mono ?_;rintro e w1 ⟨rfl,rfl⟩;go_wp2_with fail;exact HQ.o _ _ ⟨by rw[HMN.o];rfl,rfl⟩
  ·have hkn':¬ k < s.size:=by rw[HN.o];exact hkn
   have HMN:Hid (m=k):=lh (by rw[<- HMK.o,List.drop_of_length_le (by rw[HLN.o];omega)];simp);go_wp2_with fail;exact HQ.o _ _ ⟨by rw[HMN.o];rfl,rfl⟩
def aHo (w:World) (L:List UInt8) (v3 v4:Value) (wr:World):Prop:=∃ i n:Nat,i<=L.length/\v4=.int .i64 (i:Int)/\v3=.int .i64 (n:Int)/\n<=1000000/\dG L=(L.drop i).foldl (fun n c=>min (n * 10+(c.toNat - 48)) 1000000) n/\w=wr
theorem rS {w:World} (s:ByteArray) (hz:s.size<=1000000) (hfig:∀ c ∈ aA s,yA c=true):Calls Tryz.prog 122 #[.string s] w fun e w'=>e=.returned (.int .i64 (dG (aA s):Int))/\w=w':=by
 refine bA fun R HQ=>?_;have hlen:=cA s;obtain⟨L,hL⟩:∃ L,aA s=L:=⟨_,rfl⟩;obtain⟨n0,hn0⟩:∃ n,s.size=n:=⟨_,rfl⟩;rw[hL,hn0] at hlen;rw[hn0] at hz;rw[hL] at HQ hfig;have HL:=lh hL;have HN:=lh hn0;have HLN:=lh hlen;have HFIG:=lh hfig;clear hL hn0 hlen hfig
 go_enter Tryz.func122,Tryz.ntmps122
 go_wp2_with fail
 go_loopw [3,4] (fun v3 v4 wr=>aHo w L v3 v4 wr) (fun _ v4 _=>n0 - (intOf v4).toNat)
 case atStart=>exact⟨0,0,by omega,rfl,rfl,by omega,rfl,rfl⟩
 case round=>
  obtain⟨i,n,hi,rfl,rfl,hn,hfo,rfl⟩:=hrel;have HFO:=lh hfo;rw[HLN.o] at hi;clear hfo
  by_cases hin:i < n0
  ·have hin':i < s.size:=by rw[HN.o];exact hin
   obtain⟨u,hu⟩:∃ u,L[i]? = some u:=gx (by rw[HLN.o];exact hin);have hix:=fun W=>rA (s:=s) (by rw[HL.o];exact hu) .i64 W;obtain⟨hu1,hu2,_⟩:=mK (HFIG.o u (List.mem_of_getElem? hu));have HD:=lh (xA hu);have b1:IntKind.u8.wrap ((u.toNat:Int) - 48)=((u.toNat - 48:Nat):Int):=by rw[IntKind.wrap_u8];omega
   have HFO2:Hid (dG L=(L.drop (i+1)).foldl (fun n c=>min (n * 10+(c.toNat - 48)) 1000000) (min (n * 10+(u.toNat - 48)) 1000000)):=lh (by rw[HFO.o,HD.o];rfl);clear hu;go_wp2_with fail
   go_roundw
   case rel=>exact⟨i+1,_,by rw[HLN.o];omega,by go_num,(by congr 1;omega),Nat.min_le_right _ _,HFO2.o,rfl⟩
   case measure=>simp[intOf];omega
  ·have hin':¬ i < s.size:=by rw[HN.o];exact hin
   have HNS:Hid (dG L=n):=lh (by rw[HFO.o,List.drop_of_length_le (by rw[HLN.o];omega)];rfl);go_wp2_with fail;exact HQ.o _ _ ⟨by rw[HNS.o];rfl,rfl⟩
def qI (neg:Bool) (digits:List UInt8) (exp:Int):Dcm:=
 if uC qC (digits.dropWhile qC)=[] then .zero else ⟨neg,uC qC (digits.dropWhile qC),exp+(digits.dropWhile qC).length - (uC qC (digits.dropWhile qC)).length⟩
theorem aFV (neg:Bool) (digits:List UInt8) (exp:Int):mG neg digits exp=if (qI neg digits exp).sane then .ok (qI neg digits exp) else .error 4:=by
 unfold mG qI
 dsimp only
 split
 ·rfl
 ·rfl
theorem fW (c:UInt8):((c.toNat:Int) == 48)=qC c:=by
 unfold qC;rw[Bool.eq_iff_iff,beq_iff_eq,beq_iff_eq];omega
theorem aV {L:List UInt8} {c:UInt8} {n:Nat} (hn:L.length=n+1) (hc:L[n]? = some c):uC qC L=if qC c=true then uC qC (L.take n) else L:=by
 have h1:L=L.take n ++ [c]:=by
  have h2:=List.take_append_drop n L;rw[xA hc,List.drop_of_length_le (by omega)] at h2;exact h2.symm
 unfold uC
 conv=>lhs;rw[h1]
 rw[List.reverse_append,List.reverse_cons,List.reverse_nil,List.nil_append,List.singleton_append,List.dropWhile_cons]
 split
 ·rfl
 ·rw[List.reverse_cons,List.reverse_reverse];exact h1.symm
def aFW (w:World) (D:List UInt8) (m:Nat) (j:Nat) (v:Value) (wr:World):Prop:=∃ t:ByteArray,v=.string t/\t.size=j/\j<=m/\(aA t).dropWhile qC=D/\w=wr
def aBO (w:World) (T:List UInt8) (exp:Int) (m:Nat) (j:Nat) (v v2:Value) (wr:World):Prop:=∃ t:ByteArray,v=.string t/\v2=.int .i64 (exp+m - j)/\t.size=j/\j<=m/\uC qC (aA t)=T/\w=wr
theorem aHp {w:World} (neg:Bool) (s:ByteArray) (exp:Int) (hz:s.size<=1000000) (h1:-3000000<=exp) (h2:exp<=3000000):RV 124 #[.bool neg,.string s,.int .i64 exp] w (gC (qI neg (aA s) exp)):=by
 refine bA fun R HQ=>?_;have hfz:=(Fr.refl [] w).alloc (.cells #[.bool false,.string { data:=#[] },.int .i64 0] 93);have hbz:=Blk.new w 93 [.bool false,.string { data:=#[] },.int .i64 0];obtain⟨n0,hn0⟩:∃ n,s.size=n:=⟨_,rfl⟩;obtain⟨D,hD⟩:∃ D,(aA s).dropWhile qC=D:=⟨_,rfl⟩;have HD:=lh hD;have HN:=lh hn0;rw[hn0] at hz
 go_enter Tryz.func124,Tryz.ntmps124
 clear hD hn0;go_upto_region 1 with fail
 generalize w.alloc (.cells #[.bool false,.string { data:=#[] },.int .i64 0] 93)=w0 at *;have HF:=lh hfz;have HB:=lh hbz;clear hfz hbz
 go_loopg [1] n0 (fun j v wr=>aFW w0 D n0 j v wr)
 case atStart=>exact⟨s,rfl,HN.o,Nat.le_refl _,HD.o,rfl⟩
 case round=>
  obtain⟨j,rfl⟩:=nm (gk);obtain⟨t,rfl,htj,hj,htd,rfl⟩:=hrel;have HTJ:=lh htj;have HTD:=lh htd;have hlen:=cA t;rw[htj] at hlen;have HLN:=lh hlen
  by_cases hj0:0 < j
  ·have hj0':0 < t.size:=by rw[HTJ.o];exact hj0
   have d0:decide ((0:Int) < (t.size:Int))=true:=dT (by omega)
   obtain⟨c,hc⟩:∃ c,(aA t)[0]? = some c:=gx (by rw[hlen];exact hj0);have hix:∀ W,(Instr.index 9 (.string t) (.int .i64 0)).run Tryz.prog W=.ok (.int .u8 (c.toNat:Int)) W:=fun W=>rA (s:=t) hc .i64 W;have hzc:=fW c;have HDC:=lh (xA hc);clear hc hlen htj htd
   cases hb:qC c with
   | true=>
    rw[hb] at hzc;obtain⟨t2,ht2,hsl0⟩:=mD t 1 (by omega);have hsl:=hsl0 .i64;rw[show((1:Nat):Int)=1 from rfl] at hsl;have HT2:Hid (t2.size=j - 1):=lh (by rw[<- cA,ht2,List.length_drop,HLN.o]);have HD2:Hid ((aA t2).dropWhile qC=D):=lh (by rw[ht2,<- HTD.o];conv=>rhs;rw[<- List.drop_zero (l:=aA t),HDC.o,List.dropWhile_cons,if_pos hb]);clear hb ht2 hsl0;go_wp2_with fail
    go_roundg (j - 1)
    case measure=>omega
    case rel=>exact⟨t2,rfl,HT2.o,by omega,HD2.o,rfl⟩
   | false=>
    rw[hb] at hzc;have HDD:Hid (aA t=D):=lh (by rw[<- HTD.o];(conv=>rhs;rw[<- List.drop_zero (l:=aA t),HDC.o,List.dropWhile_cons,if_neg (by rw[hb];simp)]);(conv=>lhs;rw[<- List.drop_zero (l:=aA t),HDC.o]));clear hb;go_wp2_with fail;obtain⟨T,hT⟩:∃ T,uC qC D=T:=⟨_,rfl⟩;have HTT:=lh hT;clear hT hj0'
    go_loopg [1,2] j (fun i v v2 wr=>aBO w0 T exp j i v v2 wr)
    case atStart=>exact⟨t,rfl,by go_num,HTJ.o,Nat.le_refl _,by rw[HDD.o];exact HTT.o,rfl⟩
    case round=>
     obtain⟨i,rfl⟩:=nm (gk);obtain⟨u,rfl,rfl,hui,hi,hut,rfl⟩:=hrel;have HUI:=lh hui;have HUT:=lh hut;have hlu:=cA u;rw[hui] at hlu;have HLU:=lh hlu
     by_cases hi0:0 < i
     ·skip
      have hi0':0 < u.size:=by rw[HUI.o];exact hi0
      have d3:decide ((0:Int) < (u.size:Int))=true:=dT (by omega)
      obtain⟨c2,hc2⟩:∃ c,(aA u)[i - 1]? = some c:=gx (by rw[hlu];omega);have hw1:IntKind.i64.wrap ((u.size:Int) - 1)=((i - 1:Nat):Int):=by rw[HUI.o,IntKind.wrap_i64];omega
      have hix2:=fun W=>rA (s:=u) hc2 .i64 W;have hzc2:=fW c2;have HLS:=lh (aV (n:=i - 1) (by rw[hlu];omega) hc2);clear hc2 hlu hui hut
      cases hb2:qC c2 with
      | true=>
       rw[hb2] at hzc2;obtain⟨t3,ht3,hsl3⟩:=lM u (i - 1) (by rw[HUI.o];omega);have hsl4:=hsl3 .i64;have HT3:Hid (t3.size=i - 1):=lh (by rw[<- cA,ht3,List.length_take,HLU.o];omega);have HD3:Hid (uC qC (aA t3)=T):=lh (by rw[ht3,<- HUT.o,HLS.o,if_pos hb2]);have hwe:IntKind.i64.wrap (exp+(j:Int) - (i:Int)+1)=exp+(j:Int) - ((i - 1:Nat):Int):=by rw[IntKind.wrap_i64];omega
       clear hb2 ht3 hsl3;go_wp2_with fail
       go_roundg (i - 1)
       case measure=>omega
       case rel=>exact⟨t3,rfl,by go_num,HT3.o,by omega,HD3.o,rfl⟩
      | false=>
       rw[hb2] at hzc2;have HUT2:Hid (aA u=T):=lh (by rw[<- HUT.o,HLS.o,if_neg (by rw[hb2];simp)])
       have hnil:(u.toList == ([]:List UInt8))=false:=by
        rw[gE]
        cases hh:aA u with
        | nil=>have:=HLU.o;rw[hh] at this;simp at this;omega
        | cons _ _=>rfl
       have HE:Hid (qI neg (aA s) exp=⟨neg,aA u,exp+j - i⟩):=lh (by
        unfold qI;rw[HD.o,HTT.o,if_neg (by intro h;have:=HLU.o;rw[HUT2.o,h] at this;simp at this;omega),<- HUT2.o,HLU.o,<- HDD.o,HLN.o])
       clear hb2;have z0:=HB.o.at_ (i:=0) rfl;have z1:=HB.o.at_ (i:=1) rfl;have z2:=HB.o.at_ (i:=2) rfl;have zf:=HB.o.free;go_wp2_with fail;have hb:=HB.o.setL (vs:=[.bool neg,.string u,.int .i64 (exp+j - i)]) rfl;exact xD rfl rfl hb Tryz.underlying93 rfl (by kernel_rfl) (HQ.o _ _ ⟨by rw[HE.o];rfl,HF.o.setL (k:=0) (vs:=[.bool neg,.string u,.int .i64 (exp+j - i)]) (.inr (Nat.le_refl _))⟩)
     ·have hi0':¬ 0 < u.size:=by rw[HUI.o];exact hi0
      have d3:decide ((0:Int) < (u.size:Int))=false:=dF (by omega)
      have hu0:aA u=[]:=List.length_eq_zero_iff.1 (by omega)
      have HE:Hid (qI neg (aA s) exp=.zero):=lh (by
       unfold qI;rw[HD.o,HTT.o,if_pos (by rw[<- HUT.o,hu0];rfl)])
      have hnil:(u.toList == ([]:List UInt8))=true:=by rw[gE,hu0];rfl
      clear hu0 hlu hui hut;have z0:=HB.o.at_ (i:=0) rfl;have z1:=HB.o.at_ (i:=1) rfl;have z2:=HB.o.at_ (i:=2) rfl;have zf:=HB.o.free;go_wp2_with fail;have hb:=HB.o.setL (vs:=[.bool false,.string { data:=#[] },.int .i64 0]) rfl;exact xD rfl rfl hb Tryz.underlying93 rfl (by kernel_rfl) (HQ.o _ _ ⟨by rw[HE.o];rfl,HF.o.setL (k:=0) (vs:=[.bool false,.string { data:=#[] },.int .i64 0]) (.inr (Nat.le_refl _))⟩)
  ·have hj0':¬ 0 < t.size:=by rw[HTJ.o];exact hj0
   have d0:decide ((0:Int) < (t.size:Int))=false:=dF (by omega)
   have HDD:Hid (aA t=D):=lh (by rw[<- HTD.o,List.length_eq_zero_iff.1 (show(aA t).length=0 by omega)];rfl);clear hlen htj htd;go_wp2_with fail;obtain⟨T,hT⟩:∃ T,uC qC D=T:=⟨_,rfl⟩;have HTT:=lh hT;clear hT hj0'
   go_loopg [1,2] j (fun i v v2 wr=>aBO w0 T exp j i v v2 wr)
   case atStart=>exact⟨t,rfl,by go_num,HTJ.o,Nat.le_refl _,by rw[HDD.o];exact HTT.o,rfl⟩
   case round=>
    obtain⟨i,rfl⟩:=nm (gk);obtain⟨u,rfl,rfl,hui,hi,hut,rfl⟩:=hrel;have HUI:=lh hui;have HUT:=lh hut;have hlu:=cA u;rw[hui] at hlu;have HLU:=lh hlu
    by_cases hi0:0 < i
    ·skip
     exact absurd hi0 (by omega)
    ·have hi0':¬ 0 < u.size:=by rw[HUI.o];exact hi0
     have d3:decide ((0:Int) < (u.size:Int))=false:=dF (by omega)
     have hu0:aA u=[]:=List.length_eq_zero_iff.1 (by omega)
     have HE:Hid (qI neg (aA s) exp=.zero):=lh (by
      unfold qI;rw[HD.o,HTT.o,if_pos (by rw[<- HUT.o,hu0];rfl)])
     have hnil:(u.toList == ([]:List UInt8))=true:=by rw[gE,hu0];rfl
     clear hu0 hlu hui hut;have z0:=HB.o.at_ (i:=0) rfl;have z1:=HB.o.at_ (i:=1) rfl;have z2:=HB.o.at_ (i:=2) rfl;have zf:=HB.o.free;go_wp2_with fail;have hb:=HB.o.setL (vs:=[.bool false,.string { data:=#[] },.int .i64 0]) rfl;exact xD rfl rfl hb Tryz.underlying93 rfl (by kernel_rfl) (HQ.o _ _ ⟨by rw[HE.o];rfl,HF.o.setL (k:=0) (vs:=[.bool false,.string { data:=#[] },.int .i64 0]) (.inr (Nat.le_refl _))⟩)
structure lU (d:Dcm):Prop where
 zero:d.digits=[] -> d=.zero
 figs:d.digits.all yA=true
 head:d.digits ≠ [] -> d.digits.head? ≠ some 48
 last:d.digits ≠ [] -> d.digits.getLast? ≠ some 48
 len:d.digits.length<=1000000
 lo:-5000000<=d.exp
 hi:d.exp<=5000000
theorem aAb {d:Dcm} (h:lU d) (h0:d.digits ≠ []):d.sane=decide ((d.digits.length:Int)<=40 /\ -1000<=d.exp/\d.exp<=1000 /\ -400<=(d.digits.length:Int)+d.exp/\(d.digits.length:Int)+d.exp<=400):=by
 unfold Dcm.sane Dcm.high;rw[if_neg h0,h.figs,Bool.eq_iff_iff];simp only[Bool.and_eq_true,decide_eq_true_eq];have h1:=h.head h0;have h2:=h.last h0
 constructor
 ·rintro⟨⟨⟨⟨a,_⟩,b⟩,_⟩,_⟩;omega
 ·intro a;exact⟨⟨⟨⟨by omega,trivial⟩,by omega⟩,h1⟩,h2⟩
theorem kR {L:List UInt8} (_h:uC qC L ≠ []):(uC qC L).getLast? ≠ some 48:=by
 unfold uC at *;rw[List.getLast?_reverse];intro h2
 cases hd:List.dropWhile qC L.reverse with
 | nil=>rw[hd] at h2;cases h2
 | cons x xs=>
  rw[hd] at h2;simp only[List.head?_cons,Option.some.injEq] at h2;have h3:=List.head?_dropWhile_not qC L.reverse;rw[hd,h2] at h3
  simp[qC] at h3
theorem gX (L:List UInt8):∃ r,uC qC L ++ r=L:=by
 unfold uC;refine⟨(L.reverse.takeWhile qC).reverse,?_⟩;rw[<- List.reverse_append,List.takeWhile_append_dropWhile,List.reverse_reverse]
theorem aAc (neg:Bool) {digits:List UInt8} (exp:Int) (hf:digits.all yA=true) (hl:digits.length<=1000000) (h1:-3000000<=exp) (h2:exp<=3000000):lU (qI neg digits exp):=by
 unfold qI;obtain⟨r,hr⟩:=gX (digits.dropWhile qC);have hlast:=@kR (digits.dropWhile qC);have hle:=cE qC digits;have hhead:=List.head?_dropWhile_not qC digits
 have hall:(digits.dropWhile qC).all yA=true:=by
  rw[List.all_eq_true] at hf ⊢;exact fun c hc=>hf c ((List.dropWhile_sublist qC).subset hc)
 generalize uC qC (digits.dropWhile qC)=T at *;generalize digits.dropWhile qC=D at *;subst hr;rw[List.length_append] at hle ⊢
 split
 ·exact⟨fun _=>rfl,rfl,fun h=>absurd rfl h,fun h=>absurd rfl h,by simp[Dcm.zero],by simp[Dcm.zero],by simp[Dcm.zero]⟩
 ·rename_i hT
  refine⟨fun h=>absurd h hT,?_,fun _=>?_,fun h=>hlast h,by show T.length<=_;omega,by show -5000000<=exp+_ - _;omega,by show exp+_ - _<=5000000;omega⟩
  ·rw[List.all_append,Bool.and_eq_true] at hall;exact hall.1
  ·intro h3
   change T.head? = some 48 at h3
   cases T with
   | nil=>cases h3
   | cons x xs=>
    simp only[List.head?_cons,Option.some.injEq] at h3;subst h3
    simp[qC] at hhead
theorem saneF {w:World} (d:Dcm) (h:lU d):RV 134 #[gC d] w (.bool d.sane):=by
 by_cases h0:d.digits=[]
 ·rw[h.zero h0];exact aEg _ rfl
 ·refine bA fun R HQ=>?_;have hse:=aAb h h0;have f2:=h.figs;have f5:=h.head h0;have f6:=h.last h0;have f1:=h.len;have f3:=h.lo;have f4:=h.hi;obtain⟨neg,digits,exp⟩:=d
  simp only at h0 f1 f2 f3 f4 f5 f6 hse
  unfold gC S8
  simp only
  obtain⟨s,hs⟩:∃ s:ByteArray,s=⟨digits.toArray⟩:=⟨_,rfl⟩;have hz:s.size=digits.length:=by rw[hs];simp[ByteArray.size]
  have hsb:aA s=digits:=by rw[hs];rfl
  rw[<- hs];have hn0:0 < digits.length:=by cases digits with | nil=>exact absurd rfl h0 | cons _ _=>simp
  obtain⟨c0,hc0⟩:=gx (l:=digits) hn0;obtain⟨c9,hc9⟩:∃ c,digits[digits.length - 1]? = some c:=gx (by omega)
  have e0:((c0.toNat:Int) != 48)=true:=by
   rw[<- iV c0,decide_eq_true_eq];rw[List.head?_eq_getElem?,hc0] at f5;exact f5
  have e9:((c9.toNat:Int) != 48)=true:=by
   rw[<- iV c9,decide_eq_true_eq];rw[List.getLast?_eq_getElem?,hc9] at f6;exact f6
  have hi0:∀ W,(Instr.index 9 (.string s) (.int .i64 0)).run Tryz.prog W=.ok (.int .u8 (c0.toNat:Int)) W:=fun W=>rA (s:=s) (by rw[hsb];exact hc0) .i64 W;have hi9:=fun W=>rA (s:=s) (i:=digits.length - 1) (by rw[hsb];exact hc9) .i64 W;rw[<- hz] at hi9 f1 hn0 hse;obtain⟨n,hn⟩:∃ n,s.size=n:=⟨_,rfl⟩;rw[show((s.size - 1:Nat):Int)=(s.size:Int) - 1 by omega] at hi9;have HSB:=lh hsb;have HAL:=lh f2;have HN:=lh hn;have HZ:=lh hz;rw[hn] at hi9 f1 hn0 hse;have HSE:=lh hse;have hw1:IntKind.i64.wrap ((n:Int) - 1)=(n:Int) - 1:=by rw[IntKind.wrap_i64];omega
  have hw2:IntKind.i64.wrap ((n:Int)+exp)=(n:Int)+exp:=by rw[IntKind.wrap_i64];omega
  have z0:((n:Int) == 0)=false:=by rw[beq_eq_false_iff_ne];omega
  have hb0:=Blk.new w 93 [.bool neg,.string s,.int .i64 exp];clear h h0 hc0 hc9 f5 f6 f2 hs hsb hz hse
  go_enter Tryz.func134,Tryz.ntmps134
  go_upto_region 1 with fail
  have hf0:Fr [] w (w.alloc (.cells #[.bool neg,.string s,.int .i64 exp] 93)):=(Fr.refl [] w).alloc _;generalize w.alloc (.cells #[.bool neg,.string s,.int .i64 exp] 93)=w0 at *;have HF0:=lh hf0;have k1:=hb0.at_ (i:=1) rfl;have k2:=hb0.at_ (i:=2) rfl;clear hb0 hf0;go_wp2_with fail
  go_loopg [4] n (fun j v wr=>aEf n w0 j v wr)
  case atStart=>exact⟨0,by omega,rfl,rfl⟩
  case round=>
   obtain⟨k,hk,rfl,rfl⟩:=hrel
   by_cases hkn:k < n
   ·have hki:(k:Int) < (n:Int):=by omega
    obtain⟨c,hc⟩:∃ c,digits[k]? = some c:=gx (by rw[<- HZ.o,HN.o];exact hkn);have hix:=fun W=>rA (s:=s) (by rw[HSB.o];exact hc) .i64 W;have HDG:=lh (fun W=>xW c W);rw[show yA c=true from List.all_eq_true.1 HAL.o c (List.mem_of_getElem? hc)] at HDG;clear hc;go_wp2_with fail;refine(HDG.o _).mono ?_;rintro e w1 ⟨rfl,rfl⟩;go_wp2_with fail
    go_roundg (n - (k+1))
    case measure=>omega
    case rel=>exact⟨k+1,by omega,by go_num,rfl⟩
   ·have hki:¬ (k:Int) < (n:Int):=by omega
    by_cases b1:(n:Int)<=40
    ·have z1:decide ((n:Int)<=40)=true:=decide_eq_true b1
     by_cases b2:-1000<=exp
     ·have z2:decide (-1000<=exp)=true:=decide_eq_true b2
      by_cases b3:exp<=1000
      ·have z3:decide (exp<=1000)=true:=decide_eq_true b3
       by_cases b4:-400<=(n:Int)+exp
       ·have z4:decide (-400<=(n:Int)+exp)=true:=decide_eq_true b4
        by_cases b5:(n:Int)+exp<=400
        ·have z5:decide ((n:Int)+exp<=400)=true:=decide_eq_true b5;have HB:Hid ((⟨neg,digits,exp⟩:Dcm).sane=true):=lh (by rw[HSE.o,Bool.eq_iff_iff,decide_eq_true_eq];simp;omega);go_wp2_with fail;exact HQ.o _ _ ⟨by rw[HB.o],HF0.o⟩
        ·have z5:decide ((n:Int)+exp<=400)=false:=decide_eq_false b5;have HB:Hid ((⟨neg,digits,exp⟩:Dcm).sane=false):=lh (by rw[HSE.o,Bool.eq_iff_iff,decide_eq_true_eq];simp;omega);go_wp2_with fail;exact HQ.o _ _ ⟨by rw[HB.o],HF0.o⟩
       ·have z4:decide (-400<=(n:Int)+exp)=false:=decide_eq_false b4;have HB:Hid ((⟨neg,digits,exp⟩:Dcm).sane=false):=lh (by rw[HSE.o,Bool.eq_iff_iff,decide_eq_true_eq];simp;omega);go_wp2_with fail;exact HQ.o _ _ ⟨by rw[HB.o],HF0.o⟩
      ·have z3:decide (exp<=1000)=false:=decide_eq_false b3;have HB:Hid ((⟨neg,digits,exp⟩:Dcm).sane=false):=lh (by rw[HSE.o,Bool.eq_iff_iff,decide_eq_true_eq];simp;omega);go_wp2_with fail;exact HQ.o _ _ ⟨by rw[HB.o],HF0.o⟩
     ·have z2:decide (-1000<=exp)=false:=decide_eq_false b2;have HB:Hid ((⟨neg,digits,exp⟩:Dcm).sane=false):=lh (by rw[HSE.o,Bool.eq_iff_iff,decide_eq_true_eq];simp;omega);go_wp2_with fail;exact HQ.o _ _ ⟨by rw[HB.o],HF0.o⟩
    ·have z1:decide ((n:Int)<=40)=false:=decide_eq_false b1;have HB:Hid ((⟨neg,digits,exp⟩:Dcm).sane=false):=lh (by rw[HSE.o,Bool.eq_iff_iff,decide_eq_true_eq];simp;omega);go_wp2_with fail;exact HQ.o _ _ ⟨by rw[HB.o],HF0.o⟩
def aED (d:Dcm):Value:=if d.sane=true then .tuple #[gC d,.int .i64 0] else .tuple #[gC .zero,.int .i64 4]
theorem aHq {w:World} (d:Dcm) (h:lU d):RV 123 #[gC d] w (aED d):=by
 refine bA fun R HQ=>?_;have HS:=lh (fun W=>saneF (w:=W) d h);obtain⟨bb,hbb⟩:∃ bb,d.sane=bb:=⟨_,rfl⟩;rw[hbb] at HS;unfold aED at HQ;rw[hbb] at HQ;clear h hbb;obtain⟨neg,digits,exp⟩:=d;unfold gC S8 at HS HQ ⊢
 simp only at HS HQ ⊢
 obtain⟨s,hs⟩:∃ s:ByteArray,s=⟨digits.toArray⟩:=⟨_,rfl⟩;rw[<- hs] at HS HQ ⊢;clear hs;have hf0:=((Fr.refl [] w).alloc (.cells #[.bool neg,.string s,.int .i64 exp] 93)).alloc (.cells #[.bool false,.string { data:=#[] },.int .i64 0] 93);have hb0:=(Blk.new w 93 [.bool neg,.string s,.int .i64 exp]).alloc (.cells #[.bool false,.string { data:=#[] },.int .i64 0] 93);have hb1:=Blk.new (w.alloc (.cells #[.bool neg,.string s,.int .i64 exp] 93)) 93 [.bool false,.string { data:=#[] },.int .i64 0];rw[show(w.alloc (.cells #[.bool neg,.string s,.int .i64 exp] 93)).heap.size=w.heap.size+1 by simp] at hb1
 go_enter Tryz.func123,Tryz.ntmps123
 go_upto_region 1 with fail
 generalize (w.alloc (.cells #[.bool neg,.string s,.int .i64 exp] 93)).alloc (.cells #[.bool false,.string { data:=#[] },.int .i64 0] 93)=w0 at *;have HF0:=lh hf0;have HB0:=lh hb0;have HB1:=lh hb1;have k0:=hb0.at_ (i:=0) rfl;have k1:=hb0.at_ (i:=1) rfl;have k2:=hb0.at_ (i:=2) rfl;clear hf0 hb0 hb1;go_wp2_with fail;refine(HS.o _).mono ?_;rintro e w1 ⟨rfl,hf1⟩;have HF1:=lh (HF0.o.trans hf1);have HBB:=lh (HB1.o.fr hf1);have q0:=(HB0.o.fr hf1).at_ (i:=0) rfl;have q1:=(HB0.o.fr hf1).at_ (i:=1) rfl;have q2:=(HB0.o.fr hf1).at_ (i:=2) rfl;have p0:=HBB.o.at_ (i:=0) rfl;have p1:=HBB.o.at_ (i:=1) rfl;have p2:=HBB.o.at_ (i:=2) rfl;have zf:=HBB.o.free;clear hf1 k0 k1 k2
 cases bb with
 | true=>
  go_wp2_with fail;have hb:=HBB.o.setL (vs:=[.bool neg,.string s,.int .i64 exp]) rfl;exact bodyPost_ret (fA (d:=_) rfl rfl hb Tryz.underlying93 rfl (by kernel_rfl)) rfl (HQ.o _ _ ⟨rfl,HF1.o.setL (k:=0) (vs:=[.bool neg,.string s,.int .i64 exp]) (.inr (Nat.le_succ _))⟩)
 | false=>
  go_wp2_with fail;have hb:=HBB.o.setL (vs:=[.bool false,.string { data:=#[] },.int .i64 0]) rfl;exact bodyPost_ret (fA (d:=_) rfl rfl hb Tryz.underlying93 rfl (by kernel_rfl)) rfl (HQ.o _ _ ⟨rfl,HF1.o.setL (k:=0) (vs:=[.bool false,.string { data:=#[] },.int .i64 0]) (.inr (Nat.le_succ _))⟩)
end
end Go.Proofs.YtbggkiebfflcdaaGreatDoor
