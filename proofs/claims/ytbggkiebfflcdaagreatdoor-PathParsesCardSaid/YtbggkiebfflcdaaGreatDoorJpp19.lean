/-
  Joined by join.py: Mf Mg Mh Mi Mj
-/
import Derived.Test.YtbggkiebfflcdaaGreatDoorJpp18
set_option maxRecDepth 100000
set_option maxHeartbeats 32000000
namespace Go.Proofs.YtbggkiebfflcdaaGreatDoor
section
open Go.RowKit
def zG (l:List UInt8):Value:=match aH l with
 | none=>.tuple #[.int .i32 0,.int .i64 0]
 | some (v,k)=>.tuple #[.int .i32 (v:Int),.int .i64 (k:Int)]
theorem dW {l:List UInt8} (h:jA 117 l=true):oD l=if 4<=(l.drop 1).length then yG 0 ((l.drop 1).take 4) else none:=by
 unfold oD;rw[List.length_drop]
 by_cases h5:5<=l.length
 ·rw[if_pos ⟨h5,h⟩,if_pos (by omega)]
 ·rw[if_neg (fun hh=>h5 hh.1),if_neg (by omega)]
theorem vZ {w:World} {A:Option Addr} {n c g:Nat} {l:List UInt8} (hv:pB w (.slice A n c) l g) (hz:l.length<=9223372036854775000) (_hcz:c<=9223372036854775807):RV 125 #[.slice A n c] w (zG l):=by
 refine bA fun R HQ=>?_;obtain⟨hn,hnc⟩:=hv.len
 match l with
 | []=>
  have hn0:n=0:=hn;subst hn0;clear hv hn
  go_enter Tryz.func125,Tryz.ntmps125
  go_wp2_with fail;exact HQ.o _ _ ⟨rfl,Fr.refl _ _⟩
 | b :: t=>
  have hn1:n=t.length+1:=by simpa using hn
  obtain⟨off,rfl,hcell⟩:=hv.get (by simp);have c0:=hcell 0 b rfl;rw[Nat.add_zero] at c0;have HC:=lh hcell;have HV:=lh hv;have HN:=lh hn1;have hn0:0 < n:=by omega
  have hne:¬ n=0:=by omega
  have hnz:n<=9223372036854775001:=by simp at hz;omega
  have hnc':n<=c:=by simp at hnc;omega
  have hbt:=b.toNat_lt;clear hv hn hcell hz hn1 hnc
  go_enter Tryz.func125,Tryz.ntmps125
  by_cases h34:b=34
  ·have d34:((b.toNat:Int) == 34)=true:=by subst h34;rfl
   have HE:Hid (zG (b :: t)=.tuple #[.int .i32 (b.toNat:Int),.int .i64 1]):=lh (by subst h34;rfl);have hw:IntKind.i32.wrap (b.toNat:Int)=(b.toNat:Int):=by rw[IntKind.wrap_i32];omega
   clear h34;go_wp2_with fail;exact HQ.o _ _ ⟨by rw[HE.o];rfl,Fr.refl _ _⟩
  have d34:((b.toNat:Int) == 34)=false:=by rw[beq_eq_false_iff_ne];intro h;exact h34 (UInt8.toNat_inj.1 (by show b.toNat=34;omega))
  by_cases h47:b=47
  ·have d47:((b.toNat:Int) == 47)=true:=by subst h47;rfl
   have HE:Hid (zG (b :: t)=.tuple #[.int .i32 (b.toNat:Int),.int .i64 1]):=lh (by subst h47;rfl);have hw:IntKind.i32.wrap (b.toNat:Int)=(b.toNat:Int):=by rw[IntKind.wrap_i32];omega
   clear h34 h47;go_wp2_with fail;exact HQ.o _ _ ⟨by rw[HE.o];rfl,Fr.refl _ _⟩
  have d47:((b.toNat:Int) == 47)=false:=by rw[beq_eq_false_iff_ne];intro h;exact h47 (UInt8.toNat_inj.1 (by show b.toNat=47;omega))
  by_cases h92:b=92
  ·have d92:((b.toNat:Int) == 92)=true:=by subst h92;rfl
   have HE:Hid (zG (b :: t)=.tuple #[.int .i32 (b.toNat:Int),.int .i64 1]):=lh (by subst h92;rfl);have hw:IntKind.i32.wrap (b.toNat:Int)=(b.toNat:Int):=by rw[IntKind.wrap_i32];omega
   clear h34 h47 h92;go_wp2_with fail;exact HQ.o _ _ ⟨by rw[HE.o];rfl,Fr.refl _ _⟩
  have d92:((b.toNat:Int) == 92)=false:=by rw[beq_eq_false_iff_ne];intro h;exact h92 (UInt8.toNat_inj.1 (by show b.toNat=92;omega))
  by_cases h98:b=98
  ·have d98:((b.toNat:Int) == 98)=true:=by subst h98;rfl
   have HE:Hid (zG (b :: t)=.tuple #[.int .i32 8,.int .i64 1]):=lh (by subst h98;rfl);clear h34 h47 h92 h98;go_wp2_with fail;exact HQ.o _ _ ⟨by rw[HE.o];rfl,Fr.refl _ _⟩
  have d98:((b.toNat:Int) == 98)=false:=by rw[beq_eq_false_iff_ne];intro h;exact h98 (UInt8.toNat_inj.1 (by show b.toNat=98;omega))
  by_cases h116:b=116
  ·have d116:((b.toNat:Int) == 116)=true:=by subst h116;rfl
   have HE:Hid (zG (b :: t)=.tuple #[.int .i32 9,.int .i64 1]):=lh (by subst h116;rfl);clear h34 h47 h92 h98 h116;go_wp2_with fail;exact HQ.o _ _ ⟨by rw[HE.o];rfl,Fr.refl _ _⟩
  have d116:((b.toNat:Int) == 116)=false:=by rw[beq_eq_false_iff_ne];intro h;exact h116 (UInt8.toNat_inj.1 (by show b.toNat=116;omega))
  by_cases h110:b=110
  ·have d110:((b.toNat:Int) == 110)=true:=by subst h110;rfl
   have HE:Hid (zG (b :: t)=.tuple #[.int .i32 10,.int .i64 1]):=lh (by subst h110;rfl);clear h34 h47 h92 h98 h116 h110;go_wp2_with fail;exact HQ.o _ _ ⟨by rw[HE.o];rfl,Fr.refl _ _⟩
  have d110:((b.toNat:Int) == 110)=false:=by rw[beq_eq_false_iff_ne];intro h;exact h110 (UInt8.toNat_inj.1 (by show b.toNat=110;omega))
  by_cases h102:b=102
  ·have d102:((b.toNat:Int) == 102)=true:=by subst h102;rfl
   have HE:Hid (zG (b :: t)=.tuple #[.int .i32 12,.int .i64 1]):=lh (by subst h102;rfl);clear h34 h47 h92 h98 h116 h110 h102;go_wp2_with fail;exact HQ.o _ _ ⟨by rw[HE.o];rfl,Fr.refl _ _⟩
  have d102:((b.toNat:Int) == 102)=false:=by rw[beq_eq_false_iff_ne];intro h;exact h102 (UInt8.toNat_inj.1 (by show b.toNat=102;omega))
  by_cases h114:b=114
  ·have d114:((b.toNat:Int) == 114)=true:=by subst h114;rfl
   have HE:Hid (zG (b :: t)=.tuple #[.int .i32 13,.int .i64 1]):=lh (by subst h114;rfl);clear h34 h47 h92 h98 h116 h110 h102 h114;go_wp2_with fail;exact HQ.o _ _ ⟨by rw[HE.o];rfl,Fr.refl _ _⟩
  have d114:((b.toNat:Int) == 114)=false:=by rw[beq_eq_false_iff_ne];intro h;exact h114 (UInt8.toNat_inj.1 (by show b.toNat=114;omega))
  have HEU:Hid (aH (b :: t)=match oD (b :: t) with | none=>none | some v=>if lB (v:Int)=true then some (v,5) else if v<=56319/\11<=(b :: t).length/\jA 92 ((b :: t).drop 5)=true then (match oD ((b :: t).drop 6) with | none=>none | some x=>if 56320<=x/\x<=57343 then some (65536+(v - 55296) * 1024+(x - 56320),11) else none) else none):=lh (by unfold aH;dsimp only;rw[if_neg (fun h=>h.elim (fun h=>h34 (UInt8.toNat_inj.1 h)) fun h=>h.elim (fun h=>h47 (UInt8.toNat_inj.1 h)) fun h=>h92 (UInt8.toNat_inj.1 h)),if_neg (show ¬ b.toNat=98 from fun h=>h98 (UInt8.toNat_inj.1 h)),if_neg (show ¬ b.toNat=116 from fun h=>h116 (UInt8.toNat_inj.1 h)),if_neg (show ¬ b.toNat=110 from fun h=>h110 (UInt8.toNat_inj.1 h)),if_neg (show ¬ b.toNat=102 from fun h=>h102 (UInt8.toNat_inj.1 h)),if_neg (show ¬ b.toNat=114 from fun h=>h114 (UInt8.toNat_inj.1 h))];cases oD (b :: t) <;> rfl);clear h34 h47 h92 h98 h116 h110 h102 h114
  by_cases h117:b=117
  ·have d117:((b.toNat:Int) == 117)=true:=by subst h117;rfl
   have HU:Hid (oD (b :: t)=if 4<=t.length then yG 0 (t.take 4) else none):=lh (dW (by subst h117;rfl));clear h117;have hbs:=(HV.o.from_ 1 (by simp));rw[show(b :: t).length - 1=n - 1 by have:=HN.o;simp;omega,show(b :: t).drop 1=t from rfl] at hbs;have hsl:=iD (P:=Tryz.prog) (t:=149) Tryz.underlying149 (by kernel_rfl) (some ⟨g,off,none⟩) n c 1 .i64 (by omega);generalize (if c=1 then some (⟨g,off,none⟩:Addr) else (some (⟨g,off,none⟩:Addr)).map (·.add 1))=sa at *;have HBS:=lh hbs;have hs1:=hsl w;rw[show((1:Nat):Int)=1 from rfl] at hs1;clear hbs hsl;go_wp2_with fail;refine(aGT HBS.o (by have:=HN.o;omega)).mono ?_;rintro e w1 ⟨rfl,hf1⟩;have HF1:=lh hf1;have c0':=dA hf1 c0;clear hf1 hs1;rw[<- HU.o]
   cases hu:oD (b :: t) with
   | none=>
    have HE:Hid (zG (b :: t)=.tuple #[.int .i32 0,.int .i64 0]):=lh (by unfold zG;rw[HEU.o,hu]);clear hu;unfold eS
    dsimp only
    go_wp2_with fail;exact HQ.o _ _ ⟨by rw[HE.o];rfl,HF1.o⟩
   | some v=>
    have hvb:=pP hu;have HUV:=lh hu;have v0:decide (0<=(v:Int))=true:=dT (by omega)
    have hw32:IntKind.i32.wrap (v:Int)=(v:Int):=by rw[IntKind.wrap_i32];omega
    clear hu;unfold eS
    dsimp only
    go_wp2_with fail;refine(eX v _).mono ?_;rintro e w2 ⟨rfl,rfl⟩
    cases hsv:lB (v:Int) with
    | true=>
     have HE:Hid (zG (b :: t)=.tuple #[.int .i32 (v:Int),.int .i64 5]):=lh (by unfold zG;rw[HEU.o,HUV.o];dsimp only;rw[hsv,if_pos rfl];rfl);clear hsv;go_wp2_with fail;exact HQ.o _ _ ⟨by rw[HE.o];rfl,HF1.o⟩
    | false=>
     have hvs:55296<=v/\v<=57343:=by unfold lB at hsv;rw[decide_eq_false_iff_not] at hsv;omega
     have HSV:=lh hsv;have v1:decide ((v:Int) < 55296)=false:=dF (by omega)
     clear hsv
     by_cases h2:v<=56319
     ·have v2:decide (56319 < (v:Int))=false:=dF (by omega)
      by_cases h11:n < 11
      ·have v3:decide ((n:Int) < 11)=true:=dT (by omega)
       have HE:Hid (zG (b :: t)=.tuple #[.int .i32 0,.int .i64 0]):=lh (by unfold zG;rw[HEU.o,HUV.o];dsimp only;rw[HSV.o,if_neg (by simp),if_neg (fun h=>by have h1:=h.2.1;have h3:=HN.o;rw[List.length_cons] at h1;omega)]);go_wp2_with fail;exact HQ.o _ _ ⟨by rw[HE.o];rfl,HF1.o⟩
      ·have v3:decide ((n:Int) < 11)=false:=dF (by omega)
       obtain⟨x5,hx5⟩:∃ x,(b :: t)[5]? = some x:=gx (by have:=HN.o;simp;omega);obtain⟨x6,hx6⟩:∃ x,(b :: t)[6]? = some x:=gx (by have:=HN.o;simp;omega);have z5:=dA HF1.o (HC.o 5 x5 hx5);have z6:=dA HF1.o (HC.o 6 x6 hx6);have H5:=lh (xA hx5);have H6:=lh (xA hx6);have h5n:5 < n:=by omega
       have h6n:6 < n:=by omega
       clear hx5 hx6
       by_cases h92:x5=92
       ·have v4:((x5.toNat:Int) != 92)=false:=by subst h92;rfl
        by_cases h6u:x6=117
        ·have v5:((x6.toNat:Int) != 117)=false:=by subst h6u;rfl
         have HU2:Hid (oD ((b :: t).drop 6)=if 4<=(((b :: t).drop 6).drop 1).length then yG 0 ((((b :: t).drop 6).drop 1).take 4) else none):=lh (dW (by rw[H6.o,h6u];rfl));have HEV:Hid (aH (b :: t)=match oD ((b :: t).drop 6) with | none=>none | some x=>if 56320<=x/\x<=57343 then some (65536+(v - 55296) * 1024+(x - 56320),11) else none):=lh (by rw[HEU.o,HUV.o];dsimp only;rw[HSV.o,if_neg (by simp),if_pos ⟨h2,by have:=HN.o;simp;omega,by rw[H5.o,h92];rfl⟩]);have hbs:=(HV.o.fr HF1.o).from_ 7 (by have:=HN.o;simp;omega);rw[show(b :: t).length - 7=n - 7 by have:=HN.o;simp;omega,show(b :: t).drop 7=((b :: t).drop 6).drop 1 by rw[List.drop_drop]] at hbs;have hsl:=iD (P:=Tryz.prog) (t:=149) Tryz.underlying149 (by kernel_rfl) (some ⟨g,off,none⟩) n c 7 .i64 (by omega);generalize (if c=7 then some (⟨g,off,none⟩:Addr) else (some (⟨g,off,none⟩:Addr)).map (·.add 7))=sb at *;have HBS2:=lh hbs;have hs2:=hsl w1;rw[show((7:Nat):Int)=7 from rfl] at hs2;clear hbs hsl h92 h6u;go_wp2_with fail;refine(aGT HBS2.o (by have:=HN.o;rw[List.drop_drop,List.length_drop];simp;omega)).mono ?_;rintro e w3 ⟨rfl,hf3⟩;have HF3:=lh (HF1.o.trans hf3);clear hf3 hs2 z5 z6;rw[<- HU2.o]
         cases hu2:oD ((b :: t).drop 6) with
         | none=>
          have HE:Hid (zG (b :: t)=.tuple #[.int .i32 0,.int .i64 0]):=lh (by unfold zG;rw[HEV.o,hu2]);clear hu2;unfold eS
          dsimp only
          go_wp2_with fail;exact HQ.o _ _ ⟨by rw[HE.o];rfl,HF3.o⟩
         | some x=>
          have hxb:=pP hu2;have HU3:=lh hu2;clear hu2
          by_cases q1:x < 56320
          ·have y1:decide ((x:Int) < 56320)=true:=dT (by omega)
           have HE:Hid (zG (b :: t)=.tuple #[.int .i32 0,.int .i64 0]):=lh (by unfold zG;rw[HEV.o,HU3.o];dsimp only;rw[if_neg (by omega)]);unfold eS
           dsimp only
           go_wp2_with fail;exact HQ.o _ _ ⟨by rw[HE.o];rfl,HF3.o⟩
          ·have y1:decide ((x:Int) < 56320)=false:=dF (by omega)
           by_cases q2:57343 < x
           ·have y2:decide (57343 < (x:Int))=true:=dT (by omega)
            have HE:Hid (zG (b :: t)=.tuple #[.int .i32 0,.int .i64 0]):=lh (by unfold zG;rw[HEV.o,HU3.o];dsimp only;rw[if_neg (by omega)]);unfold eS
            dsimp only
            go_wp2_with fail;exact HQ.o _ _ ⟨by rw[HE.o];rfl,HF3.o⟩
           ·have y2:decide (57343 < (x:Int))=false:=dF (by omega)
            obtain⟨m,hm⟩:∃ m,65536+(v - 55296) * 1024+(x - 56320)=m:=⟨_,rfl⟩;have HE:Hid (zG (b :: t)=.tuple #[.int .i32 (m:Int),.int .i64 11]):=lh (by unfold zG;rw[HEV.o,HU3.o];dsimp only;rw[if_pos (by omega),hm];rfl);have e1:IntKind.i64.wrap ((v:Int) - 55296)=(v:Int) - 55296:=by rw[IntKind.wrap_i64];omega
            have e2:IntKind.i64.wrap (((v:Int) - 55296) * 1024)=((v:Int) - 55296) * 1024:=by rw[IntKind.wrap_i64];omega
            have e3:IntKind.i64.wrap (65536+((v:Int) - 55296) * 1024)=65536+((v:Int) - 55296) * 1024:=by rw[IntKind.wrap_i64];omega
            have e4:IntKind.i64.wrap (65536+((v:Int) - 55296) * 1024+(x:Int))=65536+((v:Int) - 55296) * 1024+(x:Int):=by rw[IntKind.wrap_i64];omega
            have e5:IntKind.i64.wrap (65536+((v:Int) - 55296) * 1024+(x:Int) - 56320)=(m:Int):=by rw[IntKind.wrap_i64];omega
            have e6:IntKind.i32.wrap (m:Int)=(m:Int):=by rw[IntKind.wrap_i32];omega
            clear hm;unfold eS
            dsimp only
            go_wp2_with fail;exact HQ.o _ _ ⟨by rw[HE.o];rfl,HF3.o⟩
        ·have v5:((x6.toNat:Int) != 117)=true:=by rw[bne_iff_ne];intro h;exact h6u (UInt8.toNat_inj.1 (by show x6.toNat=117;omega))
         have HE:Hid (zG (b :: t)=.tuple #[.int .i32 0,.int .i64 0]):=lh (by
          have hu2:oD ((b :: t).drop 6)=none:=by unfold oD;rw[if_neg];rintro⟨-,h⟩;rw[H6.o] at h;simp[jA] at h;exact h6u h
          unfold zG;rw[HEU.o,HUV.o];dsimp only;rw[HSV.o,if_neg (by simp),hu2]
          by_cases hC:v<=56319/\11<=(b :: t).length/\jA 92 ((b :: t).drop 5)=true
          ·rw[if_pos hC]
          ·rw[if_neg hC])
         clear h92 h6u;go_wp2_with fail;exact HQ.o _ _ ⟨by rw[HE.o];rfl,HF1.o⟩
       ·have v4:((x5.toNat:Int) != 92)=true:=by rw[bne_iff_ne];intro h;exact h92 (UInt8.toNat_inj.1 (by show x5.toNat=92;omega))
        have HE:Hid (zG (b :: t)=.tuple #[.int .i32 0,.int .i64 0]):=lh (by unfold zG;rw[HEU.o,HUV.o];dsimp only;rw[HSV.o,if_neg (by simp),if_neg];rintro⟨-,-,h⟩;rw[H5.o] at h;simp[jA] at h;exact h92 h);clear h92;go_wp2_with fail;exact HQ.o _ _ ⟨by rw[HE.o];rfl,HF1.o⟩
     ·have v2:decide (56319 < (v:Int))=true:=dT (by omega)
      have HE:Hid (zG (b :: t)=.tuple #[.int .i32 0,.int .i64 0]):=lh (by unfold zG;rw[HEU.o,HUV.o];dsimp only;rw[HSV.o,if_neg (by simp),if_neg (fun h=>h2 h.1)]);go_wp2_with fail;exact HQ.o _ _ ⟨by rw[HE.o];rfl,HF1.o⟩
  ·have d117:((b.toNat:Int) == 117)=false:=by rw[beq_eq_false_iff_ne];intro h;exact h117 (UInt8.toNat_inj.1 (by show b.toNat=117;omega))
   have HE:Hid (zG (b :: t)=.tuple #[.int .i32 0,.int .i64 0]):=lh (by
    have hu:oD (b :: t)=none:=by unfold oD;rw[if_neg];rintro⟨-,h⟩;simp[jA] at h;exact h117 h
    unfold zG;rw[HEU.o,hu])
   clear h117;go_wp2_with fail;exact HQ.o _ _ ⟨by rw[HE.o];rfl,Fr.refl _ _⟩
section
variable {P : Program} {o : Oper} {a : Act} {w : World} {K : Act -> World -> Prop} {Q : Exit -> Act -> World -> Prop}
theorem iU {t e:TypeId} {i:TypeInfo} (ht:P.underlying t=some (.slice e)) (hi:P.info? e=some i):
  (Instr.buildSlice t 0 #[]).run P w=.ok (.slice (some ⟨w.heap.size,0,none⟩) 0 0) (w.alloc (.cells #[] e)):=by
 have h0:Array.range 0=#[]:=Array.eq_empty_of_size_eq_zero (by simp)
 simp[Instr.buildSlice,run_underlying ht,sizeOf,typeInfo,hi,newRow,Instr.fill,h0]
theorem zU {t e:TypeId} (ho:o.op=.buildSlice t 0 #[]) {i:TypeInfo} (ht:P.underlying t=some (.slice e)) (hi:P.info? e=some i)
  (h:K (a.put o.dst (.slice (some ⟨w.heap.size,0,none⟩) 0 0)) (w.alloc (.cells #[] e))):Oper.wp P o a w K Q:=by
 have hrun:=iU (P:=P) (w:=w) ht hi;refine tG (v:=.slice (some ⟨w.heap.size,0,none⟩) 0 0) (w':=w.alloc (.cells #[] e)) ?_ h
 simp[execOp,ho,hrun,Result.andThen]
end
theorem xZ {w:World} {v:Value} {bs:List UInt8} {g:Nat} (h:pB w v bs g):kP w v bs.length (iB bs) g:=by
 obtain⟨A,c,off,hv,hc,hb⟩:=h;exact⟨A,c,off,hv,hc,hb⟩
theorem aEz {w:World} {v:Value} {bs:List UInt8} {g:Nat} (h:kP w v bs.length (iB bs) g):pB w v bs g:=by
 obtain⟨A,c,off,hv,hc,hb⟩:=h;exact⟨A,c,off,hv,hc,hb⟩
theorem aBM {w:World} {v:Value} {bs:List UInt8} {g r:Nat} (hb:pB w v bs g) (hs:lB (r:Int)=true) (hl:bs.length<=100000000):Calls Tryz.prog 126 #[v,.int .i32 (r:Int)] w fun e w'=>∃ v' g',e=.returned v'/\pB w' v' (bs ++ vC r) g'/\Fr [] w w':=by
 refine bA fun R HQ=>?_;have hr:r<=1114111:=by unfold lB at hs;rw[decide_eq_true_eq] at hs;omega
 have HSL:=lh (xZ hb);have HSB:=lh hs
 have hpl:(vC r).length<=4:=by
  unfold vC
  split
  ·simp
  split
  ·simp
  split <;> simp
 have hw64:IntKind.i64.wrap (r:Int)=(r:Int):=by rw[IntKind.wrap_i64];omega
 clear hb hs
 go_enter Tryz.func126,Tryz.ntmps126
 go_wp2_with fail;refine(eX r _).mono ?_;rintro e w1 ⟨rfl,rfl⟩;rw[HSB.o];go_upto_region 4 with fail
 obtain⟨iu,hi,hz',hsz',hby⟩:=info_parts lP;refine wp_region_lit ?_;refine lp fun K hK=>?_;refine zU rfl Tryz.underlying149 hi (hK _ _ ?_);simp only[nrm];clear hK;have hf2:Fr [] w (w.alloc (.cells #[] 5)):=(Fr.refl _ _).alloc _;have how2:(w.alloc (.cells #[] 5)).ownsRow 0 5 1 (.slice (some ⟨w.heap.size,0,none⟩) 0 0) 0 []:=World.ownsRow_made w #[] 0 (Nat.zero_le _) (Nat.zero_le _) rfl;have hz2:(w.alloc (.cells #[] 5)).heap.size=w.heap.size+1:=by simp
 generalize w.alloc (.cells #[] 5)=w2 at *;refine rn rfl (by go_simp <;> with_reducible rfl) ?_;simp only[nrm];refine lp fun K hK=>?_;refine cG (.tmp 11) (.tmp 12) rfl 5 1 Tryz.underlying149 hi hz' hsz' hby rfl (.slice (some ⟨w.heap.size,0,none⟩) 0 0) 0 [] rfl how2 v bs.length g (iB bs) rfl (HSL.o.fr hf2) (lG bs) (yH bs) (by unfold maxLen;omega) (by omega) (w.heap.size+1) hz2 fun v3 w3 ho3 hf3 hg3=>hK _ _ ?_;simp only[nrm];clear hK;rw[Nat.zero_add,List.nil_append] at ho3;have hf3':Fr [] w w3:=hf2.trans hf3 (fun x hx=>.inr (by simp[Value.ownBlock] at hx;omega));have HF3:=lh hf3';have HO3:=lh ho3
 have hge:∀ x,v3.ownBlock=some x -> w.heap.size<=x:=fun x hx=>by
  rcases hg3 x hx with h | h
  ·simp[Value.ownBlock] at h;omega
  ·omega
 have HG3:=lh hge;obtain⟨A3,c3,rfl,_,_⟩:=jC ho3;clear hf2 how2 hz2 hf3 hf3' ho3 hg3 hge;refine rn rfl (by go_simp <;> with_reducible rfl) ?_;simp only[nrm];refine lp fun K hK=>?_;refine zA (l:=[.tmp 14]) rfl [.int .i64 (r:Int)] rfl (fun W=>by kernel_rfl) ((fX r hr w3).mono ?_);rintro e w4 ⟨c4,rfl,hb4,hc4,hf4⟩;refine⟨_,rfl,hK _ _ ?_⟩;simp only[nrm];clear hK;have how4:=sB HO3.o hf4 (by simp);refine lp fun K hK=>?_;refine cG (.tmp 13) (.tmp 15) rfl 5 1 Tryz.underlying149 hi hz' hsz' hby rfl (.slice A3 bs.length c3) bs.length (iB bs) rfl how4 (.slice (some ⟨w3.heap.size,0,none⟩) (vC r).length c4) (vC r).length w3.heap.size (iB (vC r)) rfl (xZ hb4) (lG _) (yH _) (by unfold maxLen;omega) (by omega) w4.heap.size rfl fun v5 w5 ho5 hf5 hg5=>hK _ _ ?_;simp only[nrm];clear hK;rw[<- cO,<- List.length_append] at ho5;obtain⟨g5,hs5,_,_⟩:=kP.of_own ho5 0;have hz34:=hf4.size
 have hF5:Fr [] w w5:=(HF3.o.trans hf4).trans hf5 (fun x hx=>.inr (by
  have hx':(Value.slice A3 bs.length c3).ownBlock=some x:=by simpa using hx
  exact HG3.o x hx'))
 have HF5:=lh hF5;have HS5:=lh (aEz hs5);clear hF5 hs5 hf5 hg5 ho5 hb4 hf4 how4 hz34;refine rn rfl (by go_simp <;> with_reducible rfl) ?_;simp only[nrm];refine wpList_nil ?_;go_wp2_with fail;exact HQ.o _ _ ⟨v5,g5,rfl,HS5.o,HF5.o⟩
end
section
open Go.RowKit Go.Shelf
theorem pS (c:UInt8) (w:World):Calls Tryz.prog 77 #[.int .u8 (c.toNat:Int)] w fun e w'=>e=.returned (.bool (yA c))/\w=w':=by
 refine bA fun R HQ=>?_;have HFG:Hid (yA c=decide (48<=c.toNat/\c.toNat<=57)):=lh rfl
 go_enter Tryz.func77,Tryz.ntmps77
 by_cases h1:48<=c.toNat
 ·by_cases h2:c.toNat<=57
  ·have d1:decide ((48:Int)<=(c.toNat:Int))=true:=dT (by omega)
   have d2:decide ((c.toNat:Int)<=57)=true:=dT (by omega)
   have HB:Hid (yA c=true):=lh (by rw[HFG.o,decide_eq_true_eq];exact⟨h1,h2⟩);clear h1 h2;go_wp2_with fail;exact HQ.o _ _ ⟨by rw[HB.o];rfl,rfl⟩
  ·have d1:decide ((48:Int)<=(c.toNat:Int))=true:=dT (by omega)
   have d2:decide ((c.toNat:Int)<=57)=false:=dF (by omega)
   have HB:Hid (yA c=false):=lh (by rw[HFG.o,decide_eq_false_iff_not];exact fun h=>h2 h.2);clear h1 h2;go_wp2_with fail;exact HQ.o _ _ ⟨by rw[HB.o];rfl,rfl⟩
 ·have d1:decide ((48:Int)<=(c.toNat:Int))=false:=dF (by omega)
  have HB:Hid (yA c=false):=lh (by rw[HFG.o,decide_eq_false_iff_not];exact fun h=>h1 h.1);clear h1;go_wp2_with fail;exact HQ.o _ _ ⟨by rw[HB.o];rfl,rfl⟩
theorem aEA (c:UInt8):zI c=decide ((97<=c.toNat/\c.toNat<=122) ∨ (65<=c.toNat/\c.toNat<=90) ∨ c.toNat=95 ∨ 127 < c.toNat):=by
 have:=qD (fun c=>zI c == decide ((97<=c.toNat/\c.toNat<=122) ∨ (65<=c.toNat/\c.toNat<=90) ∨ c.toNat=95 ∨ 127 < c.toNat)) (by decide +kernel) c;exact eq_of_beq this
theorem yZ (c:UInt8) (w:World):Calls Tryz.prog 75 #[.int .u8 (c.toNat:Int)] w fun e w'=>e=.returned (.bool (zI c))/\w=w':=by
 refine bA fun R HQ=>?_;have HFG:=lh (aEA c)
 go_enter Tryz.func75,Tryz.ntmps75
 by_cases h1:97<=c.toNat
 ·have d1:decide ((97:Int)<=(c.toNat:Int))=true:=dT (by omega)
  by_cases h2:c.toNat<=122
  ·have d2:decide ((c.toNat:Int)<=122)=true:=dT (by omega)
   have HB:Hid (zI c=true):=lh (by rw[HFG.o,decide_eq_true_eq];omega);go_wp2_with fail;exact HQ.o _ _ ⟨by rw[HB.o];rfl,rfl⟩
  ·have d2:decide ((c.toNat:Int)<=122)=false:=dF (by omega)
   have d3:decide ((65:Int)<=(c.toNat:Int))=true:=dT (by omega)
   have d4:decide ((c.toNat:Int)<=90)=false:=dF (by omega)
   have d5:((c.toNat:Int) == 95)=false:=by rw[beq_eq_false_iff_ne];omega
   by_cases h3:127 < c.toNat
   ·have d6:decide ((127:Int) < (c.toNat:Int))=true:=dT (by omega)
    have HB:Hid (zI c=true):=lh (by rw[HFG.o,decide_eq_true_eq];omega);go_wp2_with fail;exact HQ.o _ _ ⟨by rw[HB.o];rfl,rfl⟩
   ·have d6:decide ((127:Int) < (c.toNat:Int))=false:=dF (by omega)
    have HB:Hid (zI c=false):=lh (by rw[HFG.o,decide_eq_false_iff_not];omega);go_wp2_with fail;exact HQ.o _ _ ⟨by rw[HB.o];rfl,rfl⟩
 ·have d1:decide ((97:Int)<=(c.toNat:Int))=false:=dF (by omega)
  by_cases h2:65<=c.toNat
  ·have d3:decide ((65:Int)<=(c.toNat:Int))=true:=dT (by omega)
   by_cases h3:c.toNat<=90
   ·have d4:decide ((c.toNat:Int)<=90)=true:=dT (by omega)
    have HB:Hid (zI c=true):=lh (by rw[HFG.o,decide_eq_true_eq];omega);go_wp2_with fail;exact HQ.o _ _ ⟨by rw[HB.o];rfl,rfl⟩
   ·have d4:decide ((c.toNat:Int)<=90)=false:=dF (by omega)
    by_cases h4:c.toNat=95
    ·have d5:((c.toNat:Int) == 95)=true:=by rw[beq_iff_eq];omega
     have HB:Hid (zI c=true):=lh (by rw[HFG.o,decide_eq_true_eq];omega);go_wp2_with fail;exact HQ.o _ _ ⟨by rw[HB.o];rfl,rfl⟩
    ·have d5:((c.toNat:Int) == 95)=false:=by rw[beq_eq_false_iff_ne];omega
     have d6:decide ((127:Int) < (c.toNat:Int))=false:=dF (by omega)
     have HB:Hid (zI c=false):=lh (by rw[HFG.o,decide_eq_false_iff_not];omega);go_wp2_with fail;exact HQ.o _ _ ⟨by rw[HB.o];rfl,rfl⟩
  ·have d3:decide ((65:Int)<=(c.toNat:Int))=false:=dF (by omega)
   have d5:((c.toNat:Int) == 95)=false:=by rw[beq_eq_false_iff_ne];omega
   have d6:decide ((127:Int) < (c.toNat:Int))=false:=dF (by omega)
   have HB:Hid (zI c=false):=lh (by rw[HFG.o,decide_eq_false_iff_not];omega);go_wp2_with fail;exact HQ.o _ _ ⟨by rw[HB.o];rfl,rfl⟩
def zL (k:Nat) (o:Option Nat):Int:=match o with | none=>-1 | some m=>((k+m:Nat):Int)
def aFO (w:World) (L:List UInt8) (I:Int) (v:Value) (wr:World):Prop:=∃ k n:Nat,k<=L.length/\v=.int .i64 (k:Int)/\L.length<=n+k/\zL k (xH n (L.drop k))=I/\Fr [] w wr
theorem aBf {n:Nat} {c:UInt8} {l:List UInt8} (h:nB c=false):xH n (c :: l)=some 0:=by
 cases n with
 | zero=>rfl
 | succ n=>unfold xH;simp[h]
theorem aCK (n:Nat):xH n []=some 0:=by cases n <;> rfl
theorem jU {n:Nat} {c:UInt8} {l:List UInt8} (h:nB c=true) (hN:mB (c :: l)=none):xH (n+1) (c :: l)=none:=by
 unfold xH;simp[h,hN]
theorem kU {n r k:Nat} {c:UInt8} {l:List UInt8} (h:nB c=true) (hN:mB (c :: l)=some (r,k)):xH (n+1) (c :: l)=(xH n ((c :: l).drop k)).map (· + k):=by
 rw[xH];simp only[h,hN,if_true]
theorem aHi {w:World} (s:ByteArray) (at_:Nat) (ha:at_<=s.size) (hz:s.size<=140737488351232):Calls Tryz.prog 76 #[.string s,.int .i64 (at_:Int)] w fun e w'=>e=.returned (.int .i64 (zL at_ (xH s.size ((aA s).drop at_))))/\Fr [] w w':=by
 refine bA fun R HQ=>?_;have hlen:=cA s;obtain⟨L,hL⟩:∃ L,aA s=L:=⟨_,rfl⟩;obtain⟨n0,hn0⟩:∃ n,s.size=n:=⟨_,rfl⟩;obtain⟨I,hI⟩:∃ I,zL at_ (xH s.size ((aA s).drop at_))=I:=⟨_,rfl⟩;rw[hI] at HQ;rw[hL,hn0] at hI;rw[hL,hn0] at hlen;rw[hn0] at ha hz;have HL:=lh hL;have HN:=lh hn0;have HI:=lh hI;have HLN:=lh hlen;clear hL hn0 hI hlen
 go_enter Tryz.func76,Tryz.ntmps76
 go_wp2_with fail
 go_loopw [1] (fun v wr=>aFO w L I v wr) (fun v _=>n0 - (intOf v).toNat)
 case atStart=>exact⟨at_,n0,by rw[HLN.o];exact ha,rfl,by rw[HLN.o];omega,HI.o,Fr.refl _ _⟩
 case round=>
  obtain⟨k,m0,hk,rfl,hm,hpl,hF⟩:=hrel;rw[HLN.o] at hk hm;have HF:=lh hF;have HPL:=lh hpl;clear hF hpl
  by_cases hkn:k < n0
  ·have hkn':k < s.size:=by rw[HN.o];exact hkn
   obtain⟨c,hc⟩:∃ c,L[k]? = some c:=gx (by rw[HLN.o];exact hkn);have hix:=fun W=>rA (s:=s) (by rw[HL.o];exact hc) .i64 W;have HDC:=lh (xA hc);obtain⟨m1,rfl⟩:∃ m1,m0=m1+1:=⟨m0 - 1,by omega⟩;have HBG:=lh (fun W=>yZ c W);have HDG:=lh (fun W=>pS c W);have hnb:nB c=(zI c || yA c):=rfl;have HNB:=lh hnb;clear hnb;obtain⟨t,ht,hsl0⟩:=mD s k (by rw[HN.o];omega);rw[HL.o] at ht;have hsl:=fun W=>hsl0 .i64 W;have hts:t.size=n0 - k:=by rw[<- cA,ht,List.length_drop,HLN.o]
   have HT:=lh ht;clear hc hsl0 ht
   cases hb:zI c with
   | true=>
    have HNT:Hid (nB c=true):=lh (by rw[HNB.o,hb];rfl);rw[hb] at HBG;clear hb HDG HNB;go_wp2_with fail;refine(HBG.o _).mono ?_;rintro e w1 ⟨rfl,rfl⟩;obtain⟨C,w3,hcv,hC,hba,hf3⟩:=nK wr t (by omega);rw[hts] at hcv hba;have HF3:=lh (HF.o.trans hf3);have HBA:=lh hba;clear hf3 hba;go_wp2_with fail;refine(aBd HBA.o (by rw[HT.o,List.length_drop,HLN.o];omega)).mono ?_;rintro e w4 ⟨rfl,hf4⟩;have HF4:=lh (HF3.o.trans hf4);clear hf4 hcv hsl hix;rw[HT.o,HDC.o];unfold tC
    cases hN:mB (c :: L.drop (k+1)) with
    | none=>
     have HE:Hid (I = -1):=lh (by rw[<- HPL.o,HDC.o,jU HNT.o hN];rfl);clear hN;go_wp2_with fail;exact HQ.o _ _ ⟨by rw[HE.o];rfl,HF4.o⟩
    | some y=>
     obtain⟨r,j⟩:=y;obtain⟨p1,p2,p3,p4⟩:=uF hN;have hjl:j<=n0 - k:=by rw[<- HDC.o,List.length_drop,HLN.o] at p2;exact p2
     have HX:Hid (zL (k+j) (xH m1 (L.drop (k+j)))=I):=lh (by
      rw[<- HPL.o,HDC.o,kU HNT.o hN,<- HDC.o,List.drop_drop]
      cases xH m1 (L.drop (k+j)) with
      | none=>rfl
      | some m=>simp only[zL,Option.map_some];omega)
     have j0:((j:Int) == 0)=false:=by rw[beq_eq_false_iff_ne];omega
     clear hN;go_wp2_with fail
     go_roundw
     case rel=>exact⟨k+j,m1,by rw[HLN.o];omega,by go_num,by rw[HLN.o];omega,HX.o,HF4.o⟩
     case measure=>simp[intOf];omega
   | false=>
    rw[hb] at HBG
    cases hd:yA c with
    | true=>
     have HNT:Hid (nB c=true):=lh (by rw[HNB.o,hb,hd];rfl);rw[hd] at HDG;clear hb hd HNB;go_wp2_with fail;refine(HBG.o _).mono ?_;rintro e w1 ⟨rfl,rfl⟩;go_wp2_with fail;refine(HDG.o _).mono ?_;rintro e w1 ⟨rfl,rfl⟩;obtain⟨C,w3,hcv,hC,hba,hf3⟩:=nK wr t (by omega);rw[hts] at hcv hba;have HF3:=lh (HF.o.trans hf3);have HBA:=lh hba;clear hf3 hba;go_wp2_with fail;refine(aBd HBA.o (by rw[HT.o,List.length_drop,HLN.o];omega)).mono ?_;rintro e w4 ⟨rfl,hf4⟩;have HF4:=lh (HF3.o.trans hf4);clear hf4 hcv hsl hix;rw[HT.o,HDC.o];unfold tC
     cases hN:mB (c :: L.drop (k+1)) with
     | none=>
      have HE:Hid (I = -1):=lh (by rw[<- HPL.o,HDC.o,jU HNT.o hN];rfl);clear hN;go_wp2_with fail;exact HQ.o _ _ ⟨by rw[HE.o];rfl,HF4.o⟩
     | some y=>
      obtain⟨r,j⟩:=y;obtain⟨p1,p2,p3,p4⟩:=uF hN;have hjl:j<=n0 - k:=by rw[<- HDC.o,List.length_drop,HLN.o] at p2;exact p2
      have HX:Hid (zL (k+j) (xH m1 (L.drop (k+j)))=I):=lh (by
       rw[<- HPL.o,HDC.o,kU HNT.o hN,<- HDC.o,List.drop_drop]
       cases xH m1 (L.drop (k+j)) with
       | none=>rfl
       | some m=>simp only[zL,Option.map_some];omega)
      have j0:((j:Int) == 0)=false:=by rw[beq_eq_false_iff_ne];omega
      clear hN;go_wp2_with fail
      go_roundw
      case rel=>exact⟨k+j,m1,by rw[HLN.o];omega,by go_num,by rw[HLN.o];omega,HX.o,HF4.o⟩
      case measure=>simp[intOf];omega
    | false=>
     have HNT:Hid (nB c=false):=lh (by rw[HNB.o,hb,hd];rfl);have HE:Hid (I=(k:Int)):=lh (by rw[<- HPL.o,HDC.o,aBf HNT.o];rfl);rw[hd] at HDG;clear hb hd HNB;go_wp2_with fail;refine(HBG.o _).mono ?_;rintro e w1 ⟨rfl,rfl⟩;go_wp2_with fail;refine(HDG.o _).mono ?_;rintro e w1 ⟨rfl,rfl⟩;go_wp2_with fail;exact HQ.o _ _ ⟨by rw[HE.o];rfl,HF.o⟩
  ·have hkn':¬ k < s.size:=by rw[HN.o];exact hkn
   have HE:Hid (I=(k:Int)):=lh (by rw[<- HPL.o,List.drop_of_length_le (by rw[HLN.o];omega),aCK];rfl);go_wp2_with fail;exact HQ.o _ _ ⟨by rw[HE.o];rfl,HF.o⟩
def zJ (p:Option UInt8) (c:UInt8) (cs:List UInt8):Bool:=yA c || eB c || ((c.toNat == 43 || c.toNat == 45) && gG p) || (c.toNat == 46 && !jA 46 cs)
theorem aCL {p:Option UInt8} {c:UInt8} {cs:List UInt8} (h:zJ p c cs=true):vA p (c :: cs)=vA (some c) cs+1:=by rw[vA];exact if_pos h
theorem aCM {p:Option UInt8} {c:UInt8} {cs:List UInt8} (h:zJ p c cs=false):vA p (c :: cs)=0:=by rw[vA];exact if_neg (by unfold zJ at h;rw[h];simp)
def aFP (w:World) (L:List UInt8) (from_ I:Nat) (v:Value) (wr:World):Prop:=∃ k:Nat,from_<=k/\k<=L.length/\v=.int .i64 (k:Int)/\k+vA (if k=from_ then none else L[k - 1]?) (L.drop k)=I/\w=wr
theorem aEB {w:World} (s:ByteArray) (from_:Nat) (ha:from_<=s.size) (hz:s.size<=140737488351232):Calls Tryz.prog 78 #[.string s,.int .i64 (from_:Int)] w fun e w'=>e=.returned (.int .i64 ((from_+vA none ((aA s).drop from_):Nat):Int))/\w=w':=by
 refine bA fun R HQ=>?_;have hlen:=cA s;obtain⟨L,hL⟩:∃ L,aA s=L:=⟨_,rfl⟩;obtain⟨n0,hn0⟩:∃ n,s.size=n:=⟨_,rfl⟩;obtain⟨I,hI⟩:∃ I,from_+vA none ((aA s).drop from_)=I:=⟨_,rfl⟩;rw[hI] at HQ;rw[hL] at hI;rw[hL,hn0] at hlen;rw[hn0] at ha hz;have HL:=lh hL;have HN:=lh hn0;have HI:=lh hI;have HLN:=lh hlen;clear hL hn0 hI hlen
 go_enter Tryz.func78,Tryz.ntmps78
 go_wp2_with fail
 go_loopw [5] (fun v wr=>aFP w L from_ I v wr) (fun v _=>n0 - (intOf v).toNat)
 case atStart=>exact⟨from_,Nat.le_refl _,by rw[HLN.o];exact ha,rfl,by rw[if_pos rfl];exact HI.o,rfl⟩
 case round=>
  obtain⟨k,hfk,hk,rfl,hnl,rfl⟩:=hrel;rw[HLN.o] at hk;obtain⟨p,hp⟩:∃ p,(if k=from_ then none else L[k - 1]?)=p:=⟨_,rfl⟩;rw[hp] at hnl;have HP:=lh hp;have HNL:=lh hnl;clear hp hnl
  by_cases hkn:k < n0
  ·have hkn':k < s.size:=by rw[HN.o];exact hkn
   obtain⟨c,hc⟩:∃ c,L[k]? = some c:=gx (by rw[HLN.o];exact hkn);have hix:=fun W=>rA (s:=s) (by rw[HL.o];exact hc) .i64 W;have HC:=lh hc;have HDC:=lh (xA hc);have HDG:=lh (fun W=>pS c W);have HGO:Hid (zJ p c (L.drop (k+1))=true -> (k+1)+vA L[k]? (L.drop (k+1))=I):=lh (fun h=>by have h1:=HNL.o;rw[HDC.o,aCL h] at h1;rw[HC.o];omega);have HNO:Hid (zJ p c (L.drop (k+1))=false -> I=k):=lh (fun h=>by have h1:=HNL.o;rw[HDC.o,aCM h] at h1;omega);clear hc
   cases hfg:yA c with
   | true=>
    have hcf:c.toNat ≠ 43/\c.toNat ≠ 45/\c.toNat ≠ 46/\c.toNat ≠ 101/\c.toNat ≠ 69:=by have h:=hfg;unfold yA at h;rw[decide_eq_true_eq] at h;omega
    have z1:((c.toNat:Int) == 43)=false:=by rw[beq_eq_false_iff_ne];omega
    have z2:((c.toNat:Int) == 45)=false:=by rw[beq_eq_false_iff_ne];omega
    have z3:((c.toNat:Int) == 46)=false:=by rw[beq_eq_false_iff_ne];omega
    have HX:=lh (HGO.o (by unfold zJ;rw[hfg];rfl));rw[hfg] at HDG;clear hfg hcf;go_wp2_with fail;refine(HDG.o _).mono ?_;rintro e w1 ⟨rfl,rfl⟩;go_wp2_with fail
    go_roundw
    case rel=>exact⟨k+1,by omega,by rw[HLN.o];omega,by go_num,by rw[if_neg (by omega),Nat.add_sub_cancel];exact HX.o,rfl⟩
    case measure=>simp[intOf];omega
   | false=>
    rw[hfg] at HDG
    by_cases h101:c=101
    ·have y43:((c.toNat:Int) == 43)=false:=by subst h101;rfl
     have y45:((c.toNat:Int) == 45)=false:=by subst h101;rfl
     have y46:((c.toNat:Int) == 46)=false:=by subst h101;rfl
     have x101:((c.toNat:Int) != 101)=false:=by subst h101;rfl
     have HX:=lh (HGO.o (by unfold zJ;rw[show eB c=true by subst h101;rfl,Bool.or_true];rfl));clear hfg h101;go_wp2_with fail;refine(HDG.o _).mono ?_;rintro e w1 ⟨rfl,rfl⟩;go_wp2_with fail
     go_roundw
     case rel=>exact⟨k+1,by omega,by rw[HLN.o];omega,by go_num,by rw[if_neg (by omega),Nat.add_sub_cancel];exact HX.o,rfl⟩
     case measure=>simp[intOf];omega
    ·have x101:((c.toNat:Int) != 101)=true:=by rw[bne_iff_ne];intro h;exact h101 (UInt8.toNat_inj.1 (by show c.toNat=101;omega))
     by_cases h69:c=69
     ·have y43:((c.toNat:Int) == 43)=false:=by subst h69;rfl
      have y45:((c.toNat:Int) == 45)=false:=by subst h69;rfl
      have y46:((c.toNat:Int) == 46)=false:=by subst h69;rfl
      have x101:((c.toNat:Int) != 101)=true:=by subst h69;rfl
      have x69:((c.toNat:Int) != 69)=false:=by subst h69;rfl
      have HX:=lh (HGO.o (by unfold zJ;rw[show eB c=true by subst h69;rfl,Bool.or_true];rfl));clear hfg h69 h101;go_wp2_with fail;refine(HDG.o _).mono ?_;rintro e w1 ⟨rfl,rfl⟩;go_wp2_with fail
      go_roundw
      case rel=>exact⟨k+1,by omega,by rw[HLN.o];omega,by go_num,by rw[if_neg (by omega),Nat.add_sub_cancel];exact HX.o,rfl⟩
      case measure=>simp[intOf];omega
     ·have x69:((c.toNat:Int) != 69)=true:=by rw[bne_iff_ne];intro h;exact h69 (UInt8.toNat_inj.1 (by show c.toNat=69;omega))
      have heB:eB c=false:=by unfold eB;rw[Bool.or_eq_false_iff,beq_eq_false_iff_ne,beq_eq_false_iff_ne];exact⟨fun h=>h101 (UInt8.toNat_inj.1 h),fun h=>h69 (UInt8.toNat_inj.1 h)⟩
      by_cases h43:c=43
      ·have y43:((c.toNat:Int) == 43)=true:=by subst h43;rfl
       have y46:((c.toNat:Int) == 46)=false:=by subst h43;rfl
       have HCN:Hid (zJ p c (L.drop (k+1))=gG p):=lh (by unfold zJ;rw[hfg,heB];subst h43;simp);clear hfg heB h101 h69 h43
       by_cases hkf:k=from_
       ·have q1:((k:Int) == (from_:Int))=true:=by rw[beq_iff_eq];omega
        have HX:=lh (HGO.o (by rw[HCN.o,<- HP.o,if_pos hkf];rfl));have q2:(k == from_)=true:=by rw[beq_iff_eq];exact hkf
        have q3:decide (k=from_)=true:=by rw[decide_eq_true_eq];exact hkf
        have HKF:=lh hkf;clear hkf;go_wp2_with fail;refine(HDG.o _).mono ?_;rintro e w1 ⟨rfl,rfl⟩;go_wp2_with fail
        go_roundw
        case rel=>exact⟨k+1,by omega,by rw[HLN.o];omega,by go_num,by rw[if_neg (by omega),Nat.add_sub_cancel];exact HX.o,rfl⟩
        case measure=>simp[intOf];omega
       ·have q1:((k:Int) == (from_:Int))=false:=by rw[beq_eq_false_iff_ne];omega
        obtain⟨b,hb⟩:∃ b,L[k - 1]? = some b:=gx (by rw[HLN.o];omega);have hib:=fun W=>rA (s:=s) (by rw[HL.o];exact hb) .i64 W;rw[show((k - 1:Nat):Int)=(k:Int) - 1 by omega] at hib;have HBE:Hid (gG p=eB b):=lh (by rw[<- HP.o,if_neg hkf,hb];rfl);have hw1:IntKind.i64.wrap ((k:Int) - 1)=(k:Int) - 1:=by rw[IntKind.wrap_i64];omega
        have hk1:k - 1 < s.size:=by omega
        clear hb
        by_cases g101:b=101
        ·have r1:((b.toNat:Int) == 101)=true:=by subst g101;rfl
         have HX:=lh (HGO.o (by rw[HCN.o,HBE.o];subst g101;rfl));clear g101;go_wp2_with fail;refine(HDG.o _).mono ?_;rintro e w1 ⟨rfl,rfl⟩;go_wp2_with fail
         go_roundw
         case rel=>exact⟨k+1,by omega,by rw[HLN.o];omega,by go_num,by rw[if_neg (by omega),Nat.add_sub_cancel];exact HX.o,rfl⟩
         case measure=>simp[intOf];omega
        ·have r1:((b.toNat:Int) == 101)=false:=by rw[beq_eq_false_iff_ne];intro h;exact g101 (UInt8.toNat_inj.1 (by show b.toNat=101;omega))
         by_cases g69:b=69
         ·have r2:((b.toNat:Int) == 69)=true:=by subst g69;rfl
          have HX:=lh (HGO.o (by rw[HCN.o,HBE.o];subst g69;rfl));clear g101 g69;go_wp2_with fail;refine(HDG.o _).mono ?_;rintro e w1 ⟨rfl,rfl⟩;go_wp2_with fail
          go_roundw
          case rel=>exact⟨k+1,by omega,by rw[HLN.o];omega,by go_num,by rw[if_neg (by omega),Nat.add_sub_cancel];exact HX.o,rfl⟩
          case measure=>simp[intOf];omega
         ·have r2:((b.toNat:Int) == 69)=false:=by rw[beq_eq_false_iff_ne];intro h;exact g69 (UInt8.toNat_inj.1 (by show b.toNat=69;omega))
          have HE:=lh (HNO.o (by rw[HCN.o,HBE.o];unfold eB;rw[Bool.or_eq_false_iff,beq_eq_false_iff_ne,beq_eq_false_iff_ne];exact⟨fun h=>g101 (UInt8.toNat_inj.1 h),fun h=>g69 (UInt8.toNat_inj.1 h)⟩));clear g101 g69;go_wp2_with fail;refine(HDG.o _).mono ?_;rintro e w1 ⟨rfl,rfl⟩;go_wp2_with fail;exact HQ.o _ _ ⟨by rw[HE.o];rfl,rfl⟩
      ·have y43:((c.toNat:Int) == 43)=false:=by rw[beq_eq_false_iff_ne];intro h;exact h43 (UInt8.toNat_inj.1 (by show c.toNat=43;omega))
       by_cases h45:c=45
       ·have y45:((c.toNat:Int) == 45)=true:=by subst h45;rfl
        have y43:((c.toNat:Int) == 43)=false:=by subst h45;rfl
        have y46:((c.toNat:Int) == 46)=false:=by subst h45;rfl
        have HCN:Hid (zJ p c (L.drop (k+1))=gG p):=lh (by unfold zJ;rw[hfg,heB];subst h45;simp);clear hfg heB h101 h69 h45 h43
        by_cases hkf:k=from_
        ·have q1:((k:Int) == (from_:Int))=true:=by rw[beq_iff_eq];omega
         have HX:=lh (HGO.o (by rw[HCN.o,<- HP.o,if_pos hkf];rfl));have q2:(k == from_)=true:=by rw[beq_iff_eq];exact hkf
         have q3:decide (k=from_)=true:=by rw[decide_eq_true_eq];exact hkf
         have HKF:=lh hkf;clear hkf;go_wp2_with fail;refine(HDG.o _).mono ?_;rintro e w1 ⟨rfl,rfl⟩;go_wp2_with fail
         go_roundw
         case rel=>exact⟨k+1,by omega,by rw[HLN.o];omega,by go_num,by rw[if_neg (by omega),Nat.add_sub_cancel];exact HX.o,rfl⟩
         case measure=>simp[intOf];omega
        ·have q1:((k:Int) == (from_:Int))=false:=by rw[beq_eq_false_iff_ne];omega
         obtain⟨b,hb⟩:∃ b,L[k - 1]? = some b:=gx (by rw[HLN.o];omega);have hib:=fun W=>rA (s:=s) (by rw[HL.o];exact hb) .i64 W;rw[show((k - 1:Nat):Int)=(k:Int) - 1 by omega] at hib;have HBE:Hid (gG p=eB b):=lh (by rw[<- HP.o,if_neg hkf,hb];rfl);have hw1:IntKind.i64.wrap ((k:Int) - 1)=(k:Int) - 1:=by rw[IntKind.wrap_i64];omega
         have hk1:k - 1 < s.size:=by omega
         clear hb
         by_cases g101:b=101
         ·have r1:((b.toNat:Int) == 101)=true:=by subst g101;rfl
          have HX:=lh (HGO.o (by rw[HCN.o,HBE.o];subst g101;rfl));clear g101;go_wp2_with fail;refine(HDG.o _).mono ?_;rintro e w1 ⟨rfl,rfl⟩;go_wp2_with fail
          go_roundw
          case rel=>exact⟨k+1,by omega,by rw[HLN.o];omega,by go_num,by rw[if_neg (by omega),Nat.add_sub_cancel];exact HX.o,rfl⟩
          case measure=>simp[intOf];omega
         ·have r1:((b.toNat:Int) == 101)=false:=by rw[beq_eq_false_iff_ne];intro h;exact g101 (UInt8.toNat_inj.1 (by show b.toNat=101;omega))
          by_cases g69:b=69
          ·have r2:((b.toNat:Int) == 69)=true:=by subst g69;rfl
           have HX:=lh (HGO.o (by rw[HCN.o,HBE.o];subst g69;rfl));clear g101 g69;go_wp2_with fail;refine(HDG.o _).mono ?_;rintro e w1 ⟨rfl,rfl⟩;go_wp2_with fail
           go_roundw
           case rel=>exact⟨k+1,by omega,by rw[HLN.o];omega,by go_num,by rw[if_neg (by omega),Nat.add_sub_cancel];exact HX.o,rfl⟩
           case measure=>simp[intOf];omega
          ·have r2:((b.toNat:Int) == 69)=false:=by rw[beq_eq_false_iff_ne];intro h;exact g69 (UInt8.toNat_inj.1 (by show b.toNat=69;omega))
           have HE:=lh (HNO.o (by rw[HCN.o,HBE.o];unfold eB;rw[Bool.or_eq_false_iff,beq_eq_false_iff_ne,beq_eq_false_iff_ne];exact⟨fun h=>g101 (UInt8.toNat_inj.1 h),fun h=>g69 (UInt8.toNat_inj.1 h)⟩));clear g101 g69;go_wp2_with fail;refine(HDG.o _).mono ?_;rintro e w1 ⟨rfl,rfl⟩;go_wp2_with fail;exact HQ.o _ _ ⟨by rw[HE.o];rfl,rfl⟩
       ·have y45:((c.toNat:Int) == 45)=false:=by rw[beq_eq_false_iff_ne];intro h;exact h45 (UInt8.toNat_inj.1 (by show c.toNat=45;omega))
        by_cases h46:c=46
        ·have y46:((c.toNat:Int) == 46)=true:=by subst h46;rfl
         have HCN:Hid (zJ p c (L.drop (k+1)) = !jA 46 (L.drop (k+1))):=lh (by unfold zJ;rw[hfg,heB];subst h46;simp);clear hfg heB h101 h69 h43 h45 h46
         by_cases hk1:k+1 < n0
         ·have hk1':k+1 < s.size:=by rw[HN.o];exact hk1
          obtain⟨b,hb⟩:∃ b,L[k+1]? = some b:=gx (by rw[HLN.o];exact hk1);have hib:=fun W=>rA (s:=s) (by rw[HL.o];exact hb) .i64 W;rw[show((k+1:Nat):Int)=(k:Int)+1 by omega] at hib;have HD2:=lh (xA hb);clear hb
          by_cases g46:b=46
          ·have r1:((b.toNat:Int) == 46)=true:=by subst g46;rfl
           have HE:=lh (HNO.o (by rw[HCN.o,HD2.o];subst g46;rfl));clear g46;go_wp2_with fail;refine(HDG.o _).mono ?_;rintro e w1 ⟨rfl,rfl⟩;go_wp2_with fail;exact HQ.o _ _ ⟨by rw[HE.o];rfl,rfl⟩
          ·have r1:((b.toNat:Int) == 46)=false:=by rw[beq_eq_false_iff_ne];intro h;exact g46 (UInt8.toNat_inj.1 (by show b.toNat=46;omega))
           have HX:=lh (HGO.o (by rw[HCN.o,HD2.o];simp[jA,g46]));clear g46;go_wp2_with fail;refine(HDG.o _).mono ?_;rintro e w1 ⟨rfl,rfl⟩;go_wp2_with fail
           go_roundw
           case rel=>exact⟨k+1,by omega,by rw[HLN.o];omega,by go_num,by rw[if_neg (by omega),Nat.add_sub_cancel];exact HX.o,rfl⟩
           case measure=>simp[intOf];omega
         ·have hk1':¬ k+1 < s.size:=by rw[HN.o];exact hk1
          have HX:=lh (HGO.o (by rw[HCN.o,List.drop_of_length_le (by rw[HLN.o];omega)];rfl));go_wp2_with fail;refine(HDG.o _).mono ?_;rintro e w1 ⟨rfl,rfl⟩;go_wp2_with fail
          go_roundw
          case rel=>exact⟨k+1,by omega,by rw[HLN.o];omega,by go_num,by rw[if_neg (by omega),Nat.add_sub_cancel];exact HX.o,rfl⟩
          case measure=>simp[intOf];omega
        ·have y46:((c.toNat:Int) == 46)=false:=by rw[beq_eq_false_iff_ne];intro h;exact h46 (UInt8.toNat_inj.1 (by show c.toNat=46;omega))
         have HE:=lh (HNO.o (by unfold zJ;rw[hfg,heB,show(c.toNat == 43)=false from beq_eq_false_iff_ne.2 fun h=>h43 (UInt8.toNat_inj.1 h),show(c.toNat == 45)=false from beq_eq_false_iff_ne.2 fun h=>h45 (UInt8.toNat_inj.1 h),show(c.toNat == 46)=false from beq_eq_false_iff_ne.2 fun h=>h46 (UInt8.toNat_inj.1 h)];rfl));clear hfg heB h101 h69 h43 h45 h46;go_wp2_with fail;refine(HDG.o _).mono ?_;rintro e w1 ⟨rfl,rfl⟩;go_wp2_with fail;exact HQ.o _ _ ⟨by rw[HE.o];rfl,rfl⟩
  ·have hkn':¬ k < s.size:=by rw[HN.o];exact hkn
   have HE:Hid (I=k):=lh (by have h1:=HNL.o;rw[List.drop_of_length_le (by rw[HLN.o];omega),kZ rfl] at h1;omega);go_wp2_with fail;exact HQ.o _ _ ⟨by rw[HE.o];rfl,rfl⟩
def qS:List Value:=nL.map fun x=>Value.string ⟨x.toArray⟩
theorem aBg:qS=[.string ⟨#[46,46]⟩,.string ⟨#[61,61]⟩,.string ⟨#[33,61]⟩,.string ⟨#[60,61]⟩,.string ⟨#[62,61]⟩,.string ⟨#[38,38]⟩,.string ⟨#[124,124]⟩,.string ⟨#[58,61]⟩]:=rfl
def yR:List UInt8:=[36,64,46,44,58,59,63,42,91,93,40,41,123,125,60,62,33,61,43,45]
theorem aEC (c:UInt8):oR c=yR.contains c:=by
 have:=qD (fun c=>oR c == yR.contains c) (by decide +kernel) c;exact eq_of_beq this
def aHj (w:World) (D:List UInt8) (j:Nat) (v:Value) (wr:World):Prop:=∃ i:Nat,i+j=8/\v=.int .i64 (i:Int)/\(nL.take i).any (fun x=>x.isPrefixOf D)=false/\Fr [] w wr
def aHk (w:World) (c:UInt8) (j:Nat) (v:Value) (wr:World):Prop:=∃ i:Nat,i+j=20/\v=.int .i64 (i:Int)/\(yR.take i).contains c=false/\Fr [] w wr
theorem zZ {α:Type} {f:α -> Bool} {l:List α} {i:Nat} {x:α} (hx:l[i]? = some x) (h:(l.take i).any f=false) (hf:f x=false):(l.take (i+1)).any f=false:=by
 rw[List.take_add_one,hx,List.any_append,h]
 simp[hf]
theorem aFQ {α:Type} {f:α -> Bool} {l:List α} {i:Nat} {x:α} (hx:l[i]? = some x) (hf:f x=true):l.any f=true:=List.any_eq_true.2 ⟨x,List.mem_of_getElem? hx,hf⟩
theorem aFR {x D:List UInt8} (hx:x.length=2):x.isPrefixOf D=decide (2<=D.length/\D.take 2=x):=by
 rw[Bool.eq_iff_iff,List.isPrefixOf_iff_prefix,decide_eq_true_eq,List.prefix_iff_eq_take,hx]
 constructor
 ·intro h;have:=congrArg List.length h;rw[hx,List.length_take] at this;exact⟨by omega,h.symm⟩
 ·intro h;exact h.2.symm
theorem aHl {w:World} (s:ByteArray) (at_:Nat) (ha:at_ < s.size) (hz:s.size<=140737488351232):Calls Tryz.prog 81 #[.string s,.int .i64 (at_:Int)] w fun e w'=>e=.returned (.int .i64 ((kF ((aA s).drop at_):Nat):Int))/\Fr [] w w':=by
 refine bA fun R HQ=>?_;have hlen:=cA s;obtain⟨D,hD⟩:∃ D,(aA s).drop at_=D:=⟨_,rfl⟩;rw[hD] at HQ;obtain⟨c,hc⟩:∃ c,(aA s)[at_]? = some c:=gx (by omega);have hix:=fun W=>rA (s:=s) hc .i64 W;have hDc:D=c :: (aA s).drop (at_+1):=by rw[<- hD,xA hc]
 have hDl:D.length=s.size - at_:=by rw[<- hD,List.length_drop,hlen]
 have HDC:=lh hDc;have HDL:=lh hDl;have HDD:=lh hD;clear hc hlen hD hDc hDl
 go_enter Tryz.func81,Tryz.ntmps81
 go_upto_region 2 with fail
 have hf1:Fr [] w (w.alloc (.cells #[.string ⟨#[46,46]⟩,.string ⟨#[61,61]⟩,.string ⟨#[33,61]⟩,.string ⟨#[60,61]⟩,.string ⟨#[62,61]⟩,.string ⟨#[38,38]⟩,.string ⟨#[124,124]⟩,.string ⟨#[58,61]⟩] 9)):=(Fr.refl [] w).alloc _;have hb1:=Blk.new w 9 [.string ⟨#[46,46]⟩,.string ⟨#[61,61]⟩,.string ⟨#[33,61]⟩,.string ⟨#[60,61]⟩,.string ⟨#[62,61]⟩,.string ⟨#[38,38]⟩,.string ⟨#[124,124]⟩,.string ⟨#[58,61]⟩];generalize w.alloc (.cells #[.string ⟨#[46,46]⟩,.string ⟨#[61,61]⟩,.string ⟨#[33,61]⟩,.string ⟨#[60,61]⟩,.string ⟨#[62,61]⟩,.string ⟨#[38,38]⟩,.string ⟨#[124,124]⟩,.string ⟨#[58,61]⟩] 9)=w1 at *;have HF1:=lh hf1;have hb1':Blk w1 w.heap.size 9 qS:=by rw[aBg];exact hb1
 have HB1:=lh hb1';clear hf1 hb1 hb1';go_wp2_with fail
 go_loopg [6] 8 (fun j v wr=>aHj w1 D j v wr)
 case atStart=>exact⟨0,by omega,rfl,rfl,Fr.refl _ _⟩
 case round=>
  obtain⟨i,hi,rfl,hno,hF⟩:=hrel;have HF:=lh hF;have HNO:=lh hno;clear hF hno
  by_cases hi8:i < 8
  ·have hii:(i:Int) < 8:=by omega
   obtain⟨x,hx⟩:=gx (l:=nL) hi8
   have hx2:x.length=2:=by
    have:=List.all_eq_true.1 (show nL.all (fun x=>decide (x.length=2))=true by decide) x (List.mem_of_getElem? hx);exact of_decide_eq_true this
   have z1:=dA HF.o (HB1.o.at_ (i:=i) (show qS[i]? = some (.string ⟨x.toArray⟩) by unfold qS;rw[List.getElem?_map,hx];rfl));have HX:=lh hx;have HX2:=lh (aFR (D:=D) hx2);clear hx
   by_cases h1:at_+1 < s.size
   ·obtain⟨t,ht,htz,hsl0⟩:=uH s at_ (at_+2) (by omega) (by omega);rw[HDD.o,Nat.add_sub_cancel_left] at ht;have hsl:=fun W=>hsl0 .i64 .i64 W;rw[show((at_+2:Nat):Int)=(at_:Int)+2 by omega] at hsl;have hw1:=_root_.Go.Proofs.YtbggkiebfflcdaaGreatDoor.wi at_ (by omega)
    have hw2:IntKind.i64.wrap ((at_:Int)+2)=(at_:Int)+2:=by rw[IntKind.wrap_i64];omega
    have d1:decide ((at_:Int)+1 < (s.size:Int))=true:=dT (by omega)
    have hbq:=lS t ⟨x.toArray⟩;rw[ht,show aA ⟨x.toArray⟩=x from rfl,show(⟨x.toArray⟩:ByteArray).toList=x by rw[ByteArray.toList_eq]] at hbq;clear ht htz hsl0
    by_cases hq:D.take 2=x
    ·have HE:Hid (kF D=2):=lh (by unfold kF;rw[if_pos (aFQ HX.o (by rw[HX2.o,decide_eq_true_eq];exact⟨by rw[HDL.o];omega,hq⟩))]);have hbq':(t.toList == x)=true:=by rw[hbq,beq_iff_eq];exact hq
     clear hbq hq;go_upto_region 5 with fail
     go_quiet (fail)
     have hfq:Fr [] wr (wr.drewN nq):=(Fr.refl [] wr).drewN nq;have HF3:=lh (HF.o.trans hfq);generalize wr.drewN nq=w3 at *;clear hfq z1;go_wp2_with fail;exact HQ.o _ _ ⟨by rw[HE.o];rfl,HF1.o.trans HF3.o⟩
    ·have HNN:Hid ((nL.take (i+1)).any (fun x=>x.isPrefixOf D)=false):=lh (zZ HX.o HNO.o (by rw[HX2.o,decide_eq_false_iff_not];exact fun h=>hq h.2));have hbq':(t.toList == x)=false:=by rw[hbq,beq_eq_false_iff_ne];exact hq
     clear hbq hq;go_upto_region 5 with fail
     go_quiet (fail)
     have hfq:Fr [] wr (wr.drewN nq):=(Fr.refl [] wr).drewN nq;have HF3:=lh (HF.o.trans hfq);generalize wr.drewN nq=w3 at *;clear hfq z1;go_wp2_with fail
     go_roundg (8 - (i+1))
     case measure=>omega
     case rel=>exact⟨i+1,by omega,by go_num,HNN.o,HF3.o⟩
   ·have HNN:Hid ((nL.take (i+1)).any (fun x=>x.isPrefixOf D)=false):=lh (zZ HX.o HNO.o (by rw[HX2.o,decide_eq_false_iff_not];exact fun h=>by have:=h.1;rw[HDL.o] at this;omega));have hw1:=_root_.Go.Proofs.YtbggkiebfflcdaaGreatDoor.wi at_ (by omega)
    have d1:decide ((at_:Int)+1 < (s.size:Int))=false:=dF (by omega)
    go_upto_region 5 with fail
    go_quiet (fail)
    have hfq:Fr [] wr (wr.drewN nq):=(Fr.refl [] wr).drewN nq;have HF3:=lh (HF.o.trans hfq);generalize wr.drewN nq=w3 at *;clear hfq z1;go_wp2_with fail
    go_roundg (8 - (i+1))
    case measure=>omega
    case rel=>exact⟨i+1,by omega,by go_num,HNN.o,HF3.o⟩
  ·obtain rfl:i=8:=by omega
   have HTW:Hid (kF D=if yR.contains c then 1 else 0):=lh (by
    have h9:=HNO.o;rw[show nL.take 8=nL from rfl] at h9;unfold kF;rw[h9,if_neg (by simp),HDC.o]
    dsimp only
    rw[aEC])
   have HFW:=lh (HF1.o.trans HF.o);clear HF HNO;go_wp2_with fail
   go_loopg [8] 20 (fun j v wi=>aHk w c j v wi)
   case atStart=>exact⟨0,by omega,rfl,rfl,HFW.o⟩
   case round=>
    obtain⟨i,hi,rfl,hno,hF⟩:=hrel;have HF:=lh hF;have HNO:=lh hno;clear hF hno
    by_cases hi2:i < 20
    ·have hii:(i:Int) < 20:=by omega
     obtain⟨x,hx⟩:=gx (l:=yR) hi2;have hl1:=fun W=>rA (s:=⟨#[36,64,46,44,58,59,63,42,91,93,40,41,123,125,60,62,33,61,43,45]⟩) (i:=i) (c:=x) hx .i64 W;have HX:=lh hx;clear hx
     by_cases hq:c=x
     ·have d2:((c.toNat:Int) == (x.toNat:Int))=true:=by rw[hq];simp
      have HE:Hid (kF D=1):=lh (by rw[HTW.o,if_pos];rw[hq,List.contains_iff_mem];exact List.mem_of_getElem? HX.o);clear hq;go_upto_region 11 with fail
      go_quiet (fail)
      have hfq:Fr [] wr (wr.drewN nq):=(Fr.refl [] wr).drewN nq;have HF3:=lh (HF.o.trans hfq);generalize wr.drewN nq=w3 at *;clear hfq;go_wp2_with fail;exact HQ.o _ _ ⟨by rw[HE.o];rfl,HF3.o⟩
     ·have d2:((c.toNat:Int) == (x.toNat:Int))=false:=by rw[beq_eq_false_iff_ne];intro h;exact hq (UInt8.toNat_inj.1 (by omega))
      have HNN:Hid ((yR.take (i+1)).contains c=false):=lh (by
       have h9:=HNO.o;rw[List.take_add_one,HX.o];simp only[List.contains_eq_mem,decide_eq_false_iff_not] at h9 ⊢;rw[List.mem_append];rintro(h | h)
       ·exact h9 h
       ·simp at h;exact hq h)
      clear hq;go_upto_region 11 with fail
      go_quiet (fail)
      have hfq:Fr [] wr (wr.drewN nq):=(Fr.refl [] wr).drewN nq;have HF3:=lh (HF.o.trans hfq);generalize wr.drewN nq=w3 at *;clear hfq;go_wp2_with fail
      go_roundg (20 - (i+1))
      case measure=>omega
      case rel=>exact⟨i+1,by omega,by go_num,HNN.o,HF3.o⟩
    ·obtain rfl:i=20:=by omega
     have HE:Hid (kF D=0):=lh (by rw[HTW.o,if_neg];have h9:=HNO.o;rw[show yR.take 20=yR from rfl] at h9;rw[h9];simp);go_wp2_with fail;exact HQ.o _ _ ⟨by rw[HE.o];rfl,HF.o⟩
end
end Go.Proofs.YtbggkiebfflcdaaGreatDoor
