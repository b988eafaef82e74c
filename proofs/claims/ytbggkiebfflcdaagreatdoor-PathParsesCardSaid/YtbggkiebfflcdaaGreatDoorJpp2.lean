/-
  Joined by join.py: Uc Ue Ea Eb Ed
-/
import Derived.Test.YtbggkiebfflcdaaGreatDoorJpp1
set_option maxRecDepth 100000
set_option maxHeartbeats 32000000
namespace Go.Proofs.YtbggkiebfflcdaaGreatDoor
section
open Go.RowKit
theorem lL {b0 b1:UInt8} {l l1:List UInt8} {k:Nat} (hb:b0 :: l=b1 :: l1) (h1:k<=l1.length) (h:l.length < k):False:=by
 injection hb with _ hb;subst hb;omega
theorem mL {b0:UInt8} {l:List UInt8} {k:Nat} (hk:k < 4) (hl:k<=l.length) (h:xC k b0=true) (hno:∀ i,i < k -> ¬ qH (b0 :: l) i):mB (b0 :: l)=tD k b0 l:=by
 have no:∀ i,i < k -> ¬ (i<=l.length/\xC i b0=true):=fun i hi h=>hno i hi ⟨b0,l,rfl,h.1,h.2⟩;rw[mB];have h4:k=0 ∨ k=1 ∨ k=2 ∨ k=3:=by omega
 rcases h4 with rfl | rfl | rfl | rfl
 ·rw[if_pos h]
 ·rw[if_neg (fun e=>no 0 (by omega) ⟨by omega,e⟩),if_pos ⟨hl,h⟩]
 ·rw[if_neg (fun e=>no 0 (by omega) ⟨by omega,e⟩),if_neg (no 1 (by omega)),if_pos ⟨hl,h⟩]
 ·rw[if_neg (fun e=>no 0 (by omega) ⟨by omega,e⟩),if_neg (no 1 (by omega)),if_neg (no 2 (by omega)),if_pos ⟨hl,h⟩]
theorem vX {b0:UInt8} {l:List UInt8} (hno:∀ i,i < 4 -> ¬ qH (b0 :: l) i):mB (b0 :: l)=none:=by
 have no:∀ i,i < 4 -> ¬ (i<=l.length/\xC i b0=true):=fun i hi h=>hno i hi ⟨b0,l,rfl,h.1,h.2⟩;rw[mB,if_neg (fun e=>no 0 (by omega) ⟨by omega,e⟩),if_neg (no 1 (by omega)),if_neg (no 2 (by omega)),if_neg (no 3 (by omega))]
theorem xA {α:Type} {l:List α} {i:Nat} {u:α} (h:l[i]? = some u):l.drop i=u :: l.drop (i+1):=by
 obtain⟨hi,rfl⟩:=List.getElem?_eq_some_iff.1 h;exact List.drop_eq_getElem_cons hi
theorem mW {r m:Nat} (h:(r+1) * 64 ^ (m+1)<=2097152):r < 32768/\∀ x,x < 64 -> (r * 64+x+1) * 64 ^ m<=2097152:=by
 have h1:1<=64 ^ m:=Nat.one_le_pow _ _ (by omega);have e:(r+1) * 64 ^ (m+1)=((r+1) * 64) * 64 ^ m:=by rw[Nat.pow_succ,Nat.mul_comm (64 ^ m) 64,Nat.mul_assoc]
 rw[e] at h;refine⟨?_,fun x hx=>Nat.le_trans (Nat.mul_le_mul_right _ (by omega)) h⟩;have h2:((r+1) * 64) * 1<=((r+1) * 64) * 64 ^ m:=Nat.mul_le_mul_left _ h1;omega
def aBs (W0:World) (h0 kk:Nat) (l:List UInt8) (j:Nat) (v6 v41:Value) (wr:World):Prop:=
 ∃ i r:Nat,i+j=kk/\v6=.int .i32 (r:Int)/\v41=.int .i64 (i:Int)/\W0=wr/\fD h0 (l.take kk)=fD r ((l.take kk).drop i)/\(r+1) * 64 ^ j<=2097152
theorem aBW {w:World} {c n g off:Nat} {b0:UInt8} {l:List UInt8} (hn:n=l.length+1) (hc:n<=c) (hm:c<=9223372036854775807) (hv:∀ (j:Nat) (u:UInt8),(b0 :: l)[j]? = some u -> w.cell? ⟨g,off+j,none⟩=some (.int .u8 (u.toNat:Int))):
  RV 147 #[.slice (some ⟨g,off,none⟩) n c] w (tC (b0 :: l)):=by
 refine bA fun R HQ=>?_
 have HB0:Hid (∀ W,Fr [] w W -> W.cell? ⟨g,off,none⟩=some (.int .u8 (b0.toNat:Int))):=lh fun W hW=>by
  have h1:=hv 0 b0 rfl;rw[Nat.add_zero] at h1;rw[hW.cell (World.block_lt_of_cell? w _ h1) (by simp)];exact h1
 have HBJ:Hid (∀ W,Fr [] w W -> ∀ (j:Nat) (u:UInt8),l[j]? = some u -> W.cell? ⟨g,off+1+j,none⟩=some (.int .u8 (u.toNat:Int))):=lh fun W hW j u hu=>by
  have h1:=hv (j+1) u (by simpa using hu);rw[show off+(j+1)=off+1+j by omega] at h1;rw[hW.cell (World.block_lt_of_cell? w _ h1) (by simp)];exact h1
 have HN:=lh hn;have hn1:1<=n:=by omega
 have hnl:l.length+1<=n/\n<=l.length+1:=by omega
 clear hv hn
 go_enter Tryz.func147,Tryz.ntmps147
 go_wp2_with fail;refine(vQ _).mono ?_;rintro e w1 ⟨rfl,hf1⟩;have HF1:=lh hf1;clear hf1;go_wp2_with fail
 go_loopg [10] 4 (aGD w (b0 :: l))
 case atStart=>exact⟨0,rfl,rfl,HF1.o,fun i hi=>absurd hi (by omega)⟩
 case round=>
  obtain⟨k,hk,rfl,hf,hno⟩:=hrel;have HF:=lh hf;have HNO:=lh hno;clear hf hno HF1
  by_cases hk4:k=4
  ·subst hk4;rw[show((4:Nat):Int)=4 from rfl];have HM:Hid (tC (b0 :: l)=.tuple #[.int .i32 0,.int .i64 0]):=lh (by unfold tC;rw[vX HNO.o]);go_wp2_with fail;exact HQ.o _ _ ⟨by rw[HM.o];rfl,HF.o⟩
  ·have h4:k=0 ∨ k=1 ∨ k=2 ∨ k=3:=by omega
   clear hk4;rcases h4 with rfl | rfl | rfl | rfl
   ·have hn0:¬ n=0:=by omega
    have hlb:0<=l.length:=by omega
    have ix:∀ W:World,(Instr.index 218 (.agg qB.toArray) (.int .i64 0)).run Tryz.prog W=.ok (.agg #[.int .u8 128,.int .u8 0,.int .i32 0]) W:=fun _=>by kernel_rfl
    unfold qB at ix ⊢;rw[show((0:Nat):Int)=0 from rfl];have a1:bits .and .u8 (b0.toNat:Int) 128=((b0.toNat &&& 128:Nat):Int):=jK b0.toNat 128 b0.toNat_lt (by omega);have cb:wr.cell? ⟨g,off,none⟩=some (.int .u8 (b0.toNat:Int)):=HB0.o wr HF.o;have glt:g < wr.heap.size:=World.block_lt_of_cell? wr _ cb
    cases hld:xC 0 b0 with
    | false=>
     have a2:(((b0.toNat &&& 128:Nat):Int) != 0)=true:=by
      have hld':(b0.toNat &&& 128 == 0)=false:=hld;rw[bne_iff_ne];intro e;have e':b0.toNat &&& 128=0:=by omega
      rw[e'] at hld'
      cases hld'
     have HNO2:Hid (∀ i,i < 0+1 -> ¬ qH (b0 :: l) i):=lh fun i hi hs=>by
      by_cases hik:i=0
      ·subst hik;obtain⟨b0',l',hb,h1,h2⟩:=hs;injection hb with hb1 hb2;subst hb1;rw[hld] at h2;cases h2
      ·exact HNO.o i (by omega) hs
     clear hld;go_wp2_with fail
     go_quiet (fail)
     go_wp2_with fail
     go_roundg (3 - 0)
     case measure=>omega
     case rel=>exact⟨0+1,by omega,by go_num,(HF.o.alloc _).drewN _,HNO2.o⟩
    | true=>
     have a2:(((b0.toNat &&& 128:Nat):Int) != 0)=false:=by
      have hld':(b0.toNat &&& 128 == 0)=true:=hld;have e':b0.toNat &&& 128=0:=by simpa using hld'
      rw[e'];rfl
     have a3:bits .andNot .u8 (b0.toNat:Int) 128=((vB 0 b0:Nat):Int):=iN 0 (by omega) b0 hld;have hb:=jL 0 (by omega) b0 hld;have HIT:Hid (mB (b0 :: l)=tD 0 b0 l):=lh (mL (by omega) hlb hld HNO.o)
     have hbd:(vB 0 b0+1) * 64 ^ 0<=2097152:=by
      obtain⟨q0,q1,q2,q3⟩:=hb
      show(vB 0 b0+1) * 1<=2097152
      omega
     have HBD:=lh hbd;have hh:vB 0 b0 < 128:=hb.1;clear hld hb hbd;obtain⟨h0,hh0⟩:∃ h0,vB 0 b0=h0:=⟨_,rfl⟩;rw[hh0] at a3 hh HBD;have HH0:=lh hh0;clear hh0
     by_cases hc1:c=1
     case' pos=>
      skip
     case' neg=>
      skip
     all_goals
      go_wp2_with fail
      go_quiet (fail)
      generalize nq=q1 at *;go_wp2_with fail
      go_quiet (fail)
      have hl0:=HF.o.size;go_wp2_with fail;have HFX:Hid (Fr [] w ((wr.alloc (.cells #[.int .u8 128,.int .u8 0,.int .i32 0] 217)).drewN (q1+nq))):=lh ((HF.o.alloc _).drewN _);have hx2:((wr.alloc (.cells #[.int .u8 128,.int .u8 0,.int .i32 0] 217)).drewN (q1+nq)).cell? ⟨wr.heap.size,2,none⟩=some (.int .i32 0):=((Blk.new wr 217 [.int .u8 128,.int .u8 0,.int .i32 0]).drewN (q1+nq)).at_ (i:=2) rfl;generalize hW5:(wr.alloc (.cells #[.int .u8 128,.int .u8 0,.int .i32 0] 217)).drewN (q1+nq)=w5 at *;clear hW5;obtain⟨xb,hxb⟩:=nm (wr.heap.size);rw[<- hxb] at hx2 ⊢;clear hxb
      go_loopg [6,41] 0 (aBs w5 h0 0 l)
      case atStart=>exact⟨0,h0,by omega,rfl,by go_num,rfl,rfl,HBD.o⟩
      case round=>
       obtain⟨i,r,hi,rfl,rfl,rfl,ht,hrb⟩:=hrel;have HT:=lh ht;clear ht;clear ix a1 cb glt a2 a3
       by_cases hik:i < 0
       ·skip
        exact absurd hik (by omega)
       ·obtain rfl:i=0:=by omega
        obtain rfl:gk=0:=by omega
        have HTR:Hid (fD h0 (l.take 0)=some r):=lh (by rw[HT.o,List.drop_eq_nil_of_le (by rw[List.length_take];omega)];rfl);have hr:r < 2097152:=by rw[Nat.pow_zero] at hrb;omega
        rw[show((0:Nat):Int)=0 from rfl];clear hik hi hrb
        by_cases hle:(r:Int) < 0
        ·skip
         exact absurd hle (by omega)
        ·have HLE:=lh hle;have d1:decide ((r:Int) < 0)=false:=by rw[decide_eq_false_iff_not];exact hle
         go_wp2_with fail;refine(zH _ _).mono ?_;rintro e w6 ⟨rfl,rfl⟩
         cases hso:lB (r:Int) with
         | true=>
          have HV:Hid (tC (b0 :: l)=.tuple #[.int .i32 (r:Int),.int .i64 (0+1)]):=lh (by unfold tC;rw[HIT.o];unfold tD;rw[HH0.o,HTR.o];simp only;rw[if_neg (by rw[hso];simp only[Bool.true_eq_false,or_false];exact Int.not_lt.2 HLE.o)];rfl);clear hso;go_wp2_with fail;exact HQ.o _ _ ⟨by rw[HV.o];rfl,HFX.o⟩
         | false=>
          have HV:Hid (tC (b0 :: l)=.tuple #[.int .i32 0,.int .i64 0]):=lh (by unfold tC;rw[HIT.o];unfold tD;rw[HH0.o,HTR.o];simp only;rw[if_pos (.inr hso)]);clear hso;go_wp2_with fail;exact HQ.o _ _ ⟨by rw[HV.o];rfl,HFX.o⟩
   ·by_cases hlen:n<=1
    ·have t2:(n:Int)<=1:=by omega
     have ix:∀ W:World,(Instr.index 218 (.agg qB.toArray) (.int .i64 1)).run Tryz.prog W=.ok (.agg #[.int .u8 224,.int .u8 192,.int .i32 128]) W:=fun _=>by kernel_rfl
     unfold qB at ix ⊢;rw[show((1:Nat):Int)=1 from rfl]
     have HNO2:Hid (∀ i,i < 1+1 -> ¬ qH (b0 :: l) i):=lh fun i hi hs=>by
      by_cases hik:i=1
      ·subst hik;obtain⟨b0',l',hb,h1,_⟩:=hs;exact lL hb h1 (by omega)
      ·exact HNO.o i (by omega) hs
     go_wp2_with fail
     go_quiet (fail)
     go_wp2_with fail
     go_roundg (3 - 1)
     case measure=>omega
     case rel=>exact⟨1+1,by omega,by go_num,(HF.o.alloc _).drewN _,HNO2.o⟩
    ·have t1:decide ((n:Int)<=1)=false:=dF (by omega)
     have t2:¬ (n:Int)<=1:=by omega
     have hlb:1<=l.length:=by omega
     have ix:∀ W:World,(Instr.index 218 (.agg qB.toArray) (.int .i64 1)).run Tryz.prog W=.ok (.agg #[.int .u8 224,.int .u8 192,.int .i32 128]) W:=fun _=>by kernel_rfl
     unfold qB at ix ⊢;rw[show((1:Nat):Int)=1 from rfl];have a1:bits .and .u8 (b0.toNat:Int) 224=((b0.toNat &&& 224:Nat):Int):=jK b0.toNat 224 b0.toNat_lt (by omega);have cb:wr.cell? ⟨g,off,none⟩=some (.int .u8 (b0.toNat:Int)):=HB0.o wr HF.o;have glt:g < wr.heap.size:=World.block_lt_of_cell? wr _ cb
     cases hld:xC 1 b0 with
     | false=>
      have a2:(((b0.toNat &&& 224:Nat):Int) != 192)=true:=by
       have hld':(b0.toNat &&& 224 == 192)=false:=hld;rw[bne_iff_ne];intro e;have e':b0.toNat &&& 224=192:=by omega
       rw[e'] at hld'
       cases hld'
      have HNO2:Hid (∀ i,i < 1+1 -> ¬ qH (b0 :: l) i):=lh fun i hi hs=>by
       by_cases hik:i=1
       ·subst hik;obtain⟨b0',l',hb,h1,h2⟩:=hs;injection hb with hb1 hb2;subst hb1;rw[hld] at h2;cases h2
       ·exact HNO.o i (by omega) hs
      clear hld;go_wp2_with fail
      go_quiet (fail)
      go_wp2_with fail
      go_roundg (3 - 1)
      case measure=>omega
      case rel=>exact⟨1+1,by omega,by go_num,(HF.o.alloc _).drewN _,HNO2.o⟩
     | true=>
      have a2:(((b0.toNat &&& 224:Nat):Int) != 192)=false:=by
       have hld':(b0.toNat &&& 224 == 192)=true:=hld;have e':b0.toNat &&& 224=192:=by simpa using hld'
       rw[e'];rfl
      have a3:bits .andNot .u8 (b0.toNat:Int) 224=((vB 1 b0:Nat):Int):=iN 1 (by omega) b0 hld;have hb:=jL 1 (by omega) b0 hld;have HIT:Hid (mB (b0 :: l)=tD 1 b0 l):=lh (mL (by omega) hlb hld HNO.o)
      have hbd:(vB 1 b0+1) * 64 ^ 1<=2097152:=by
       obtain⟨q0,q1,q2,q3⟩:=hb
       show(vB 1 b0+1) * 64<=2097152
       omega
      have HBD:=lh hbd;have hh:vB 1 b0 < 128:=hb.1;clear hld hb hbd;obtain⟨h0,hh0⟩:∃ h0,vB 1 b0=h0:=⟨_,rfl⟩;rw[hh0] at a3 hh HBD;have HH0:=lh hh0;clear hh0;have hc1:¬ c=1:=by omega
      go_wp2_with fail
      go_quiet (fail)
      generalize nq=q1 at *;go_wp2_with fail
      go_quiet (fail)
      have hl0:=HF.o.size;go_wp2_with fail;have HFX:Hid (Fr [] w ((wr.alloc (.cells #[.int .u8 224,.int .u8 192,.int .i32 128] 217)).drewN (q1+nq))):=lh ((HF.o.alloc _).drewN _);have hx2:((wr.alloc (.cells #[.int .u8 224,.int .u8 192,.int .i32 128] 217)).drewN (q1+nq)).cell? ⟨wr.heap.size,2,none⟩=some (.int .i32 128):=((Blk.new wr 217 [.int .u8 224,.int .u8 192,.int .i32 128]).drewN (q1+nq)).at_ (i:=2) rfl;generalize hW5:(wr.alloc (.cells #[.int .u8 224,.int .u8 192,.int .i32 128] 217)).drewN (q1+nq)=w5 at *;clear hW5;obtain⟨xb,hxb⟩:=nm (wr.heap.size);rw[<- hxb] at hx2 ⊢;clear hxb
      go_loopg [6,41] 1 (aBs w5 h0 1 l)
      case atStart=>exact⟨0,h0,by omega,rfl,by go_num,rfl,rfl,HBD.o⟩
      case round=>
       obtain⟨i,r,hi,rfl,rfl,rfl,ht,hrb⟩:=hrel;have HT:=lh ht;clear ht;clear ix a1 cb glt a2 a3
       by_cases hik:i < 1
       ·skip
        obtain⟨gk',rfl⟩:∃ gk',gk=gk'+1:=⟨gk - 1,by omega⟩;obtain⟨u,hu⟩:∃ u,l[i]? = some u:=gx (by omega);have HDU:Hid ((l.take 1).drop i=u :: (l.take 1).drop (i+1)):=lh (xA (by rw[List.getElem?_take,if_pos hik];exact hu));have cu:=HBJ.o w5 HFX.o i u hu;obtain⟨hr,hrs⟩:=mW hrb;have HRS:=lh hrs;have b1:bits .and .u8 (u.toNat:Int) 192=((u.toNat &&& 192:Nat):Int):=jK u.toNat 192 u.toNat_lt (by omega);obtain⟨um,hum0⟩:∃ um,um=u.toNat % 64:=⟨_,rfl⟩;have b2:bits .and .u8 (u.toNat:Int) 63=(um:Int):=by rw[hum0,<- aAn];exact jK u.toNat 63 u.toNat_lt (by omega)
        have hum:um < 64:=by rw[hum0];exact Nat.mod_lt _ (by omega)
        have HUM:=lh hum0;have b3:=aAo r um (by omega) hum;have d0:decide ((i:Int) < 1)=true:=dT (by omega)
        clear hu hrs hrb hum0
        cases hcu:jP u with
        | true=>
         have b4:(((u.toNat &&& 192:Nat):Int) != 128)=false:=by
          rw[sK] at hcu;have e:u.toNat &&& 192=128:=by simpa using hcu
          rw[e];rfl
         have HT2:Hid (fD h0 (l.take 1)=fD (r * 64+um) ((l.take 1).drop (i+1))):=lh (by rw[HT.o,HDU.o,fD,if_pos hcu,HUM.o]);clear hcu;go_wp2_with fail
         go_roundg gk'
         case measure=>omega
         case rel=>exact⟨i+1,r * 64+um,by omega,by go_num,by go_num,rfl,HT2.o,HRS.o um hum⟩
        | false=>
         have b4:(((u.toNat &&& 192:Nat):Int) != 128)=true:=by
          rw[sK] at hcu;rw[bne_iff_ne];intro e;have e':u.toNat &&& 192=128:=by omega
          rw[e'] at hcu
          cases hcu
         have HT2:Hid (fD h0 (l.take 1)=none):=lh (by rw[HT.o,HDU.o,fD,if_neg (by rw[hcu];simp)]);have HV:Hid (tC (b0 :: l)=.tuple #[.int .i32 0,.int .i64 0]):=lh (by unfold tC;rw[HIT.o];unfold tD;rw[HH0.o,HT2.o]);clear hcu;go_wp2_with fail;exact HQ.o _ _ ⟨by rw[HV.o];rfl,HFX.o⟩
       ·obtain rfl:i=1:=by omega
        obtain rfl:gk=0:=by omega
        have HTR:Hid (fD h0 (l.take 1)=some r):=lh (by rw[HT.o,List.drop_eq_nil_of_le (by rw[List.length_take];omega)];rfl);have hr:r < 2097152:=by rw[Nat.pow_zero] at hrb;omega
        rw[show((1:Nat):Int)=1 from rfl];clear hik hi hrb
        by_cases hle:(r:Int) < 128
        ·skip
         have d1:decide ((r:Int) < 128)=true:=by rw[decide_eq_true_eq];exact hle
         have HV:Hid (tC (b0 :: l)=.tuple #[.int .i32 0,.int .i64 0]):=lh (by unfold tC;rw[HIT.o];unfold tD;rw[HH0.o,HTR.o];simp only;rw[if_pos (.inl hle)]);go_wp2_with fail;exact HQ.o _ _ ⟨by rw[HV.o];rfl,HFX.o⟩
        ·have HLE:=lh hle;have d1:decide ((r:Int) < 128)=false:=by rw[decide_eq_false_iff_not];exact hle
         go_wp2_with fail;refine(zH _ _).mono ?_;rintro e w6 ⟨rfl,rfl⟩
         cases hso:lB (r:Int) with
         | true=>
          have HV:Hid (tC (b0 :: l)=.tuple #[.int .i32 (r:Int),.int .i64 (1+1)]):=lh (by unfold tC;rw[HIT.o];unfold tD;rw[HH0.o,HTR.o];simp only;rw[if_neg (by rw[hso];simp only[Bool.true_eq_false,or_false];exact Int.not_lt.2 HLE.o)];rfl);clear hso;go_wp2_with fail;exact HQ.o _ _ ⟨by rw[HV.o];rfl,HFX.o⟩
         | false=>
          have HV:Hid (tC (b0 :: l)=.tuple #[.int .i32 0,.int .i64 0]):=lh (by unfold tC;rw[HIT.o];unfold tD;rw[HH0.o,HTR.o];simp only;rw[if_pos (.inr hso)]);clear hso;go_wp2_with fail;exact HQ.o _ _ ⟨by rw[HV.o];rfl,HFX.o⟩
   ·by_cases hlen:n<=2
    ·have t2:(n:Int)<=2:=by omega
     have ix:∀ W:World,(Instr.index 218 (.agg qB.toArray) (.int .i64 2)).run Tryz.prog W=.ok (.agg #[.int .u8 240,.int .u8 224,.int .i32 2048]) W:=fun _=>by kernel_rfl
     unfold qB at ix ⊢;rw[show((2:Nat):Int)=2 from rfl]
     have HNO2:Hid (∀ i,i < 2+1 -> ¬ qH (b0 :: l) i):=lh fun i hi hs=>by
      by_cases hik:i=2
      ·subst hik;obtain⟨b0',l',hb,h1,_⟩:=hs;exact lL hb h1 (by omega)
      ·exact HNO.o i (by omega) hs
     go_wp2_with fail
     go_quiet (fail)
     go_wp2_with fail
     go_roundg (3 - 2)
     case measure=>omega
     case rel=>exact⟨2+1,by omega,by go_num,(HF.o.alloc _).drewN _,HNO2.o⟩
    ·have t1:decide ((n:Int)<=2)=false:=dF (by omega)
     have t2:¬ (n:Int)<=2:=by omega
     have hlb:2<=l.length:=by omega
     have ix:∀ W:World,(Instr.index 218 (.agg qB.toArray) (.int .i64 2)).run Tryz.prog W=.ok (.agg #[.int .u8 240,.int .u8 224,.int .i32 2048]) W:=fun _=>by kernel_rfl
     unfold qB at ix ⊢;rw[show((2:Nat):Int)=2 from rfl];have a1:bits .and .u8 (b0.toNat:Int) 240=((b0.toNat &&& 240:Nat):Int):=jK b0.toNat 240 b0.toNat_lt (by omega);have cb:wr.cell? ⟨g,off,none⟩=some (.int .u8 (b0.toNat:Int)):=HB0.o wr HF.o;have glt:g < wr.heap.size:=World.block_lt_of_cell? wr _ cb
     cases hld:xC 2 b0 with
     | false=>
      have a2:(((b0.toNat &&& 240:Nat):Int) != 224)=true:=by
       have hld':(b0.toNat &&& 240 == 224)=false:=hld;rw[bne_iff_ne];intro e;have e':b0.toNat &&& 240=224:=by omega
       rw[e'] at hld'
       cases hld'
      have HNO2:Hid (∀ i,i < 2+1 -> ¬ qH (b0 :: l) i):=lh fun i hi hs=>by
       by_cases hik:i=2
       ·subst hik;obtain⟨b0',l',hb,h1,h2⟩:=hs;injection hb with hb1 hb2;subst hb1;rw[hld] at h2;cases h2
       ·exact HNO.o i (by omega) hs
      clear hld;go_wp2_with fail
      go_quiet (fail)
      go_wp2_with fail
      go_roundg (3 - 2)
      case measure=>omega
      case rel=>exact⟨2+1,by omega,by go_num,(HF.o.alloc _).drewN _,HNO2.o⟩
     | true=>
      have a2:(((b0.toNat &&& 240:Nat):Int) != 224)=false:=by
       have hld':(b0.toNat &&& 240 == 224)=true:=hld;have e':b0.toNat &&& 240=224:=by simpa using hld'
       rw[e'];rfl
      have a3:bits .andNot .u8 (b0.toNat:Int) 240=((vB 2 b0:Nat):Int):=iN 2 (by omega) b0 hld;have hb:=jL 2 (by omega) b0 hld;have HIT:Hid (mB (b0 :: l)=tD 2 b0 l):=lh (mL (by omega) hlb hld HNO.o)
      have hbd:(vB 2 b0+1) * 64 ^ 2<=2097152:=by
       obtain⟨q0,q1,q2,q3⟩:=hb
       show(vB 2 b0+1) * 4096<=2097152
       omega
      have HBD:=lh hbd;have hh:vB 2 b0 < 128:=hb.1;clear hld hb hbd;obtain⟨h0,hh0⟩:∃ h0,vB 2 b0=h0:=⟨_,rfl⟩;rw[hh0] at a3 hh HBD;have HH0:=lh hh0;clear hh0;have hc1:¬ c=1:=by omega
      go_wp2_with fail
      go_quiet (fail)
      generalize nq=q1 at *;go_wp2_with fail
      go_quiet (fail)
      have hl0:=HF.o.size;go_wp2_with fail;have HFX:Hid (Fr [] w ((wr.alloc (.cells #[.int .u8 240,.int .u8 224,.int .i32 2048] 217)).drewN (q1+nq))):=lh ((HF.o.alloc _).drewN _);have hx2:((wr.alloc (.cells #[.int .u8 240,.int .u8 224,.int .i32 2048] 217)).drewN (q1+nq)).cell? ⟨wr.heap.size,2,none⟩=some (.int .i32 2048):=((Blk.new wr 217 [.int .u8 240,.int .u8 224,.int .i32 2048]).drewN (q1+nq)).at_ (i:=2) rfl;generalize hW5:(wr.alloc (.cells #[.int .u8 240,.int .u8 224,.int .i32 2048] 217)).drewN (q1+nq)=w5 at *;clear hW5;obtain⟨xb,hxb⟩:=nm (wr.heap.size);rw[<- hxb] at hx2 ⊢;clear hxb
      go_loopg [6,41] 2 (aBs w5 h0 2 l)
      case atStart=>exact⟨0,h0,by omega,rfl,by go_num,rfl,rfl,HBD.o⟩
      case round=>
       obtain⟨i,r,hi,rfl,rfl,rfl,ht,hrb⟩:=hrel;have HT:=lh ht;clear ht;clear ix a1 cb glt a2 a3
       by_cases hik:i < 2
       ·skip
        obtain⟨gk',rfl⟩:∃ gk',gk=gk'+1:=⟨gk - 1,by omega⟩;obtain⟨u,hu⟩:∃ u,l[i]? = some u:=gx (by omega);have HDU:Hid ((l.take 2).drop i=u :: (l.take 2).drop (i+1)):=lh (xA (by rw[List.getElem?_take,if_pos hik];exact hu));have cu:=HBJ.o w5 HFX.o i u hu;obtain⟨hr,hrs⟩:=mW hrb;have HRS:=lh hrs;have b1:bits .and .u8 (u.toNat:Int) 192=((u.toNat &&& 192:Nat):Int):=jK u.toNat 192 u.toNat_lt (by omega);obtain⟨um,hum0⟩:∃ um,um=u.toNat % 64:=⟨_,rfl⟩;have b2:bits .and .u8 (u.toNat:Int) 63=(um:Int):=by rw[hum0,<- aAn];exact jK u.toNat 63 u.toNat_lt (by omega)
        have hum:um < 64:=by rw[hum0];exact Nat.mod_lt _ (by omega)
        have HUM:=lh hum0;have b3:=aAo r um (by omega) hum;have d0:decide ((i:Int) < 2)=true:=dT (by omega)
        clear hu hrs hrb hum0
        cases hcu:jP u with
        | true=>
         have b4:(((u.toNat &&& 192:Nat):Int) != 128)=false:=by
          rw[sK] at hcu;have e:u.toNat &&& 192=128:=by simpa using hcu
          rw[e];rfl
         have HT2:Hid (fD h0 (l.take 2)=fD (r * 64+um) ((l.take 2).drop (i+1))):=lh (by rw[HT.o,HDU.o,fD,if_pos hcu,HUM.o]);clear hcu;go_wp2_with fail
         go_roundg gk'
         case measure=>omega
         case rel=>exact⟨i+1,r * 64+um,by omega,by go_num,by go_num,rfl,HT2.o,HRS.o um hum⟩
        | false=>
         have b4:(((u.toNat &&& 192:Nat):Int) != 128)=true:=by
          rw[sK] at hcu;rw[bne_iff_ne];intro e;have e':u.toNat &&& 192=128:=by omega
          rw[e'] at hcu
          cases hcu
         have HT2:Hid (fD h0 (l.take 2)=none):=lh (by rw[HT.o,HDU.o,fD,if_neg (by rw[hcu];simp)]);have HV:Hid (tC (b0 :: l)=.tuple #[.int .i32 0,.int .i64 0]):=lh (by unfold tC;rw[HIT.o];unfold tD;rw[HH0.o,HT2.o]);clear hcu;go_wp2_with fail;exact HQ.o _ _ ⟨by rw[HV.o];rfl,HFX.o⟩
       ·obtain rfl:i=2:=by omega
        obtain rfl:gk=0:=by omega
        have HTR:Hid (fD h0 (l.take 2)=some r):=lh (by rw[HT.o,List.drop_eq_nil_of_le (by rw[List.length_take];omega)];rfl);have hr:r < 2097152:=by rw[Nat.pow_zero] at hrb;omega
        rw[show((2:Nat):Int)=2 from rfl];clear hik hi hrb
        by_cases hle:(r:Int) < 2048
        ·skip
         have d1:decide ((r:Int) < 2048)=true:=by rw[decide_eq_true_eq];exact hle
         have HV:Hid (tC (b0 :: l)=.tuple #[.int .i32 0,.int .i64 0]):=lh (by unfold tC;rw[HIT.o];unfold tD;rw[HH0.o,HTR.o];simp only;rw[if_pos (.inl hle)]);go_wp2_with fail;exact HQ.o _ _ ⟨by rw[HV.o];rfl,HFX.o⟩
        ·have HLE:=lh hle;have d1:decide ((r:Int) < 2048)=false:=by rw[decide_eq_false_iff_not];exact hle
         go_wp2_with fail;refine(zH _ _).mono ?_;rintro e w6 ⟨rfl,rfl⟩
         cases hso:lB (r:Int) with
         | true=>
          have HV:Hid (tC (b0 :: l)=.tuple #[.int .i32 (r:Int),.int .i64 (2+1)]):=lh (by unfold tC;rw[HIT.o];unfold tD;rw[HH0.o,HTR.o];simp only;rw[if_neg (by rw[hso];simp only[Bool.true_eq_false,or_false];exact Int.not_lt.2 HLE.o)];rfl);clear hso;go_wp2_with fail;exact HQ.o _ _ ⟨by rw[HV.o];rfl,HFX.o⟩
         | false=>
          have HV:Hid (tC (b0 :: l)=.tuple #[.int .i32 0,.int .i64 0]):=lh (by unfold tC;rw[HIT.o];unfold tD;rw[HH0.o,HTR.o];simp only;rw[if_pos (.inr hso)]);clear hso;go_wp2_with fail;exact HQ.o _ _ ⟨by rw[HV.o];rfl,HFX.o⟩
   ·by_cases hlen:n<=3
    ·have t2:(n:Int)<=3:=by omega
     have ix:∀ W:World,(Instr.index 218 (.agg qB.toArray) (.int .i64 3)).run Tryz.prog W=.ok (.agg #[.int .u8 248,.int .u8 240,.int .i32 65536]) W:=fun _=>by kernel_rfl
     unfold qB at ix ⊢;rw[show((3:Nat):Int)=3 from rfl]
     have HNO2:Hid (∀ i,i < 3+1 -> ¬ qH (b0 :: l) i):=lh fun i hi hs=>by
      by_cases hik:i=3
      ·subst hik;obtain⟨b0',l',hb,h1,_⟩:=hs;exact lL hb h1 (by omega)
      ·exact HNO.o i (by omega) hs
     go_wp2_with fail
     go_quiet (fail)
     go_wp2_with fail
     go_roundg (3 - 3)
     case measure=>omega
     case rel=>exact⟨3+1,by omega,by go_num,(HF.o.alloc _).drewN _,HNO2.o⟩
    ·have t1:decide ((n:Int)<=3)=false:=dF (by omega)
     have t2:¬ (n:Int)<=3:=by omega
     have hlb:3<=l.length:=by omega
     have ix:∀ W:World,(Instr.index 218 (.agg qB.toArray) (.int .i64 3)).run Tryz.prog W=.ok (.agg #[.int .u8 248,.int .u8 240,.int .i32 65536]) W:=fun _=>by kernel_rfl
     unfold qB at ix ⊢;rw[show((3:Nat):Int)=3 from rfl];have a1:bits .and .u8 (b0.toNat:Int) 248=((b0.toNat &&& 248:Nat):Int):=jK b0.toNat 248 b0.toNat_lt (by omega);have cb:wr.cell? ⟨g,off,none⟩=some (.int .u8 (b0.toNat:Int)):=HB0.o wr HF.o;have glt:g < wr.heap.size:=World.block_lt_of_cell? wr _ cb
     cases hld:xC 3 b0 with
     | false=>
      have a2:(((b0.toNat &&& 248:Nat):Int) != 240)=true:=by
       have hld':(b0.toNat &&& 248 == 240)=false:=hld;rw[bne_iff_ne];intro e;have e':b0.toNat &&& 248=240:=by omega
       rw[e'] at hld'
       cases hld'
      have HNO2:Hid (∀ i,i < 3+1 -> ¬ qH (b0 :: l) i):=lh fun i hi hs=>by
       by_cases hik:i=3
       ·subst hik;obtain⟨b0',l',hb,h1,h2⟩:=hs;injection hb with hb1 hb2;subst hb1;rw[hld] at h2;cases h2
       ·exact HNO.o i (by omega) hs
      clear hld;go_wp2_with fail
      go_quiet (fail)
      go_wp2_with fail
      go_roundg (3 - 3)
      case measure=>omega
      case rel=>exact⟨3+1,by omega,by go_num,(HF.o.alloc _).drewN _,HNO2.o⟩
     | true=>
      have a2:(((b0.toNat &&& 248:Nat):Int) != 240)=false:=by
       have hld':(b0.toNat &&& 248 == 240)=true:=hld;have e':b0.toNat &&& 248=240:=by simpa using hld'
       rw[e'];rfl
      have a3:bits .andNot .u8 (b0.toNat:Int) 248=((vB 3 b0:Nat):Int):=iN 3 (by omega) b0 hld;have hb:=jL 3 (by omega) b0 hld;have HIT:Hid (mB (b0 :: l)=tD 3 b0 l):=lh (mL (by omega) hlb hld HNO.o)
      have hbd:(vB 3 b0+1) * 64 ^ 3<=2097152:=by
       obtain⟨q0,q1,q2,q3⟩:=hb
       show(vB 3 b0+1) * 262144<=2097152
       omega
      have HBD:=lh hbd;have hh:vB 3 b0 < 128:=hb.1;clear hld hb hbd;obtain⟨h0,hh0⟩:∃ h0,vB 3 b0=h0:=⟨_,rfl⟩;rw[hh0] at a3 hh HBD;have HH0:=lh hh0;clear hh0;have hc1:¬ c=1:=by omega
      go_wp2_with fail
      go_quiet (fail)
      generalize nq=q1 at *;go_wp2_with fail
      go_quiet (fail)
      have hl0:=HF.o.size;go_wp2_with fail;have HFX:Hid (Fr [] w ((wr.alloc (.cells #[.int .u8 248,.int .u8 240,.int .i32 65536] 217)).drewN (q1+nq))):=lh ((HF.o.alloc _).drewN _);have hx2:((wr.alloc (.cells #[.int .u8 248,.int .u8 240,.int .i32 65536] 217)).drewN (q1+nq)).cell? ⟨wr.heap.size,2,none⟩=some (.int .i32 65536):=((Blk.new wr 217 [.int .u8 248,.int .u8 240,.int .i32 65536]).drewN (q1+nq)).at_ (i:=2) rfl;generalize hW5:(wr.alloc (.cells #[.int .u8 248,.int .u8 240,.int .i32 65536] 217)).drewN (q1+nq)=w5 at *;clear hW5;obtain⟨xb,hxb⟩:=nm (wr.heap.size);rw[<- hxb] at hx2 ⊢;clear hxb
      go_loopg [6,41] 3 (aBs w5 h0 3 l)
      case atStart=>exact⟨0,h0,by omega,rfl,by go_num,rfl,rfl,HBD.o⟩
      case round=>
       obtain⟨i,r,hi,rfl,rfl,rfl,ht,hrb⟩:=hrel;have HT:=lh ht;clear ht;clear ix a1 cb glt a2 a3
       by_cases hik:i < 3
       ·skip
        obtain⟨gk',rfl⟩:∃ gk',gk=gk'+1:=⟨gk - 1,by omega⟩;obtain⟨u,hu⟩:∃ u,l[i]? = some u:=gx (by omega);have HDU:Hid ((l.take 3).drop i=u :: (l.take 3).drop (i+1)):=lh (xA (by rw[List.getElem?_take,if_pos hik];exact hu));have cu:=HBJ.o w5 HFX.o i u hu;obtain⟨hr,hrs⟩:=mW hrb;have HRS:=lh hrs;have b1:bits .and .u8 (u.toNat:Int) 192=((u.toNat &&& 192:Nat):Int):=jK u.toNat 192 u.toNat_lt (by omega);obtain⟨um,hum0⟩:∃ um,um=u.toNat % 64:=⟨_,rfl⟩;have b2:bits .and .u8 (u.toNat:Int) 63=(um:Int):=by rw[hum0,<- aAn];exact jK u.toNat 63 u.toNat_lt (by omega)
        have hum:um < 64:=by rw[hum0];exact Nat.mod_lt _ (by omega)
        have HUM:=lh hum0;have b3:=aAo r um (by omega) hum;have d0:decide ((i:Int) < 3)=true:=dT (by omega)
        clear hu hrs hrb hum0
        cases hcu:jP u with
        | true=>
         have b4:(((u.toNat &&& 192:Nat):Int) != 128)=false:=by
          rw[sK] at hcu;have e:u.toNat &&& 192=128:=by simpa using hcu
          rw[e];rfl
         have HT2:Hid (fD h0 (l.take 3)=fD (r * 64+um) ((l.take 3).drop (i+1))):=lh (by rw[HT.o,HDU.o,fD,if_pos hcu,HUM.o]);clear hcu;go_wp2_with fail
         go_roundg gk'
         case measure=>omega
         case rel=>exact⟨i+1,r * 64+um,by omega,by go_num,by go_num,rfl,HT2.o,HRS.o um hum⟩
        | false=>
         have b4:(((u.toNat &&& 192:Nat):Int) != 128)=true:=by
          rw[sK] at hcu;rw[bne_iff_ne];intro e;have e':u.toNat &&& 192=128:=by omega
          rw[e'] at hcu
          cases hcu
         have HT2:Hid (fD h0 (l.take 3)=none):=lh (by rw[HT.o,HDU.o,fD,if_neg (by rw[hcu];simp)]);have HV:Hid (tC (b0 :: l)=.tuple #[.int .i32 0,.int .i64 0]):=lh (by unfold tC;rw[HIT.o];unfold tD;rw[HH0.o,HT2.o]);clear hcu;go_wp2_with fail;exact HQ.o _ _ ⟨by rw[HV.o];rfl,HFX.o⟩
       ·obtain rfl:i=3:=by omega
        obtain rfl:gk=0:=by omega
        have HTR:Hid (fD h0 (l.take 3)=some r):=lh (by rw[HT.o,List.drop_eq_nil_of_le (by rw[List.length_take];omega)];rfl);have hr:r < 2097152:=by rw[Nat.pow_zero] at hrb;omega
        rw[show((3:Nat):Int)=3 from rfl];clear hik hi hrb
        by_cases hle:(r:Int) < 65536
        ·skip
         have d1:decide ((r:Int) < 65536)=true:=by rw[decide_eq_true_eq];exact hle
         have HV:Hid (tC (b0 :: l)=.tuple #[.int .i32 0,.int .i64 0]):=lh (by unfold tC;rw[HIT.o];unfold tD;rw[HH0.o,HTR.o];simp only;rw[if_pos (.inl hle)]);go_wp2_with fail;exact HQ.o _ _ ⟨by rw[HV.o];rfl,HFX.o⟩
        ·have HLE:=lh hle;have d1:decide ((r:Int) < 65536)=false:=by rw[decide_eq_false_iff_not];exact hle
         go_wp2_with fail;refine(zH _ _).mono ?_;rintro e w6 ⟨rfl,rfl⟩
         cases hso:lB (r:Int) with
         | true=>
          have HV:Hid (tC (b0 :: l)=.tuple #[.int .i32 (r:Int),.int .i64 (3+1)]):=lh (by unfold tC;rw[HIT.o];unfold tD;rw[HH0.o,HTR.o];simp only;rw[if_neg (by rw[hso];simp only[Bool.true_eq_false,or_false];exact Int.not_lt.2 HLE.o)];rfl);clear hso;go_wp2_with fail;exact HQ.o _ _ ⟨by rw[HV.o];rfl,HFX.o⟩
         | false=>
          have HV:Hid (tC (b0 :: l)=.tuple #[.int .i32 0,.int .i64 0]):=lh (by unfold tC;rw[HIT.o];unfold tD;rw[HH0.o,HTR.o];simp only;rw[if_pos (.inr hso)]);clear hso;go_wp2_with fail;exact HQ.o _ _ ⟨by rw[HV.o];rfl,HFX.o⟩
theorem wX {w:World} {A:Option Addr} {n c:Nat} {bs:List UInt8} {g:Nat} (hv:pB w (.slice A n c) bs g) (hc:c<=9223372036854775807):RV 147 #[.slice A n c] w (tC bs):=by
 obtain⟨A',c',off,hv',hl,hb⟩:=hv;injection hv' with h1 h2 h3;subst h1 h2 h3
 match bs,hb with
 | [],_=>exact aCY
 | b0 :: l,hb=>
  obtain⟨rfl,h⟩:=hb (by simp);refine aBW (by simp) hl hc fun j u hu=>h j (B8 u) ?_;rw[iJ,hu];rfl
structure Dcm where
 neg:Bool
 digits:List UInt8
 exp:Int
 deriving DecidableEq
def Dcm.zero:Dcm:=⟨false,[],0⟩
def yA (c:UInt8):Bool:=decide (48<=c.toNat/\c.toNat<=57)
def Dcm.high (d:Dcm):Int:=d.digits.length+d.exp
def Dcm.sane (d:Dcm):Bool:=
 if d.digits=[] then decide (d.neg=false/\d.exp=0)
 else decide (d.digits.length<=40) && d.digits.all yA && decide (-400<=d.high/\d.high<=400) && decide (d.digits.head? ≠ some 48) && decide (d.digits.getLast? ≠ some 48)
def uC (p:UInt8 -> Bool) (l:List UInt8):List UInt8:=(l.reverse.dropWhile p).reverse
def qC (c:UInt8):Bool:=c.toNat == 48
def mG (neg:Bool) (digits:List UInt8) (exp:Int):Except Int Dcm:=
 let d:=digits.dropWhile qC
 let t:=uC qC d
 if t=[] then .ok .zero
 else if Dcm.sane ⟨neg,t,exp+d.length - t.length⟩ then .ok ⟨neg,t,exp+d.length - t.length⟩ else .error 4
def dG (l:List UInt8):Nat:=l.foldl (fun n c=>min (n * 10+(c.toNat - 48)) 1000000) 0
def eB (c:UInt8):Bool:=c.toNat == 101 || c.toNat == 69
def jA (c:UInt8) (l:List UInt8):Bool:=l.head? == some c
def rI (l:List UInt8):Int × List UInt8 × Bool:=
 match l with
 | []=>(0,[],true)
 | c :: cs=>
  if eB c then
   let m:=jA 45 cs
   let r:=if m || jA 43 cs then cs.drop 1 else cs
   let n:=(dG (r.takeWhile yA):Int)
   (if m then -n else n,r.dropWhile yA,!(r.takeWhile yA).isEmpty)
  else (0,c :: cs,true)
def fE (s:List UInt8):Except Int Dcm:=
 if 1000 < s.length then .error 4
 else
  let neg:=jA 45 s
  let s1:=if neg then s.drop 1 else s
  let whole:=s1.takeWhile yA
  let r1:=s1.dropWhile yA
  let point:=jA 46 r1
  let part:=if point then (r1.drop 1).takeWhile yA else []
  let r2:=if point then (r1.drop 1).dropWhile yA else r1
  let x:=rI r2
  if !x.2.2 || !x.2.1.isEmpty || whole.isEmpty || (decide (1 < whole.length) && jA 48 whole) || (point && part.isEmpty) then .error 2
  else mG neg (whole ++ part) (x.1 - part.length)
structure Tkn where
 kind:Nat
 s:List UInt8
 n:Dcm
 frm:Nat
 til:Nat
 deriving DecidableEq
def Tkn.zero:Tkn:=⟨0,[],.zero,0,0⟩
def lD (c:UInt8):Bool:=c.toNat == 9 || c.toNat == 10 || c.toNat == 13 || c.toNat == 32
def zI (c:UInt8):Bool:=decide (97<=c.toNat/\c.toNat<=122) || decide (65<=c.toNat/\c.toNat<=90) || c.toNat == 95 || decide (127 < c.toNat)
def nB (c:UInt8):Bool:=zI c || yA c
def jE:Nat -> List UInt8 -> Bool
 | 0,l=>l.isEmpty
 | n+1,l=>match l with
  | []=>true
  | c :: cs=>match mB (c :: cs) with
   | none=>false
   | some (_,k)=>jE n ((c :: cs).drop k)
def sI (l:List UInt8):Bool:=jE l.length l
def gG:Option UInt8 -> Bool
 | none=>true
 | some b=>eB b
def vF:List UInt8 -> Bool
 | []=>false
 | d :: _=>yA d
def vA:Option UInt8 -> List UInt8 -> Nat
 | _,[]=>0
 | p,c :: cs=>
  if yA c || eB c || ((c.toNat == 43 || c.toNat == 45) && gG p) || (c.toNat == 46 && !jA 46 cs) then vA (some c) cs+1 else 0
def aJ (c:UInt8):Option Nat:=
 if 48<=c.toNat/\c.toNat<=57 then some (c.toNat - 48)
 else if 97<=c.toNat/\c.toNat<=102 then some (c.toNat - 87)
 else if 65<=c.toNat/\c.toNat<=70 then some (c.toNat - 55) else none
def yG:Nat -> List UInt8 -> Option Nat
 | v,[]=>some v
 | v,c :: cs=>match aJ c with | none=>none | some d=>yG (v * 16+d) cs
def oD (l:List UInt8):Option Nat:=if 5<=l.length/\jA 117 l=true then yG 0 ((l.drop 1).take 4) else none
def aH (l:List UInt8):Option (Nat × Nat):=
 match l with
 | []=>none
 | c :: _=>
  if c.toNat=34 ∨ c.toNat=47 ∨ c.toNat=92 then some (c.toNat,1)
  else if c.toNat=98 then some (8,1)
  else if c.toNat=116 then some (9,1)
  else if c.toNat=110 then some (10,1)
  else if c.toNat=102 then some (12,1)
  else if c.toNat=114 then some (13,1)
  else match oD l with
   | none=>none
   | some v=>
    if lB (v:Int)=true then some (v,5)
    else if v<=56319/\11<=l.length/\jA 92 (l.drop 5)=true then
     match oD (l.drop 6) with
     | none=>none
     | some x=>if 56320<=x/\x<=57343 then some (65536+(v - 55296) * 1024+(x - 56320),11) else none
    else none
def lI (q:UInt8) (l:List UInt8):Option (Nat × Nat):=
 if jA q l=true then some (q.toNat,1) else if jA 34 l=true then none else aH l
def vC (r:Nat):List UInt8:=
 if r < 128 then [UInt8.ofNat r]
 else if r < 2048 then [UInt8.ofNat (192+r / 64),UInt8.ofNat (128+r % 64)]
 else if r < 65536 then [UInt8.ofNat (224+r / 4096),UInt8.ofNat (128+r / 64 % 64),UInt8.ofNat (128+r % 64)]
 else [UInt8.ofNat (240+r / 262144),UInt8.ofNat (128+r / 4096 % 64),UInt8.ofNat (128+r / 64 % 64),UInt8.ofNat (128+r % 64)]
def vI (q:UInt8) (l:List UInt8):Option (Nat × Nat):=
 match mB l with
 | none=>none
 | some (r,n)=>
  if r=92 then match lI q (l.drop 1) with | none=>none | some (r',n')=>some (r',n'+1)
  else if r < 32 then none else some (r,n)
def uD:Nat -> UInt8 -> List UInt8 -> Option (List UInt8 × Nat)
 | 0,_,_=>none
 | n+1,q,l=>match l with
  | []=>none
  | b :: bs=>if b=q then some ([],1)
   else match vI q (b :: bs) with
    | none=>none
    | some (r,k)=>match uD n q ((b :: bs).drop k) with
     | none=>none
     | some (o,m)=>some (vC r ++ o,k+m)
def rH (l:List UInt8):Option (List UInt8 × Nat):=match l with
 | []=>none
 | q :: cs=>match uD (cs.length+1) q cs with | none=>none | some (o,m)=>some (o,m+1)
def nL:List (List UInt8):=[[46,46],[61,61],[33,61],[60,61],[62,61],[38,38],[124,124],[58,61]]
def oR (c:UInt8):Bool:=[36,64,46,44,58,59,63,42,91,93,40,41,123,125,60,62,33,61,43,45].contains c.toNat
def kF (l:List UInt8):Nat:=if nL.any (fun x=>x.isPrefixOf l) then 2 else match l with | []=>0 | c :: _=>if oR c then 1 else 0
def zB (l:List UInt8):Except Int (Nat × List UInt8 × Dcm × Nat):=
 match l with
 | []=>.error 2
 | c :: cs=>
  if zI c then
   if sI (l.takeWhile nB) then .ok (1,l.takeWhile nB,.zero,(l.takeWhile nB).length) else .error 2
  else if yA c || (c.toNat == 45 && vF cs) then
   match fE (l.take (vA none l)) with
   | .error e=>.error e
   | .ok d=>.ok (3,[],d,vA none l)
  else if c.toNat == 39 || c.toNat == 34 then
   match rH l with
   | none=>.error 2
   | some (o,m)=>.ok (2,o,.zero,m)
  else if kF l=0 then .error 2 else .ok (4,l.take (kF l),.zero,kF l)
def vE (at_:Nat) (l:List UInt8):Except Int Tkn:=
 let r:=l.dropWhile lD
 let frm:=at_+(l.length - r.length)
 match r with
 | []=>.ok ⟨0,[],.zero,frm,frm⟩
 | _ :: _=>match zB r with
  | .error e=>.error e
  | .ok (k,s,n,m)=>.ok ⟨k,s,n,frm,frm+m⟩
def aC:Nat -> Nat -> List UInt8 -> Except Int (List Tkn)
 | 0,_,_=>.error 2
 | n+1,at_,l=>match vE at_ l with
  | .error e=>.error e
  | .ok t=>if t.kind=0 then .ok [] else match aC n t.til (l.drop (t.til - at_)) with
   | .error e=>.error e
   | .ok ts=>.ok (t :: ts)
def rC (s:List UInt8):Except Int (List Tkn):=if 8192 < s.length then .error 4 else aC (s.length+1) 0 s
inductive Cl where
 | leaf (v:Value)
 | rows (k:Nat) (l:List (List Cl))
structure Vlu where
 kind:Int
 b:Bool
 n:Dcm
 s:List UInt8
 l:Cl
 m:Cl
def Vlu.null:Vlu:=⟨0,false,.zero,[],.rows 8 [],.rows 9 []⟩
mutual
inductive Qry where
 | mk (rel:Bool) (l:List Sgm)
inductive Sgm where
 | mk (deep:Bool) (l:List Slr)
inductive Slr where
 | mk (what:Int) (name:List UInt8) (at_:Int) (has:Bool × Bool × Bool) (s:Int × Int × Int) (f:List Xpr)
inductive Xpr where
 | mk (what:Int) (l:List Xpr) (op:List UInt8) (q:Qry) (v:Vlu)
end
def Qry.rel:Qry -> Bool | .mk r _=>r
def Qry.l:Qry -> List Sgm | .mk _ l=>l
def Sgm.deep:Sgm -> Bool | .mk d _=>d
def Sgm.l:Sgm -> List Slr | .mk _ l=>l
def Slr.what:Slr -> Int | .mk x _ _ _ _ _=>x
def Slr.name:Slr -> List UInt8 | .mk _ x _ _ _ _=>x
def Slr.at_:Slr -> Int | .mk _ _ x _ _ _=>x
def Slr.has:Slr -> Bool × Bool × Bool | .mk _ _ _ x _ _=>x
def Slr.s:Slr -> Int × Int × Int | .mk _ _ _ _ x _=>x
def Slr.f:Slr -> List Xpr | .mk _ _ _ _ _ x=>x
def Xpr.what:Xpr -> Int | .mk x _ _ _ _=>x
def Xpr.l:Xpr -> List Xpr | .mk _ x _ _ _=>x
def Xpr.op:Xpr -> List UInt8 | .mk _ _ x _ _=>x
def Xpr.q:Xpr -> Qry | .mk _ _ _ x _=>x
def Xpr.v:Xpr -> Vlu | .mk _ _ _ _ x=>x
def Qry.zero:Qry:=.mk false []
def Slr.of (what:Int):Slr:=.mk what [] 0 (false,false,false) (0,0,0) []
def Slr.ofName (s:List UInt8):Slr:=.mk 1 s 0 (false,false,false) (0,0,0) []
def Slr.ofAt (n:Int):Slr:=.mk 3 [] n (false,false,false) (0,0,0) []
def Slr.ofExpr (e:Xpr):Slr:=.mk 5 [] 0 (false,false,false) (0,0,0) [e]
def Slr.ofSlice (h:Bool × Bool × Bool) (s:Int × Int × Int):Slr:=.mk 4 [] 0 h s []
def Xpr.of (what:Int) (l:List Xpr) (op:List UInt8):Xpr:=.mk what l op .zero .null
def Xpr.lit (v:Vlu):Xpr:=.mk 5 [] [] .zero v
def Xpr.path (q:Qry):Xpr:=.mk 6 [] [] q .null
def Xpr.many (what:Int) (l:List Xpr):Xpr:=match l with
 | [e]=>e
 | l=>.of what l []
structure QS where
 l:List Tkn
 most:Int
abbrev Rd (α:Type):=QS -> Option (α × QS)
def QS.peek (s:QS):Tkn:=match s.l with | []=>.zero | t :: _=>t
def QS.next (s:QS) (x:List UInt8):Bool:=s.peek.kind == 4 && s.peek.s == x
def QS.go (s:QS):QS:=⟨s.l.drop 1,s.most⟩
def cK (l:List UInt8):Nat:=l.foldl (fun n c=>n * 10+(c.toNat - 48)) 0
def yD (l:List UInt8):List UInt8:=if jA 45 l=true then l.drop 1 else l
def vS (neg:Bool) (d:List UInt8):Prop:=d=[] ∨ 16 < d.length ∨ d.all yA=false ∨ (1 < d.length/\jA 48 d=true) ∨ (neg=true/\d=[48])
instance (neg:Bool) (d:List UInt8):Decidable (vS neg d):=by unfold vS;exact inferInstance
def lF (l:List UInt8):Option Int:=
 if vS (jA 45 l) (yD l) then none
 else if 9007199254740991 < cK (yD l) then none
 else some (if jA 45 l=true then -(cK (yD l):Int) else (cK (yD l):Int))
section
variable (txt : List UInt8)
def nA (s:QS):Int × Bool × QS:=
 if s.peek.kind=3 then
  match lF ((txt.drop s.peek.frm).take (s.peek.til - s.peek.frm)) with
  | none=>(0,false,s)
  | some n=>(n,true,s.go)
 else (0,false,s)
def rB {α:Type} (x:List UInt8) (item:Rd α):Nat -> Rd (List α)
 | 0,_=>none
 | n+1,s=>match item s with
  | none=>none
  | some (a,s)=>if s.next x=true then
    match rB x item n s.go with
    | none=>none
    | some (l,s)=>some (a :: l,s)
   else some ([a],s)
def eC {α:Type} (x:List UInt8) (item:Rd α) (s:QS):Option (List α × QS):=rB x item (s.l.length+1) s
def gF {α:Type} (x:List UInt8) (a:α) (s:QS):Option (α × QS):=if s.next x=true then some (a,s.go) else none
def kE (n:Int) (has:Bool) (s:QS):Option (Slr × QS):=
 if s.next [58]=true then
  let a:=nA txt s.go
  if a.2.2.next [58]=true then
   let b:=nA txt a.2.2.go
   some (.ofSlice (has,a.2.1,b.2.1) (n,a.1,b.1),b.2.2)
  else some (.ofSlice (has,a.2.1,false) (n,a.1,0),a.2.2)
 else none
def uG (E:Int -> Rd Xpr) (deep:Int) (s:QS):Option (Slr × QS):=
 if s.peek.kind=2 then some (.ofName s.peek.s,s.go)
 else if s.next [42]=true then some (.of 2,s.go)
 else if s.next [63]=true then
  match E (deep+1) ⟨s.go.l,max s.most (deep+1)⟩ with
  | none=>none
  | some (e,s)=>some (.ofExpr e,s)
 else
  let a:=nA txt s
  if a.2.2.next [58]=true then kE txt a.1 a.2.1 a.2.2
  else if a.2.1=true then some (.ofAt a.1,a.2.2) else none
def xB (s:QS):Option (Slr × QS):=
 if s.next [42]=true then some (.of 2,s.go)
 else match s.l with
  | []=>none
  | t :: _=>if t.kind=1 then some (.ofName t.s,s.go) else none
def kB (E:Int -> Rd Xpr) (deep:Int) (s:QS):Option (List Slr × QS):=
 match eC [44] (uG txt E deep) s with
 | none=>none
 | some (l,s)=>gF [93] l s
def dD (E:Int -> Rd Xpr) (deep:Int):Nat -> Rd (List Sgm)
 | 0,_=>none
 | n+1,s=>
  let d:=s.next [46,46]
  let s1:=if d=true then s.go else s
  let one (r:Option (List Slr × QS)):Option (List Sgm × QS):=match r with
   | none=>none
   | some (l,s)=>match dD E deep n s with
    | none=>none
    | some (m,s)=>some (.mk d l :: m,s)
  if s1.next [91]=true then one (kB txt E deep s1.go)
  else if d=true then one (match xB s1 with | none=>none | some (x,s)=>some ([x],s))
  else if s1.next [46]=true then one (match xB s1.go with | none=>none | some (x,s)=>some ([x],s))
  else some ([],s1)
def pD (E:Int -> Rd Xpr) (deep:Int) (rel:Bool) (s:QS):Option (Qry × QS):=
 match dD txt E deep (s.l.length+1) s with
 | none=>none
 | some (l,s)=>some (.mk rel l,s)
def iM:List UInt8:=[110,117,108,108]
def cM:List UInt8:=[116,114,117,101]
def oJ:List UInt8:=[102,97,108,115,101]
def sH:List UInt8:=[108,101,110,103,116,104]
def nG:List UInt8:=[99,111,117,110,116]
def oG:List UInt8:=[118,97,108,117,101]
def kK:List UInt8:=[109,97,116,99,104]
def iI:List UInt8:=[115,101,97,114,99,104]
def pJ:List (List UInt8):=[sH,nG,oG,kK,iI]
def oO:List (List UInt8):=[[61,61],[33,61],[60,61],[62,61],[60],[62]]
def wE (S:Int -> Rd Xpr) (deep:Int) (x:List UInt8) (s:QS):Option (Xpr × QS):=
 if x=iM then some (.lit .null,s)
 else if x=cM ∨ x=oJ then some (.lit { Vlu.null with kind:=1,b:=decide (x=cM) },s)
 else if x ∈ pJ/\s.next [40]=true then
  let s1:QS:=⟨s.go.l,max s.most (deep+1)⟩
  if s1.next [41]=true then some (.of 7 [] x,s1.go)
  else match eC [44] (S (deep+1)) s1 with
   | none=>none
   | some (l,s)=>gF [41] (.of 7 l x) s
 else none
def qA (E S:Int -> Rd Xpr) (deep:Int) (s:QS):Option (Xpr × QS):=
 match s.l with
 | []=>none
 | t :: _=>
  if t.kind=3 then some (.lit { Vlu.null with kind:=2,n:=t.n },s.go)
  else if t.kind=2 then some (.lit { Vlu.null with kind:=3,s:=t.s },s.go)
  else if t.kind=1 then wE S deep t.s s.go
  else if t.s=[36] ∨ t.s=[64] then
   match pD txt E deep (decide (t.s=[64])) s.go with
   | none=>none
   | some (q,s)=>some (.path q,s)
  else none
def bD (E:Int -> Rd Xpr) (deep:Int) (s:QS):Option (Xpr × QS):=
 match E (deep+1) ⟨s.l,max s.most (deep+1)⟩ with
 | none=>none
 | some (e,s)=>gF [41] e s
def lK (E S:Int -> Rd Xpr) (deep:Int) (s:QS):Option (Xpr × QS):=
 if s.next [40]=true then
  match bD E deep s.go with
  | none=>none
  | some (e,s)=>some (.of 3 [e] [],s)
 else match qA txt E S deep s with
  | none=>none
  | some (e,s)=>if e.what=6 ∨ e.what=7 then some (.of 3 [e] [],s) else none
def yC (E S:Int -> Rd Xpr) (deep:Int) (s:QS):Option (Xpr × QS):=
 if s.next [33]=true then lK txt E S deep s.go
 else if s.next [40]=true then bD E deep s.go
 else match qA txt E S deep s with
  | none=>none
  | some (e,s)=>if s.peek.kind=4/\s.peek.s ∈ oO then
    match qA txt E S deep s.go with
    | none=>none
    | some (f,s1)=>some (.of 4 [e,f] s.peek.s,s1)
   else some (e,s)
def mI (E S:Int -> Rd Xpr) (deep:Int) (s:QS):Option (Xpr × QS):=
 match eC [38,38] (yC txt E S deep) s with
 | none=>none
 | some (l,s)=>some (.many 2 l,s)
def tH (E S:Int -> Rd Xpr) (deep:Int) (s:QS):Option (Xpr × QS):=
 match eC [124,124] (mI txt E S deep) s with
 | none=>none
 | some (l,s)=>some (.many 1 l,s)
def eG:Nat -> (Int -> Rd Xpr) × (Int -> Rd Xpr)
 | 0=>(fun _ _=>none,fun _ _=>none)
 | n+1=>(tH txt (eG n).1 (eG n).2,qA txt (eG n).1 (eG n).2)
def fS (l:List Tkn):Option (Qry × Int):=
 let s:QS:=⟨l,0⟩
 if s.next [36]=true then
  match pD txt (eG txt l.length).1 0 false s.go with
  | none=>none
  | some (q,s)=>if s.l=[] then some (q,s.most) else none
 else none
end
def Slr.single (x:Slr):Bool:=x.what == 1 || x.what == 3
def Sgm.single (x:Sgm):Bool:=!x.deep && (match x.l with | [s]=>s.single | _=>false)
def Qry.singular (q:Qry):Bool:=q.l.all Sgm.single
def tI (x:List UInt8):Bool:=pJ.contains x
def cB (x:List UInt8):Bool:=x == kK || x == iI
def Xpr.value (e:Xpr):Bool:=e.what == 5 || (e.what == 6 && e.q.singular) || (e.what == 7 && tI e.op && !cB e.op)
def Xpr.truth (e:Xpr):Bool:=decide (1<=e.what/\e.what<=4) || e.what == 6 || (e.what == 7 && cB e.op)
def Xpr.asked (e x:Xpr):Bool:=if e.op=nG ∨ e.op=oG then x.what == 6 else x.value
def Xpr.right (e x:Xpr):Bool:=
 if 1<=e.what/\e.what<=3 then x.truth else if e.what=4 then x.value else if e.what=7 then e.asked x else true
def Xpr.fits (e:Xpr):Bool:=e.l.all e.right && (e.what != 7 || e.l.length == (if cB e.op then 2 else 1))
mutual
def Qry.typed:Qry -> Bool
 | .mk _ l=>jN l
 termination_by structural q=>q
def jN:List Sgm -> Bool
 | []=>true
 | x :: l=>x.typed && jN l
 termination_by structural l=>l
def Sgm.typed:Sgm -> Bool
 | .mk _ l=>kN l
 termination_by structural q=>q
def kN:List Slr -> Bool
 | []=>true
 | x :: l=>x.typed && kN l
 termination_by structural l=>l
def Slr.typed:Slr -> Bool
 | .mk _ _ _ _ _ f=>dK f
 termination_by structural q=>q
def dK:List Xpr -> Bool
 | []=>true
 | x :: l=>(x.typed && x.truth) && dK l
 termination_by structural l=>l
def Xpr.typed:Xpr -> Bool
 | .mk what l op q v=>Xpr.fits (.mk what l op q v) && q.typed && lN l
 termination_by structural e=>e
def lN:List Xpr -> Bool
 | []=>true
 | x :: l=>x.typed && lN l
 termination_by structural l=>l
end
mutual
def Qry.parts:Qry -> Nat
 | .mk _ l=>kC l
 termination_by structural q=>q
def kC:List Sgm -> Nat
 | []=>0
 | x :: l=>x.parts+1+kC l
 termination_by structural l=>l
def Sgm.parts:Sgm -> Nat
 | .mk _ l=>dC l
 termination_by structural q=>q
def dC:List Slr -> Nat
 | []=>0
 | x :: l=>x.parts+1+dC l
 termination_by structural l=>l
def Slr.parts:Slr -> Nat
 | .mk _ _ _ _ _ f=>pA f
 termination_by structural q=>q
def Xpr.parts:Xpr -> Nat
 | .mk _ l _ q _=>1+q.parts+pA l
 termination_by structural e=>e
def pA:List Xpr -> Nat
 | []=>0
 | x :: l=>x.parts+pA l
 termination_by structural l=>l
end
def fC (txt:List UInt8):Except Int Qry:=
 match rC txt with
 | .error e=>.error e
 | .ok l=>match fS txt l with
  | none=>.error 2
  | some (q,most)=>
   if 32 < most then .error 3
   else if q.typed=false then .error 8
   else if 512 < q.parts then .error 4
   else .ok q
def xX (txt:List UInt8):Int:=match fC txt with | .error e=>e | .ok _=>0
def Tkn.ok (N:Nat) (t:Tkn):Prop:=t.frm < t.til/\t.til<=N/\1<=t.kind/\t.kind<=4/\(t.kind=4 -> t.s.length=1 ∨ t.s ∈ nL)
theorem mC {α:Type} (p:α -> Bool) (l:List α):(l.takeWhile p).length<=l.length:=(List.takeWhile_sublist p).length_le
theorem cE {α:Type} (p:α -> Bool) (l:List α):(l.dropWhile p).length<=l.length:=(List.dropWhile_sublist p).length_le
theorem tK:∀ (p:Option UInt8) (l:List UInt8),vA p l<=l.length
 | _,[]=>by simp[vA]
 | p,c :: cs=>by
  unfold vA;have:=tK (some c) cs
  split
  ·simp;omega
  ·simp
theorem aFc {l:List UInt8} {r k:Nat} (h:aH l=some (r,k)):1<=k/\k<=l.length:=by
 match l,h with
 | [],h=>simp[aH] at h
 | c :: cs,h=>
  unfold aH at h
  simp only at h
  have hu:∀ {m:List UInt8} {v:Nat},oD m=some v -> 5<=m.length:=fun {m v} h=>by
   unfold oD at h
   split at h
   ·rename_i h1;exact h1.1
   ·cases h
  split at h
  ·simp only[Option.some.injEq,Prod.mk.injEq] at h;simp;omega
  ·split at h
   ·simp only[Option.some.injEq,Prod.mk.injEq] at h;simp;omega
   ·split at h
    ·simp only[Option.some.injEq,Prod.mk.injEq] at h;simp;omega
    ·split at h
     ·simp only[Option.some.injEq,Prod.mk.injEq] at h;simp;omega
     ·split at h
      ·simp only[Option.some.injEq,Prod.mk.injEq] at h;simp;omega
      ·split at h
       ·simp only[Option.some.injEq,Prod.mk.injEq] at h;simp;omega
       ·split at h
        ·cases h
        ·rename_i v hv
         have h5:=hu hv
         split at h
         ·simp only[Option.some.injEq,Prod.mk.injEq] at h;omega
         ·split at h
          ·rename_i h11
           split at h
           ·cases h
           ·split at h
            ·simp only[Option.some.injEq,Prod.mk.injEq] at h;omega
            ·cases h
          ·cases h
theorem aBt {q:UInt8} {l:List UInt8} {r k:Nat} (h:lI q l=some (r,k)):1<=k/\k<=l.length:=by
 unfold lI at h
 split at h
 ·rename_i h1
  simp only[Option.some.injEq,Prod.mk.injEq] at h
  match l,h1 with
  | [],h1=>simp[jA] at h1
  | c :: cs,_=>simp;omega
 ·split at h
  ·cases h
  ·exact aFc h
theorem aCZ {q:UInt8} {l:List UInt8} {r k:Nat} (h:vI q l=some (r,k)):1<=k/\k<=l.length:=by
 unfold vI at h
 split at h
 ·cases h
 ·rename_i r1 n1 h1
  have h2:=uF h1
  split at h
  ·split at h
   ·cases h
   ·rename_i r2 n2 h3
    have h4:=aBt h3;simp only[Option.some.injEq,Prod.mk.injEq] at h;rw[List.length_drop] at h4;omega
  ·split at h
   ·cases h
   ·simp only[Option.some.injEq,Prod.mk.injEq] at h;omega
theorem yX:∀ {n:Nat} {q:UInt8} {l o:List UInt8} {m:Nat},uD n q l=some (o,m) -> 1<=m/\m<=l.length
 | 0,_,_,_,_,h=>by simp[uD] at h
 | n+1,q,[],_,_,h=>by simp[uD] at h
 | n+1,q,b :: bs,o,m,h=>by
  unfold uD at h
  simp only at h
  split at h
  ·simp only[Option.some.injEq,Prod.mk.injEq] at h;simp;omega
  ·split at h
   ·cases h
   ·rename_i r k h1
    have h2:=aCZ h1
    split at h
    ·cases h
    ·rename_i o1 m1 h3
     have h4:=yX h3;simp only[Option.some.injEq,Prod.mk.injEq] at h;rw[List.length_drop] at h4;omega
theorem wS {l o:List UInt8} {m:Nat} (h:rH l=some (o,m)):2<=m/\m<=l.length:=by
 match l,h with
 | [],h=>simp[rH] at h
 | q :: cs,h=>
  unfold rH at h
  simp only at h
  split at h
  ·cases h
  ·rename_i o1 m1 h1
   have h2:=yX h1;simp only[Option.some.injEq,Prod.mk.injEq] at h
   simp;omega
theorem jM (l:List UInt8):kF l<=l.length/\(kF l ≠ 0 -> (l.take (kF l)).length=1 ∨ l.take (kF l) ∈ nL):=by
 unfold kF
 split
 ·rename_i h
  obtain⟨x,hx,hp⟩:=List.any_eq_true.1 h;have hp':=List.isPrefixOf_iff_prefix.1 hp
  have h2:x.length=2:=by
   have hall:∀ y ∈ nL,y.length=2:=by decide
   exact hall x hx
  have h3:=hp'.length_le;refine⟨by omega,fun _=>.inr ?_⟩;have e:l.take 2=x:=by rw[<- h2];exact(List.prefix_iff_eq_take.1 hp').symm
  rw[e];exact hx
 ·match l with
  | []=>simp
  | c :: cs=>
   simp only
   split
   ·exact⟨by simp,fun _=>.inl (by simp)⟩
   ·exact⟨Nat.zero_le _,fun h=>absurd rfl h⟩
theorem zX {l s:List UInt8} {k m:Nat} {n:Dcm} (h:zB l=.ok (k,s,n,m)):1<=m/\m<=l.length/\1<=k/\k<=4/\(k=4 -> s.length=1 ∨ s ∈ nL):=by
 match l,h with
 | [],h=>simp[zB] at h
 | c :: cs,h=>
  unfold zB at h
  simp only at h
  split at h
  ·rename_i hb
   split at h
   ·simp only[Except.ok.injEq,Prod.mk.injEq] at h;obtain⟨rfl,rfl,rfl,rfl⟩:=h;refine⟨?_,mC _ _,by omega,by omega,fun h=>absurd h (by omega)⟩;have:nB c=true:=by unfold nB;rw[hb];rfl
    rw[List.takeWhile_cons,if_pos this]
    simp
   ·cases h
  ·split at h
   ·rename_i hf
    split at h
    ·cases h
    ·simp only[Except.ok.injEq,Prod.mk.injEq] at h;obtain⟨rfl,rfl,rfl,rfl⟩:=h;refine⟨?_,tK _ _,by omega,by omega,fun h=>absurd h (by omega)⟩;unfold vA;rw[if_pos]
     ·omega
     ·cases hfc:yA c
      ·rw[hfc] at hf
       simp at hf
       simp[hf.1,gG]
      ·simp
   ·split at h
    ·split at h
     ·cases h
     ·rename_i o1 m1 h1
      simp only[Except.ok.injEq,Prod.mk.injEq] at h;obtain⟨rfl,rfl,rfl,rfl⟩:=h;have:=wS h1;exact⟨by omega,this.2,by omega,by omega,fun h=>absurd h (by omega)⟩
    ·split at h
     ·cases h
     ·rename_i h0
      simp only[Except.ok.injEq,Prod.mk.injEq] at h;obtain⟨rfl,rfl,rfl,rfl⟩:=h;have:=jM (c :: cs);exact⟨by omega,this.1,by omega,by omega,fun _=>this.2 h0⟩
theorem kM {a:Nat} {l:List UInt8} {t:Tkn} (h:vE a l=.ok t):a<=t.frm/\t.til<=a+l.length/\(t.kind=0 -> t.til=t.frm/\t=⟨0,[],.zero,t.frm,t.frm⟩)/\(t.kind ≠ 0 -> t.ok (a+l.length)):=by
 unfold vE at h
 simp only at h
 have hd:=cE lD l
 split at h
 ·rename_i he
  injection h with h;subst h
  simp only
  rw[he];exact⟨by omega,by simp,fun _=>⟨trivial,trivial⟩,fun h=>absurd rfl h⟩
 ·rename_i c cs he
  split at h
  ·cases h
  ·rename_i k s n m h1
   have h2:=zX h1;injection h with h;subst h;have hl:(l.dropWhile lD).length=(c :: cs).length:=by rw[he]
   simp only at h2 ⊢
   refine⟨by omega,by omega,fun h=>absurd h (by omega),fun _=>⟨by simp only;omega,by simp only;omega,h2.2.2.1,h2.2.2.2.1,h2.2.2.2.2⟩⟩
theorem xS:∀ {n a:Nat} {l:List UInt8} {ts:List Tkn},aC n a l=.ok ts -> ∀ t ∈ ts,t.ok (a+l.length)
 | 0,_,_,_,h=>by simp[aC] at h
 | n+1,a,l,ts,h=>by
  unfold aC at h
  split at h
  ·cases h
  ·rename_i t h1
   have h2:=kM h1
   split at h
   ·injection h with h;subst h;simp
   ·rename_i h0
    split at h
    ·cases h
    ·rename_i ts1 h3
     injection h with h;subst h;have h4:=xS h3;have h5:=h2.2.2.2 h0;intro x hx;rcases List.mem_cons.1 hx with rfl | hx
     ·exact h5
     ·have:=h4 x hx;rw[List.length_drop] at this
      have e:t.til+(l.length - (t.til - a))=a+l.length:=by
       have:=h5.1;have:=h5.2.1;omega
      rw[e] at this;exact this
theorem mN {s:List UInt8} {ts:List Tkn} (h:rC s=.ok ts):s.length<=8192/\∀ t ∈ ts,t.ok s.length:=by
 unfold rC at h
 split at h
 ·cases h
 ·have:=xS h;exact⟨by omega,by simpa using this⟩
theorem pR:∀ {n a:Nat} {l:List UInt8} {ts:List Tkn},aC n a l=.ok ts -> ts.length<=l.length
 | 0,_,_,_,h=>by simp[aC] at h
 | n+1,a,l,ts,h=>by
  unfold aC at h
  split at h
  ·cases h
  ·rename_i t h1
   have h2:=kM h1
   split at h
   ·injection h with h;subst h;simp
   ·rename_i h0
    split at h
    ·cases h
    ·rename_i ts1 h3
     injection h with h;subst h;have h4:=pR h3;have h5:=h2.2.2.2 h0;rw[List.length_drop] at h4;have:=h5.1;have:=h5.2.1
     simp;omega
theorem pO {s:List UInt8} {ts:List Tkn} (h:rC s=.ok ts):ts.length<=8192:=by
 have h1:=(mN h).1;unfold rC at h
 split at h
 ·cases h
 ·have:=pR h;omega
end
end Go.Proofs.YtbggkiebfflcdaaGreatDoor
