/-
  Joined by join.py: Mo Mp
-/
import Derived.Test.YtbggkiebfflcdaaGreatDoorJpp21
set_option maxRecDepth 100000
set_option maxHeartbeats 32000000
namespace Go.Proofs.YtbggkiebfflcdaaGreatDoor
section
open Go.RowKit Go.Shelf
theorem pE:(Tryz.prog.info? 112).map (·.size)=some 7:=by kernel_rfl
theorem aN:∀ (n:Nat) (l:List UInt8),l.length<=n -> jE n l=jE l.length l
 | 0,l,h=>by rw[List.length_eq_zero_iff.1 (by omega:l.length=0)];rfl
 | n+1,[],_=>rfl
 | n+1,c :: cs,h=>by
  show jE (n+1) (c :: cs)=jE (cs.length+1) (c :: cs)
  unfold jE
  dsimp only
  cases hx:mB (c :: cs) with
  | none=>rfl
  | some y=>
   obtain⟨r,k⟩:=y;obtain⟨h1,h2,_⟩:=uF hx;have h3:((c :: cs).drop k).length<=cs.length:=by rw[List.length_drop,List.length_cons];omega
   simp only[List.length_cons] at h
   show jE n ((c :: cs).drop k)=jE cs.length ((c :: cs).drop k)
   rw[aN n _ (by omega),aN cs.length _ h3]
def eP (k:Nat) (r:List UInt8):Except Int Tkn:=match r with
 | []=>.ok ⟨0,[],.zero,k,k⟩
 | _ :: _=>match zB r with
  | .error e=>.error e
  | .ok (d,s,n,m)=>.ok ⟨d,s,n,k,k+m⟩
theorem aAe {a k:Nat} {L:List UInt8} (h1:a<=k) (h2:k<=L.length) (h:(L.drop a).dropWhile lD=L.drop k):vE a (L.drop a)=eP k (L.drop k):=by
 unfold vE eP
 dsimp only
 rw[h,List.length_drop,List.length_drop,show a+(L.length - a - (L.length - k))=k by omega]
 rfl
def aGa (w:World) (L:List UInt8) (a:Nat) (v:Value) (wr:World):Prop:=∃ k:Nat,a<=k/\k<=L.length/\v=.int .i64 (k:Int)/\(L.drop a).dropWhile lD=(L.drop k).dropWhile lD/\w=wr
theorem aBh {c:UInt8} {t:List UInt8} (hb:zI c=true):zB (c :: t)=if sI ((c :: t).takeWhile nB) then .ok (1,(c :: t).takeWhile nB,.zero,((c :: t).takeWhile nB).length) else .error 2:=by
 unfold zB
 dsimp only
 rw[if_pos hb]
theorem aCN {c:UInt8} {t:List UInt8} (hb:zI c=false) (hn:(yA c || (c.toNat == 45 && vF t))=true):zB (c :: t)=match fE ((c :: t).take (vA none (c :: t))) with
   | .error e=>.error e
   | .ok d=>.ok (3,[],d,vA none (c :: t)):=by
 unfold zB
 dsimp only
 rw[if_neg (by rw[hb];simp),if_pos hn]
 rfl
theorem aBi {c:UInt8} {t:List UInt8} (hb:zI c=false) (hn:(yA c || (c.toNat == 45 && vF t))=false) (hq:(c.toNat == 39 || c.toNat == 34)=true):zB (c :: t)=match rH (c :: t) with
   | none=>.error 2
   | some (o,m)=>.ok (2,o,.zero,m):=by
 unfold zB
 dsimp only
 rw[if_neg (by rw[hb];simp),if_neg (by rw[hn];simp),if_pos hq]
 rfl
theorem aBj {c:UInt8} {t:List UInt8} (hb:zI c=false) (hn:(yA c || (c.toNat == 45 && vF t))=false) (hq:(c.toNat == 39 || c.toNat == 34)=false):zB (c :: t)=if kF (c :: t)=0 then .error 2 else .ok (4,(c :: t).take (kF (c :: t)),.zero,kF (c :: t)):=by
 unfold zB
 dsimp only
 rw[if_neg (by rw[hb];simp),if_neg (by rw[hn];simp),if_neg (by rw[hq];simp)]
theorem aM {k:Nat} {c:UInt8} {t:List UInt8} {e:Int} (h:zB (c :: t)=.error e):eP k (c :: t)=.error e:=by
 unfold eP
 dsimp only
 rw[h]
theorem zN {k d m:Nat} {c:UInt8} {t o:List UInt8} {n:Dcm} (h:zB (c :: t)=.ok (d,o,n,m)):eP k (c :: t)=.ok ⟨d,o,n,k,k+m⟩:=by
 unfold eP
 dsimp only
 rw[h]
theorem aHr {w:World} (s:ByteArray) (a:Nat) (ha:a<=s.size) (hz:s.size<=100000):Calls Tryz.prog 49 #[.string s,.int .i64 (a:Int)] w (aBC w a ((aA s).drop a)):=by
 refine bA fun R HQ=>?_;have hlen:=cA s;obtain⟨L,hL⟩:∃ L,aA s=L:=⟨_,rfl⟩;obtain⟨n0,hn0⟩:∃ n,s.size=n:=⟨_,rfl⟩;rw[hL] at HQ;rw[hL,hn0] at hlen;rw[hn0] at ha hz;have d0:decide ((a:Int) < 0)=false:=dF (by omega)
 have d1:decide ((s.size:Int) < (a:Int))=false:=by rw[decide_eq_false_iff_not,hn0];omega
 have has:¬ s.size < a:=by omega
 have HL:=lh hL;have HN:=lh hn0;have HLN:=lh hlen;clear hL hn0 hlen;have hb0:=Blk.new w 112 [.int .i64 0,.string { data:=#[] },.bool false,.string { data:=#[] },.int .i64 0,.int .i64 0,.int .i64 0];have hf0:=(Fr.refl [] w).alloc (.cells #[.int .i64 0,.string { data:=#[] },.bool false,.string { data:=#[] },.int .i64 0,.int .i64 0,.int .i64 0] 112);have hz0:(w.alloc (.cells #[.int .i64 0,.string { data:=#[] },.bool false,.string { data:=#[] },.int .i64 0,.int .i64 0,.int .i64 0] 112)).heap.size=w.heap.size+1:=by simp
 go_enter Tryz.func49,Tryz.ntmps49
 go_upto_region 1 with fail
 generalize w.alloc (.cells #[.int .i64 0,.string { data:=#[] },.bool false,.string { data:=#[] },.int .i64 0,.int .i64 0,.int .i64 0] 112)=w0 at *;have HF0:=lh hf0;have HB0:=lh hb0;have HZ0:=lh hz0;clear hf0 hb0 hz0;go_wp2_with fail;clear d0 d1 has
 go_loopw [1] (fun v wr=>aGa w0 L a v wr) (fun v _=>n0 - (intOf v).toNat)
 case atStart=>exact⟨a,Nat.le_refl _,by rw[HLN.o];exact ha,rfl,rfl,rfl⟩
 case round=>
  obtain⟨k,hak,hk,rfl,hwh,rfl⟩:=hrel;rw[HLN.o] at hk;have HWH:=lh hwh;clear hwh
  by_cases hkn:k < n0
  ·have hkn':k < s.size:=by rw[HN.o];exact hkn
   obtain⟨c,hc⟩:∃ c,L[k]? = some c:=gx (by rw[HLN.o];exact hkn);have hix:=fun W=>rA (s:=s) (by rw[HL.o];exact hc) .i64 W;have HDC:=lh (xA hc);have HC:=lh hc;clear hc
   by_cases h9:c.toNat=9
   ·have b9:((c.toNat:Int) == 9)=true:=by rw[beq_iff_eq];omega
    have H9:=lh h9;clear h9;have HWN:Hid ((L.drop a).dropWhile lD=(L.drop (k+1)).dropWhile lD):=lh (by rw[HWH.o,HDC.o,List.dropWhile_cons,if_pos (by simp[lD,H9.o])]);go_wp2_with fail
    go_roundw
    case rel=>exact⟨k+1,by omega,by rw[HLN.o];omega,by go_num,HWN.o,rfl⟩
    case measure=>simp[intOf];omega
   ·have b9:((c.toNat:Int) == 9)=false:=by rw[beq_eq_false_iff_ne];omega
    by_cases h10:c.toNat=10
    ·have b10:((c.toNat:Int) == 10)=true:=by rw[beq_iff_eq];omega
     have H9:=lh h10;clear h10;have HWN:Hid ((L.drop a).dropWhile lD=(L.drop (k+1)).dropWhile lD):=lh (by rw[HWH.o,HDC.o,List.dropWhile_cons,if_pos (by simp[lD,H9.o])]);go_wp2_with fail
     go_roundw
     case rel=>exact⟨k+1,by omega,by rw[HLN.o];omega,by go_num,HWN.o,rfl⟩
     case measure=>simp[intOf];omega
    ·have b10:((c.toNat:Int) == 10)=false:=by rw[beq_eq_false_iff_ne];omega
     by_cases h13:c.toNat=13
     ·have b13:((c.toNat:Int) == 13)=true:=by rw[beq_iff_eq];omega
      have H9:=lh h13;clear h13;have HWN:Hid ((L.drop a).dropWhile lD=(L.drop (k+1)).dropWhile lD):=lh (by rw[HWH.o,HDC.o,List.dropWhile_cons,if_pos (by simp[lD,H9.o])]);go_wp2_with fail
      go_roundw
      case rel=>exact⟨k+1,by omega,by rw[HLN.o];omega,by go_num,HWN.o,rfl⟩
      case measure=>simp[intOf];omega
     ·have b13:((c.toNat:Int) == 13)=false:=by rw[beq_eq_false_iff_ne];omega
      by_cases h32:c.toNat=32
      ·have b32:((c.toNat:Int) == 32)=true:=by rw[beq_iff_eq];omega
       have H9:=lh h32;clear h32;have HWN:Hid ((L.drop a).dropWhile lD=(L.drop (k+1)).dropWhile lD):=lh (by rw[HWH.o,HDC.o,List.dropWhile_cons,if_pos (by simp[lD,H9.o])]);go_wp2_with fail
       go_roundw
       case rel=>exact⟨k+1,by omega,by rw[HLN.o];omega,by go_num,HWN.o,rfl⟩
       case measure=>simp[intOf];omega
      ·have b32:((c.toNat:Int) == 32)=false:=by rw[beq_eq_false_iff_ne];omega
       have HNT:Hid (vE a (L.drop a)=eP k (c :: L.drop (k+1))):=lh (by
        rw[<- HDC.o];refine aAe hak (by rw[HLN.o];exact hk) ?_;rw[HWH.o,HDC.o,List.dropWhile_cons,if_neg]
        simp[lD,h9,h10,h13,h32])
       clear HWH h9 h10 h13 h32;have hfx:=HF0.o.alloc (.cells #[.int .i64 0,.string { data:=#[] },.bool false,.string { data:=#[] },.int .i64 0,.int .i64 (k:Int),.int .i64 (k:Int)] 112);have hbx:=HB0.o.alloc (.cells #[.int .i64 0,.string { data:=#[] },.bool false,.string { data:=#[] },.int .i64 0,.int .i64 (k:Int),.int .i64 (k:Int)] 112);have hby:=Blk.new w0 112 [.int .i64 0,.string { data:=#[] },.bool false,.string { data:=#[] },.int .i64 0,.int .i64 (k:Int),.int .i64 (k:Int)];rw[HZ0.o] at hby;go_upto_region 6 with fail
       generalize w0.alloc (.cells #[.int .i64 0,.string { data:=#[] },.bool false,.string { data:=#[] },.int .i64 0,.int .i64 (k:Int),.int .i64 (k:Int)] 112)=w1 at *;rw[HZ0.o];have HFX:=lh hfx;have HBX:=lh hbx;have HBY:=lh hby;clear hfx hbx hby;clear b9 b10 b13 b32;have kn:((k:Int) == (s.size:Int))=false:=by rw[beq_eq_false_iff_ne,HN.o];omega
       have kn2:(k == s.size)=false:=by rw[beq_eq_false_iff_ne,HN.o];omega
       have kn3:decide (k=s.size)=false:=by rw[decide_eq_false_iff_not,HN.o];omega
       have HBG:=lh (fun W=>yZ c W)
       cases hb:zI c with
       | true=>
        rw[hb] at HBG;obtain⟨TW,hTW⟩:∃ TW,(c :: L.drop (k+1)).takeWhile nB=TW:=⟨_,rfl⟩;have hrd:=aBh (t:=L.drop (k+1)) hb;rw[hTW] at hrd
        have htl:k+TW.length<=n0:=by
         have h:=mC nB (c :: L.drop (k+1));rw[hTW,<- HDC.o,List.length_drop,HLN.o] at h;omega
        have hnm:=fun W=>aHi (w:=W) s k (by rw[HN.o];omega) (by rw[HN.o];omega);rw[HL.o,HDC.o,HN.o,qZ n0 _ (by rw[<- HDC.o,List.length_drop,HLN.o];omega),hTW,aN n0 TW (by omega)] at hnm;have HTW:=lh hTW;obtain⟨ss,hss,hssz,hsl0⟩:=uH s k (k+TW.length) (by omega) (by rw[HN.o];omega);have hsl:=hsl0 .i64 .i64;have HSS:Hid (aA ss=TW):=lh (by rw[hss,HL.o,HDC.o,show k+TW.length - k=TW.length by omega,<- hTW,nP];simp);clear hTW hss hssz hsl0 hb
        cases hck:sI TW with
        | false=>
         have HE:Hid (vE a (L.drop a)=.error 2):=lh (by rw[HNT.o];exact aM (by rw[hrd,hck];rfl));have HNE:Hid ((2:Int) ≠ 0):=lh (by decide);rw[show jE TW.length TW=false from hck] at hnm;have HNM:=lh hnm;have hpl:zL k (if false=true then some TW.length else none) = -1:=rfl;rw[hpl] at HNM;clear hnm hrd hck hsl hpl;go_wp2_with fail;refine(HBG.o _).mono ?_;rintro e w9 ⟨rfl,rfl⟩;have zc:=HBY.o.at_ (i:=0) rfl;have zf:=HBY.o.free;go_upto_region 17 with fail
         have hby:Blk (w1.setCell ⟨w.heap.size+1,0,none⟩ (.int .i64 1)) (w.heap.size+1) 112 [.int .i64 1,.string { data:=#[] },.bool false,.string { data:=#[] },.int .i64 0,.int .i64 (k:Int),.int .i64 (k:Int)]:=HBY.o.set_ 0 (.int .i64 1);have hbx:=HBX.o.far (p:=⟨w.heap.size+1,0,none⟩) (show w.heap.size ≠ w.heap.size+1 by omega) (.int .i64 1);have hfx:=HFX.o.setCell (p:=⟨w.heap.size+1,0,none⟩) (.inr (Nat.le_succ _)) (.int .i64 1);generalize w1.setCell ⟨w.heap.size+1,0,none⟩ (.int .i64 1)=w2 at *;clear HBY HBX HFX zc zf;have HBY:=lh hby;have HBX:=lh hbx;have HFX:=lh hfx;clear hby hbx hfx;go_wp2_with fail;refine(HNM.o _).mono ?_;rintro e w3 ⟨rfl,hf3⟩;have hby:=HBY.o.fr hf3;have hbx:=HBX.o.fr hf3;have hfx:=HFX.o.trans hf3;clear HBY HBX HFX hf3;have HBY:=lh hby;have HBX:=lh hbx;have HFX:=lh hfx;clear hby hbx hfx;have zc:=HBY.o.at_ (i:=6) rfl;have zf:=HBY.o.free;go_upto_region 18 with fail
         have hby:Blk (w3.setCell ⟨w.heap.size+1,6,none⟩ (.int .i64 ((-1:Int)))) (w.heap.size+1) 112 [.int .i64 1,.string { data:=#[] },.bool false,.string { data:=#[] },.int .i64 0,.int .i64 (k:Int),.int .i64 ((-1:Int))]:=HBY.o.set_ 6 (.int .i64 ((-1:Int)));have hbx:=HBX.o.far (p:=⟨w.heap.size+1,6,none⟩) (show w.heap.size ≠ w.heap.size+1 by omega) (.int .i64 ((-1:Int)));have hfx:=HFX.o.setCell (p:=⟨w.heap.size+1,6,none⟩) (.inr (Nat.le_succ _)) (.int .i64 ((-1:Int)));generalize w3.setCell ⟨w.heap.size+1,6,none⟩ (.int .i64 ((-1:Int)))=w4 at *;clear HBY HBX HFX zc zf;have HBY:=lh hby;have HBX:=lh hbx;have HFX:=lh hfx;clear hby hbx hfx;have zc:=HBY.o.at_ (i:=6) rfl;have zf:=HBY.o.free;have z0:=HBX.o.at_ (i:=0) rfl;have z1:=HBX.o.at_ (i:=1) rfl;have z2:=HBX.o.at_ (i:=2) rfl;have z3:=HBX.o.at_ (i:=3) rfl;have z4:=HBX.o.at_ (i:=4) rfl;have z5:=HBX.o.at_ (i:=5) rfl;have z6:=HBX.o.at_ (i:=6) rfl;have zf:=HBX.o.free;go_wp2_with fail;exact bodyPost_ret (fA rfl rfl (HBX.o.setL (vs:=[.int .i64 0,.string { data:=#[] },.bool false,.string { data:=#[] },.int .i64 0,.int .i64 0,.int .i64 0]) rfl) Tryz.underlying112 rfl pE) rfl (HQ.o _ _ (nM HE.o HNE.o (HFX.o.setL (g:=w.heap.size) (k:=0) (vs:=[.int .i64 0,.string { data:=#[] },.bool false,.string { data:=#[] },.int .i64 0,.int .i64 0,.int .i64 0]) (.inr (Nat.le_refl _)))))
        | true=>
         have HE:Hid (vE a (L.drop a)=.ok ⟨1,TW,.zero,k,k+TW.length⟩):=lh (by rw[HNT.o];exact zN (by rw[hrd,hck];rfl));rw[show jE TW.length TW=true from hck] at hnm;have HNM:=lh hnm;obtain⟨til,htil⟩:∃ til,k+TW.length=til:=⟨_,rfl⟩;have hpl:zL k (if true=true then some TW.length else none)=(til:Int):=by rw[<- htil];rfl
         rw[hpl] at HNM;rw[htil] at HE hsl;have HTL:=lh htil;clear hnm hrd hck hpl htil;have HQV:Hid ([.int .i64 1,.string ss,.bool false,.string { data:=#[] },.int .i64 0,.int .i64 (k:Int),.int .i64 (til:Int)]=Tkn.vals ⟨1,TW,.zero,k,til⟩):=lh (by rw[aGH,HSS.o];rfl);go_wp2_with fail;refine(HBG.o _).mono ?_;rintro e w9 ⟨rfl,rfl⟩;have zc:=HBY.o.at_ (i:=0) rfl;have zf:=HBY.o.free;go_upto_region 17 with fail
         have hby:Blk (w1.setCell ⟨w.heap.size+1,0,none⟩ (.int .i64 1)) (w.heap.size+1) 112 [.int .i64 1,.string { data:=#[] },.bool false,.string { data:=#[] },.int .i64 0,.int .i64 (k:Int),.int .i64 (k:Int)]:=HBY.o.set_ 0 (.int .i64 1);have hbx:=HBX.o.far (p:=⟨w.heap.size+1,0,none⟩) (show w.heap.size ≠ w.heap.size+1 by omega) (.int .i64 1);have hfx:=HFX.o.setCell (p:=⟨w.heap.size+1,0,none⟩) (.inr (Nat.le_succ _)) (.int .i64 1);generalize w1.setCell ⟨w.heap.size+1,0,none⟩ (.int .i64 1)=w2 at *;clear HBY HBX HFX zc zf;have HBY:=lh hby;have HBX:=lh hbx;have HFX:=lh hfx;clear hby hbx hfx;go_wp2_with fail;refine(HNM.o _).mono ?_;rintro e w3 ⟨rfl,hf3⟩;have hby:=HBY.o.fr hf3;have hbx:=HBX.o.fr hf3;have hfx:=HFX.o.trans hf3;clear HBY HBX HFX hf3;have HBY:=lh hby;have HBX:=lh hbx;have HFX:=lh hfx;clear hby hbx hfx;have zc:=HBY.o.at_ (i:=6) rfl;have zf:=HBY.o.free;go_upto_region 18 with fail
         have hby:Blk (w3.setCell ⟨w.heap.size+1,6,none⟩ (.int .i64 ((til:Int)))) (w.heap.size+1) 112 [.int .i64 1,.string { data:=#[] },.bool false,.string { data:=#[] },.int .i64 0,.int .i64 (k:Int),.int .i64 ((til:Int))]:=HBY.o.set_ 6 (.int .i64 ((til:Int)));have hbx:=HBX.o.far (p:=⟨w.heap.size+1,6,none⟩) (show w.heap.size ≠ w.heap.size+1 by omega) (.int .i64 ((til:Int)));have hfx:=HFX.o.setCell (p:=⟨w.heap.size+1,6,none⟩) (.inr (Nat.le_succ _)) (.int .i64 ((til:Int)));generalize w3.setCell ⟨w.heap.size+1,6,none⟩ (.int .i64 ((til:Int)))=w4 at *;clear HBY HBX HFX zc zf;have HBY:=lh hby;have HBX:=lh hbx;have HFX:=lh hfx;clear hby hbx hfx;have zc:=HBY.o.at_ (i:=6) rfl;have zf:=HBY.o.free;have zc:=HBY.o.at_ (i:=1) rfl;have zf:=HBY.o.free;have ze:=HBY.o.at_ (i:=6) rfl;go_upto_region 35 with fail
         have hby:Blk (w4.setCell ⟨w.heap.size+1,1,none⟩ (.string ss)) (w.heap.size+1) 112 [.int .i64 1,.string ss,.bool false,.string { data:=#[] },.int .i64 0,.int .i64 (k:Int),.int .i64 (til:Int)]:=HBY.o.set_ 1 (.string ss);have hbx:=HBX.o.far (p:=⟨w.heap.size+1,1,none⟩) (show w.heap.size ≠ w.heap.size+1 by omega) (.string ss);have hfx:=HFX.o.setCell (p:=⟨w.heap.size+1,1,none⟩) (.inr (Nat.le_succ _)) (.string ss);generalize w4.setCell ⟨w.heap.size+1,1,none⟩ (.string ss)=w5 at *;clear HBY HBX HFX zc zf;have HBY:=lh hby;have HBX:=lh hbx;have HFX:=lh hfx;clear hby hbx hfx;clear ze;have z0:=HBX.o.at_ (i:=0) rfl;have z1:=HBX.o.at_ (i:=1) rfl;have z2:=HBX.o.at_ (i:=2) rfl;have z3:=HBX.o.at_ (i:=3) rfl;have z4:=HBX.o.at_ (i:=4) rfl;have z5:=HBX.o.at_ (i:=5) rfl;have z6:=HBX.o.at_ (i:=6) rfl;have zf:=HBX.o.free;have y0:=HBY.o.at_ (i:=0) rfl;have y1:=HBY.o.at_ (i:=1) rfl;have y2:=HBY.o.at_ (i:=2) rfl;have y3:=HBY.o.at_ (i:=3) rfl;have y4:=HBY.o.at_ (i:=4) rfl;have y5:=HBY.o.at_ (i:=5) rfl;have y6:=HBY.o.at_ (i:=6) rfl;have yf:=HBY.o.free;go_wp2_with fail;exact bodyPost_ret (fA rfl rfl (HBX.o.setL (vs:=[.int .i64 1,.string ss,.bool false,.string { data:=#[] },.int .i64 0,.int .i64 (k:Int),.int .i64 (til:Int)]) rfl) Tryz.underlying112 rfl pE) rfl (HQ.o _ _ (qL HE.o HQV.o (HFX.o.setL (g:=w.heap.size) (k:=0) (vs:=[.int .i64 1,.string ss,.bool false,.string { data:=#[] },.int .i64 0,.int .i64 (k:Int),.int .i64 (til:Int)]) (.inr (Nat.le_refl _)))))
       | false=>
        rw[hb] at HBG;have HBF:=lh hb;clear hb;go_wp2_with fail;refine(HBG.o _).mono ?_;rintro e w9 ⟨rfl,rfl⟩;clear HBG;go_upto_region 21 with fail
        obtain⟨nb,hnb⟩:∃ nb,(yA c || (c.toNat == 45 && vF (L.drop (k+1))))=nb:=⟨_,rfl⟩;have HNB:=lh hnb;clear hnb
        go_cut [100] (fun v wc=>v=.bool nb/\w1=wc)
        case first=>
         have HDG:=lh (fun W=>pS c W)
         cases hf:yA c with
         | true=>
          rw[hf] at HDG;have HV:Hid (nb=true):=lh (by rw[<- HNB.o,hf];rfl);clear hf;go_wp2_with fail;refine(HDG.o _).mono ?_;rintro e w9 ⟨rfl,rfl⟩;go_wp2_with fail
          go_meet
          exact⟨by rw[HV.o],rfl⟩
         | false=>
          rw[hf] at HDG;have HNB2:Hid ((c.toNat == 45 && vF (L.drop (k+1)))=nb):=lh (by rw[<- HNB.o,hf];rfl);clear hf
          by_cases h45:c.toNat=45
          ·have b45:((c.toNat:Int) == 45)=true:=by rw[beq_iff_eq];omega
           have hwk:=wi k (by omega)
           by_cases hk1:k+1 < n0
           ·have hk1':k+1 < s.size:=by rw[HN.o];exact hk1
            obtain⟨x,hx⟩:∃ x,L[k+1]? = some x:=gx (by rw[HLN.o];exact hk1);have hix1:=fun W=>rA (s:=s) (by rw[HL.o];exact hx) .i64 W;rw[show((k+1:Nat):Int)=(k:Int)+1 by omega] at hix1;have HDX:=lh (fun W=>pS x W);have HV:Hid (nb=yA x):=lh (by rw[<- HNB2.o,h45,xA hx];rfl);clear hx h45;go_wp2_with fail;refine(HDG.o _).mono ?_;rintro e w9 ⟨rfl,rfl⟩;go_wp2_with fail;refine(HDX.o _).mono ?_;rintro e w9 ⟨rfl,rfl⟩;go_wp2_with fail
            go_meet
            exact⟨by rw[HV.o],rfl⟩
           ·have hk1':¬ k+1 < s.size:=by rw[HN.o];exact hk1
            have HV:Hid (nb=false):=lh (by rw[<- HNB2.o,List.drop_of_length_le (by rw[HLN.o];omega)];simp[vF]);clear h45;go_wp2_with fail;refine(HDG.o _).mono ?_;rintro e w9 ⟨rfl,rfl⟩;go_wp2_with fail
            go_meet
            exact⟨by rw[HV.o],rfl⟩
          ·have b45:((c.toNat:Int) == 45)=false:=by rw[beq_eq_false_iff_ne];omega
           have HV:Hid (nb=false):=lh (by rw[<- HNB2.o];simp[h45]);clear h45;go_wp2_with fail;refine(HDG.o _).mono ?_;rintro e w9 ⟨rfl,rfl⟩;go_wp2_with fail
           go_meet
           exact⟨by rw[HV.o],rfl⟩
        case rest=>
        obtain⟨rfl,rfl⟩:=hcut
        cases nb with
        | true=>
         have hrd:=aCN HBF.o HNB.o;rw[<- HDC.o] at hrd;obtain⟨nl,hnl⟩:∃ nl,vA none (L.drop k)=nl:=⟨_,rfl⟩;have hnle:k+nl<=n0:=by have h:=tK none (L.drop k);rw[hnl,List.length_drop,HLN.o] at h;omega
         have hnu:=fun W=>aEB (w:=W) s k (by rw[HN.o];omega) (by rw[HN.o];omega);rw[HL.o,hnl] at hnu;rw[hnl] at hrd;obtain⟨ss,hss,_,hsl0⟩:=uH s k (k+nl) (by omega) (by rw[HN.o];omega);have hsl:=hsl0 .i64 .i64;have hpa:=fun W=>aFZ (w:=W) ss;rw[hss,HL.o,show k+nl - k=nl by omega] at hpa;obtain⟨til,htil⟩:∃ til,k+nl=til:=⟨_,rfl⟩;rw[htil] at hnu hsl;have HNU:=lh hnu;clear hnl hnu hss hsl0;have zc:=HBY.o.at_ (i:=0) rfl;have zf:=HBY.o.free;go_upto_region 23 with fail
         have hby:Blk (w1.setCell ⟨w.heap.size+1,0,none⟩ (.int .i64 3)) (w.heap.size+1) 112 [.int .i64 3,.string { data:=#[] },.bool false,.string { data:=#[] },.int .i64 0,.int .i64 (k:Int),.int .i64 (k:Int)]:=HBY.o.set_ 0 (.int .i64 3);have hbx:=HBX.o.far (p:=⟨w.heap.size+1,0,none⟩) (show w.heap.size ≠ w.heap.size+1 by omega) (.int .i64 3);have hfx:=HFX.o.setCell (p:=⟨w.heap.size+1,0,none⟩) (.inr (Nat.le_succ _)) (.int .i64 3);generalize w1.setCell ⟨w.heap.size+1,0,none⟩ (.int .i64 3)=w2 at *;clear HBY HBX HFX zc zf;have HBY:=lh hby;have HBX:=lh hbx;have HFX:=lh hfx;clear hby hbx hfx;go_wp2_with fail;refine(HNU.o _).mono ?_;rintro e w9 ⟨rfl,rfl⟩;clear HNU;have zc:=HBY.o.at_ (i:=6) rfl;have zf:=HBY.o.free;go_upto_region 24 with fail
         have hby:Blk (w2.setCell ⟨w.heap.size+1,6,none⟩ (.int .i64 (til:Int))) (w.heap.size+1) 112 [.int .i64 3,.string { data:=#[] },.bool false,.string { data:=#[] },.int .i64 0,.int .i64 (k:Int),.int .i64 (til:Int)]:=HBY.o.set_ 6 (.int .i64 (til:Int));have hbx:=HBX.o.far (p:=⟨w.heap.size+1,6,none⟩) (show w.heap.size ≠ w.heap.size+1 by omega) (.int .i64 (til:Int));have hfx:=HFX.o.setCell (p:=⟨w.heap.size+1,6,none⟩) (.inr (Nat.le_succ _)) (.int .i64 (til:Int));generalize w2.setCell ⟨w.heap.size+1,6,none⟩ (.int .i64 (til:Int))=w3 at *;clear HBY HBX HFX zc zf;have HBY:=lh hby;have HBX:=lh hbx;have HFX:=lh hfx;clear hby hbx hfx;have zc:=HBY.o.at_ (i:=6) rfl;have zf:=HBY.o.free
         cases hpd:fE ((L.drop k).take nl) with
         | error er=>
          have HE:Hid (vE a (L.drop a)=.error er):=lh (by rw[HNT.o];exact aM (by rw[<- HDC.o,hrd,hpd]));have HNE:=lh (tO hpd);have dne:(er != 0)=true:=by rw[bne_iff_ne];exact HNE.o
          unfold sA at hpa;rw[hpd] at hpa;unfold gC S8 Dcm.zero at hpa;have HPA:=lh hpa;clear hpa hpd hrd htil;go_wp2_with fail;refine(HPA.o _).mono ?_;rintro e w4 ⟨rfl,hf4⟩;have hby:=HBY.o.fr hf4;have hbx:=HBX.o.fr hf4;have hfx:=HFX.o.trans hf4;clear HBY HBX HFX hf4;have HBY:=lh hby;have HBX:=lh hbx;have HFX:=lh hfx;clear hby hbx hfx;clear zc zf;go_upto_region 25 with fail
          have hf5:Fr [] w4 (w4.alloc (.cells #[.bool false,.string { data:=#[] },.int .i64 0] 93)):=(Fr.refl [] w4).alloc _;generalize w4.alloc (.cells #[.bool false,.string { data:=#[] },.int .i64 0] 93)=w5 at *;have hby:=HBY.o.fr hf5;have hbx:=HBX.o.fr hf5;have hfx:=HFX.o.trans hf5;clear HBY HBX HFX hf5;have HBY:=lh hby;have HBX:=lh hbx;have HFX:=lh hfx;clear hby hbx hfx;have z0:=HBX.o.at_ (i:=0) rfl;have z1:=HBX.o.at_ (i:=1) rfl;have z2:=HBX.o.at_ (i:=2) rfl;have z3:=HBX.o.at_ (i:=3) rfl;have z4:=HBX.o.at_ (i:=4) rfl;have z5:=HBX.o.at_ (i:=5) rfl;have z6:=HBX.o.at_ (i:=6) rfl;have zf:=HBX.o.free;go_wp2_with fail;exact bodyPost_ret (fA rfl rfl (HBX.o.setL (vs:=[.int .i64 0,.string { data:=#[] },.bool false,.string { data:=#[] },.int .i64 0,.int .i64 0,.int .i64 0]) rfl) Tryz.underlying112 rfl pE) rfl (HQ.o _ _ (nM HE.o HNE.o (HFX.o.setL (g:=w.heap.size) (k:=0) (vs:=[.int .i64 0,.string { data:=#[] },.bool false,.string { data:=#[] },.int .i64 0,.int .i64 0,.int .i64 0]) (.inr (Nat.le_refl _)))))
         | ok d=>
          have HE:Hid (vE a (L.drop a)=.ok ⟨3,[],d,k,til⟩):=lh (by rw[HNT.o,<- htil];exact zN (by rw[<- HDC.o,hrd,hpd]));unfold sA at hpa;rw[hpd] at hpa;obtain⟨dneg,ddg,dex⟩:=d;unfold gC S8 at hpa
          simp only at hpa
          obtain⟨dx,hdx⟩:∃ dx:ByteArray,(⟨ddg.toArray⟩:ByteArray)=dx:=⟨_,rfl⟩;rw[hdx] at hpa;have HQV:Hid ([.int .i64 3,.string { data:=#[] },.bool dneg,.string dx,.int .i64 dex,.int .i64 (k:Int),.int .i64 (til:Int)]=Tkn.vals ⟨3,[],⟨dneg,ddg,dex⟩,k,til⟩):=lh (by rw[<- hdx];rfl);have HPA:=lh hpa;clear hpa hpd hrd htil hdx;go_wp2_with fail;refine(HPA.o _).mono ?_;rintro e w4 ⟨rfl,hf4⟩;have hby:=HBY.o.fr hf4;have hbx:=HBX.o.fr hf4;have hfx:=HFX.o.trans hf4;clear HBY HBX HFX hf4;have HBY:=lh hby;have HBX:=lh hbx;have HFX:=lh hfx;clear hby hbx hfx;clear zc zf;go_upto_region 25 with fail
          have hf5:Fr [] w4 (w4.alloc (.cells #[.bool dneg,.string dx,.int .i64 dex] 93)):=(Fr.refl [] w4).alloc _;have hd5:=Blk.new w4 93 [.bool dneg,.string dx,.int .i64 dex];generalize w4.alloc (.cells #[.bool dneg,.string dx,.int .i64 dex] 93)=w5 at *;have hby:=HBY.o.fr hf5;have hbx:=HBX.o.fr hf5;have hfx:=HFX.o.trans hf5;clear HBY HBX HFX hf5;have HBY:=lh hby;have HBX:=lh hbx;have HFX:=lh hfx;clear hby hbx hfx;have x0:=hd5.at_ (i:=0) rfl;have x1:=hd5.at_ (i:=1) rfl;have x2:=hd5.at_ (i:=2) rfl;have y2:=HBY.o.at_ (i:=2) rfl;have y3:=HBY.o.at_ (i:=3) rfl;have y4:=HBY.o.at_ (i:=4) rfl;have yf:=HBY.o.free;clear hd5;go_upto_region 35 with fail
          have hby:Blk (((w5.setCell ⟨w.heap.size+1,2,none⟩ (.bool dneg)).setCell ⟨w.heap.size+1,3,none⟩ (.string dx)).setCell ⟨w.heap.size+1,4,none⟩ (.int .i64 dex)) (w.heap.size+1) 112 [.int .i64 3,.string { data:=#[] },.bool dneg,.string dx,.int .i64 dex,.int .i64 (k:Int),.int .i64 (til:Int)]:=((HBY.o.set_ 2 (.bool dneg)).set_ 3 (.string dx)).set_ 4 (.int .i64 dex);have hbx:=((HBX.o.far (p:=⟨w.heap.size+1,2,none⟩) (show w.heap.size ≠ w.heap.size+1 by omega) (.bool dneg)).far (p:=⟨w.heap.size+1,3,none⟩) (show w.heap.size ≠ w.heap.size+1 by omega) (.string dx)).far (p:=⟨w.heap.size+1,4,none⟩) (show w.heap.size ≠ w.heap.size+1 by omega) (.int .i64 dex);have hfx:=((HFX.o.setCell (p:=⟨w.heap.size+1,2,none⟩) (.inr (Nat.le_succ _)) (.bool dneg)).setCell (p:=⟨w.heap.size+1,3,none⟩) (.inr (Nat.le_succ _)) (.string dx)).setCell (p:=⟨w.heap.size+1,4,none⟩) (.inr (Nat.le_succ _)) (.int .i64 dex);generalize ((w5.setCell ⟨w.heap.size+1,2,none⟩ (.bool dneg)).setCell ⟨w.heap.size+1,3,none⟩ (.string dx)).setCell ⟨w.heap.size+1,4,none⟩ (.int .i64 dex)=w6 at *;clear HBY HBX HFX x0 x1 x2 y2 y3 y4 yf;have HBY:=lh hby;have HBX:=lh hbx;have HFX:=lh hfx;clear hby hbx hfx;have z0:=HBX.o.at_ (i:=0) rfl;have z1:=HBX.o.at_ (i:=1) rfl;have z2:=HBX.o.at_ (i:=2) rfl;have z3:=HBX.o.at_ (i:=3) rfl;have z4:=HBX.o.at_ (i:=4) rfl;have z5:=HBX.o.at_ (i:=5) rfl;have z6:=HBX.o.at_ (i:=6) rfl;have zf:=HBX.o.free;have y0:=HBY.o.at_ (i:=0) rfl;have y1:=HBY.o.at_ (i:=1) rfl;have y2:=HBY.o.at_ (i:=2) rfl;have y3:=HBY.o.at_ (i:=3) rfl;have y4:=HBY.o.at_ (i:=4) rfl;have y5:=HBY.o.at_ (i:=5) rfl;have y6:=HBY.o.at_ (i:=6) rfl;have yf:=HBY.o.free;go_wp2_with fail;exact bodyPost_ret (fA rfl rfl (HBX.o.setL (vs:=[.int .i64 3,.string { data:=#[] },.bool dneg,.string dx,.int .i64 dex,.int .i64 (k:Int),.int .i64 (til:Int)]) rfl) Tryz.underlying112 rfl pE) rfl (HQ.o _ _ (qL HE.o HQV.o (HFX.o.setL (g:=w.heap.size) (k:=0) (vs:=[.int .i64 3,.string { data:=#[] },.bool dneg,.string dx,.int .i64 dex,.int .i64 (k:Int),.int .i64 (til:Int)]) (.inr (Nat.le_refl _)))))
        | false=>
         obtain⟨tb,htb⟩:∃ tb,(c.toNat == 39 || c.toNat == 34)=tb:=⟨_,rfl⟩;have HTB:=lh htb;go_upto_region 28 with fail
         go_cut [141] (fun v wc=>v=.bool tb/\w1=wc)
         case first=>
          by_cases h39:c.toNat=39
          ·have b39:((c.toNat:Int) == 39)=true:=by rw[beq_iff_eq];omega
           have HV:Hid (tb=true):=lh (by rw[<- HTB.o,h39];rfl);clear h39 htb;go_wp2_with fail
           go_meet
           exact⟨by rw[HV.o],rfl⟩
          ·have b39:((c.toNat:Int) == 39)=false:=by rw[beq_eq_false_iff_ne];omega
           have b34:((c.toNat:Int) == 34)=tb:=by
            rw[<- htb,Bool.eq_iff_iff,Bool.or_eq_true,beq_iff_eq,beq_iff_eq,beq_iff_eq];omega
           clear h39 htb;go_wp2_with fail
           go_meet
           exact⟨rfl,rfl⟩
         case rest=>
         obtain⟨rfl,rfl⟩:=hcut;clear htb
         cases tb with
         | true=>
          have hrd:=aBi HBF.o HNB.o HTB.o;rw[oY] at hrd
          have hc8:c.toNat < 128:=by
           have h:=HTB.o;rw[Bool.or_eq_true,beq_iff_eq,beq_iff_eq] at h;omega
          have htx:=fun W=>aHm (w:=W) s k c (by rw[HL.o];exact HC.o) hc8 (by rw[HN.o];omega);rw[HL.o] at htx;have zc:=HBY.o.at_ (i:=0) rfl;have zf:=HBY.o.free;go_upto_region 30 with fail
          have hby:Blk (w1.setCell ⟨w.heap.size+1,0,none⟩ (.int .i64 2)) (w.heap.size+1) 112 [.int .i64 2,.string { data:=#[] },.bool false,.string { data:=#[] },.int .i64 0,.int .i64 (k:Int),.int .i64 (k:Int)]:=HBY.o.set_ 0 (.int .i64 2);have hbx:=HBX.o.far (p:=⟨w.heap.size+1,0,none⟩) (show w.heap.size ≠ w.heap.size+1 by omega) (.int .i64 2);have hfx:=HFX.o.setCell (p:=⟨w.heap.size+1,0,none⟩) (.inr (Nat.le_succ _)) (.int .i64 2);generalize w1.setCell ⟨w.heap.size+1,0,none⟩ (.int .i64 2)=w2 at *;clear HBY HBX HFX zc zf;have HBY:=lh hby;have HBX:=lh hbx;have HFX:=lh hfx;clear hby hbx hfx
          cases htf:uD ((L.drop (k+1)).length+1) c (L.drop (k+1)) with
          | none=>
           have HE:Hid (vE a (L.drop a)=.error 2):=lh (by rw[HNT.o];exact aM (by rw[hrd,htf];rfl));have HNE:Hid ((2:Int) ≠ 0):=lh (by decide);rw[htf] at htx;unfold aBN at htx;have HTX:=lh htx;clear htx htf hrd;go_wp2_with fail;refine(HTX.o _).mono ?_;rintro e w4 ⟨rfl,hf4⟩;have hby:=HBY.o.fr hf4;have hbx:=HBX.o.fr hf4;have hfx:=HFX.o.trans hf4;clear HBY HBX HFX hf4;have HBY:=lh hby;have HBX:=lh hbx;have HFX:=lh hfx;clear hby hbx hfx;have z0:=HBX.o.at_ (i:=0) rfl;have z1:=HBX.o.at_ (i:=1) rfl;have z2:=HBX.o.at_ (i:=2) rfl;have z3:=HBX.o.at_ (i:=3) rfl;have z4:=HBX.o.at_ (i:=4) rfl;have z5:=HBX.o.at_ (i:=5) rfl;have z6:=HBX.o.at_ (i:=6) rfl;have zf:=HBX.o.free;go_wp2_with fail;exact bodyPost_ret (fA rfl rfl (HBX.o.setL (vs:=[.int .i64 0,.string { data:=#[] },.bool false,.string { data:=#[] },.int .i64 0,.int .i64 0,.int .i64 0]) rfl) Tryz.underlying112 rfl pE) rfl (HQ.o _ _ (nM HE.o HNE.o (HFX.o.setL (g:=w.heap.size) (k:=0) (vs:=[.int .i64 0,.string { data:=#[] },.bool false,.string { data:=#[] },.int .i64 0,.int .i64 0,.int .i64 0]) (.inr (Nat.le_refl _)))))
          | some y=>
           obtain⟨o,m⟩:=y;have HE:Hid (vE a (L.drop a)=.ok ⟨2,o,.zero,k,k+(1+m)⟩):=lh (by rw[HNT.o];exact zN (by rw[hrd,htf];rfl));rw[htf] at htx;unfold aBN at htx
           simp only at htx
           rw[show k+1+m=k+(1+m) by omega] at htx;obtain⟨ox,hox⟩:∃ ox:ByteArray,(⟨o.toArray⟩:ByteArray)=ox:=⟨_,rfl⟩;obtain⟨til,htil⟩:∃ til,k+(1+m)=til:=⟨_,rfl⟩;rw[hox,htil] at htx;rw[htil] at HE;have HQV:Hid ([.int .i64 2,.string ox,.bool false,.string { data:=#[] },.int .i64 0,.int .i64 (k:Int),.int .i64 (til:Int)]=Tkn.vals ⟨2,o,.zero,k,til⟩):=lh (by rw[<- hox];rfl);have HTX:=lh htx;clear htx htf hrd hox htil;go_wp2_with fail;refine(HTX.o _).mono ?_;rintro e w4 ⟨rfl,hf4⟩;have hby:=HBY.o.fr hf4;have hbx:=HBX.o.fr hf4;have hfx:=HFX.o.trans hf4;clear HBY HBX HFX hf4;have HBY:=lh hby;have HBX:=lh hbx;have HFX:=lh hfx;clear hby hbx hfx;have zc:=HBY.o.at_ (i:=1) rfl;have zf:=HBY.o.free;go_upto_region 34 with fail
           have hby:Blk (w4.setCell ⟨w.heap.size+1,1,none⟩ (.string ox)) (w.heap.size+1) 112 [.int .i64 2,.string ox,.bool false,.string { data:=#[] },.int .i64 0,.int .i64 (k:Int),.int .i64 (k:Int)]:=HBY.o.set_ 1 (.string ox);have hbx:=HBX.o.far (p:=⟨w.heap.size+1,1,none⟩) (show w.heap.size ≠ w.heap.size+1 by omega) (.string ox);have hfx:=HFX.o.setCell (p:=⟨w.heap.size+1,1,none⟩) (.inr (Nat.le_succ _)) (.string ox);generalize w4.setCell ⟨w.heap.size+1,1,none⟩ (.string ox)=w5 at *;clear HBY HBX HFX zc zf;have HBY:=lh hby;have HBX:=lh hbx;have HFX:=lh hfx;clear hby hbx hfx;have zc:=HBY.o.at_ (i:=6) rfl;have zf:=HBY.o.free;go_upto_region 35 with fail
           have hby:Blk (w5.setCell ⟨w.heap.size+1,6,none⟩ (.int .i64 (til:Int))) (w.heap.size+1) 112 [.int .i64 2,.string ox,.bool false,.string { data:=#[] },.int .i64 0,.int .i64 (k:Int),.int .i64 (til:Int)]:=HBY.o.set_ 6 (.int .i64 (til:Int));have hbx:=HBX.o.far (p:=⟨w.heap.size+1,6,none⟩) (show w.heap.size ≠ w.heap.size+1 by omega) (.int .i64 (til:Int));have hfx:=HFX.o.setCell (p:=⟨w.heap.size+1,6,none⟩) (.inr (Nat.le_succ _)) (.int .i64 (til:Int));generalize w5.setCell ⟨w.heap.size+1,6,none⟩ (.int .i64 (til:Int))=w6 at *;clear HBY HBX HFX zc zf;have HBY:=lh hby;have HBX:=lh hbx;have HFX:=lh hfx;clear hby hbx hfx;have z0:=HBX.o.at_ (i:=0) rfl;have z1:=HBX.o.at_ (i:=1) rfl;have z2:=HBX.o.at_ (i:=2) rfl;have z3:=HBX.o.at_ (i:=3) rfl;have z4:=HBX.o.at_ (i:=4) rfl;have z5:=HBX.o.at_ (i:=5) rfl;have z6:=HBX.o.at_ (i:=6) rfl;have zf:=HBX.o.free;have y0:=HBY.o.at_ (i:=0) rfl;have y1:=HBY.o.at_ (i:=1) rfl;have y2:=HBY.o.at_ (i:=2) rfl;have y3:=HBY.o.at_ (i:=3) rfl;have y4:=HBY.o.at_ (i:=4) rfl;have y5:=HBY.o.at_ (i:=5) rfl;have y6:=HBY.o.at_ (i:=6) rfl;have yf:=HBY.o.free;go_wp2_with fail;exact bodyPost_ret (fA rfl rfl (HBX.o.setL (vs:=[.int .i64 2,.string ox,.bool false,.string { data:=#[] },.int .i64 0,.int .i64 (k:Int),.int .i64 (til:Int)]) rfl) Tryz.underlying112 rfl pE) rfl (HQ.o _ _ (qL HE.o HQV.o (HFX.o.setL (g:=w.heap.size) (k:=0) (vs:=[.int .i64 2,.string ox,.bool false,.string { data:=#[] },.int .i64 0,.int .i64 (k:Int),.int .i64 (til:Int)]) (.inr (Nat.le_refl _)))))
         | false=>
          have hrd:=aBj HBF.o HNB.o HTB.o;rw[<- HDC.o] at hrd;have hsg:=fun W=>aHl (w:=W) s k (by rw[HN.o];exact hkn) (by rw[HN.o];omega);rw[HL.o] at hsg;have hsle:=(jM (L.drop k)).1;rw[List.length_drop,HLN.o] at hsle;obtain⟨m,hm⟩:∃ m,kF (L.drop k)=m:=⟨_,rfl⟩;rw[hm] at hsg hrd hsle;have HSG:=lh hsg;clear hm hsg;go_wp2_with fail;refine(HSG.o _).mono ?_;rintro e w2 ⟨rfl,hf2⟩;have hby:=HBY.o.fr hf2;have hbx:=HBX.o.fr hf2;have hfx:=HFX.o.trans hf2;clear HBY HBX HFX hf2;have HBY:=lh hby;have HBX:=lh hbx;have HFX:=lh hfx;clear hby hbx hfx
          by_cases hm0:m=0
          ·have HE:Hid (vE a (L.drop a)=.error 2):=lh (by rw[HNT.o];exact aM (by rw[<- HDC.o,hrd,if_pos hm0]));have HNE:Hid ((2:Int) ≠ 0):=lh (by decide);have bm:((m:Int) == 0)=true:=by rw[beq_iff_eq];omega
           clear hrd hm0;have z0:=HBX.o.at_ (i:=0) rfl;have z1:=HBX.o.at_ (i:=1) rfl;have z2:=HBX.o.at_ (i:=2) rfl;have z3:=HBX.o.at_ (i:=3) rfl;have z4:=HBX.o.at_ (i:=4) rfl;have z5:=HBX.o.at_ (i:=5) rfl;have z6:=HBX.o.at_ (i:=6) rfl;have zf:=HBX.o.free;go_wp2_with fail;exact bodyPost_ret (fA rfl rfl (HBX.o.setL (vs:=[.int .i64 0,.string { data:=#[] },.bool false,.string { data:=#[] },.int .i64 0,.int .i64 0,.int .i64 0]) rfl) Tryz.underlying112 rfl pE) rfl (HQ.o _ _ (nM HE.o HNE.o (HFX.o.setL (g:=w.heap.size) (k:=0) (vs:=[.int .i64 0,.string { data:=#[] },.bool false,.string { data:=#[] },.int .i64 0,.int .i64 0,.int .i64 0]) (.inr (Nat.le_refl _)))))
          ·have HE:Hid (vE a (L.drop a)=.ok ⟨4,(L.drop k).take m,.zero,k,k+m⟩):=lh (by rw[HNT.o];exact zN (by rw[<- HDC.o,hrd,if_neg hm0]));have bm:((m:Int) == 0)=false:=by rw[beq_eq_false_iff_ne];omega
           have hwm:IntKind.i64.wrap ((k:Int)+(m:Int))=(k:Int)+(m:Int):=by rw[IntKind.wrap_i64];omega
           obtain⟨ss,hss,_,hsl0⟩:=uH s k (k+m) (by omega) (by rw[HN.o];omega);have hsl:=hsl0 .i64 .i64;rw[show((k+m:Nat):Int)=(k:Int)+(m:Int) by omega] at hsl
           have HQV:Hid ([.int .i64 4,.string ss,.bool false,.string { data:=#[] },.int .i64 0,.int .i64 (k:Int),.int .i64 ((k:Int)+(m:Int))]=Tkn.vals ⟨4,(L.drop k).take m,.zero,k,k+m⟩):=lh (by
            have h1:aA ss=(L.drop k).take m:=by rw[hss,HL.o,show k+m - k=m by omega]
            rw[aGH,h1,show(k:Int)+(m:Int)=((k+m:Nat):Int) by omega]
            rfl)
           clear hrd hss hsl0;have zc:=HBY.o.at_ (i:=0) rfl;have zf:=HBY.o.free;go_upto_region 13 with fail
           have hby:Blk (w2.setCell ⟨w.heap.size+1,0,none⟩ (.int .i64 4)) (w.heap.size+1) 112 [.int .i64 4,.string { data:=#[] },.bool false,.string { data:=#[] },.int .i64 0,.int .i64 (k:Int),.int .i64 (k:Int)]:=HBY.o.set_ 0 (.int .i64 4);have hbx:=HBX.o.far (p:=⟨w.heap.size+1,0,none⟩) (show w.heap.size ≠ w.heap.size+1 by omega) (.int .i64 4);have hfx:=HFX.o.setCell (p:=⟨w.heap.size+1,0,none⟩) (.inr (Nat.le_succ _)) (.int .i64 4);generalize w2.setCell ⟨w.heap.size+1,0,none⟩ (.int .i64 4)=w3 at *;clear HBY HBX HFX zc zf;have HBY:=lh hby;have HBX:=lh hbx;have HFX:=lh hfx;clear hby hbx hfx;have zc:=HBY.o.at_ (i:=6) rfl;have zf:=HBY.o.free;go_upto_region 14 with fail
           have hby:Blk (w3.setCell ⟨w.heap.size+1,6,none⟩ (.int .i64 ((k:Int)+(m:Int)))) (w.heap.size+1) 112 [.int .i64 4,.string { data:=#[] },.bool false,.string { data:=#[] },.int .i64 0,.int .i64 (k:Int),.int .i64 ((k:Int)+(m:Int))]:=HBY.o.set_ 6 (.int .i64 ((k:Int)+(m:Int)));have hbx:=HBX.o.far (p:=⟨w.heap.size+1,6,none⟩) (show w.heap.size ≠ w.heap.size+1 by omega) (.int .i64 ((k:Int)+(m:Int)));have hfx:=HFX.o.setCell (p:=⟨w.heap.size+1,6,none⟩) (.inr (Nat.le_succ _)) (.int .i64 ((k:Int)+(m:Int)));generalize w3.setCell ⟨w.heap.size+1,6,none⟩ (.int .i64 ((k:Int)+(m:Int)))=w4 at *;clear HBY HBX HFX zc zf;have HBY:=lh hby;have HBX:=lh hbx;have HFX:=lh hfx;clear hby hbx hfx;have zc:=HBY.o.at_ (i:=1) rfl;have zf:=HBY.o.free;go_upto_region 35 with fail
           have hby:Blk (w4.setCell ⟨w.heap.size+1,1,none⟩ (.string ss)) (w.heap.size+1) 112 [.int .i64 4,.string ss,.bool false,.string { data:=#[] },.int .i64 0,.int .i64 (k:Int),.int .i64 ((k:Int)+(m:Int))]:=HBY.o.set_ 1 (.string ss);have hbx:=HBX.o.far (p:=⟨w.heap.size+1,1,none⟩) (show w.heap.size ≠ w.heap.size+1 by omega) (.string ss);have hfx:=HFX.o.setCell (p:=⟨w.heap.size+1,1,none⟩) (.inr (Nat.le_succ _)) (.string ss);generalize w4.setCell ⟨w.heap.size+1,1,none⟩ (.string ss)=w5 at *;clear HBY HBX HFX zc zf;have HBY:=lh hby;have HBX:=lh hbx;have HFX:=lh hfx;clear hby hbx hfx;have z0:=HBX.o.at_ (i:=0) rfl;have z1:=HBX.o.at_ (i:=1) rfl;have z2:=HBX.o.at_ (i:=2) rfl;have z3:=HBX.o.at_ (i:=3) rfl;have z4:=HBX.o.at_ (i:=4) rfl;have z5:=HBX.o.at_ (i:=5) rfl;have z6:=HBX.o.at_ (i:=6) rfl;have zf:=HBX.o.free;have y0:=HBY.o.at_ (i:=0) rfl;have y1:=HBY.o.at_ (i:=1) rfl;have y2:=HBY.o.at_ (i:=2) rfl;have y3:=HBY.o.at_ (i:=3) rfl;have y4:=HBY.o.at_ (i:=4) rfl;have y5:=HBY.o.at_ (i:=5) rfl;have y6:=HBY.o.at_ (i:=6) rfl;have yf:=HBY.o.free;go_wp2_with fail;exact bodyPost_ret (fA rfl rfl (HBX.o.setL (vs:=[.int .i64 4,.string ss,.bool false,.string { data:=#[] },.int .i64 0,.int .i64 (k:Int),.int .i64 ((k:Int)+(m:Int))]) rfl) Tryz.underlying112 rfl pE) rfl (HQ.o _ _ (qL HE.o HQV.o (HFX.o.setL (g:=w.heap.size) (k:=0) (vs:=[.int .i64 4,.string ss,.bool false,.string { data:=#[] },.int .i64 0,.int .i64 (k:Int),.int .i64 ((k:Int)+(m:Int))]) (.inr (Nat.le_refl _)))))
  ·have hkn':¬ k < s.size:=by rw[HN.o];exact hkn
   have HE:Hid (vE a (L.drop a)=.ok ⟨0,[],.zero,k,k⟩):=lh (by
    rw[aAe hak (by rw[HLN.o];exact hk) (by rw[HWH.o,List.drop_of_length_le (by rw[HLN.o];omega)];rfl),List.drop_of_length_le (by rw[HLN.o];omega)]
    rfl)
   have hfx:=HF0.o.alloc (.cells #[.int .i64 0,.string { data:=#[] },.bool false,.string { data:=#[] },.int .i64 0,.int .i64 (k:Int),.int .i64 (k:Int)] 112);have hbx:=HB0.o.alloc (.cells #[.int .i64 0,.string { data:=#[] },.bool false,.string { data:=#[] },.int .i64 0,.int .i64 (k:Int),.int .i64 (k:Int)] 112);have hby:=Blk.new w0 112 [.int .i64 0,.string { data:=#[] },.bool false,.string { data:=#[] },.int .i64 0,.int .i64 (k:Int),.int .i64 (k:Int)];rw[HZ0.o] at hby;go_upto_region 6 with fail
   generalize w0.alloc (.cells #[.int .i64 0,.string { data:=#[] },.bool false,.string { data:=#[] },.int .i64 0,.int .i64 (k:Int),.int .i64 (k:Int)] 112)=w1 at *;rw[HZ0.o];have HFX:=lh hfx;have HBX:=lh hbx;have HBY:=lh hby;clear hfx hbx hby;have kn:((k:Int) == (s.size:Int))=true:=by rw[beq_iff_eq,HN.o];omega
   have kn2:(k == s.size)=true:=by rw[beq_iff_eq,HN.o];omega
   have kn3:decide (k=s.size)=true:=by rw[decide_eq_true_eq,HN.o];omega
   have z0:=HBX.o.at_ (i:=0) rfl;have z1:=HBX.o.at_ (i:=1) rfl;have z2:=HBX.o.at_ (i:=2) rfl;have z3:=HBX.o.at_ (i:=3) rfl;have z4:=HBX.o.at_ (i:=4) rfl;have z5:=HBX.o.at_ (i:=5) rfl;have z6:=HBX.o.at_ (i:=6) rfl;have zf:=HBX.o.free;have y0:=HBY.o.at_ (i:=0) rfl;have y1:=HBY.o.at_ (i:=1) rfl;have y2:=HBY.o.at_ (i:=2) rfl;have y3:=HBY.o.at_ (i:=3) rfl;have y4:=HBY.o.at_ (i:=4) rfl;have y5:=HBY.o.at_ (i:=5) rfl;have y6:=HBY.o.at_ (i:=6) rfl;have yf:=HBY.o.free;go_wp2_with fail;exact bodyPost_ret (fA rfl rfl (HBX.o.setL (vs:=[.int .i64 0,.string { data:=#[] },.bool false,.string { data:=#[] },.int .i64 0,.int .i64 (k:Int),.int .i64 (k:Int)]) rfl) Tryz.underlying112 rfl pE) rfl (HQ.o _ _ (qL HE.o rfl (HFX.o.setL (g:=w.heap.size) (k:=0) (vs:=[.int .i64 0,.string { data:=#[] },.bool false,.string { data:=#[] },.int .i64 0,.int .i64 (k:Int),.int .i64 (k:Int)]) (.inr (Nat.le_refl _)))))
def aBk (w:World) (l:List UInt8) (e:Ending) (w':World):Prop:=
 Fr [] w w'/\match rC l with
 | .error er=>e=.returned (.tuple #[.slice none 0 0,.int .i64 er])/\er ≠ 0
 | .ok ts=>∃ v,e=.returned (.tuple #[v,.int .i64 0])/\w'.ownsRow 0 112 7 v ts.length (zF ts)/\∀ g,v.ownBlock=some g -> w.heap.size<=g
theorem gW {w w':World} {l:List UInt8} {er:Int} (h:rC l=.error er) (he:er ≠ 0) (hf:Fr [] w w'):aBk w l (.returned (.tuple #[.slice none 0 0,.int .i64 er])) w':=by
 refine⟨hf,?_⟩;rw[h];exact⟨rfl,he⟩
theorem aEE {w w':World} {l:List UInt8} {ts:List Tkn} {v:Value} (h:rC l=.ok ts) (ho:w'.ownsRow 0 112 7 v ts.length (zF ts)) (hg:∀ g,v.ownBlock=some g -> w.heap.size<=g) (hf:Fr [] w w'):aBk w l (.returned (.tuple #[v,.int .i64 0])) w':=by
 refine⟨hf,?_⟩;rw[h];exact⟨v,rfl,ho,hg⟩
theorem aBl:(Tryz.prog.info? 112).map (fun i=>(i.zero,i.size,i.bytes))=some (some (.agg #[.int .i64 0,.string { data:=#[] },.bool false,.string { data:=#[] },.int .i64 0,.int .i64 0,.int .i64 0]),7,72):=by kernel_rfl
def aGb (w:World) (s:ByteArray) (j:Nat) (v4 v5:Value) (wr:World):Prop:=
 ∃ (a m:Nat) (ts:List Tkn),a<=s.size/\s.size<=a+j/\v5=.int .i64 (a:Int)/\s.size < m+a/\ts.length<=a/\rC (aA s)=tR ts (aC m a ((aA s).drop a)) /\
  wr.ownsRow 0 112 7 v4 ts.length (zF ts)/\(∀ g,v4.ownBlock=some g -> w.heap.size<=g)/\Fr [] w wr
theorem all15 {w:World} (s:ByteArray) (hz:s.size<=100000):Calls Tryz.prog 23 #[.string s] w (aBk w (aA s)):=by
 refine bA fun R HQ=>?_
 by_cases hl:8192 < s.size
 ·have HE:Hid (rC (aA s)=.error 4):=lh (by unfold rC;rw[if_pos (by rw[cA];exact hl)]);have d0:decide (8192 < (s.size:Int))=true:=dT (by omega)
  go_enter Tryz.func23,Tryz.ntmps23
  go_wp2_with fail;exact HQ.o _ _ (gW HE.o (by omega) (Fr.refl _ _))
 ·have HT0:Hid (rC (aA s)=aC (s.size+1) 0 (aA s)):=lh (by unfold rC;rw[if_neg (by rw[cA];exact hl),cA]);have d0:decide (8192 < (s.size:Int))=false:=dF (by omega)
  go_enter Tryz.func23,Tryz.ntmps23
  go_wp2_with fail;clear d0
  go_loopg [4,5] s.size (fun j v4 v5 wr=>aGb w s j v4 v5 wr)
  case atStart=>exact⟨0,s.size+1,[],Nat.zero_le _,by omega,rfl,by omega,by simp,by rw[HT0.o,List.drop_zero];cases aC (s.size+1) 0 (aA s) <;> rfl,sG _ _ _ _,by simp[Value.ownBlock],Fr.refl _ _⟩
  case round=>
   obtain⟨a,m,ts,ha,hj,rfl,hm,htl,ht,hown,hge,hf⟩:=hrel;have HT:=lh ht;have HOWN:=lh hown;have HGE:=lh hge;have HF:=lh hf;have HTL:=lh htl;clear ht hown hge hf HT0 htl;obtain⟨m1,hm1⟩:∃ m1,m=m1+1:=⟨m - 1,by omega⟩;have HM1:=lh hm1;clear hm1;obtain⟨oA,oc,hov,_,_⟩:=jC HOWN.o;have HOV:=lh hov;clear hov;go_wp2_with fail;refine(aHr s a ha hz).mono ?_;rintro e w1 ⟨hf1,hr1⟩;have HF1:=lh (HF.o.trans hf1);have HW1:=lh hf1;clear hf1
   cases hn:vE a ((aA s).drop a) with
   | error er=>
    rw[hn] at hr1;obtain⟨rfl,hne⟩:=hr1;have HE:Hid (rC (aA s)=.error er):=lh (by rw[HT.o,HM1.o,aC,hn];rfl);have HNE:=lh hne;have dn:(er != 0)=true:=by rw[bne_iff_ne];exact hne
    clear hn hne;go_wp2_with fail;exact HQ.o _ _ (gW HE.o HNE.o (HF1.o.alloc _))
   | ok t=>
    rw[hn] at hr1;have hok:=kM hn;have HE0:Hid (aC m a ((aA s).drop a)=if t.kind=0 then .ok [] else match aC m1 t.til (((aA s).drop a).drop (t.til - a)) with | .error e=>.error e | .ok ts=>.ok (t :: ts)):=lh (by rw[HM1.o,aC,hn];rfl);clear hn;subst hr1;obtain⟨tk,tsx,⟨tneg,tdig,texp⟩,tfrm,ttil⟩:=t;obtain⟨sv,hsv⟩:∃ sv,S8 tsx=.string sv:=⟨_,rfl⟩;obtain⟨dv,hdv⟩:∃ dv,S8 tdig=.string dv:=⟨_,rfl⟩;have hvs:Tkn.vals ⟨tk,tsx,⟨tneg,tdig,texp⟩,tfrm,ttil⟩=[.int .i64 (tk:Int),.string sv,.bool tneg,.string dv,.int .i64 texp,.int .i64 (tfrm:Int),.int .i64 (ttil:Int)]:=by rw[<- hsv,<- hdv];rfl
    rw[hvs];have HVS:=lh hvs
    simp only at hok
    obtain⟨h1,h2,h3,h4⟩:=hok;rw[List.length_drop,cA] at h2;clear hsv hdv hvs
    by_cases hk0:tk=0
    ·have HE:Hid (rC (aA s)=.ok ts):=lh (by rw[HT.o,HE0.o,if_pos hk0];simp[tR]);have dk:((tk:Int) == 0)=true:=by rw[hk0];rfl
     clear h3 h4 hk0;go_wp2_with fail;exact HQ.o _ _ (aEE HE.o ((sB HOWN.o HW1.o (by simp)).alloc _) HGE.o (HF1.o.alloc _))
    ·have dk:((tk:Int) == 0)=false:=by rw[beq_eq_false_iff_ne];omega
     have h5:=h4 hk0;obtain⟨h6,h7,_⟩:=h5
     simp only at h6 h7
     have HE:Hid (rC (aA s)=tR (ts ++ [⟨tk,tsx,⟨tneg,tdig,texp⟩,tfrm,ttil⟩]) (aC m1 ttil ((aA s).drop ttil))):=lh (by
      rw[HT.o,HE0.o,if_neg hk0,List.drop_drop]
      simp only
      rw[show a+(ttil - a)=ttil by omega]
      cases aC m1 ttil ((aA s).drop ttil) with
      | error e=>rfl
      | ok x=>simp[tR])
     have hlt:a < ttil/\ttil<=s.size:=by omega
     obtain⟨hlt1,hlt2⟩:=hlt;clear h1 h2 h3 h4 h6 h7 hk0 HT HE0;go_upto_region 10 with fail
     refine wp_region_lit ?_
     iterate 2 (refine rn rfl (by go_simp <;> with_reducible rfl) ?_;simp only[nrm])
     refine lp fun K hK=>?_;obtain⟨iu,hi,hz',hsz',hby⟩:=info_parts aBl;refine kD (.tmp 25) rfl Tryz.underlying66 hi hz' [.int .i64 (tk:Int),.string sv,.bool tneg,.string dv,.int .i64 texp,.int .i64 (tfrm:Int),.int .i64 (ttil:Int)] rfl hsz' rfl (by simp) (by simp) (hK _ _ ?_);simp only[nrm];clear hK;have hb2:=Blk.new w1 112 [.int .i64 (tk:Int),.string sv,.bool tneg,.string dv,.int .i64 texp,.int .i64 (tfrm:Int),.int .i64 (ttil:Int)];have hf2:Fr [] w1 (w1.alloc (.cells #[.int .i64 (tk:Int),.string sv,.bool tneg,.string dv,.int .i64 texp,.int .i64 (tfrm:Int),.int .i64 (ttil:Int)] 112)):=(Fr.refl [] w1).alloc _;have hz2:(w1.alloc (.cells #[.int .i64 (tk:Int),.string sv,.bool tneg,.string dv,.int .i64 texp,.int .i64 (tfrm:Int),.int .i64 (ttil:Int)] 112)).heap.size=w1.heap.size+1:=by simp
     generalize w1.alloc (.cells #[.int .i64 (tk:Int),.string sv,.bool tneg,.string dv,.int .i64 texp,.int .i64 (tfrm:Int),.int .i64 (ttil:Int)] 112)=w2 at *;have hb3:=Blk.new w2 112 [.int .i64 (tk:Int),.string sv,.bool tneg,.string dv,.int .i64 texp,.int .i64 (tfrm:Int),.int .i64 (ttil:Int)];have hf3:Fr [] w2 (w2.alloc (.cells #[.int .i64 (tk:Int),.string sv,.bool tneg,.string dv,.int .i64 texp,.int .i64 (tfrm:Int),.int .i64 (ttil:Int)] 112)):=(Fr.refl [] w2).alloc _;have hz3:(w2.alloc (.cells #[.int .i64 (tk:Int),.string sv,.bool tneg,.string dv,.int .i64 texp,.int .i64 (tfrm:Int),.int .i64 (ttil:Int)] 112)).heap.size=w1.heap.size+2:=by simp[hz2]
     have hb23:=hb2.fr hf3;generalize w2.alloc (.cells #[.int .i64 (tk:Int),.string sv,.bool tneg,.string dv,.int .i64 texp,.int .i64 (tfrm:Int),.int .i64 (ttil:Int)] 112)=w3 at *;refine lp fun K hK=>?_;have how:=sB (sB (sB HOWN.o HW1.o (by simp)) hf2 (by simp)) hf3 (by simp);have hone:=eT ⟨tk,tsx,⟨tneg,tdig,texp⟩,tfrm,ttil⟩;rw[HVS.o] at hone;refine jB (.tmp 24) (.tmp 26) rfl 112 7 72 Tryz.underlying66 hi hz' hsz' hby rfl (by omega) u4 ts.length (zF ts) rfl how ⟨w2.heap.size,0,none⟩ 1 1 [.int .i64 (tk:Int),.string sv,.bool tneg,.string dv,.int .i64 texp,.int .i64 (tfrm:Int),.int .i64 (ttil:Int)] rfl rfl (fun j u hu=>by rw[Addr.add_mid,Nat.zero_add];exact hb3.at_ hu) hone (by omega) (by unfold maxLen;have:=HTL.o;omega) (by have:=HTL.o;omega) (w1.heap.size+2) hz3 fun g7 cap w7 ho7 hf7 hat7 hlt7=>hK _ _ ?_;simp only[nrm];clear hK;refine rn rfl (by go_simp <;> with_reducible rfl) ?_;simp only[nrm];refine wpList_nil ?_;have hwz:=HF1.o.size
     have hge7:∀ g,(Value.slice (some ⟨g7,0,none⟩) (ts.length+1) cap).ownBlock=some g -> w.heap.size<=g:=fun g hg=>by
      have e:g7=g:=by simpa[Value.ownBlock] using hg
      rcases hat7 with h | h
      ·exact HGE.o g (e ▸ h)
      ·omega
     have hb7:=hb23.fr hf7 (by
      intro hm;have h1:u4.ownBlock=some w1.heap.size:=by simpa using hm
      have:=iL (sB HOWN.o HW1.o (by simp)) _ h1;omega)
     have hf07:Fr [] w w7:=((HF1.o.trans hf2).trans hf3).trans hf7 (fun x hx=>.inr (HGE.o x (by simpa using hx)));have HB7:=lh hb7;have HO7:=lh ho7;have HG7:=lh hge7;have HF7:=lh hf07;have b6:=hb7.at_ (i:=6) rfl;clear hb2 hf2 hz2 hb3 hf3 hz3 hb23 how hone hf7 hat7 hlt7 hb7 ho7 hge7 hf07 hi hz' hsz' hby;go_wp2_with fail
     go_roundg (s.size - ttil)
     case measure=>omega
     case rel=>exact⟨ttil,m1,ts ++ [⟨tk,tsx,⟨tneg,tdig,texp⟩,tfrm,ttil⟩],hlt2,by omega,rfl,by have:=HM1.o;omega,by have:=HTL.o;rw[List.length_append];simp;omega,HE.o,by rw[rL,List.length_append];show w7.ownsRow 0 _ 7 _ _ (zF ts ++ (Tkn.vals _ ++ []));rw[HVS.o];simpa using HO7.o,HG7.o,HF7.o⟩
end
end Go.Proofs.YtbggkiebfflcdaaGreatDoor
