/-
  Joined by join.py: Ik Il Em Er Es Et Im Hd He
-/
import Derived.Test.YtbggkiebfflcdaaGreatDoorJpp15
set_option maxRecDepth 100000
set_option maxHeartbeats 32000000
namespace Go.Proofs.YtbggkiebfflcdaaGreatDoor
section
open Go.RowKit Go.Shelf
theorem jZ {w:World} (s:ByteArray) (hz:s.size<=100000000):RV 88 #[.string s] w (.string ⟨(wO (aA s)).toArray⟩):=by
 refine bA fun R HQ=>?_;have hlen:=cA s;obtain⟨l,hl⟩:∃ l,aA s=l:=⟨_,rfl⟩;obtain⟨n,hn⟩:∃ n,s.size=n:=⟨_,rfl⟩;have HL:=lh hl;rw[hl,hn] at hlen;rw[hl] at HQ;rw[hn] at hz;have HN:=lh hn;have HLN:=lh hlen
 go_enter Tryz.func88,Tryz.ntmps88
 go_wp2_with fail;clear hl hn hlen
 go_loopg [3,4] n (fun j u v wr=>aGO cJ 39 l n w j u v wr)
 case atStart=>exact⟨0,by omega,rfl,rfl,Fr.refl [] w⟩
 case round=>
  obtain⟨k,hk,rfl,rfl,hF⟩:=hrel;have HF:=lh hF;clear hF
  have hlk:(39 :: (l.take k).flatMap cJ).length<=600000001:=by
   have:=yT (l.take k);rw[List.length_take,HLN.o] at this;rw[List.length_cons];omega
  obtain⟨O,hO⟩:∃ O,(39 :: (l.take k).flatMap cJ)=O:=⟨_,rfl⟩;have HO:=lh hO;rw[hO] at hlk ⊢;clear hO
  by_cases hkn:k < n
  ·have hkn':k < s.size:=by rw[HN.o];exact hkn
   obtain⟨c,hc⟩:∃ c,l[k]? = some c:=gx (by rw[HLN.o];exact hkn);have hix:=fun W=>rA (s:=s) (by rw[HL.o];exact hc) .i64 W;have HNX:Hid (39 :: (l.take (k+1)).flatMap cJ=O ++ cJ c):=lh (by rw[uN cJ hc,<- HO.o];rfl);obtain⟨t1,ht1,htz,hsl⟩:=uH s k (k+1) (by omega) (by rw[HN.o];omega);rw[HL.o,xA hc,show k+1 - k=1 by omega] at ht1;have ht2:aA t1=[c]:=by simpa using ht1
   have hsl1:=fun W=>hsl .i64 .i64 W;rw[show((k+1:Nat):Int)=(k:Int)+1 by omega] at hsl1;clear hc ht1 hsl
   by_cases h39:c=39
   ·have HEB:Hid (cJ c=[92,39]):=lh (by subst h39;rfl);have d1:((c.toNat:Int) == 39)=true:=by subst h39;rfl
    clear h39 hsl1 ht2 htz;have ha:=fun W=>uB O [92,39] (by simp only[LN];omega) W;go_wp2_with fail
    go_roundg (n - (k+1))
    case measure=>omega
    case rel=>exact⟨k+1,by omega,by rw[HNX.o,HEB.o],by go_num,HF.o⟩
   ·have d1:((c.toNat:Int) == 39)=false:=by rw[beq_eq_false_iff_ne];intro h;exact h39 (UInt8.toNat_inj.1 (by show c.toNat=39;omega))
    by_cases h34:c=34
    ·have HEB:Hid (cJ c=[34]):=lh (by subst h34;rfl);have d2:((c.toNat:Int) == 34)=true:=by subst h34;rfl
     clear h39 h34 hsl1 ht2 htz;have ha:=fun W=>uB O [34] (by simp only[LN];omega) W;go_wp2_with fail
     go_roundg (n - (k+1))
     case measure=>omega
     case rel=>exact⟨k+1,by omega,by rw[HNX.o,HEB.o],by go_num,HF.o⟩
    ·have HEB:Hid (cJ c=rE c):=lh (by unfold cJ;rw[if_neg h39,if_neg h34]);have d2:((c.toNat:Int) == 34)=false:=by rw[beq_eq_false_iff_ne];intro h;exact h34 (UInt8.toNat_inj.1 (by show c.toNat=34;omega))
     have hq:oK (aA t1)=34 :: rE c ++ [34]:=by rw[ht2];unfold oK;simp
     obtain⟨qs,hqs⟩:∃ qs:ByteArray,qs=⟨(oK (aA t1)).toArray⟩:=⟨_,rfl⟩;have hqb:aA qs=34 :: rE c ++ [34]:=by rw[hqs];exact hq
     have hel:=xT c;have hqz:qs.size=(rE c).length+2:=by rw[<- cA,hqb];simp
     have hx5:qs.extract 1 ((rE c).length+1)=⟨(rE c).toArray⟩:=xM (by rw[lC,hqb];simp);have HQU:=lh (fun W=>iZ (w:=W) t1 (by omega));rw[<- hqs] at HQU;obtain⟨E,hE⟩:∃ E,rE c=E:=⟨_,rfl⟩;rw[hE] at hx5 hel hqz HEB;obtain⟨el,hel2⟩:∃ el,E.length=el:=⟨_,rfl⟩;rw[hel2] at hx5 hel hqz;have HX5:=lh hx5;have hzw:IntKind.i64.wrap ((qs.size:Int) - 1)=(el:Int)+1:=by rw[IntKind.wrap_i64];omega
     clear h39 h34 hqs hq hqb ht2 htz hx5 hE hel2;go_wp2_with fail;refine(HQU.o _).mono ?_;rintro e w2 ⟨rfl,hf2⟩;have HF2:=lh (HF.o.trans hf2);clear hf2;go_wp2_with fail
     go_roundg (n - (k+1))
     case measure=>omega
     case rel=>exact⟨k+1,by omega,by rw[HX5.o,wM,HNX.o,HEB.o],by go_num,HF2.o⟩
  ·have hkn':¬ k < s.size:=by rw[HN.o];exact hkn
   have hte:l.take k=l:=List.take_of_length_le (by rw[HLN.o];omega);have hol:O=39 :: l.flatMap cJ:=by rw[<- HO.o,hte]
   have HOL:=lh hol;have ha:=fun W=>uB O [39] (by simp only[LN];omega) W;clear hte hol;go_wp2_with fail;exact HQ.o _ _ ⟨by rw[HOL.o];unfold wO;simp,HF.o⟩
theorem xW (c:UInt8) (w:World):Calls Tryz.prog 173 #[.int .u8 (c.toNat:Int)] w fun e w'=>e=.returned (.bool (yA c))/\w=w':=by
 refine bA fun R HQ=>?_;have HFG:Hid (yA c=decide (48<=c.toNat/\c.toNat<=57)):=lh rfl
 go_enter Tryz.func173,Tryz.ntmps173
 by_cases h1:48<=c.toNat
 ·by_cases h2:c.toNat<=57
  ·have d1:decide ((48:Int)<=(c.toNat:Int))=true:=dT (by omega)
   have d2:decide ((c.toNat:Int)<=57)=true:=dT (by omega)
   have HB:Hid (yA c=true):=lh (by rw[HFG.o,decide_eq_true_eq];exact⟨h1,h2⟩);clear h1 h2;go_wp2_with fail;exact HQ.o _ _ ⟨by rw[HB.o];rfl,rfl⟩
  ·have d1:decide ((48:Int)<=(c.toNat:Int))=true:=dT (by omega)
   have d2:decide ((c.toNat:Int)<=57)=false:=dF (by omega)
   have HB:Hid (yA c=false):=lh (by rw[HFG.o,decide_eq_false_iff_not];exact fun h=>h2 h.2);clear h1 h2;go_wp2_with fail;exact HQ.o _ _ ⟨by rw[HB.o];rfl,rfl⟩
 ·have d1:decide ((48:Int)<=(c.toNat:Int))=false:=dF (by omega)
  have HB:Hid (yA c=false):=lh (by rw[HFG.o,decide_eq_false_iff_not];exact fun h=>h1 h.1);clear h1;go_wp2_with fail;exact HQ.o _ _ ⟨by rw[HB.o];rfl,rfl⟩
def ZoRel (n:Nat) (w:World) (j:Nat) (u v:Value) (wr:World):Prop:=∃ k:Nat,k+j=n/\u=.string ⟨(nF k).toArray⟩/\v=.int .i64 (k:Int)/\w=wr
theorem aBH (n:Nat) (hn:n<=100000) (w:World):Calls Tryz.prog 135 #[.int .i64 (n:Int)] w fun e w'=>e=.returned (.string ⟨(nF n).toArray⟩)/\w=w':=by
 refine bA fun R HQ=>?_
 go_enter Tryz.func135,Tryz.ntmps135
 go_wp2_with fail
 go_loopg [3,4] n (fun j u v wr=>ZoRel n w j u v wr)
 case atStart=>exact⟨0,by omega,rfl,rfl,rfl⟩
 case round=>
  obtain⟨k,hk,rfl,rfl,rfl⟩:=hrel
  by_cases hkn:k < n
  ·have hkl:(k:Int) < (n:Int):=by omega
   have hzl:(nF k).length=k:=by unfold nF;simp
   have ha:=fun W=>uB (nF k) [48] (by rw[hzl];simp only[LN];omega) W;have HNX:Hid (nF (k+1)=nF k ++ [48]):=lh (by unfold nF;rw[List.replicate_succ']);clear hzl;go_wp2_with fail
   go_roundg (n - (k+1))
   case measure=>omega
   case rel=>exact⟨k+1,by omega,by rw[HNX.o],by go_num,rfl⟩
  ·have hkl:¬ (k:Int) < (n:Int):=by omega
   have HE:Hid (k=n):=lh (by omega);go_wp2_with fail;exact HQ.o _ _ ⟨by rw[HE.o],rfl⟩
theorem aBI:∀ n:Fin 10,(⟨#[48,49,50,51,52,53,54,55,56,57]⟩:ByteArray).extract n.val (n.val+1)=⟨#[UInt8.ofNat (48+n.val)]⟩:=by decide +kernel
theorem aBJ:∀ (u:Nat),u<=1000000 -> ∀ w:World,RV 136 #[.int .i64 (u:Int)] w (.string ⟨(Lib.decDigits u).toArray⟩):=by
 intro u
 induction u using Nat.strongRecOn with
 | _ u ih=>
  intro hu w;refine bA fun R HQ=>?_
  by_cases h:u < 10
  ·have hd:=Lib.decDigits_one h;have hx:=aBI ⟨u,h⟩;have HD:=lh hd;have HX:=lh hx;have d1:decide ((u:Int) < 10)=true:=dT (by omega)
   clear hd hx
   go_enter Tryz.func136,Tryz.ntmps136
   go_wp2_with fail;exact HQ.o _ _ ⟨by rw[HD.o];exact congrArg (fun s=>Ending.returned (Value.string s)) HX.o,Fr.refl _ _⟩
  ·have hd:Lib.decDigits u=Lib.decDigits (u / 10) ++ [UInt8.ofNat (48+u % 10)]:=by rw[Lib.decDigits,dif_neg h]
   have hq:(u:Int).tdiv 10=((u / 10:Nat):Int):=rfl;have hr:(u:Int).tmod 10=((u % 10:Nat):Int):=rfl;have HIH:=lh (ih (u / 10) (by omega) (by omega));have hq9:u / 10<=100000:=by omega
   have hr9:u % 10 < 10:=by omega
   have d1:decide ((u:Int) < 10)=false:=dF (by omega)
   clear ih h;generalize u / 10=qn at *;generalize u % 10=r at *;have hx:=aBI ⟨r,hr9⟩;obtain⟨ch,hch⟩:∃ ch,UInt8.ofNat (48+r)=ch:=⟨_,rfl⟩;rw[hch] at hd;simp only[hch] at hx;have HD:=lh hd;have hwq:IntKind.i64.wrap (qn:Int)=(qn:Int):=by rw[IntKind.wrap_i64];omega
   have hw:=wi r (by omega)
   obtain⟨t,ht,htz,hsl0⟩:=uH ⟨#[48,49,50,51,52,53,54,55,56,57]⟩ r (r+1) (by omega) (show r+1<=10 by omega)
   have hte:t=⟨[ch].toArray⟩:=by
    refine xM ?_;rw[ht,<- lC,hx]
    rfl
   rw[hte] at hsl0;have hsl:∀ W,(Instr.slice 9 (.string ⟨#[48,49,50,51,52,53,54,55,56,57]⟩) (some (.int .i64 (r:Int))) (some (.int .i64 ((r:Int)+1))) none).run Tryz.prog W=.ok (.string ⟨[ch].toArray⟩) W:=fun W=>hsl0 .i64 .i64 W;have ha:=fun W=>uB (Lib.decDigits qn) [ch] (by have:=(aY qn).2.2.2.2 9 (by omega);simp only[LN];omega) W;clear hd hx ht htz hsl0 hte hch
   go_enter Tryz.func136,Tryz.ntmps136
   go_upto_region 3 with fail
   refine mA (fun W=>True/\True) [0,1,3,4,5,6,7,8,9] (by kernel_rfl) ?_;refine tks [0,1,3,4,5,6,7,8] ?_
   iterate 8 (refine tk rfl rfl ⟨trivial,trivial⟩ rfl (fun _ hW=>by(obtain⟨_,_⟩:=hW;go_simp) <;> with_reducible rfl) ?_;simp only[nrm])
   refine tke ?_;refine sp 2 rfl rfl rfl fun K hK=>?_;refine zA (l:=[.tmp 10]) rfl [.int .i64 (qn:Int)] rfl (fun W=>by kernel_rfl) ((HIH.o _).mono ?_);rintro e w2 ⟨rfl,hf2⟩;have hf02:Fr [] w w2:=((Fr.refl [] w).drew).trans hf2;refine⟨_,rfl,hK _ _ (fun _=>⟨trivial,trivial⟩) ?_⟩;simp only[nrm];clear hK;refine tks [9] ?_;refine tk rfl rfl ⟨trivial,trivial⟩ rfl (fun _ hW=>by(obtain⟨_,_⟩:=hW;go_simp) <;> with_reducible rfl) ?_;simp only[nrm];refine tke ?_;refine sp 10 rfl rfl rfl fun K hK=>?_;refine tA (v:=?aq1_10) ?yq1_10 (hK _ _ (fun _=>⟨trivial,trivial⟩) ?_)
   case yq1_10=>go_simp <;> with_reducible rfl
   simp only[nrm];refine wd ?_ _;have HF2:=lh hf02;clear hf2 hf02;go_wp2_with fail;exact HQ.o _ _ ⟨by rw[HD.o];rfl,HF2.o⟩
end
section
open Go.RowKit
theorem aEe {c:UInt8} (h:c.toNat < 128):xC 0 c=true/\lB (c.toNat:Int)=true:=by
 have:=qD (fun c=>!decide (c.toNat < 128) || (xC 0 c && lB (c.toNat:Int))) (by decide +kernel) c
 simpa[h] using this
theorem zT {c:UInt8} (h:c.toNat < 128) (l:List UInt8):mB (c :: l)=some (c.toNat,1):=by
 obtain⟨h1,h2⟩:=aEe h;unfold mB
 dsimp only
 rw[if_pos h1];unfold tD;have:fD (vB 0 c) (l.take 0)=some c.toNat:=by simp[fD,vB,oF]
 rw[this]
 dsimp only
 rw[h2,if_neg (by simp[yB])]
def aGP:List UInt8 -> Bool
 | []=>true
 | c :: _=>!yA c && !eB c && !(c.toNat == 43) && !(c.toNat == 45) && !(c.toNat == 46)
theorem kZ {l:List UInt8} (h:aGP l=true) (p:Option UInt8):vA p l=0:=by
 match l with
 | []=>cases p <;> rfl
 | c :: l=>
  simp only[aGP,Bool.and_eq_true,Bool.not_eq_true'] at h;obtain⟨⟨⟨⟨a1,a2⟩,a3⟩,a4⟩,a5⟩:=h;unfold vA
  simp[a1,a2,a3,a4,a5]
end
section
def Cl.isR (k:Nat):Cl -> Bool
 | .leaf _=>false
 | .rows n _=>n == k
end
section
open Go.RowKit
theorem xJ {k:Nat} {b:UInt8} (hk:k < 4) (h:xC k b=true):(k=0 -> b.toNat < 128)/\(k=1 -> 192<=b.toNat/\b.toNat < 224)/\(k=2 -> 224<=b.toNat/\b.toNat < 240)/\(k=3 -> 240<=b.toNat/\b.toNat < 248):=by
 have:=qD (fun b=>(!xC 0 b || decide (b.toNat < 128)) && (!xC 1 b || decide (192<=b.toNat/\b.toNat < 224)) && (!xC 2 b || decide (224<=b.toNat/\b.toNat < 240)) && (!xC 3 b || decide (240<=b.toNat/\b.toNat < 248))) (by decide +kernel) b;simp only[Bool.and_eq_true,Bool.or_eq_true,Bool.not_eq_true',decide_eq_true_eq] at this;obtain⟨⟨⟨t0,t1⟩,t2⟩,t3⟩:=this;refine⟨fun e=>?_,fun e=>?_,fun e=>?_,fun e=>?_⟩ <;> subst e
 ·exact t0.resolve_left (by rw[h];simp)
 ·exact t1.resolve_left (by rw[h];simp)
 ·exact t2.resolve_left (by rw[h];simp)
 ·exact t3.resolve_left (by rw[h];simp)
theorem aL {b:UInt8} (h:jP b=true):128<=b.toNat/\b.toNat < 192:=by
 have:=qD (fun b=>!jP b || decide (128<=b.toNat/\b.toNat < 192)) (by decide +kernel) b
 simpa[h] using this
theorem fJ {n:Nat} {b:UInt8} (h:n=b.toNat):UInt8.ofNat n=b:=by subst h;simp
theorem yM {l:List UInt8} {r k:Nat} (h:mB l=some (r,k)):vC r=l.take k/\(∀ more,mB (l.take k ++ more)=some (r,k))/\(1 < k -> 128<=r/\∀ c ∈ l.take k,128<=c.toNat)/\(k=1 -> ∃ c,l.take k=[c]/\r=c.toNat/\c.toNat < 128):=by
 have hK:∀ j b0 bs,tD j b0 bs=some (r,k) -> k=j+1/\fD (vB j b0) (bs.take j)=some r/\(yB j:Int)<=r/\lB r=true:=fun j b0 bs h=>by
  unfold tD at h
  split at h
  ·cases h
  ·rename_i r1 h1
   split at h
   ·cases h
   ·rename_i h2
    simp only[Option.some.injEq,Prod.mk.injEq] at h;obtain⟨rfl,rfl⟩:=h;refine⟨rfl,h1,by omega,?_⟩
    cases hs:lB r1
    ·exact absurd (.inr hs) h2
    ·rfl
 match l with
 | []=>cases h
 | b0 :: bs=>
  rw[mB] at h
  split at h
  ·rename_i g0
   obtain⟨rfl,h2,h3,h4⟩:=hK _ _ _ h;have hb:=(xJ (by decide) g0).1 rfl;simp only[List.take_zero,fD,vB,oF,Nat.sub_zero,Option.some.injEq] at h2;subst h2;refine⟨?_,fun more=>zT hb _,fun e=>absurd e (by decide),fun _=>⟨b0,rfl,rfl,hb⟩⟩;unfold vC;rw[if_pos hb]
   simp
  ·rename_i g0
   split at h
   ·rename_i g1
    obtain⟨rfl,h2,h3,h4⟩:=hK _ _ _ h;have hb:=(xJ (by decide) g1.2).2.1 rfl
    match bs,g1.1 with
    | c1 :: bs,_=>
     simp only[List.take_succ_cons,List.take_zero,fD,vB,oF,yB] at h2 h3
     split at h2
     ·rename_i k1
      have hc:=aL k1;simp only[Option.some.injEq] at h2;refine⟨?_,fun more=>?_,fun _=>⟨by omega,fun c hc'=>?_⟩,fun e=>absurd e (by decide)⟩
      ·unfold vC;rw[if_neg (by omega),if_pos (by omega)];simp only[Nat.reduceAdd,List.take_succ_cons,List.take_zero];rw[fJ (b:=b0) (by omega),fJ (b:=c1) (by omega)]
      ·simp only[Nat.reduceAdd,List.take_succ_cons,List.take_zero,List.cons_append,List.nil_append];rw[mB,if_neg g0,if_pos ⟨by simp,g1.2⟩];unfold tD;simp only[List.take_succ_cons,List.take_zero,fD,vB,oF,yB,k1,if_true,h2];rw[if_neg (by rw[h4];simp;omega)]
      ·simp only[Nat.reduceAdd,List.take_succ_cons,List.take_zero,List.mem_cons,List.not_mem_nil,or_false] at hc';rcases hc' with rfl | rfl <;> omega
     ·cases h2
   ·rename_i g1
    split at h
    ·rename_i g2
     obtain⟨rfl,h2,h3,h4⟩:=hK _ _ _ h;have hb:=(xJ (by decide) g2.2).2.2.1 rfl
     match bs,g2.1,g1 with
     | c1 :: c2 :: bs,_,g1=>
      simp only[List.take_succ_cons,List.take_zero,fD,vB,oF,yB] at h2 h3
      split at h2
      ·rename_i k1
       split at h2
       ·rename_i k2
        have hc:=aL k1;have hc2:=aL k2;simp only[Option.some.injEq] at h2
        have gl:xC 1 b0=false:=by
         cases hl:xC 1 b0
         ·rfl
         ·have:=(xJ (by decide) hl).2.1 rfl;omega
        refine⟨?_,fun more=>?_,fun _=>⟨by omega,fun c hc'=>?_⟩,fun e=>absurd e (by decide)⟩
        ·unfold vC;rw[if_neg (by omega),if_neg (by omega),if_pos (by omega)];simp only[Nat.reduceAdd,List.take_succ_cons,List.take_zero];rw[fJ (b:=b0) (by omega),fJ (b:=c1) (by omega),fJ (b:=c2) (by omega)]
        ·simp only[Nat.reduceAdd,List.take_succ_cons,List.take_zero,List.cons_append,List.nil_append];rw[mB,if_neg g0,if_neg (by rw[gl];simp),if_pos ⟨by simp,g2.2⟩];unfold tD;simp only[List.take_succ_cons,List.take_zero,fD,vB,oF,yB,k1,k2,if_true,h2];rw[if_neg (by rw[h4];simp;omega)]
        ·simp only[Nat.reduceAdd,List.take_succ_cons,List.take_zero,List.mem_cons,List.not_mem_nil,or_false] at hc';rcases hc' with rfl | rfl | rfl <;> omega
       ·cases h2
      ·cases h2
    ·rename_i g2
     split at h
     ·rename_i g3
      obtain⟨rfl,h2,h3,h4⟩:=hK _ _ _ h;have hb:=(xJ (by decide) g3.2).2.2.2 rfl
      match bs,g3.1,g1,g2 with
      | c1 :: c2 :: c3 :: bs,_,g1,g2=>
       simp only[List.take_succ_cons,List.take_zero,fD,vB,oF,yB] at h2 h3
       split at h2
       ·rename_i k1
        split at h2
        ·rename_i k2
         split at h2
         ·rename_i k3
          have hc:=aL k1;have hc2:=aL k2;have hc3:=aL k3;simp only[Option.some.injEq] at h2
          have gl:xC 1 b0=false:=by
           cases hl:xC 1 b0
           ·rfl
           ·have:=(xJ (by decide) hl).2.1 rfl;omega
          have gl2:xC 2 b0=false:=by
           cases hl:xC 2 b0
           ·rfl
           ·have:=(xJ (by decide) hl).2.2.1 rfl;omega
          refine⟨?_,fun more=>?_,fun _=>⟨by omega,fun c hc'=>?_⟩,fun e=>absurd e (by decide)⟩
          ·unfold vC;rw[if_neg (by omega),if_neg (by omega),if_neg (by omega)];simp only[Nat.reduceAdd,List.take_succ_cons,List.take_zero];rw[fJ (b:=b0) (by omega),fJ (b:=c1) (by omega),fJ (b:=c2) (by omega),fJ (b:=c3) (by omega)]
          ·simp only[Nat.reduceAdd,List.take_succ_cons,List.take_zero,List.cons_append,List.nil_append];rw[mB,if_neg g0,if_neg (by rw[gl];simp),if_neg (by rw[gl2];simp),if_pos ⟨by simp,g3.2⟩];unfold tD;simp only[List.take_succ_cons,List.take_zero,fD,vB,oF,yB,k1,k2,k3,if_true,h2];rw[if_neg (by rw[h4];simp;omega)]
          ·simp only[Nat.reduceAdd,List.take_succ_cons,List.take_zero,List.mem_cons,List.not_mem_nil,or_false] at hc';rcases hc' with rfl | rfl | rfl | rfl <;> omega
         ·cases h2
        ·cases h2
       ·cases h2
     ·cases h
theorem aU {d:Dcm} (h:d.sane=true) (h0:d.digits ≠ []):d.digits.length<=40/\d.digits.all yA=true /\ -400<=d.high/\d.high<=400/\d.digits.head? ≠ some 48/\d.digits.getLast? ≠ some 48:=by
 unfold Dcm.sane at h;rw[if_neg h0] at h;simp only[Bool.and_eq_true,decide_eq_true_eq] at h;obtain⟨⟨⟨⟨h1,h2⟩,h3,h4⟩,h5⟩,h6⟩:=h;exact⟨h1,h2,h3,h4,h5,h6⟩
end
section
open Go.RowKit Go.Shelf
def aEf (n:Nat) (w:World) (j:Nat) (v:Value) (wr:World):Prop:=∃ k:Nat,k+j=n/\v=.int .i64 (k:Int)/\w=wr
theorem aEg {w:World} (d:Dcm) (h:d.sane=true):RV 134 #[gC d] w (.bool true):=by
 refine bA fun R HQ=>?_
 by_cases h0:d.digits=[]
 ·have hd:d=.zero:=by
   obtain⟨neg,D,e⟩:=d
   simp only at h0
   subst h0;simp only[Dcm.sane,if_true,decide_eq_true_eq] at h;obtain⟨rfl,rfl⟩:=h
   rfl
  subst hd;clear h h0;unfold gC S8 Dcm.zero
  simp only
  go_enter Tryz.func134,Tryz.ntmps134
  go_wp2_with fail;exact HQ.o _ _ ⟨by rfl,(Fr.refl _ _).alloc _⟩
 ·obtain⟨f1,f2,f3,f4,f5,f6⟩:=aU h h0;obtain⟨neg,digits,exp⟩:=d;simp only[Dcm.high] at h0 f1 f2 f3 f4 f5 f6;unfold gC S8
  simp only
  obtain⟨s,hs⟩:∃ s:ByteArray,s=⟨digits.toArray⟩:=⟨_,rfl⟩;have hz:s.size=digits.length:=by rw[hs];simp[ByteArray.size]
  have hsb:aA s=digits:=by rw[hs];rfl
  rw[<- hs];have hn0:0 < digits.length:=by cases digits with | nil=>exact absurd rfl h0 | cons _ _=>simp
  obtain⟨c0,hc0⟩:=gx (l:=digits) hn0;obtain⟨c9,hc9⟩:∃ c,digits[digits.length - 1]? = some c:=gx (by omega)
  have e0:((c0.toNat:Int) != 48)=true:=by
   rw[<- iV c0,decide_eq_true_eq];rw[List.head?_eq_getElem?,hc0] at f5;exact f5
  have e9:((c9.toNat:Int) != 48)=true:=by
   rw[<- iV c9,decide_eq_true_eq];rw[List.getLast?_eq_getElem?,hc9] at f6;exact f6
  have hi0:∀ W,(Instr.index 9 (.string s) (.int .i64 0)).run Tryz.prog W=.ok (.int .u8 (c0.toNat:Int)) W:=fun W=>rA (s:=s) (by rw[hsb];exact hc0) .i64 W;have hi9:=fun W=>rA (s:=s) (i:=digits.length - 1) (by rw[hsb];exact hc9) .i64 W;rw[<- hz] at hi9 f1 f3 f4 hn0;obtain⟨n,hn⟩:∃ n,s.size=n:=⟨_,rfl⟩;rw[show((s.size - 1:Nat):Int)=(s.size:Int) - 1 by omega] at hi9;have HSB:=lh hsb;have HAL:=lh f2;have HN:=lh hn;have HZ:=lh hz;rw[hn] at hi9 f1 f3 f4 hn0;have hw1:IntKind.i64.wrap ((n:Int) - 1)=(n:Int) - 1:=by rw[IntKind.wrap_i64];omega
  have hw2:IntKind.i64.wrap ((n:Int)+exp)=(n:Int)+exp:=by rw[IntKind.wrap_i64];omega
  have z0:((n:Int) == 0)=false:=by rw[beq_eq_false_iff_ne];omega
  have z1:decide ((n:Int)<=40)=true:=dT (by omega)
  have z2:decide (-1000<=exp)=true:=dT (by omega)
  have z3:decide (exp<=1000)=true:=dT (by omega)
  have z4:decide (-400<=(n:Int)+exp)=true:=dT (by omega)
  have z5:decide ((n:Int)+exp<=400)=true:=dT (by omega)
  have hb0:=Blk.new w 93 [.bool neg,.string s,.int .i64 exp];clear h h0 hc0 hc9 f5 f6 f2 hs hsb hz
  go_enter Tryz.func134,Tryz.ntmps134
  go_upto_region 1 with fail
  have hf0:Fr [] w (w.alloc (.cells #[.bool neg,.string s,.int .i64 exp] 93)):=(Fr.refl [] w).alloc _;generalize w.alloc (.cells #[.bool neg,.string s,.int .i64 exp] 93)=w0 at *;have HF0:=lh hf0;have k1:=hb0.at_ (i:=1) rfl;have k2:=hb0.at_ (i:=2) rfl;clear hb0 hf0;go_wp2_with fail
  go_loopg [4] n (fun j v wr=>aEf n w0 j v wr)
  case atStart=>exact⟨0,by omega,rfl,rfl⟩
  case round=>
   obtain⟨k,hk,rfl,rfl⟩:=hrel
   by_cases hkn:k < n
   ·have hki:(k:Int) < (n:Int):=by omega
    obtain⟨c,hc⟩:∃ c,digits[k]? = some c:=gx (by rw[<- HZ.o,HN.o];exact hkn);have hix:=fun W=>rA (s:=s) (by rw[HSB.o];exact hc) .i64 W;have HDG:=lh (fun W=>xW c W);rw[show yA c=true from List.all_eq_true.1 HAL.o c (List.mem_of_getElem? hc)] at HDG;clear hc;go_wp2_with fail;refine(HDG.o _).mono ?_;rintro e w1 ⟨rfl,rfl⟩;go_wp2_with fail
    go_roundg (n - (k+1))
    case measure=>omega
    case rel=>exact⟨k+1,by omega,by go_num,rfl⟩
   ·have hki:¬ (k:Int) < (n:Int):=by omega
    go_wp2_with fail;exact HQ.o _ _ ⟨by rfl,HF0.o⟩
theorem aFE {w:World} (d:Dcm) (h:d.sane=true):RV 87 #[gC d] w (.string ⟨d.text.toArray⟩):=by
 refine bA fun R HQ=>?_;have HSA:=lh (fun W=>aEg (w:=W) d h);have hsf:¬ d.sane=false:=by rw[h];simp
 by_cases h0:d.digits=[]
 ·have HT:Hid (d.text=[48]):=lh (by unfold Dcm.text;rw[if_neg hsf,if_pos h0]);obtain⟨neg,digits,exp⟩:=d
  simp only at h0
  subst h0;unfold gC S8 at HSA ⊢
  simp only at HSA ⊢
  have hb0:=Blk.new w 93 [.bool neg,.string ⟨#[]⟩,.int .i64 exp];clear h hsf
  go_enter Tryz.func87,Tryz.ntmps87
  go_upto_region 1 with fail
  have hf0:Fr [] w (w.alloc (.cells #[.bool neg,.string ⟨#[]⟩,.int .i64 exp] 93)):=(Fr.refl [] w).alloc _;generalize w.alloc (.cells #[.bool neg,.string ⟨#[]⟩,.int .i64 exp] 93)=w0 at *;have k0:=hb0.at_ (i:=0) rfl;have k1:=hb0.at_ (i:=1) rfl;have k2:=hb0.at_ (i:=2) rfl;have HB0:=lh hb0;have HF0:=lh hf0;clear hb0 hf0;go_wp2_with fail;refine(HSA.o _).mono ?_;rintro e w2 ⟨rfl,hf2⟩;have HF2:=lh (HF0.o.trans hf2);have k1':=dA hf2 k1;clear hf2 k0 k1 k2;go_wp2_with fail;exact HQ.o _ _ ⟨by rw[HT.o];rfl,HF2.o⟩
 ·obtain⟨f1,f2,f3,f4,f5,f6⟩:=aU h h0;have HWL:=lh (gZ d h h0);have HT:Hid (d.text=if d.neg=true then 45 :: d.written else d.written):=lh (by unfold Dcm.text;rw[if_neg hsf,if_neg h0]);obtain⟨neg,digits,exp⟩:=d;simp only[Dcm.high] at h0 f1 f2 f3 f4 f5 f6;obtain⟨h,hh⟩:∃ h,(digits.length:Int)+exp=h:=⟨_,rfl⟩;have HHD:Hid ((digits.length:Int)+exp=h):=lh hh;rw[hh] at f3 f4;obtain⟨s,hs⟩:∃ s:ByteArray,s=⟨digits.toArray⟩:=⟨_,rfl⟩;have hz:s.size=digits.length:=by rw[hs];simp[ByteArray.size]
  unfold gC S8 at HSA ⊢
  simp only at HSA ⊢
  rw[<- hs] at HSA ⊢;have HS:=lh hs;have HZ:=lh hz;have hn0:0 < digits.length:=by cases digits with | nil=>exact absurd rfl h0 | cons _ _=>simp
  rw[<- hz] at f1 hn0;have c0:((s.size:Int) == 0)=false:=by rw[beq_eq_false_iff_ne];omega
  have hwh:IntKind.i64.wrap ((s.size:Int)+exp)=h:=by rw[hz,hh,IntKind.wrap_i64];omega
  have hb0:=Blk.new w 93 [.bool neg,.string s,.int .i64 exp];clear hsf h0 f2 f5 f6 hh hs hz
  go_enter Tryz.func87,Tryz.ntmps87
  go_upto_region 1 with fail
  have hf0:Fr [] w (w.alloc (.cells #[.bool neg,.string s,.int .i64 exp] 93)):=(Fr.refl [] w).alloc _;generalize w.alloc (.cells #[.bool neg,.string s,.int .i64 exp] 93)=w0 at *;have k0:=hb0.at_ (i:=0) rfl;have k1:=hb0.at_ (i:=1) rfl;have k2:=hb0.at_ (i:=2) rfl;have HF0:=lh hf0;clear hb0 hf0;go_wp2_with fail;refine(HSA.o _).mono ?_;rintro e w2 ⟨rfl,hf2⟩;have HF2:=lh (HF0.o.trans hf2)
  replace k0:=dA hf2 k0
  replace k1:=dA hf2 k1
  replace k2:=dA hf2 k2
  clear hf2 HSA
  by_cases hA:(s.size:Int)<=h/\h<=21
  ·obtain⟨m,hm⟩:∃ m:Nat,(m:Int)=h - (s.size:Int):=⟨(h - s.size).toNat,by omega⟩;have d1:decide ((s.size:Int)<=h)=true:=decide_eq_true hA.1;have d2:decide (h<=21)=true:=decide_eq_true hA.2
   have HE:Hid (Dcm.written ⟨neg,digits,exp⟩=digits ++ nF m):=lh (by
    unfold Dcm.written
    dsimp only[Dcm.high]
    rw[HHD.o,<- HZ.o,if_pos hA,<- hm]
    rfl)
   have HZE:=lh (fun W=>aBH m (by omega) W);rw[hm] at HZE;have hadd:=fun W=>uB digits (nF m) (by unfold nF;rw[List.length_replicate];have:=HZ.o;omega) W;have hwr:IntKind.i64.wrap (h - (s.size:Int))=h - (s.size:Int):=by rw[IntKind.wrap_i64];omega
   rw[<- HS.o] at hadd;have HLL:Hid (digits.length+m<=100):=lh (by have:=HZ.o;omega);clear hm hA;go_upto_region 15 with fail
   refine mA (fun W=>W.cell? ⟨w.heap.size,1,none⟩=some (.string s)/\W.cell? ⟨w.heap.size,0,none⟩=some (.bool neg)) [0,1,2,3,4,6] (by kernel_rfl) ?_;refine tks [0,1,2,3,4] ?_
   iterate 5 (refine tk rfl rfl ⟨k1,k0⟩ rfl (fun _ hW=>by(obtain⟨q0,_⟩:=hW;go_simp) <;> with_reducible rfl) ?_;simp only[nrm])
   refine tke ?_;refine sp 5 rfl rfl rfl fun K hK=>?_;refine zA (l:=[.tmp 56]) rfl [.int .i64 (h - (s.size:Int))] rfl (fun W=>by kernel_rfl) ((HZE.o _).mono ?_);rintro e w3 ⟨rfl,rfl⟩;have hf23:Fr [] w2 w2.drew:=(Fr.refl [] w2).drew;have j1:=dA hf23 k1;have j0:=dA hf23 k0;refine⟨_,rfl,hK _ _ (fun _=>⟨j1,j0⟩) ?_⟩;simp only[nrm];clear hK;refine tks [6] ?_;refine tk rfl rfl ⟨j1,j0⟩ rfl (fun _ hW=>by(obtain⟨q0,_⟩:=hW;go_simp) <;> with_reducible rfl) ?_;simp only[nrm];refine tke ?_;refine sp 7 rfl rfl rfl fun K hK=>?_;refine tA (v:=?aq1_7) ?yq1_7 (hK _ _ (fun _=>⟨j1,j0⟩) ?_)
   case yq1_7=>go_simp <;> with_reducible rfl
   simp only[nrm];refine wd ?_ _;have HFL:=lh (HF2.o.trans hf23);clear hf23 k0 k1 k2 hadd hwr hwh;have hwl:=HWL.o;rw[HE.o] at hwl
   cases neg with
   | false=>
    go_wp2_with fail;exact HQ.o _ _ ⟨by rw[HT.o,HE.o];rfl,HFL.o⟩
   | true=>
    have hz9:=fun W=>uB [45] (digits ++ nF m) (by rw[List.length_cons,List.length_nil];omega) W;clear hwl;go_wp2_with fail;exact HQ.o _ _ ⟨by rw[HT.o,HE.o];rfl,HFL.o⟩
  ·have hto:∀ k:Nat,k<=s.size -> ∀ (K:IntKind) (W:World),(Instr.slice 9 (.string s) none (some (.int K (k:Int))) none).run Tryz.prog W=.ok (.string ⟨(digits.take k).toArray⟩) W:=fun k hk K W=>by
    obtain⟨t,ht,hsl⟩:=lM s k hk;rw[show aA s=digits by rw[HS.o];rfl] at ht;rw[hsl K W,xM ht]
   have hfrom:∀ k:Nat,k<=s.size -> ∀ (K:IntKind) (W:World),(Instr.slice 9 (.string s) (some (.int K (k:Int))) none none).run Tryz.prog W=.ok (.string ⟨(digits.drop k).toArray⟩) W:=fun k hk K W=>by
    obtain⟨t,ht,hsl⟩:=mD s k hk;rw[show aA s=digits by rw[HS.o];rfl] at ht;rw[hsl K W,xM ht]
   by_cases hB:1<=h/\h<=21
   ·have hnh:h < (s.size:Int):=by
     by_cases hh9:(s.size:Int)<=h
     ·exact absurd ⟨hh9,hB.2⟩ hA
     ·omega
    obtain⟨k,rfl⟩:∃ k:Nat,h=(k:Int):=⟨h.toNat,by omega⟩;have d1:decide ((s.size:Int)<=(k:Int))=false:=dF (by omega)
    have d2:decide (1<=(k:Int))=true:=decide_eq_true hB.1;have d3:decide ((k:Int)<=21)=true:=decide_eq_true hB.2
    have HE:Hid (Dcm.written ⟨neg,digits,exp⟩=digits.take k ++ 46 :: digits.drop k):=lh (by
     unfold Dcm.written
     dsimp only[Dcm.high]
     rw[HHD.o,<- HZ.o,if_neg hA,if_pos hB]
     rfl)
    have hs1:=hto k (by omega) .i64;have hs2:=hfrom k (by omega) .i64;have hz:=HZ.o;have ha1:=fun W=>uB (digits.take k) [46] (by simp;omega) W;have ha2:=fun W=>uB (digits.take k ++ [46]) (digits.drop k) (by simp;omega) W;have hkz:k<=s.size:=by omega
    have HLL:Hid (digits.length<=40):=lh (by omega);clear hto hfrom hA hB hz;go_upto_region 17 with fail
    refine mA (fun W=>W.cell? ⟨w.heap.size,1,none⟩=some (.string s)/\W.cell? ⟨w.heap.size,0,none⟩=some (.bool neg)) [0,1,2,3,4,5,6,7,8,9] (by kernel_rfl) ?_;refine tks [0,1,2,3,4,5,6,7,8,9] ?_
    iterate 10 (refine tk rfl rfl ⟨k1,k0⟩ rfl (fun _ hW=>by(obtain⟨q0,_⟩:=hW;go_simp) <;> with_reducible rfl) ?_;simp only[nrm])
    refine tke ?_;refine sp 10 rfl rfl rfl fun K hK=>?_;refine tA (v:=?aq2_10) ?yq2_10 (hK _ _ (fun _=>⟨k1,k0⟩) ?_)
    case yq2_10=>go_simp <;> with_reducible rfl
    simp only[nrm];refine wd ?_ _
    replace k0:=dA ((Fr.refl [] w2).drew) k0
    have HFL:=lh (HF2.o.drew);clear k1 k2 hs1 hs2 ha1 ha2;have hwl:=HWL.o;rw[HE.o] at hwl
    cases neg with
    | false=>
     go_wp2_with fail;exact HQ.o _ _ ⟨by rw[HT.o,HE.o];rfl,HFL.o⟩
    | true=>
     have hz9:=fun W=>uB [45] (digits.take k ++ 46 :: digits.drop k) (by rw[List.length_cons,List.length_nil];omega) W;clear hwl;go_wp2_with fail;exact HQ.o _ _ ⟨by rw[HT.o,HE.o];rfl,HFL.o⟩
   ·by_cases hC:-5<=h/\h < 1
    ·obtain⟨m,hm⟩:∃ m:Nat,(m:Int) = -h:=⟨(-h).toNat,by omega⟩;have d1:decide ((s.size:Int)<=h)=false:=dF (by omega)
     have d2:decide (1<=h)=false:=dF (by omega)
     have d3:decide (-5<=h)=true:=decide_eq_true hC.1;have d4:decide (h<=0)=true:=decide_eq_true (by omega)
     have HE:Hid (Dcm.written ⟨neg,digits,exp⟩=48 :: 46 :: (nF m ++ digits)):=lh (by
      unfold Dcm.written
      dsimp only[Dcm.high]
      rw[HHD.o,<- HZ.o,if_neg hA,if_neg hB,if_pos hC,<- hm]
      rfl)
     have HZE:=lh (fun W=>aBH m (by omega) W);rw[hm] at HZE;have hz:=HZ.o;have ha1:=fun W=>uB [48,46] (nF m) (by unfold nF;rw[List.length_replicate];simp;omega) W;have ha2:=fun W=>uB (48 :: 46 :: nF m) digits (by unfold nF;simp;omega) W;rw[<- HS.o] at ha2;have hwr:IntKind.i64.wrap (-h) = -h:=by rw[IntKind.wrap_i64];omega
     have HLL:Hid (digits.length+m<=100):=lh (by omega);clear hto hfrom hA hB hC hm hz;go_upto_region 19 with fail
     refine mA (fun W=>W.cell? ⟨w.heap.size,1,none⟩=some (.string s)/\W.cell? ⟨w.heap.size,0,none⟩=some (.bool neg)) [0,1,3,4,5,6] (by kernel_rfl) ?_;refine tks [0,1,4,5] ?_
     iterate 4 (refine tk rfl rfl ⟨k1,k0⟩ rfl (fun _ hW=>by(obtain⟨q0,_⟩:=hW;go_simp) <;> with_reducible rfl) ?_;simp only[nrm])
     refine tke ?_;refine sp 2 rfl rfl rfl fun K hK=>?_;refine zA (l:=[.tmp 84]) rfl [.int .i64 (-h)] rfl (fun W=>by kernel_rfl) ((HZE.o _).mono ?_);rintro e w3 ⟨rfl,rfl⟩;have hf23:Fr [] w2 w2.drew:=(Fr.refl [] w2).drew;have j1:=dA hf23 k1;have j0:=dA hf23 k0;refine⟨_,rfl,hK _ _ (fun _=>⟨j1,j0⟩) ?_⟩;simp only[nrm];clear hK;refine tks [3,6] ?_
     iterate 2 (refine tk rfl rfl ⟨j1,j0⟩ rfl (fun _ hW=>by(obtain⟨q0,_⟩:=hW;go_simp) <;> with_reducible rfl) ?_;simp only[nrm])
     refine tke ?_;refine sp 7 rfl rfl rfl fun K hK=>?_;refine tA (v:=?aq3_7) ?yq3_7 (hK _ _ (fun _=>⟨j1,j0⟩) ?_)
     case yq3_7=>go_simp <;> with_reducible rfl
     simp only[nrm];refine wd ?_ _;have HFL:=lh (HF2.o.trans hf23);clear hf23 k0 k1 k2 ha1 ha2 hwr hwh;have hwl:=HWL.o;rw[HE.o] at hwl
     cases neg with
     | false=>
      go_wp2_with fail;exact HQ.o _ _ ⟨by rw[HT.o,HE.o];rfl,HFL.o⟩
     | true=>
      have hz9:=fun W=>uB [45] (48 :: 46 :: (nF m ++ digits)) (by rw[List.length_cons,List.length_nil];omega) W;clear hwl;go_wp2_with fail;exact HQ.o _ _ ⟨by rw[HT.o,HE.o];rfl,HFL.o⟩
    ·have hs1:=hto 1 (by omega) .i64;have hs2:=hfrom 1 (by omega) .i64;rw[show((1:Nat):Int)=1 from rfl] at hs1 hs2;have hz:=HZ.o;have htk:(digits.take 1).length<=1:=by rw[List.length_take];omega
     have hdl:(digits.drop 1).length<=40:=by rw[List.length_drop];omega
     obtain⟨T1,hT1⟩:∃ T1,digits.take 1=T1:=⟨_,rfl⟩;obtain⟨D1,hD1⟩:∃ D1,digits.drop 1=D1:=⟨_,rfl⟩;have HTD:Hid (digits.take 1=T1/\digits.drop 1=D1):=lh ⟨hT1,hD1⟩;rw[hT1] at hs1 htk;rw[hD1] at hs2 hdl;clear hT1 hD1
     by_cases hb:21 < h
     ·obtain⟨u,hu⟩:∃ u:Nat,(u:Int)=h - 1:=⟨(h - 1).toNat,by omega⟩;have d2:decide (h<=21)=false:=dF (by omega)
      have d3:decide (1<=h)=true:=decide_eq_true (by omega);have d4:decide (-5<=h)=true:=decide_eq_true (by omega);have d5:decide (h<=0)=false:=dF (by omega)
      have d6:decide ((u:Int) < 0)=false:=dF (by omega)
      by_cases hnh:(s.size:Int)<=h
      case' pos=>
       have d1:decide ((s.size:Int)<=h)=true:=decide_eq_true hnh
      case' neg=>
       have d1:decide ((s.size:Int)<=h)=false:=decide_eq_false hnh
      all_goals
       clear hnh
       by_cases hn1:1 < s.size
       case' pos=>
        have d8:decide (1 < (s.size:Int))=true:=dT (by omega)
        obtain⟨M,hM⟩:∃ M,T1 ++ [46] ++ D1=M:=⟨_,rfl⟩;have hml:M.length<=42:=by rw[<- hM];simp only[LN];omega
        have ha1:=fun W=>uB T1 [46] (by rw[List.length_cons,List.length_nil];omega) W;have ha2:∀ W,(Op.stringOp .add ⟨(T1 ++ [46]).toArray⟩ ⟨D1.toArray⟩).run Tryz.prog W=.ok (.string ⟨M.toArray⟩) W:=fun W=>by rw[<- hM];exact uB (T1 ++ [46]) D1 (by simp only[LN];omega) W
        obtain⟨N,hN⟩:∃ N,M ++ [101,43]=N:=⟨_,rfl⟩;have ha3:∀ W,(Op.stringOp .add ⟨M.toArray⟩ ⟨#[101,43]⟩).run Tryz.prog W=.ok (.string ⟨N.toArray⟩) W:=fun W=>by rw[<- hN];exact uB M [101,43] (by rw[List.length_cons,List.length_cons,List.length_nil];omega) W
        have hwu:IntKind.i64.wrap (h - 1)=(u:Int):=by rw[IntKind.wrap_i64];omega
        have HE:Hid (Dcm.written ⟨neg,digits,exp⟩=N ++ Lib.decDigits u):=lh (by
         unfold Dcm.written
         dsimp only[Dcm.high]
         rw[HHD.o,<- HZ.o,if_neg hA,if_neg hB,if_neg hC,if_pos (show 1 < (s.size:Int) by omega),if_pos (show 0 < h by omega),show h - 1=(u:Int) by omega,Lib.itoa_nonneg,<- hN,<- hM,HTD.o.1]
         all_goals try rw[HTD.o.2]
         all_goals simp)
       case' neg=>
        have d8:decide (1 < (s.size:Int))=false:=dF (by omega)
        obtain⟨M,hM⟩:∃ M,T1 ++ []=M:=⟨_,rfl⟩;rw[show T1=M by rw[<- hM,List.append_nil]] at hs1;have hml:M.length<=42:=by rw[<- hM,List.append_nil];omega
        obtain⟨N,hN⟩:∃ N,M ++ [101,43]=N:=⟨_,rfl⟩;have ha3:∀ W,(Op.stringOp .add ⟨M.toArray⟩ ⟨#[101,43]⟩).run Tryz.prog W=.ok (.string ⟨N.toArray⟩) W:=fun W=>by rw[<- hN];exact uB M [101,43] (by rw[List.length_cons,List.length_cons,List.length_nil];omega) W
        have hwu:IntKind.i64.wrap (h - 1)=(u:Int):=by rw[IntKind.wrap_i64];omega
        have HE:Hid (Dcm.written ⟨neg,digits,exp⟩=N ++ Lib.decDigits u):=lh (by
         unfold Dcm.written
         dsimp only[Dcm.high]
         rw[HHD.o,<- HZ.o,if_neg hA,if_neg hB,if_neg hC,if_neg (show ¬ 1 < (s.size:Int) by omega),if_pos (show 0 < h by omega),show h - 1=(u:Int) by omega,Lib.itoa_nonneg,<- hN,<- hM,HTD.o.1]
         all_goals try rw[HTD.o.2]
         all_goals simp)
       all_goals
        have hwl:=HWL.o;rw[HE.o,List.length_append] at hwl;have ha4:=fun W=>uB N (Lib.decDigits u) (by omega) W;have HWO:=lh (fun W=>aBJ u (by omega) W);clear hto hfrom hA hB hC hM hN hwl hu hz htk hdl hml;go_wp2_with fail;refine(HWO.o _).mono ?_;rintro e w3 ⟨rfl,hf3⟩;have HFL:=lh (HF2.o.trans hf3)
        replace k0:=dA hf3 k0
        clear hf3 k1 k2;have hwl:=HWL.o;rw[HE.o] at hwl
        cases neg with
        | false=>
         go_wp2_with fail;exact HQ.o _ _ ⟨by rw[HT.o,HE.o];rfl,HFL.o⟩
        | true=>
         have hz9:=fun W=>uB [45] (N ++ Lib.decDigits u) (by rw[List.length_cons,List.length_nil];omega) W;clear hwl;go_wp2_with fail;exact HQ.o _ _ ⟨by rw[HT.o,HE.o];rfl,HFL.o⟩
     ·have hl:h < -5:=by
       by_cases h1:1<=h
       ·exact absurd ⟨h1,by omega⟩ hB
       ·by_cases h5:-5<=h
        ·exact absurd ⟨h5,by omega⟩ hC
        ·omega
      obtain⟨u,hu⟩:∃ u:Nat,(u:Int)=1 - h:=⟨(1 - h).toNat,by omega⟩;have d1:decide ((s.size:Int)<=h)=false:=dF (by omega)
      have d3:decide (1<=h)=false:=dF (by omega)
      have d4:decide (-5<=h)=false:=dF (by omega)
      have hw1:IntKind.i64.wrap (h - 1)=h - 1:=by rw[IntKind.wrap_i64];omega
      have d6:decide (h - 1 < 0)=true:=decide_eq_true (by omega)
      by_cases hn1:1 < s.size
      case' pos=>
       have d8:decide (1 < (s.size:Int))=true:=dT (by omega)
       obtain⟨M,hM⟩:∃ M,T1 ++ [46] ++ D1=M:=⟨_,rfl⟩;have hml:M.length<=42:=by rw[<- hM];simp only[LN];omega
       have ha1:=fun W=>uB T1 [46] (by rw[List.length_cons,List.length_nil];omega) W;have ha2:∀ W,(Op.stringOp .add ⟨(T1 ++ [46]).toArray⟩ ⟨D1.toArray⟩).run Tryz.prog W=.ok (.string ⟨M.toArray⟩) W:=fun W=>by rw[<- hM];exact uB (T1 ++ [46]) D1 (by simp only[LN];omega) W
       obtain⟨N,hN⟩:∃ N,M ++ [101,45]=N:=⟨_,rfl⟩;have ha3:∀ W,(Op.stringOp .add ⟨M.toArray⟩ ⟨#[101,45]⟩).run Tryz.prog W=.ok (.string ⟨N.toArray⟩) W:=fun W=>by rw[<- hN];exact uB M [101,45] (by rw[List.length_cons,List.length_cons,List.length_nil];omega) W
       have hwu:IntKind.i64.wrap (1 - h)=(u:Int):=by rw[IntKind.wrap_i64];omega
       have HE:Hid (Dcm.written ⟨neg,digits,exp⟩=N ++ Lib.decDigits u):=lh (by
        unfold Dcm.written
        dsimp only[Dcm.high]
        rw[HHD.o,<- HZ.o,if_neg hA,if_neg hB,if_neg hC,if_pos (show 1 < (s.size:Int) by omega),if_neg (show ¬ 0 < h by omega),show h - 1 = -(u:Int) by omega,Lib.itoa_neg u (by omega),<- hN,<- hM,HTD.o.1]
        all_goals try rw[HTD.o.2]
        all_goals simp)
      case' neg=>
       have d8:decide (1 < (s.size:Int))=false:=dF (by omega)
       obtain⟨M,hM⟩:∃ M,T1 ++ []=M:=⟨_,rfl⟩;rw[show T1=M by rw[<- hM,List.append_nil]] at hs1;have hml:M.length<=42:=by rw[<- hM,List.append_nil];omega
       obtain⟨N,hN⟩:∃ N,M ++ [101,45]=N:=⟨_,rfl⟩;have ha3:∀ W,(Op.stringOp .add ⟨M.toArray⟩ ⟨#[101,45]⟩).run Tryz.prog W=.ok (.string ⟨N.toArray⟩) W:=fun W=>by rw[<- hN];exact uB M [101,45] (by rw[List.length_cons,List.length_cons,List.length_nil];omega) W
       have hwu:IntKind.i64.wrap (1 - h)=(u:Int):=by rw[IntKind.wrap_i64];omega
       have HE:Hid (Dcm.written ⟨neg,digits,exp⟩=N ++ Lib.decDigits u):=lh (by
        unfold Dcm.written
        dsimp only[Dcm.high]
        rw[HHD.o,<- HZ.o,if_neg hA,if_neg hB,if_neg hC,if_neg (show ¬ 1 < (s.size:Int) by omega),if_neg (show ¬ 0 < h by omega),show h - 1 = -(u:Int) by omega,Lib.itoa_neg u (by omega),<- hN,<- hM,HTD.o.1]
        all_goals try rw[HTD.o.2]
        all_goals simp)
      all_goals
       have hwl:=HWL.o;rw[HE.o,List.length_append] at hwl;have ha4:=fun W=>uB N (Lib.decDigits u) (by omega) W;have HWO:=lh (fun W=>aBJ u (by omega) W);clear hto hfrom hA hB hC hM hN hwl hu hz htk hdl hml;go_wp2_with fail;refine(HWO.o _).mono ?_;rintro e w3 ⟨rfl,hf3⟩;have HFL:=lh (HF2.o.trans hf3)
       replace k0:=dA hf3 k0
       clear hf3 k1 k2;have hwl:=HWL.o;rw[HE.o] at hwl
       cases neg with
       | false=>
        go_wp2_with fail;exact HQ.o _ _ ⟨by rw[HT.o,HE.o];rfl,HFL.o⟩
       | true=>
        have hz9:=fun W=>uB [45] (N ++ Lib.decDigits u) (by rw[List.length_cons,List.length_nil];omega) W;clear hwl;go_wp2_with fail;exact HQ.o _ _ ⟨by rw[HT.o,HE.o];rfl,HFL.o⟩
theorem yW:(Tryz.prog.info? 9).map (fun i=>(i.zero,i.size,i.bytes))=some (some (.string { data:=#[] }),1,16):=by kernel_rfl
def SV (l:List UInt8):Value:=.string ⟨l.toArray⟩
def aEh {α:Type} (t:α -> List UInt8) (l:List α) (ln:Nat) (w:World) (j:Nat) (v7 v12:Value) (wr:World):Prop:=
 ∃ k:Nat,k+j=ln/\v12=.int .i64 (k:Int)/\wr.ownsRow 0 9 1 v7 (l.take k).length ((l.take k).map fun x=>SV (t x))/\(∀ g,v7.ownBlock=some g -> w.heap.size<=g)/\Fr [] w wr
theorem aP {α:Type} {w:World} {g:Nat} (l:List α) (t:α -> List UInt8) (sep:List UInt8) {A:Option Addr} {c ln:Nat} (hlen:(Lib.join (l.map t) sep).length<=100000000) (hbig:ln<=1000000) (hln:l.length=ln) (ho:w.ownsRow g 9 1 (.slice A l.length c) l.length (l.map fun x=>SV (t x))):
  RV 58 #[.slice A l.length c,.string ⟨sep.toArray⟩] w (.string ⟨(Lib.join (l.map t) sep).toArray⟩):=by
 have hm:∀ l:List α,(l.map fun x=>(⟨(t x).toArray⟩:ByteArray)).map (·.data.toList)=l.map t:=fun l=>by
  rw[List.map_map]
  apply List.map_congr_left
  intro x _
  rfl
 by_cases h0:0 < l.length
 ·obtain⟨b,hv,hcell⟩:=rK ho h0;subst hv;have hlt:b < w.heap.size:=iL ho b rfl;have hcap:=jC ho;obtain⟨A',c',hv',hc',_⟩:=hcap;injection hv' with e1 e2 e3;subst e3
  have h:=Tryz.strings_Join b 0 c (l.map fun x=>(⟨(t x).toArray⟩:ByteArray)) ⟨sep.toArray⟩ w (fun j x hx=>by
   rw[List.getElem?_map] at hx;obtain⟨y,hy,rfl⟩:=Option.map_eq_some_iff.1 hx;have:=hcell j (SV (t y)) (by rw[List.getElem?_map,hy];rfl);rw[Nat.zero_add];exact this) hlt (by simp;omega) (by simpa using hc') (by rw[hm];exact Nat.le_trans hlen (by decide))
  rw[hm,List.length_map] at h;refine h.mono ?_;rintro e w' ⟨rfl,hb⟩;exact⟨rfl,Fr.of_below hb []⟩
 ·have hl0:l=[]:=List.eq_nil_of_length_eq_zero (by omega);subst hl0;refine(Tryz.strings_Join_none A c ⟨sep.toArray⟩ w).mono ?_;rintro e w' ⟨rfl,rfl⟩;exact⟨rfl,Fr.refl _ _⟩
theorem aHI {w:World} {N:Nat -> Prop} {l:List Xpr} {A:Option Addr} {n cp:Nat} (h:CAt w N (.rows 13 (l.map Xpr.cells)) (.slice A n cp)) (hbig:n<=1000000) (sep:List UInt8) {f:FuncId} {first cap:Array Value} {all:Value -> Array Value} (hall:∀ v,first.push v ++ cap=all v)
  (he:∀ v w,(callFunc f (all v)).run Tryz.prog w=.ok (.enter f (all v)) w) (t:Xpr -> List UInt8) (hlen:(Lib.join (l.map t) sep).length<=100000000)
  (hp:∀ (x:Xpr),x ∈ l -> ∀ (w1:World) (cs:List Value),Fr [] w w1 -> gA w1 N x.cells cs -> Calls Tryz.prog f (all (.agg cs.toArray)) w1 fun e w'=>e=.returned (.string ⟨(t x).toArray⟩)/\Fr [] w1 w'):
  RV 95 #[.slice A n cp,.string ⟨sep.toArray⟩,.func (.func f) first cap] w (.string ⟨(Lib.join (l.map t) sep).toArray⟩):=by
 refine bA fun R HQ=>?_;obtain⟨A',c',g,off,hv,hA,hrow⟩:=h.row;injection hv with e1 e2 e3;subst e1 e2 e3;have hll:(l.map Xpr.cells).length=l.length:=by simp
 rw[hll] at hA h hbig ⊢;have HROW:=lh hrow;have HA:=lh hA;have HP:=lh hp;have HALL:=lh hall;have HEN:=lh he;have HJL:=lh hlen;obtain⟨ln,hln⟩:∃ ln,l.length=ln:=⟨_,rfl⟩;have HLN:=lh hln;rw[hln] at hbig ⊢;obtain⟨iu,hi,hz',hsz',hby⟩:=info_parts yW;have k1:0 < 1:=by omega
 clear hrow hA hp hall h hll hln he hlen
 go_enter Tryz.func95,Tryz.ntmps95
 go_wp2_with fail
 go_loopg [7,12] ln (fun j v7 v12 wr=>aEh t l ln w j v7 v12 wr)
 case atStart=>exact⟨0,by omega,rfl,by simpa using sG _ _ _ _,by simp[Value.ownBlock],Fr.refl _ _⟩
 case round=>
  obtain⟨k,hk,rfl,ho,hog,hf⟩:=hrel;have HO:=lh ho;have HOG:=lh hog;have HF:=lh hf;clear ho hog hf;have hkl9:(l.take k).length=k:=by rw[List.length_take,HLN.o];omega
  by_cases hkl:k < ln
  ·obtain⟨x,hx⟩:∃ x,l[k]? = some x:=gx (by rw[HLN.o];exact hkl);obtain⟨rfl,hNg⟩:=HA.o (by have:=HLN.o;omega);obtain⟨_,cs,hcs,hcell⟩:=HROW.o k x.cells (by rw[List.getElem?_map,hx];rfl);have hcl:cs.length=13:=hcs.1.trans (kA x);have hc1:(Tryz.prog.info? 109).map (·.size)=some cs.length:=by rw[hcl];exact cD
   have hc2:zx.length=cs.length:=by rw[hcl];rfl
   have hra:wr.rangeAt g (off+k * 13) cs:=fun j u hj=>by
    have:=hcell j u hj;rw[show off+13 * k+j=off+k * 13+j by rw[Nat.mul_comm]] at this;exact dA HF.o this
   have HC1:=lh hc1;have HC2:=lh hc2;have HRA:=lh hra;have HCS:=lh hcs;have HONE:=lh hcs.one;have HX:=lh hx
   have htk:l.take (k+1)=l.take k ++ [x]:=by
    obtain⟨hk',hx'⟩:=List.getElem?_eq_some_iff.1 hx;rw[List.take_succ_eq_append_getElem hk',hx']
   have HTK:=lh htk;have hl0:0 < ln:=by omega
   clear hcs hcell hcl hc1 hc2 hra hx htk;have hen:=HEN.o (.agg cs.toArray);have hal:=HALL.o (.agg cs.toArray)
   go_wp2_with (first
    | (with_reducible refine wpList_load_mid rfl 109 (.tmp 14) rfl g (off+k * 13) rfl cs _ HRA.o Tryz.underlying109 rfl HC1.o ?_)
    | (with_reducible refine zC rfl rfl 109 (.tmp 15) rfl rfl rfl rfl (.agg zx.toArray) zx iH sE cs rfl rfl HC1.o HC2.o HONE.o ?_))
   intro w4 hb4 hf4 hz4;have HB4:=lh hb4;have HF4:=lh (HF.o.trans hf4);have HO4:=lh (sB HO.o hf4 (by simp));have HC:=lh (HP.o x (List.mem_of_getElem? HX.o) w4 cs HF4.o (HCS.o.fr HF4.o));clear hb4 hf4
   go_wp2_with (with_reducible refine uA rfl 109 (.tmp 9) rfl rfl HB4.o Tryz.underlying109 rfl HC1.o ?_)
   refine HC.o.mono ?_;rintro e w5 ⟨rfl,hf5⟩;have HF5:=lh (HF4.o.trans hf5);have HO5:=lh (sB HO4.o hf5 (by simp));obtain⟨tx,htx⟩:∃ tx:ByteArray,tx=⟨(t x).toArray⟩:=⟨_,rfl⟩;rw[<- htx];have HTX:=lh htx;clear hf5 hen hal htx HC HB4;have hfa:Fr [] w5 (w5.alloc (.cells #[.string tx] 9)):=(Fr.refl [] w5).alloc _;have hba:=Blk.new w5 9 [.string tx];have hza:(w5.alloc (.cells #[.string tx] 9)).heap.size=w5.heap.size+1:=by simp
   have hoa:=sB HO5.o hfa (by simp);have hcl6:([.string tx]:List Value).length=1 * 1:=rfl;have hat6:∀ (j:Nat) (u:Value),([.string tx]:List Value)[j]? = some u -> (w5.alloc (.cells #[.string tx] 9)).cell? ((⟨w5.heap.size,0,none⟩:Addr).add j)=some u:=fun j u hu=>by rw[Addr.add_mid,Nat.zero_add];exact hba.at_ hu
   have hone6:∀ u ∈ ([.string tx]:List Value),u.oneCell'=true:=by intro u hu;simp at hu;subst hu;rfl
   have hml6:(l.take k).length+1<=maxLen:=by rw[hkl9];unfold maxLen;omega
   have hbb6:((l.take k).length+1) * 16<=140737488355328:=by rw[hkl9];omega
   have HW6:Hid (Fr [] w (w5.alloc (.cells #[.string tx] 9))):=lh (HF5.o.trans hfa);clear hfa hba
   go_wp2_with (with_reducible refine eE rfl (.tmp 16) (.tmp 20) rfl 9 1 16 Tryz.underlying43 hi hz' hsz' hby rfl k1 u7 (l.take k).length ((l.take k).map fun x=>SV (t x)) rfl hoa ⟨w5.heap.size,0,none⟩ 1 1 [.string tx] rfl hcl6 hat6 hone6 Nat.one_pos hml6 hbb6 (w5.heap.size+1) hza ?_)
   intro g7 cap w7 ho7 hf7 hat7;have hF7:Fr [] w w7:=HW6.o.trans hf7 (fun x hx=>.inr (HOG.o x (by simpa using hx)))
   have hg7:w.heap.size<=g7:=by
    rcases hat7 with h | h
    ·exact HOG.o _ h
    ·have:=HF5.o.size;omega
   have HO7:Hid (w7.ownsRow 0 9 1 (.slice (some ⟨g7,0,none⟩) (k+1) cap) (l.take (k+1)).length ((l.take (k+1)).map fun x=>SV (t x))):=lh (by
    rw[HTK.o,List.map_append,List.length_append,hkl9];rw[HTX.o,<- List.map_take] at ho7;exact ho7)
   have HF7:=lh hF7;have HG7:=lh hg7;clear ho7 hf7 hat7 hF7 hg7 hza hoa hcl6 hat6 hone6 hml6 hbb6;go_wp2_with fail
   go_roundg (ln - (k+1))
   case measure=>omega
   case rel=>exact⟨k+1,by omega,by go_num,HO7.o,by simp[Value.ownBlock];exact HG7.o,HF7.o⟩
  ·have hte:l.take k=l:=List.take_of_length_le (by rw[HLN.o];omega);have hO:=HO.o;rw[hte] at hO;obtain⟨oA,oc,hov,hoc,_⟩:=jC hO;subst hov;have hO2:=hO;have hJ:=aP (w:=wr) (g:=0) l t sep HJL.o hbig HLN.o hO;have HJ:=lh hJ;have hll:=HLN.o;rw[hll] at HJ ⊢;clear hO hO2 hte hoc hkl9 hJ hll HO;go_wp2_with fail;refine HJ.o.mono ?_;rintro e w2 ⟨rfl,hf2⟩;have HF2:=lh (HF.o.trans hf2);clear hf2;go_wp2_with fail;exact HQ.o _ _ ⟨rfl,HF2.o⟩
theorem aCz {w:World} {N:Nat -> Prop} {l:List Slr} {A:Option Addr} {n cp:Nat} (h:CAt w N (.rows 10 (l.map Slr.cells)) (.slice A n cp)) (hbig:n<=1000000) (sep:List UInt8) {f:FuncId} {first cap:Array Value} {all:Value -> Array Value} (hall:∀ v,first.push v ++ cap=all v)
  (he:∀ v w,(callFunc f (all v)).run Tryz.prog w=.ok (.enter f (all v)) w) (t:Slr -> List UInt8) (hlen:(Lib.join (l.map t) sep).length<=100000000)
  (hp:∀ (x:Slr),x ∈ l -> ∀ (w1:World) (cs:List Value),Fr [] w w1 -> gA w1 N x.cells cs -> Calls Tryz.prog f (all (.agg cs.toArray)) w1 fun e w'=>e=.returned (.string ⟨(t x).toArray⟩)/\Fr [] w1 w'):
  RV 59 #[.slice A n cp,.string ⟨sep.toArray⟩,.func (.func f) first cap] w (.string ⟨(Lib.join (l.map t) sep).toArray⟩):=by
 refine bA fun R HQ=>?_;obtain⟨A',c',g,off,hv,hA,hrow⟩:=h.row;injection hv with e1 e2 e3;subst e1 e2 e3;have hll:(l.map Slr.cells).length=l.length:=by simp
 rw[hll] at hA h hbig ⊢;have HROW:=lh hrow;have HA:=lh hA;have HP:=lh hp;have HALL:=lh hall;have HEN:=lh he;have HJL:=lh hlen;obtain⟨ln,hln⟩:∃ ln,l.length=ln:=⟨_,rfl⟩;have HLN:=lh hln;rw[hln] at hbig ⊢;obtain⟨iu,hi,hz',hsz',hby⟩:=info_parts yW;have k1:0 < 1:=by omega
 clear hrow hA hp hall h hll hln he hlen
 go_enter Tryz.func59,Tryz.ntmps59
 go_wp2_with fail
 go_loopg [7,12] ln (fun j v7 v12 wr=>aEh t l ln w j v7 v12 wr)
 case atStart=>exact⟨0,by omega,rfl,by simpa using sG _ _ _ _,by simp[Value.ownBlock],Fr.refl _ _⟩
 case round=>
  obtain⟨k,hk,rfl,ho,hog,hf⟩:=hrel;have HO:=lh ho;have HOG:=lh hog;have HF:=lh hf;clear ho hog hf;have hkl9:(l.take k).length=k:=by rw[List.length_take,HLN.o];omega
  by_cases hkl:k < ln
  ·obtain⟨x,hx⟩:∃ x,l[k]? = some x:=gx (by rw[HLN.o];exact hkl);obtain⟨rfl,hNg⟩:=HA.o (by have:=HLN.o;omega);obtain⟨_,cs,hcs,hcell⟩:=HROW.o k x.cells (by rw[List.getElem?_map,hx];rfl);have hcl:cs.length=10:=hcs.1.trans (aD x);have hc1:(Tryz.prog.info? 50).map (·.size)=some cs.length:=by rw[hcl];exact vJ
   have hc2:zs.length=cs.length:=by rw[hcl];rfl
   have hra:wr.rangeAt g (off+k * 10) cs:=fun j u hj=>by
    have:=hcell j u hj;rw[show off+10 * k+j=off+k * 10+j by rw[Nat.mul_comm]] at this;exact dA HF.o this
   have HC1:=lh hc1;have HC2:=lh hc2;have HRA:=lh hra;have HCS:=lh hcs;have HONE:=lh hcs.one;have HX:=lh hx
   have htk:l.take (k+1)=l.take k ++ [x]:=by
    obtain⟨hk',hx'⟩:=List.getElem?_eq_some_iff.1 hx;rw[List.take_succ_eq_append_getElem hk',hx']
   have HTK:=lh htk;have hl0:0 < ln:=by omega
   clear hcs hcell hcl hc1 hc2 hra hx htk;have hen:=HEN.o (.agg cs.toArray);have hal:=HALL.o (.agg cs.toArray)
   go_wp2_with (first
    | (with_reducible refine wpList_load_mid rfl 50 (.tmp 14) rfl g (off+k * 10) rfl cs _ HRA.o Tryz.underlying50 rfl HC1.o ?_)
    | (with_reducible refine zC rfl rfl 50 (.tmp 15) rfl rfl rfl rfl (.agg zs.toArray) zs aDY aDZ cs rfl rfl HC1.o HC2.o HONE.o ?_))
   intro w4 hb4 hf4 hz4;have HB4:=lh hb4;have HF4:=lh (HF.o.trans hf4);have HO4:=lh (sB HO.o hf4 (by simp));have HC:=lh (HP.o x (List.mem_of_getElem? HX.o) w4 cs HF4.o (HCS.o.fr HF4.o));clear hb4 hf4
   go_wp2_with (with_reducible refine uA rfl 50 (.tmp 9) rfl rfl HB4.o Tryz.underlying50 rfl HC1.o ?_)
   refine HC.o.mono ?_;rintro e w5 ⟨rfl,hf5⟩;have HF5:=lh (HF4.o.trans hf5);have HO5:=lh (sB HO4.o hf5 (by simp));obtain⟨tx,htx⟩:∃ tx:ByteArray,tx=⟨(t x).toArray⟩:=⟨_,rfl⟩;rw[<- htx];have HTX:=lh htx;clear hf5 hen hal htx HC HB4;have hfa:Fr [] w5 (w5.alloc (.cells #[.string tx] 9)):=(Fr.refl [] w5).alloc _;have hba:=Blk.new w5 9 [.string tx];have hza:(w5.alloc (.cells #[.string tx] 9)).heap.size=w5.heap.size+1:=by simp
   have hoa:=sB HO5.o hfa (by simp);have hcl6:([.string tx]:List Value).length=1 * 1:=rfl;have hat6:∀ (j:Nat) (u:Value),([.string tx]:List Value)[j]? = some u -> (w5.alloc (.cells #[.string tx] 9)).cell? ((⟨w5.heap.size,0,none⟩:Addr).add j)=some u:=fun j u hu=>by rw[Addr.add_mid,Nat.zero_add];exact hba.at_ hu
   have hone6:∀ u ∈ ([.string tx]:List Value),u.oneCell'=true:=by intro u hu;simp at hu;subst hu;rfl
   have hml6:(l.take k).length+1<=maxLen:=by rw[hkl9];unfold maxLen;omega
   have hbb6:((l.take k).length+1) * 16<=140737488355328:=by rw[hkl9];omega
   have HW6:Hid (Fr [] w (w5.alloc (.cells #[.string tx] 9))):=lh (HF5.o.trans hfa);clear hfa hba
   go_wp2_with (with_reducible refine eE rfl (.tmp 16) (.tmp 20) rfl 9 1 16 Tryz.underlying43 hi hz' hsz' hby rfl k1 u7 (l.take k).length ((l.take k).map fun x=>SV (t x)) rfl hoa ⟨w5.heap.size,0,none⟩ 1 1 [.string tx] rfl hcl6 hat6 hone6 Nat.one_pos hml6 hbb6 (w5.heap.size+1) hza ?_)
   intro g7 cap w7 ho7 hf7 hat7;have hF7:Fr [] w w7:=HW6.o.trans hf7 (fun x hx=>.inr (HOG.o x (by simpa using hx)))
   have hg7:w.heap.size<=g7:=by
    rcases hat7 with h | h
    ·exact HOG.o _ h
    ·have:=HF5.o.size;omega
   have HO7:Hid (w7.ownsRow 0 9 1 (.slice (some ⟨g7,0,none⟩) (k+1) cap) (l.take (k+1)).length ((l.take (k+1)).map fun x=>SV (t x))):=lh (by
    rw[HTK.o,List.map_append,List.length_append,hkl9];rw[HTX.o,<- List.map_take] at ho7;exact ho7)
   have HF7:=lh hF7;have HG7:=lh hg7;clear ho7 hf7 hat7 hF7 hg7 hza hoa hcl6 hat6 hone6 hml6 hbb6;go_wp2_with fail
   go_roundg (ln - (k+1))
   case measure=>omega
   case rel=>exact⟨k+1,by omega,by go_num,HO7.o,by simp[Value.ownBlock];exact HG7.o,HF7.o⟩
  ·have hte:l.take k=l:=List.take_of_length_le (by rw[HLN.o];omega);have hO:=HO.o;rw[hte] at hO;obtain⟨oA,oc,hov,hoc,_⟩:=jC hO;subst hov;have hO2:=hO;have hJ:=aP (w:=wr) (g:=0) l t sep HJL.o hbig HLN.o hO;have HJ:=lh hJ;have hll:=HLN.o;rw[hll] at HJ ⊢;clear hO hO2 hte hoc hkl9 hJ hll HO;go_wp2_with fail;refine HJ.o.mono ?_;rintro e w2 ⟨rfl,hf2⟩;have HF2:=lh (HF.o.trans hf2);clear hf2;go_wp2_with fail;exact HQ.o _ _ ⟨rfl,HF2.o⟩
def zgv:List Value:=[.bool false,.slice none 0 0]
theorem aHd:(Tryz.prog.info? 54).map (·.zero)=some (some (.agg zgv.toArray)):=by kernel_rfl
theorem aFF:(Value.agg zgv.toArray).cells=zgv.toArray:=rfl
theorem aCA {w:World} {N:Nat -> Prop} {l:List Sgm} {A:Option Addr} {n cp:Nat} (h:CAt w N (.rows 2 (l.map Sgm.cells)) (.slice A n cp)) (hbig:n<=1000000) (sep:List UInt8) {f:FuncId} {first cap:Array Value} {all:Value -> Array Value} (hall:∀ v,first.push v ++ cap=all v)
  (he:∀ v w,(callFunc f (all v)).run Tryz.prog w=.ok (.enter f (all v)) w) (t:Sgm -> List UInt8) (hlen:(Lib.join (l.map t) sep).length<=100000000)
  (hp:∀ (x:Sgm),x ∈ l -> ∀ (w1:World) (cs:List Value),Fr [] w w1 -> gA w1 N x.cells cs -> Calls Tryz.prog f (all (.agg cs.toArray)) w1 fun e w'=>e=.returned (.string ⟨(t x).toArray⟩)/\Fr [] w1 w'):
  RV 32 #[.slice A n cp,.string ⟨sep.toArray⟩,.func (.func f) first cap] w (.string ⟨(Lib.join (l.map t) sep).toArray⟩):=by
 refine bA fun R HQ=>?_;obtain⟨A',c',g,off,hv,hA,hrow⟩:=h.row;injection hv with e1 e2 e3;subst e1 e2 e3;have hll:(l.map Sgm.cells).length=l.length:=by simp
 rw[hll] at hA h hbig ⊢;have HROW:=lh hrow;have HA:=lh hA;have HP:=lh hp;have HALL:=lh hall;have HEN:=lh he;have HJL:=lh hlen;obtain⟨ln,hln⟩:∃ ln,l.length=ln:=⟨_,rfl⟩;have HLN:=lh hln;rw[hln] at hbig ⊢;obtain⟨iu,hi,hz',hsz',hby⟩:=info_parts yW;have k1:0 < 1:=by omega
 clear hrow hA hp hall h hll hln he hlen
 go_enter Tryz.func32,Tryz.ntmps32
 go_wp2_with fail
 go_loopg [7,12] ln (fun j v7 v12 wr=>aEh t l ln w j v7 v12 wr)
 case atStart=>exact⟨0,by omega,rfl,by simpa using sG _ _ _ _,by simp[Value.ownBlock],Fr.refl _ _⟩
 case round=>
  obtain⟨k,hk,rfl,ho,hog,hf⟩:=hrel;have HO:=lh ho;have HOG:=lh hog;have HF:=lh hf;clear ho hog hf;have hkl9:(l.take k).length=k:=by rw[List.length_take,HLN.o];omega
  by_cases hkl:k < ln
  ·obtain⟨x,hx⟩:∃ x,l[k]? = some x:=gx (by rw[HLN.o];exact hkl);obtain⟨rfl,hNg⟩:=HA.o (by have:=HLN.o;omega);obtain⟨_,cs,hcs,hcell⟩:=HROW.o k x.cells (by rw[List.getElem?_map,hx];rfl);have hcl:cs.length=2:=hcs.1.trans (vL x);have hc1:(Tryz.prog.info? 54).map (·.size)=some cs.length:=by rw[hcl];exact aDV
   have hc2:zgv.length=cs.length:=by rw[hcl];rfl
   have hra:wr.rangeAt g (off+k * 2) cs:=fun j u hj=>by
    have:=hcell j u hj;rw[show off+2 * k+j=off+k * 2+j by rw[Nat.mul_comm]] at this;exact dA HF.o this
   have HC1:=lh hc1;have HC2:=lh hc2;have HRA:=lh hra;have HCS:=lh hcs;have HONE:=lh hcs.one;have HX:=lh hx
   have htk:l.take (k+1)=l.take k ++ [x]:=by
    obtain⟨hk',hx'⟩:=List.getElem?_eq_some_iff.1 hx;rw[List.take_succ_eq_append_getElem hk',hx']
   have HTK:=lh htk;have hl0:0 < ln:=by omega
   clear hcs hcell hcl hc1 hc2 hra hx htk;have hen:=HEN.o (.agg cs.toArray);have hal:=HALL.o (.agg cs.toArray)
   go_wp2_with (first
    | (with_reducible refine wpList_load_mid rfl 54 (.tmp 14) rfl g (off+k * 2) rfl cs _ HRA.o Tryz.underlying54 rfl HC1.o ?_)
    | (with_reducible refine zC rfl rfl 54 (.tmp 15) rfl rfl rfl rfl (.agg zgv.toArray) zgv aHd aFF cs rfl rfl HC1.o HC2.o HONE.o ?_))
   intro w4 hb4 hf4 hz4;have HB4:=lh hb4;have HF4:=lh (HF.o.trans hf4);have HO4:=lh (sB HO.o hf4 (by simp));have HC:=lh (HP.o x (List.mem_of_getElem? HX.o) w4 cs HF4.o (HCS.o.fr HF4.o));clear hb4 hf4
   go_wp2_with (with_reducible refine uA rfl 54 (.tmp 9) rfl rfl HB4.o Tryz.underlying54 rfl HC1.o ?_)
   refine HC.o.mono ?_;rintro e w5 ⟨rfl,hf5⟩;have HF5:=lh (HF4.o.trans hf5);have HO5:=lh (sB HO4.o hf5 (by simp));obtain⟨tx,htx⟩:∃ tx:ByteArray,tx=⟨(t x).toArray⟩:=⟨_,rfl⟩;rw[<- htx];have HTX:=lh htx;clear hf5 hen hal htx HC HB4;have hfa:Fr [] w5 (w5.alloc (.cells #[.string tx] 9)):=(Fr.refl [] w5).alloc _;have hba:=Blk.new w5 9 [.string tx];have hza:(w5.alloc (.cells #[.string tx] 9)).heap.size=w5.heap.size+1:=by simp
   have hoa:=sB HO5.o hfa (by simp);have hcl6:([.string tx]:List Value).length=1 * 1:=rfl;have hat6:∀ (j:Nat) (u:Value),([.string tx]:List Value)[j]? = some u -> (w5.alloc (.cells #[.string tx] 9)).cell? ((⟨w5.heap.size,0,none⟩:Addr).add j)=some u:=fun j u hu=>by rw[Addr.add_mid,Nat.zero_add];exact hba.at_ hu
   have hone6:∀ u ∈ ([.string tx]:List Value),u.oneCell'=true:=by intro u hu;simp at hu;subst hu;rfl
   have hml6:(l.take k).length+1<=maxLen:=by rw[hkl9];unfold maxLen;omega
   have hbb6:((l.take k).length+1) * 16<=140737488355328:=by rw[hkl9];omega
   have HW6:Hid (Fr [] w (w5.alloc (.cells #[.string tx] 9))):=lh (HF5.o.trans hfa);clear hfa hba
   go_wp2_with (with_reducible refine eE rfl (.tmp 16) (.tmp 20) rfl 9 1 16 Tryz.underlying43 hi hz' hsz' hby rfl k1 u7 (l.take k).length ((l.take k).map fun x=>SV (t x)) rfl hoa ⟨w5.heap.size,0,none⟩ 1 1 [.string tx] rfl hcl6 hat6 hone6 Nat.one_pos hml6 hbb6 (w5.heap.size+1) hza ?_)
   intro g7 cap w7 ho7 hf7 hat7;have hF7:Fr [] w w7:=HW6.o.trans hf7 (fun x hx=>.inr (HOG.o x (by simpa using hx)))
   have hg7:w.heap.size<=g7:=by
    rcases hat7 with h | h
    ·exact HOG.o _ h
    ·have:=HF5.o.size;omega
   have HO7:Hid (w7.ownsRow 0 9 1 (.slice (some ⟨g7,0,none⟩) (k+1) cap) (l.take (k+1)).length ((l.take (k+1)).map fun x=>SV (t x))):=lh (by
    rw[HTK.o,List.map_append,List.length_append,hkl9];rw[HTX.o,<- List.map_take] at ho7;exact ho7)
   have HF7:=lh hF7;have HG7:=lh hg7;clear ho7 hf7 hat7 hF7 hg7 hza hoa hcl6 hat6 hone6 hml6 hbb6;go_wp2_with fail
   go_roundg (ln - (k+1))
   case measure=>omega
   case rel=>exact⟨k+1,by omega,by go_num,HO7.o,by simp[Value.ownBlock];exact HG7.o,HF7.o⟩
  ·have hte:l.take k=l:=List.take_of_length_le (by rw[HLN.o];omega);have hO:=HO.o;rw[hte] at hO;obtain⟨oA,oc,hov,hoc,_⟩:=jC hO;subst hov;have hO2:=hO;have hJ:=aP (w:=wr) (g:=0) l t sep HJL.o hbig HLN.o hO;have HJ:=lh hJ;have hll:=HLN.o;rw[hll] at HJ ⊢;clear hO hO2 hte hoc hkl9 hJ hll HO;go_wp2_with fail;refine HJ.o.mono ?_;rintro e w2 ⟨rfl,hf2⟩;have HF2:=lh (HF.o.trans hf2);clear hf2;go_wp2_with fail;exact HQ.o _ _ ⟨rfl,HF2.o⟩
def aEi (n:Int):Bool:=decide (-9223372036854775808<=n/\n<=9223372036854775807)
theorem fR {w:World} {N:Nat -> Prop} {v:Vlu} {cs:List Value} (h:gA w N v.cells cs):∃ vl vm,cs=[.int .i64 v.kind,.bool v.b,.bool v.n.neg,.string ⟨v.n.digits.toArray⟩,.int .i64 v.n.exp,.string ⟨v.s.toArray⟩,vl,vm]/\CAt w N v.l vl/\CAt w N v.m vm:=by
 obtain⟨c1,rfl,h1⟩:=h.lf;obtain⟨c2,rfl,h2⟩:=h1.lf;obtain⟨c3,rfl,h3⟩:=h2.lf;obtain⟨c4,rfl,h4⟩:=h3.lf;obtain⟨c5,rfl,h5⟩:=h4.lf;obtain⟨c6,rfl,h6⟩:=h5.lf;obtain⟨vl,c7,rfl,k1,h7⟩:=h6.inv;obtain⟨vm,c8,rfl,k2,h8⟩:=h7.inv;rw[h8.nil_inv];exact⟨vl,vm,rfl,k1,k2⟩
theorem bL {w:World} {N:Nat -> Prop} {x:Slr} {cs:List Value} (h:gA w N x.cells cs):∃ A c,cs=[.int .i64 x.what,.string ⟨x.name.toArray⟩,.int .i64 x.at_,.bool x.has.1,.bool x.has.2.1,.bool x.has.2.2,.int .i64 x.s.1,.int .i64 x.s.2.1,.int .i64 x.s.2.2,.slice A x.f.length c]/\CAt w N (.rows 13 (x.f.map Xpr.cells)) (.slice A x.f.length c):=by
 obtain⟨what,name,at_,has,s,f⟩:=x;obtain⟨c1,rfl,h1⟩:=h.lf;obtain⟨c2,rfl,h2⟩:=h1.lf;obtain⟨c3,rfl,h3⟩:=h2.lf;obtain⟨c4,rfl,h4⟩:=h3.lf;obtain⟨c5,rfl,h5⟩:=h4.lf;obtain⟨c6,rfl,h6⟩:=h5.lf;obtain⟨c7,rfl,h7⟩:=h6.lf;obtain⟨c8,rfl,h8⟩:=h7.lf;obtain⟨c9,rfl,h9⟩:=h8.lf;obtain⟨vl,c10,rfl,k1,h10⟩:=h9.inv;rw[oC] at k1;obtain⟨A,c,rfl,_⟩:=k1.slice;rw[h10.nil_inv];exact⟨A,c,by simp[Slr.what,Slr.name,Slr.at_,Slr.has,Slr.s,Slr.f,S8],by simpa[Slr.f] using k1⟩
theorem aFG {w:World} (hg:bO w) (n:Int) (h:aEi n=true):RV 93 #[.int .i64 n] w (.string ⟨(Lib.itoa n).toArray⟩):=by
 unfold aEi at h;have:=of_decide_eq_true h;exact uY hg n this.1 this.2
end
end Go.Proofs.YtbggkiebfflcdaaGreatDoor
