/-
  Joined by join.py: Ef Eg CallF LawsB Fa Fb Ei
-/
import Derived.Lib.AtoiAll
import Derived.Lib.ItoaMem
import Derived.Laws.RangeString
import Derived.Laws.IdiomStrings
import Derived.Test.YtbggkiebfflcdaaGreatDoorChecked
import Derived.Lib.SlTrimSet
import Derived.Test.YtbggkiebfflcdaaGreatDoorJpp2
set_option maxRecDepth 100000
set_option maxHeartbeats 32000000
namespace Go.Proofs.YtbggkiebfflcdaaGreatDoor
section
open Go.RowKit
theorem dV (l:List UInt8) (c:UInt8):cK (l ++ [c])=cK l * 10+(c.toNat - 48):=by simp[cK,List.foldl_append]
theorem aDa {n:Nat} (h:n < 10):yA (UInt8.ofNat (48+n))=true/\(UInt8.ofNat (48+n)).toNat=48+n:=by
 have e:(UInt8.ofNat (48+n)).toNat=48+n:=by simp;omega
 exact⟨by unfold yA;rw[e,decide_eq_true_eq];omega,e⟩
theorem mK {c:UInt8} (h:yA c=true):48<=c.toNat/\c.toNat<=57/\UInt8.ofNat (48+(c.toNat - 48))=c:=by
 unfold yA at h;rw[decide_eq_true_eq] at h;refine⟨h.1,h.2,?_⟩;rw[show 48+(c.toNat - 48)=c.toNat by omega];exact UInt8.ofNat_toNat
theorem aY:∀ (u:Nat),(Lib.decDigits u).all yA=true/\Lib.decDigits u ≠ []/\cK (Lib.decDigits u)=u/\(0 < u -> jA 48 (Lib.decDigits u)=false)/\(∀ k,u < 10 ^ (k+1) -> (Lib.decDigits u).length<=k+1)
 | u=>by
  by_cases h:u < 10
  ·rw[Lib.decDigits_one h];obtain⟨h1,h2⟩:=aDa h;refine⟨by simp only[List.all_cons,List.all_nil,Bool.and_true];exact h1,by simp,by simp only[cK,List.foldl_cons,List.foldl_nil];rw[h2];omega,fun h0=>?_,fun k _=>by simp⟩;unfold jA;rw[beq_eq_false_iff_ne];intro e;have:UInt8.ofNat (48+u)=48:=by simpa using e
   rw[this] at h2;have:(48:UInt8).toNat=48:=rfl;omega
  ·have e:Lib.decDigits u=Lib.decDigits (u / 10) ++ [UInt8.ofNat (48+u % 10)]:=by rw[Lib.decDigits,dif_neg h]
   obtain⟨h1,h2⟩:=aDa (n:=u % 10) (by omega);obtain⟨i1,i2,i3,i4,i5⟩:=aY (u / 10);rw[e];refine⟨by rw[List.all_append,i1];simp only[List.all_cons,List.all_nil,Bool.and_true,Bool.true_and];exact h1,by simp,by rw[dV,i3,h2];omega,fun _=>?_,fun k hk=>?_⟩
   ·have:=i4 (by omega);unfold jA at this ⊢
    match hd:Lib.decDigits (u / 10),i2 with
    | x :: xs,_=>rw[hd] at this;simpa using this
   ·match k with
    | 0=>simp at hk;omega
    | k+1=>
     have hp:u / 10 < 10 ^ (k+1):=by rw[Nat.pow_succ] at hk;omega
     have:=i5 k hp
     simp;omega
termination_by u=>u
theorem aBu:∀ (n:Nat) (d:List UInt8),d.length=n+1 -> d.all yA=true -> ¬ (1 < d.length/\jA 48 d=true) -> Lib.decDigits (cK d)=d/\(1 < d.length -> 10<=cK d)/\(jA 48 d=false -> 0 < cK d)
 | 0,[c],_,hf,_=>by
  have h1:yA c=true:=by simpa using hf
  obtain⟨a,b,e⟩:=mK h1;have hn:cK [c]=c.toNat - 48:=by simp[cK]
  refine⟨?_,by simp,fun h=>?_⟩
  ·rw[hn,Lib.decDigits_one (by omega),e]
  ·rw[hn]
   have:c.toNat ≠ 48:=by
    intro e2;have:c=48:=UInt8.toNat_inj.1 e2;subst this
    simp[jA] at h
   omega
 | n+1,d,hl,hf,hz=>by
  obtain⟨d0,c,rfl⟩:∃ d0 c,d=d0 ++ [c]:=⟨d.dropLast,d.getLast (by intro h;subst h;simp at hl),(List.dropLast_concat_getLast _).symm⟩;have hl0:d0.length=n+1:=by simpa using hl
  rw[List.all_append,Bool.and_eq_true] at hf;have hc:yA c=true:=by simpa using hf.2
  obtain⟨a,b,e⟩:=mK hc
  have hh:jA 48 (d0 ++ [c])=jA 48 d0:=by
   match d0,hl0 with
   | x :: xs,_=>rfl
  have hz0:jA 48 d0=false:=by
   cases h:jA 48 d0
   ·rfl
   ·exact absurd ⟨by rw[hl];omega,hh.trans h⟩ hz
  obtain⟨i1,i2,i3⟩:=aBu n d0 hl0 hf.1 (fun h=>by rw[hz0] at h;exact absurd h.2 (by simp));have i4:=i3 hz0;rw[dV];refine⟨?_,fun _=>by omega,fun _=>by omega⟩;rw[Lib.decDigits,dif_neg (by omega),show(cK d0 * 10+(c.toNat - 48)) / 10=cK d0 by omega,show(cK d0 * 10+(c.toNat - 48)) % 10=c.toNat - 48 by omega,i1,e]
theorem aFd:∀ (d:List UInt8) (a:Nat),d.all yA=true -> d.foldl (fun n c=>n * 10+(c.toNat - 48)) a < (a+1) * 10 ^ d.length
 | [],a,_=>by simp
 | c :: d,a,h=>by
  simp only[List.all_cons,Bool.and_eq_true] at h;obtain⟨h1,h2,_⟩:=mK h.1;have:=aFd d (a * 10+(c.toNat - 48)) h.2;simp only[List.foldl_cons,List.length_cons];have h3:(a * 10+(c.toNat - 48)+1) * 10 ^ d.length<=((a+1) * 10) * 10 ^ d.length:=Nat.mul_le_mul_right _ (by omega);rw[Nat.pow_succ,Nat.mul_comm (10 ^ d.length) 10,<- Nat.mul_assoc];omega
theorem aGE:∀ (d:List UInt8) (a:Nat),d.all yA=true -> (a+1) * 10 ^ d.length<=100000000000000000 -> Lib.parseUint10 a d=.ok (d.foldl (fun n c=>n * 10+(c.toNat - 48)) a)
 | [],a,_,_=>rfl
 | c :: d,a,h,hb=>by
  simp only[List.all_cons,Bool.and_eq_true] at h;obtain⟨h1,h2,_⟩:=mK h.1;have h3:(a * 10+(c.toNat - 48)+1) * 10 ^ d.length<=((a+1) * 10) * 10 ^ d.length:=Nat.mul_le_mul_right _ (by omega);rw[List.length_cons,Nat.pow_succ,Nat.mul_comm (10 ^ d.length) 10,<- Nat.mul_assoc] at hb;have h4:1<=10 ^ d.length:=Nat.one_le_pow _ _ (by omega);have h5:(a+1) * 10 * 1<=(a+1) * 10 * 10 ^ d.length:=Nat.mul_le_mul_left _ h4;unfold Lib.parseUint10;rw[if_pos ⟨h1,h2⟩,if_neg (by omega),if_neg (by omega),aGE d _ h.2 (by omega)]
  rfl
theorem bY:(9007199254740991:Nat) < 10 ^ (15+1):=by decide
theorem aDb {v:Int} {s:List UInt8} (h:Lib.itoa v=s) (h1:-9007199254740991<=v) (h2:v<=9007199254740991):lF s=some v:=by
 have hz:∀ u:Nat,¬ (1 < (Lib.decDigits u).length/\jA 48 (Lib.decDigits u)=true):=fun u hh=>by
  obtain⟨i1,i2,i3,i4,i5⟩:=aY u
  by_cases h0:0 < u
  ·rw[i4 h0] at hh;exact absurd hh.2 (by simp)
  ·have:=i5 0 (by omega);omega
 by_cases hv:v < 0
 ·obtain⟨u,hu⟩:∃ u:Nat,v = -(u:Int):=⟨v.natAbs,by omega⟩;subst hu;rw[Lib.itoa_neg u (by omega)] at h;subst h;obtain⟨i1,i2,i3,i4,i5⟩:=aY u;have e:jA 45 (45 :: Lib.decDigits u)=true:=rfl;have e2:yD (45 :: Lib.decDigits u)=Lib.decDigits u:=rfl;unfold lF;rw[e,e2,if_neg,i3,if_neg (by omega),if_pos rfl];rintro(h | h | h | h | h)
  ·exact i2 h
  ·have:=i5 15 (by have:=bY;omega);omega
  ·rw[i1] at h;cases h
  ·exact hz u h
  ·have h6:=i3;rw[h.2] at h6;simp[cK] at h6;omega
 ·obtain⟨u,hu⟩:∃ u:Nat,v=(u:Int):=⟨v.toNat,by omega⟩;subst hu;rw[Lib.itoa_nonneg] at h;subst h;obtain⟨i1,i2,i3,i4,i5⟩:=aY u
  have e:jA 45 (Lib.decDigits u)=false:=by
   match hd:Lib.decDigits u,i2 with
   | x :: xs,_=>
    rw[hd] at i1;simp only[List.all_cons,Bool.and_eq_true] at i1;have:=mK i1.1;unfold jA;rw[beq_eq_false_iff_ne];intro e;have:x=45:=by simpa using e
    subst this
    simp at *
  have e2:yD (Lib.decDigits u)=Lib.decDigits u:=by unfold yD;rw[e];rfl
  unfold lF;rw[e,e2,if_neg,i3,if_neg (by omega),if_neg (by simp)];rintro(h | h | h | h | h)
  ·exact i2 h
  ·have:=i5 15 (by have:=bY;omega);omega
  ·rw[i1] at h;cases h
  ·exact hz u h
  ·exact absurd h.1 (by simp)
theorem qO {v:Int} {s:List UInt8} (h:lF s=some v):Lib.atoiAll s=.ok v/\Lib.itoa v=s /\ -9007199254740991<=v/\v<=9007199254740991:=by
 unfold lF at h
 split at h
 ·cases h
 ·rename_i hc
  split at h
  ·cases h
  ·rename_i hm
   unfold vS at hc;simp only[not_or] at hc;obtain⟨c1,c2,c3,c4,c5⟩:=hc;obtain⟨d,hd⟩:=nm (yD s);rw[<- hd] at h hm c1 c2 c3 c4 c5;obtain⟨u,hu⟩:∃ u:Nat,u=cK d:=⟨_,rfl⟩;rw[<- hu] at h hm;have hf:d.all yA=true:=by cases hh:d.all yA;exact absurd hh c3;rfl
   have hl:d.length=(d.length - 1)+1:=by
    match d,c1 with
    | x :: xs,_=>simp
   obtain⟨b1,b2,b3⟩:=aBu _ d hl hf c4;rw[<- hu] at b1 b2 b3
   have hp:Lib.parseMag d=.ok u:=by
    unfold Lib.parseMag;rw[if_neg c1,aGE d 0 hf ?_]
    ·rw[hu];rfl
    ·have:10 ^ d.length<=10 ^ 16:=Nat.pow_le_pow_right (by omega) (by omega);omega
   cases hn:jA 45 s with
   | true=>
    rw[hn] at h c5;unfold yD at hd;rw[hn,if_pos rfl] at hd;rw[if_pos rfl] at h
    match s,hn,hd with
    | c :: cs,hn,hd=>
     have hc:c=45:=by simpa[jA] using hn
     subst hc;simp only[List.drop_succ_cons,List.drop_zero] at hd;subst hd
     have hu0:0 < u:=by
      rcases Nat.lt_or_ge 1 d.length with h1 | h1
      ·have:=b2 h1;omega
      ·cases h8:jA 48 d
       ·exact b3 h8
       ·exfalso
        match d,h8,h1,c1 with
        | [x],h8,_,_=>
         have:x=48:=by simpa[jA] using h8
         subst this;exact c5 ⟨rfl,rfl⟩
     simp only[Option.some.injEq] at h;subst h;refine⟨?_,by rw[Lib.itoa_neg u (by omega),b1],by omega,by omega⟩;unfold Lib.atoiAll
     simp only
     rw[if_pos (.inr rfl),hp]
     simp only
     rw[if_neg (by simp),if_neg (by omega),if_pos (by rfl)]
   | false=>
    rw[hn,if_neg (by simp)] at h;unfold yD at hd;rw[hn,if_neg (by simp)] at hd;subst hd;simp only[Option.some.injEq] at h;subst h;refine⟨?_,by rw[Lib.itoa_nonneg,b1],by omega,by omega⟩
    match d,c1,hp,hf with
    | c :: cs,_,hp,hf=>
     simp only[List.all_cons,Bool.and_eq_true] at hf;have:=mK hf.1;unfold Lib.atoiAll
     simp only
     rw[if_neg (by omega),hp]
     simp only
     rw[if_neg (by omega),if_neg (by omega),if_neg (by omega)]
theorem aDc (s:ByteArray) (i:Nat) (h:i < s.size):s.get! i=s[i]'h:=by
 show s.get! i=_
 simp[ByteArray.get!,getElem!_pos,h]
 rfl
theorem aBX (s:ByteArray) (pos:Nat) (h:pos < s.size) (hb:128<=(s[pos]'h).toNat):
  ∃ r k,Utf8.decode s pos=(r,k)/\128<=r/\r<=2097151/\1<=k/\pos+k<=s.size/\∀ j (hj:j < s.size),pos<=j -> j < pos+k -> 128<=(s[j]'hj).toNat:=by
 have hlt:=(s[pos]'h).toNat_lt
 have one:∀ j (hj:j < s.size),pos<=j -> j < pos+1 -> 128<=(s[j]'hj).toNat:=fun j hj h1 h2=>by
  have:j=pos:=by omega
  subst this;exact hb
 have err:∃ r k,(Utf8.runeError,1)=(r,k)/\128<=r/\r<=2097151/\1<=k/\pos+k<=s.size/\∀ j (hj:j < s.size),pos<=j -> j < pos+k -> 128<=(s[j]'hj).toNat:=⟨_,_,rfl,by decide,by decide,Nat.le_refl _,by omega,one⟩
 have cont:∀ k,(decide (pos+k < s.size) && (s.get! (pos+k)).toNat / 64 == 2)=true -> ∃ hk:pos+k < s.size,128<=(s[pos+k]'hk).toNat:=fun k hk=>by
  rw[Bool.and_eq_true,decide_eq_true_eq,beq_iff_eq] at hk;refine⟨hk.1,?_⟩;have:=hk.2;rw[aDc s _ hk.1] at this;omega
 unfold Utf8.decode;simp only[aDc s _ (show pos+0 < s.size by omega)];simp only[Nat.add_zero];rw[if_neg (by omega)]
 split
 ·rename_i h2
  rw[Bool.and_eq_true] at h2;obtain⟨k1,b1⟩:=cont 1 h2.2;have h6:=eq_of_beq h2.1
  split
  ·refine⟨_,_,rfl,by omega,?_,by omega,by omega,fun j hj h3 h4=>?_⟩
   ·have:(s.get! (pos+1)).toNat < 256:=(s.get! (pos+1)).toNat_lt;omega
   ·have hj2:j=pos ∨ j=pos+1:=by omega
    rcases hj2 with rfl | rfl
    ·exact hb
    ·exact b1
  ·exact err
 ·split
  ·rename_i h3
   rw[Bool.and_eq_true,Bool.and_eq_true] at h3;obtain⟨k1,b1⟩:=cont 1 h3.1.2;obtain⟨k2,b2⟩:=cont 2 h3.2;have h6:=eq_of_beq h3.1.1
   split
   ·rename_i hv
    rw[Bool.and_eq_true,decide_eq_true_eq] at hv;refine⟨_,_,rfl,by omega,?_,by omega,by omega,fun j hj h3 h4=>?_⟩
    ·have:(s.get! (pos+1)).toNat < 256:=(s.get! (pos+1)).toNat_lt;have:(s.get! (pos+2)).toNat < 256:=(s.get! (pos+2)).toNat_lt;omega
    ·have hj2:j=pos ∨ j=pos+1 ∨ j=pos+2:=by omega
     rcases hj2 with rfl | rfl | rfl
     ·exact hb
     ·exact b1
     ·exact b2
   ·exact err
  ·split
   ·rename_i h4
    rw[Bool.and_eq_true,Bool.and_eq_true,Bool.and_eq_true] at h4;obtain⟨k1,b1⟩:=cont 1 h4.1.1.2;obtain⟨k2,b2⟩:=cont 2 h4.1.2;obtain⟨k3,b3⟩:=cont 3 h4.2;have h6:=eq_of_beq h4.1.1.1
    split
    ·rename_i hv
     rw[Bool.and_eq_true,decide_eq_true_eq] at hv;refine⟨_,_,rfl,by omega,?_,by omega,by omega,fun j hj h3 h4=>?_⟩
     ·omega
     ·have hj2:j=pos ∨ j=pos+1 ∨ j=pos+2 ∨ j=pos+3:=by omega
      rcases hj2 with rfl | rfl | rfl | rfl
      ·exact hb
      ·exact b1
      ·exact b2
      ·exact b3
    ·exact err
   ·exact err
theorem aDd {c:UInt8} (h:128<=c.toNat):nB c=true:=by
 unfold nB zI;have:decide (127 < c.toNat)=true:=dT (by omega)
 rw[this];simp
theorem oL {α:Type} {p:α -> Bool}:∀ {l:List α} {k:Nat},k<=l.length -> (∀ c ∈ l.take k,p c=true) -> (∀ c,l[k]? = some c -> p c=false) -> l.takeWhile p=l.take k/\l.dropWhile p=l.drop k
 | [],k,_,_,_=>by simp
 | c :: l,0,_,_,h=>by
  have:=h c rfl
  simp[this]
 | c :: l,k+1,hk,h1,h2=>by
  have hc:=h1 c (by simp);obtain⟨i1,i2⟩:=oL (l:=l) (k:=k) (by simpa using hk) (fun x hx=>h1 x (by simp[hx])) (fun x hx=>h2 x (by simpa using hx))
  simp[hc,i1,i2]
section
variable {P : Program} {o : Oper} {a : Act} {w : World} {K : Act -> World -> Prop} {Q : Exit -> Act -> World -> Prop}
theorem zA {f:FuncId} {l:List Operand} {tys:Array TypeId} (ho:o.op=.call { callee:=.value (.func f),args:=l.toArray,argTypes:=tys }) (vs:List Value) (hvs:l.map a.eval=vs)
  (he:∀ w,(callFunc f vs.toArray).run P w=.ok (.enter f vs.toArray) w)
  (hc:Calls P f vs.toArray w (fun e w'=>∃ v,e=.returned v/\K (a.put o.dst v) w')):Oper.wp P o a w K Q:=by
 unfold Oper.wp;have hm:l.toArray.map a.eval=vs.toArray:=by rw[<- hvs];simp
 have hrun:(execOp a.eval o).run P w=.ok (.enter f vs.toArray) w:=by
  simp only[execOp,ho,resolve,hm]
  simp[invoke,Act.eval,he,Deferred.ofValue]
 rw[hrun];refine hc.mono ?_;rintro e w' ⟨v,rfl,h⟩;exact h
end
section
variable {P : Program} {o : Oper} {a : Act} {w : World} {K : Act -> World -> Prop} {Q : Exit -> Act -> World -> Prop}
theorem zR {t t2 e e2 ty:TypeId} (ht:P.underlying t=some (.slice e)) (h2:P.underlying t2=some (.slice e2)) (hi:(P.info? e).map (·.size)=some 1) (A:Option Addr) (B:Option Addr) (n c d:Nat) (hn:n<=c):
  (Builtin.append_ #[t,t2] ty #[.slice A n c,.slice B 0 d]).run P w=.ok (.slice A n c) w:=by
 obtain⟨i,hi1,hi2⟩:=Option.map_eq_some_iff.1 hi;have h3:∀ w,(underlying t2).run P w=.ok (.slice e2) w:=fun w=>by simp[underlying,go_sem,h2]
 have h4:∀ w,(underlying t).run P w=.ok (.slice e) w:=fun w=>by simp[underlying,go_sem,ht]
 have h5:∀ w,(sizeOf e).run P w=.ok 1 w:=fun w=>by simp[sizeOf,typeInfo,go_sem,hi1,hi2]
 unfold Builtin.append_
 cases A <;> cases B <;> simp[go_sem,h3,h4,h5,hn,loadCellsFrom]
end
theorem nK (w:World) (s:ByteArray) (hs:s.size<=140737488351232):∃ C w',(convert 9 149 (.string s)).run Tryz.prog w=.ok (.slice (some ⟨w.heap.size,0,none⟩) s.size C) w'/\C<=9223372036854775807/\pB w' (.slice (some ⟨w.heap.size,0,none⟩) s.size C) (aA s) w.heap.size/\Fr [] w w':=by
 have hcv:=run_bytes_of_string (P:=Tryz.prog) w 9 149 5 s Tryz.underlying9 Tryz.underlying149 Tryz.underlying5;have hge:=grownCap_ge w s.size 0 5;have hle:=grownCap_le_maxLen w s.size 0 5 (by unfold maxLen;omega);unfold maxLen at hle;generalize grownCap w s.size 0 5=C at *;refine⟨C,_,hcv,hle,⟨_,C,0,by rw[cA],by rw[cA];exact hge,fun h0=>⟨rfl,fun j u hu=>?_⟩⟩,((Fr.refl [] w).drew).alloc _⟩;have hb:(w.drew.alloc (.cells (bytesRow s C) 5 ((bytesRow s C).size,(bytesRow s C).size+1))).heap[w.heap.size]? = some (.cells (bytesRow s C) 5 ((bytesRow s C).size,(bytesRow s C).size+1)):=heap_alloc_new w.drew _;rw[Nat.zero_add];simp only[World.cell?,hb];rw[iJ] at hu;obtain⟨x,hx,rfl⟩:=Option.map_eq_some_iff.1 hu;unfold aA at hx;obtain⟨hj,hx'⟩:=List.getElem?_eq_some_iff.1 hx;have hj':j < s.data.size:=by simpa using hj
 simp only[Option.isSome_none,Bool.false_eq_true,if_false];rw[bytesRow,Array.getElem?_append_left (by simpa using hj')];simp only[Array.getElem?_map];rw[Array.getElem?_eq_getElem hj'];have:s.data[j]=x:=by simpa using hx'
 rw[this];rfl
section
variable {P : Program} {o : Oper} {a : Act} {w : World} {K : Act -> World -> Prop} {Q : Exit -> Act -> World -> Prop}
theorem cG {t:TypeId} (s x:Operand) (ho:o.op=.call { callee:=.builtin .append,args:=#[s,x],argTypes:=#[t,t] })
  (e:TypeId) {i:TypeInfo} {z:Value} (bytes:Nat) (ht:P.underlying t=some (.slice e)) (hi:P.info? e=some i) (hz:i.zero=some z) (hsize:i.size=1) (hby:i.bytes=bytes) (hzs:z.cells.size=1)
  (v:Value) (n:Nat) (xs:List Value) (hs:a.eval s=v) (hown:w.ownsRow 0 e 1 v n xs)
  (vx:Value) (m g0:Nat) (news:List Value) (hx:a.eval x=vx) (hsl:kP w vx m news g0) (hl:news.length=m) (h1:∀ u ∈ news,u.oneCell'=true)
  (h63:n+m<=maxLen) (hbytes:(n+m) * bytes<=140737488355328) (H:Nat) (hH:w.heap.size=H)
  (h:∀ v' w',w'.ownsRow 0 e 1 v' (n+m) (xs ++ news) -> Fr v.ownBlock.toList w w' -> (∀ g,v'.ownBlock=some g -> v.ownBlock=some g ∨ g=H) -> K (a.put o.dst v') w'):Oper.wp P o a w K Q:=by
 obtain⟨B,d,off,rfl,hd,hc⟩:=hsl
 by_cases hm:0 < m
 ·obtain⟨rfl,hcell⟩:=hc hm;refine jB s x ho e 1 bytes ht hi hz hsize hby hzs (by omega) v n xs hs hown ⟨g0,off,none⟩ m d news hx (by omega) (fun j u hj=>by rw[Addr.add_mid];exact hcell j u hj) h1 hm h63 hbytes H hH fun g cap w' h2 h3 h4 h5=>h _ w' h2 h3 (fun g' hg=>?_);have:g=g':=by simpa[Value.ownBlock] using hg
  subst this;exact h4
 ·have hm0:m=0:=by omega
  subst hm0;have hn0:news=[]:=List.eq_nil_of_length_eq_zero hl;subst hn0;obtain⟨A,c,rfl,hnc,_⟩:=jC hown;have hr:=zR (P:=P) (w:=w) (ty:=o.type) ht ht (by rw[hi];simp[hsize]) A B n c d hnc;unfold Oper.wp execOp;simp only[ho,resolve,invoke,builtin,Sem.run_bind,Sem.run_pure,Result.andThen_ok,List.map_toArray,List.map_cons,List.map_nil,hs,hx,hr];exact h _ _ (by simpa using hown) (Fr.refl _ _) (fun g hg=>.inl hg)
end
theorem aAq (n:Nat):jE n []=true:=by cases n <;> rfl
theorem cY {n:Nat} {l:List UInt8} (h:mB l=none) (hl:l ≠ []):jE n l=false:=by
 match l,hl with
 | c :: cs,_=>
  cases n with
  | zero=>rfl
  | succ n=>unfold jE;simp only[h]
theorem dY {n r k:Nat} {l:List UInt8} (h:mB l=some (r,k)) (hn:l.length<=n+1):jE (n+1) l=jE n (l.drop k):=by
 match l with
 | []=>simp[mB] at h
 | c :: cs=>rw[jE];simp only[h]
def CkRel (w:World) (bs:List UInt8) (v3:Value) (wr:World):Prop:=∃ k m:Nat,k<=bs.length/\v3=.int .i64 (k:Int)/\Fr [] w wr/\sI bs=jE m (bs.drop k)/\bs.length<=m+k
theorem pL {w:World} {A:Option Addr} {n c g:Nat} {bs:List UInt8} (hv:pB w (.slice A n c) bs g) (hc:c<=9223372036854775807):Calls Tryz.prog 98 #[.slice A n c] w fun e w'=>∃ x:Int,e=.returned (.int .i64 x)/\decide (x < 0)=sI bs/\Fr [] w w':=by
 refine bA fun R HQ=>?_;obtain⟨hn,hnc⟩:=hv.len;have HV:=lh hv;have HN:=lh hn;clear hv hn
 go_enter Tryz.func98,Tryz.ntmps98
 go_wp2_with fail
 go_loopw [3] (fun v wr=>CkRel w bs v wr) (fun v _=>n - (intOf v).toNat)
 case atStart=>exact⟨0,bs.length,by omega,rfl,Fr.refl _ _,rfl,by omega⟩
 case round=>
  obtain⟨k,m0,hk,rfl,hf,hval,hm⟩:=hrel;rw[<- HN.o] at hk hm;have HF:=lh hf;have HVA:=lh hval;clear hf hval
  by_cases hkn:k < n
  ·have hbs:=(HV.o.fr HF.o).from_ k (by rw[<- HN.o];exact hk);rw[<- HN.o] at hbs;have hsl:=iD (P:=Tryz.prog) (t:=149) Tryz.underlying149 (by kernel_rfl) A n c k .i64 hk;generalize (if c=k then A else A.map (·.add k))=sa at *;have HBS:=lh hbs;have hs1:=hsl wr;clear hbs hsl;go_wp2_with fail;refine(wX HBS.o (by omega)).mono ?_;rintro e w1 ⟨rfl,hf1⟩;have HF1:=lh (HF.o.trans hf1);clear hf1 hs1;unfold tC
   cases hnx:mB (bs.drop k) with
   | none=>
    have HE:Hid (sI bs=false):=lh (by rw[HVA.o];exact cY hnx (by intro e;have:=congrArg List.length e;rw[List.length_drop,<- HN.o] at this;simp at this;omega));clear hnx;go_wp2_with fail;exact HQ.o _ _ ⟨_,rfl,by rw[HE.o,decide_eq_false_iff_not];omega,HF1.o⟩
   | some y=>
    obtain⟨r,m⟩:=y;have hp:=uF hnx;obtain⟨m1,rfl⟩:∃ m1,m0=m1+1:=⟨m0 - 1,by omega⟩;have HVD:Hid (sI bs=jE m1 (bs.drop (k+m))):=lh (by rw[HVA.o,dY hnx (by rw[List.length_drop,<- HN.o];omega),List.drop_drop]);obtain⟨h1,h2,h3,h4⟩:=hp;rw[List.length_drop,<- HN.o] at h2;have m0:((m:Int) == 0)=false:=by simp;omega
    have hkm:k+m<=n:=by omega
    have hn2:n<=c:=by rw[HN.o];exact hnc
    have HM:Hid (n<=m1+(k+m)):=lh (by omega);clear hnx hm;go_wp2_with fail
    go_roundw
    case rel=>exact⟨k+m,m1,by rw[<- HN.o];omega,by go_num,HF1.o,HVD.o,by rw[<- HN.o];exact HM.o⟩
    case measure=>simp[intOf];omega
  ·have HVB:Hid (sI bs=true):=lh (by rw[HVA.o,List.drop_of_length_le (by rw[<- HN.o];omega)];exact aAq _);clear hm;go_wp2_with fail;exact HQ.o _ _ ⟨_,rfl,by rw[HVB.o];rfl,HF.o⟩
theorem lP:(Tryz.prog.info? 5).map (fun i=>(i.zero,i.size,i.bytes))=some (some (.int .u8 0),1,1):=by kernel_rfl
theorem gS (r n:Nat) (hn:n<=32):Op.shift .shr .i32 (r:Int) .i64 (IntKind.i64.wrap (n:Int))=pure (.int .i32 ((r / 2 ^ n:Nat):Int)):=by
 have e:IntKind.i64.wrap (n:Int)=n:=by rw[IntKind.wrap_i64];omega
 rw[e];unfold Op.shift;rw[if_neg (by omega)];have e2:min (n:Int).toNat IntKind.i32.bits=n:=by rw[show IntKind.i32.bits=32 from rfl];omega
 simp only[e2];rw[Int.fdiv_eq_ediv_of_nonneg _ (by exact Int.pow_nonneg (by omega))]
 simp
theorem aDe (q:Nat) (h:q < 128):bits .or .u8 0 (q:Int)=((0+q:Nat):Int):=by
 have all:∀ q:Fin 128,bits .or .u8 0 (q.val:Int)=((0+q.val:Nat):Int):=by decide +kernel
 exact all ⟨q,h⟩
theorem aDf (q:Nat) (h:q < 32):bits .or .u8 192 (q:Int)=((192+q:Nat):Int):=by
 have all:∀ q:Fin 32,bits .or .u8 192 (q.val:Int)=((192+q.val:Nat):Int):=by decide +kernel
 exact all ⟨q,h⟩
theorem aDg (q:Nat) (h:q < 16):bits .or .u8 224 (q:Int)=((224+q:Nat):Int):=by
 have all:∀ q:Fin 16,bits .or .u8 224 (q.val:Int)=((224+q.val:Nat):Int):=by decide +kernel
 exact all ⟨q,h⟩
theorem aDh (q:Nat) (h:q < 8):bits .or .u8 240 (q:Int)=((240+q:Nat):Int):=by
 have all:∀ q:Fin 8,bits .or .u8 240 (q.val:Int)=((240+q.val:Nat):Int):=by decide +kernel
 exact all ⟨q,h⟩
theorem iS:∀ x:Fin 256,bits .or .u8 128 (bits .and .u8 (x.val:Int) 63)=((128+x.val % 64:Nat):Int):=by decide +kernel
def pG (r:Nat):Nat -> List UInt8
 | 0=>[]
 | k+1=>UInt8.ofNat (128+r / 2 ^ (6 * k) % 64) :: pG r k
def mP (w:World) (r:Nat) (bs:List UInt8) (j:Nat) (v6 v7:Value) (wr:World):Prop:=
 ∃ pre:List UInt8,v6=.int .i64 (j:Int)/\bs ++ vC r=pre ++ pG r j/\wr.ownsRow 0 5 1 v7 pre.length (iB pre)/\(∀ g,v7.ownBlock=some g -> w.heap.size<=g)/\j<=3/\pre.length+j<=1000004/\Fr [] w wr
theorem eK {w w3 w4 w7:World} {r ld j:Nat} {bs pre:List UInt8} {v3:Value} {g7 cap:Nat} (hq:ld < 256) (hb:pre.length+1+j<=1000004) (hj:j<=3) (hf3:Fr [] w w3) (hg3:∀ g,v3.ownBlock=some g -> w.heap.size<=g) (hfn:Fr [] w3 w4) (_hsn:w4.heap.size=w3.heap.size+1)
  (hf7:Fr v3.ownBlock.toList w4 w7) (ho7:w7.ownsRow 0 5 1 (.slice (some ⟨g7,0,none⟩) (pre.length+1) cap) (pre.length+1) (iB pre ++ [.int .u8 (ld:Int)])) (hat:v3.ownBlock=some g7 ∨ g7=w3.heap.size+1) (he:bs ++ vC r=(pre ++ [UInt8.ofNat ld]) ++ pG r j):
  mP w r bs j (.int .i64 j) (.slice (some ⟨g7,0,none⟩) (pre.length+1) cap) w7:=by
 have hs:=hf3.size;refine⟨pre ++ [UInt8.ofNat ld],rfl,he,?_,fun g hg=>?_,hj,by simp;omega,(hf3.trans hfn).trans hf7 (fun x hx=>.inr (hg3 x (by simpa using hx)))⟩
 ·have e:iB (pre ++ [UInt8.ofNat ld])=iB pre ++ [.int .u8 (ld:Int)]:=by
   rw[cO];simp only[iB,List.map_cons,List.map_nil,B8];rw[show(UInt8.ofNat ld).toNat=ld by simp;omega]
  rw[e]
  simpa using ho7
 ·have:g7=g:=by simpa[Value.ownBlock] using hg
  subst this;rcases hat with h | h
  ·exact hg3 _ h
  ·omega
theorem putU0 (r:Nat) (h:r < 128):vC r=[UInt8.ofNat (0+r / 2 ^ 0)] ++ pG r 0:=by simp[vC,pG,h]
theorem putU1 (r:Nat) (h1:¬ r < 128) (h:r < 2048):vC r=[UInt8.ofNat (192+r / 2 ^ 6)] ++ pG r 1:=by simp[vC,pG,h1,h]
theorem putU2 (r:Nat) (h1:¬ r < 2048) (h:r < 65536):vC r=[UInt8.ofNat (224+r / 2 ^ 12)] ++ pG r 2:=by simp[vC,pG,show ¬ r < 128 by omega,h1,h]
theorem putU3 (r:Nat) (h1:¬ r < 65536):vC r=[UInt8.ofNat (240+r / 2 ^ 18)] ++ pG r 3:=by simp[vC,pG,show ¬ r < 128 by omega,show ¬ r < 2048 by omega,h1]
theorem aBv {w:World} {v:Value} {bs:List UInt8} (r:Nat) (hs:lB (r:Int)=true) (hown:w.ownsRow 0 5 1 v bs.length (iB bs)) (hb:bs.length<=1000000):Calls Tryz.prog 161 #[v,.int .i32 (r:Int)] w fun e w'=>∃ v',e=.returned v'/\w'.ownsRow 0 5 1 v' (bs ++ vC r).length (iB (bs ++ vC r))/\(∀ g,v'.ownBlock=some g -> w.heap.size<=g)/\Fr [] w w':=by
 refine bA fun R HQ=>?_;obtain⟨g0,hsl,_⟩:=kP.of_own hown 0;have HS:=lh hs;have HOWN:=lh hown;have HSL:=lh hsl;clear hsl;have hr9:r<=1114111:=by unfold lB at hs;rw[decide_eq_true_eq] at hs;omega
 clear hs hown
 go_enter Tryz.func161,Tryz.ntmps161
 go_wp2_with fail;refine(zH _ _).mono ?_;rintro e w1 ⟨rfl,rfl⟩;rw[HS.o];go_wp2_with fail;refine(vQ _).mono ?_;rintro e w1 ⟨rfl,hf1⟩;have HF1:=lh hf1;clear hf1;unfold qB;go_wp2_with fail;have hbl:=Blk.new w1 218 qB;have hfl:Fr [] w (w1.alloc (.cells qB.toArray 218)):=HF1.o.alloc _;unfold qB at hbl hfl;obtain⟨gl,hgl⟩:=nm (w1.heap.size);have hge:w.heap.size<=gl:=by rw[hgl];exact HF1.o.size
 rw[<- hgl] at hbl ⊢;generalize w1.alloc _=w2 at *;have HBL:=lh hbl;have HFL:=lh hfl;clear hbl hfl hgl HF1
 go_loop [6] (fun v=>∃ k:Nat,k<=3/\v=.int .i64 (k:Int)/\∀ j,k < j -> j<=3 -> r < yB j) (fun v=>(intOf v).toNat)
 case atStart=>exact⟨3,Nat.le_refl _,rfl,fun j h1 h2=>by omega⟩
 case round=>
  obtain⟨k,hk,rfl,hno⟩:=hrel;have HNO:=lh hno;clear hno
  by_cases hlt:r < yB k
  ·have h0:k=1 ∨ k=2 ∨ k=3:=by
    have:k ≠ 0:=by intro e;subst e;simp[yB] at hlt
    omega
   rcases h0 with rfl | rfl | rfl
   ·skip
    have hc:=HBL.o.at_ (i:=5) rfl;have hd:decide ((r:Int) < 128)=true:=by rw[decide_eq_true_eq];simp[yB] at hlt;omega
    have HN2:Hid (∀ j,1 - 1 < j -> j<=3 -> r < yB j):=lh fun j h1 h2=>by
     by_cases h:j=1
     ·subst h;exact hlt
     ·exact HNO.o j (by omega) h2
    clear hlt;go_wp2_with fail
    go_round
    case rel=>exact⟨1 - 1,by omega,by go_num,HN2.o⟩
    case measure=>simp[intOf]
   ·skip
    have hc:=HBL.o.at_ (i:=8) rfl;have hd:decide ((r:Int) < 2048)=true:=by rw[decide_eq_true_eq];simp[yB] at hlt;omega
    have HN2:Hid (∀ j,2 - 1 < j -> j<=3 -> r < yB j):=lh fun j h1 h2=>by
     by_cases h:j=2
     ·subst h;exact hlt
     ·exact HNO.o j (by omega) h2
    clear hlt;go_wp2_with fail
    go_round
    case rel=>exact⟨2 - 1,by omega,by go_num,HN2.o⟩
    case measure=>simp[intOf]
   ·skip
    have hc:=HBL.o.at_ (i:=11) rfl;have hd:decide ((r:Int) < 65536)=true:=by rw[decide_eq_true_eq];simp[yB] at hlt;omega
    have HN2:Hid (∀ j,3 - 1 < j -> j<=3 -> r < yB j):=lh fun j h1 h2=>by
     by_cases h:j=3
     ·subst h;exact hlt
     ·exact HNO.o j (by omega) h2
    clear hlt;go_wp2_with fail
    go_round
    case rel=>exact⟨3 - 1,by omega,by go_num,HN2.o⟩
    case measure=>simp[intOf]
  ·have h4:k=0 ∨ k=1 ∨ k=2 ∨ k=3:=by omega
   rcases h4 with rfl | rfl | rfl | rfl
   ·skip
    have hc:=HBL.o.at_ (i:=2) rfl;have hl:=HBL.o.at_ (i:=1) rfl;have hd:decide ((r:Int) < 0)=false:=by rw[decide_eq_false_iff_not];simp[yB] at hlt;omega
    have HK:=lh hlt;clear hlt;rw[show((0:Nat):Int)=0 from rfl];go_upto_region 7 with fail
    refine wp_region_lit ?_;refine rn rfl (by go_simp <;> with_reducible rfl) ?_;simp only[nrm];refine lp fun K hK=>?_;obtain⟨iu,hi,hz',hsz',hby⟩:=info_parts lP;refine cG (.const (.slice none 0 0)) (.tmp 20) rfl 5 1 Tryz.underlying149 hi hz' hsz' hby rfl (.slice none 0 0) 0 [] rfl (sG _ _ _ _) v bs.length g0 (iB bs) rfl (HSL.o.fr HFL.o) (lG bs) (yH bs) (by unfold maxLen;omega) (by omega) w2.heap.size rfl fun v3 w3 ho3 hf3 hg3=>hK _ _ ?_;simp only[nrm];clear hK;refine rn rfl (by go_simp <;> with_reducible rfl) ?_;simp only[nrm];refine wpList_nil ?_;have hf3:Fr [] w2 w3:=hf3;have ho3:w3.ownsRow 0 5 1 v3 bs.length (iB bs):=by simpa using ho3
    have hb3:=HBL.o.fr hf3;have cl:=hb3.at_ (i:=1) rfl;have HB3:=lh hb3;have HF3:=lh (HFL.o.trans hf3);have HO3:=lh ho3
    have HG3:Hid (∀ g,v3.ownBlock=some g -> w.heap.size<=g):=lh (fun g hg=>by
     rcases hg3 g hg with h | h
     ·simp[Value.ownBlock] at h
     ·have:=HFL.o.size;omega)
    clear hb3 hf3 ho3 hg3
    have hq:r / 2 ^ 0 < 128:=by
     have:=HK.o;have:=HNO.o;have h9:=HNO.o 1 (by omega) (by omega);simp only[yB] at h9;omega
    obtain⟨q,hqe⟩:∃ q,r / 2 ^ 0=q:=⟨_,rfl⟩;have a1:Op.shift BinOp.shr IntKind.i32 (r:Int) IntKind.i64 (IntKind.i64.wrap 0)=pure (.int .i32 (q:Int)):=by rw[<- hqe];exact gS r 0 (by omega)
    rw[hqe] at hq;have a2:IntKind.u8.wrap (q:Int)=q:=by rw[IntKind.wrap_u8];omega
    obtain⟨ld,hld⟩:∃ ld,0+q=ld:=⟨_,rfl⟩;have a3:bits .or .u8 0 (q:Int)=(ld:Int):=by rw[<- hld];exact aDe q hq
    have hld2:ld < 256:=by omega
    have HLD:=lh hld;clear hld;have HQE:=lh hqe;clear hqe
    have hpu:vC r=[UInt8.ofNat (0+r / 2 ^ 0)] ++ pG r 0:=by
     have h9:=HK.o;simp only[yB] at h9;exact putU0 r (by have:=HNO.o 1 (by omega) (by omega);simpa[yB] using this)
    have HPU:=lh hpu;clear hpu
    have HCL:Hid (∀ {w4 w7:World},Fr [] w3 w4 -> Fr v3.ownBlock.toList w4 w7 -> w7.cell? ⟨gl,1,none⟩=some (.int .u8 0)):=lh fun h1 h2=>by
     have h8:=HB3.o.fr h1;exact(h8.fr h2 (by have:=kW HO3.o HB3.o (by decide);simpa using this)).at_ rfl
    go_upto_region 8 with fail
    refine mA (fun W=>W.cell? ⟨gl,1,none⟩=some (.int .u8 0)/\True) [0,1,2,3,4,5,6,7,8,9,10] (by kernel_rfl) ?_;refine tks [0,1,2,3,4,5,6,7,8,9,10] ?_
    iterate 11 (refine tk rfl rfl ⟨cl,trivial⟩ rfl (fun _ hW=>by(obtain⟨c2',_⟩:=hW;go_simp) <;> with_reducible rfl) ?_;simp only[nrm])
    refine tke ?_;refine sp 11 rfl rfl rfl fun K hK=>?_;refine uE (.tmp 32) rfl Tryz.underlying149 hi hz' hsz' rfl (.int .u8 (ld:Int)) rfl rfl w3.heap.size rfl fun w4 hbn hfn0 hsn=>hK _ _ (fun _=>⟨(HB3.o.fr (((Fr.refl [] w3).drew).trans hfn0)).at_ (i:=1) rfl,trivial⟩) ?_;simp only[nrm];have hfn:Fr [] w3 w4:=((Fr.refl [] w3).drew).trans hfn0;clear hK hfn0;refine sp 12 rfl rfl rfl fun K hK=>?_;refine jB (.tmp 22) (.tmp 33) rfl 5 1 1 Tryz.underlying149 hi hz' hsz' hby rfl (by omega) v3 bs.length (iB bs) rfl (sB HO3.o hfn (by simp)) ⟨w3.heap.size,0,none⟩ 1 1 [.int .u8 (ld:Int)] rfl rfl (fun j u hu=>by rw[Addr.add_mid,Nat.zero_add];exact hbn.at_ hu) (by intro u hu;simp at hu;subst hu;rfl) (by omega) (by unfold maxLen;omega) (by omega) (w3.heap.size+1) hsn fun g7 cap w7 ho7 hf7 hat7 hlt7=>hK _ _ (fun _=>⟨HCL.o hfn hf7,trivial⟩) ?_;simp only[nrm];clear hK;refine sp 13 rfl rfl rfl fun K hK=>?_;refine tA (v:=?aq4_13) ?yq4_13 (hK _ _ (fun h=>absurd h (by decide +kernel)) ?_)
    case yq4_13=>go_simp <;> with_reducible rfl
    simp only[nrm];refine wd ?_ _;have HREL:Hid (mP w r bs 0 (.int .i64 0) (.slice (some ⟨g7,0,none⟩) (bs.length+1) cap) w7):=lh (eK hld2 (by omega) (by omega) HF3.o HG3.o hfn hsn hf7 ho7 hat7 (by rw[<- HLD.o,<- HQE.o,HPU.o,List.append_assoc]));clear ho7 hf7 hat7 hlt7 hbn hfn hsn;generalize Value.slice (some ⟨g7,0,none⟩) (bs.length+1) cap=v7 at *;go_wp2_with fail;clear hc hl cl hq a1 a2 a3 hld2 HB3 HF3 HO3 HG3 HPU HCL HLD HQE HBL HFL HNO HK hge hd
    go_loopg [6,7] 0 (fun j v6 v7 wr=>mP w r bs j v6 v7 wr)
    case atStart=>exact HREL.o
    case round=>
     obtain⟨pre,rfl,he,ho,hg,hj,hp,hf⟩:=hrel;have HE:=lh he;have HO:=lh ho;have HG:=lh hg;have HF:=lh hf;clear he ho hg hf HREL
     by_cases hg0:gk=0
     ·subst hg0;have HEE:Hid (bs ++ vC r=pre):=lh (by rw[HE.o];simp[pG]);obtain⟨A,c,rfl,hc,_⟩:=jC HO.o;go_wp2_with fail;exact HQ.o _ _ ⟨_,rfl,by rw[HEE.o];exact HO.o,HG.o,HF.o⟩
     ·obtain⟨k1,rfl⟩:∃ k1,gk=k1+1:=⟨gk - 1,by omega⟩;obtain⟨x,hx⟩:∃ x,r / 2 ^ (6 * k1)=x:=⟨_,rfl⟩
      have a1:(r:Int) / 2 ^ (6 * (k1:Int)).toNat=(x:Int):=by
       rw[show(6 * (k1:Int)).toNat=6 * k1 by omega,<- hx]
       simp
      obtain⟨y,hy⟩:∃ y,128+x % 64=y:=⟨_,rfl⟩
      have a2:bits .or .u8 128 (bits .and .u8 (IntKind.u8.wrap (x:Int)) 63)=(y:Int):=by
       have:=iS ⟨x % 256,by omega⟩
       simp only at this
       rw[show IntKind.u8.wrap (x:Int)=((x % 256:Nat):Int) by rw[IntKind.wrap_u8];omega,this,<- hy];omega
      have a3:IntKind.i64.wrap (((k1+1:Nat):Int) - 1)=(k1:Int):=by rw[IntKind.wrap_i64];omega
      have a4:IntKind.i64.wrap (6 * (k1:Int))=6 * (k1:Int):=by rw[IntKind.wrap_i64];omega
      have d1:decide (0 < ((k1+1:Nat):Int))=true:=dT (by omega)
      obtain⟨j,hje⟩:∃ j,((k1+1:Nat):Int)=j:=⟨_,rfl⟩;rw[hje] at a3 d1 ⊢;have HX:=lh hx;have HY:=lh hy;have HJ:=lh hje;clear hx hy hje;go_upto_region 11 with fail
      refine wp_region_lit ?_
      iterate 9 (refine rn rfl (by go_simp <;> with_reducible rfl) ?_;simp only[nrm])
      refine lp fun K hK=>?_;refine uE (.tmp 47) rfl Tryz.underlying149 hi hz' hsz' rfl (.int .u8 (y:Int)) rfl rfl wr.heap.size rfl fun w4 hbn hfn hsn=>hK _ _ ?_;simp only[nrm];clear hK;refine lp fun K hK=>?_;refine jB (.tmp 39) (.tmp 48) rfl 5 1 1 Tryz.underlying149 hi hz' hsz' hby rfl (by omega) u7 pre.length (iB pre) rfl (sB HO.o hfn (by simp)) ⟨wr.heap.size,0,none⟩ 1 1 [.int .u8 (y:Int)] rfl rfl (fun j u hu=>by rw[Addr.add_mid,Nat.zero_add];exact hbn.at_ hu) (by intro u hu;simp at hu;subst hu;rfl) (by omega) (by unfold maxLen;omega) (by omega) (wr.heap.size+1) hsn fun g8 cap8 w8 ho8 hf8 hat8 hlt8=>hK _ _ ?_;simp only[nrm];clear hK;refine rn rfl (by go_simp <;> with_reducible rfl) ?_;simp only[nrm];refine wpList_nil ?_;have hrel2:=eK (r:=r) (bs:=bs) (j:=k1) (by have:=HY.o;omega) (by omega) (by omega) HF.o HG.o hfn hsn hf8 ho8 hat8 (by rw[HE.o,<- HY.o,<- HX.o,pG,List.append_assoc];rfl);have HREL2:=lh hrel2;clear hrel2 ho8 hf8 hat8 hlt8 hbn hfn hsn a1 a2;generalize Value.slice (some ⟨g8,0,none⟩) (pre.length+1) cap8=v8 at *;go_wp2_with fail
      go_roundg k1
      case measure=>omega
      case rel=>exact HREL2.o
   ·skip
    have hc:=HBL.o.at_ (i:=5) rfl;have hl:=HBL.o.at_ (i:=4) rfl;have hd:decide ((r:Int) < 128)=false:=by rw[decide_eq_false_iff_not];simp[yB] at hlt;omega
    have HK:=lh hlt;clear hlt;rw[show((1:Nat):Int)=1 from rfl];go_upto_region 7 with fail
    refine wp_region_lit ?_;refine rn rfl (by go_simp <;> with_reducible rfl) ?_;simp only[nrm];refine lp fun K hK=>?_;obtain⟨iu,hi,hz',hsz',hby⟩:=info_parts lP;refine cG (.const (.slice none 0 0)) (.tmp 20) rfl 5 1 Tryz.underlying149 hi hz' hsz' hby rfl (.slice none 0 0) 0 [] rfl (sG _ _ _ _) v bs.length g0 (iB bs) rfl (HSL.o.fr HFL.o) (lG bs) (yH bs) (by unfold maxLen;omega) (by omega) w2.heap.size rfl fun v3 w3 ho3 hf3 hg3=>hK _ _ ?_;simp only[nrm];clear hK;refine rn rfl (by go_simp <;> with_reducible rfl) ?_;simp only[nrm];refine wpList_nil ?_;have hf3:Fr [] w2 w3:=hf3;have ho3:w3.ownsRow 0 5 1 v3 bs.length (iB bs):=by simpa using ho3
    have hb3:=HBL.o.fr hf3;have cl:=hb3.at_ (i:=4) rfl;have HB3:=lh hb3;have HF3:=lh (HFL.o.trans hf3);have HO3:=lh ho3
    have HG3:Hid (∀ g,v3.ownBlock=some g -> w.heap.size<=g):=lh (fun g hg=>by
     rcases hg3 g hg with h | h
     ·simp[Value.ownBlock] at h
     ·have:=HFL.o.size;omega)
    clear hb3 hf3 ho3 hg3
    have hq:r / 2 ^ 6 < 32:=by
     have:=HK.o;have:=HNO.o;have h9:=HNO.o 2 (by omega) (by omega);simp only[yB] at h9;omega
    obtain⟨q,hqe⟩:∃ q,r / 2 ^ 6=q:=⟨_,rfl⟩;have a1:Op.shift BinOp.shr IntKind.i32 (r:Int) IntKind.i64 (IntKind.i64.wrap 6)=pure (.int .i32 (q:Int)):=by rw[<- hqe];exact gS r 6 (by omega)
    rw[hqe] at hq;have a2:IntKind.u8.wrap (q:Int)=q:=by rw[IntKind.wrap_u8];omega
    obtain⟨ld,hld⟩:∃ ld,192+q=ld:=⟨_,rfl⟩;have a3:bits .or .u8 192 (q:Int)=(ld:Int):=by rw[<- hld];exact aDf q hq
    have hld2:ld < 256:=by omega
    have HLD:=lh hld;clear hld;have HQE:=lh hqe;clear hqe
    have hpu:vC r=[UInt8.ofNat (192+r / 2 ^ 6)] ++ pG r 1:=by
     have h9:=HK.o;simp only[yB] at h9;exact putU1 r h9 (by have:=HNO.o 2 (by omega) (by omega);simpa[yB] using this)
    have HPU:=lh hpu;clear hpu
    have HCL:Hid (∀ {w4 w7:World},Fr [] w3 w4 -> Fr v3.ownBlock.toList w4 w7 -> w7.cell? ⟨gl,4,none⟩=some (.int .u8 192)):=lh fun h1 h2=>by
     have h8:=HB3.o.fr h1;exact(h8.fr h2 (by have:=kW HO3.o HB3.o (by decide);simpa using this)).at_ rfl
    go_upto_region 8 with fail
    refine mA (fun W=>W.cell? ⟨gl,4,none⟩=some (.int .u8 192)/\True) [0,1,2,3,4,5,6,7,8,9,10] (by kernel_rfl) ?_;refine tks [0,1,2,3,4,5,6,7,8,9,10] ?_
    iterate 11 (refine tk rfl rfl ⟨cl,trivial⟩ rfl (fun _ hW=>by(obtain⟨c2',_⟩:=hW;go_simp) <;> with_reducible rfl) ?_;simp only[nrm])
    refine tke ?_;refine sp 11 rfl rfl rfl fun K hK=>?_;refine uE (.tmp 32) rfl Tryz.underlying149 hi hz' hsz' rfl (.int .u8 (ld:Int)) rfl rfl w3.heap.size rfl fun w4 hbn hfn0 hsn=>hK _ _ (fun _=>⟨(HB3.o.fr (((Fr.refl [] w3).drew).trans hfn0)).at_ (i:=4) rfl,trivial⟩) ?_;simp only[nrm];have hfn:Fr [] w3 w4:=((Fr.refl [] w3).drew).trans hfn0;clear hK hfn0;refine sp 12 rfl rfl rfl fun K hK=>?_;refine jB (.tmp 22) (.tmp 33) rfl 5 1 1 Tryz.underlying149 hi hz' hsz' hby rfl (by omega) v3 bs.length (iB bs) rfl (sB HO3.o hfn (by simp)) ⟨w3.heap.size,0,none⟩ 1 1 [.int .u8 (ld:Int)] rfl rfl (fun j u hu=>by rw[Addr.add_mid,Nat.zero_add];exact hbn.at_ hu) (by intro u hu;simp at hu;subst hu;rfl) (by omega) (by unfold maxLen;omega) (by omega) (w3.heap.size+1) hsn fun g7 cap w7 ho7 hf7 hat7 hlt7=>hK _ _ (fun _=>⟨HCL.o hfn hf7,trivial⟩) ?_;simp only[nrm];clear hK;refine sp 13 rfl rfl rfl fun K hK=>?_;refine tA (v:=?aq19_13) ?yq19_13 (hK _ _ (fun h=>absurd h (by decide +kernel)) ?_)
    case yq19_13=>go_simp <;> with_reducible rfl
    simp only[nrm];refine wd ?_ _;have HREL:Hid (mP w r bs 1 (.int .i64 1) (.slice (some ⟨g7,0,none⟩) (bs.length+1) cap) w7):=lh (eK hld2 (by omega) (by omega) HF3.o HG3.o hfn hsn hf7 ho7 hat7 (by rw[<- HLD.o,<- HQE.o,HPU.o,List.append_assoc]));clear ho7 hf7 hat7 hlt7 hbn hfn hsn;generalize Value.slice (some ⟨g7,0,none⟩) (bs.length+1) cap=v7 at *;go_wp2_with fail;clear hc hl cl hq a1 a2 a3 hld2 HB3 HF3 HO3 HG3 HPU HCL HLD HQE HBL HFL HNO HK hge hd
    go_loopg [6,7] 1 (fun j v6 v7 wr=>mP w r bs j v6 v7 wr)
    case atStart=>exact HREL.o
    case round=>
     obtain⟨pre,rfl,he,ho,hg,hj,hp,hf⟩:=hrel;have HE:=lh he;have HO:=lh ho;have HG:=lh hg;have HF:=lh hf;clear he ho hg hf HREL
     by_cases hg0:gk=0
     ·subst hg0;have HEE:Hid (bs ++ vC r=pre):=lh (by rw[HE.o];simp[pG]);obtain⟨A,c,rfl,hc,_⟩:=jC HO.o;go_wp2_with fail;exact HQ.o _ _ ⟨_,rfl,by rw[HEE.o];exact HO.o,HG.o,HF.o⟩
     ·obtain⟨k1,rfl⟩:∃ k1,gk=k1+1:=⟨gk - 1,by omega⟩;obtain⟨x,hx⟩:∃ x,r / 2 ^ (6 * k1)=x:=⟨_,rfl⟩
      have a1:(r:Int) / 2 ^ (6 * (k1:Int)).toNat=(x:Int):=by
       rw[show(6 * (k1:Int)).toNat=6 * k1 by omega,<- hx]
       simp
      obtain⟨y,hy⟩:∃ y,128+x % 64=y:=⟨_,rfl⟩
      have a2:bits .or .u8 128 (bits .and .u8 (IntKind.u8.wrap (x:Int)) 63)=(y:Int):=by
       have:=iS ⟨x % 256,by omega⟩
       simp only at this
       rw[show IntKind.u8.wrap (x:Int)=((x % 256:Nat):Int) by rw[IntKind.wrap_u8];omega,this,<- hy];omega
      have a3:IntKind.i64.wrap (((k1+1:Nat):Int) - 1)=(k1:Int):=by rw[IntKind.wrap_i64];omega
      have a4:IntKind.i64.wrap (6 * (k1:Int))=6 * (k1:Int):=by rw[IntKind.wrap_i64];omega
      have d1:decide (0 < ((k1+1:Nat):Int))=true:=dT (by omega)
      obtain⟨j,hje⟩:∃ j,((k1+1:Nat):Int)=j:=⟨_,rfl⟩;rw[hje] at a3 d1 ⊢;have HX:=lh hx;have HY:=lh hy;have HJ:=lh hje;clear hx hy hje;go_upto_region 11 with fail
      refine wp_region_lit ?_
      iterate 9 (refine rn rfl (by go_simp <;> with_reducible rfl) ?_;simp only[nrm])
      refine lp fun K hK=>?_;refine uE (.tmp 47) rfl Tryz.underlying149 hi hz' hsz' rfl (.int .u8 (y:Int)) rfl rfl wr.heap.size rfl fun w4 hbn hfn hsn=>hK _ _ ?_;simp only[nrm];clear hK;refine lp fun K hK=>?_;refine jB (.tmp 39) (.tmp 48) rfl 5 1 1 Tryz.underlying149 hi hz' hsz' hby rfl (by omega) u7 pre.length (iB pre) rfl (sB HO.o hfn (by simp)) ⟨wr.heap.size,0,none⟩ 1 1 [.int .u8 (y:Int)] rfl rfl (fun j u hu=>by rw[Addr.add_mid,Nat.zero_add];exact hbn.at_ hu) (by intro u hu;simp at hu;subst hu;rfl) (by omega) (by unfold maxLen;omega) (by omega) (wr.heap.size+1) hsn fun g8 cap8 w8 ho8 hf8 hat8 hlt8=>hK _ _ ?_;simp only[nrm];clear hK;refine rn rfl (by go_simp <;> with_reducible rfl) ?_;simp only[nrm];refine wpList_nil ?_;have hrel2:=eK (r:=r) (bs:=bs) (j:=k1) (by have:=HY.o;omega) (by omega) (by omega) HF.o HG.o hfn hsn hf8 ho8 hat8 (by rw[HE.o,<- HY.o,<- HX.o,pG,List.append_assoc];rfl);have HREL2:=lh hrel2;clear hrel2 ho8 hf8 hat8 hlt8 hbn hfn hsn a1 a2;generalize Value.slice (some ⟨g8,0,none⟩) (pre.length+1) cap8=v8 at *;go_wp2_with fail
      go_roundg k1
      case measure=>omega
      case rel=>exact HREL2.o
   ·skip
    have hc:=HBL.o.at_ (i:=8) rfl;have hl:=HBL.o.at_ (i:=7) rfl;have hd:decide ((r:Int) < 2048)=false:=by rw[decide_eq_false_iff_not];simp[yB] at hlt;omega
    have HK:=lh hlt;clear hlt;rw[show((2:Nat):Int)=2 from rfl];go_upto_region 7 with fail
    refine wp_region_lit ?_;refine rn rfl (by go_simp <;> with_reducible rfl) ?_;simp only[nrm];refine lp fun K hK=>?_;obtain⟨iu,hi,hz',hsz',hby⟩:=info_parts lP;refine cG (.const (.slice none 0 0)) (.tmp 20) rfl 5 1 Tryz.underlying149 hi hz' hsz' hby rfl (.slice none 0 0) 0 [] rfl (sG _ _ _ _) v bs.length g0 (iB bs) rfl (HSL.o.fr HFL.o) (lG bs) (yH bs) (by unfold maxLen;omega) (by omega) w2.heap.size rfl fun v3 w3 ho3 hf3 hg3=>hK _ _ ?_;simp only[nrm];clear hK;refine rn rfl (by go_simp <;> with_reducible rfl) ?_;simp only[nrm];refine wpList_nil ?_;have hf3:Fr [] w2 w3:=hf3;have ho3:w3.ownsRow 0 5 1 v3 bs.length (iB bs):=by simpa using ho3
    have hb3:=HBL.o.fr hf3;have cl:=hb3.at_ (i:=7) rfl;have HB3:=lh hb3;have HF3:=lh (HFL.o.trans hf3);have HO3:=lh ho3
    have HG3:Hid (∀ g,v3.ownBlock=some g -> w.heap.size<=g):=lh (fun g hg=>by
     rcases hg3 g hg with h | h
     ·simp[Value.ownBlock] at h
     ·have:=HFL.o.size;omega)
    clear hb3 hf3 ho3 hg3
    have hq:r / 2 ^ 12 < 16:=by
     have:=HK.o;have:=HNO.o;have h9:=HNO.o 3 (by omega) (by omega);simp only[yB] at h9;omega
    obtain⟨q,hqe⟩:∃ q,r / 2 ^ 12=q:=⟨_,rfl⟩;have a1:Op.shift BinOp.shr IntKind.i32 (r:Int) IntKind.i64 (IntKind.i64.wrap 12)=pure (.int .i32 (q:Int)):=by rw[<- hqe];exact gS r 12 (by omega)
    rw[hqe] at hq;have a2:IntKind.u8.wrap (q:Int)=q:=by rw[IntKind.wrap_u8];omega
    obtain⟨ld,hld⟩:∃ ld,224+q=ld:=⟨_,rfl⟩;have a3:bits .or .u8 224 (q:Int)=(ld:Int):=by rw[<- hld];exact aDg q hq
    have hld2:ld < 256:=by omega
    have HLD:=lh hld;clear hld;have HQE:=lh hqe;clear hqe
    have hpu:vC r=[UInt8.ofNat (224+r / 2 ^ 12)] ++ pG r 2:=by
     have h9:=HK.o;simp only[yB] at h9;exact putU2 r h9 (by have:=HNO.o 3 (by omega) (by omega);simpa[yB] using this)
    have HPU:=lh hpu;clear hpu
    have HCL:Hid (∀ {w4 w7:World},Fr [] w3 w4 -> Fr v3.ownBlock.toList w4 w7 -> w7.cell? ⟨gl,7,none⟩=some (.int .u8 224)):=lh fun h1 h2=>by
     have h8:=HB3.o.fr h1;exact(h8.fr h2 (by have:=kW HO3.o HB3.o (by decide);simpa using this)).at_ rfl
    go_upto_region 8 with fail
    refine mA (fun W=>W.cell? ⟨gl,7,none⟩=some (.int .u8 224)/\True) [0,1,2,3,4,5,6,7,8,9,10] (by kernel_rfl) ?_;refine tks [0,1,2,3,4,5,6,7,8,9,10] ?_
    iterate 11 (refine tk rfl rfl ⟨cl,trivial⟩ rfl (fun _ hW=>by(obtain⟨c2',_⟩:=hW;go_simp) <;> with_reducible rfl) ?_;simp only[nrm])
    refine tke ?_;refine sp 11 rfl rfl rfl fun K hK=>?_;refine uE (.tmp 32) rfl Tryz.underlying149 hi hz' hsz' rfl (.int .u8 (ld:Int)) rfl rfl w3.heap.size rfl fun w4 hbn hfn0 hsn=>hK _ _ (fun _=>⟨(HB3.o.fr (((Fr.refl [] w3).drew).trans hfn0)).at_ (i:=7) rfl,trivial⟩) ?_;simp only[nrm];have hfn:Fr [] w3 w4:=((Fr.refl [] w3).drew).trans hfn0;clear hK hfn0;refine sp 12 rfl rfl rfl fun K hK=>?_;refine jB (.tmp 22) (.tmp 33) rfl 5 1 1 Tryz.underlying149 hi hz' hsz' hby rfl (by omega) v3 bs.length (iB bs) rfl (sB HO3.o hfn (by simp)) ⟨w3.heap.size,0,none⟩ 1 1 [.int .u8 (ld:Int)] rfl rfl (fun j u hu=>by rw[Addr.add_mid,Nat.zero_add];exact hbn.at_ hu) (by intro u hu;simp at hu;subst hu;rfl) (by omega) (by unfold maxLen;omega) (by omega) (w3.heap.size+1) hsn fun g7 cap w7 ho7 hf7 hat7 hlt7=>hK _ _ (fun _=>⟨HCL.o hfn hf7,trivial⟩) ?_;simp only[nrm];clear hK;refine sp 13 rfl rfl rfl fun K hK=>?_;refine tA (v:=?aq34_13) ?yq34_13 (hK _ _ (fun h=>absurd h (by decide +kernel)) ?_)
    case yq34_13=>go_simp <;> with_reducible rfl
    simp only[nrm];refine wd ?_ _;have HREL:Hid (mP w r bs 2 (.int .i64 2) (.slice (some ⟨g7,0,none⟩) (bs.length+1) cap) w7):=lh (eK hld2 (by omega) (by omega) HF3.o HG3.o hfn hsn hf7 ho7 hat7 (by rw[<- HLD.o,<- HQE.o,HPU.o,List.append_assoc]));clear ho7 hf7 hat7 hlt7 hbn hfn hsn;generalize Value.slice (some ⟨g7,0,none⟩) (bs.length+1) cap=v7 at *;go_wp2_with fail;clear hc hl cl hq a1 a2 a3 hld2 HB3 HF3 HO3 HG3 HPU HCL HLD HQE HBL HFL HNO HK hge hd
    go_loopg [6,7] 2 (fun j v6 v7 wr=>mP w r bs j v6 v7 wr)
    case atStart=>exact HREL.o
    case round=>
     obtain⟨pre,rfl,he,ho,hg,hj,hp,hf⟩:=hrel;have HE:=lh he;have HO:=lh ho;have HG:=lh hg;have HF:=lh hf;clear he ho hg hf HREL
     by_cases hg0:gk=0
     ·subst hg0;have HEE:Hid (bs ++ vC r=pre):=lh (by rw[HE.o];simp[pG]);obtain⟨A,c,rfl,hc,_⟩:=jC HO.o;go_wp2_with fail;exact HQ.o _ _ ⟨_,rfl,by rw[HEE.o];exact HO.o,HG.o,HF.o⟩
     ·obtain⟨k1,rfl⟩:∃ k1,gk=k1+1:=⟨gk - 1,by omega⟩;obtain⟨x,hx⟩:∃ x,r / 2 ^ (6 * k1)=x:=⟨_,rfl⟩
      have a1:(r:Int) / 2 ^ (6 * (k1:Int)).toNat=(x:Int):=by
       rw[show(6 * (k1:Int)).toNat=6 * k1 by omega,<- hx]
       simp
      obtain⟨y,hy⟩:∃ y,128+x % 64=y:=⟨_,rfl⟩
      have a2:bits .or .u8 128 (bits .and .u8 (IntKind.u8.wrap (x:Int)) 63)=(y:Int):=by
       have:=iS ⟨x % 256,by omega⟩
       simp only at this
       rw[show IntKind.u8.wrap (x:Int)=((x % 256:Nat):Int) by rw[IntKind.wrap_u8];omega,this,<- hy];omega
      have a3:IntKind.i64.wrap (((k1+1:Nat):Int) - 1)=(k1:Int):=by rw[IntKind.wrap_i64];omega
      have a4:IntKind.i64.wrap (6 * (k1:Int))=6 * (k1:Int):=by rw[IntKind.wrap_i64];omega
      have d1:decide (0 < ((k1+1:Nat):Int))=true:=dT (by omega)
      obtain⟨j,hje⟩:∃ j,((k1+1:Nat):Int)=j:=⟨_,rfl⟩;rw[hje] at a3 d1 ⊢;have HX:=lh hx;have HY:=lh hy;have HJ:=lh hje;clear hx hy hje;go_upto_region 11 with fail
      refine wp_region_lit ?_
      iterate 9 (refine rn rfl (by go_simp <;> with_reducible rfl) ?_;simp only[nrm])
      refine lp fun K hK=>?_;refine uE (.tmp 47) rfl Tryz.underlying149 hi hz' hsz' rfl (.int .u8 (y:Int)) rfl rfl wr.heap.size rfl fun w4 hbn hfn hsn=>hK _ _ ?_;simp only[nrm];clear hK;refine lp fun K hK=>?_;refine jB (.tmp 39) (.tmp 48) rfl 5 1 1 Tryz.underlying149 hi hz' hsz' hby rfl (by omega) u7 pre.length (iB pre) rfl (sB HO.o hfn (by simp)) ⟨wr.heap.size,0,none⟩ 1 1 [.int .u8 (y:Int)] rfl rfl (fun j u hu=>by rw[Addr.add_mid,Nat.zero_add];exact hbn.at_ hu) (by intro u hu;simp at hu;subst hu;rfl) (by omega) (by unfold maxLen;omega) (by omega) (wr.heap.size+1) hsn fun g8 cap8 w8 ho8 hf8 hat8 hlt8=>hK _ _ ?_;simp only[nrm];clear hK;refine rn rfl (by go_simp <;> with_reducible rfl) ?_;simp only[nrm];refine wpList_nil ?_;have hrel2:=eK (r:=r) (bs:=bs) (j:=k1) (by have:=HY.o;omega) (by omega) (by omega) HF.o HG.o hfn hsn hf8 ho8 hat8 (by rw[HE.o,<- HY.o,<- HX.o,pG,List.append_assoc];rfl);have HREL2:=lh hrel2;clear hrel2 ho8 hf8 hat8 hlt8 hbn hfn hsn a1 a2;generalize Value.slice (some ⟨g8,0,none⟩) (pre.length+1) cap8=v8 at *;go_wp2_with fail
      go_roundg k1
      case measure=>omega
      case rel=>exact HREL2.o
   ·skip
    have hc:=HBL.o.at_ (i:=11) rfl;have hl:=HBL.o.at_ (i:=10) rfl;have hd:decide ((r:Int) < 65536)=false:=by rw[decide_eq_false_iff_not];simp[yB] at hlt;omega
    have HK:=lh hlt;clear hlt;rw[show((3:Nat):Int)=3 from rfl];go_upto_region 7 with fail
    refine wp_region_lit ?_;refine rn rfl (by go_simp <;> with_reducible rfl) ?_;simp only[nrm];refine lp fun K hK=>?_;obtain⟨iu,hi,hz',hsz',hby⟩:=info_parts lP;refine cG (.const (.slice none 0 0)) (.tmp 20) rfl 5 1 Tryz.underlying149 hi hz' hsz' hby rfl (.slice none 0 0) 0 [] rfl (sG _ _ _ _) v bs.length g0 (iB bs) rfl (HSL.o.fr HFL.o) (lG bs) (yH bs) (by unfold maxLen;omega) (by omega) w2.heap.size rfl fun v3 w3 ho3 hf3 hg3=>hK _ _ ?_;simp only[nrm];clear hK;refine rn rfl (by go_simp <;> with_reducible rfl) ?_;simp only[nrm];refine wpList_nil ?_;have hf3:Fr [] w2 w3:=hf3;have ho3:w3.ownsRow 0 5 1 v3 bs.length (iB bs):=by simpa using ho3
    have hb3:=HBL.o.fr hf3;have cl:=hb3.at_ (i:=10) rfl;have HB3:=lh hb3;have HF3:=lh (HFL.o.trans hf3);have HO3:=lh ho3
    have HG3:Hid (∀ g,v3.ownBlock=some g -> w.heap.size<=g):=lh (fun g hg=>by
     rcases hg3 g hg with h | h
     ·simp[Value.ownBlock] at h
     ·have:=HFL.o.size;omega)
    clear hb3 hf3 ho3 hg3
    have hq:r / 2 ^ 18 < 8:=by
     have:=HK.o;have:=HNO.o;omega
    obtain⟨q,hqe⟩:∃ q,r / 2 ^ 18=q:=⟨_,rfl⟩;have a1:Op.shift BinOp.shr IntKind.i32 (r:Int) IntKind.i64 (IntKind.i64.wrap 18)=pure (.int .i32 (q:Int)):=by rw[<- hqe];exact gS r 18 (by omega)
    rw[hqe] at hq;have a2:IntKind.u8.wrap (q:Int)=q:=by rw[IntKind.wrap_u8];omega
    obtain⟨ld,hld⟩:∃ ld,240+q=ld:=⟨_,rfl⟩;have a3:bits .or .u8 240 (q:Int)=(ld:Int):=by rw[<- hld];exact aDh q hq
    have hld2:ld < 256:=by omega
    have HLD:=lh hld;clear hld;have HQE:=lh hqe;clear hqe
    have hpu:vC r=[UInt8.ofNat (240+r / 2 ^ 18)] ++ pG r 3:=by
     have h9:=HK.o;simp only[yB] at h9;exact putU3 r h9
    have HPU:=lh hpu;clear hpu
    have HCL:Hid (∀ {w4 w7:World},Fr [] w3 w4 -> Fr v3.ownBlock.toList w4 w7 -> w7.cell? ⟨gl,10,none⟩=some (.int .u8 240)):=lh fun h1 h2=>by
     have h8:=HB3.o.fr h1;exact(h8.fr h2 (by have:=kW HO3.o HB3.o (by decide);simpa using this)).at_ rfl
    go_upto_region 8 with fail
    refine mA (fun W=>W.cell? ⟨gl,10,none⟩=some (.int .u8 240)/\True) [0,1,2,3,4,5,6,7,8,9,10] (by kernel_rfl) ?_;refine tks [0,1,2,3,4,5,6,7,8,9,10] ?_
    iterate 11 (refine tk rfl rfl ⟨cl,trivial⟩ rfl (fun _ hW=>by(obtain⟨c2',_⟩:=hW;go_simp) <;> with_reducible rfl) ?_;simp only[nrm])
    refine tke ?_;refine sp 11 rfl rfl rfl fun K hK=>?_;refine uE (.tmp 32) rfl Tryz.underlying149 hi hz' hsz' rfl (.int .u8 (ld:Int)) rfl rfl w3.heap.size rfl fun w4 hbn hfn0 hsn=>hK _ _ (fun _=>⟨(HB3.o.fr (((Fr.refl [] w3).drew).trans hfn0)).at_ (i:=10) rfl,trivial⟩) ?_;simp only[nrm];have hfn:Fr [] w3 w4:=((Fr.refl [] w3).drew).trans hfn0;clear hK hfn0;refine sp 12 rfl rfl rfl fun K hK=>?_;refine jB (.tmp 22) (.tmp 33) rfl 5 1 1 Tryz.underlying149 hi hz' hsz' hby rfl (by omega) v3 bs.length (iB bs) rfl (sB HO3.o hfn (by simp)) ⟨w3.heap.size,0,none⟩ 1 1 [.int .u8 (ld:Int)] rfl rfl (fun j u hu=>by rw[Addr.add_mid,Nat.zero_add];exact hbn.at_ hu) (by intro u hu;simp at hu;subst hu;rfl) (by omega) (by unfold maxLen;omega) (by omega) (w3.heap.size+1) hsn fun g7 cap w7 ho7 hf7 hat7 hlt7=>hK _ _ (fun _=>⟨HCL.o hfn hf7,trivial⟩) ?_;simp only[nrm];clear hK;refine sp 13 rfl rfl rfl fun K hK=>?_;refine tA (v:=?aq49_13) ?yq49_13 (hK _ _ (fun h=>absurd h (by decide +kernel)) ?_)
    case yq49_13=>go_simp <;> with_reducible rfl
    simp only[nrm];refine wd ?_ _;have HREL:Hid (mP w r bs 3 (.int .i64 3) (.slice (some ⟨g7,0,none⟩) (bs.length+1) cap) w7):=lh (eK hld2 (by omega) (by omega) HF3.o HG3.o hfn hsn hf7 ho7 hat7 (by rw[<- HLD.o,<- HQE.o,HPU.o,List.append_assoc]));clear ho7 hf7 hat7 hlt7 hbn hfn hsn;generalize Value.slice (some ⟨g7,0,none⟩) (bs.length+1) cap=v7 at *;go_wp2_with fail;clear hc hl cl hq a1 a2 a3 hld2 HB3 HF3 HO3 HG3 HPU HCL HLD HQE HBL HFL HNO HK hge hd
    go_loopg [6,7] 3 (fun j v6 v7 wr=>mP w r bs j v6 v7 wr)
    case atStart=>exact HREL.o
    case round=>
     obtain⟨pre,rfl,he,ho,hg,hj,hp,hf⟩:=hrel;have HE:=lh he;have HO:=lh ho;have HG:=lh hg;have HF:=lh hf;clear he ho hg hf HREL
     by_cases hg0:gk=0
     ·subst hg0;have HEE:Hid (bs ++ vC r=pre):=lh (by rw[HE.o];simp[pG]);obtain⟨A,c,rfl,hc,_⟩:=jC HO.o;go_wp2_with fail;exact HQ.o _ _ ⟨_,rfl,by rw[HEE.o];exact HO.o,HG.o,HF.o⟩
     ·obtain⟨k1,rfl⟩:∃ k1,gk=k1+1:=⟨gk - 1,by omega⟩;obtain⟨x,hx⟩:∃ x,r / 2 ^ (6 * k1)=x:=⟨_,rfl⟩
      have a1:(r:Int) / 2 ^ (6 * (k1:Int)).toNat=(x:Int):=by
       rw[show(6 * (k1:Int)).toNat=6 * k1 by omega,<- hx]
       simp
      obtain⟨y,hy⟩:∃ y,128+x % 64=y:=⟨_,rfl⟩
      have a2:bits .or .u8 128 (bits .and .u8 (IntKind.u8.wrap (x:Int)) 63)=(y:Int):=by
       have:=iS ⟨x % 256,by omega⟩
       simp only at this
       rw[show IntKind.u8.wrap (x:Int)=((x % 256:Nat):Int) by rw[IntKind.wrap_u8];omega,this,<- hy];omega
      have a3:IntKind.i64.wrap (((k1+1:Nat):Int) - 1)=(k1:Int):=by rw[IntKind.wrap_i64];omega
      have a4:IntKind.i64.wrap (6 * (k1:Int))=6 * (k1:Int):=by rw[IntKind.wrap_i64];omega
      have d1:decide (0 < ((k1+1:Nat):Int))=true:=dT (by omega)
      obtain⟨j,hje⟩:∃ j,((k1+1:Nat):Int)=j:=⟨_,rfl⟩;rw[hje] at a3 d1 ⊢;have HX:=lh hx;have HY:=lh hy;have HJ:=lh hje;clear hx hy hje;go_upto_region 11 with fail
      refine wp_region_lit ?_
      iterate 9 (refine rn rfl (by go_simp <;> with_reducible rfl) ?_;simp only[nrm])
      refine lp fun K hK=>?_;refine uE (.tmp 47) rfl Tryz.underlying149 hi hz' hsz' rfl (.int .u8 (y:Int)) rfl rfl wr.heap.size rfl fun w4 hbn hfn hsn=>hK _ _ ?_;simp only[nrm];clear hK;refine lp fun K hK=>?_;refine jB (.tmp 39) (.tmp 48) rfl 5 1 1 Tryz.underlying149 hi hz' hsz' hby rfl (by omega) u7 pre.length (iB pre) rfl (sB HO.o hfn (by simp)) ⟨wr.heap.size,0,none⟩ 1 1 [.int .u8 (y:Int)] rfl rfl (fun j u hu=>by rw[Addr.add_mid,Nat.zero_add];exact hbn.at_ hu) (by intro u hu;simp at hu;subst hu;rfl) (by omega) (by unfold maxLen;omega) (by omega) (wr.heap.size+1) hsn fun g8 cap8 w8 ho8 hf8 hat8 hlt8=>hK _ _ ?_;simp only[nrm];clear hK;refine rn rfl (by go_simp <;> with_reducible rfl) ?_;simp only[nrm];refine wpList_nil ?_;have hrel2:=eK (r:=r) (bs:=bs) (j:=k1) (by have:=HY.o;omega) (by omega) (by omega) HF.o HG.o hfn hsn hf8 ho8 hat8 (by rw[HE.o,<- HY.o,<- HX.o,pG,List.append_assoc];rfl);have HREL2:=lh hrel2;clear hrel2 ho8 hf8 hat8 hlt8 hbn hfn hsn a1 a2;generalize Value.slice (some ⟨g8,0,none⟩) (pre.length+1) cap8=v8 at *;go_wp2_with fail
      go_roundg k1
      case measure=>omega
      case rel=>exact HREL2.o
def aS:List UInt8:=[48,49,50,51,52,53,54,55,56,57]
def nW:List UInt8:=[9,10,13,32]
theorem qD (p:UInt8 -> Bool) (h:∀ n:Fin 256,p (UInt8.ofNat n.val)=true) (c:UInt8):p c=true:=by
 have:=h ⟨c.toNat,c.toNat_lt⟩
 simpa using this
theorem aDi (c:UInt8):aS.contains c=yA c:=eq_of_beq (qD (fun c=>aS.contains c == yA c) (by decide +kernel) c)
theorem aDj (c:UInt8):nW.contains c=lD c:=eq_of_beq (qD (fun c=>nW.contains c == lD c) (by decide +kernel) c)
theorem aBw (c:UInt8):[(48:UInt8)].contains c=qC c:=eq_of_beq (qD (fun c=>[(48:UInt8)].contains c == qC c) (by decide +kernel) c)
theorem eY (l:List UInt8):Lib.trimLeftS l aS=l.dropWhile yA:=by
 unfold Lib.trimLeftS;rw[funext aDi]
theorem aAr (l:List UInt8):Lib.trimLeftS l nW=l.dropWhile lD:=by
 unfold Lib.trimLeftS;rw[funext aDj]
theorem aBY (l:List UInt8):Lib.trimLeftS l [48]=l.dropWhile qC:=by
 unfold Lib.trimLeftS;rw[funext aBw]
theorem aBZ (l:List UInt8):Lib.trimRightS l [48]=uC qC l:=by
 unfold Lib.trimRightS uC;rw[funext aBw]
theorem eO {α:Type} {p:α -> Bool}:∀ {l:List α},l.dropWhile p=[] ↔ l.all p=true
 | []=>by simp
 | c :: l=>by
  rw[List.dropWhile_cons]
  split
  ·rename_i h;rw[eO];simp[h]
  ·rename_i h;simp[h]
theorem fO {α:Type} {p:α -> Bool}:∀ {l:List α},(l.dropWhile p).all p=l.all p
 | []=>by simp
 | c :: l=>by
  rw[List.dropWhile_cons]
  split
  ·rename_i h;rw[fO];simp[h]
  ·rfl
theorem aDk (l:List UInt8):(Lib.trimS l aS=[]) ↔ l.all yA=true:=by
 unfold Lib.trimS;rw[eY,eO];unfold Lib.trimRightS;rw[funext aDi,List.all_reverse,fO,List.all_reverse]
theorem wF {α:Type} (p:α -> Bool) (l:List α):l.dropWhile p=l.drop (l.takeWhile p).length:=by
 conv=>rhs;arg 2;rw[<- List.takeWhile_append_dropWhile (p:=p) (l:=l)]
 rw[List.drop_left]
theorem nP {α:Type} (p:α -> Bool) (l:List α):l.takeWhile p=l.take (l.length - (l.dropWhile p).length):=by
 have h:l.length=(l.takeWhile p).length+(l.dropWhile p).length:=by
  conv=>lhs;rw[<- List.takeWhile_append_dropWhile (p:=p) (l:=l)]
  rw[List.length_append]
 rw[show l.length - (l.dropWhile p).length=(l.takeWhile p).length by omega]
 conv=>rhs;arg 2;rw[<- List.takeWhile_append_dropWhile (p:=p) (l:=l)]
 rw[List.take_left]
end
end Go.Proofs.YtbggkiebfflcdaaGreatDoor
