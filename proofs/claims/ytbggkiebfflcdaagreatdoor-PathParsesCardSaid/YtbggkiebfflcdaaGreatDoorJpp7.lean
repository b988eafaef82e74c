/-
  Joined by join.py: Fj Fk Fl Fm Fn
-/
import Derived.Test.YtbggkiebfflcdaaGreatDoorJpp6
set_option maxRecDepth 100000
set_option maxHeartbeats 32000000
namespace Go.Proofs.YtbggkiebfflcdaaGreatDoor
section
open Go.RowKit Go.Shelf
theorem uP {r:Nat} (h:r < 55296 ∨ (57343 < r/\r<=1114111)):lB (r:Int)=true:=by
 unfold lB;rw[decide_eq_true_eq];omega
theorem pW {bs:List UInt8} {r k:Nat} (h:mB bs=some (r,k)):lB (r:Int)=true:=by
 have hK:∀ j b0 bs,tD j b0 bs=some (r,k) -> lB (r:Int)=true:=fun j b0 bs h=>by
  unfold tD at h
  split at h
  ·cases h
  ·split at h
   ·cases h
   ·rename_i h2
    simp only[Option.some.injEq,Prod.mk.injEq] at h;obtain⟨rfl,rfl⟩:=h
    cases hs:lB _
    ·exact absurd (.inr hs) h2
    ·rfl
 match bs with
 | []=>cases h
 | b0 :: bs=>
  rw[mB] at h
  split at h
  ·exact hK _ _ _ h
  ·split at h
   ·exact hK _ _ _ h
   ·split at h
    ·exact hK _ _ _ h
    ·split at h
     ·exact hK _ _ _ h
     ·cases h
theorem mY {v r:Nat} {bs:List UInt8} (_hv:lB (v:Int)=false) (h:kH v bs=some r):lB (r:Int)=true:=by
 unfold kH at h
 split at h
 ·rename_i h1
  split at h
  ·cases h
  ·split at h
   ·rename_i x _ h2
    rw[Option.some.injEq] at h;obtain⟨h3,_,_⟩:=h1;obtain⟨y,hy⟩:∃ y,v - 55296=y:=⟨_,rfl⟩;obtain⟨z,hz⟩:∃ z,x - 56320=z:=⟨_,rfl⟩;rw[hy,hz] at h;have h4:y<=1023:=by clear h;omega
    have h5:z<=1023:=by clear h;omega
    clear hy hz h2 h3;exact uP (r:=r) (by omega)
   ·cases h
 ·cases h
theorem sO {l:List UInt8} {r k:Nat} (h:aH l=some (r,k)):lB (r:Int)=true:=by
 match l,h with
 | [],h=>simp[aH] at h
 | c :: cs,h=>
  cases hq:rR c with
  | true=>
   rw[iY hq] at h;obtain⟨h1,h2⟩:=Prod.mk.inj (Option.some.inj h);have:=c.toNat_lt;exact uP (r:=r) (by omega)
  | false=>
   cases hn:qP c with
   | some j=>
    obtain⟨hj,he⟩:=jY (cs:=cs) hq hn;rw[he] at h;obtain⟨h1,h2⟩:=Prod.mk.inj (Option.some.inj h);have hj5:j=0 ∨ j=1 ∨ j=2 ∨ j=3 ∨ j=4:=by omega
    have h9:aGF j < 14:=by rcases hj5 with rfl | rfl | rfl | rfl | rfl <;> decide
    exact uP (r:=r) (by omega)
   | none=>
    rw[gV hq hn] at h
    split at h
    ·cases h
    ·rename_i v hv
     split at h
     ·rename_i hs
      obtain⟨h1,h2⟩:=Prod.mk.inj (Option.some.inj h);rw[<- h1];exact hs
     ·rename_i hs
      obtain⟨r1,h1,h2⟩:=Option.map_eq_some_iff.1 h;obtain⟨h2,h3⟩:=Prod.mk.inj h2;rw[<- h2];exact mY (by rw[Bool.not_eq_true] at hs;exact hs) h1
theorem aAu {q:UInt8} {l:List UInt8} {r k:Nat} (hq:q.toNat < 128) (h:lI q l=some (r,k)):lB (r:Int)=true:=by
 unfold lI at h
 split at h
 ·obtain⟨h1,h2⟩:=Prod.mk.inj (Option.some.inj h);exact uP (r:=r) (by omega)
 ·split at h
  ·cases h
  ·exact sO h
theorem vK (r:Nat):(vC r).length<=4:=by
 unfold vC
 repeat' split
 all_goals simp
theorem aCf {w:World} {v:Value} {bs:List UInt8} (h:w.ownsRow 0 5 1 v bs.length (iB bs)):∃ g,pB w v bs g:=by
 obtain⟨A,c,rfl,hc,_⟩:=jC h
 by_cases h0:0 < bs.length
 ·obtain⟨g,rfl,hg⟩:=rK h h0;exact⟨g,_,c,0,rfl,hc,fun _=>⟨rfl,fun j u hu=>by rw[Nat.zero_add];exact hg j u hu⟩⟩
 ·exact⟨0,A,c,0,rfl,hc,fun h=>absurd h h0⟩
theorem aFk (o:Option (Nat × Nat)):∃ ra na:Int,aCb o=.tuple #[.int .i32 ra,.int .i64 na]/\(o=none/\ra=0/\na=0 ∨ ∃ r k:Nat,o=some (r,k)/\ra=(r:Int)/\na=(k:Int)):=by
 cases o with
 | none=>exact⟨0,0,rfl,.inl ⟨rfl,rfl,rfl⟩⟩
 | some x=>exact⟨x.1,x.2,rfl,.inr ⟨x.1,x.2,rfl,rfl,rfl⟩⟩
def nY (o:Option (List UInt8 × Nat)):Value:=match o with
 | none=>.tuple #[.string { data:=#[] },.int .i64 0]
 | some (o,m)=>.tuple #[S8 o,.int .i64 (m:Int)]
def TxRel (w:World) (q:UInt8) (cs:List UInt8) (n:Nat) (j:Nat) (v5 v6:Value) (wr:World):Prop:=∃ (a m:Nat) (os:List UInt8),1<=a/\a<=n/\n<=a+j/\v6=.int .i64 (a:Int)/\n < m+a /\
 rH (q :: cs)=(uD m q ((q :: cs).drop a)).map (fun x=>(os ++ x.1,a+x.2))/\wr.ownsRow 0 5 1 v5 os.length (iB os)/\(∀ g,v5.ownBlock=some g -> w.heap.size<=g)/\os.length<=4 * a/\Fr [] w wr
theorem oY (q:UInt8) (cs:List UInt8):rH (q :: cs)=(uD (cs.length+1) q cs).map (fun x=>(x.1,1+x.2)):=by
 unfold rH
 simp only
 cases uD (cs.length+1) q cs with
 | none=>rfl
 | some x=>obtain⟨o,m⟩:=x;simp[Nat.add_comm]
theorem pB.get {w:World} {A:Option Addr} {n c g:Nat} {bs:List UInt8} (hv:pB w (.slice A n c) bs g):(0 < bs.length -> ∃ off,A=some ⟨g,off,none⟩/\∀ (i:Nat) (b:UInt8),bs[i]? = some b -> w.cell? ⟨g,off+i,none⟩=some (.int .u8 (b.toNat:Int))):=by
 intro h0;obtain⟨A',c',off,hv',hcl,hb⟩:=hv;injection hv' with e1 e2 e3;subst e1;obtain⟨h1,h2⟩:=hb h0;exact⟨off,h1,fun i b hi=>h2 i (B8 b) (by rw[iJ,hi];rfl)⟩
theorem aBB {a k:Nat} {ki:Int} (h:(k:Int)=ki):Value.int .i64 ((a:Int)+ki)=.int .i64 ((a+k:Nat):Int):=by rw[<- h];rfl
theorem pY {w:World} (s:ByteArray) (q:UInt8) (cs:List UInt8) (hs:aA s=q :: cs) (hz:s.size<=100000) (hq:q.toNat < 128):RV 109 #[.string s] w (nY (rH (aA s))):=by
 refine bA fun R HQ=>?_;obtain⟨C,w0,hcv,hC,hba,hf0⟩:=nK w s (by omega);rw[hs] at hba HQ;have HBA:=lh hba;have HF0:=lh hf0;have HSZ:Hid (s.size=(q :: cs).length):=lh (lA hs);have hnC:s.size<=C:=by obtain⟨_,_,_,h1,h2,_⟩:=hba;injection h1 with _ e2 e3;omega
 obtain⟨n,hn⟩:=nm (s.size)
 have HC0:Hid (∀ W,Fr [] w0 W -> ∀ (i:Nat) (b:UInt8),(q :: cs)[i]? = some b -> W.cell? ⟨w.heap.size,i,none⟩=some (.int .u8 (b.toNat:Int))):=lh fun W hW i b hi=>by
  obtain⟨off,h1,h2⟩:=(hba.fr hW).get (by simp);injection h1 with h1;injection h1 with _ h3;have:=h2 i b hi;rw[<- h3,Nat.zero_add] at this;exact this
 clear hba hf0 hs
 go_enter Tryz.func109,Tryz.ntmps109
 go_wp2_with fail;clear hcv;rw[<- hn] at HBA HSZ hnC hz ⊢;clear hn;have hn1:1<=n:=by rw[HSZ.o];simp
 have hT:=oY q cs;have HT:=lh hT;clear hT
 go_loopg [5,6] n (fun j v5 v6 wr=>TxRel w0 q cs n j v5 v6 wr)
 case atStart=>exact⟨1,cs.length+1,[],Nat.le_refl _,hn1,by omega,rfl,by rw[HSZ.o];simp,by rw[HT.o];rfl,sG _ _ _ _,by simp[Value.ownBlock],by simp,Fr.refl _ _⟩
 case round=>
  obtain⟨a,m,os,ha1,han,hj,rfl,hm,ht,hown,hge,hol,hf⟩:=hrel;have HTT:=lh ht;have HOWN:=lh hown;have HGE:=lh hge;have HF:=lh hf;have HM:=lh hm;clear ht hown hge hf HT hm;obtain⟨oA,oc,hov,_,_⟩:=jC HOWN.o;have HOV:=lh hov;clear hov
  by_cases hlt:a < n
  ·have k0:=HC0.o wr HF.o 0 q rfl;obtain⟨c,hc⟩:∃ c,(q :: cs)[a]? = some c:=gx (by rw[<- HSZ.o];exact hlt);have ka:=HC0.o wr HF.o a c hc;have d0:decide ((a:Int) < (n:Int))=true:=dT (by omega)
   have HDA:Hid ((q :: cs).drop a=c :: (q :: cs).drop (a+1)):=lh (xA hc);have hcq:=aDr c q;obtain⟨m1,hm1⟩:∃ m1,m=m1+1:=⟨m - 1,by have:=HM.o;omega⟩;have HM1:=lh hm1;clear hc hm1
   by_cases hce:c=q
   ·subst hce;have HE:Hid (rH (c :: cs)=some (os,a+1)):=lh (by rw[HTT.o,HDA.o,HM1.o,uD,if_pos rfl];simp);have hcq2:((c.toNat:Int) != (c.toNat:Int))=false:=by simp
    go_wp2_with fail
    go_quiet (fail)
    generalize nq=q1 at *;obtain⟨gs,hbs⟩:=aCf HOWN.o;have hst:=gO (P:=Tryz.prog) (w:=wr.drewN q1) (src:=149) (e:=5) (dst:=9) Tryz.underlying149 Tryz.underlying5 Tryz.underlying9 (hbs.fr ((Fr.refl [] wr).drewN q1));clear hbs hcq;go_wp2_with fail;exact HQ.o _ _ ⟨by rw[HE.o];first | done | rfl,HF0.o.trans (HF.o.drewN _)⟩
   ·have hcq2:((c.toNat:Int) != (q.toNat:Int))=true:=by
     rw[bne,hcq];simp[hce]
    have HTN:Hid (uD m q ((q :: cs).drop a)=match vI q ((q :: cs).drop a) with | none=>none | some (r,k)=>match uD m1 q (((q :: cs).drop a).drop k) with | none=>none | some (o,x)=>some (vC r ++ o,k+x)):=lh (by
     rw[HDA.o,HM1.o,uD,if_neg hce];rfl)
    have hst:vI q ((q :: cs).drop a)=match mB ((q :: cs).drop a) with
      | none=>none
      | some (r,n)=>if r=92 then (match lI q (((q :: cs).drop a).drop 1) with | none=>none | some (r',n')=>some (r',n'+1)) else if r < 32 then none else some (r,n):=rfl
    have HST:=lh hst;have hsl:=iD (P:=Tryz.prog) (t:=149) Tryz.underlying149 (by kernel_rfl) (some ⟨w.heap.size,0,none⟩) n C a .i64 (by omega);have hbs:=HBA.o.from_ a (by rw[<- HSZ.o];exact han);rw[<- HSZ.o] at hbs;generalize (if C=a then (some (⟨w.heap.size,0,none⟩:Addr)) else (some (⟨w.heap.size,0,none⟩:Addr)).map (·.add a))=sa at *;have HBS:=lh hbs;clear hst hbs hcq hce;go_wp2_with fail
    go_quiet (fail)
    generalize nq=q1 at *;have HF1:=lh (HF.o.drewN q1);have HW1:=lh ((Fr.refl [] wr).drewN q1);have hs1:=hsl (wr.drewN q1);generalize hwq:wr.drewN q1=w1 at *;clear hwq;go_wp2_with fail;refine(wX (HBS.o.fr HF1.o) (by omega)).mono ?_;rintro e w2 ⟨rfl,hf2⟩;have HF2:=lh (HF1.o.trans hf2);have HW2:=lh (HW1.o.trans hf2);clear hf2 hs1;unfold tC
    cases hnx:mB ((q :: cs).drop a) with
    | none=>
     have HE:Hid (rH (q :: cs)=none):=lh (by rw[HTT.o,HTN.o,HST.o,hnx];rfl);clear hnx
     simp only
     go_wp2_with fail;exact HQ.o _ _ ⟨by rw[HE.o];first | done | rfl,HF0.o.trans HF2.o⟩
    | some y=>
     obtain⟨r,k⟩:=y;have hps:=uF hnx;obtain⟨p1,p2,p3,p4⟩:=hps;rw[List.length_drop,<- HSZ.o] at p2;have hak:a+k<=n:=by omega
     clear p2 p4;have hso:=pW hnx;have HST2:Hid (vI q ((q :: cs).drop a)=if r=92 then (match lI q (((q :: cs).drop a).drop 1) with | none=>none | some (r',n')=>some (r',n'+1)) else if r < 32 then none else some (r,k)):=lh (by rw[HST.o,hnx]);have HSO:=lh hso;clear hnx hso
     simp only
     obtain⟨ki,hki⟩:∃ ki:Int,(k:Int)=ki:=⟨_,rfl⟩;have d4:(ki == 0)=false:=bF (by omega)
     have kib:0 < ki/\ki<=4/\(a:Int)+ki<=n:=by omega
     obtain⟨kb1,kb2,kb3⟩:=kib;have w9:IntKind.i64.wrap ((a:Int)+ki)=(a:Int)+ki:=by rw[IntKind.wrap_i64];omega
     have d1:decide (0 < ki)=true:=by rw[decide_eq_true_eq];exact kb1
     rw[hki];have HKI:=lh hki;have HAK:=lh hak;have HP1:=lh p1;clear hki hak p1 p3
     by_cases h92:r=92
     ·subst h92;have hsl2:=iD (P:=Tryz.prog) (t:=149) Tryz.underlying149 (by kernel_rfl) (some ⟨w.heap.size,0,none⟩) n C (a+1) .i64 (by omega);have hbs2:=(HBA.o.fr HF2.o).from_ (a+1) (by rw[<- HSZ.o];omega);rw[<- HSZ.o] at hbs2;rw[show((a+1:Nat):Int)=(a:Int)+1 by omega] at hsl2;generalize (if C=a+1 then (some (⟨w.heap.size,0,none⟩:Addr)) else (some (⟨w.heap.size,0,none⟩:Addr)).map (·.add (a+1)))=sb at *;have HBS2:=lh hbs2;have HSL2:=lh hsl2;have hq0:=HC0.o w2 HF2.o 0 q rfl;have hn0:0 < n:=hn1;have w8:=wi a (by omega)
      clear hbs2 hsl2 hsl k0 ka;rw[show((92:Nat):Int)=92 from rfl];go_wp2_with fail;refine mA (fun W=>W.cell? ⟨w.heap.size,0,none⟩=some (.int .u8 (q.toNat:Int))/\True) [0,1,2,3,4,5,6,8,9,10] (by kernel_rfl) ?_;refine tks [0,1,2] ?_
      iterate 3 (refine tk rfl rfl ⟨hq0,trivial⟩ rfl (fun _ hW=>by(obtain⟨c2',_⟩:=hW;go_simp) <;> with_reducible rfl) ?_;simp only[nrm])
      refine tke ?_;refine tv 3 (.slice sb (n - (a+1)) (C - (a+1))) rfl rfl ⟨hq0,trivial⟩ (.inl ⟨rfl,fun W hW=>aAm rfl rfl rfl rfl (HSL2.o W)⟩) ?_;simp only[nrm];refine tks [4,5,6] ?_
      iterate 3 (refine tk rfl rfl ⟨hq0,trivial⟩ rfl (fun _ hW=>by(obtain⟨c2',_⟩:=hW;go_simp) <;> with_reducible rfl) ?_;simp only[nrm])
      refine tke ?_;refine sp 7 rfl rfl rfl fun K hK=>?_;refine zA (l:=[.tmp 42,.tmp 45]) rfl [.slice sb (n - (a+1)) (C - (a+1)),.int .u8 (q.toNat:Int)] rfl (fun W=>by kernel_rfl) ((aDs q (HBS2.o.fr ((Fr.refl [] w2).drew)) (by omega)).mono ?_);rintro e w4 ⟨rfl,hf4⟩;have hf4':Fr [] w2 w4:=((Fr.refl [] w2).drew).trans hf4;have hq4:=HC0.o w4 (HF2.o.trans hf4') 0 q rfl;have HF4:=lh (HF2.o.trans hf4');have HW4:=lh (HW2.o.trans hf4');obtain⟨ra,na,hva,hcase⟩:=aFk (lI q ((q :: cs).drop (a+1)));rw[hva];have HCASE:=lh hcase;clear hcase hva;refine⟨_,rfl,hK _ _ (fun _=>⟨hq4,trivial⟩) ?_⟩;simp only[nrm];clear hK hf4 hf4' hq0 w8;refine tks [8,9,10] ?_
      iterate 3 (refine tk rfl rfl ⟨hq4,trivial⟩ rfl (fun _ hW=>by(obtain⟨c2',_⟩:=hW;go_simp) <;> with_reducible rfl) ?_;simp only[nrm])
      refine tke ?_;refine sp 11 rfl rfl rfl fun K hK=>?_;refine tA (v:=?aq1_11) ?yq1_11 (hK _ _ (fun _=>⟨hq4,trivial⟩) ?_)
      case yq1_11=>go_simp <;> with_reducible rfl
      simp only[nrm];refine sp 12 rfl rfl rfl fun K hK=>?_;refine tA (v:=?aq1_12) ?yq1_12 (hK _ _ (fun _=>⟨hq4,trivial⟩) ?_)
      case yq1_12=>go_simp <;> with_reducible rfl
      simp only[nrm];refine wd ?_ _
      cases he:lI q ((q :: cs).drop (a+1)) with
      | none=>
       have HE:Hid (rH (q :: cs)=none):=lh (by rw[HTT.o,HTN.o,HST2.o,if_pos trivial,List.drop_drop,he];rfl)
       obtain⟨rfl,rfl⟩:ra=0/\na=0:=by
        rcases HCASE.o with ⟨_,h1,h2⟩ | ⟨r3,k3,h1,_⟩
        ·exact⟨h1,h2⟩
        ·rw[he] at h1;cases h1
       clear he;go_wp2_with fail;exact HQ.o _ _ ⟨by rw[HE.o];first | done | rfl,HF0.o.trans HF4.o⟩
      | some y=>
       obtain⟨r2,k2⟩:=y;have hek:=aBt he;rw[List.length_drop,<- HSZ.o] at hek;obtain⟨ek1,ek2⟩:=hek;have HS2:=lh (aAu hq he)
       have HE:Hid (rH (q :: cs)=(uD m1 q ((q :: cs).drop (a+(k2+1)))).map (fun x=>((os ++ vC r2) ++ x.1,(a+(k2+1))+x.2))):=lh (by
        rw[HTT.o,HTN.o,HST2.o,if_pos trivial,List.drop_drop,he]
        simp only
        rw[List.drop_drop]
        cases uD m1 q ((q :: cs).drop (a+(k2+1))) with
        | none=>rfl
        | some x=>simp[Nat.add_assoc])
       obtain⟨kj,hkj⟩:∃ kj:Int,(k2:Int)=kj:=⟨_,rfl⟩;have e0:decide (0 < kj)=true:=dT (by omega)
       have e1:IntKind.i64.wrap (kj+1)=kj+1:=by rw[IntKind.wrap_i64];omega
       have e2:(kj+1 == 0)=false:=by rw[beq_eq_false_iff_ne];omega
       have e3:IntKind.i64.wrap ((a:Int)+(kj+1))=(a:Int)+(kj+1):=by rw[IntKind.wrap_i64];omega
       have ej1:0 < kj:=by omega
       have ej2:(a:Int)+(kj+1)<=n:=by omega
       have HKJ:Hid (((k2+1:Nat):Int)=kj+1):=lh (by omega);have HAJ:Hid (a+(k2+1)<=n):=lh (by omega);have HJ1:Hid (1<=k2+1):=lh (by omega)
       obtain⟨rfl,rfl⟩:ra=(r2:Int)/\na=kj:=by
        rcases HCASE.o with ⟨h1,_,_⟩ | ⟨r3,k3,h1,h2,h3⟩
        ·rw[he] at h1;cases h1
        ·rw[he] at h1;injection h1 with h1;injection h1 with h4 h5;exact⟨by rw[h2,h4],by rw[h3,<- h5,hkj]⟩
       clear he hkj ek1 ek2;go_wp2_with fail;refine(aBv r2 HS2.o (sB HOWN.o HW4.o (fun g _=>by simp)) (by omega)).mono ?_;rintro e w5 ⟨v5,rfl,hown5,hge5,hf5⟩;have HO5:=lh hown5;have HG5:Hid (∀ g,v5.ownBlock=some g -> w0.heap.size<=g):=lh (fun g hg=>Nat.le_trans HF4.o.size (hge5 g hg));have HF5:=lh (HF4.o.trans hf5);have hpl:=vK r2;have hol5:(os ++ vC r2).length<=4 * (a+(k2+1)):=by have:=HJ1.o;rw[List.length_append];omega
       clear hown5 hge5 hf5 hpl;go_wp2_with fail
       go_roundg (n - (a+(k2+1)))
       case measure=>have:=HJ1.o;have:=HAJ.o;omega
       case rel=>exact⟨a+(k2+1),m1,os ++ vC r2,by omega,HAJ.o,(by have:=HAJ.o;omega),aBB (HKJ.o),by have:=HM.o;have:=HM1.o;have:=HJ1.o;have:=HAJ.o;omega,HE.o,HO5.o,HG5.o,hol5,HF5.o⟩
     ·have d2:((r:Int) == 92)=false:=by rw[beq_eq_false_iff_ne];omega
      by_cases h32:r < 32
      ·have HE:Hid (rH (q :: cs)=none):=lh (by rw[HTT.o,HTN.o,HST2.o,if_neg h92,if_pos h32];rfl);have d3:decide ((r:Int) < 32)=true:=dT (by omega)
       go_wp2_with fail;exact HQ.o _ _ ⟨by rw[HE.o];first | done | rfl,HF0.o.trans HF2.o⟩
      ·have d3:decide ((r:Int) < 32)=false:=dF (by omega)
       have HE:Hid (rH (q :: cs)=(uD m1 q ((q :: cs).drop (a+k))).map (fun x=>((os ++ vC r) ++ x.1,(a+k)+x.2))):=lh (by
        rw[HTT.o,HTN.o,HST2.o,if_neg h92,if_neg h32]
        simp only
        rw[List.drop_drop]
        cases uD m1 q ((q :: cs).drop (a+k)) with
        | none=>rfl
        | some x=>simp[Nat.add_assoc])
       go_wp2_with fail;refine(aBv r HSO.o (sB HOWN.o HW2.o (fun g _=>by simp)) (by omega)).mono ?_;rintro e w5 ⟨v5,rfl,hown5,hge5,hf5⟩;have HO5:=lh hown5;have HG5:Hid (∀ g,v5.ownBlock=some g -> w0.heap.size<=g):=lh (fun g hg=>Nat.le_trans HF2.o.size (hge5 g hg));have HF5:=lh (HF2.o.trans hf5);have hpl:=vK r;have hol5:(os ++ vC r).length<=4 * (a+k):=by have:=HP1.o;rw[List.length_append];omega
       clear hown5 hge5 hf5 hpl;go_wp2_with fail
       go_roundg (n - (a+k))
       case measure=>have:=HP1.o;have:=HAK.o;omega
       case rel=>exact⟨a+k,m1,os ++ vC r,by omega,HAK.o,(by have:=HAK.o;omega),aBB (HKI.o),by have:=HM.o;have:=HM1.o;have:=HP1.o;have:=HAK.o;omega,HE.o,HO5.o,HG5.o,hol5,HF5.o⟩

  ·have hae:a=n:=by omega
   have HE:Hid (rH (q :: cs)=none):=lh (by rw[HTT.o,List.drop_of_length_le (by rw[<- HSZ.o];omega)];cases m <;> rfl);have d0:decide ((a:Int) < (n:Int))=false:=dF (by omega)
   go_wp2_with fail
   go_quiet (fail)
   go_wp2_with fail;exact HQ.o _ _ ⟨by rw[HE.o];first | done | rfl,HF0.o.trans (HF.o.drewN _)⟩
structure Asks (w:World) (K:Nat) (arg:List Value -> Value) (l:List (List Value)) (gf:Nat) (lb:Array Value) (p:List Value -> Bool):Prop where
 enter:∀ args w,(callFunc gf args).run Tryz.prog w=.ok (.enter gf args) w
 call:∀ (i:Nat) (row:List Value) (W:World),l[i]? = some row -> Fr [] w W -> Calls Tryz.prog gf (#[arg row] ++ lb) W fun e w'=>e=.returned (.bool (p row))/\Fr [] W w'
def aAv (w:World) (K:Nat) (v:Value) (l:List (List Value)):Prop:=∃ A c g off,v=.slice A l.length c/\l.length<=c/\l.length<=1000000000/\∀ (i:Nat) (row:List Value),l[i]? = some row -> A=some ⟨g,off,none⟩/\row.length=K/\∀ (j:Nat) (u:Value),row[j]? = some u -> w.cell? ⟨g,off+K * i+j,none⟩=some u
def IxRel (w:World) (l:List (List Value)) (p:List Value -> Bool) (j:Nat) (v8:Value) (wr:World):Prop:=∃ i:Nat,i<=l.length/\l.length<=i+j/\v8=.int .i64 (i:Int)/\(∀ r ∈ l.take i,p r=false)/\Fr [] w wr
theorem uU {w:World} {v:Value} {l:List (List Value)} {gf:Nat} {lb:Array Value} {p:List Value -> Bool} (hr:aAv w 1 v l) (ha:Asks w 1 (fun r=>r.headD undef) l gf lb p):
  Calls Tryz.prog 196 #[v,.func (.func gf) #[] lb] w fun e w'=>∃ x:Int,e=.returned (.int .i64 x)/\decide (0<=x)=l.any p/\Fr [] w w':=by
 refine bA fun R HQ=>?_;obtain⟨A,c,g,off,rfl,hlc,hlb,hcell⟩:=hr;have hen:=ha.enter;have HCALL:=lh ha.call;have HCELL:=lh hcell;clear ha hcell;obtain⟨n,hn⟩:=nm (l.length);rw[<- hn] at hlc hlb ⊢;have HN:=lh hn;clear hn
 go_enter Tryz.func196,Tryz.ntmps196
 go_wp2_with fail
 go_loopg [8] n (fun j v8 wr=>IxRel w l p j v8 wr)
 case atStart=>exact⟨0,by omega,by rw[<- HN.o];omega,rfl,by simp,Fr.refl _ _⟩
 case round=>
  obtain⟨i,hi,hj,rfl,hno,hf⟩:=hrel;rw[<- HN.o] at hi hj;have HNO:=lh hno;have HF:=lh hf;clear hno hf
  by_cases hin:i < n
  ·obtain⟨row,hrow⟩:∃ row,l[i]? = some row:=gx (by rw[<- HN.o];exact hin);obtain⟨hA,hk,hcell⟩:=HCELL.o i row hrow;subst hA
   obtain⟨u,rfl⟩:∃ u,row=[u]:=by
    match row,hk with
    | [u],_=>exact⟨u,rfl⟩
   have hc0:=hcell 0 u rfl;rw[show off+1 * i+0=off+i by omega] at hc0;have hcw:wr.cell? ⟨g,off+i,none⟩=some u:=by rw[HF.o.cell (World.block_lt_of_cell? w _ hc0) (by simp)];exact hc0
   have HCL:=lh (HCALL.o i [u] wr hrow HF.o);have HROW:=lh hrow;have d0:decide ((i:Int) < (n:Int))=true:=dT (by omega)
   clear hrow hcell hc0 hk;go_wp2_with fail;refine HCL.o.mono ?_;rintro e w2 ⟨rfl,hf2⟩;have HF2:=lh (HF.o.trans hf2);clear hf2 hcw
   cases hp:p [u] with
   | true=>
    have HE:Hid (l.any p=true):=lh (List.any_eq_true.2 ⟨[u],List.mem_of_getElem? HROW.o,hp⟩);clear hp;go_wp2_with fail;exact HQ.o _ _ ⟨_,rfl,by rw[HE.o,decide_eq_true_eq];omega,HF2.o⟩
   | false=>
    have HNO2:Hid (∀ r ∈ l.take (i+1),p r=false):=lh (fun r hr=>by
     rw[List.take_add_one,HROW.o] at hr;rcases List.mem_append.1 hr with h | h
     ·exact HNO.o r h
     ·simp at h;subst h;exact hp)
    clear hp;go_wp2_with fail
    go_roundg (n - (i+1))
    case measure=>omega
    case rel=>exact⟨i+1,by rw[<- HN.o];omega,by rw[<- HN.o];omega,by go_num,HNO2.o,HF2.o⟩
  ·have hie:i=n:=by omega
   have HE:Hid (l.any p=false):=lh (by
    rw[List.any_eq_false];intro r hr;rw[Bool.not_eq_true];exact HNO.o r (by rw[hie,HN.o,List.take_length];exact hr))
   have d0:decide ((i:Int) < (n:Int))=false:=dF (by omega)
   go_wp2_with fail;exact HQ.o _ _ ⟨_,rfl,by rw[HE.o,decide_eq_false_iff_not];omega,HF.o⟩
theorem yQ {w:World} {v:Value} {l:List (List Value)} {gf:Nat} {lb:Array Value} {p:List Value -> Bool} (hr:aAv w 1 v l) (ha:Asks w 1 (fun r=>r.headD undef) l gf lb p):
  RV 162 #[v,.func (.func gf) #[] lb] w (.bool (l.any p)):=by
 have H:=lh (uU hr ha);obtain⟨A,c,g,off,rfl,_⟩:=hr;clear ha;generalize l.length=n at *
 go_enter Tryz.func162,Tryz.ntmps162
 go_wp2_with fail;refine H.o.mono ?_;rintro e w1 ⟨x,rfl,hx,hf⟩;have HX:=lh hx;clear hx;go_wp2_with fail
 go_ret
 exact⟨by rw[<- HX.o];rfl,hf⟩
def qY:List (List Value):=nL.map fun t=>[S8 t]
theorem aDt (w:World):Calls Tryz.prog 163 #[] w fun e w'=>∃ v,e=.returned v/\aAv w' 1 v qY/\Fr [] w w':=by
 go_enter Tryz.func163,Tryz.ntmps163
 go_wp2_with fail
 go_ret
 refine⟨_,rfl,⟨_,8,w.heap.size,0,rfl,by decide,by decide,fun i row hi=>?_⟩,(Fr.refl _ _).alloc _⟩;have hb:=Blk.new w 9 (nL.map S8);unfold qY at hi;rw[List.getElem?_map] at hi;obtain⟨t,ht,rfl⟩:=Option.map_eq_some_iff.1 hi;refine⟨rfl,rfl,fun j u hu=>?_⟩;have hj:j=0:=by have:=(List.getElem?_eq_some_iff.1 hu).1;simp at this;omega
 subst hj;rw[show 0+1 * i+0=i by omega];refine hb.at_ ?_;rw[List.getElem?_map,ht];exact hu
theorem rY (vs:Array Value) (w:World):(callFunc 164 vs).run Tryz.prog w=.ok (.enter 164 vs) w:=by kernel_rfl
theorem aCg {W:World} {b:Nat} {s:ByteArray} (x:ByteArray) (hc:W.cell? ⟨b,0,none⟩=some (.string s)):RV 164 #[.string x,.pointer (some ⟨b,0,none⟩)] W (.bool ((aA x).isPrefixOf (aA s))):=by
 go_enter Tryz.func164,Tryz.ntmps164
 go_wp2_with fail;refine(rO s x _).mono ?_;rintro e w1 ⟨rfl,rfl⟩;go_wp2_with fail
 go_ret
 exact⟨rfl,Fr.refl _ _⟩
def aGI (l:List UInt8) (row:List Value):Bool:=match row with
 | [.string x]=>(aA x).isPrefixOf l
 | _=>false
theorem aCh (l:List UInt8):qY.any (aGI l)=nL.any (fun x=>x.isPrefixOf l):=by
 unfold qY;rw[List.any_map]
 rfl
def aGJ:List UInt8:=[36,64,46,44,58,59,63,42,91,93,40,41,123,125,60,62,33,61,43,45]
theorem aDu (c:UInt8):decide (0<=Lib.indexByte aGJ c)=oR c:=eq_of_beq (qD (fun c=>decide (0<=Lib.indexByte aGJ c) == oR c) (by decide +kernel) c)
theorem aFl (c:UInt8) (w:World):Calls Tryz.prog 154 #[.string { data:=#[36,64,46,44,58,59,63,42,91,93,40,41,123,125,60,62,33,61,43,45] },.int .u8 (c.toNat:Int)] w fun e w'=>∃ x:Int,e=.returned (.int .i64 x)/\decide (0<=x)=oR c/\w=w':=by
 refine(jH _ c w).mono ?_;rintro e w' ⟨rfl,rfl⟩;exact⟨_,rfl,aDu c,rfl⟩
theorem cT {w:World} (s:ByteArray) (c:UInt8) (cs:List UInt8) (hs:aA s=c :: cs):RV 110 #[.string s] w (.int .i64 (kF (aA s):Int)):=by
 refine bA fun R HQ=>?_;have hb:=Blk.new w 9 [.string s];have hf:=(Fr.refl [] w).alloc (.cells [Value.string s].toArray 9);have hx:=rA (s:=s) (i:=0) (c:=c) (by rw[hs];rfl) .i64;rw[show((0:Nat):Int)=0 from rfl] at hx;have HS:=lh hs;have HB:=lh hb;have HF:=lh hf;clear hs hb hf
 go_enter Tryz.func110,Tryz.ntmps110
 go_wp2_with fail;refine(aDt _).mono ?_;rintro e w1 ⟨v,rfl,hrows,hf1⟩;have HB1:=lh (HB.o.fr hf1);have HF1:=lh (HF.o.trans hf1);have HR:=lh hrows;clear hf1 hrows;have hmf:∀ (fn:Fn) (first cap:Array Value) (w:World),(Instr.makeFunc fn first cap).run Tryz.prog w=.ok (.func fn first cap) w:=fun _ _ _ _=>rfl;go_wp2_with fail;refine(yQ (p:=aGI (aA s)) HR.o ⟨rY,fun i row W hi hW=>?_⟩).mono ?_
 ·unfold qY at hi;rw[List.getElem?_map] at hi;obtain⟨t,ht,rfl⟩:=Option.map_eq_some_iff.1 hi;exact aCg ⟨t.toArray⟩ ((HB1.o.fr hW).at_ rfl)
 rintro e w2 ⟨rfl,hf2⟩;have HB2:=lh (HB1.o.fr hf2);have HF2:=lh (HF1.o.trans hf2);have c0:=HB2.o.at_ (i:=0) rfl;clear hf2;rw[aCh]
 cases ht:nL.any (fun x=>x.isPrefixOf (aA s)) with
 | true=>
  have HE:Hid (kF (aA s)=2):=lh (by unfold kF;rw[if_pos ht]);clear ht;go_wp2_with fail;exact HQ.o _ _ ⟨by rw[HE.o];rfl,HF2.o⟩
 | false=>
  have HE:Hid (kF (aA s)=if oR c then 1 else 0):=lh (by unfold kF;rw[if_neg (by rw[ht];simp),HS.o]);clear ht;go_wp2_with fail;refine(aFl c _).mono ?_;rintro e w3 ⟨x,rfl,hx0,rfl⟩
  cases ho:oR c with
  | true=>
   have HE2:Hid (kF (aA s)=1):=lh (by rw[HE.o,ho];rfl);rw[ho] at hx0;clear ho;go_wp2_with fail;exact HQ.o _ _ ⟨by rw[HE2.o];rfl,HF2.o⟩
  | false=>
   have HE2:Hid (kF (aA s)=0):=lh (by rw[HE.o,ho];rfl);rw[ho] at hx0;clear ho;go_wp2_with fail;exact HQ.o _ _ ⟨by rw[HE2.o];rfl,HF2.o⟩
def aDv (w:World) (b:Nat) (frm til:Value) (l:List UInt8) (e:Ending) (w':World):Prop:=
 Fr [b] w w'/\match zB l with
 | .error er=>∃ n:Int,e=.returned (.tuple #[.int .i64 n,.int .i64 er])/\er ≠ 0
 | .ok (k,st,num,m)=>e=.returned (.tuple #[.int .i64 (m:Int),.int .i64 0])/\Blk w' b 95 [.int .i64 (k:Int),S8 st,.bool num.neg,S8 num.digits,.int .i64 num.exp,frm,til]
theorem nI {w w':World} {b:Nat} {frm til:Value} {l:List UInt8} {n er:Int} (h:zB l=.error er) (he:er ≠ 0) (hf:Fr [b] w w'):aDv w b frm til l (.returned (.tuple #[.int .i64 n,.int .i64 er])) w':=by
 refine⟨hf,?_⟩;rw[h];exact⟨n,rfl,he⟩
theorem fK {w w':World} {b:Nat} {frm til:Value} {l st:List UInt8} {k m:Nat} {num:Dcm} {M:Int} (h:zB l=.ok (k,st,num,m)) (hM:M=(m:Int)) (hf:Fr [b] w w') (hb:Blk w' b 95 [.int .i64 (k:Int),S8 st,.bool num.neg,S8 num.digits,.int .i64 num.exp,frm,til]):
  aDv w b frm til l (.returned (.tuple #[.int .i64 M,.int .i64 0])) w':=by
 refine⟨hf,?_⟩;rw[h,hM];exact⟨rfl,hb⟩
theorem aCi {neg:Bool} {l:List UInt8} {x e:Int} (h:mG neg l x=.error e):e ≠ 0:=by
 unfold mG at h
 by_cases h1:uC qC (l.dropWhile qC)=[]
 ·simp only at h
  rw[if_pos h1] at h;cases h
 ·simp only at h
  rw[if_neg h1] at h
  split at h
  ·cases h
  ·injection h with h;omega
theorem aAw {neg pt:Bool} {wh ps:List UInt8} {x:Int × List UInt8 × Bool} {e:Int} (h:jD neg pt wh ps x=.error e):e ≠ 0:=by
 unfold jD at h
 split at h
 ·injection h with h;omega
 ·exact aCi h
theorem tO {l:List UInt8} {e:Int} (h:fE l=.error e):e ≠ 0:=by
 by_cases hl:1000 < l.length
 ·unfold fE at h;rw[if_pos hl] at h;injection h with h;omega
 ·rw[xQ (by omega) rfl rfl rfl] at h;exact aAw h
theorem aDw {w:World} {b:Nat} {frm til:Value} (s:ByteArray) (c:UInt8) (cs:List UInt8) (hs:aA s=c :: cs) (hz:s.size<=100000) (hb:Blk w b 95 [.int .i64 0,.string { data:=#[] },.bool false,.string { data:=#[] },.int .i64 0,frm,til]):
  Calls Tryz.prog 67 #[.pointer (some ⟨b,0,none⟩),.string s] w (aDv w b frm til (aA s)):=by
 refine bA fun R HQ=>?_;have hx:=rA (s:=s) (i:=0) (c:=c) (by rw[hs];rfl) .i64;rw[show((0:Nat):Int)=0 from rfl] at hx;have b3:IntKind.i32.wrap (c.toNat:Int)=(c.toNat:Int):=by rw[IntKind.wrap_i32];have:=c.toNat_lt;omega
 have HS:=lh hs;have HB:=lh hb;have HZ:Hid (s.size=cs.length+1):=lh (by rw[lA hs];simp);have f0:=hb.free 0;have f1:=hb.free 1;have f2:=hb.free 2;clear hs hb
 go_enter Tryz.func67,Tryz.ntmps67
 go_wp2_with fail;refine(aT _ _).mono ?_;rintro e w1 ⟨rfl,rfl⟩;rw[oW]
 cases hbg:zI c with
 | true=>
  have HBG:=lh hbg;clear hbg;go_wp2_with fail;refine(aDq s (by omega)).mono ?_;rintro e w1 ⟨rfl,hf1⟩;have HF1:=lh hf1;have HB1:=lh (HB.o.fr hf1);obtain⟨m,hm⟩:∃ m,((aA s).takeWhile nB).length=m:=⟨_,rfl⟩
  have hm1:1<=m:=by
   rw[<- hm,HS.o,List.takeWhile_cons,if_pos (by unfold nB;rw[HBG.o];rfl)];simp
  have hms:m<=s.size:=by rw[<- hm,<- cA];exact mC _ _
  have hts:(aA s).takeWhile nB=(aA s).take m:=by
   have:=List.takeWhile_prefix (l:=aA s) nB;rw[<- hm];exact List.prefix_iff_eq_take.1 this
  rw[hm];have HM:=lh hm;have HTS:=lh hts;clear hf1 hm hts
  cases hck:sI ((aA s).takeWhile nB) with
  | false=>
   have HE:Hid (zB (aA s)=.error 2):=lh (by
    rw[HS.o,zB,if_pos HBG.o,<- HS.o,if_neg (by rw[hck];simp)])
   clear hck;go_wp2_with fail;exact HQ.o _ _ (nI HE.o (by omega) (HF1.o.mono (by simp)))
  | true=>
   have HE:Hid (zB (aA s)=.ok (1,(aA s).take m,.zero,m)):=lh (by
    rw[HS.o,zB,if_pos HBG.o,<- HS.o,if_pos hck,HTS.o];rw[List.length_take,cA,Nat.min_eq_left hms])
   clear hck;obtain⟨t,hext⟩:∃ t,s.extract 0 m=t:=⟨_,rfl⟩;have HT:Hid (aA t=(aA s).take m):=lh (by rw[<- hext,lC];simp);have g0:=HB1.o.free 0;have g1:=HB1.o.free 1;have e0:=HB1.o.at_ (i:=0) rfl;have e1:=HB1.o.at_ (i:=1) rfl;go_upto_region 10 with fail
   refine mA (fun _=>True) [0,1,2,3,4,5,6,8,9] (by kernel_rfl) ?_;refine tks [0,1,2,3,4,5,6] ?_
   iterate 7 (refine tk rfl rfl trivial rfl (fun _ _=>by go_simp <;> with_reducible rfl) ?_;simp only[nrm])
   refine tke ?_;refine iC (j:=7) none rfl rfl (by kernel_rfl) rfl fun K hK=>?_;refine pC (w':=w1.drew.setCell ⟨b,0,none⟩ (.int .i64 1)) (by go_simp) (hK _ _ (fun _=>trivial) ?_);simp only[Act.put];clear hK;refine tks [8,9] ?_
   iterate 2 (refine tk rfl rfl trivial rfl (fun _ _=>by go_simp <;> with_reducible rfl) ?_;simp only[nrm])
   refine tke ?_;refine iC (j:=10) none rfl rfl (by kernel_rfl) rfl fun K hK=>?_;refine pC (w':=(w1.drew.setCell ⟨b,0,none⟩ (.int .i64 1)).setCell ⟨b,1,none⟩ (.string t)) (by go_simp) (hK _ _ (fun _=>trivial) ?_);simp only[Act.put];clear hK;refine wd ?_ _;have hb9:Blk ((w1.drew.setCell ⟨b,0,none⟩ (.int .i64 1)).setCell ⟨b,1,none⟩ (.string t)) b 95 [.int .i64 1,.string t,.bool false,.string { data:=#[] },.int .i64 0,frm,til]:=((HB1.o.drew).set_ 0 _).set_ 1 _;have hf9:Fr [b] w ((w1.drew.setCell ⟨b,0,none⟩ (.int .i64 1)).setCell ⟨b,1,none⟩ (.string t)):=((((HF1.o.mono (by simp)):Fr [b] w w1).drew).setCell (.inl (by simp)) _).setCell (.inl (by simp)) _;generalize (w1.drew.setCell ⟨b,0,none⟩ (.int .i64 1)).setCell ⟨b,1,none⟩ (.string t)=w9 at *;have HB9:=lh hb9;have HF9:=lh hf9;have hme:t=⟨((aA s).take m).toArray⟩:=tF (by rw[HT.o];rfl);have HME:=lh hme;clear hb9 hf9 hext hme;have dm:((m:Int) == 0)=false:=by rw[beq_eq_false_iff_ne];omega
   go_wp2_with fail;exact HQ.o _ _ (fK HE.o rfl HF9.o (by have h:=HB9.o;rw[HME.o] at h;exact h))
 | false=>
  have HBG:=lh hbg;clear hbg
  cases hfg:yA c with
  | true=>
   have HNC:Hid ((yA c || (c.toNat == 45 && vF cs))=true):=lh (by rw[hfg];rfl);go_wp2_with fail;refine(kJ c _).mono ?_;rintro e w2 ⟨rfl,rfl⟩;rw[hfg];clear hfg;go_wp2_with fail;refine(bT s (by omega)).mono ?_;rintro e w3 ⟨rfl,hf3⟩;obtain⟨m,hm⟩:∃ m,vA none (aA s)=m:=⟨_,rfl⟩
   have hm1:1<=m:=by
    rw[<- hm,HS.o];unfold vA;rw[if_pos]
    ·omega
    ·have h9:=HNC.o
     cases hfc:yA c
     ·rw[hfc] at h9
      simp at h9
      simp[h9.1,gG]
     ·simp
   have hms:m<=s.size:=by rw[<- hm,<- cA];exact tK _ _
   rw[hm];have hb3:=HB.o.fr hf3;have HB3:=lh hb3;have HF3:=lh hf3;have HM:=lh hm;have g0:=hb3.free 0;have e0:=hb3.at_ (i:=0) rfl;clear hf3 hm hb3;obtain⟨t,hext⟩:∃ t,s.extract 0 m=t:=⟨_,rfl⟩;have HT:Hid (aA t=(aA s).take m):=lh (by rw[<- hext,lC];simp);have htz:t.size<=s.size:=by rw[lA HT.o,List.length_take,cA];omega
   go_wp2_with fail;have hb4:=HB3.o.set_ 0 (.int .i64 3);have hf4:Fr [b] w (w3.setCell ⟨b,0,none⟩ (.int .i64 3)):=((HF3.o.mono (by simp)):Fr [b] w w3).setCell (.inl (by simp)) _;simp only[List.set_cons_zero] at hb4;generalize w3.setCell ⟨b,0,none⟩ (.int .i64 3)=w4 at *;have HB4:=lh hb4;have HF4:=lh hf4;clear hb4 hf4 g0 e0;refine(jV t (by omega)).mono ?_;rintro e w5 ⟨rfl,hf5⟩;have hb5:=HB4.o.fr hf5;have HB5:=lh hb5;have HF5:=lh (HF4.o.trans hf5);have g2:=hb5.free 2;have g3:=hb5.free 3;have g4:=hb5.free 4;have e2:=hb5.at_ (i:=2) rfl;have e3:=hb5.at_ (i:=3) rfl;have e4:=hb5.at_ (i:=4) rfl;clear hf5 hb5 hext;rw[HT.o];have dm:((m:Int) == 0)=false:=by rw[beq_eq_false_iff_ne];omega
   cases hpd:fE ((aA s).take m) with
   | error er=>
    have hne:=tO hpd
    have HE:Hid (zB (aA s)=.error er):=lh (by
     rw[HS.o,zB,if_neg (by rw[HBG.o];simp),if_pos HNC.o,<- HS.o,HM.o,hpd])
    have HNE:=lh hne;have der:(er == 0)=false:=by rw[beq_eq_false_iff_ne];exact hne
    unfold sA;rw[hpd];simp only[gC,Dcm.zero,S8];clear hpd hne;go_wp2_with fail;exact HQ.o _ _ (nI HE.o HNE.o (HF5.o.setL (vs:=[.bool false,.string { data:=#[] },.int .i64 0]) (.inl (by simp))))
   | ok dv=>
    have HE:Hid (zB (aA s)=.ok (3,[],dv,m)):=lh (by
     rw[HS.o,zB,if_neg (by rw[HBG.o];simp),if_pos HNC.o,<- HS.o,HM.o,hpd])
    obtain⟨dneg,ddig,dexp⟩:=dv;unfold sA;rw[hpd];simp only[gC,S8];obtain⟨dx,hdx⟩:∃ dx:ByteArray,dx=⟨ddig.toArray⟩:=⟨_,rfl⟩;rw[<- hdx];have HDX:=lh hdx;clear hdx hpd;go_wp2_with fail;refine HQ.o _ _ (fK HE.o rfl (HF5.o.setL (k:=2) (vs:=[.bool dneg,.string dx,.int .i64 dexp]) (.inl (by simp))) ?_);have hb9:=((HB5.o.set_ 2 (.bool dneg)).set_ 3 (.string dx)).set_ 4 (.int .i64 dexp);rw[HDX.o] at hb9 ⊢;exact hb9
  | false=>
   have HFG:=lh hfg;go_wp2_with fail;refine(kJ c _).mono ?_;rintro e w2 ⟨rfl,rfl⟩;rw[hfg];clear hfg
   cases h45:((c.toNat:Int) == 45) with
   | true=>
    have c45:c.toNat=45:=by have:=eq_of_beq h45;omega
    by_cases hl1:1 < s.size
    ·have d1:decide (1 < (s.size:Int))=true:=dT (by omega)
     obtain⟨d,ds,hcs⟩:∃ d ds,cs=d :: ds:=by
      have h9:=HZ.o
      match cs,h9 with
      | [],h9=>simp at h9;omega
      | d :: ds,_=>exact⟨d,ds,rfl⟩
     have hx1:=rA (s:=s) (i:=1) (c:=d) (by rw[HS.o,hcs];rfl) .i64;rw[show((1:Nat):Int)=1 from rfl] at hx1
     cases hfd:yA d with
     | true=>
      have HNC:Hid ((yA c || (c.toNat == 45 && vF cs))=true):=lh (by rw[HFG.o,c45,hcs];simp[vF,hfd]);clear hcs c45;go_wp2_with fail;refine(kJ d _).mono ?_;rintro e w2 ⟨rfl,rfl⟩;rw[hfd];clear hfd hx1;go_wp2_with fail;refine(bT s (by omega)).mono ?_;rintro e w3 ⟨rfl,hf3⟩;obtain⟨m,hm⟩:∃ m,vA none (aA s)=m:=⟨_,rfl⟩
      have hm1:1<=m:=by
       rw[<- hm,HS.o];unfold vA;rw[if_pos]
       ·omega
       ·have h9:=HNC.o
        cases hfc:yA c
        ·rw[hfc] at h9
         simp at h9
         simp[h9.1,gG]
        ·simp
      have hms:m<=s.size:=by rw[<- hm,<- cA];exact tK _ _
      rw[hm];have hb3:=HB.o.fr hf3;have HB3:=lh hb3;have HF3:=lh hf3;have HM:=lh hm;have g0:=hb3.free 0;have e0:=hb3.at_ (i:=0) rfl;clear hf3 hm hb3;obtain⟨t,hext⟩:∃ t,s.extract 0 m=t:=⟨_,rfl⟩;have HT:Hid (aA t=(aA s).take m):=lh (by rw[<- hext,lC];simp);have htz:t.size<=s.size:=by rw[lA HT.o,List.length_take,cA];omega
      go_wp2_with fail;have hb4:=HB3.o.set_ 0 (.int .i64 3);have hf4:Fr [b] w (w3.setCell ⟨b,0,none⟩ (.int .i64 3)):=((HF3.o.mono (by simp)):Fr [b] w w3).setCell (.inl (by simp)) _;simp only[List.set_cons_zero] at hb4;generalize w3.setCell ⟨b,0,none⟩ (.int .i64 3)=w4 at *;have HB4:=lh hb4;have HF4:=lh hf4;clear hb4 hf4 g0 e0;refine(jV t (by omega)).mono ?_;rintro e w5 ⟨rfl,hf5⟩;have hb5:=HB4.o.fr hf5;have HB5:=lh hb5;have HF5:=lh (HF4.o.trans hf5);have g2:=hb5.free 2;have g3:=hb5.free 3;have g4:=hb5.free 4;have e2:=hb5.at_ (i:=2) rfl;have e3:=hb5.at_ (i:=3) rfl;have e4:=hb5.at_ (i:=4) rfl;clear hf5 hb5 hext;rw[HT.o];have dm:((m:Int) == 0)=false:=by rw[beq_eq_false_iff_ne];omega
      cases hpd:fE ((aA s).take m) with
      | error er=>
       have hne:=tO hpd
       have HE:Hid (zB (aA s)=.error er):=lh (by
        rw[HS.o,zB,if_neg (by rw[HBG.o];simp),if_pos HNC.o,<- HS.o,HM.o,hpd])
       have HNE:=lh hne;have der:(er == 0)=false:=by rw[beq_eq_false_iff_ne];exact hne
       unfold sA;rw[hpd];simp only[gC,Dcm.zero,S8];clear hpd hne;go_wp2_with fail;exact HQ.o _ _ (nI HE.o HNE.o (HF5.o.setL (vs:=[.bool false,.string { data:=#[] },.int .i64 0]) (.inl (by simp))))
      | ok dv=>
       have HE:Hid (zB (aA s)=.ok (3,[],dv,m)):=lh (by
        rw[HS.o,zB,if_neg (by rw[HBG.o];simp),if_pos HNC.o,<- HS.o,HM.o,hpd])
       obtain⟨dneg,ddig,dexp⟩:=dv;unfold sA;rw[hpd];simp only[gC,S8];obtain⟨dx,hdx⟩:∃ dx:ByteArray,dx=⟨ddig.toArray⟩:=⟨_,rfl⟩;rw[<- hdx];have HDX:=lh hdx;clear hdx hpd;go_wp2_with fail;refine HQ.o _ _ (fK HE.o rfl (HF5.o.setL (k:=2) (vs:=[.bool dneg,.string dx,.int .i64 dexp]) (.inl (by simp))) ?_);have hb9:=((HB5.o.set_ 2 (.bool dneg)).set_ 3 (.string dx)).set_ 4 (.int .i64 dexp);rw[HDX.o] at hb9 ⊢;exact hb9
     | false=>
      have HNC:Hid ((yA c || (c.toNat == 45 && vF cs))=false):=lh (by rw[HFG.o,hcs];simp[vF,hfd]);have hq1:((c.toNat:Int) == 39)=false:=by rw[c45];rfl
      have hq2:((c.toNat:Int) == 34)=false:=by rw[c45];rfl
      clear hcs c45;go_wp2_with fail;refine(kJ d _).mono ?_;rintro e w2 ⟨rfl,rfl⟩;rw[hfd];clear hfd hx1;go_wp2_with fail;refine(cT s c cs HS.o).mono ?_;rintro e w3 ⟨rfl,hf3⟩;obtain⟨m,hm⟩:∃ m,kF (aA s)=m:=⟨_,rfl⟩;have hms:m<=s.size:=by rw[<- hm,<- cA];exact(jM _).1
      rw[hm];have HB3:=lh (HB.o.fr hf3);have HF3:=lh hf3;have HM:=lh hm
      have HQN:Hid ((c.toNat == 39 || c.toNat == 34)=false):=lh (by
       have e1:(c.toNat == 39)=false:=by rw[beq_eq_false_iff_ne];intro e;rw[e] at hq1;cases hq1
       have e2:(c.toNat == 34)=false:=by rw[beq_eq_false_iff_ne];intro e;rw[e] at hq2;cases hq2
       rw[e1,e2];rfl)
      clear hf3 hm;obtain⟨t,hext⟩:∃ t,s.extract 0 m=t:=⟨_,rfl⟩;have HT:Hid (aA t=(aA s).take m):=lh (by rw[<- hext,lC];simp);have g0:=HB3.o.free 0;have g1:=HB3.o.free 1;have e0:=HB3.o.at_ (i:=0) rfl;have e1:=HB3.o.at_ (i:=1) rfl;go_upto_region 4 with fail
      refine mA (fun _=>True) [0,1,2,3,4,5,6,8,9] (by kernel_rfl) ?_;refine tks [0,1,2,3,4,5,6] ?_
      iterate 7 (refine tk rfl rfl trivial rfl (fun _ _=>by go_simp <;> with_reducible rfl) ?_;simp only[nrm])
      refine tke ?_;refine iC (j:=7) none rfl rfl (by kernel_rfl) rfl fun K hK=>?_;refine pC (w':=w3.drew.setCell ⟨b,0,none⟩ (.int .i64 4)) (by go_simp) (hK _ _ (fun _=>trivial) ?_);simp only[Act.put];clear hK;refine tks [8,9] ?_
      iterate 2 (refine tk rfl rfl trivial rfl (fun _ _=>by go_simp <;> with_reducible rfl) ?_;simp only[nrm])
      refine tke ?_;refine iC (j:=10) none rfl rfl (by kernel_rfl) rfl fun K hK=>?_;refine pC (w':=(w3.drew.setCell ⟨b,0,none⟩ (.int .i64 4)).setCell ⟨b,1,none⟩ (.string t)) (by go_simp) (hK _ _ (fun _=>trivial) ?_);simp only[Act.put];clear hK;refine wd ?_ _;have hb9:Blk ((w3.drew.setCell ⟨b,0,none⟩ (.int .i64 4)).setCell ⟨b,1,none⟩ (.string t)) b 95 [.int .i64 4,.string t,.bool false,.string { data:=#[] },.int .i64 0,frm,til]:=((HB3.o.drew).set_ 0 _).set_ 1 _;have hf9:Fr [b] w ((w3.drew.setCell ⟨b,0,none⟩ (.int .i64 4)).setCell ⟨b,1,none⟩ (.string t)):=((((HF3.o.mono (by simp)):Fr [b] w w3).drew).setCell (.inl (by simp)) _).setCell (.inl (by simp)) _;generalize (w3.drew.setCell ⟨b,0,none⟩ (.int .i64 4)).setCell ⟨b,1,none⟩ (.string t)=w9 at *;have HB9:=lh hb9;have HF9:=lh hf9;have hme:t=⟨((aA s).take m).toArray⟩:=tF (by rw[HT.o];rfl);have HME:=lh hme;clear hb9 hf9 hext hme
      by_cases hm0:m=0
      ·have HE:Hid (zB (aA s)=.error 2):=lh (by
        rw[HS.o,zB,if_neg (by rw[HBG.o];simp),if_neg (by rw[HNC.o];simp),if_neg (by rw[HQN.o];simp),if_pos (by rw[<- HS.o,HM.o,hm0])])
       have dm:((m:Int) == 0)=true:=by rw[hm0];rfl
       go_wp2_with fail;exact HQ.o _ _ (nI HE.o (by omega) HF9.o)
      ·have HE:Hid (zB (aA s)=.ok (4,(aA s).take m,.zero,m)):=lh (by
        rw[HS.o,zB,if_neg (by rw[HBG.o];simp),if_neg (by rw[HNC.o];simp),if_neg (by rw[HQN.o];simp),if_neg (by rw[<- HS.o,HM.o];exact hm0),<- HS.o,HM.o])
       have dm:((m:Int) == 0)=false:=by rw[beq_eq_false_iff_ne];omega
       go_wp2_with fail;exact HQ.o _ _ (fK HE.o rfl HF9.o (by have h:=HB9.o;rw[HME.o] at h;exact h))
    ·have d1:decide (1 < (s.size:Int))=false:=dF (by omega)
     have HNC:Hid ((yA c || (c.toNat == 45 && vF cs))=false):=lh (by
      have h9:=HZ.o;have:cs=[]:=List.eq_nil_of_length_eq_zero (by omega);rw[HFG.o,this];simp[vF])
     have hq1:((c.toNat:Int) == 39)=false:=by rw[c45];rfl
     have hq2:((c.toNat:Int) == 34)=false:=by rw[c45];rfl
     clear c45;go_wp2_with fail;refine(cT s c cs HS.o).mono ?_;rintro e w3 ⟨rfl,hf3⟩;obtain⟨m,hm⟩:∃ m,kF (aA s)=m:=⟨_,rfl⟩;have hms:m<=s.size:=by rw[<- hm,<- cA];exact(jM _).1
     rw[hm];have HB3:=lh (HB.o.fr hf3);have HF3:=lh hf3;have HM:=lh hm
     have HQN:Hid ((c.toNat == 39 || c.toNat == 34)=false):=lh (by
      have e1:(c.toNat == 39)=false:=by rw[beq_eq_false_iff_ne];intro e;rw[e] at hq1;cases hq1
      have e2:(c.toNat == 34)=false:=by rw[beq_eq_false_iff_ne];intro e;rw[e] at hq2;cases hq2
      rw[e1,e2];rfl)
     clear hf3 hm;obtain⟨t,hext⟩:∃ t,s.extract 0 m=t:=⟨_,rfl⟩;have HT:Hid (aA t=(aA s).take m):=lh (by rw[<- hext,lC];simp);have g0:=HB3.o.free 0;have g1:=HB3.o.free 1;have e0:=HB3.o.at_ (i:=0) rfl;have e1:=HB3.o.at_ (i:=1) rfl;go_upto_region 4 with fail
     refine mA (fun _=>True) [0,1,2,3,4,5,6,8,9] (by kernel_rfl) ?_;refine tks [0,1,2,3,4,5,6] ?_
     iterate 7 (refine tk rfl rfl trivial rfl (fun _ _=>by go_simp <;> with_reducible rfl) ?_;simp only[nrm])
     refine tke ?_;refine iC (j:=7) none rfl rfl (by kernel_rfl) rfl fun K hK=>?_;refine pC (w':=w3.drew.setCell ⟨b,0,none⟩ (.int .i64 4)) (by go_simp) (hK _ _ (fun _=>trivial) ?_);simp only[Act.put];clear hK;refine tks [8,9] ?_
     iterate 2 (refine tk rfl rfl trivial rfl (fun _ _=>by go_simp <;> with_reducible rfl) ?_;simp only[nrm])
     refine tke ?_;refine iC (j:=10) none rfl rfl (by kernel_rfl) rfl fun K hK=>?_;refine pC (w':=(w3.drew.setCell ⟨b,0,none⟩ (.int .i64 4)).setCell ⟨b,1,none⟩ (.string t)) (by go_simp) (hK _ _ (fun _=>trivial) ?_);simp only[Act.put];clear hK;refine wd ?_ _;have hb9:Blk ((w3.drew.setCell ⟨b,0,none⟩ (.int .i64 4)).setCell ⟨b,1,none⟩ (.string t)) b 95 [.int .i64 4,.string t,.bool false,.string { data:=#[] },.int .i64 0,frm,til]:=((HB3.o.drew).set_ 0 _).set_ 1 _;have hf9:Fr [b] w ((w3.drew.setCell ⟨b,0,none⟩ (.int .i64 4)).setCell ⟨b,1,none⟩ (.string t)):=((((HF3.o.mono (by simp)):Fr [b] w w3).drew).setCell (.inl (by simp)) _).setCell (.inl (by simp)) _;generalize (w3.drew.setCell ⟨b,0,none⟩ (.int .i64 4)).setCell ⟨b,1,none⟩ (.string t)=w9 at *;have HB9:=lh hb9;have HF9:=lh hf9;have hme:t=⟨((aA s).take m).toArray⟩:=tF (by rw[HT.o];rfl);have HME:=lh hme;clear hb9 hf9 hext hme
     by_cases hm0:m=0
     ·have HE:Hid (zB (aA s)=.error 2):=lh (by
       rw[HS.o,zB,if_neg (by rw[HBG.o];simp),if_neg (by rw[HNC.o];simp),if_neg (by rw[HQN.o];simp),if_pos (by rw[<- HS.o,HM.o,hm0])])
      have dm:((m:Int) == 0)=true:=by rw[hm0];rfl
      go_wp2_with fail;exact HQ.o _ _ (nI HE.o (by omega) HF9.o)
     ·have HE:Hid (zB (aA s)=.ok (4,(aA s).take m,.zero,m)):=lh (by
       rw[HS.o,zB,if_neg (by rw[HBG.o];simp),if_neg (by rw[HNC.o];simp),if_neg (by rw[HQN.o];simp),if_neg (by rw[<- HS.o,HM.o];exact hm0),<- HS.o,HM.o])
      have dm:((m:Int) == 0)=false:=by rw[beq_eq_false_iff_ne];omega
      go_wp2_with fail;exact HQ.o _ _ (fK HE.o rfl HF9.o (by have h:=HB9.o;rw[HME.o] at h;exact h))
   | false=>
    have HNC:Hid ((yA c || (c.toNat == 45 && vF cs))=false):=lh (by
     have:(c.toNat == 45)=false:=by
      rw[beq_eq_false_iff_ne];intro e;rw[e] at h45;cases h45
     rw[HFG.o,this];rfl)
    cases hq1:((c.toNat:Int) == 39) with
    | true=>
     have HQT:Hid ((c.toNat == 39 || c.toNat == 34)=true/\c.toNat < 128):=lh (by have:=eq_of_beq hq1;have e:c.toNat=39:=(by omega);rw[e];exact⟨rfl,by omega⟩);have hb3:=HB.o;have g0:=hb3.free 0;have e0:=hb3.at_ (i:=0) rfl;clear hb3;go_wp2_with fail;have hb4:=HB.o.set_ 0 (.int .i64 2);have hf4:Fr [b] w (w.setCell ⟨b,0,none⟩ (.int .i64 2)):=(Fr.refl [b] w).setCell (.inl (by simp)) _;simp only[List.set_cons_zero] at hb4;generalize w.setCell ⟨b,0,none⟩ (.int .i64 2)=w4 at *;have HB4:=lh hb4;have HF4:=lh hf4;clear hb4 hf4 g0 e0;refine(pY s c cs HS.o hz HQT.o.2).mono ?_;rintro e w5 ⟨rfl,hf5⟩;have hb5:=HB4.o.fr hf5;have HB5:=lh hb5;have HF5:=lh (HF4.o.trans hf5);have g1:=hb5.free 1;have e1:=hb5.at_ (i:=1) rfl;clear hf5 hb5
     cases htt:rH (aA s) with
     | none=>
      have HE:Hid (zB (aA s)=.error 2):=lh (by
       rw[HS.o,zB,if_neg (by rw[HBG.o];simp),if_neg (by rw[HNC.o];simp),if_pos HQT.o.1,<- HS.o,htt])
      simp only[nY];clear htt;go_wp2_with fail;exact HQ.o _ _ (nI HE.o (by omega) (HF5.o.setCell (p:=⟨b,1,none⟩) (.inl (by simp)) _))
     | some y=>
      obtain⟨o,m⟩:=y
      have HE:Hid (zB (aA s)=.ok (2,o,.zero,m)):=lh (by
       rw[HS.o,zB,if_neg (by rw[HBG.o];simp),if_neg (by rw[HNC.o];simp),if_pos HQT.o.1,<- HS.o,htt])
      have hm1:=wS htt;obtain⟨mi,hmi⟩:∃ mi:Int,(m:Int)=mi:=⟨_,rfl⟩;have dm:(mi == 0)=false:=bF (by omega)
      have HMI:=lh hmi;simp only[nY,S8];rw[hmi];obtain⟨ox,hox⟩:∃ ox:ByteArray,ox=⟨o.toArray⟩:=⟨_,rfl⟩;rw[<- hox];have HOX:=lh hox;clear htt hmi hm1 hox;go_wp2_with fail;refine HQ.o _ _ (fK HE.o HMI.o.symm (HF5.o.setCell (p:=⟨b,1,none⟩) (.inl (by simp)) _) ?_);have hb9:=HB5.o.set_ 1 (.string ox);rw[HOX.o] at hb9 ⊢;exact hb9
    | false=>
     cases hq2:((c.toNat:Int) == 34) with
     | true=>
      have HQT:Hid ((c.toNat == 39 || c.toNat == 34)=true/\c.toNat < 128):=lh (by have:=eq_of_beq hq2;have e:c.toNat=34:=(by omega);rw[e];exact⟨rfl,by omega⟩);have hb3:=HB.o;have g0:=hb3.free 0;have e0:=hb3.at_ (i:=0) rfl;clear hb3;go_wp2_with fail;have hb4:=HB.o.set_ 0 (.int .i64 2);have hf4:Fr [b] w (w.setCell ⟨b,0,none⟩ (.int .i64 2)):=(Fr.refl [b] w).setCell (.inl (by simp)) _;simp only[List.set_cons_zero] at hb4;generalize w.setCell ⟨b,0,none⟩ (.int .i64 2)=w4 at *;have HB4:=lh hb4;have HF4:=lh hf4;clear hb4 hf4 g0 e0;refine(pY s c cs HS.o hz HQT.o.2).mono ?_;rintro e w5 ⟨rfl,hf5⟩;have hb5:=HB4.o.fr hf5;have HB5:=lh hb5;have HF5:=lh (HF4.o.trans hf5);have g1:=hb5.free 1;have e1:=hb5.at_ (i:=1) rfl;clear hf5 hb5
      cases htt:rH (aA s) with
      | none=>
       have HE:Hid (zB (aA s)=.error 2):=lh (by
        rw[HS.o,zB,if_neg (by rw[HBG.o];simp),if_neg (by rw[HNC.o];simp),if_pos HQT.o.1,<- HS.o,htt])
       simp only[nY];clear htt;go_wp2_with fail;exact HQ.o _ _ (nI HE.o (by omega) (HF5.o.setCell (p:=⟨b,1,none⟩) (.inl (by simp)) _))
      | some y=>
       obtain⟨o,m⟩:=y
       have HE:Hid (zB (aA s)=.ok (2,o,.zero,m)):=lh (by
        rw[HS.o,zB,if_neg (by rw[HBG.o];simp),if_neg (by rw[HNC.o];simp),if_pos HQT.o.1,<- HS.o,htt])
       have hm1:=wS htt;obtain⟨mi,hmi⟩:∃ mi:Int,(m:Int)=mi:=⟨_,rfl⟩;have dm:(mi == 0)=false:=bF (by omega)
       have HMI:=lh hmi;simp only[nY,S8];rw[hmi];obtain⟨ox,hox⟩:∃ ox:ByteArray,ox=⟨o.toArray⟩:=⟨_,rfl⟩;rw[<- hox];have HOX:=lh hox;clear htt hmi hm1 hox;go_wp2_with fail;refine HQ.o _ _ (fK HE.o HMI.o.symm (HF5.o.setCell (p:=⟨b,1,none⟩) (.inl (by simp)) _) ?_);have hb9:=HB5.o.set_ 1 (.string ox);rw[HOX.o] at hb9 ⊢;exact hb9
     | false=>
      go_wp2_with fail;refine(cT s c cs HS.o).mono ?_;rintro e w3 ⟨rfl,hf3⟩;obtain⟨m,hm⟩:∃ m,kF (aA s)=m:=⟨_,rfl⟩;have hms:m<=s.size:=by rw[<- hm,<- cA];exact(jM _).1
      rw[hm];have HB3:=lh (HB.o.fr hf3);have HF3:=lh hf3;have HM:=lh hm
      have HQN:Hid ((c.toNat == 39 || c.toNat == 34)=false):=lh (by
       have e1:(c.toNat == 39)=false:=by rw[beq_eq_false_iff_ne];intro e;rw[e] at hq1;cases hq1
       have e2:(c.toNat == 34)=false:=by rw[beq_eq_false_iff_ne];intro e;rw[e] at hq2;cases hq2
       rw[e1,e2];rfl)
      clear hf3 hm;obtain⟨t,hext⟩:∃ t,s.extract 0 m=t:=⟨_,rfl⟩;have HT:Hid (aA t=(aA s).take m):=lh (by rw[<- hext,lC];simp);have g0:=HB3.o.free 0;have g1:=HB3.o.free 1;have e0:=HB3.o.at_ (i:=0) rfl;have e1:=HB3.o.at_ (i:=1) rfl;go_upto_region 4 with fail
      refine mA (fun _=>True) [0,1,2,3,4,5,6,8,9] (by kernel_rfl) ?_;refine tks [0,1,2,3,4,5,6] ?_
      iterate 7 (refine tk rfl rfl trivial rfl (fun _ _=>by go_simp <;> with_reducible rfl) ?_;simp only[nrm])
      refine tke ?_;refine iC (j:=7) none rfl rfl (by kernel_rfl) rfl fun K hK=>?_;refine pC (w':=w3.drew.setCell ⟨b,0,none⟩ (.int .i64 4)) (by go_simp) (hK _ _ (fun _=>trivial) ?_);simp only[Act.put];clear hK;refine tks [8,9] ?_
      iterate 2 (refine tk rfl rfl trivial rfl (fun _ _=>by go_simp <;> with_reducible rfl) ?_;simp only[nrm])
      refine tke ?_;refine iC (j:=10) none rfl rfl (by kernel_rfl) rfl fun K hK=>?_;refine pC (w':=(w3.drew.setCell ⟨b,0,none⟩ (.int .i64 4)).setCell ⟨b,1,none⟩ (.string t)) (by go_simp) (hK _ _ (fun _=>trivial) ?_);simp only[Act.put];clear hK;refine wd ?_ _;have hb9:Blk ((w3.drew.setCell ⟨b,0,none⟩ (.int .i64 4)).setCell ⟨b,1,none⟩ (.string t)) b 95 [.int .i64 4,.string t,.bool false,.string { data:=#[] },.int .i64 0,frm,til]:=((HB3.o.drew).set_ 0 _).set_ 1 _;have hf9:Fr [b] w ((w3.drew.setCell ⟨b,0,none⟩ (.int .i64 4)).setCell ⟨b,1,none⟩ (.string t)):=((((HF3.o.mono (by simp)):Fr [b] w w3).drew).setCell (.inl (by simp)) _).setCell (.inl (by simp)) _;generalize (w3.drew.setCell ⟨b,0,none⟩ (.int .i64 4)).setCell ⟨b,1,none⟩ (.string t)=w9 at *;have HB9:=lh hb9;have HF9:=lh hf9;have hme:t=⟨((aA s).take m).toArray⟩:=tF (by rw[HT.o];rfl);have HME:=lh hme;clear hb9 hf9 hext hme
      by_cases hm0:m=0
      ·have HE:Hid (zB (aA s)=.error 2):=lh (by
        rw[HS.o,zB,if_neg (by rw[HBG.o];simp),if_neg (by rw[HNC.o];simp),if_neg (by rw[HQN.o];simp),if_pos (by rw[<- HS.o,HM.o,hm0])])
       have dm:((m:Int) == 0)=true:=by rw[hm0];rfl
       go_wp2_with fail;exact HQ.o _ _ (nI HE.o (by omega) HF9.o)
      ·have HE:Hid (zB (aA s)=.ok (4,(aA s).take m,.zero,m)):=lh (by
        rw[HS.o,zB,if_neg (by rw[HBG.o];simp),if_neg (by rw[HNC.o];simp),if_neg (by rw[HQN.o];simp),if_neg (by rw[<- HS.o,HM.o];exact hm0),<- HS.o,HM.o])
       have dm:((m:Int) == 0)=false:=by rw[beq_eq_false_iff_ne];omega
       go_wp2_with fail;exact HQ.o _ _ (fK HE.o rfl HF9.o (by have h:=HB9.o;rw[HME.o] at h;exact h))
theorem aCj (s:ByteArray) (w:World):Calls Tryz.prog 66 #[.string s,.string { data:=#[9,10,13,32] }] w fun e w'=>∃ t,e=.returned (.string t)/\aA t=(aA s).dropWhile lD/\Fr [] w w':=by
 refine(wQ s nW (by decide) (by decide) w).mono ?_;rintro e w' ⟨t,rfl,ht,hf⟩;exact⟨t,rfl,by rw[ht,aAr],hf⟩
def aBC (w:World) (a:Nat) (l:List UInt8) (e:Ending) (w':World):Prop:=
 Fr [] w w'/\match vE a l with
 | .error er=>e=.returned (.tuple #[.agg #[.int .i64 0,.string { data:=#[] },.bool false,.string { data:=#[] },.int .i64 0,.int .i64 0,.int .i64 0],.int .i64 er])/\er ≠ 0
 | .ok t=>e=.returned (.tuple #[.agg t.vals.toArray,.int .i64 0])
theorem nM {w w':World} {a:Nat} {l:List UInt8} {er:Int} (h:vE a l=.error er) (he:er ≠ 0) (hf:Fr [] w w'):aBC w a l (.returned (.tuple #[.agg #[.int .i64 0,.string { data:=#[] },.bool false,.string { data:=#[] },.int .i64 0,.int .i64 0,.int .i64 0],.int .i64 er])) w':=by
 refine⟨hf,?_⟩;rw[h];exact⟨rfl,he⟩
theorem qL {w w':World} {a:Nat} {l:List UInt8} {t:Tkn} {vs:List Value} (h:vE a l=.ok t) (hv:vs=t.vals) (hf:Fr [] w w'):aBC w a l (.returned (.tuple #[.agg vs.toArray,.int .i64 0])) w':=by
 refine⟨hf,?_⟩;rw[h,hv]
theorem vP:(Tryz.prog.info? 95).map (·.size)=some 7:=by kernel_rfl
theorem aDx {w:World} (s:ByteArray) (a:Nat) (ha:a<=s.size) (hz:s.size<=100000):Calls Tryz.prog 38 #[.string s,.int .i64 (a:Int)] w (aBC w a ((aA s).drop a)):=by
 refine bA fun R HQ=>?_;obtain⟨sp,hsp,hsl⟩:=mD s a ha;have HSP:=lh hsp;have d0:decide ((a:Int) < 0)=false:=dF (by omega)
 have d1:decide ((s.size:Int) < (a:Int))=false:=dF (by omega)
 clear hsp;have hb4:=Blk.new w 95 [.int .i64 0,.string { data:=#[] },.bool false,.string { data:=#[] },.int .i64 0,.int .i64 0,.int .i64 0];have hf4:=(Fr.refl [] w).alloc (.cells #[.int .i64 0,.string { data:=#[] },.bool false,.string { data:=#[] },.int .i64 0,.int .i64 0,.int .i64 0] 95);have HB4:=lh hb4;have HF4:=lh hf4;clear hb4 hf4
 go_enter Tryz.func38,Tryz.ntmps38
 go_wp2_with fail;refine(aCj sp _).mono ?_;rintro e w1 ⟨t,rfl,ht,hf1⟩;rw[HSP.o] at ht;have hb1:=HB4.o.fr hf1;have HB1:=lh hb1;have HF1:=lh (HF4.o.trans hf1);have HT:=lh ht;have hts:t.size<=s.size - a:=by rw[lA ht];have:=cE lD ((aA s).drop a);rw[List.length_drop,cA] at this;exact this
 obtain⟨fm,hfm⟩:∃ fm,s.size - t.size=fm:=⟨_,rfl⟩;have w1':IntKind.i64.wrap ((s.size:Int) - (t.size:Int))=(fm:Int):=by rw[IntKind.wrap_i64];omega
 have w1'':(s.size:Int) - (t.size:Int)=(fm:Int):=by omega
 have HFM:Hid (fm=a+(((aA s).drop a).length - (((aA s).drop a).dropWhile lD).length)):=lh (by rw[<- ht,List.length_drop,cA,cA];omega);have hlt1:=hb1.lt;have HFE:=lh hfm;clear hf1 hb1 ht hfm hsl;have hsn:=gE t
 cases htb:aA t with
 | nil=>
  have ht0:t={ data:=#[] }:=tF (by rw[htb];rfl);have hfs:s.size=fm:=by have h9:t.size=0:=lA htb;have:=HFE.o;omega
  have HE:Hid (vE a ((aA s).drop a)=.ok ⟨0,[],.zero,fm,fm⟩):=lh (by
   unfold vE
   simp only
   rw[<- HT.o,htb,HFM.o,<- HT.o,htb])
  rw[<- hfs] at HE;subst ht0;clear htb HT hts hsn hfs HFM HFE w1' w1'';have z0:=HB1.o.at_ (i:=0) rfl;have z1:=HB1.o.at_ (i:=1) rfl;have z2:=HB1.o.at_ (i:=2) rfl;have z3:=HB1.o.at_ (i:=3) rfl;have z4:=HB1.o.at_ (i:=4) rfl;have z5:=HB1.o.at_ (i:=5) rfl;have z6:=HB1.o.at_ (i:=6) rfl;have zf:=HB1.o.free;go_wp2_with fail;have hb9:=(HB1.o.setL (vs:=[.int .i64 0,.string { data:=#[] },.bool false,.string { data:=#[] },.int .i64 0,.int .i64 (s.size:Int),.int .i64 (s.size:Int)]) rfl).alloc (.cells #[.int .i64 0,.string { data:=#[] },.bool false,.string { data:=#[] },.int .i64 0,.int .i64 (s.size:Int),.int .i64 (s.size:Int)] 95);have hf9:=(HF1.o.setL (g:=w.heap.size) (k:=0) (vs:=[.int .i64 0,.string { data:=#[] },.bool false,.string { data:=#[] },.int .i64 0,.int .i64 (s.size:Int),.int .i64 (s.size:Int)]) (.inr (Nat.le_refl _))).alloc (.cells #[.int .i64 0,.string { data:=#[] },.bool false,.string { data:=#[] },.int .i64 0,.int .i64 (s.size:Int),.int .i64 (s.size:Int)] 95);exact bodyPost_ret (fA rfl rfl hb9 Tryz.underlying95 rfl vP) rfl (HQ.o _ _ (qL HE.o rfl hf9))
 | cons c cs=>
  have hte:(t.toList == ([]:List UInt8))=false:=by rw[hsn,htb];rfl
  have HTB:=lh htb;have hba:=HB1.o.alloc (.cells #[.int .i64 0,.string { data:=#[] },.bool false,.string { data:=#[] },.int .i64 0,.int .i64 (fm:Int),.int .i64 (fm:Int)] 95);have hfa:=HF1.o.alloc (.cells #[.int .i64 0,.string { data:=#[] },.bool false,.string { data:=#[] },.int .i64 0,.int .i64 (fm:Int),.int .i64 (fm:Int)] 95);have hta:=Blk.new w1 95 [.int .i64 0,.string { data:=#[] },.bool false,.string { data:=#[] },.int .i64 0,.int .i64 (fm:Int),.int .i64 (fm:Int)];have HBA:=lh hba;have HFA:=lh hfa;have HRD:=lh (aDw t c cs htb (by omega) hta);clear htb hsn hba hfa hta;go_wp2_with fail;refine HRD.o.mono ?_;rintro e w2 ⟨hf2,hr2⟩;have hb2:=HBA.o.fr hf2 (by simp;omega);have hF2:Fr [] w w2:=HFA.o.trans hf2 (fun x hx=>.inr (by have:=HF1.o.size;simp at hx;omega));have HB2:=lh hb2;have HF2:=lh hF2;clear hb2 hF2 hf2 HRD
  cases hrt:zB (aA t) with
  | error er=>
   rw[hrt] at hr2;obtain⟨n,rfl,hne⟩:=hr2
   have HE:Hid (vE a ((aA s).drop a)=.error er):=lh (by
    unfold vE
    simp only
    rw[<- HT.o,HTB.o]
    simp only
    rw[<- HTB.o,hrt])
   have hne':(er != 0)=true:=by rw[bne_iff_ne];exact hne
   have HNE:=lh hne;clear hrt hne;have z0:=HB2.o.at_ (i:=0) rfl;have z1:=HB2.o.at_ (i:=1) rfl;have z2:=HB2.o.at_ (i:=2) rfl;have z3:=HB2.o.at_ (i:=3) rfl;have z4:=HB2.o.at_ (i:=4) rfl;have z5:=HB2.o.at_ (i:=5) rfl;have z6:=HB2.o.at_ (i:=6) rfl;have zf:=HB2.o.free;go_wp2_with fail;exact bodyPost_ret (fA rfl rfl (HB2.o.setL (vs:=[.int .i64 0,.string { data:=#[] },.bool false,.string { data:=#[] },.int .i64 0,.int .i64 0,.int .i64 0]) rfl) Tryz.underlying95 rfl vP) rfl (HQ.o _ _ (nM HE.o HNE.o (HF2.o.setL (g:=w.heap.size) (k:=0) (vs:=[.int .i64 0,.string { data:=#[] },.bool false,.string { data:=#[] },.int .i64 0,.int .i64 0,.int .i64 0]) (.inr (Nat.le_refl _)))))
  | ok y=>
   obtain⟨k,st,num,m⟩:=y;rw[hrt] at hr2;obtain⟨rfl,hbt⟩:=hr2;have hms:=(zX hrt).2.1;rw[cA] at hms
   have HE:Hid (vE a ((aA s).drop a)=.ok ⟨k,st,num,fm,fm+m⟩):=lh (by
    unfold vE
    simp only
    rw[<- HT.o,HTB.o]
    simp only
    rw[<- HTB.o,hrt,HFM.o,<- HT.o])
   have HBT:=lh hbt;have htf:=HFE.o;have hne:¬ w.heap.size=w1.heap.size:=by omega
   have hne2:¬ w1.heap.size=w.heap.size:=by omega
   obtain⟨tl,htl⟩:∃ tl,fm+m=tl:=⟨_,rfl⟩;have v1:IntKind.i64.wrap ((fm:Int)+(m:Int))=(tl:Int):=by rw[IntKind.wrap_i64];omega
   have v2:(fm:Int)+(m:Int)=(tl:Int):=by omega
   rw[htl] at HE;obtain⟨dneg,ddig,dexp⟩:=num;obtain⟨sv,hsv⟩:∃ sv,S8 st=.string sv:=⟨_,rfl⟩;obtain⟨dv,hdv⟩:∃ dv,S8 ddig=.string dv:=⟨_,rfl⟩;rw[hsv,hdv] at HBT;have HSV:=lh hsv;have HDV:=lh hdv;clear hrt hbt htl htf hsv hdv hts;have y0:=HBT.o.at_ (i:=0) rfl;have y1:=HBT.o.at_ (i:=1) rfl;have y2:=HBT.o.at_ (i:=2) rfl;have y3:=HBT.o.at_ (i:=3) rfl;have y4:=HBT.o.at_ (i:=4) rfl;have y5:=HBT.o.at_ (i:=5) rfl;have y6:=HBT.o.at_ (i:=6) rfl;have yf:=HBT.o.free;have z0:=HB2.o.at_ (i:=0) rfl;have z1:=HB2.o.at_ (i:=1) rfl;have z2:=HB2.o.at_ (i:=2) rfl;have z3:=HB2.o.at_ (i:=3) rfl;have z4:=HB2.o.at_ (i:=4) rfl;have z5:=HB2.o.at_ (i:=5) rfl;have z6:=HB2.o.at_ (i:=6) rfl;have zf:=HB2.o.free;go_wp2_with fail;have hb9:=(HB2.o.far (p:=⟨w1.heap.size,6,none⟩) hne (.int .i64 (tl:Int))).setL (vs:=[.int .i64 (k:Int),.string sv,.bool dneg,.string dv,.int .i64 dexp,.int .i64 (fm:Int),.int .i64 (tl:Int)]) rfl;have hf9:=(HF2.o.setCell (p:=⟨w1.heap.size,6,none⟩) (.inr HF1.o.size) (.int .i64 (tl:Int))).setL (g:=w.heap.size) (k:=0) (vs:=[.int .i64 (k:Int),.string sv,.bool dneg,.string dv,.int .i64 dexp,.int .i64 (fm:Int),.int .i64 (tl:Int)]) (.inr (Nat.le_refl _));exact bodyPost_ret (fA rfl rfl hb9 Tryz.underlying95 rfl vP) rfl (HQ.o _ _ (qL HE.o (by rw[<- HSV.o,<- HDV.o];rfl) hf9))
end
end Go.Proofs.YtbggkiebfflcdaaGreatDoor
