/-
  Joined by join.py: Fd Ec Fz Fe
-/
import Derived.Test.YtbggkiebfflcdaaGreatDoorJpp4
set_option maxRecDepth 100000
set_option maxHeartbeats 32000000
namespace Go.Proofs.YtbggkiebfflcdaaGreatDoor
section
open Go.RowKit Go.Shelf
theorem rA {s:ByteArray} {i:Nat} {c:UInt8} (h:(aA s)[i]? = some c) (k:IntKind) (W:World):(Instr.index 9 (.string s) (.int k (i:Int))).run Tryz.prog W=.ok (.int .u8 (c.toNat:Int)) W:=by
 have hi:i < s.size:=by rw[<- cA];exact(List.getElem?_eq_some_iff.1 h).1
 rw[run_index_string W 9 s k (i:Int) Tryz.underlying9,dif_pos ⟨by omega,by omega⟩];have h2:=kI s hi;rw[h] at h2;injection h2 with h2;rw[h2]
 rfl
theorem mD (s:ByteArray) (i:Nat) (h:i<=s.size):∃ t,aA t=(aA s).drop i/\∀ (k:IntKind) (W:World),(Instr.slice 9 (.string s) (some (.int k (i:Int))) none none).run Tryz.prog W=.ok (.string t) W:=by
 refine⟨s.extract i s.size,?_,fun k W=>?_⟩
 ·rw[lC,List.take_of_length_le (by rw[List.length_drop,cA];omega)]
 ·rw[run_slice_string_l W 9 s Tryz.underlying9 k (i:Int) (by omega) (by omega)]
  rfl
theorem lM (s:ByteArray) (i:Nat) (h:i<=s.size):∃ t,aA t=(aA s).take i/\∀ (k:IntKind) (W:World),(Instr.slice 9 (.string s) none (some (.int k (i:Int))) none).run Tryz.prog W=.ok (.string t) W:=by
 refine⟨s.extract 0 i,?_,fun k W=>?_⟩
 ·rw[lC];simp
 ·rw[run_slice_string_h W 9 s Tryz.underlying9 k (i:Int) (by omega) (by omega)]
  rfl
theorem wQ (s:ByteArray) (cs:List UInt8) (hl:cs.length < 100) (ha:cs.all (fun b=>decide (b.toNat < 128))=true) (w:World):Calls Tryz.prog 66 #[.string s,.string ⟨cs.toArray⟩] w fun e w'=>∃ t,e=.returned (.string t)/\aA t=Lib.trimLeftS (aA s) cs/\Fr [] w w':=by
 refine(Any.strings_TrimLeft_laid Tryz.lays161 (by kernel_rfl) s ⟨cs.toArray⟩ w (by simp[ByteArray.size];omega) (ascii_of_all ha)).mono ?_;rintro e w' ⟨rfl,hb⟩;exact⟨_,rfl,rfl,Fr.of_below hb []⟩
theorem mM {w:World} (s:ByteArray) (hs:s.size<=1000000):Calls Tryz.prog 157 #[.string s] w fun e w'=>∃ a b,e=.returned (.tuple #[.string a,.string b])/\aA a=(aA s).takeWhile yA/\aA b=(aA s).dropWhile yA/\Fr [] w w':=by
 refine bA fun R HQ=>?_
 go_enter Tryz.func157,Tryz.ntmps157
 go_wp2_with fail;refine(wQ s aS (by decide) (by decide) _).mono ?_;rintro e w1 ⟨t,rfl,ht,hf⟩;rw[eY] at ht;have HF:=lh hf;have hts:=lA ht;have hle:=cE yA (aA s);rw[cA] at hle;obtain⟨a,ha,hsl⟩:=lM s (s.size - t.size) (by omega);have HA:Hid (aA a=(aA s).takeWhile yA):=lh (by rw[ha,nP,cA,hts]);have HT:=lh ht;have hsl1:=fun W=>hsl .i64 W;rw[show((s.size - t.size:Nat):Int)=(s.size:Int) - (t.size:Int) by omega] at hsl1;have htl:t.size<=s.size:=by omega
 clear hf ht ha hsl hts hle;go_wp2_with fail;exact HQ.o _ _ ⟨_,_,rfl,HA.o,HT.o,HF.o⟩
theorem aGY (c:UInt8):(bits .or .u8 (c.toNat:Int) 32 != 101) = !eB c:=eq_of_beq (qD (fun c=>(bits .or .u8 (c.toNat:Int) 32 != 101) == !eB c) (by decide +kernel) c)
theorem gE (s:ByteArray):(s.toList == ([]:List UInt8))=(aA s).isEmpty:=by
 rw[ByteArray.toList_eq];unfold aA
 cases s.data.toList <;> rfl
theorem aAs {s:ByteArray} (h:aA s=[]):s={ data:=#[] }:=tF h
theorem zS (s:ByteArray) (c:UInt8) (w:World):Calls Tryz.prog 155 #[.string s,.string { data:=#[c] }] w fun e w'=>e=.returned (.bool (jA c (aA s)))/\w=w':=by
 refine(Tryz.strings_HasPrefix s { data:=#[c] } w).mono ?_;rintro e w' ⟨rfl,rfl⟩;refine⟨?_,rfl⟩
 have:Lib.hasPrefix s.data.toList [c]=jA c (aA s):=by
  unfold Lib.hasPrefix jA aA
  cases s.data.toList with
  | nil=>rfl
  | cons x xs=>simp[List.isPrefixOf,Bool.beq_comm]
 rw[<- this]
theorem aF {P:Program} {fn:Func} {tmps:Array Value} {w:World} {k k2 k3:Tmp} (hr:fn.results=#[.tmp k,.tmp k2,.tmp k3]):(results fn tmps).run P w=.ok (.tuple #[tmps.getD k undef,tmps.getD k2 undef,tmps.getD k3 undef]) w:=by
 simp[results,hr,go_sem]
def aGG (w:World) (ds:List UInt8) (v8 v39:Value) (wr:World):Prop:=∃ i n:Nat,i<=ds.length/\v39=.int .i64 (i:Int)/\v8=.int .i64 (n:Int)/\n<=1000000/\dG ds=(ds.drop i).foldl (fun n c=>min (n * 10+(c.toNat - 48)) 1000000) n/\Fr [] w wr
theorem uK (l:List UInt8):dG l<=1000000:=by
 unfold dG;generalize hz:(0:Nat)=z;have:z<=1000000:=by omega
 clear hz
 induction l generalizing z with
 | nil=>exact this
 | cons c cs ih=>rw[List.foldl_cons];exact ih _ (Nat.min_le_right _ _)
theorem rP {w:World} (s:ByteArray) (hs:s.size<=1000000):Calls Tryz.prog 158 #[.string s] w fun e w'=>∃ t,e=.returned (.tuple #[.int .i64 (rI (aA s)).1,.string t,.bool (rI (aA s)).2.2])/\aA t=(rI (aA s)).2.1/\Fr [] w w':=by
 refine bA fun R HQ=>?_;have hsn:=gE s
 cases hb:aA s with
 | nil=>
  obtain rfl:=aAs hb;rw[hb] at HQ;clear hsn
  go_enter Tryz.func158,Tryz.ntmps158
  go_wp2_with fail;refine bodyPost_ret (aF rfl) rfl ?_;exact HQ.o _ _ ⟨{ data:=#[] },rfl,rfl,Fr.refl _ _⟩
 | cons c cs=>
  have hx:=rA (s:=s) (i:=0) (c:=c) (by rw[hb];rfl) .i64;rw[show((0:Nat):Int)=0 from rfl] at hx;rw[hb] at HQ hsn;rw[show(c :: cs).isEmpty=false from rfl] at hsn;have ho:=aGY c
  cases he:eB c with
  | false=>
   have HE:Hid (rI (c :: cs)=(0,c :: cs,true)):=lh (by simp[rI,he]);have HB:=lh hb;rw[he] at ho;clear he hb
   go_enter Tryz.func158,Tryz.ntmps158
   go_wp2_with fail;rw[HE.o] at HQ;refine bodyPost_ret (aF rfl) rfl ?_;exact HQ.o _ _ ⟨s,rfl,HB.o,Fr.refl _ _⟩
  | true=>
   rw[he] at ho;have hz:s.size=cs.length+1:=by rw[lA hb];simp
   obtain⟨s1,hs1,hsl1⟩:=mD s 1 (by omega);rw[hb] at hs1;have hs1':aA s1=cs:=hs1;have hz1:=lA hs1';have HS1:=lh hs1';have hsl:=hsl1 .i64;rw[show((1:Nat):Int)=1 from rfl] at hsl;have HEB:=lh he;clear he hb hs1 hs1' hsl1
   go_enter Tryz.func158,Tryz.ntmps158
   go_wp2_with fail;refine(zS s1 45 _).mono ?_;rintro e w1 ⟨rfl,rfl⟩;rw[HS1.o]
   cases hm:jA 45 cs with
   | true=>
    obtain⟨r,hr,hq,hzr⟩:∃ r,(if (jA 45 cs || jA 43 cs)=true then cs.drop 1 else cs)=r/\cs.drop 1=r/\1<=s1.size:=by
     refine⟨_,rfl,by rw[hm];rfl,?_⟩;rw[hz1]
     cases cs with
     | nil=>simp[jA] at hm
     | cons x xs=>simp
    have HR:=lh hr;obtain⟨s2,hs2,hsl3⟩:=mD s1 1 hzr;have hsl4:=hsl3 .i64;rw[show((1:Nat):Int)=1 from rfl] at hsl4;have hz2:s2.size<=1000000:=by rw[lA hs2,HS1.o,List.length_drop];omega
    have HS2:Hid (aA s2=r):=lh (by rw[hs2,HS1.o,hq]);have HM:=lh hm;clear hs2 hsl3 hr hq hm hx hsl;go_wp2_with fail;refine(mM s2 hz2).mono ?_;rintro e w2 ⟨ta,tb,rfl,hta,htb,hf2⟩;rw[HS2.o] at hta htb;have HTB:=lh htb;have HF2:=lh hf2
    have hza:ta.size<=1000000:=by
     rw[lA hta];have:=mC yA r;have h5:=lA HS2.o;omega
    obtain⟨C,w3,hcv,hC,hba,hf3⟩:=nK w2 ta (by omega);have HF3:=lh (hf2.trans hf3);have hta2:=gE ta;rw[hta] at hta2 hba;have HTA:=lh hta;obtain⟨ds,hds⟩:∃ ds,r.takeWhile yA=ds:=⟨_,rfl⟩;have hfig:∀ c ∈ ds,yA c=true:=by rw[<- hds];exact fun c hc=>List.all_eq_true.1 List.all_takeWhile c hc
    rw[hds] at hta2 hba;have hdl:ta.size=ds.length:=by rw[lA hta,hds]
    rw[hdl] at hcv hba;obtain⟨dn,hdn⟩:∃ dn,ds.length=dn:=⟨_,rfl⟩;rw[hdn] at hcv hba hdl;have HBA:=lh hba;have HFIG:=lh hfig;have HDS:=lh hds;have HDN:=lh hdn;clear hf2 hta htb hba hf3 hfig hds hdl;obtain⟨bb,hbb⟩:∃ bb,ds.isEmpty=bb:=⟨_,rfl⟩;rw[hbb] at hta2;have HBB:=lh hbb;clear hbb;have hdn2:dn<=C:=by obtain⟨_,_,_,h1,h2,_⟩:=HBA.o;injection h1 with _ e2 e3;omega
    go_wp2_with fail;clear hcv
    go_loopw [8,39] (fun v8 v39 wr=>aGG w3 ds v8 v39 wr) (fun _ v39 _=>dn - (intOf v39).toNat)
    case atStart=>exact⟨0,0,by omega,rfl,rfl,by omega,rfl,Fr.refl _ _⟩
    case round=>
     obtain⟨i,n,hi,rfl,rfl,hn,hfo,hf⟩:=hrel;have HFO:=lh hfo;have HF:=lh hf;rw[HDN.o] at hi;clear hfo hf
     by_cases hid:i < dn
     ·obtain⟨u,hu⟩:∃ u,ds[i]? = some u:=gx (by rw[HDN.o];exact hid);have huf:=mK (HFIG.o u (List.mem_of_getElem? hu));obtain⟨hu1,hu2,_⟩:=huf
      have cu:wr.cell? ⟨w2.heap.size,i,none⟩=some (.int .u8 (u.toNat:Int)):=by
       obtain⟨A,c',off,e1,e2,e3⟩:=HBA.o;injection e1 with e4 e5 e6;obtain⟨e7,e8⟩:=e3 (by rw[HDN.o];omega);rw[e7] at e4;injection e4 with e4;injection e4 with e9 e10;have h1:=e8 i (B8 u) (by rw[iJ,hu];rfl);rw[<- e10,Nat.zero_add] at h1;rw[HF.o.cell (World.block_lt_of_cell? w3 _ h1) (by simp)];exact h1
      have HD:Hid (ds.drop i=u :: ds.drop (i+1)):=lh (xA hu);have d0:decide ((i:Int) < (dn:Int))=true:=dT (by omega)
      have b1:IntKind.u8.wrap ((u.toNat:Int) - 48)=((u.toNat - 48:Nat):Int):=by rw[IntKind.wrap_u8];omega
      have HFO2:Hid (dG ds=(ds.drop (i+1)).foldl (fun n c=>min (n * 10+(c.toNat - 48)) 1000000) (min (n * 10+(u.toNat - 48)) 1000000)):=lh (by rw[HFO.o,HD.o];rfl);clear hu;go_wp2_with fail
      go_roundw
      case rel=>exact⟨i+1,_,by rw[HDN.o];omega,by go_num,(by congr 1;omega),Nat.min_le_right _ _,HFO2.o,HF.o⟩
      case measure=>simp[intOf];omega
     ·have hi2:i=dn:=by omega
      have d0:decide ((i:Int) < (dn:Int))=false:=dF (by omega)
      have hns:n=dG ds:=by rw[HFO.o,List.drop_of_length_le (by rw[HDN.o];omega)];rfl
      have HEX:Hid (rI (c :: cs)=(-(n:Int),r.dropWhile yA,!bb)):=lh (by
       unfold rI
       simp only
       rw[if_pos HEB.o];rw[HR.o,HM.o,HDS.o,HBB.o,<- hns]
       rfl)
      have hnn:IntKind.i64.wrap (-(n:Int)) = -(n:Int):=by rw[IntKind.wrap_i64];omega
      clear hi2 hns;go_wp2_with fail;refine bodyPost_ret (aF rfl) rfl ?_;refine HQ.o _ _ ⟨tb,?_,?_,HF3.o.trans HF.o⟩
      ·rw[HEX.o];rfl
      ·rw[HEX.o];exact HTB.o
   | false=>
    have HM:=lh hm;clear hm;go_wp2_with fail;refine(zS s1 43 _).mono ?_;rintro e w1 ⟨rfl,rfl⟩;rw[HS1.o]
    cases hp:jA 43 cs
    case' true=>
     obtain⟨r,hr,hq,hzr⟩:∃ r,(if (jA 45 cs || jA 43 cs)=true then cs.drop 1 else cs)=r/\cs.drop 1=r/\1<=s1.size:=by
      refine⟨_,rfl,by rw[hp,HM.o];rfl,?_⟩;rw[hz1]
      cases cs with
      | nil=>simp[jA] at hp
      | cons x xs=>simp
     have HR:=lh hr;obtain⟨s2,hs2,hsl3⟩:=mD s1 1 hzr;have hsl4:=hsl3 .i64;rw[show((1:Nat):Int)=1 from rfl] at hsl4;have hz2:s2.size<=1000000:=by rw[lA hs2,HS1.o,List.length_drop];omega
     have HS2:Hid (aA s2=r):=lh (by rw[hs2,HS1.o,hq]);clear hs2 hsl3 hr hq hp hx hsl;go_wp2_with fail;refine(mM s2 hz2).mono ?_
    case' false=>
     obtain⟨r,hr,hq⟩:∃ r,(if (jA 45 cs || jA 43 cs)=true then cs.drop 1 else cs)=r/\cs=r:=⟨_,rfl,by rw[hp,HM.o];rfl⟩;have HR:=lh hr;have hz2:s1.size<=1000000:=by omega
     have HS2:Hid (aA s1=r):=lh (by rw[HS1.o,hq]);clear hr hq hp hx hsl;go_wp2_with fail;refine(mM s1 hz2).mono ?_
    all_goals
     rintro e w2 ⟨ta,tb,rfl,hta,htb,hf2⟩;rw[HS2.o] at hta htb;have HTB:=lh htb;have HF2:=lh hf2
     have hza:ta.size<=1000000:=by
      rw[lA hta];have:=mC yA r;have h5:=lA HS2.o;omega
     obtain⟨C,w3,hcv,hC,hba,hf3⟩:=nK w2 ta (by omega);have HF3:=lh (hf2.trans hf3);have hta2:=gE ta;rw[hta] at hta2 hba;have HTA:=lh hta;obtain⟨ds,hds⟩:∃ ds,r.takeWhile yA=ds:=⟨_,rfl⟩;have hfig:∀ c ∈ ds,yA c=true:=by rw[<- hds];exact fun c hc=>List.all_eq_true.1 List.all_takeWhile c hc
     rw[hds] at hta2 hba;have hdl:ta.size=ds.length:=by rw[lA hta,hds]
     rw[hdl] at hcv hba;obtain⟨dn,hdn⟩:∃ dn,ds.length=dn:=⟨_,rfl⟩;rw[hdn] at hcv hba hdl;have HBA:=lh hba;have HFIG:=lh hfig;have HDS:=lh hds;have HDN:=lh hdn;clear hf2 hta htb hba hf3 hfig hds hdl;obtain⟨bb,hbb⟩:∃ bb,ds.isEmpty=bb:=⟨_,rfl⟩;rw[hbb] at hta2;have HBB:=lh hbb;clear hbb;have hdn2:dn<=C:=by obtain⟨_,_,_,h1,h2,_⟩:=HBA.o;injection h1 with _ e2 e3;omega
     go_wp2_with fail;clear hcv
     go_loopw [8,39] (fun v8 v39 wr=>aGG w3 ds v8 v39 wr) (fun _ v39 _=>dn - (intOf v39).toNat)
     case atStart=>exact⟨0,0,by omega,rfl,rfl,by omega,rfl,Fr.refl _ _⟩
     case round=>
      obtain⟨i,n,hi,rfl,rfl,hn,hfo,hf⟩:=hrel;have HFO:=lh hfo;have HF:=lh hf;rw[HDN.o] at hi;clear hfo hf
      by_cases hid:i < dn
      ·obtain⟨u,hu⟩:∃ u,ds[i]? = some u:=gx (by rw[HDN.o];exact hid);have huf:=mK (HFIG.o u (List.mem_of_getElem? hu));obtain⟨hu1,hu2,_⟩:=huf
       have cu:wr.cell? ⟨w2.heap.size,i,none⟩=some (.int .u8 (u.toNat:Int)):=by
        obtain⟨A,c',off,e1,e2,e3⟩:=HBA.o;injection e1 with e4 e5 e6;obtain⟨e7,e8⟩:=e3 (by rw[HDN.o];omega);rw[e7] at e4;injection e4 with e4;injection e4 with e9 e10;have h1:=e8 i (B8 u) (by rw[iJ,hu];rfl);rw[<- e10,Nat.zero_add] at h1;rw[HF.o.cell (World.block_lt_of_cell? w3 _ h1) (by simp)];exact h1
       have HD:Hid (ds.drop i=u :: ds.drop (i+1)):=lh (xA hu);have d0:decide ((i:Int) < (dn:Int))=true:=dT (by omega)
       have b1:IntKind.u8.wrap ((u.toNat:Int) - 48)=((u.toNat - 48:Nat):Int):=by rw[IntKind.wrap_u8];omega
       have HFO2:Hid (dG ds=(ds.drop (i+1)).foldl (fun n c=>min (n * 10+(c.toNat - 48)) 1000000) (min (n * 10+(u.toNat - 48)) 1000000)):=lh (by rw[HFO.o,HD.o];rfl);clear hu;go_wp2_with fail
       go_roundw
       case rel=>exact⟨i+1,_,by rw[HDN.o];omega,by go_num,(by congr 1;omega),Nat.min_le_right _ _,HFO2.o,HF.o⟩
       case measure=>simp[intOf];omega
      ·have hi2:i=dn:=by omega
       have d0:decide ((i:Int) < (dn:Int))=false:=dF (by omega)
       have hns:n=dG ds:=by rw[HFO.o,List.drop_of_length_le (by rw[HDN.o];omega)];rfl
       have HEX:Hid (rI (c :: cs)=((n:Int),r.dropWhile yA,!bb)):=lh (by
        unfold rI
        simp only
        rw[if_pos HEB.o];rw[HR.o,HM.o,HDS.o,HBB.o,<- hns]
        rfl)
       have hnn:IntKind.i64.wrap (-(n:Int)) = -(n:Int):=by rw[IntKind.wrap_i64];omega
       clear hi2 hns;go_wp2_with fail;refine bodyPost_ret (aF rfl) rfl ?_;refine HQ.o _ _ ⟨tb,?_,?_,HF3.o.trans HF.o⟩
       ·rw[HEX.o];rfl
       ·rw[HEX.o];exact HTB.o
end
section
open Go.RowKit
inductive CAt (w:World) (N:Nat -> Prop):Cl -> Value -> Prop
 | leaf (v:Value) (h:v.oneCell'=true):CAt w N (.leaf v) v
 | rows (k:Nat) (l:List (List Cl)) (A:Option Addr) (c g off:Nat) (css:Nat -> List Value) (hk:0 < k) (hc:l.length<=c) (hA:0 < l.length -> A=some ⟨g,off,none⟩/\N g)
   (hlen:∀ row ∈ l,row.length=k)
   (hcell:∀ i,i < l.length -> (css i).length=k/\∀ j u,(css i)[j]? = some u -> w.cell? ⟨g,off+k * i+j,none⟩=some u)
   (hsub:∀ (i:Nat) (row:List Cl) (j:Nat) (x:Cl) (u:Value),l[i]? = some row -> row[j]? = some x -> (css i)[j]? = some u -> CAt w N x u):CAt w N (.rows k l) (.slice A l.length c)
def gA (w:World) (N:Nat -> Prop) (row:List Cl) (cs:List Value):Prop:=
 cs.length=row.length/\∀ (j:Nat) (x:Cl) (u:Value),row[j]? = some x -> cs[j]? = some u -> CAt w N x u
theorem CAt.fr {S:List Nat} {w w':World} {N:Nat -> Prop} {x:Cl} {v:Value} (h:CAt w N x v) (hf:Fr S w w') (hN:∀ g,N g -> g ∉ S:=by simp):CAt w' N x v:=by
 induction h with
 | leaf v h=>exact .leaf v h
 | rows k l A c g off css hk hc hA hlen hcell hsub ih=>
  refine .rows k l A c g off css hk hc hA hlen (fun i hi=>⟨(hcell i hi).1,fun j u hj=>?_⟩) ih;have h1:=(hcell i hi).2 j u hj;rw[hf.cell (World.block_lt_of_cell? w _ h1) (hN g (hA (by omega)).2)];exact h1
theorem CAt.mono {w:World} {N M:Nat -> Prop} {x:Cl} {v:Value} (h:CAt w N x v) (hN:∀ g,N g -> M g):CAt w M x v:=by
 induction h with
 | leaf v h=>exact .leaf v h
 | rows k l A c g off css hk hc hA hlen hcell hsub ih=>exact .rows k l A c g off css hk hc (fun h=>⟨(hA h).1,hN g (hA h).2⟩) hlen hcell ih
theorem CAt.bound {w:World} {N:Nat -> Prop} {x:Cl} {v:Value} (h:CAt w N x v):CAt w (fun g=>N g/\g < w.heap.size) x v:=by
 induction h with
 | leaf v h=>exact .leaf v h
 | rows k l A c g off css hk hc hA hlen hcell hsub ih=>
  refine .rows k l A c g off css hk hc (fun h0=>⟨(hA h0).1,(hA h0).2,?_⟩) hlen hcell ih;obtain⟨h6,hc6⟩:=hcell 0 h0
  match hcs:css 0,h6 with
  | [],h=>simp at h;omega
  | u :: us,_=>exact World.block_lt_of_cell? w _ (hc6 0 u (by rw[hcs];rfl))
theorem CAt.one {w:World} {N:Nat -> Prop} {x:Cl} {v:Value} (h:CAt w N x v):v.oneCell'=true:=by
 cases h with
 | leaf _ h=>exact h
 | rows=>rfl
theorem CAt.leaf_inv {w:World} {N:Nat -> Prop} {a v:Value} (h:CAt w N (.leaf a) v):v=a:=by
 cases h;rfl
theorem CAt.slice {w:World} {N:Nat -> Prop} {k:Nat} {l:List (List Cl)} {v:Value} (h:CAt w N (.rows k l) v):∃ A c,v=.slice A l.length c/\l.length<=c:=by
 cases h with
 | rows _ _ A c g off css hk hc=>exact⟨A,c,rfl,hc⟩
theorem CAt.nil (w:World) (N:Nat -> Prop) {k:Nat} (hk:0 < k) (A:Option Addr) (c:Nat):CAt w N (.rows k []) (.slice A 0 c):=
 .rows k [] A c 0 0 (fun _=>[]) hk (Nat.zero_le _) (fun h=>by simp at h) (fun _ h=>by simp at h) (fun i hi=>by simp at hi) (fun i row j x u h=>by simp at h)
theorem CAt.row {w:World} {N:Nat -> Prop} {k:Nat} {l:List (List Cl)} {v:Value} (h:CAt w N (.rows k l) v):∃ (A:Option Addr) (c g off:Nat),v=.slice A l.length c/\(0 < l.length -> A=some ⟨g,off,none⟩/\N g) /\
  ∀ (i:Nat) (row:List Cl),l[i]? = some row -> row.length=k/\∃ cs,gA w N row cs/\∀ (j:Nat) (u:Value),cs[j]? = some u -> w.cell? ⟨g,off+k * i+j,none⟩=some u:=by
 cases h with
 | rows _ _ A c g off css hk hc hA hlen hcell hsub=>
  refine⟨A,c,g,off,rfl,hA,fun i row hi=>?_⟩;have hl:=(List.getElem?_eq_some_iff.1 hi).1;have hr:=hlen row (List.mem_of_getElem? hi);exact⟨hr,css i,⟨by rw[(hcell i hl).1,hr],fun j x u hx hu=>hsub i row j x u hi hx hu⟩,(hcell i hl).2⟩
theorem gA.fr {S:List Nat} {w w':World} {N:Nat -> Prop} {row:List Cl} {cs:List Value} (h:gA w N row cs) (hf:Fr S w w') (hN:∀ g,N g -> g ∉ S:=by simp):gA w' N row cs:=⟨h.1,fun j x u hx hu=>(h.2 j x u hx hu).fr hf hN⟩
theorem gA.mono {w:World} {N M:Nat -> Prop} {row:List Cl} {cs:List Value} (h:gA w N row cs) (hN:∀ g,N g -> M g):gA w M row cs:=⟨h.1,fun j x u hx hu=>(h.2 j x u hx hu).mono hN⟩
theorem gA.bound {w:World} {N:Nat -> Prop} {row:List Cl} {cs:List Value} (h:gA w N row cs):gA w (fun g=>N g/\g < w.heap.size) row cs:=⟨h.1,fun j x u hx hu=>(h.2 j x u hx hu).bound⟩
theorem gA.one {w:World} {N:Nat -> Prop} {row:List Cl} {cs:List Value} (h:gA w N row cs):∀ u ∈ cs,u.oneCell'=true:=by
 intro u hu;obtain⟨j,hj⟩:=List.mem_iff_getElem?.1 hu;have hlt:=(List.getElem?_eq_some_iff.1 hj).1;have hr:=List.getElem?_eq_getElem (l:=row) (i:=j) (by have:=h.1;omega);exact(h.2 j _ u hr hj).one
theorem gA.nil (w:World) (N:Nat -> Prop):gA w N [] []:=⟨rfl,fun j x u h=>by simp at h⟩
theorem gA.cons {w:World} {N:Nat -> Prop} {x:Cl} {row:List Cl} {v:Value} {cs:List Value} (hx:CAt w N x v) (h:gA w N row cs):gA w N (x :: row) (v :: cs):=by
 refine⟨by simp[h.1],fun j y u hy hu=>?_⟩
 cases j with
 | zero=>simp at hy hu;subst hy hu;exact hx
 | succ j=>simp at hy hu;exact h.2 j y u hy hu
theorem gA.inv {w:World} {N:Nat -> Prop} {x:Cl} {row:List Cl} {cs:List Value} (h:gA w N (x :: row) cs):∃ v cs',cs=v :: cs'/\CAt w N x v/\gA w N row cs':=by
 match cs,h with
 | [],h=>exact absurd h.1 (by simp)
 | v :: cs',h=>exact⟨v,cs',rfl,h.2 0 x v rfl rfl,by have:=h.1;simp at this;exact this,fun j y u hy hu=>h.2 (j+1) y u (by simpa using hy) (by simpa using hu)⟩
theorem gA.lf {w:World} {N:Nat -> Prop} {a:Value} {row:List Cl} {cs:List Value} (h:gA w N (.leaf a :: row) cs):∃ cs',cs=a :: cs'/\gA w N row cs':=by
 obtain⟨v,cs',rfl,h1,h2⟩:=h.inv;rw[h1.leaf_inv];exact⟨cs',rfl,h2⟩
theorem gA.nil_inv {w:World} {N:Nat -> Prop} {cs:List Value} (h:gA w N [] cs):cs=[]:=List.eq_nil_of_length_eq_zero h.1
theorem gA.tl {w:World} {N:Nat -> Prop} {a:Value} (h:a.oneCell'=true) {row:List Cl} {cs:List Value} (hr:gA w N row cs):gA w N (.leaf a :: row) (a :: cs):=.cons (.leaf a h) hr
theorem CAt.of_blk {w:World} {N:Nat -> Prop} {row:List Cl} {cs:List Value} {g k:Nat} {t:TypeId} (hb:Blk w g t cs) (hp:gA w N row cs) (hk:row.length=k) (h0:0 < k) (hg:N g):CAt w N (.rows k [row]) (.slice (some ⟨g,0,none⟩) 1 1):=by
 refine .rows k [row] _ 1 g 0 (fun _=>cs) h0 (Nat.le_refl _) (fun _=>⟨rfl,hg⟩) (fun r hr=>by simp at hr;subst hr;exact hk) (fun i hi=>⟨hp.1.trans hk,fun j u hj=>?_⟩) (fun i r j x u h1 h2 h3=>?_)
 ·have:i=0:=by simpa using hi
  subst this
  simpa using hb.at_ hj
 ·obtain⟨hi,rfl⟩:=List.getElem?_eq_some_iff.1 h1;have:i=0:=by simpa using hi
  subst this;exact hp.2 j x u h2 h3
def iF (w:World) (lo:Nat) (t:TypeId) (k:Nat) (v:Value) (l:List (List Cl)):Prop:=
 ∃ css:List (List Value),css.length=l.length/\w.ownsRow 0 t k v l.length css.flatten/\(∀ x,v.ownBlock=some x -> lo<=x) /\
  ∀ (i:Nat) (q:List Cl) (cs:List Value),l[i]? = some q -> css[i]? = some cs -> q.length=k/\gA w (fun g=>lo<=g/\v.ownBlock ≠ some g/\g < w.heap.size) q cs
theorem iF.nil (w:World) (lo:Nat) (t:TypeId) (k:Nat):iF w lo t k (.slice none 0 0) []:=⟨[],rfl,sG _ _ _ _,by simp[Value.ownBlock],fun i q cs h=>by simp at h⟩
theorem iF.fr {S:List Nat} {w w':World} {lo:Nat} {t:TypeId} {k:Nat} {v:Value} {l:List (List Cl)} (h:iF w lo t k v l) (hf:Fr S w w') (hS:∀ x ∈ S,x < lo ∨ w.heap.size<=x:=by simp):iF w' lo t k v l:=by
 obtain⟨css,h1,h2,h3,h4⟩:=h;refine⟨css,h1,sB h2 hf (fun g hg hm=>?_),h3,fun i q cs hq hc=>⟨(h4 i q cs hq hc).1,((h4 i q cs hq hc).2.fr hf (fun g hg hm=>?_)).mono (fun g hg=>⟨hg.1,hg.2.1,by have:=hf.size;omega⟩)⟩⟩
 ·have:=h3 g hg;have:=iL h2 g hg;rcases hS g hm with h | h <;> omega
 ·rcases hS g hm with h | h <;> omega
theorem iF.lt {w:World} {lo:Nat} {t:TypeId} {k:Nat} {v:Value} {l:List (List Cl)} (h:iF w lo t k v l):∀ g,v.ownBlock=some g -> g < w.heap.size:=by
 obtain⟨css,h1,h2,h3,h4⟩:=h;exact iL h2
theorem iF.slice {w:World} {lo:Nat} {t:TypeId} {k:Nat} {v:Value} {l:List (List Cl)} (h:iF w lo t k v l):∃ A c,v=.slice A l.length c:=by
 obtain⟨css,h1,h2,h3,h4⟩:=h;obtain⟨A,c,hv,_⟩:=jC h2;exact⟨A,c,hv⟩
theorem jS {α:Type} {k:Nat}:∀ (css:List (List α)),(∀ cs ∈ css,cs.length=k) -> ∀ (i:Nat) (cs:List α),css[i]? = some cs -> ∀ (j:Nat),j < k -> css.flatten[k * i+j]? = cs[j]?
 | [],_,i,cs,h,_,_=>by simp at h
 | c :: css,hk,0,cs,h,j,hj=>by
  simp only[List.getElem?_cons_zero,Option.some.injEq] at h;subst h;have hc:=hk c (by simp);rw[List.flatten_cons,Nat.mul_zero,Nat.zero_add,List.getElem?_append_left (by omega)]
 | c :: css,hk,i+1,cs,h,j,hj=>by
  have hc:=hk c (by simp);rw[List.getElem?_cons_succ] at h;have:=jS css (fun x hx=>hk x (List.mem_cons_of_mem _ hx)) i cs h j hj;rw[List.flatten_cons,List.getElem?_append_right (by rw[hc,Nat.mul_succ];omega),hc,show k * (i+1)+j - k=k * i+j by rw[Nat.mul_succ];omega];exact this
theorem iF.cat {w:World} {lo:Nat} {t:TypeId} {k:Nat} {v:Value} {l:List (List Cl)} (h:iF w lo t k v l) (hk0:0 < k):CAt w (fun g=>lo<=g) (.rows k l) v:=by
 obtain⟨css,h1,h2,h3,h4⟩:=h;obtain⟨A,c,rfl,hc,_⟩:=jC h2;have hck:∀ i,i < l.length -> css[i]? = some (css.getD i []):=fun i hi=>by rw[List.getD_eq_getElem?_getD,List.getElem?_eq_getElem (by omega)];rfl
 have hlen:∀ row ∈ l,row.length=k:=fun row hr=>by
  obtain⟨i,hi,rfl⟩:=List.mem_iff_getElem.1 hr;exact(h4 i _ _ (List.getElem?_eq_getElem hi) (hck i hi)).1
 have h6:∀ cs ∈ css,cs.length=k:=fun cs hcs=>by
  obtain⟨i,hi,rfl⟩:=List.mem_iff_getElem.1 hcs;have:=h4 i _ _ (List.getElem?_eq_getElem (by omega)) (List.getElem?_eq_getElem hi);exact this.2.1.trans this.1
 by_cases h0:0 < l.length
 ·obtain⟨g,rfl,hg⟩:=rK h2 h0;refine .rows k l _ c g 0 (fun i=>css.getD i []) hk0 hc (fun _=>⟨rfl,h3 g rfl⟩) hlen (fun i hi=>?_) (fun i q j x u hq hx hu=>?_)
  ·have hci:=hck i hi;have hl:(css.getD i []).length=k:=h6 _ (List.mem_of_getElem? hci);refine⟨hl,fun j u hj=>?_⟩;have hj6:j < k:=by have:=(List.getElem?_eq_some_iff.1 hj).1;omega
   refine hg _ u ?_;rw[Nat.zero_add,jS css h6 i _ hci j hj6];exact hj
  ·have hi:i < l.length:=(List.getElem?_eq_some_iff.1 hq).1;exact((h4 i q _ hq (hck i hi)).2.2 j x u hx hu).mono (fun g hg=>hg.1)
 ·have hl0:l=[]:=List.eq_nil_of_length_eq_zero (by omega);subst hl0;exact CAt.nil w _ hk0 A c
theorem iF.push {w w3 w7:World} {lo:Nat} {t:TypeId} {k:Nat} {v:Value} {l:List (List Cl)} {p:List Cl} {cs:List Value} {g7 cap H:Nat} (h:iF w lo t k v l) (hf3:Fr [] w w3) (hH:w3.heap.size=H) (hlo:lo<=H) (hpk:p.length=k) (hp:gA w3 (fun g=>lo<=g/\v.ownBlock ≠ some g) p cs)
  (hf7:Fr v.ownBlock.toList w3 w7) (xs:List Value) (ho7:w7.ownsRow 0 t k (.slice (some ⟨g7,0,none⟩) (l.length+1) cap) (l.length+1) (xs ++ cs)) (hxs:w.ownsRow 0 t k v l.length xs) (hat:v.ownBlock=some g7 ∨ g7=H):iF w7 lo t k (.slice (some ⟨g7,0,none⟩) (l.length+1) cap) (l ++ [p]):=by
 obtain⟨css,h1,h2,h3,h4⟩:=h
 have hx:xs=css.flatten:=by
  rcases h2.2 with ⟨hv,hz⟩ | ⟨g,c,cur,hv,_,hh,hn,hc,hs,ht⟩
  ·rcases hxs.2 with ⟨_,hz'⟩ | ⟨g',c',cur',hv',_,_,_,_,_,ht'⟩
   ·have e1:=hxs.1;have e2:=h2.1;rw[hz] at e1 e2;exact(List.eq_nil_of_length_eq_zero (by simpa using e1)).trans (List.eq_nil_of_length_eq_zero (by simpa using e2)).symm
   ·rw[hv] at hv';cases hv'
  ·rcases hxs.2 with ⟨hv',_⟩ | ⟨g',c',cur',hv',_,hh',_,_,_,ht'⟩
   ·rw[hv] at hv';cases hv'
   ·rw[hv] at hv';injection hv' with e1 e2 e3;simp only[Option.some.injEq,Addr.mk.injEq] at e1;obtain⟨rfl,_⟩:=e1;rw[hh] at hh';injection hh' with hh';injection hh' with e4;rw[<- ht,<- ht',e4]
 have hpb:=hp.bound;have hz7:=hf7.size;have hz3:=hf3.size
 have hg7:lo<=g7:=by
  rcases hat with h | h
  ·exact h3 _ h
  ·omega
 refine⟨css ++ [cs],by simp[h1],?_,fun x hx=>?_,fun i q cs' hq hc=>?_⟩
 ·rw[show(l ++ [p]).length=l.length+1 by simp,List.flatten_append,<- hx]
  simpa using ho7
 ·simp[Value.ownBlock] at hx;omega
 ·have hne:∀ g,v.ownBlock ≠ some g -> g < w3.heap.size -> (Value.slice (some ⟨g7,0,none⟩) (l.length+1) cap).ownBlock ≠ some g:=fun g hg hlt e=>by
   have e':g7=g:=by simpa[Value.ownBlock] using e
   rcases hat with h | h
   ·exact hg (e' ▸ h)
   ·omega
  by_cases hi:i < l.length
  ·rw[List.getElem?_append_left hi] at hq;rw[List.getElem?_append_left (by omega)] at hc;refine⟨(h4 i q cs' hq hc).1,(((h4 i q cs' hq hc).2.fr hf3).fr hf7 (fun g hg=>by simpa using hg.2.1)).mono (fun g hg=>⟨hg.1,hne g hg.2.1 (by omega),by omega⟩)⟩
  ·have hil:i=l.length:=by
    have:=(List.getElem?_eq_some_iff.1 hq).1
    simp at this;omega
   subst hil
   simp at hq
   rw[<- h1] at hc
   simp at hc
   subst hq hc;exact⟨hpk,(hpb.fr hf7 (fun g hg=>by simpa using hg.1.2)).mono (fun g hg=>⟨hg.1.1,hne g hg.1.2 hg.2,by omega⟩)⟩
def S8 (l:List UInt8):Value:=.string ⟨l.toArray⟩
def Tkn.vals (t:Tkn):List Value:=[.int .i64 (t.kind:Int),S8 t.s,.bool t.n.neg,S8 t.n.digits,.int .i64 t.n.exp,.int .i64 (t.frm:Int),.int .i64 (t.til:Int)]
def Vlu.cells (v:Vlu):List Cl:=[.leaf (.int .i64 v.kind),.leaf (.bool v.b),.leaf (.bool v.n.neg),.leaf (S8 v.n.digits),.leaf (.int .i64 v.n.exp),.leaf (S8 v.s),v.l,v.m]
mutual
def Qry.cells:Qry -> List Cl
 | .mk rel l=>[.leaf (.bool rel),.rows 2 (jJ l)]
 termination_by structural q=>q
def jJ:List Sgm -> List (List Cl)
 | []=>[]
 | x :: l=>x.cells :: jJ l
 termination_by structural l=>l
def Sgm.cells:Sgm -> List Cl
 | .mk deep l=>[.leaf (.bool deep),.rows 10 (lH l)]
 termination_by structural q=>q
def lH:List Slr -> List (List Cl)
 | []=>[]
 | x :: l=>x.cells :: lH l
 termination_by structural l=>l
def Slr.cells:Slr -> List Cl
 | .mk what name at_ has s f=>[.leaf (.int .i64 what),.leaf (S8 name),.leaf (.int .i64 at_),.leaf (.bool has.1),.leaf (.bool has.2.1),.leaf (.bool has.2.2),.leaf (.int .i64 s.1),.leaf (.int .i64 s.2.1),.leaf (.int .i64 s.2.2),.rows 13 (xF f)]
 termination_by structural q=>q
def xF:List Xpr -> List (List Cl)
 | []=>[]
 | x :: l=>x.cells :: xF l
 termination_by structural l=>l
def Xpr.cells:Xpr -> List Cl
 | .mk what l op q v=>.leaf (.int .i64 what) :: .rows 13 (xF l) :: .leaf (S8 op) :: (q.cells ++ v.cells)
 termination_by structural e=>e
end
def sP (w:World) (g:Nat):Nat -> List Value -> World
 | _,[]=>w
 | k,v :: vs=>sP (w.setCell ⟨g,k,none⟩ v) g (k+1) vs
theorem Blk.setL_ {g:Nat} {t:TypeId}:∀ {vs old pre:List Value} {w:World},Blk w g t (pre ++ old) -> old.length=vs.length -> Blk (sP w g pre.length vs) g t (pre ++ vs)
 | [],old,pre,w,h,hl=>by
  have:old=[]:=List.eq_nil_of_length_eq_zero (by simpa using hl);subst this;exact h
 | v :: vs,[],pre,w,h,hl=>by simp at hl
 | v :: vs,o :: old,pre,w,h,hl=>by
  have h1:=h.set_ pre.length v;rw[show(pre ++ o :: old).set pre.length v=(pre ++ [v]) ++ old by simp] at h1;have h2:=Blk.setL_ (vs:=vs) h1 (by simpa using hl);rw[show(pre ++ [v]).length=pre.length+1 by simp] at h2;have e:pre ++ v :: vs=(pre ++ [v]) ++ vs:=by simp
  rw[e];exact h2
theorem Blk.setL {g:Nat} {t:TypeId} {vs old:List Value} {w:World} (h:Blk w g t old) (hl:old.length=vs.length):Blk (sP w g 0 vs) g t vs:=Blk.setL_ (pre:=[]) h hl
theorem Fr.setL {S:List Nat} {a:World} {g:Nat}:∀ {vs:List Value} {k:Nat} {b:World},Fr S a b -> (g ∈ S ∨ a.heap.size<=g) -> Fr S a (sP b g k vs)
 | [],_,_,h,_=>h
 | v :: vs,k,b,h,hg=>by
  show Fr S a (sP (b.setCell ⟨g,k,none⟩ v) g (k+1) vs)
  have h1:Fr S a (b.setCell ⟨g,k,none⟩ v):=h.setCell (p:=⟨g,k,none⟩) hg v;exact Fr.setL h1 hg
theorem fA {P:Program} {fn:Func} {tmps:Array Value} {w:World} {k k2:Tmp} {t t':TypeId} {g:Nat} {cs:List Value} {d:TypeDesc} (hr:fn.results=#[.cell k t,.tmp k2]) (ha:tmps.getD k undef=.pointer (some ⟨g,0,none⟩)) (hb:Blk w g t' cs)
  (hu:P.underlying t=some d) (hd:d.isRow=true) (hi:(P.info? t).map (·.size)=some cs.length):(results fn tmps).run P w=.ok (.tuple #[.agg cs.toArray,tmps.getD k2 undef]) w:=by
 have hl:=run_loadVar_row (P:=P) w g t' t cs.toArray (0,0) d hb hu (by cases d <;> simp_all) (by simpa using hi);have ha':tmps[k]?.getD undef=.pointer (some ⟨g,0,none⟩):=by simpa using ha
 simp[results,hr,ha',hl,asAddr]
end
section
open Go.RowKit Go.Shelf
def gC (d:Dcm):Value:=.agg #[.bool d.neg,S8 d.digits,.int .i64 d.exp]
theorem aGH (s:ByteArray):Value.string s=S8 (aA s):=rfl
theorem aAt {w:World} (d:Dcm) (hl:d.digits.length<=1000000) (h1:-1000000<=d.exp) (h2:d.exp<=1000000):RV 219 #[gC d] w (.int .i64 d.high):=by
 obtain⟨neg,digits,exp⟩:=d
 simp only at hl h1 h2
 unfold gC S8 Dcm.high
 simp only
 obtain⟨s,hs⟩:∃ s:ByteArray,s=⟨digits.toArray⟩:=⟨_,rfl⟩;have hz:s.size=digits.length:=by rw[hs];simp[ByteArray.size]
 rw[<- hs,<- hz];rw[<- hz] at hl;clear hs hz
 go_enter Tryz.func219,Tryz.ntmps219
 go_wp2_with fail
 go_ret
 refine⟨?_,(Fr.refl _ _).alloc _⟩
 rfl
theorem aDo (s:ByteArray) (w:World) (hs:s.size<=140737488355328):Calls Tryz.prog 218 #[.string s,.string { data:=#[48,49,50,51,52,53,54,55,56,57] }] w fun e w'=>∃ t,e=.returned (.string t)/\aA t=Lib.trimS (aA s) aS/\Fr [] w w':=by
 refine(Any.strings_Trim_laid Tryz.lays160 (by kernel_rfl) s ⟨aS.toArray⟩ w (by omega) (by decide) (ascii_of_all (by decide))).mono ?_;rintro e w' ⟨rfl,hb⟩;exact⟨_,rfl,rfl,Fr.of_below hb []⟩
theorem kY (l:List UInt8):(Lib.trimS l aS).isEmpty=l.all yA:=by
 have:=aDk l
 cases hl:l.all yA
 ·rw[hl] at this
  cases hh:Lib.trimS l aS with
  | nil=>rw[hh] at this;simp at this
  | cons x xs=>rfl
 ·rw[this.2 hl];rfl
theorem iV (c:UInt8):decide (some c ≠ some 48)=((c.toNat:Int) != 48):=eq_of_beq (qD (fun c=>decide (some c ≠ some (48:UInt8)) == ((c.toNat:Int) != 48)) (by decide +kernel) c)
theorem aDp {w:World} (d:Dcm) (hl:d.digits.length<=140737488355328) (h1:-9223372036854775808<=d.exp) (h2:d.exp<=9223372036854775807):RV 194 #[gC d] w (.bool d.sane):=by
 refine bA fun R HQ=>?_;obtain⟨neg,digits,exp⟩:=d
 simp only at hl h1 h2
 unfold gC S8
 simp only
 obtain⟨s,hs⟩:∃ s:ByteArray,s=⟨digits.toArray⟩:=⟨_,rfl⟩;have hz:s.size=digits.length:=by rw[hs];simp[ByteArray.size]
 rw[<- hs];rw[<- hz] at hl
 by_cases h0:s.size=0
 ·have hd0:digits=[]:=List.eq_nil_of_length_eq_zero (by omega);subst hd0;obtain rfl:s={ data:=#[] }:=hs;clear hz h0 hl
  cases neg with
  | true=>
   go_enter Tryz.func194,Tryz.ntmps194
   go_wp2_with fail;exact HQ.o _ _ ⟨by rfl,(Fr.refl _ _).alloc _⟩
  | false=>
   by_cases he:exp=0
   ·subst he
    go_enter Tryz.func194,Tryz.ntmps194
    go_wp2_with fail;exact HQ.o _ _ ⟨by rfl,(Fr.refl _ _).alloc _⟩
   ·have hE:Hid (Dcm.sane ⟨false,[],exp⟩=false):=lh (by unfold Dcm.sane;rw[if_pos rfl,decide_eq_false_iff_not];exact fun h=>he h.2)
    go_enter Tryz.func194,Tryz.ntmps194
    go_wp2_with fail;exact HQ.o _ _ ⟨by rw[hE.o];first | done | rfl,(Fr.refl _ _).alloc _⟩
 ·have hdn:digits ≠ []:=by intro e;subst e;exact h0 (by simpa using hz)
  have hsb:aA s=digits:=by rw[hs];rfl
  have hSN:Hid (Dcm.sane ⟨neg,digits,exp⟩=(decide (digits.length<=40) && digits.all yA && decide (-400<=(digits.length:Int)+exp/\(digits.length:Int)+exp<=400) && decide (digits.head? ≠ some 48) && decide (digits.getLast? ≠ some 48))):=lh (by unfold Dcm.sane Dcm.high;rw[if_neg hdn]);have HS:=lh hsb;have c0:((s.size:Int) == 0)=false:=by rw[beq_eq_false_iff_ne];omega
  have HDV:Hid (gC ⟨neg,digits,exp⟩=.agg #[.bool neg,.string s,.int .i64 exp]):=lh (by unfold gC S8;simp only;rw[<- hs])
  by_cases h40:40 < s.size
  ·have hE:Hid (Dcm.sane ⟨neg,digits,exp⟩=false):=lh (by rw[hSN.o,decide_eq_false (show ¬ digits.length<=40 by omega)];simp);clear hsb hs hz hdn
   go_enter Tryz.func194,Tryz.ntmps194
   go_wp2_with fail;exact HQ.o _ _ ⟨by rw[hE.o];first | done | rfl,(Fr.refl _ _).alloc _⟩
  ·have c1:decide (40 < (s.size:Int))=false:=dF (by omega)
   have HZ:=lh hz;clear hsb hs hz
   go_enter Tryz.func194,Tryz.ntmps194
   go_wp2_with fail;refine(aDo s _ hl).mono ?_;rintro e w1 ⟨t,rfl,ht,hf1⟩;have htn:=gE t;rw[ht,HS.o,kY] at htn;have HF1:=lh ((((Fr.refl [] w).alloc _)).trans hf1);have hb1:Blk w1 w.heap.size 93 [.bool neg,.string s,.int .i64 exp]:=(Blk.new w 93 [.bool neg,.string s,.int .i64 exp]).fr hf1;have k0:=hb1.at_ (i:=0) rfl;have k1:=hb1.at_ (i:=1) rfl;have k2:=hb1.at_ (i:=2) rfl;have HB1:=lh hb1;clear hf1 ht hb1
   cases hall:digits.all yA with
   | false=>
    have hE:Hid (Dcm.sane ⟨neg,digits,exp⟩=false):=lh (by rw[hSN.o,hall];simp);rw[hall] at htn;clear hall;go_wp2_with fail;exact HQ.o _ _ ⟨by rw[hE.o];first | done | rfl,HF1.o⟩
   | true=>
    have HAL:=lh hall;rw[hall] at htn;clear hall
    by_cases he1:exp < -800
    ·have hE:Hid (Dcm.sane ⟨neg,digits,exp⟩=false):=lh (by rw[hSN.o,decide_eq_false (show ¬ (-400<=(digits.length:Int)+exp/\(digits.length:Int)+exp<=400) by have:=HZ.o;omega)];simp);go_wp2_with fail;exact HQ.o _ _ ⟨by rw[hE.o];first | done | rfl,HF1.o⟩
    ·by_cases he2:800 < exp
     ·have hE:Hid (Dcm.sane ⟨neg,digits,exp⟩=false):=lh (by rw[hSN.o,decide_eq_false (show ¬ (-400<=(digits.length:Int)+exp/\(digits.length:Int)+exp<=400) by omega)];simp);have d1:decide (exp < -800)=false:=by rw[decide_eq_false_iff_not];exact he1
      go_wp2_with fail;exact HQ.o _ _ ⟨by rw[hE.o];first | done | rfl,HF1.o⟩
     ·have d1:decide (exp < -800)=false:=by rw[decide_eq_false_iff_not];exact he1
      have d2:decide (800 < exp)=false:=by rw[decide_eq_false_iff_not];exact he2
      go_wp2_with fail;have hhe:=aAt (w:=w1) ⟨neg,digits,exp⟩ (by have:=HZ.o;simp only;omega) (by simp only;omega) (by simp only;omega);rw[HDV.o] at hhe;refine hhe.mono ?_;rintro e w2 ⟨rfl,hf2⟩;obtain⟨h,hh⟩:∃ h,Dcm.high ⟨neg,digits,exp⟩=h:=⟨_,rfl⟩;have hhe:(digits.length:Int)+exp=h:=hh;rw[hh];have hb2:=HB1.o.fr hf2;have m1:=hb2.at_ (i:=1) rfl;have HF2:=lh (HF1.o.trans hf2);have hbn:-400<=h/\h<=400 ↔ -400<=(digits.length:Int)+exp/\(digits.length:Int)+exp<=400:=by rw[hhe]
      have hSN2:Hid (Dcm.sane ⟨neg,digits,exp⟩=(decide (-400<=h/\h<=400) && decide (digits.head? ≠ some 48) && decide (digits.getLast? ≠ some 48))):=lh (by
       rw[hSN.o,HAL.o,hhe,decide_eq_true (show digits.length<=40 by have:=HZ.o;omega)];simp)
      clear hh hhe hbn hf2 hb2 k0 k1 k2
      by_cases g1:-400<=h
      ·by_cases g2:h<=400
       ·obtain⟨c,cs,hc⟩:∃ c cs,digits=c :: cs:=by
         match digits,hdn with
         | c :: cs,_=>exact⟨c,cs,rfl⟩
        have hx0:=rA (s:=s) (i:=0) (c:=c) (by rw[HS.o,hc];rfl) .i64;rw[show((0:Nat):Int)=0 from rfl] at hx0;obtain⟨z,hzl⟩:∃ z,digits.getLast? = some z:=⟨_,List.getLast?_eq_some_getLast hdn⟩;have hx1:=rA (s:=s) (i:=s.size - 1) (c:=z) (by rw[HS.o,HZ.o,<- List.getLast?_eq_getElem?];exact hzl) .i64;rw[show((s.size - 1:Nat):Int)=(s.size:Int) - 1 by omega] at hx1
        have hSN3:Hid (Dcm.sane ⟨neg,digits,exp⟩=(((c.toNat:Int) != 48) && ((z.toNat:Int) != 48))):=lh (by
         rw[hSN2.o,decide_eq_true (⟨g1,g2⟩:-400<=h/\h<=400),hzl];have e1:digits.head? = some c:=by rw[hc];rfl
         rw[e1,iV c,iV z];rfl)
        clear hzl hc
        cases hc48:((c.toNat:Int) != 48) with
        | false=>
         have hE:Hid (Dcm.sane ⟨neg,digits,exp⟩=false):=lh (by rw[hSN3.o,hc48];rfl);go_wp2_with fail;exact HQ.o _ _ ⟨by rw[hE.o];first | done | rfl,HF2.o⟩
        | true=>
         have hE:Hid (Dcm.sane ⟨neg,digits,exp⟩=((z.toNat:Int) != 48)):=lh (by rw[hSN3.o,hc48];rfl);have hs0:0 < s.size:=by omega
         go_wp2_with fail;exact HQ.o _ _ ⟨by rw[hE.o];first | done | rfl,HF2.o⟩
       ·have hE:Hid (Dcm.sane ⟨neg,digits,exp⟩=false):=lh (by rw[hSN2.o,decide_eq_false (fun hh=>g2 hh.2)];simp);go_wp2_with fail;exact HQ.o _ _ ⟨by rw[hE.o];first | done | rfl,HF2.o⟩
      ·have hE:Hid (Dcm.sane ⟨neg,digits,exp⟩=false):=lh (by rw[hSN2.o,decide_eq_false (fun hh=>g1 hh.1)];simp);go_wp2_with fail;exact HQ.o _ _ ⟨by rw[hE.o];first | done | rfl,HF2.o⟩
def wI (neg:Bool) (digits:List UInt8) (exp:Int):Value × Int:=match mG neg digits exp with
 | .ok d=>(gC d,0)
 | .error e=>(gC .zero,e)
theorem lY (p:UInt8 -> Bool) (l:List UInt8):(uC p l).length<=l.length:=by
 unfold uC;rw[List.length_reverse];have:=cE p l.reverse;rw[List.length_reverse] at this;exact this
theorem aCc (s:ByteArray) (w:World) (hs:s.size<=140737488355328):Calls Tryz.prog 193 #[.string s,.string { data:=#[48] }] w fun e w'=>∃ t,e=.returned (.string t)/\aA t=uC qC (aA s)/\Fr [] w w':=by
 refine(Any.strings_TrimRight_laid Tryz.lays162 (by kernel_rfl) s ⟨([48]:List UInt8).toArray⟩ w (by omega) (by decide) (ascii_of_all (by decide))).mono ?_;rintro e w' ⟨rfl,hb⟩;exact⟨_,rfl,aBZ _,Fr.of_below hb []⟩
theorem aCd (s:ByteArray) (w:World):Calls Tryz.prog 66 #[.string s,.string { data:=#[48] }] w fun e w'=>∃ t,e=.returned (.string t)/\aA t=(aA s).dropWhile qC/\Fr [] w w':=by
 refine(wQ s [48] (by decide) (by decide) w).mono ?_;rintro e w' ⟨t,rfl,ht,hf⟩;exact⟨t,rfl,by rw[ht,aBY],hf⟩
theorem tP {w:World} (neg:Bool) (s:ByteArray) (exp:Int) (hs:s.size<=1000000) (h1:-3000000<=exp) (h2:exp<=3000000):RV 159 #[.bool neg,.string s,.int .i64 exp] w (.tuple #[(wI neg (aA s) exp).1,.int .i64 (wI neg (aA s) exp).2]):=by
 refine bA fun R HQ=>?_;have hfz:=(Fr.refl [] w).alloc (.cells #[.bool false,.string { data:=#[] },.int .i64 0] 93);have hbz:=Blk.new w 93 [.bool false,.string { data:=#[] },.int .i64 0];have HFZ:=lh hfz;have HBZ:=lh hbz;clear hfz hbz
 go_enter Tryz.func159,Tryz.ntmps159
 go_wp2_with fail;refine(aCd s _).mono ?_;rintro e w1 ⟨d,rfl,hd,hf1⟩;have HF1:=lh (HFZ.o.trans hf1);have HB1:=lh (HBZ.o.fr hf1);have HD:=lh hd;have hdl:d.size<=s.size:=by rw[lA hd,<- cA];exact cE _ _
 clear hf1 hd;go_wp2_with fail;refine(aCc d _ (by omega)).mono ?_;rintro e w2 ⟨t,rfl,ht,hf2⟩;have HF2:=lh (HF1.o.trans hf2);have HB2:=lh (HB1.o.fr hf2);have HT:=lh ht;have htl:t.size<=d.size:=by rw[lA ht,<- cA];exact lY _ _
 have htn:=gE t;have hbz2:=HB2.o;have z0:=hbz2.at_ (i:=0) rfl;have z1:=hbz2.at_ (i:=1) rfl;have z2:=hbz2.at_ (i:=2) rfl;have zf:=hbz2.free;have HN:Hid (w.heap.size < w2.heap.size):=lh hbz2.lt;clear hf2 ht hbz2
 have hfd:mG neg (aA s) exp=if aA t=[] then .ok .zero else if Dcm.sane ⟨neg,aA t,exp+(d.size:Int) - (t.size:Int)⟩ then .ok ⟨neg,aA t,exp+(d.size:Int) - (t.size:Int)⟩ else .error 4:=by
  unfold mG
  simp only
  rw[<- HD.o,<- HT.o,cA,cA]
 have HFD:=lh hfd;clear hfd
 cases hb:(aA t).isEmpty with
 | true=>
  have HE:Hid (wI neg (aA s) exp=(gC .zero,0)):=lh (by unfold wI;rw[HFD.o,if_pos (List.isEmpty_iff.1 hb)]);rw[hb] at htn;clear hb;go_wp2_with fail;have hb:=HB2.o.setL (vs:=[.bool false,.string { data:=#[] },.int .i64 0]) rfl;exact bodyPost_ret (fA (d:=_) rfl rfl hb Tryz.underlying93 rfl (by kernel_rfl)) rfl (HQ.o _ _ ⟨by rw[HE.o];rfl,HF2.o.setL (k:=0) (vs:=[.bool false,.string { data:=#[] },.int .i64 0]) (.inr (Nat.le_refl _))⟩)
 | false=>
  have hne:aA t ≠ []:=by intro e;rw[e] at hb;cases hb
  rw[hb] at htn;clear hb;obtain⟨x,hx⟩:∃ x,exp+(d.size:Int) - (t.size:Int)=x:=⟨_,rfl⟩;have hxb:-4000000<=x/\x<=4000000:=by omega
  obtain⟨D,hD⟩:∃ D:Dcm,D=⟨neg,aA t,x⟩:=⟨_,rfl⟩
  have hFM:Hid (wI neg (aA s) exp=if D.sane=true then (gC D,0) else (gC .zero,4)):=lh (by
   unfold wI;rw[HFD.o,if_neg hne,hx,<- hD]
   by_cases h:D.sane=true
   ·rw[if_pos h,if_pos h]
   ·rw[if_neg h,if_neg h])
  have hDV:Hid (gC D=.agg #[.bool neg,.string t,.int .i64 x]):=lh (by rw[hD];rfl);have HDLX:Hid (D.digits.length<=1000000/\D.exp=x):=lh (by rw[hD];exact⟨by simp only;rw[cA];omega,rfl⟩);clear hD hne;go_wp2_with fail;have hb3:=Blk.new w2 93 [.bool neg,.string t,.int .i64 x];have hb4:=HB2.o.alloc (.cells [.bool neg,.string t,.int .i64 x].toArray 93);have hf4:Fr [] w2 (w2.alloc (.cells [.bool neg,.string t,.int .i64 x].toArray 93)):=(Fr.refl [] w2).alloc _;generalize hw4:w2.alloc _=w4 at *;have hsn:=aDp (w:=w4) D (by have:=HDLX.o.1;omega) (by have:=HDLX.o.2;omega) (by have:=HDLX.o.2;omega);rw[hDV.o] at hsn;refine hsn.mono ?_;rintro e w5 ⟨rfl,hf5⟩;have HF5:=lh ((HF2.o.trans hf4).trans hf5);have hb5:=hb3.fr hf5;have hb6:=hb4.fr hf5;have k0:=hb5.at_ (i:=0) rfl;have k1:=hb5.at_ (i:=1) rfl;have k2:=hb5.at_ (i:=2) rfl;have q0:=hb6.at_ (i:=0) rfl;have q1:=hb6.at_ (i:=1) rfl;have q2:=hb6.at_ (i:=2) rfl;have qf:=hb6.free;have HB6:=lh hb6;clear hf4 hf5 hb3 hb4 hb5 hb6 hw4 z0 z1 z2 zf
  cases hs:D.sane with
  | true=>
   have HE:Hid (wI neg (aA s) exp=(gC D,0)):=lh (by rw[hFM.o,if_pos hs]);clear hs;go_wp2_with fail;have hb:=HB6.o.setL (vs:=[.bool neg,.string t,.int .i64 x]) rfl;exact bodyPost_ret (fA (d:=_) rfl rfl hb Tryz.underlying93 rfl (by kernel_rfl)) rfl (HQ.o _ _ ⟨by rw[HE.o,hDV.o];rfl,HF5.o.setL (k:=0) (vs:=[.bool neg,.string t,.int .i64 x]) (.inr (Nat.le_refl _))⟩)
  | false=>
   have HE:Hid (wI neg (aA s) exp=(gC .zero,4)):=lh (by rw[hFM.o,if_neg (by rw[hs];simp)]);clear hs;go_wp2_with fail;have hb:=HB6.o.setL (vs:=[.bool false,.string { data:=#[] },.int .i64 0]) rfl;exact bodyPost_ret (fA (d:=_) rfl rfl hb Tryz.underlying93 rfl (by kernel_rfl)) rfl (HQ.o _ _ ⟨by rw[HE.o];rfl,HF5.o.setL (k:=0) (vs:=[.bool false,.string { data:=#[] },.int .i64 0]) (.inr (Nat.le_refl _))⟩)
end
end Go.Proofs.YtbggkiebfflcdaaGreatDoor
