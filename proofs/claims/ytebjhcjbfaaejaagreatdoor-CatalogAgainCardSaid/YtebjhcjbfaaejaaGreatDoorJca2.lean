/-
  Joined: DiskC DiskD DiskE Jm BitsB Ja CallF LawsB Jb
-/
import Derived.Test.YtebjhcjbfaaejaaGreatDoorJca1
set_option maxRecDepth 100000
set_option maxHeartbeats 32000000
namespace Go.Proofs.YtebjhcjbfaaejaaGreatDoor
open Go.Proofs.Tryz
variable {n i:Nat}{v u:Value}{L:List Nat}{F:List Value}{T:TypeId}
section
open Go.RowKit
theorem aJK(k:Int)(w:World):(Instr.build 88 #[(0,.int .i64 k)]).run prog w=.ok (.agg (.int .i64 k::z64).toArray) w:=by kernel_rfl
theorem tK.same{w:World}{d:Nat}{D:DM}{fp:List Nat}(h:fF w d D fp):tK w w d D fp:=⟨fp,h,Fr.refl _ _,fun _ hk=>.inl hk⟩
theorem aJL{w:World}{d bb:Nat}{lv:Value}{D:DM}(h:mB w d bb lv D)(hdead:D.dead=true)(k:Int)(v:Value):
  Calls prog 67 #[.pointer (some ⟨d,0,none⟩),.int .i64 k,v] w fun e w'=>e=.returned (.int .i64 10)/\w=w':=by
 go_enter func67,Go.Proofs.Tryz.ntmps67
 go_wp2_with (go_at_call 29;refine(kK h).mono ?_;rintro e w' ⟨rfl,rfl⟩)
 go_ret
 exact⟨rfl,rfl⟩
theorem aMs{w:World}{d bb:Nat}{lv:Value}{D:DM}(h:mB w d bb lv D)(hdead:D.dead=false)(k:Int)(A:Option Addr)(n c:Nat)(hk:k<0∨(D.S.length:Int)<=k∨64<n):
  Calls prog 67 #[.pointer (some ⟨d,0,none⟩),.int .i64 k,.slice A n c] w fun e w'=>e=.returned (.int .i64 1)/\w=w':=by
 by_cases h1:k<0
 ·clear hk
  go_enter func67,Go.Proofs.Tryz.ntmps67
  go_wp2_with (first|(go_at_call 29;refine(kK h).mono ?_;rintro e w' ⟨rfl,rfl⟩)|(go_at_call 49;refine(sR h).mono ?_;rintro e w' ⟨rfl,rfl⟩))
  go_ret
  exact⟨rfl,rfl⟩
 ·by_cases h2:(D.S.length:Int)<=k
  case' pos=>
   clear hk
  case' neg=>
   have h3:64<n:=by omega
   clear hk
  all_goals
   go_enter func67,Go.Proofs.Tryz.ntmps67
   go_wp2_with (first|(go_at_call 29;refine(kK h).mono ?_;rintro e w' ⟨rfl,rfl⟩)|(go_at_call 49;refine(sR h).mono ?_;rintro e w' ⟨rfl,rfl⟩))
   go_ret
   exact⟨rfl,rfl⟩
theorem aMt{w:World}{d bb:Nat}{lv:Value}{D:DM}(h:mB w d bb lv D)(hdead:D.dead=false)(k:Nat)(hk:k<D.S.length)(A:Option Addr)(n c:Nat)(hn:n<=64)(hl:D.limit=0):
  Calls prog 67 #[.pointer (some ⟨d,0,none⟩),.int .i64 k,.slice A n c] w fun e w'=>e=.returned (.int .i64 10)/\mB w' d bb lv D.died/\Fr [d] w w':=by
 have HL:=lh hl;clear hl
 go_enter func67,Go.Proofs.Tryz.ntmps67
 go_wp2_with (first
  | (go_at_call 29;refine(kK h).mono ?_;rintro e w' ⟨rfl,rfl⟩)
  | (go_at_call 49;refine(sR h).mono ?_;rintro e w' ⟨rfl,rfl⟩)
  | (go_at_call 90;refine(aHk h HL.o).mono ?_;rintro e w' ⟨rfl,hd',hf'⟩))
 go_ret
 exact⟨rfl,hd',hf'⟩
theorem gU{D:DM}(hdead:D.dead=false){k:Nat}(hk:k<D.S.length){bs:List UInt8}(hn:bs.length<=64)(hl:D.limit≠0):D.write (k:Int) bs={ D.spent with P:=D.P++[(k,pad bs)] }:=by
 unfold DM.write;rw[eA (by simp[hdead]),eA (by omega),eA hl]
 simp
theorem aHm(k:Nat)(bs:List UInt8)(_:bs.length<=64):splice (Value.int .i64 (k:Int)::z64) 1 (fA bs)=Value.int .i64 (k:Int)::fA (pad bs):=by
 have e:z64.drop bs.length=fA (List.replicate (64-bs.length) 0):=by
  rw[z64,<- bJ,List.drop_replicate]
 simp only[splice,pad,sC,kA,List.take_succ_cons,xT,zI,eH,Nat.add_comm 1,List.drop_succ_cons,e]
theorem aOb{w:World}{d bb:Nat}{lv:Value}{D:DM}(h:mB w d bb lv D)(hdead:D.dead=false)(k:Nat)(hk:k<D.S.length)(v:Value)(bs:List UInt8)(gs:Nat)(hv:cA w v bs gs)(hgs:gs≠d)
 (hn:bs.length<=64)(hl:D.limit≠0)(hdone:D.done<1099511627776):
  Calls prog 67 #[.pointer (some ⟨d,0,none⟩),.int .i64 k,v] w fun e w'=>e=.returned (.int .i64 0)/\tK w w' d { D.spent with P:=D.P++[(k,pad bs)] } (dfp d bb lv):=by
 obtain⟨A,c,off,rfl,hc,hb⟩:=hv;have hfew:=h.2.2.2.few
 have hokw:DM.ok { D.spent with P:=D.P++[(k,pad bs)] }:=by
  have h0:=DM.ok_write h.2.2.2 (k:Int) bs
  rwa [gU hdead hk hn hl]at h0
 have HOKW:=lh hokw;clear hokw;have HL:=lh hl;clear hl;have HB:=lh hb;clear hb;have HDN:=lh hdone;clear hdone;have H:=lh h;clear h
 go_enter func67,Go.Proofs.Tryz.ntmps67
 go_wp2_with (first
  | (go_at_call 29;refine(kK H.o).mono ?_;rintro e w' ⟨rfl,rfl⟩)
  | (go_at_call 49;refine(sR H.o).mono ?_;rintro e w' ⟨rfl,rfl⟩)
  | (go_at_call 90;refine(aEt H.o HL.o HDN.o).mono ?_;rintro e w1 ⟨rfl,hd1,hf1⟩;have HD1:=lh hd1;have HF1:=lh hf1;clear hd1 hf1)
  | (with_reducible refine aEj rfl 88 0 (.tmp 29) rfl (.int .i64 (k:Int)) _ rfl (aJK _ _) ?_)
  | (with_reducible refine mA rfl 88 rfl zp zpc dQ rfl ?_)
  | (with_reducible refine vA (W:=w1) rfl 88 (.tmp 7) (.tmp 30) rfl (.int .i64 (k:Int)::z64) rfl rfl rfl ?zi ?zl ?z1 ?_))
 case zi=>simp[sJ,wX]
 case zl=>simp[wX];rfl
 case z1=>exact fun v hv=>fU (k,List.replicate 64 0) v hv
 intro w2 hb2 hf2 hz2;have hfs:Fr [d] w w2:=HF1.o.trans hf2;have hd2:mB w2 d bb lv D.spent:=HD1.o.fr hf2;have hsrc:cA w2 (.slice A bs.length c) bs gs:=cA.fr (w:=w) ⟨A,c,off,rfl,hc,HB.o⟩ hfs (by simpa using hgs);have HB2:=lh hb2;clear hb2;have HF2:=lh hfs;clear hfs hf2;have HD2:=lh hd2;clear hd2;have HS2:=lh hsrc;clear hsrc HB;have HZ2:=lh hz2;clear hz2 H
 go_wp2_with (with_reducible refine kH rfl (.tmp 32) (.tmp 33) 67 67 rfl 5 Go.Proofs.Tryz.underlying67 bL _ _ _ _ _ _ rfl rfl w1.heap.size 1 (.int .i64 (k:Int)::z64) 88 HB2.o (fA bs) ?cn ?cp ?cf (yC _) ?_)
 case cn=>rw[kA];exact(iT hn).symm
 case cp=>
  intro h0;obtain⟨A',c',off',hv',_,hb'⟩:=HS2.o;injection hv' with hA _ _;obtain⟨hA',hcell⟩:=hb' (by rw[kA]at h0;exact h0);refine⟨⟨gs,off',none⟩,by rw[hA,hA'],fun j v hj=>?_⟩;rw[Go.Addr.add_mid];exact hcell j v hj
 case cf=>simp[kA,wX];omega
 intro w3 hb3 hf3 hz3;rw[aHm k bs hn]at hb3
 have hne:∀x∈dfp d bb lv,x∉[w1.heap.size]:=fun x hx hm=>by
  have:=HD1.o.lt x hx;simp only[aB]at hm;omega
 have hd3:mB w3 d bb lv D.spent:=HD2.o.fr hf3 hne;have hfw3:Fr [d] w w3:=HF2.o.trans hf3 (by have:=HF1.o.size;simp;omega);have HNE:=lh hne;clear hne hf3 HB2 HD2 HF2 HS2;generalize w1.heap.size=q at *;obtain⟨cs,hcs⟩:=nm ((Value.int .i64 (k:Int)::fA (pad bs)));rw[<- hcs]at hb3;have hcl:cs.length=65:=by rw[hcs];simp[kA,aGg hn]
 have hc1:∀v∈cs,v.oneCell'=true:=by rw[hcs];exact fU (k,pad bs)
 have c1:=hd3.c1
 obtain⟨i0,hi0⟩:∃i0,prog.info? 88=some i0:=by
  cases h:prog.info? 88 with
  | none=>have:=sJ;rw[h]at this;cases this
  | some i=>exact⟨i,rfl⟩
 have hz0:i0.zero=some zp:=by have:=dQ;rw[hi0]at this;simpa using this
 have hz12:i0.size=65/\i0.bytes=72:=by have:=aMq;rw[hi0]at this;simpa using this
 have hown:=hd3.2.2.1;have HD3:=lh hd3;have HB3:=lh hb3;have HCL:=lh hcl;have HC1:=lh hc1;have HCS:=lh hcs;have HI0:=lh hi0;have HZ0:=lh hz0;have HZ12:=lh hz12;have HOWN:=lh hown;have HFW3:=lh hfw3;clear hd3 hb3 hcl hc1 hcs hi0 hz0 hz12 hown hfw3 hz3 hdead;go_wp2_with fail;refine lA (fun W=>W.cell? ⟨d,1,none⟩=some lv/\Blk W q 88 cs) [0,1,2,3,4,5] (by kernel_rfl) ?_;refine tv 0 (.pointer (some ⟨d,0,none⟩)) rfl rfl ⟨c1,HB3.o⟩ (.inl ⟨rfl,fun _ _=>rfl⟩) ?_;simp only[nrm];refine tv 1 (.pointer (some ⟨d,0,none⟩)) rfl rfl ⟨c1,HB3.o⟩ (.inl ⟨rfl,fun _ _=>rfl⟩) ?_;simp only[nrm];refine tv 2 (.pointer (some ⟨d,0,none⟩)) rfl rfl ⟨c1,HB3.o⟩ (.inl ⟨rfl,fun _ _=>rfl⟩) ?_;simp only[nrm];refine tv 3 (.pointer (some ⟨d,1,none⟩)) rfl rfl ⟨c1,HB3.o⟩ (.inl ⟨rfl,fun W hW=>by go_simp⟩) ?_;simp only[nrm];refine qA (i:=4) (some 39) lv rfl rfl (by kernel_rfl) (fun _ _ _ h=>h) ⟨c1,HB3.o⟩ (.inl ⟨rfl,fun W hW=>by have c:=hW.1;go_simp⟩) ?_;simp only[nrm];refine tv 5 (.agg cs.toArray) rfl rfl ⟨c1,HB3.o⟩ (Go.yieldsIf_load_mid rfl 88 (.tmp 7) rfl q 0 rfl cs _ (fun W hW j v hj=>by rw[cC];exact hW.2.at_ hj) Go.Proofs.Tryz.underlying88 rfl (by rw[HCL.o];exact sJ)) ?_;simp only[nrm];have e3:w3.drew.heap.size=w3.heap.size:=rfl;have hfa:Fr [] w3 (w3.drew.alloc (.cells cs.toArray 88)):=(Fr.refl [] w3).drew.alloc _;have hcw:(w3.drew.alloc (.cells cs.toArray 88)).cell? ⟨d,1,none⟩=some lv:=(HD3.o.fr hfa).c1;have hbw:Blk (w3.drew.alloc (.cells cs.toArray 88)) q 88 cs:=HB3.o.fr hfa;have hnw:Blk (w3.drew.alloc (.cells cs.toArray 88)) w3.heap.size 88 cs:=Blk.new w3.drew _ cs;have how:=iB HOWN.o hfa (by simp);refine sp 6 rfl rfl rfl fun K hK=>?_;refine dD (.tmp 40) rfl underlying68 HI0.o HZ0.o cs rfl (by rw[HZ12.o.1,HCL.o]) (by rw[HCL.o];rfl) (by rw[HCL.o];omega) (by rw[HCL.o];omega) (hK _ _ (fun _=>⟨hcw,hbw⟩) ?_);simp only[nrm];refine sp 7 rfl rfl rfl fun K hK=>?_
 refine wp_append_lies _ (.tmp 39) (.tmp 41) 68 rfl 0 88 i0 zp 65 72 underlying68 HI0.o HZ0.o HZ12.o.1 HZ12.o.2 rfl (by omega) lv D.P.length (lK D.P) rfl how
  ⟨w3.heap.size,0,none⟩ 1 1 cs rfl (by rw[HCL.o]) (fun j u hu=>by rw[Go.Addr.add_mid,cC];exact hnw.at_ hu) HC1.o (by omega) ?_ ?_ (rB _) _ rfl ?_
 ·have:=HDN.o;unfold maxLen;omega
 ·have:=HDN.o;omega
 intro g cap w4 hown4 hg4 hat4 hlt4;have hsz4:(w3.drew.alloc (.cells cs.toArray 88)).heap.size=w3.heap.size+1:=by simp
 have hn4:∀g',lv.ownBlock=some g'->g'∈dfp d bb lv∨w3.heap.size<=g':=fun g' hg'=>.inl (by simp[dfp,hg']);have hf4:Fr (dfp d bb lv) w3 w4:=((hfa.mono (by simp)).grown hg4 hn4);have hdb4:=(HD3.o.1.fr hfa).grown hg4 (fun e=>HD3.o.ne2 e.symm);have hbb4:=(HD3.o.2.1.fr hfa).grown hg4 (fun e=>HD3.o.ne3 e.symm);have c14:w4.cell? ⟨d,1,none⟩=some lv:=hdb4.at_ rfl;have f14:=hdb4.free 1;have hbq4:Blk w4 q 88 cs:=hbw.grown hg4 (fun e=>HNE.o q (by simp[dfp,<- e]) (by simp));refine hK _ _ (fun _=>⟨c14,hbq4⟩) ?_;simp only[nrm];refine sp 8 rfl rfl rfl fun K hK=>?_;refine xB (v:=.pointer (some ⟨d,0,none⟩)) (w':=w4) rfl (hK _ _ (fun h=>absurd h (by decide +kernel)) ?_);simp only[nrm];refine sp 9 rfl rfl rfl fun K hK=>?_;refine xB (v:=.pointer (some ⟨d,1,none⟩)) (w':=w4) (by go_simp) (hK _ _ (fun h=>absurd h (by decide +kernel)) ?_);simp only[nrm];refine xA (j:=10) none rfl rfl (by kernel_rfl) rfl fun K hK=>?_;refine pB (w':=w4.setCell ⟨d,1,none⟩ (.slice (some ⟨g,0,none⟩) (D.P.length+1) cap)) (by go_simp) (hK _ _ (fun h=>absurd h (by decide +kernel)) ?_);simp only[Act.put];refine wd ?_ _
 go_wp2
 go_ret
 have hf5:Fr (dfp d bb lv) w3 (w4.setCell ⟨d,1,none⟩ (.slice (some ⟨g,0,none⟩) (D.P.length+1) cap)):=hf4.setCell (by simp[dfp]) _
 have hgd:g≠d:=by
  rcases hat4 with h|h
  ·exact fun e=>HD3.o.ne2 (e▸h)
  ·have:=HD3.o.1.lt;rw[hsz4]at h;omega
 have hgb:bb≠d:=HD3.o.ne1.symm;have hfin:Fr (dfp d bb lv) w (w4.setCell ⟨d,1,none⟩ (.slice (some ⟨g,0,none⟩) (D.P.length+1) cap)):=(HFW3.o.mono (by simp[dfp])).trans hf5 (fun x hx=>.inl hx);refine⟨rfl,dfp d bb (.slice (some ⟨g,0,none⟩) (D.P.length+1) cap),⟨bb,_,rfl,?_,?_,?_,?_⟩,hfin,?_⟩
 ·have:=hdb4.set_ 1 (.slice (some ⟨g,0,none⟩) (D.P.length+1) cap)
  simpa[DM.spent]using this
 ·exact hbb4.far (by simpa using hgb) _
 ·have e:lK (D.P++[(k,pad bs)])=lK D.P++cs:=by rw[aEl,HCS.o];simp[lK]
  have h:=iB hown4 ((Fr.refl [d] w4).setCell (p:=⟨d,1,none⟩) (by simp) (.slice (some ⟨g,0,none⟩) (D.P.length+1) cap)) (by simpa[Value.ownBlock]using hgd)
  simpa[e]using h
 ·exact HOKW.o
 ·have:=HFW3.o.size;intro x hx;simp only[dfp,kB,Value.ownBlock,Option.toList,yG,aG]at hx;rcases hx with rfl|rfl|rfl
  ·simp[dfp]
  ·simp[dfp]
  ·rcases hat4 with h|h
   ·left;simp[dfp,h]
   ·right;rw[hsz4]at h;omega
theorem aHn{w:World}{d:Nat}{D:DM}{fp:List Nat}(h:fF w d D fp)(k:Int)(v:Value)(bs:List UInt8)(gs:Nat)(hv:cA w v bs gs)(hgs:gs≠d)(hdone:D.done<1099511627776):
  Calls prog 67 #[.pointer (some ⟨d,0,none⟩),.int .i64 k,v] w fun e w'=>e=.returned (.int .i64 (D.writeE k bs))/\tK w w' d (D.write k bs) fp:=by
 have hA:=h;obtain⟨bb,lv,rfl,h⟩:=h
 by_cases hdead:D.dead=true
 ·refine(aJL h hdead k v).mono ?_;rintro e w' ⟨rfl,rfl⟩;simp only[DM.writeE,DM.write,hdead,mH];exact⟨trivial,tK.same hA⟩
 ·have hdead:D.dead=false:=by simpa using hdead
  obtain⟨A,c,off,rfl,hc,hb⟩:=hv
  by_cases hk:k<0∨(D.S.length:Int)<=k∨64<bs.length
  ·refine(aMs h hdead k A bs.length c hk).mono ?_;rintro e w' ⟨rfl,rfl⟩;simp only[DM.writeE,DM.write,hdead,dE,hk,mH,qG];exact⟨trivial,tK.same hA⟩
  ·obtain⟨n,rfl⟩:=Int.eq_ofNat_of_zero_le (show 0<=k by omega)
   by_cases hl:D.limit=0
   ·refine(aMt h hdead n (by omega) A bs.length c (by omega) hl).mono ?_;rintro e w' ⟨rfl,hd',hf'⟩;simp only[DM.writeE,DM.write,hdead,dE,hk,mH,qG,hl];exact⟨trivial,_,⟨bb,lv,rfl,hd'⟩,hf'.mono (by simp[dfp]),fun _ hx=>.inl hx⟩
   ·refine(aOb h hdead n (by omega) _ bs gs ⟨A,c,off,rfl,hc,hb⟩ hgs (by omega) hl hdone).mono ?_;rintro e w' ⟨rfl,hd'⟩;rw[gU hdead (by omega) (by omega) hl];refine⟨?_,hd'⟩;simp only[DM.writeE,hdead,dE,hk,qG,hl]
def DM.lain (D:DM) (S:List (List UInt8)):DM:={ D with S:=S }
theorem DM.ok_lain{D:DM}(h:D.ok){S:List (List UInt8)}(hl:S.length=D.S.length)(hs:∀s∈S,s.length=64):(D.lain S).ok:=
 ⟨by simpa[DM.lain,hl]using h.some_,by simpa[DM.lain,hl]using h.most,hs,fun p hp=>by simpa[DM.lain,hl]using h.pend p hp,h.lim,h.lim',h.few⟩
theorem aOc(S:List (List UInt8))(Ps:List (Nat×List UInt8))(j:Nat)(p:Nat×List UInt8)(hj:Ps[j]? = some p):vB S (Ps.take (j+1))=(vB S (Ps.take j)).set p.1 p.2:=by
 have hlt:j<Ps.length:=(tD.1 hj).1
 have e:Ps.take (j+1)=Ps.take j++[p]:=by
  rw[jP hlt];rw[xD hlt]at hj;simp only[vI]at hj;rw[hj]
 simp[e,vB]
theorem aW{S:List (List UInt8)}(h:∀s∈S,s.length=64){k:Nat}(hk:k<S.length){b:List UInt8}(hb:b.length=64):splice (fA S.flatten) (k*64) (fA b)=fA (S.set k b).flatten:=by
 simp only[splice,kA,hb];rw[<- aNY h hk,sC,sC,pM,bJ]
theorem aMu{w:World}{d bb:Nat}{lv:Value}{D:DM}(h:mB w d bb lv D)(hdead:D.dead=true):
  Calls prog 68 #[.pointer (some ⟨d,0,none⟩)] w fun e w'=>e=.returned (.int .i64 10)/\w=w':=by
 go_enter func68,ntmps68
 go_wp2_with (go_at_call 29;refine(kK h).mono ?_;rintro e w' ⟨rfl,rfl⟩)
 go_ret
 exact⟨rfl,rfl⟩
theorem aOd{w:World}{d bb:Nat}{lv:Value}{D:DM}(h:mB w d bb lv D)(hdead:D.dead=false)(hl:D.limit=0):
  Calls prog 68 #[.pointer (some ⟨d,0,none⟩)] w fun e w'=>e=.returned (.int .i64 10)/\mB w' d bb lv D.died/\Fr [d] w w':=by
 have HL:=lh hl;clear hl
 go_enter func68,ntmps68
 go_wp2_with (first
  | (go_at_call 29;refine(kK h).mono ?_;rintro e w' ⟨rfl,rfl⟩)
  | (go_at_call 90;refine(aHk h HL.o).mono ?_;rintro e w' ⟨rfl,hd',hf'⟩))
 go_ret
 exact⟨rfl,hd',hf'⟩
def aQf (w:World) (d bb:Nat) (lv:Value) (D:DM) (i:Value) (wr:World):Prop:=
 ∃j:Nat,j<=D.P.length/\i=.int .i64 j/\mB wr d bb lv (D.lain (vB D.S (D.P.take j)))/\Fr [bb] w wr
theorem aQg{w:World}{d bb:Nat}{lv:Value}{D:DM}(h:mB w d bb lv D)(hdead:D.dead=false)(hl:D.limit≠0)(hdone:D.done<1099511627776):
  Calls prog 68 #[.pointer (some ⟨d,0,none⟩)] w fun e w'=>e=.returned (.int .i64 0)/\tK w w' d { D.spent with S:=vB D.S D.P,P:=[] } (dfp d bb lv):=by
 have hok:=h.2.2.2;have hfew:=hok.few
 have hok2:DM.ok { D.spent with S:=vB D.S D.P,P:=[] }:=by
  have h0:=DM.ok_sync hok
  simpa only[DM.sync,hdead,dE,qG,hl]using h0
 have HOK2:=lh hok2;clear hok2;have HL:=lh hl;clear hl;have HDN:=lh hdone;clear hdone;have H:=lh h;clear h;obtain⟨A,c,rfl,hnc,hcm⟩:=sA H.o.2.2.1;have hP0:D.P.length<=9223372036854775807:=by unfold maxLen at hcm;omega
 clear hcm
 go_enter func68,ntmps68
 go_upto_region 3 with (first
  | (go_at_call 29;refine(kK H.o).mono ?_;rintro e w' ⟨rfl,rfl⟩)
  | (go_at_call 90;refine(aEt H.o HL.o HDN.o).mono ?_;rintro e w1 ⟨rfl,hd1,hf1⟩;have c1:=hd1.c1;have HD1:=lh hd1;have HF1:=lh hf1;clear hd1 hf1))
 go_wp2_with fail
 go_loopw [17] (aQf w1 d bb (.slice A D.P.length c) D.spent) (fun i _=>D.P.length-(intOf i).toNat)
 case atStart=>exact⟨0,rB _,rfl,HD1.o,Fr.refl _ _⟩
 case round=>
  obtain⟨j,hj,rfl,hd,hf⟩:=hrel;have hj':j<=D.P.length:=hj;clear hj c1
  by_cases hjn:j<D.P.length
  ·obtain⟨p,hp⟩:=gx (l:=D.P) hjn;obtain⟨g,rfl,hcell⟩:=tE hd.2.2.1 (by show 0<D.P.length;omega);have hpp:=hok.pend p (rG hp);have hp2:=hpp.2
   have hc:wr.rangeAt g (j*65) (Value.int .i64 (p.1:Int)::fA p.2):=fun i v hi=>by
    have hi':i<65:=by have:=(tD.1 hi).1;simpa[kA,hp2]using this
    exact hcell _ v (by rw[show lK (D.spent.lain (vB D.spent.S (D.spent.P.take j))).P=lK D.P from rfl,aAs (fun q hq=>(hok.pend q hq).2) hp hi'];exact hi)
   have hlen:(Value.int .i64 (p.1:Int)::fA p.2).length=65:=by simp[kA,hp2]
   have HC:=lh hc;clear hc hcell;have HLEN:=lh hlen;clear hlen;have HF:=lh hf;clear hf;have HDR:=lh hd;clear hd;have HP:=lh hp;clear hp;have HP2:=lh hp2;clear hp2;have HPP:=lh hpp;clear hpp;have HOK:=lh hok;clear hok
   go_wp2_with (first
    | (with_reducible refine Go.wpList_load_mid rfl 88 (.tmp 19) rfl g (j*65) rfl (Value.int .i64 (p.1:Int)::fA p.2) _ HC.o Go.Proofs.Tryz.underlying88 rfl (sJ.trans (by rw[HLEN.o])) ?_)
    | (with_reducible refine mA rfl 88 rfl zp zpc dQ rfl ?_)
    | (with_reducible refine vA (W:=wr) rfl 88 (.tmp 4) (.tmp 20) rfl (Value.int .i64 (p.1:Int)::fA p.2) rfl rfl rfl (sJ.trans (by rw[HLEN.o])) ?zl (fU p) ?_))
   case zl=>rw[HLEN.o];rfl
   intro w2 hb2 hf2 hz2;have cp0:w2.cell? ⟨wr.heap.size,0,none⟩=some (.int .i64 (p.1:Int)):=hb2.at_ rfl;have hd2:=HDR.o.fr hf2;have HD2:=lh hd2;clear hd2;have HB2:=lh hb2;clear hb2;have HF2:=lh hf2;clear hf2;clear hz2;go_wp2_with fail
   go_still_tail 6,(by kernel_rfl)
   have hlS:(D.spent.lain (vB D.spent.S (D.spent.P.take j))).S.length=D.S.length:=yD _ _
   still_call ((aAr (HD2.o.fr (Fr.refl [] w2).drew (by simp)) p.1 (by rw[hlS];exact HPP.o.1)).mono fun e w' h=>⟨h.1,h.2.symm⟩)
   repeat still_step
   refine wpStill_nil ?_;refine kH rfl (.tmp 24) (.tmp 26) 67 67 rfl 5 Go.Proofs.Tryz.underlying67 bL (some ⟨bb,p.1*64,none⟩) (some ⟨wr.heap.size,1,none⟩) 64 64 64 64 rfl rfl bb (p.1*64) _ 5 (HD2.o.2.1.fr (Fr.refl [] w2).drew (by simp)) (fA p.2) (by rw[kA,HP2.o];rfl) (fun _=>⟨rfl,_,rfl,fun i v hi=>?_⟩) ?_ (yC _) ?_
   ·rw[Go.Addr.add_mid];exact HB2.o.at_ (i:=1+i) (by rw[Nat.add_comm];simpa using hi)
   ·have h1:=aCu HD2.o.2.2.2.sec;have h2:=HPP.o.1;rw[kA,kA,HP2.o,h1,hlS];omega
   intro w3 hb3 hf3 hz3;rw[aW HD2.o.2.2.2.sec (by rw[hlS];exact HPP.o.1) HP2.o]at hb3;have hst:=aOc D.S D.P j p HP.o;have hf3':Fr [bb] w2 w3:=(Fr.refl [bb] w2).drew.trans hf3
   have hd3:mB w3 d bb (.slice (some ⟨g,0,none⟩) D.P.length c) (D.spent.lain (vB D.spent.S (D.spent.P.take (j+1)))):=by
    have hn1:=HD2.o.ne1;have hn3:=HD2.o.ne3;refine⟨?_,?_,iB HD2.o.2.2.1 hf3' (fun g' hg' hm=>hn3 (by simp only[aB]at hm;rw[<- hm];exact hg')),?_⟩
    ·have:=HD2.o.1.fr hf3' (by simpa using hn1);simp only[DM.lain,yD]at this⊢;exact this
    ·show Blk w3 bb _ (fA (vB D.S (D.P.take (j+1))).flatten)
     rw[hst];exact hb3
    ·exact DM.ok_lain HD1.o.2.2.2 (yD _ _) (qR _ _ HOK.o.sec (fun q hq=>(HOK.o.pend q (rO hq)).2))
   have hfr3:Fr [bb] w1 w3:=(HF.o.trans HF2.o).trans hf3';have HD3:=lh hd3;clear hd3;have HF3:=lh hfr3;clear hfr3;clear hb3 hf3 hf3' hz3 hst hlS cp0
   go_wp2
   go_roundw
   case rel=>exact⟨j+1,by show j+1<=D.P.length;omega,by go_num,HD3.o,HF3.o⟩
   case measure=>simp[intOf];omega
  ·have c1:=hd.c1;have f1:=hd.free 1;have HF:=lh hf;clear hf;have HDR:=lh hd;clear hd
   go_wp2
   go_ret
   have e:D.P.take j=D.P:=zF (by omega);have hd:=HDR.o;simp only[show D.spent.P.take j=D.P from e]at hd;have hne:=hd.ne1;have hfs:Fr [d] wr (wr.setCell ⟨d,1,none⟩ (.slice none 0 0)):=(Fr.refl _ _).setCell (by simp) _;have hfw:Fr (dfp d bb (.slice A D.P.length c)) w wr:=(HF1.o.mono (by simp[dfp])).trans HF.o (by simp[dfp]);refine⟨rfl,dfp d bb (.slice none 0 0),⟨bb,_,rfl,?_,?_,vF _ _ _ _,HOK2.o⟩,hfw.trans hfs (by simp[dfp]),by simp[dfp,Value.ownBlock]⟩
   ·have:=hd.1.set_ 1 (.slice none 0 0)
    simpa[DM.lain,DM.spent,yD]using this
   ·exact hd.2.1.fr hfs (by simpa using hne.symm)
theorem aLi{w:World}{d:Nat}{D:DM}{fp:List Nat}(h:fF w d D fp)(hdone:D.done<1099511627776):
  Calls prog 68 #[.pointer (some ⟨d,0,none⟩)] w fun e w'=>e=.returned (.int .i64 D.syncE)/\tK w w' d D.sync fp:=by
 have hA:=h;obtain⟨bb,lv,rfl,h⟩:=h
 by_cases hdead:D.dead=true
 ·refine(aMu h hdead).mono ?_;rintro e w' ⟨rfl,rfl⟩;simp only[DM.syncE,DM.sync,hdead,mH];exact⟨trivial,tK.same hA⟩
 ·have hdead:D.dead=false:=by simpa using hdead
  by_cases hl:D.limit=0
  ·refine(aOd h hdead hl).mono ?_;rintro e w' ⟨rfl,hd',hf'⟩;simp only[DM.syncE,DM.sync,hdead,dE,mH,qG,hl];exact⟨trivial,_,⟨bb,lv,rfl,hd'⟩,hf'.mono (by simp[dfp]),fun _ hx=>.inl hx⟩
  ·refine(aQg h hdead hl hdone).mono ?_;rintro e w' ⟨rfl,hd'⟩;simp only[DM.syncE,DM.sync,hdead,dE,qG,hl];exact⟨trivial,hd'⟩
theorem aEu:∀(Ps:List (Nat×List UInt8)) (K:List Bool) (j:Nat) (p:Nat×List UInt8),Ps[j]? = some p->bG (Ps.take (j+1)) K=bG (Ps.take j) K++(if K[j]? = some true then [p] else [])
 | [],_,j,p,h=>by simp at h
 | q::Ps,[],j,p,h=>by
  have e1:∀L:List (Nat×List UInt8),bG L []=[]:=fun L=>by cases L<;>rfl
  simp[e1]
 | q::Ps,b::K,0,p,h=>by
  obtain rfl:q=p:=by simpa using h
  cases b<;>simp[bG]
 | q::Ps,b::K,j+1,p,h=>by
  have ih:=aEu Ps K j p (by simpa using h);simp only[List.take_succ_cons,bG,List.getElem?_cons_succ]
  cases b<;>simp[ih]
def aQh (w:World) (d bb:Nat) (lv:Value) (D:DM) (K:List Bool) (i:Value) (wr:World):Prop:=
 ∃j:Nat,j<=D.P.length/\i=.int .i64 j/\mB wr d bb lv (D.lain (vB D.S (bG (D.P.take j) K)))/\Fr [bb] w wr
theorem aSj{w:World}{d bb:Nat}{lv:Value}{D:DM}(h:mB w d bb lv D)(v:Value)(K:List Bool)(gs:Nat)(hv:pR w v K gs)(hgs:gs≠bb)(hK:K.length<=9223372036854775807):
  Calls prog 16 #[.pointer (some ⟨d,0,none⟩),v] w fun e w'=>e=.returned (.tuple #[])/\tK w w' d (D.reopen K) (dfp d bb lv):=by
 have hok:=h.2.2.2;obtain⟨KA,kc,koff,rfl,hkc,hkb⟩:=hv;have HKB:=lh hkb;clear hkb;have H:=lh h;obtain⟨A,c,rfl,hnc,hcm⟩:=sA h.2.2.1;have hP0:D.P.length<=9223372036854775807:=by unfold maxLen at hcm;omega
 clear hcm;have c1:=h.c1;clear h
 go_enter func16,ntmps16
 go_wp2_with fail
 go_loopw [13] (aQh w d bb (.slice A D.P.length c) D K) (fun i _=>D.P.length-(intOf i).toNat)
 case atStart=>exact⟨0,rB _,rfl,by simpa[bG,vB,DM.lain]using H.o,Fr.refl _ _⟩
 case round=>
  obtain⟨j,hj,rfl,hd,hf⟩:=hrel;clear c1
  by_cases hjn:j<D.P.length
  ·obtain⟨p,hp⟩:=gx (l:=D.P) hjn;obtain⟨g,rfl,hcell⟩:=tE hd.2.2.1 (by show 0<D.P.length;omega);have hpp:=hok.pend p (rG hp);have hp2:=hpp.2
   have hc:wr.rangeAt g (j*65) (Value.int .i64 (p.1:Int)::fA p.2):=fun i v hi=>by
    have hi':i<65:=by have:=(tD.1 hi).1;simpa[kA,hp2]using this
    exact hcell _ v (by rw[show lK (D.lain (vB D.S (bG (D.P.take j) K))).P=lK D.P from rfl,aAs (fun q hq=>(hok.pend q hq).2) hp hi'];exact hi)
   have hlen:(Value.int .i64 (p.1:Int)::fA p.2).length=65:=by simp[kA,hp2]
   have hks:pR wr (.slice KA K.length kc) K gs:=pR.fr (w:=w) ⟨KA,kc,koff,rfl,hkc,HKB.o⟩ hf (by simpa using hgs);have HC:=lh hc;clear hc hcell;have HLEN:=lh hlen;clear hlen;have HF:=lh hf;clear hf;have HDR:=lh hd;clear hd;have HP:=lh hp;clear hp;have HP2:=lh hp2;clear hp2;have HPP:=lh hpp;clear hpp;have HOK:=lh hok;clear hok;have HKS:=lh hks;clear hks
   go_upto_region 4 with (first
    | (with_reducible refine Go.wpList_load_mid rfl 88 (.tmp 16) rfl g (j*65) rfl (Value.int .i64 (p.1:Int)::fA p.2) _ HC.o Go.Proofs.Tryz.underlying88 rfl (sJ.trans (by rw[HLEN.o])) ?_)
    | (with_reducible refine mA rfl 88 rfl zp zpc dQ rfl ?_)
    | (with_reducible refine vA (W:=wr) rfl 88 (.tmp 5) (.tmp 17) rfl (Value.int .i64 (p.1:Int)::fA p.2) rfl rfl rfl (sJ.trans (by rw[HLEN.o])) (aQc.trans HLEN.o.symm) (fU p) ?_))
   intro w2 hb2 hf2 hz2;have cp0:w2.cell? ⟨wr.heap.size,0,none⟩=some (.int .i64 (p.1:Int)):=hb2.at_ rfl;have hd2:=HDR.o.fr hf2;have hks2:pR w2 (.slice KA K.length kc) K gs:=HKS.o.fr hf2;have hst:=aEu D.P K j p HP.o;have hlS:(D.lain (vB D.S (bG (D.P.take j) K))).S.length=D.S.length:=yD _ _;have HD2:=lh hd2;clear hd2;have HB2:=lh hb2;clear hb2;have HF2:=lh hf2;clear hf2;have HST:=lh hst;clear hst;have HLS:=lh hlS;clear hlS;clear hz2 HKS;obtain⟨KA',kc',koff',hve,_,hkb'⟩:=hks2;injection hve with e1 e2 e3;have HE1:=lh e1;clear e1;have HKB':=lh hkb';clear hkb' e2 e3
   by_cases hkj:j<K.length
   ·obtain⟨hKA,hkcell⟩:=HKB'.o (by omega);obtain⟨b,hb⟩:=gx (l:=K) hkj;have hkc1:=hkcell j b hb;have hKA2:KA=some ⟨gs,koff',none⟩:=HE1.o.trans hKA;subst hKA2;have HBJ:=lh hb;clear hb hkcell hKA HE1 HKB'
    cases b with
    | false=>
     have hd3:mB w2 d bb (.slice (some ⟨g,0,none⟩) D.P.length c) (D.lain (vB D.S (bG (D.P.take (j+1)) K))):=by rw[HST.o,eA (by rw[HBJ.o];simp),dI];exact HD2.o
     have HD3:=lh hd3;clear hd3;go_wp2_with fail
     go_roundw
     case rel=>exact⟨j+1,by omega,by go_num,HD3.o,HF.o.trans HF2.o⟩
     case measure=>simp[intOf];omega
    | true=>
     have hst:vB D.S (bG (D.P.take (j+1)) K)=(vB D.S (bG (D.P.take j) K)).set p.1 p.2:=by
      rw[HST.o,iA HBJ.o];simp[vB]
     have HST2:=lh hst;clear hst;go_wp2_with fail
     go_still_tail 6,(by kernel_rfl)
     still_call ((aAr (HD2.o.fr (Fr.refl [] w2).drew (by simp)) p.1 (by rw[HLS.o];exact HPP.o.1)).mono fun e w' h=>⟨h.1,h.2.symm⟩)
     repeat still_step
     refine wpStill_nil ?_;refine kH rfl (.tmp 31) (.tmp 33) 67 67 rfl 5 Go.Proofs.Tryz.underlying67 bL (some ⟨bb,p.1*64,none⟩) (some ⟨wr.heap.size,1,none⟩) 64 64 64 64 rfl rfl bb (p.1*64) _ 5 (HD2.o.2.1.fr (Fr.refl [] w2).drew (by simp)) (fA p.2) (by rw[kA,HP2.o];rfl) (fun _=>⟨rfl,_,rfl,fun i v hi=>?_⟩) ?_ (yC _) ?_
     ·rw[Go.Addr.add_mid];exact HB2.o.at_ (i:=1+i) (by rw[Nat.add_comm];simpa using hi)
     ·have h1:=aCu HD2.o.2.2.2.sec;have h2:=HPP.o.1;rw[kA,kA,HP2.o,h1,HLS.o];omega
     intro w3 hb3 hf3 hz3;rw[aW HD2.o.2.2.2.sec (by rw[HLS.o];exact HPP.o.1) HP2.o]at hb3;have hf3':Fr [bb] w2 w3:=(Fr.refl [bb] w2).drew.trans hf3
     have hd3:mB w3 d bb (.slice (some ⟨g,0,none⟩) D.P.length c) (D.lain (vB D.S (bG (D.P.take (j+1)) K))):=by
      have hn1:=HD2.o.ne1;have hn3:=HD2.o.ne3;refine⟨?_,?_,iB HD2.o.2.2.1 hf3' (fun g' hg' hm=>hn3 (by simp only[aB]at hm;rw[<- hm];exact hg')),?_⟩
      ·have:=HD2.o.1.fr hf3' (by simpa using hn1);simp only[DM.lain,yD]at this⊢;exact this
      ·show Blk w3 bb _ (fA (vB D.S (bG (D.P.take (j+1)) K)).flatten)
       rw[HST2.o];exact hb3
      ·exact DM.ok_lain HOK.o (yD _ _) (qR _ _ HOK.o.sec (fun q hq=>(HOK.o.pend q (rO (sL _ _ q hq))).2))
     have hfr3:Fr [bb] w w3:=(HF.o.trans HF2.o).trans hf3';have HD3:=lh hd3;clear hd3;have HF3:=lh hfr3;clear hfr3;clear hb3 hf3 hf3' hz3 cp0
     go_wp2
     go_roundw
     case rel=>exact⟨j+1,by omega,by go_num,HD3.o,HF3.o⟩
     case measure=>simp[intOf];omega
   ·have hd3:mB w2 d bb (.slice (some ⟨g,0,none⟩) D.P.length c) (D.lain (vB D.S (bG (D.P.take (j+1)) K))):=by
     rw[HST.o,eA (by rw[fR (by omega)];simp),dI];exact HD2.o
    have HD3:=lh hd3;clear hd3;go_wp2_with fail;exact⟨⟨j+1,by omega,by go_num,HD3.o,HF.o.trans HF2.o⟩,by simp[intOf];omega⟩
  ·have c1:=hd.c1;have c2:=hd.c2;have c3:=hd.c3;have f1:=hd.free 1;have f2:=hd.free 2;have f3:=hd.free 3;have HF:=lh hf;clear hf;have HDR:=lh hd;clear hd
   go_wp2
   go_end0
   have e:D.P.take j=D.P:=zF (by omega);have hd:=HDR.o;rw[e]at hd;have hne:=hd.ne1;have hfs:Fr [d] wr (((wr.setCell ⟨d,1,none⟩ (.slice none 0 0)).setCell ⟨d,3,none⟩ (.bool false)).setCell ⟨d,2,none⟩ (.int .i64 (-1))):=(((Fr.refl _ _).setCell (by simp) _).setCell (by simp) _).setCell (by simp) _;have hfw:Fr (dfp d bb (.slice A D.P.length c)) w wr:=HF.o.mono (by simp[dfp]);refine⟨rfl,dfp d bb (.slice none 0 0),⟨bb,_,rfl,?_,?_,vF _ _ _ _,DM.ok_reopen hok K⟩,hfw.trans hfs (by simp[dfp]),by simp[dfp,Value.ownBlock]⟩
   ·have:=((hd.1.set_ 1 (.slice none 0 0)).set_ 3 (.bool false)).set_ 2 (.int .i64 (-1))
    simpa[DM.lain,DM.reopen,yD]using this
   ·exact hd.2.1.fr hfs (by simpa using hne.symm)
theorem aLj{w:World}{d:Nat}{D:DM}{fp:List Nat}(h:fF w d D fp):Calls prog 11 #[.pointer (some ⟨d,0,none⟩)] w fun e w'=>e=.returned (.bool D.dead)/\w=w':=by
 obtain⟨bb,lv,rfl,h⟩:=h;exact aQb h
theorem aGj{w:World}{d:Nat}{D:DM}{fp:List Nat}(h:fF w d D fp):Calls prog 49 #[.pointer (some ⟨d,0,none⟩)] w fun e w'=>e=.returned (.int .i64 (D.S.length:Int))/\w=w':=by
 obtain⟨bb,lv,rfl,h⟩:=h;exact sR h
def aQi (w:World) (D:DM) (k:Int) (e:Ending) (w':World):Prop:=
 ∃v g,e=.returned (.tuple #[v,.int .i64 (D.readE k)])/\cA w' v (D.read k) g/\w.heap.size<=g/\Fr [] w w'/\(D.readE k=0->v=.slice (some ⟨g,0,none⟩) 64 64/\Blk w' g 5 (fA (D.read k)))/\(D.readE k≠0->v=.slice none 0 0)
theorem aOe{w:World}{d bb:Nat}{lv:Value}{D:DM}(h:mB w d bb lv D)(k:Int)(hk:D.readE k≠0):
  Calls prog 113 #[.pointer (some ⟨d,0,none⟩),.int .i64 k] w fun e w'=>e=.returned (.tuple #[.slice none 0 0,.int .i64 (D.readE k)])/\w=w':=by
 by_cases hdead:D.dead=true
 ·have e:D.readE k=10:=by simp[DM.readE,hdead]
  rw[e];clear hk e
  go_enter func113,ntmps113
  go_wp2_with (go_at_call 29;refine(kK h).mono ?_;rintro e w' ⟨rfl,rfl⟩)
  go_ret2
  exact⟨rfl,rfl⟩
 ·have hdead:D.dead=false:=by simpa using hdead
  have hk':k<0∨(D.S.length:Int)<=k:=by
   simp only[DM.readE,hdead,qG,dE]at hk
   by_cases h':k<0∨(D.S.length:Int)<=k
   ·exact h'
   ·rw[eA h']at hk;exact absurd rfl hk
  have e:D.readE k=1:=by simp[DM.readE,hdead,hk']
  rw[e];clear hk e
  by_cases h1:k<0
  case' pos=>
   clear hk'
  case' neg=>
   have h2:(D.S.length:Int)<=k:=by omega
   clear hk'
  all_goals
   go_enter func113,ntmps113
   go_wp2_with (first
    | (go_at_call 29;refine(kK h).mono ?_;rintro e w' ⟨rfl,rfl⟩)
    | (go_at_call 49;refine(sR h).mono ?_;rintro e w' ⟨rfl,rfl⟩))
   go_ret2
   exact⟨rfl,rfl⟩
theorem aLk{w:World}{d:Nat}{D:DM}{fp:List Nat}(h:fF w d D fp)(k:Int):
  Calls prog 113 #[.pointer (some ⟨d,0,none⟩),.int .i64 k] w (aQi w D k):=by
 obtain⟨bb,lv,rfl,h⟩:=h
 by_cases hk:D.readE k=0
 ·have hdead:D.dead=false:=by
   cases hd:D.dead with
   | false=>rfl
   | true=>simp[DM.readE,hd]at hk
  have hk2:0<=k/\k<D.S.length:=by
   simp only[DM.readE,hdead,qG,dE]at hk
   by_cases h':k<0∨(D.S.length:Int)<=k
   ·rw[iA h']at hk;exact absurd hk (by decide)
   ·omega
  obtain⟨n,rfl⟩:=Int.eq_ofNat_of_zero_le hk2.1;refine(aQe h hdead n (by omega)).mono ?_;rintro e w' ⟨g,rfl,hg,hb,hf⟩;have hr:D.read (n:Int)=D.look n:=by simp[DM.read,hk]
  have hl:(D.look n).length=64:=DM.look_len h.2.2.2 (by omega);have hba:=cA.of_blk hb 64 (by omega);rw[hl]at hba;exact⟨_,g,by rw[hk],by rw[hr];exact hba,hg,hf,fun _=>⟨rfl,by rw[hr];exact hb⟩,fun h0=>absurd hk h0⟩
 ·refine(aOe h k hk).mono ?_;rintro e w' ⟨rfl,rfl⟩;have hr:D.read k=[]:=by simp[DM.read,hk]
  exact⟨_,w.heap.size,rfl,by rw[hr];exact cA.nil _ _,tA _,Fr.refl _ _,fun h0=>absurd h0 hk,fun _=>rfl⟩
end
section
def zC (l:List UInt8):Nat:=l.foldl (fun n c=>n*256+c.toNat) 0
theorem aHo(l:List UInt8)(c:UInt8):zC (l++[c])=zC l*256+c.toNat:=by simp[zC]
theorem bW:∀(l:List UInt8) (n:Nat),l.foldl (fun n c=>n*256+c.toNat) n<(n+1)*256^l.length
 | [],n=>by simp
 | c::l,n=>by
  have h:=bW l (n*256+c.toNat);have hc:=c.toNat_lt;have h2:(n*256+c.toNat+1)*256^l.length<=((n+1)*256)*256^l.length:=Nat.mul_le_mul_right _ (by omega);have h3:((n+1)*256)*256^l.length=(n+1)*256^(l.length+1):=by rw[Nat.pow_succ,Nat.mul_assoc,Nat.mul_comm 256]
  simp only[List.foldl_cons,gD];omega
theorem aAu(l:List UInt8):zC l<256^l.length:=by
 have:=bW l 0
 simpa[zC]using this
theorem aCw(l:List UInt8)(h:l.length<=4):zC l<4294967296:=by
 have h1:=aAu l;have h2:256^l.length<=256^4:=Nat.pow_le_pow_right (by omega) h;have h3:256^4=4294967296:=by decide
 omega
structure eC where
 session:Nat
 number:Nat
 count:Nat
 deriving DecidableEq
structure Pc where
 st:eC
 place:Nat
 b:List UInt8
def jB (s:List UInt8):Option Pc:=
 if s.length=64/\s.getD 0 0=165/\s.getD 1 0=90/\(s.getD 14 0).toNat<=48 then
  some { st:={ session:=zC ((s.drop 2).take 4),number:=zC ((s.drop 6).take 4),count:=zC ((s.drop 12).take 2) },place:=zC ((s.drop 10).take 2),b:=(s.drop 16).take (s.getD 14 0).toNat }
 else none
def wB (n k:Nat):UInt8:=UInt8.ofNat (n / 256^k)
def lD (p:Pc):List UInt8:=
 [165,90,wB p.st.session 3,wB p.st.session 2,wB p.st.session 1,wB p.st.session 0,wB p.st.number 3,wB p.st.number 2,wB p.st.number 1,wB p.st.number 0,
  wB p.place 1,wB p.place 0,wB p.st.count 1,wB p.st.count 0,UInt8.ofNat p.b.length,0]++p.b
theorem cW(p:Pc):(lD p).length=16+p.b.length:=by simp[lD];omega
def nC (st:eC):Nat->List (List UInt8)->Option (List UInt8)
 | _,[]=>some []
 | k,s::L=>
  match jB s with
  | none=>none
  | some q=>if q.st=st/\q.place=k/\(k+1<st.count->q.b.length=48) then (nC st (k+1) L).map (q.b++·) else none
def bB (L:List (List UInt8)):Option (eC×List UInt8):=
 match L with
 | []=>none
 | s::_=>
  match jB s with
  | none=>none
  | some p=>if p.st.count<1∨L.length<p.st.count then none else (nC p.st 0 (L.take p.st.count)).map fun b=>(p.st,b)
def pA (size:Nat):Nat:=if size=0 then 1 else (size-1) / 48+1
def aLl (size:Int):Int:=if size<=0 then 1 else (size-1) / 48+1
def gE (session number:Nat) (b:List UInt8) (k:Nat):Pc:=
 { st:={ session:=session,number:=number,count:=pA b.length },place:=k,b:=(b.drop (48*k)).take 48 }
def tB (L:List (List UInt8)):Nat×Nat:=
 L.foldl (fun a s=>match jB s with|some p=>(max a.1 p.st.session,max a.2 p.st.number)|none=>a) (0,0)
def rA:Nat->Option eC->List (List UInt8)->List (eC×List UInt8)
 | 0,_,_=>[]
 | n+1,last,L=>
  match bB L with
  | none=>[]
  | some (st,b)=>
   if (match last with|none=>false|some l=>decide (st.number≠(l.number+1)%4294967296∨st.session<l.session)) then []
   else (st,b)::rA n (some st) (L.drop st.count)
end
section
open Go.RowKit
theorem aOf(x u:Nat)(hu:u<256):x*256 ||| u=x*256+u:=by
 have h:=Nat.shiftLeft_add_eq_or_of_lt (b:=u) (i:=8) (by omega) x;have e:x <<< 8=x*256:=by rw[Nat.shiftLeft_eq]
 rw[e]at h;exact h.symm
theorem aRB(x u:Nat)(hx:x<16777216)(hu:u<256):bits .or .u32 ((x:Int)*256) (u:Int)=((x*256+u:Nat):Int):=by
 have e1:((x:Int)*256)=((x*256:Nat):Int):=by omega
 rw[e1]
 show IntKind.u32.wrap ((BitVec.ofInt 32 ((x*256:Nat):Int) ||| BitVec.ofInt 32 (u:Int)).toNat:Int)=_
 rw[BitVec.toNat_or,kP,kP,lP,lP,pK (by omega),pK (by omega),aOf x u hu];simp only[Go.IntKind.wrap_u32];omega
theorem aJM(x u:Nat)(hx:x<256)(hu:u<256):bits .or .i64 ((x:Int)*256) (u:Int)=((x*256+u:Nat):Int):=by
 have e1:((x:Int)*256)=((x*256:Nat):Int):=by omega
 rw[e1]
 show IntKind.i64.wrap ((BitVec.ofInt 64 ((x*256:Nat):Int) ||| BitVec.ofInt 64 (u:Int)).toNat:Int)=_
 rw[BitVec.toNat_or,kP,kP,lP,lP,pK (by omega),pK (by omega),aOf x u hu];rw[iD];omega
def aQj (l:List UInt8) (n i:Value):Prop:=∃k:Nat,k<=4/\i=.int .i64 k/\n=.int .u32 ((zC (l.take k):Nat):Int)
theorem aMv{l:List UInt8}{k:Nat}{u:UInt8}(hu:l[k]? = some u):zC (l.take (k+1))=zC (l.take k)*256+u.toNat:=by
 have hlt:k<l.length:=(tD.1 hu).1;rw[jP hlt,aHo];rw[xD hlt]at hu;simp only[vI]at hu;rw[hu]
theorem aHp{w:World}{g off n c:Nat}{l:List UInt8}(hl:l.length=4)(hn:4<=n)(hnc:n<=c)(hc:∀(j:Nat) (u:UInt8),l[j]? = some u->w.cell? ⟨g,off+j,none⟩=some (.int .u8 (u.toNat:Int))):
  Calls prog 145 #[.slice (some ⟨g,off,none⟩) n c] w fun e w'=>e=.returned (.int .u32 ((zC l:Nat):Int))/\w=w':=by
 have HC:=lh hc;have HL:=lh hl;clear hc hl
 go_enter func145,ntmps145
 go_wp2
 go_loop [3,9] (aQj l) (fun _ i=>4-(intOf i).toNat)
 case atStart=>exact⟨0,by omega,rfl,rfl⟩
 case round=>
  obtain⟨k,hk,rfl,rfl⟩:=hrel
  by_cases hk4:k<4
  ·obtain⟨u,hu⟩:∃u,l[k]? = some u:=gx (by rw[HL.o];exact hk4);have cu:=HC.o k u hu;have hlt:=aAu (l.take k);have hle:256^(l.take k).length<=256^3:=Nat.pow_le_pow_right (by omega) (by rw[jC];omega);have h3:256^3=16777216:=by decide
   have hx:zC (l.take k)<16777216:=by omega
   have hub:u.toNat<256:=u.toNat_lt;have hst:=aMv hu;have HST:=lh hst;clear hst hlt hle h3 hu;generalize zC (l.take k)=x at *;have hor:=aRB x u.toNat hx hub;have HOR:=lh hor;clear hor
   go_wp2
   rw[HOR.o];exact⟨⟨k+1,by omega,by go_num,by rw[HST.o]⟩,by simp[intOf];omega⟩
  ·have hk4':k=4:=by omega
   subst hk4';have e:l.take 4=l:=zF (by rw[HL.o];omega);rw[e]
   go_wp2
   go_ret
   exact⟨rfl,rfl⟩
theorem aHq{w:World}{g off n c:Nat}{l:List UInt8}(hl:l.length=2)(hn:2<=n)(hc:∀(j:Nat) (u:UInt8),l[j]? = some u->w.cell? ⟨g,off+j,none⟩=some (.int .u8 (u.toNat:Int))):
  Calls prog 146 #[.slice (some ⟨g,off,none⟩) n c] w fun e w'=>e=.returned (.int .i64 ((zC l:Nat):Int))/\∃m,w'=w.drewN m:=by
 match l,hl with
 | [u,v],_=>
  have c0:w.cell? ⟨g,off,none⟩=some (.int .u8 (u.toNat:Int)):=hc 0 u rfl;have c1:w.cell? ⟨g,off+1,none⟩=some (.int .u8 (v.toNat:Int)):=hc 1 v rfl;have hub:u.toNat<256:=u.toNat_lt;have hvb:v.toNat<256:=v.toNat_lt;have hor:=aJM u.toNat v.toNat hub hvb;have HOR:=lh hor;clear hor hc;have hn1:(1:Int)<(n:Int):=by omega
  go_enter func146,ntmps146
  go_wp2
  go_quiet (fail)
  go_wp2
  go_ret
  refine⟨?_,_,rfl⟩
  show Ending.returned (.int .i64 (bits .or .i64 ((u.toNat:Int)*256) (v.toNat:Int)))=_
  rw[HOR.o]
  simp[zC]
section
variable {P : Program} {o : Oper} {a : Act} {w : World} {K : Act -> World -> Prop} {Q : Exit -> Act -> World -> Prop}
theorem jA{f:FuncId}{l:List Operand}{tys:Array TypeId}(ho:o.op=.call { callee:=.value (.func f),args:=l.toArray,argTypes:=tys })(vs:List Value)(hvs:l.map a.eval=vs)
 (he:∀w,(callFunc f vs.toArray).run P w=.ok (.enter f vs.toArray) w)
 (hc:Calls P f vs.toArray w (fun e w'=>∃v,e=.returned v/\K (a.put o.dst v) w')):Oper.wp P o a w K Q:=by
 unfold Oper.wp;have hm:l.toArray.map a.eval=vs.toArray:=by rw[<- hvs];simp
 have hrun:(execOp a.eval o).run P w=.ok (.enter f vs.toArray) w:=by
  simp only[execOp,ho,resolve,hm]
  simp[invoke,Act.eval,he,Deferred.ofValue]
 rw[hrun];refine hc.mono ?_;rintro e w' ⟨v,rfl,h⟩;exact h
end
section
variable {P : Program} {o : Oper} {a : Act} {w : World} {K : Act -> World -> Prop} {Q : Exit -> Act -> World -> Prop}
theorem xX{g:Nat}{t':TypeId}{old:List Value}(t:TypeId)(x y:Operand)(ho:o.op=.store t x y)(cs:List Value)
 (hx:a.eval x=.pointer (some ⟨g,0,none⟩))(hy:a.eval y=.agg cs.toArray)(hb:Blk w g t' old)
 (hi:(P.info? t).map (·.size)=some cs.length)(hl:old.length=cs.length)(h1:∀v∈cs,v.oneCell'=true)
 (h:K (a.put o.dst undef) (w.setRow g cs.toArray)):Oper.wp P o a w K Q:=by
 have hrun:=run_storeVar_row (P:=P) w g t' t old.toArray cs.toArray hb (by simpa using hi) (by simpa using hl) (Go.all_oneCell_toArray h1);unfold Oper.wp
 simp[execOp,ho,hx,hy,Instr.storeAt,Instr.sureAddr,hrun,Result.andThen]
 exact h
theorem aCx{t t2 e e2 ty:TypeId}(ht:P.underlying t=some (.slice e))(h2:P.underlying t2=some (.slice e2))(A B:Option Addr)(n c m d:Nat):
  (Builtin.append_ #[t,t2] ty #[.slice A n c,.slice B m d]).run P w=(Builtin.append_ #[t,t] ty #[.slice A n c,.slice B m d]).run P w:=by
 have h3:∀w,(underlying t2).run P w=.ok (.slice e2) w:=fun w=>by simp[underlying,go_sem,h2]
 have h4:∀w,(underlying t).run P w=.ok (.slice e) w:=fun w=>by simp[underlying,go_sem,ht]
 unfold Builtin.append_
 simp[go_sem,h3,h4]
theorem yX{ops:Array Oper}{rest:List Oper}{Q:Exit->Act->World->Prop}(hgd:o.guard=none)(s x:Operand)(t t2:TypeId)
 (ho:o.op=.call { callee:=.builtin .append,args:=#[s,x],argTypes:=#[t,t2] })
 (e e2:TypeId)(i:TypeInfo)(z:Value)(bytes:Nat)(ht:P.underlying t=some (.slice e))(ht2:P.underlying t2=some (.slice e2))(hi:P.info? e=some i)(hz:i.zero=some z)
 (hsize:i.size=1)(hby:i.bytes=bytes)(hzs:z.cells.size=1)
 (A:Option Addr)(cc n:Nat)(xs:List Value)(hs:a.eval s=.slice A n cc)(hown:w.ownsRow 0 e 1 (.slice A n cc) n xs)
 (ad:Addr)(m c:Nat)(news:List Value)(hx:a.eval x=.slice (some ad) m c)(hl:news.length=m)(hnews:∀j u,news[j]? = some u->w.cell? (ad.add j)=some u)(h1:∀u∈news,u.oneCell'=true)
 (hm:0<m)(h63:n+m<=maxLen)(hbytes:(n+m)*bytes<=140737488355328)
 (h:∀g cap w',w'.ownsRow 0 e 1 (.slice (some ⟨g,0,none⟩) (n+m) cap) (n+m) (xs++news)->w.grownBy w' (Value.slice A n cc).ownBlock->((Value.slice A n cc).ownBlock=some g∨g=w.heap.size)->g<w'.heap.size->wpList P ops Q rest (a.put o.dst (.slice (some ⟨g,0,none⟩) (n+m) cap)) w'):wpList P ops Q (o::rest) a w:=by
 obtain⟨g,cap,w',hr,h2,h3,h4,h5⟩:=run_append_lies (P:=P) w t o.type 0 e i z 1 bytes ht hi hz hsize hby hzs (by omega) _ n xs hown ad m c news (by omega) hnews h1 hm h63 hbytes (rB _) _ rfl;rw[<- aCx ht ht2]at hr;refine Go.wpList_plain hgd fun K hK=>?_;unfold Oper.wp execOp;simp only[ho,resolve,invoke,builtin,Go.Sem.run_bind,Go.Sem.run_pure,Go.Result.andThen_ok,List.map_toArray,yJ,List.map_nil,hs,hx,hr];exact hK _ _ (h g cap w' h2 h3 h4 h5)
theorem aBu{t t2 e e2 ty:TypeId}(ht:P.underlying t=some (.slice e))(h2:P.underlying t2=some (.slice e2))(hi:(P.info? e).map (·.size)=some 1)(A:Option Addr)(B:Option Addr)(n c d:Nat)(hn:n<=c):
  (Builtin.append_ #[t,t2] ty #[.slice A n c,.slice B 0 d]).run P w=.ok (.slice A n c) w:=by
 obtain⟨i,hi1,hi2⟩:=Option.map_eq_some_iff.1 hi;have h3:∀w,(underlying t2).run P w=.ok (.slice e2) w:=fun w=>by simp[underlying,go_sem,h2]
 have h4:∀w,(underlying t).run P w=.ok (.slice e) w:=fun w=>by simp[underlying,go_sem,ht]
 have h5:∀w,(sizeOf e).run P w=.ok 1 w:=fun w=>by simp[sizeOf,typeInfo,go_sem,hi1,hi2]
 unfold Builtin.append_
 cases A<;>cases B<;>simp[go_sem,h3,h4,h5,hn,loadCellsFrom]
theorem aO{ops:Array Oper}{rest:List Oper}{Q:Exit->Act->World->Prop}(hgd:o.guard=none)(s x:Operand)(t t2:TypeId)
 (ho:o.op=.call { callee:=.builtin .append,args:=#[s,x],argTypes:=#[t,t2] })
 (e e2:TypeId)(ht:P.underlying t=some (.slice e))(ht2:P.underlying t2=some (.slice e2))(hi:(P.info? e).map (·.size)=some 1)
 (A:Option Addr)(B:Option Addr)(n c d:Nat)(hs:a.eval s=.slice A n c)(hx:a.eval x=.slice B 0 d)(hn:n<=c)
 (h:wpList P ops Q rest (a.put o.dst (.slice A n c)) w):wpList P ops Q (o::rest) a w:=by
 have hr:=aBu (P:=P) (w:=w) (ty:=o.type) ht ht2 hi A B n c d hn;refine Go.wpList_plain hgd fun K hK=>?_;unfold Oper.wp execOp;simp only[ho,resolve,invoke,builtin,Go.Sem.run_bind,Go.Sem.run_pure,Go.Result.andThen_ok,List.map_toArray,yJ,List.map_nil,hs,hx,hr];exact hK _ _ h
end
theorem aCy(vs:Array Value)(w:World):(callFunc 145 vs).run prog w=.ok (.enter 145 vs) w:=by kernel_rfl
theorem aCz(vs:Array Value)(w:World):(callFunc 146 vs).run prog w=.ok (.enter 146 vs) w:=by kernel_rfl
def cJ (w:World) (g:Nat) (s:List UInt8):Prop:=Blk w g 5 (fA s)/\s.length=64
def nT (g:Nat):Value:=.slice (some ⟨g,0,none⟩) 64 64
def aCA (g:Nat) (p:Pc):Array Value:=#[.int .u32 (p.st.session:Int),.int .u32 (p.st.number:Int),.int .i64 (p.st.count:Int),.int .i64 (p.place:Int),.slice (some ⟨g,16,none⟩) p.b.length 48]
def eQ:Array Value:=#[.int .u32 0,.int .u32 0,.int .i64 0,.int .i64 0,.slice none 0 0]
def aCB (g:Nat) (s:List UInt8):Value:=
 match jB s with
 | some p=>.tuple #[.agg (aCA g p),.bool true]
 | none=>.tuple #[.agg eQ,.bool false]
theorem cJ.at_{w:World}{g:Nat}{s:List UInt8}(h:cJ w g s){j:Nat}{u:UInt8}(hu:s[j]? = some u):w.cell? ⟨g,j,none⟩=some (.int .u8 (u.toNat:Int)):=h.1.at_ (by rw[uG,hu];rfl)
theorem cJ.fr{S:List Nat}{w w':World}{g:Nat}{s:List UInt8}(h:cJ w g s)(hf:Fr S w w')(hg:g∉S:=by simp):cJ w' g s:=⟨h.1.fr hf hg,h.2⟩
theorem aOg{w:World}{g:Nat}{s:List UInt8}(h:cJ w g s)(hp:jB s=none):
  RV 114 #[nT g] w (.tuple #[.agg eQ,.bool false]):=by
 have hl:=h.2;obtain⟨s0,h0⟩:∃s0,s[0]? = some s0:=gx (by omega);obtain⟨s1,h1⟩:∃s1,s[1]? = some s1:=gx (by omega);obtain⟨s14,h14⟩:∃s14,s[14]? = some s14:=gx (by omega);have c0:=h.at_ h0;have c1:=h.at_ h1;have c14:=h.at_ h14;have hg:=h.1.lt
 have hno:¬ (s0.toNat=165/\s1.toNat=90/\s14.toNat<=48):=by
  rintro⟨a,b,c⟩;unfold jB at hp;rw[iA ⟨hl,by rw[wP,h0];exact gR.1 a,by rw[wP,h1];exact gR.1 b,by rw[wP,h14];exact c⟩]at hp
  cases hp
 clear hp h h0 h1 h14 hl;unfold nT
 by_cases e0:s0.toNat=165
 ·have n0:((s0.toNat:Int)!=165)=false:=by rw[bne_eq_false_iff_eq];omega
  by_cases e1:s1.toNat=90
  ·have n1:((s1.toNat:Int)!=90)=false:=by rw[bne_eq_false_iff_eq];omega
   have e14:48<s14.toNat:=by omega
   clear hno e0 e1
   go_enter func114,ntmps114
   go_wp2
   exact eF (v:=.tuple #[.agg eQ,.bool false]) (by simp[results,go_sem,eQ]) rfl ⟨rfl,(Fr.refl [] w).alloc _⟩
  ·have n1:((s1.toNat:Int)!=90)=true:=by rw[aJ];omega
   clear hno e0 e1
   go_enter func114,ntmps114
   go_wp2
   exact eF (v:=.tuple #[.agg eQ,.bool false]) (by simp[results,go_sem,eQ]) rfl ⟨rfl,(Fr.refl [] w).alloc _⟩
 ·have n0:((s0.toNat:Int)!=165)=true:=by rw[aJ];omega
  clear hno e0
  go_enter func114,ntmps114
  go_wp2
  exact eF (v:=.tuple #[.agg eQ,.bool false]) (by simp[results,go_sem,eQ]) rfl ⟨rfl,(Fr.refl [] w).alloc _⟩
theorem fQ{w:World}{g:Nat}{s:List UInt8}(h:cJ w g s)(k n:Nat):∀(j:Nat) (u:UInt8),((s.drop k).take n)[j]? = some u->w.cell? ⟨g,k+j,none⟩=some (.int .u8 (u.toNat:Int)):=by
 intro j u hu;refine h.at_ ?_;rw[xG]at hu
 split at hu
 ·rw[xJ]at hu;exact hu
 ·cases hu
theorem zX{s:List UInt8}(h:s.length=64)(k n:Nat)(hk:k+n<=64):((s.drop k).take n).length=n:=by rw[jC,mC];omega
theorem aMw{w:World}{g:Nat}{s:List UInt8}{p:Pc}(h:cJ w g s)(hp:jB s=some p):
  RV 114 #[nT g] w (.tuple #[.agg (aCA g p),.bool true]):=by
 have hl:=h.2;obtain⟨s0,h0⟩:∃s0,s[0]? = some s0:=gx (by omega);obtain⟨s1,h1⟩:∃s1,s[1]? = some s1:=gx (by omega);obtain⟨s14,h14⟩:∃s14,s[14]? = some s14:=gx (by omega);have c0:=h.at_ h0;have c1:=h.at_ h1;have c14:=h.at_ h14;have hg:=h.1.lt
 have hyes:s.length=64/\s.getD 0 0=165/\s.getD 1 0=90/\(s.getD 14 0).toNat<=48:=by
  unfold jB at hp
  split at hp
  ·assumption
  ·cases hp
 unfold jB at hp;rw[iA hyes]at hp;simp only[vI]at hp;obtain⟨_,a0,a1,a14⟩:=hyes;rw[wP,h0]at a0;rw[wP,h1]at a1;rw[wP,h14]at a14;simp only[yT]at a0 a1 a14
 have hpb:p.b.length=s14.toNat:=by
  rw[<- hp,wP,h14];exact zX hl 16 _ (by simp only[yT];omega)
 have e0:s0.toNat=165:=by rw[a0];rfl
 have e1:s1.toNat=90:=by rw[a1];rfl
 have n0:((s0.toNat:Int)!=165)=false:=by rw[bne_eq_false_iff_eq];omega
 have n1:((s1.toNat:Int)!=90)=false:=by rw[bne_eq_false_iff_eq];omega
 have HP:=lh hp;have H:=lh h;have HL:=lh hl;have HPB:=lh hpb;have H14:=lh h14;clear hp h hl hpb h0 h1 h14 a0 a1 e0 e1;unfold nT
 go_enter func114,ntmps114
 go_wp2
 have hub:s14.toNat<256:=s14.toNat_lt;have hw1:IntKind.i64.wrap (s14.toNat:Int)=(s14.toNat:Int):=by rw[iD];omega
 have hw2:IntKind.i64.wrap (16+(s14.toNat:Int))=16+(s14.toNat:Int):=by rw[iD];omega
 have hw3:(0:Int)<=16+(s14.toNat:Int)/\16+(s14.toNat:Int)<=64:=by omega
 have hw4:(16:Int)<=max (16+(s14.toNat:Int)) 0:=by omega
 have hw5:(16+(s14.toNat:Int)).toNat-16=s14.toNat:=by omega
 have hz:∀o:Obj,(w.alloc o).cell? ⟨g,14,none⟩=some (.int .u8 (s14.toNat:Int)):=fun o=>by rw[World.cell?_alloc_lt _ _ _ (by exact hg)];exact c14
 have hS0:∀o:Obj,cJ (w.alloc o) g s:=fun o=>H.o.fr ((Fr.refl [] w).alloc o);refine lA (fun W=>W.cell? ⟨g,14,none⟩=some (.int .u8 (s14.toNat:Int))) [0,1,3,4,6,7,9,10,11,13,14,15,16,17,18,19,20] (by kernel_rfl) ?_;refine qA (i:=0) (some 26) ?vj0 rfl rfl (by kernel_rfl) (fun _ _ _ h=>h) (hz _) (.inl ⟨rfl,fun W hW=>?yj0⟩) ?rj0
 case yj0=>go_simp<;>with_reducible rfl
 simp only[nrm];refine qA (i:=1) (some 27) ?vj1 rfl rfl (by kernel_rfl) (fun _ _ _ h=>h) (hz _) (.inl ⟨rfl,fun W hW=>?yj1⟩) ?rj1
 case yj1=>go_simp<;>with_reducible rfl
 simp only[nrm];refine qA (i:=3) (some 29) ?vj3 rfl rfl (by kernel_rfl) (fun _ _ _ h=>h) (hz _) (.inl ⟨rfl,fun W hW=>?yj3⟩) ?rj3
 case yj3=>go_simp<;>with_reducible rfl
 simp only[nrm];refine qA (i:=4) (some 30) ?vj4 rfl rfl (by kernel_rfl) (fun _ _ _ h=>h) (hz _) (.inl ⟨rfl,fun W hW=>?yj4⟩) ?rj4
 case yj4=>go_simp<;>with_reducible rfl
 simp only[nrm];refine qA (i:=6) (some 32) ?vj6 rfl rfl (by kernel_rfl) (fun _ _ _ h=>h) (hz _) (.inl ⟨rfl,fun W hW=>?yj6⟩) ?rj6
 case yj6=>go_simp<;>with_reducible rfl
 simp only[nrm];refine qA (i:=7) (some 33) ?vj7 rfl rfl (by kernel_rfl) (fun _ _ _ h=>h) (hz _) (.inl ⟨rfl,fun W hW=>?yj7⟩) ?rj7
 case yj7=>go_simp<;>with_reducible rfl
 simp only[nrm];refine qA (i:=10) (some 36) ?vj10 rfl rfl (by kernel_rfl) (fun _ _ _ h=>h) (hz _) (.inl ⟨rfl,fun W hW=>?yj10⟩) ?rj10
 case yj10=>go_simp<;>with_reducible rfl
 simp only[nrm];refine qA (i:=11) (some 37) ?vj11 rfl rfl (by kernel_rfl) (fun _ _ _ h=>h) (hz _) (.inl ⟨rfl,fun W hW=>?yj11⟩) ?rj11
 case yj11=>go_simp<;>with_reducible rfl
 simp only[nrm];refine qA (i:=13) (some 39) ?vj13 rfl rfl (by kernel_rfl) (fun _ _ _ h=>h) (hz _) (.inl ⟨rfl,fun W hW=>?yj13⟩) ?rj13
 case yj13=>go_simp<;>with_reducible rfl
 simp only[nrm];refine qA (i:=14) (some 40) ?vj14 rfl rfl (by kernel_rfl) (fun _ _ _ h=>h) (hz _) (.inl ⟨rfl,fun W hW=>?yj14⟩) ?rj14
 case yj14=>go_simp<;>with_reducible rfl
 simp only[nrm];refine qA (i:=15) (some 41) ?vj15 rfl rfl (by kernel_rfl) (fun _ _ _ h=>h) (hz _) (.inl ⟨rfl,fun W hW=>?yj15⟩) ?rj15
 case yj15=>go_simp<;>with_reducible rfl
 simp only[nrm];refine qA (i:=16) (some 42) ?vj16 rfl rfl (by kernel_rfl) (fun _ _ _ h=>h) (hz _) (.inl ⟨rfl,fun W hW=>?yj16⟩) ?rj16
 case yj16=>go_simp<;>with_reducible rfl
 simp only[nrm];refine qA (i:=17) (some 43) ?vj17 rfl rfl (by kernel_rfl) (fun _ _ _ h=>h) (hz _) (.inl ⟨rfl,fun W hW=>?yj17⟩) ?rj17
 case yj17=>go_simp<;>with_reducible rfl
 simp only[nrm];refine qA (i:=18) (some 44) ?vj18 rfl rfl (by kernel_rfl) (fun _ _ _ h=>h) (hz _) (.inl ⟨rfl,fun W hW=>?yj18⟩) ?rj18
 case yj18=>go_simp<;>with_reducible rfl
 simp only[nrm];refine qA (i:=19) (some 45) ?vj19 rfl rfl (by kernel_rfl) (fun _ _ _ h=>h) (hz _) (.inl ⟨rfl,fun W hW=>?yj19⟩) ?rj19
 case yj19=>go_simp<;>with_reducible rfl
 simp only[nrm];have hS0':∀o:Obj,cJ ((w.alloc o).drew) g s:=fun o=>H.o.fr (((Fr.refl [] w).alloc o).drew);have hF0:∀o:Obj,Fr [] w ((w.alloc o).drew):=fun o=>((Fr.refl [] w).alloc o).drew;refine sp 2 rfl rfl rfl fun K hK=>?_;refine jA (l:=[.tmp 27]) rfl [.slice (some ⟨g,2,none⟩) 62 62] rfl (aCy _) ((aHp (l:=(s.drop 2).take 4) (zX HL.o 2 4 (by omega)) (by omega) (by omega) (fQ (hS0' _) 2 4)).mono ?_);rintro e w1 ⟨rfl,rfl⟩;refine⟨_,rfl,hK _ _ (fun _=>cJ.at_ (hS0' _) H14.o) ?_⟩;simp only[nrm];refine sp 5 rfl rfl rfl fun K hK=>?_;refine jA (l:=[.tmp 30]) rfl [.slice (some ⟨g,6,none⟩) 58 58] rfl (aCy _) ((aHp (l:=(s.drop 6).take 4) (zX HL.o 6 4 (by omega)) (by omega) (by omega) (fQ (hS0' _) 6 4)).mono ?_);rintro e w1 ⟨rfl,rfl⟩;refine⟨_,rfl,hK _ _ (fun _=>cJ.at_ (hS0' _) H14.o) ?_⟩;simp only[nrm];refine sp 8 rfl rfl rfl fun K hK=>?_;refine jA (l:=[.tmp 33]) rfl [.slice (some ⟨g,12,none⟩) 52 52] rfl (aCz _) ((aHq (l:=(s.drop 12).take 2) (zX HL.o 12 2 (by omega)) (by omega) (fQ (hS0' _) 12 2)).mono ?_);rintro e w1 ⟨rfl,m1,rfl⟩;refine⟨_,rfl,hK _ _ (fun _=>cJ.at_ ((hS0' _).fr ((Fr.refl [] _).drewN m1)) H14.o) ?_⟩;simp only[nrm];refine qA (i:=9) (some 35) ?vj9 rfl rfl (by kernel_rfl) (fun _ _ _ h=>h) (cJ.at_ ((hS0' _).fr ((Fr.refl [] _).drewN m1)) H14.o) (.inl ⟨rfl,fun W hW=>?yj9⟩) ?rj9
 case yj9=>go_simp<;>with_reducible rfl
 simp only[nrm];refine sp 12 rfl rfl rfl fun K hK=>?_;refine jA (l:=[.tmp 37]) rfl [.slice (some ⟨g,10,none⟩) 54 54] rfl (aCz _) ((aHq (l:=(s.drop 10).take 2) (zX HL.o 10 2 (by omega)) (by omega) (fQ ((hS0' _).fr ((Fr.refl [] _).drewN m1)) 10 2)).mono ?_);rintro e w1 ⟨rfl,m2,rfl⟩;refine⟨_,rfl,hK _ _ (fun _=>cJ.at_ (((hS0' _).fr ((Fr.refl [] _).drewN m1)).fr ((Fr.refl [] _).drewN m2)) H14.o) ?_⟩;simp only[nrm];refine qA (i:=20) (some 46) ?vj20 rfl rfl (by kernel_rfl) (fun _ _ _ h=>h) (cJ.at_ (((hS0' _).fr ((Fr.refl [] _).drewN m1)).fr ((Fr.refl [] _).drewN m2)) H14.o) (.inl ⟨rfl,fun W hW=>?yj20⟩) ?rj20
 case yj20=>go_simp<;>with_reducible rfl
 simp only[nrm];refine xA (j:=21) none rfl rfl (by kernel_rfl) rfl fun K hK=>?_;have ep:=HP.o;subst ep;have hsz:=lh HPB.o;refine xX 203 (.tmp 2) (.tmp 46) rfl [.int .u32 ((zC ((s.drop 2).take 4):Nat):Int),.int .u32 ((zC ((s.drop 6).take 4):Nat):Int),.int .i64 ((zC ((s.drop 12).take 2):Nat):Int),.int .i64 ((zC ((s.drop 10).take 2):Nat):Int),.slice (some ⟨g,16,none⟩) s14.toNat 48] rfl rfl ((Blk.new w _ _).fr ((((Fr.refl [] _).drew).drewN m1).drewN m2)) (by kernel_rfl) rfl (by simp[Value.oneCell']) (hK _ _ (fun h=>absurd h (by decide +kernel)) ?_);simp only[Act.put];refine sp 22 rfl rfl rfl fun K hK=>?_;refine xB (v:=.bool true) (w':=_) rfl (hK _ _ (fun h=>absurd h (by decide +kernel)) ?_);simp only[nrm];refine wd ?_ _;have hbF:=(((Blk.new w 203 [.int .u32 0,.int .u32 0,.int .i64 0,.int .i64 0,.slice none 0 0]).fr ((((Fr.refl [] _).drew).drewN m1).drewN m2))).row_ [.int .u32 ((zC ((s.drop 2).take 4):Nat):Int),.int .u32 ((zC ((s.drop 6).take 4):Nat):Int),.int .i64 ((zC ((s.drop 12).take 2):Nat):Int),.int .i64 ((zC ((s.drop 10).take 2):Nat):Int),.slice (some ⟨g,16,none⟩) s14.toNat 48];have hfF:=lh (((((hF0 (.cells #[.int .u32 0,.int .u32 0,.int .i64 0,.int .i64 0,.slice none 0 0] 203)).drewN m1).drewN m2).setRow (.inr (tA _))) #[.int .u32 ((zC ((s.drop 2).take 4):Nat):Int),.int .u32 ((zC ((s.drop 6).take 4):Nat):Int),.int .i64 ((zC ((s.drop 12).take 2):Nat):Int),.int .i64 ((zC ((s.drop 10).take 2):Nat):Int),.slice (some ⟨g,16,none⟩) s14.toNat 48]);have d0:=hbF.at_ (i:=0) rfl;have d1:=hbF.at_ (i:=1) rfl;have d2:=hbF.at_ (i:=2) rfl;have d3:=hbF.at_ (i:=3) rfl;have d4:=hbF.at_ (i:=4) rfl;have HB:=lh hbF;clear hbF
 revert d0 d1 d2 d3 d4 hfF HB
 generalize World.setRow _ _ _=wf;intro hfF d0 d1 d2 d3 d4 HB
 go_wp2
 refine eF (v:=.tuple #[.agg (aCA g _),.bool true]) ?_ rfl ⟨rfl,hfF.o⟩
 simp[results,go_sem,d0,d1,d2,d3,d4,aCA]
 refine Eq.trans hsz.o.symm ?_
 simp[xD (show 14<s.length by have:=HL.o;omega)]
theorem aAv{w:World}{g:Nat}{s:List UInt8}(h:cJ w g s):
  RV 114 #[nT g] w (aCB g s):=by
 unfold aCB
 cases hp:jB s with
 | none=>exact aOg h hp
 | some p=>exact aMw h hp
end
end Go.Proofs.YtebjhcjbfaaejaaGreatDoor
