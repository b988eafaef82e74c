/-
  Joined by join.py: Mv Mw Mx
-/
import Derived.Test.YtbggkiebfflcdaaGreatDoorJpp24
set_option maxRecDepth 100000
set_option maxHeartbeats 32000000
namespace Go.Proofs.YtbggkiebfflcdaaGreatDoor
section
open Go.RowKit Go.Shelf
theorem aEK:(Tryz.prog.info? 77).map (fun i=>(i.zero,i.size,i.bytes))=some (some (.agg #[.bool false,.slice none 0 0]),2,32):=by kernel_rfl
theorem bG:(Tryz.prog.info? 31).map (·.size)=some 2:=by kernel_rfl
theorem rU {q:QS} {x y:List UInt8} (h:q.next x=true) (hxy:(x == y)=false):q.next y=false:=by
 unfold QS.next at *;rw[Bool.and_eq_true,beq_iff_eq,beq_iff_eq] at h;rw[h.2,hxy,Bool.and_false]
theorem sU {txt:List UInt8} {E:Int -> Rd Xpr} {d:Int} {TS:List Tkn} {s':DS} {V:List Slr -> Prop} {q:QS} {X:Option (List Sgm × QS)} {X1:Option (List Slr × QS)} {acc:List Sgm} {m B:Nat} {dp:Bool} (hE:X=xE acc (dD txt E d (m+1) q)) (hS:fB txt E d q=X1.map fun r=>((.mk dp r.1,true),r.2)) (h:Mch V TS s' X1) (hon:∀ l q2,X1=some (l,q2) -> q2.l.length<=B):
  ∃ l,V l/\(s'.bad=true -> X=none)/\(s'.bad=false -> s'.k<=TS.length/\TS.length - s'.k<=B/\X=xE (acc ++ [.mk dp l]) (dD txt E d m (s'.q TS))):=by
 cases X1 with
 | none=>
  obtain⟨hb,y,hy⟩:=h
  have h3:X=none:=by
   rw[hE,zK,hS]
   rfl
  refine⟨y,hy,?_,?_⟩
  ·exact fun _=>h3
  ·intro h2;rw[hb] at h2
   cases h2
 | some y=>
  obtain⟨a,q2⟩:=y;obtain⟨hb,hk,hq,hv⟩:=h;refine⟨a,hv,?_,?_⟩
  ·intro h2;rw[hb] at h2
   cases h2
  intro _;refine⟨hk,?_,?_⟩
  ·have h2:=hon a q2 rfl;rw[<- hq,bC] at h2;exact h2
  ·rw[hE,zK,hS,hq]
   show xE acc (match dD txt E d m q2 with | none=>none | some (m,s'')=>some (.mk dp a :: m,s''))=_
   cases dD txt E d m q2 <;> simp[xE]
theorem aEL {txt:List UInt8} {E:Int -> Rd Xpr} {d:Int} {q:QS} (h1:q.next [91]=false) (h2:q.next [46,46]=false) (h3:q.next [46]=false):fB txt E d q=some ((.mk false [],false),q):=by
 unfold fB;rw[if_neg (by rw[h2];simp),if_neg (by rw[h1];simp),if_neg (by rw[h3];simp)]
theorem aGf {txt:List UInt8} {E:Int -> Rd Xpr} {d:Int} {q:QS} (h1:q.next [91]=true):fB txt E d q=(kB txt E d q.go).map fun r=>((.mk false r.1,true),r.2):=by
 unfold fB;rw[if_neg (by rw[rU h1 (by decide)];simp),if_pos h1]
 cases kB txt E d q.go <;> rfl
theorem aGg {txt:List UInt8} {E:Int -> Rd Xpr} {d:Int} {q:QS} (h1:q.next [46]=true):fB txt E d q=((xB q.go).map fun r=>([r.1],r.2)).map fun r=>((.mk false r.1,true),r.2):=by
 unfold fB;rw[if_neg (by rw[rU h1 (by decide)];simp),if_neg (by rw[rU h1 (by decide)];simp),if_pos h1]
 cases xB q.go <;> rfl
theorem aGh {txt:List UInt8} {E:Int -> Rd Xpr} {d:Int} {q:QS} (h1:q.next [46,46]=true) (h2:q.go.next [91]=true):fB txt E d q=(kB txt E d q.go.go).map fun r=>((.mk true r.1,true),r.2):=by
 unfold fB;rw[if_pos h1,if_pos h2]
 cases kB txt E d q.go.go <;> rfl
theorem aGi {txt:List UInt8} {E:Int -> Rd Xpr} {d:Int} {q:QS} (h1:q.next [46,46]=true) (h2:q.go.next [91]=false):fB txt E d q=((xB q.go).map fun r=>([r.1],r.2)).map fun r=>((.mk true r.1,true),r.2):=by
 unfold fB;rw[if_pos h1,if_neg (by rw[h2];simp)]
 cases xB q.go <;> rfl
section
variable {w w' : World} {r gl n : Nat} {txt : ByteArray} {TS : List Tkn} {s s' : DS} {E S : Int -> Rd Xpr}
theorem aAg {l:List Slr} {q2:QS} (h:((xB (s.go.q TS)).map fun r=>([r.1],r.2))=some (l,q2)):q2.l.length<=TS.length - (s.k+1):=by
 cases hr:xB (s.go.q TS) with
 | none=>rw[hr] at h;cases h
 | some y=>
  rw[hr] at h;injection h with h;injection h with _ h;have h1:=(aI _ _ _ (show xB (s.go.q TS)=some (y.1,y.2) by rw[hr])).length_le;rw[bC] at h1;rw[<- h];exact h1
def aGj (w:World) (r gl:Nat) (txt:ByteArray) (TS:List Tkn) (s0:DS) (E:Int -> Rd Xpr) (rel:Bool) (X:Option (List Sgm × QS)) (j:Nat) (wr:World):Prop:=
 ∃ (acc:List Sgm) (m:Nat) (s:DS) (v:Value),DAt wr r gl txt TS s/\s.d=s0.d/\Blk wr (w.heap.size+1) 31 [.bool rel,v]/\Blk wr w.heap.size 31 [.bool false,.slice none 0 0]/\iF wr (w.heap.size+2) 77 2 v (acc.map Sgm.cells)/\Fr [r] w wr /\
  ((s.bad=false/\acc.length<=s.k/\s0.k<=s.k/\s.k<=TS.length/\TS.length < m+s.k/\X=xE acc (dD (aA txt) E s0.d m (s.q TS))/\TS.length - s.k+1<=j) ∨ (s.bad=true/\X=none))
theorem kX (hE:oQ 128 txt E n) (hEo:∀ d,(E d).on) (h:DAt w r gl txt TS s) (hb:s.bad=false) (hk:s.k<=TS.length) (hn:(s.q TS).l.length<=n) (hd:s.d+(s.q TS).l.length<=80000) (rel:Bool):Calls Tryz.prog 25 #[.pointer (some ⟨r,0,none⟩),.bool rel] w (mR (cF Qry.cells w) w r gl txt TS s (pD (aA txt) E s.d rel (s.q TS))):=by
 refine bA fun R HQ=>?_;have hrlt:=h.lt;have hlen:=h.len;have hza:=(Blk.new w 31 [.bool false,.slice none 0 0]).alloc (.cells #[.bool rel,.slice none 0 0] 31);have hya:=Blk.new (w.alloc (.cells #[.bool false,.slice none 0 0] 31)) 31 [.bool rel,.slice none 0 0];have hfa:=((Fr.refl [] w).alloc (.cells #[.bool false,.slice none 0 0] 31)).alloc (.cells #[.bool rel,.slice none 0 0] 31);rw[show(w.alloc (.cells #[.bool false,.slice none 0 0] 31)).heap.size=w.heap.size+1 by simp] at hya;have HD0:=lh (h.fr hfa);have HZ0:=lh hza;have HY0:=lh hya;have HF0:Hid (Fr [r] w _):=lh (hfa.mono (by simp));obtain⟨iu,hi,hz',hsz',hby⟩:=info_parts aEK;have HEK:=lh hE;have HEO:=lh hEo;have HBD:=lh hb
 have hxq:pD (aA txt) E s.d rel (s.q TS)=(dD (aA txt) E s.d (TS.length - s.k+1) (s.q TS)).map fun r=>(.mk rel r.1,r.2):=by
  unfold pD;rw[bC]
  cases dD (aA txt) E s.d (TS.length - s.k+1) (s.q TS) <;> rfl
 obtain⟨X,hX⟩:∃ X,dD (aA txt) E s.d (TS.length - s.k+1) (s.q TS)=X:=⟨_,rfl⟩;rw[hX] at hxq;have hX0:X=xE [] (dD (aA txt) E s.d (TS.length - s.k+1) (s.q TS)):=by rw[hX];cases X <;> rfl
 have HXQ:=lh hxq;have HX0:=lh hX0;rw[bC] at hn hd;clear hza hya hfa h hE hEo hb hX hX0 hxq
 go_enter Tryz.func25,Tryz.ntmps25
 go_wp2_with fail;generalize (w.alloc (.cells #[.bool false,.slice none 0 0] 31)).alloc (.cells #[.bool rel,.slice none 0 0] 31)=w0 at *
 go_loopg [6] (TS.length - s.k+1) (fun j _ wr=>aGj w r gl txt TS s E rel X j wr)
 case atStart=>exact⟨[],TS.length - s.k+1,s,.slice none 0 0,HD0.o,rfl,HY0.o,HZ0.o,iF.nil _ _ _ _,HF0.o,.inl ⟨HBD.o,by simp,Nat.le_refl _,hk,by omega,HX0.o,Nat.le_refl _⟩⟩
 case round=>
  obtain⟨j,rfl⟩:=nm (gk);obtain⟨wA,rfl⟩:=nm (wr);obtain⟨acc,m,s1,v,hD,hdp1,hY,hZ,hO,hF,hcase⟩:=hrel;obtain⟨A,c,hov⟩:=hO.slice;rw[List.length_map] at hov;subst hov;have HD:=lh hD;have HY:=lh hY;have HZ:=lh hZ;have HO:=lh hO;have HF:=lh hF;have c5:=hD.cells.1 4 _ rfl;simp only[Nat.succ_ne_zero,if_false,Nat.reduceAdd] at c5;clear hD hY hZ hO hF HD0 HY0 HZ0 HF0;rcases hcase with ⟨hb1,hac,hle,hk1,hfu,hX,hjj⟩ | ⟨hb1,hX⟩
  ·obtain⟨m,rfl⟩:∃ m1,m=m1+1:=⟨m - 1,by omega⟩;have HX:=lh hX;have HB1:=lh hb1;have HAC:Hid (acc.length<=8193):=lh (by omega);rw[hb1] at c5;have HI:=lh (qK HD.o ⟨#[91]⟩);rw[show aA ⟨#[91]⟩=[91] from rfl] at HI;clear hX hb1
   cases hn1:s1.nx TS [91] with
   | true=>
    have hk2:s1.k+1<=TS.length:=aG hn1;have HSEG:=lh (aGf (txt:=aA txt) (E:=E) (d:=s.d) (q:=s1.q TS) hn1);rw[<- DS.q_go] at HSEG
    have HON:Hid (∀ l q2,kB (aA txt) E s.d (s1.go.q TS)=some (l,q2) -> q2.l.length<=TS.length - (s1.k+1)):=lh (fun l q2 h=>by
     have h1:=(vG HEO.o _ _ _ _ h).length_le;rw[bC] at h1;exact h1)
    rw[hn1,if_pos rfl] at HI;clear hn1;go_wp2_with fail;refine HI.o.mono ?_;rintro e w3 ⟨rfl,hd3,hf3⟩
    replace HF:=lh (HF.o.trans hf3 (fun x hx=>.inl hx))
    replace HZ:=lh (HZ.o.fr hf3 (by simp;omega))
    replace HY:=lh (HY.o.fr hf3 (by simp;omega))
    replace HO:=lh (HO.o.fr hf3 (fun x hx=>.inl (by simp at hx;omega)))
    replace HD:=lh hd3
    clear hd3 hf3 c5 HI;go_upto_region 5 with fail
    obtain⟨wA,rfl⟩:=nm (w3);have HCALL:=lh (qU HEK.o HEO.o (HD.o.fr ((Fr.refl [] wA).drew)) HB1.o hk2 (by rw[bC];show TS.length - (s1.k+1)<=n;omega) (by rw[bC];show s1.d+((TS.length - (s1.k+1):Nat):Int)<=80000;omega));rw[show s1.go.d=s.d from hdp1] at HCALL;have hYc:=HY.o;have hol:=HO.o.lt;have hyl:=HY.o.lt;refine mA (fun W=>Blk W (w.heap.size+1) 31 [.bool rel,.slice A acc.length c]/\True) [0,1,2,4,7] (by kernel_rfl) ?_;refine tks [0,1,2] ?_
    iterate 3 (refine tk rfl rfl ⟨hYc,trivial⟩ rfl (fun _ hW=>by(obtain⟨k0,k1⟩:=hW;have z1:=k0.at_ (i:=1) rfl;go_simp) <;> with_reducible rfl) ?_;simp only[nrm])
    refine tke ?_;refine sp 3 rfl rfl rfl fun K hK=>?_;have hfd:Fr [] wA wA.drew:=(Fr.refl [] wA).drew;refine zA (l:=[.tmp 20]) rfl [.pointer (some ⟨r,0,none⟩)] rfl (fun W=>by kernel_rfl) (HCALL.o.mono ?_);rintro e w5 ⟨v',s2,rfl,hd5,hdp5,hf5',hm5'⟩;have hm5:Mch (fun l=>aCR wA.drew w5 l v') TS s2 (kB (aA txt) E s.d (s1.go.q TS)):=hm5';have hf5:Fr [r] wA w5:=(hfd.mono (by simp):Fr [r] wA wA.drew).trans hf5' (fun x hx=>.inl hx);have HSZ:Hid (wA.heap.size<=w5.heap.size):=lh hf5.size
    replace HF:=lh (HF.o.trans hf5 (fun x hx=>.inl hx))
    replace HZ:=lh (HZ.o.fr hf5 (by simp;omega))
    replace HY:=lh (HY.o.fr hf5 (by simp;omega))
    replace HO:=lh (HO.o.fr hf5 (fun x hx=>.inl (by simp at hx;omega)))
    replace HD:=lh hd5
    have hYc5:=HY.o;refine⟨_,rfl,hK _ _ (fun _=>⟨hYc5,trivial⟩) ?_⟩;simp only[nrm];clear hK hfd hf5 hf5' hd5 hm5' HCALL;have HDP:Hid (s2.d=s.d):=lh (hdp5.trans hdp1);clear hdp5;obtain⟨l,hl,hz1,hz2⟩:=sU HX.o HSEG.o hm5 HON.o;have hcat:=hl;obtain⟨A2,c2,rfl,-⟩:=CAt.slice hcat;obtain⟨n2,hn2⟩:∃ n2,(l.map Slr.cells).length=n2:=⟨_,rfl⟩;rw[hn2] at hcat ⊢;have HZ1:=lh hz1;have HZ2:=lh hz2;have HCAT:Hid (CAt w5 (fun g=>wA.heap.size<=g) (.rows 10 (l.map Slr.cells)) (.slice A2 n2 c2)):=lh hcat;clear hl hcat hz1 hz2 hm5 hn2;have hwz:=HF.o.size
    have HROW:Hid (gA w5 (fun g=>w.heap.size+2<=g/\(Value.slice A acc.length c).ownBlock ≠ some g) (Sgm.cells (.mk false l)) [.bool false,.slice A2 n2 c2]):=lh (.tl rfl (.cons (by
     rw[yE]
     exact HCAT.o.mono (fun g hg=>⟨by have h2:wA.heap.size<=g:=hg;omega,fun e=>by
      have h1:=hol g e;have h2:wA.heap.size<=g:=hg;omega⟩)) (.nil _ _)))
    clear hol hyl HCAT;refine tks [4] ?_;refine tk rfl rfl ⟨hYc5,trivial⟩ rfl (fun _ hW=>by(obtain⟨k0,k1⟩:=hW;go_simp) <;> with_reducible rfl) ?_;simp only[nrm];refine tke ?_;refine sp 5 rfl rfl rfl fun K hK=>?_;refine kD (.tmp 22) rfl Tryz.underlying29 hi hz' [.bool false,.slice A2 n2 c2] rfl hsz' rfl (by simp) (by simp) (hK _ _ (fun _=>⟨hYc5.alloc _,trivial⟩) ?_);simp only[nrm];clear hK;have hb6:=Blk.new w5 77 [.bool false,.slice A2 n2 c2];have hf6:Fr [] w5 (w5.alloc (.cells #[.bool false,.slice A2 n2 c2] 77)):=(Fr.refl [] w5).alloc _;have hz6:(w5.alloc (.cells #[.bool false,.slice A2 n2 c2] 77)).heap.size=w5.heap.size+1:=by simp
    generalize w5.alloc (.cells #[.bool false,.slice A2 n2 c2] 77)=w6 at *;obtain⟨css,hcss,how6,hge6,-⟩:=HO.o;rw[List.length_map] at how6;have hYc6:=hYc5.fr hf6;refine sp 6 rfl rfl rfl fun K hK=>?_;refine jB (.tmp 19) (.tmp 23) rfl 77 2 32 Tryz.underlying29 hi hz' hsz' hby rfl (by omega) (.slice A acc.length c) acc.length css.flatten rfl (sB how6 hf6 (by simp)) ⟨w5.heap.size,0,none⟩ 1 1 [.bool false,.slice A2 n2 c2] rfl rfl (fun j u hu=>by rw[Addr.add_mid,Nat.zero_add];exact hb6.at_ hu) (HROW.o.one) (by omega) (by unfold maxLen;have:=HAC.o;omega) (by have:=HAC.o;omega) (w5.heap.size+1) hz6 fun g7 cap w7 ho7 hf7 hat7 hlt7=>hK _ _ (fun _=>⟨hYc6.fr hf7 (fun hm=>by have:=hge6 _ (by simpa using hm);omega),trivial⟩) ?_;simp only[nrm];clear hK;have hHO7:=iF.app (p:=Sgm.cells (.mk false l)) (l:=acc.map Sgm.cells) (g7:=g7) (cap:=cap) HO.o rfl hf6 hz6 (by have:=HY.o.lt;omega) rfl (by simpa using HROW.o) hf7 (by simpa using ho7) (by simpa using how6) hat7;have hYc7:=hYc6.fr hf7 (fun hm=>by have:=hge6 _ (by simpa using hm);omega);have hHF7:=(HF.o.trans hf6).trans hf7 (fun x hx=>.inr (by have:=hge6 _ (by simpa using hx);omega));have hHZ7:=(HZ.o.fr hf6).fr hf7 (fun hm=>by have:=hge6 _ (by simpa using hm);omega);have hHD7:=(HD.o.fr hf6).fr hf7 (fun x hx=>by have:=hge6 _ (by simpa using hx);omega);clear HF HZ HD HO HY HROW;have HO:=lh hHO7;have HF:=lh hHF7;have HZ:=lh hHZ7;have HD:=lh hHD7;have HY:=lh hYc7;clear hHO7 hHF7 hHZ7 hHD7 hb6 hf6 hz6 hf7 ho7 hat7 hlt7 how6 hge6 hYc hYc5 hYc6 hcss;refine tks [7] ?_;refine tk rfl rfl ⟨hYc7,trivial⟩ rfl (fun _ hW=>by(obtain⟨k0,k1⟩:=hW;go_simp) <;> with_reducible rfl) ?_;simp only[nrm];refine tke ?_;refine iC (j:=8) none rfl rfl (by kernel_rfl) rfl fun K hK=>?_;have q1:=hYc7.at_ (i:=1) rfl;have qf:=hYc7.free;refine pC (w':=w7.setCell ⟨w.heap.size+1,1,none⟩ (.slice (some ⟨g7,0,none⟩) (acc.length+1) cap)) (by go_simp) (hK _ _ (fun h=>absurd h (by decide +kernel)) ?_);simp only[Act.put];clear hK;refine wd ?_ _;clear q1 qf hYc7;have hf8:Fr [w.heap.size+1] w7 (w7.setCell ⟨w.heap.size+1,1,none⟩ (.slice (some ⟨g7,0,none⟩) (acc.length+1) cap)):=(Fr.refl [w.heap.size+1] w7).setCell (.inl (by simp)) _;have hy8:Blk (w7.setCell ⟨w.heap.size+1,1,none⟩ (.slice (some ⟨g7,0,none⟩) (acc.length+1) cap)) (w.heap.size+1) 31 [.bool rel,.slice (some ⟨g7,0,none⟩) (acc.length+1) cap]:=HY.o.set_ 1 _;generalize w7.setCell ⟨w.heap.size+1,1,none⟩ (.slice (some ⟨g7,0,none⟩) (acc.length+1) cap)=w8 at *
    replace HY:=lh hy8
    replace HF:=lh (HF.o.trans hf8 (fun x hx=>.inr (by simp at hx;omega)))
    replace HZ:=lh (HZ.o.fr hf8)
    replace HD:=lh (HD.o.fr hf8 (by simp;omega))
    replace HO:=lh (HO.o.fr hf8 (fun x hx=>.inl (by simp at hx;omega)))
    clear hf8 hy8;have HMP:Hid ((acc ++ [Sgm.mk false l]).map Sgm.cells=acc.map Sgm.cells ++ [Sgm.cells (.mk false l)]):=lh (by simp);go_wp2_with fail
    cases hbd:s2.bad with
    | true=>
     have HXN:=lh (HZ1.o hbd)
     go_roundg 0
     case measure=>omega
     case rel=>exact⟨acc ++ [.mk false l],m,s2,_,HD.o,HDP.o,HY.o,HZ.o,by rw[HMP.o];simpa using HO.o,HF.o,.inr ⟨hbd,HXN.o⟩⟩
    | false=>
     obtain⟨g1,g2,g3⟩:=HZ2.o hbd;have HXN:=lh g3;clear g3
     go_roundg (TS.length - s2.k+1)
     case measure=>omega
     case rel=>exact⟨acc ++ [.mk false l],m,s2,_,HD.o,HDP.o,HY.o,HZ.o,by rw[HMP.o];simpa using HO.o,HF.o,.inl ⟨hbd,by rw[List.length_append];simp;omega,by omega,g1,by omega,HXN.o,Nat.le_refl _⟩⟩
   | false=>
    have HNB:Hid ((s1.q TS).next [91]=false):=lh hn1;rw[hn1,if_neg (by simp)] at HI;clear hn1;go_wp2_with fail;refine HI.o.mono ?_;rintro e w3 ⟨rfl,hd3,hf3⟩
    replace HF:=lh (HF.o.trans hf3 (fun x hx=>.inl hx))
    replace HZ:=lh (HZ.o.fr hf3 (by simp;omega))
    replace HY:=lh (HY.o.fr hf3 (by simp;omega))
    replace HO:=lh (HO.o.fr hf3 (fun x hx=>.inl (by simp at hx;omega)))
    replace HD:=lh hd3
    clear hd3 hf3 c5 HI;have HI:=lh (qK HD.o ⟨#[46,46]⟩);rw[show aA ⟨#[46,46]⟩=[46,46] from rfl] at HI
    cases hn2:s1.nx TS [46,46] with
    | true=>
     have hk2:s1.k+1<=TS.length:=aG hn2;have HN2:Hid ((s1.q TS).next [46,46]=true):=lh hn2;rw[hn2,if_pos rfl] at HI;clear hn2;go_wp2_with fail;refine HI.o.mono ?_;rintro e w4 ⟨rfl,hd4,hf4⟩
     replace HF:=lh (HF.o.trans hf4 (fun x hx=>.inl hx))
     replace HZ:=lh (HZ.o.fr hf4 (by simp;omega))
     replace HY:=lh (HY.o.fr hf4 (by simp;omega))
     replace HO:=lh (HO.o.fr hf4 (fun x hx=>.inl (by simp at hx;omega)))
     replace HD:=lh hd4
     clear hd4 hf4 HI;have hyl4:=HY.o.lt;have hol4:=HO.o.lt;have HO4:=HO;have hty:=Blk.new w4 77 [.bool true,.slice none 0 0];have hf5:Fr [] w4 (w4.alloc (.cells #[.bool true,.slice none 0 0] 77)):=(Fr.refl [] w4).alloc _;go_upto_region 8 with fail
     have hsz5:(w4.alloc (.cells #[.bool true,.slice none 0 0] 77)).heap.size=w4.heap.size+1:=by simp
     generalize w4.alloc (.cells #[.bool true,.slice none 0 0] 77)=w5 at *
     replace HF:=lh (HF.o.trans hf5);replace HZ:=lh (HZ.o.fr hf5);replace HY:=lh (HY.o.fr hf5);replace HD:=lh (HD.o.fr hf5)
     have HFD:Hid (Fr [r] w4 w5):=lh (hf5.mono (by simp));have HS6:=lh hty;clear hf5 hty HO;have HI:=lh (qK HD.o ⟨#[91]⟩);rw[show aA ⟨#[91]⟩=[91] from rfl] at HI
     cases hn3:s1.go.nx TS [91]
     case' true=>
      have hk3:s1.k+2<=TS.length:=aG hn3;have HSEG:=lh (aGh (txt:=aA txt) (E:=E) (d:=s.d) (q:=s1.q TS) HN2.o (by rw[<- DS.q_go];exact hn3));rw[<- DS.q_go,<- DS.q_go] at HSEG
      have HON:Hid (∀ l q2,kB (aA txt) E s.d (s1.go.go.q TS)=some (l,q2) -> q2.l.length<=TS.length - (s1.k+1)):=lh (fun l q2 h=>by
       have h1:=(vG HEO.o _ _ _ _ h).length_le;rw[bC] at h1;have h2:q2.l.length<=TS.length - (s1.k+2):=h1;omega)
      rw[hn3,if_pos rfl] at HI;clear hn3;go_wp2_with fail;refine HI.o.mono ?_;rintro e w6 ⟨rfl,hd6,hf6⟩
      replace HF:=lh (HF.o.trans hf6 (fun x hx=>.inl hx))
      replace HZ:=lh (HZ.o.fr hf6 (by simp;omega))
      replace HY:=lh (HY.o.fr hf6 (by simp;omega))
      replace HFD:=lh (HFD.o.trans hf6 (fun x hx=>.inl hx))
      replace HS6:=lh (HS6.o.fr hf6 (by simp;omega))
      replace HD:=lh hd6
      clear hd6 hf6 HI;have HCALL:=lh (qU HEK.o HEO.o HD.o HB1.o hk3 (by rw[bC];show TS.length - (s1.k+2)<=n;omega) (by rw[bC];show s1.d+((TS.length - (s1.k+2):Nat):Int)<=80000;omega));rw[show s1.go.go.d=s.d from hdp1] at HCALL;go_wp2_with fail;refine HCALL.o.mono ?_;rintro e w7 ⟨v',s2,rfl,hd7,hdp7,hf7,hm5'⟩;have hm5:Mch (fun l=>aCR w6 w7 l v') TS s2 (kB (aA txt) E s.d (s1.go.go.q TS)):=hm5'
     case' false=>
      have HSEG:=lh (aGi (txt:=aA txt) (E:=E) (d:=s.d) (q:=s1.q TS) HN2.o (by rw[<- DS.q_go];exact hn3));rw[<- DS.q_go] at HSEG;have HON:Hid (∀ l q2,((xB (s1.go.q TS)).map fun r=>([r.1],r.2))=some (l,q2) -> q2.l.length<=TS.length - (s1.k+1)):=lh (fun l q2 h=>aAg h);rw[hn3,if_neg (by simp)] at HI;clear hn3;go_wp2_with fail;refine HI.o.mono ?_;rintro e w6 ⟨rfl,hd6,hf6⟩
      replace HF:=lh (HF.o.trans hf6 (fun x hx=>.inl hx))
      replace HZ:=lh (HZ.o.fr hf6 (by simp;omega))
      replace HY:=lh (HY.o.fr hf6 (by simp;omega))
      replace HFD:=lh (HFD.o.trans hf6 (fun x hx=>.inl hx))
      replace HS6:=lh (HS6.o.fr hf6 (by simp;omega))
      replace HD:=lh hd6
      clear hd6 hf6 HI;have HCALL:=lh (aBP HD.o HB1.o hk2);go_wp2_with fail;refine HCALL.o.mono ?_;rintro e w7 ⟨v',s2,rfl,hd7,hdp7,hf7,hm5'⟩;have hm5:Mch (fun l=>aCR w6 w7 l v') TS s2 ((xB (s1.go.q TS)).map fun r=>([r.1],r.2)):=tE (f:=fun y=>[y]) hm5' rfl (fun y hy=>hy) rfl rfl rfl
     all_goals
      have HDP:Hid (s2.d=s.d):=lh (hdp7.trans hdp1);have hz46:=HFD.o.size;have hs6:=HS6.o.lt
      replace HF:=lh (HF.o.trans hf7 (fun x hx=>.inl hx))
      replace HZ:=lh (HZ.o.fr hf7 (by simp;omega))
      replace HY:=lh (HY.o.fr hf7 (by simp;omega))
      replace HFD:=lh (HFD.o.trans hf7 (fun x hx=>.inl hx))
      replace HS6:=lh (HS6.o.fr hf7 (by simp;omega))
      replace HD:=lh hd7
      clear hf7 hd7 hdp7 hm5' HCALL;obtain⟨l,hl,hz1,hz2⟩:=sU HX.o HSEG.o hm5 HON.o;have hcat:=hl;obtain⟨A2,c2,rfl,-⟩:=CAt.slice hcat;obtain⟨n2,hn2⟩:∃ n2,(l.map Slr.cells).length=n2:=⟨_,rfl⟩;rw[hn2] at hcat ⊢;have HZ1:=lh hz1;have HZ2:=lh hz2;have HCAT:Hid (CAt w7 (fun g=>w6.heap.size<=g) (.rows 10 (l.map Slr.cells)) (.slice A2 n2 c2)):=lh hcat;clear hl hcat hz1 hz2 hm5 hn2;have t1:=HS6.o.at_ (i:=1) rfl;have tf:=HS6.o.free;have hlt7:=HS6.o.lt;have hf8:Fr [w4.heap.size] w7 (w7.setCell ⟨w4.heap.size,1,none⟩ (.slice A2 n2 c2)):=(Fr.refl [w4.heap.size] w7).setCell (.inl (by simp)) _;have hs8:Blk (w7.setCell ⟨w4.heap.size,1,none⟩ (.slice A2 n2 c2)) w4.heap.size 77 [.bool true,.slice A2 n2 c2]:=HS6.o.set_ 1 _;go_upto_region 11 with fail
      generalize w7.setCell ⟨w4.heap.size,1,none⟩ (.slice A2 n2 c2)=w8 at *
      replace HF:=lh (HF.o.trans hf8 (fun x hx=>.inr (by simp at hx;omega)))
      replace HZ:=lh (HZ.o.fr hf8 (by simp;omega));replace HY:=lh (HY.o.fr hf8 (by simp;omega));replace HD:=lh (HD.o.fr hf8 (by simp;omega))
      replace HFD:=lh (HFD.o.trans hf8 (fun x hx=>.inr (by simp at hx;omega)))
      replace HCAT:=lh (HCAT.o.fr hf8 (fun g hg=>by simp;omega))
      have HS8:=lh hs8;have HO:=lh (HO4.o.fr HFD.o (fun x hx=>.inl (by simp at hx;omega)));have hol:=hol4;have hyl:=hyl4;clear hf8 hs8 t1 tf HS6 hlt7;have hwz:=HF.o.size
      have HROW:Hid (gA w8 (fun g=>w.heap.size+2<=g/\(Value.slice A acc.length c).ownBlock ≠ some g) (Sgm.cells (.mk true l)) [.bool true,.slice A2 n2 c2]):=lh (.tl rfl (.cons (by
       rw[yE]
       exact HCAT.o.mono (fun g hg=>⟨by have h2:w6.heap.size<=g:=hg;omega,fun e=>by
        have h1:=hol g e;have h2:w6.heap.size<=g:=hg;omega⟩)) (.nil _ _)))
      clear hol hyl HCAT;have y1:=HY.o.at_ (i:=1) rfl;have t0:=HS8.o.at_ (i:=0) rfl;have t1:=HS8.o.at_ (i:=1) rfl;have yf:=HY.o.free;obtain⟨css,hcss,how6,hge6,-⟩:=HO.o;rw[List.length_map] at how6;have hb9:=Blk.new w8 77 [.bool true,.slice A2 n2 c2];have hf9:Fr [] w8 (w8.alloc (.cells #[.bool true,.slice A2 n2 c2] 77)):=(Fr.refl [] w8).alloc _;have hz9:(w8.alloc (.cells #[.bool true,.slice A2 n2 c2] 77)).heap.size=w8.heap.size+1:=by simp
      have how9:=sB how6 hf9 (by simp);have hat9:∀ (j:Nat) (u:Value),[Value.bool true,.slice A2 n2 c2][j]? = some u -> (w8.alloc (.cells #[.bool true,.slice A2 n2 c2] 77)).cell? ((⟨w8.heap.size,0,none⟩:Addr).add j)=some u:=fun j u hu=>by rw[Addr.add_mid,Nat.zero_add];exact hb9.at_ hu
      have hml9:acc.length+1<=maxLen:=by unfold maxLen;have:=HAC.o;omega
      have hbb9:(acc.length+1) * 32<=140737488355328:=by have:=HAC.o;omega
      have k20:0 < 2:=by decide
      go_wp2_with (with_reducible refine eE rfl (.tmp 39) (.tmp 41) rfl 77 2 32 Tryz.underlying29 hi hz' hsz' hby aDL k20 (.slice A acc.length c) acc.length css.flatten rfl how9 ⟨w8.heap.size,0,none⟩ 1 1 [.bool true,.slice A2 n2 c2] rfl rfl hat9 HROW.o.one Nat.one_pos hml9 hbb9 (w8.heap.size+1) hz9 ?_)
      intro g7 cap w7' ho7 hf7 hat7;generalize w8.alloc (.cells #[.bool true,.slice A2 n2 c2] 77)=w9 at *;obtain⟨w7,rfl⟩:=nm (w7');have hHO7:=iF.app (p:=Sgm.cells (.mk true l)) (l:=acc.map Sgm.cells) (g7:=g7) (cap:=cap) HO.o rfl hf9 hz9 (by have:=HY.o.lt;omega) rfl (by simpa using HROW.o) hf7 (by simpa using ho7) (by simpa using how6) hat7;have hYc7:=(HY.o.fr hf9).fr hf7 (fun hm=>by have:=hge6 _ (by simpa using hm);omega);have hHF7:=(HF.o.trans hf9).trans hf7 (fun x hx=>.inr (by have:=hge6 _ (by simpa using hx);omega));have hHZ7:=(HZ.o.fr hf9).fr hf7 (fun hm=>by have:=hge6 _ (by simpa using hm);omega);have hHD7:=(HD.o.fr hf9).fr hf7 (fun x hx=>by have:=hge6 _ (by simpa using hx);omega);clear HF HZ HD HO HY HROW y1 yf t0 t1 HS8;have HO:=lh hHO7;have HF:=lh hHF7;have HZ:=lh hHZ7;have HD:=lh hHD7;have HY:=lh hYc7;clear hHO7 hHF7 hHZ7 hHD7 hb9 hf9 hz9 hf7 ho7 hat7 how6 hge6 hcss how9 hat9;have q1:=hYc7.at_ (i:=1) rfl;have qf:=hYc7.free;clear hYc7;go_wp2_with fail;have hf8:Fr [w.heap.size+1] w7 (w7.setCell ⟨w.heap.size+1,1,none⟩ (.slice (some ⟨g7,0,none⟩) (acc.length+1) cap)):=(Fr.refl [w.heap.size+1] w7).setCell (.inl (by simp)) _;have hy8:Blk (w7.setCell ⟨w.heap.size+1,1,none⟩ (.slice (some ⟨g7,0,none⟩) (acc.length+1) cap)) (w.heap.size+1) 31 [.bool rel,.slice (some ⟨g7,0,none⟩) (acc.length+1) cap]:=HY.o.set_ 1 _;generalize w7.setCell ⟨w.heap.size+1,1,none⟩ (.slice (some ⟨g7,0,none⟩) (acc.length+1) cap)=w8 at *
      replace HY:=lh hy8
      replace HF:=lh (HF.o.trans hf8 (fun x hx=>.inr (by simp at hx;omega)))
      replace HZ:=lh (HZ.o.fr hf8)
      replace HD:=lh (HD.o.fr hf8 (by simp;omega))
      replace HO:=lh (HO.o.fr hf8 (fun x hx=>.inl (by simp at hx;omega)))
      clear hf8 hy8;have HMP:Hid ((acc ++ [Sgm.mk true l]).map Sgm.cells=acc.map Sgm.cells ++ [Sgm.cells (.mk true l)]):=lh (by simp);go_wp2_with fail
      cases hbd:s2.bad with
      | true=>
       have HXN:=lh (HZ1.o hbd)
       go_roundg 0
       case measure=>omega
       case rel=>exact⟨acc ++ [.mk true l],m,s2,_,HD.o,HDP.o,HY.o,HZ.o,by rw[HMP.o];simpa using HO.o,HF.o,.inr ⟨hbd,HXN.o⟩⟩
      | false=>
       obtain⟨g1,g2,g3⟩:=HZ2.o hbd;have HXN:=lh g3;clear g3
       go_roundg (TS.length - s2.k+1)
       case measure=>omega
       case rel=>exact⟨acc ++ [.mk true l],m,s2,_,HD.o,HDP.o,HY.o,HZ.o,by rw[HMP.o];simpa using HO.o,HF.o,.inl ⟨hbd,by rw[List.length_append];simp;omega,by omega,g1,by omega,HXN.o,Nat.le_refl _⟩⟩
    | false=>
     have HNC:Hid ((s1.q TS).next [46,46]=false):=lh hn2;rw[hn2,if_neg (by simp)] at HI;clear hn2;go_wp2_with fail;refine HI.o.mono ?_;rintro e w4 ⟨rfl,hd4,hf4⟩
     replace HF:=lh (HF.o.trans hf4 (fun x hx=>.inl hx))
     replace HZ:=lh (HZ.o.fr hf4 (by simp;omega))
     replace HY:=lh (HY.o.fr hf4 (by simp;omega))
     replace HO:=lh (HO.o.fr hf4 (fun x hx=>.inl (by simp at hx;omega)))
     replace HD:=lh hd4
     clear hd4 hf4 HI;have HI:=lh (qK HD.o ⟨#[46]⟩);rw[show aA ⟨#[46]⟩=[46] from rfl] at HI
     cases hn3:s1.nx TS [46] with
     | true=>
      have hk2:s1.k+1<=TS.length:=aG hn3;have HSEG:=lh (aGg (txt:=aA txt) (E:=E) (d:=s.d) (q:=s1.q TS) hn3);rw[<- DS.q_go] at HSEG;have HON:Hid (∀ l q2,((xB (s1.go.q TS)).map fun r=>([r.1],r.2))=some (l,q2) -> q2.l.length<=TS.length - (s1.k+1)):=lh (fun l q2 h=>aAg h);rw[hn3,if_pos rfl] at HI;clear hn3;go_wp2_with fail;refine HI.o.mono ?_;rintro e w6 ⟨rfl,hd6,hf6⟩
      replace HF:=lh (HF.o.trans hf6 (fun x hx=>.inl hx))
      replace HZ:=lh (HZ.o.fr hf6 (by simp;omega))
      replace HY:=lh (HY.o.fr hf6 (by simp;omega))
      replace HO:=lh (HO.o.fr hf6 (fun x hx=>.inl (by simp at hx;omega)))
      replace HD:=lh hd6
      clear hd6 hf6 HI;go_upto_region 13 with fail
      obtain⟨wA,rfl⟩:=nm (w6);have HCALL:=lh (aBP (HD.o.fr ((Fr.refl [] wA).drew)) HB1.o hk2);have hYc:=HY.o;have hol:=HO.o.lt;have hyl:=HY.o.lt;refine mA (fun W=>Blk W (w.heap.size+1) 31 [.bool rel,.slice A acc.length c]/\True) [0,1,2,4,7] (by kernel_rfl) ?_;refine tks [0,1,2] ?_
      iterate 3 (refine tk rfl rfl ⟨hYc,trivial⟩ rfl (fun _ hW=>by(obtain⟨k0,k1⟩:=hW;have z1:=k0.at_ (i:=1) rfl;go_simp) <;> with_reducible rfl) ?_;simp only[nrm])
      refine tke ?_;refine sp 3 rfl rfl rfl fun K hK=>?_;have hfd:Fr [] wA wA.drew:=(Fr.refl [] wA).drew;refine zA (l:=[.tmp 49]) rfl [.pointer (some ⟨r,0,none⟩)] rfl (fun W=>by kernel_rfl) (HCALL.o.mono ?_);rintro e w5 ⟨v',s2,rfl,hd5,hdp5,hf5',hm5'⟩;have hm5:Mch (fun l=>aCR wA.drew w5 l v') TS s2 ((xB (s1.go.q TS)).map fun r=>([r.1],r.2)):=tE (f:=fun y=>[y]) hm5' rfl (fun y hy=>hy) rfl rfl rfl;have hf5:Fr [r] wA w5:=(hfd.mono (by simp):Fr [r] wA wA.drew).trans hf5' (fun x hx=>.inl hx);have HSZ:Hid (wA.heap.size<=w5.heap.size):=lh hf5.size
      replace HF:=lh (HF.o.trans hf5 (fun x hx=>.inl hx))
      replace HZ:=lh (HZ.o.fr hf5 (by simp;omega))
      replace HY:=lh (HY.o.fr hf5 (by simp;omega))
      replace HO:=lh (HO.o.fr hf5 (fun x hx=>.inl (by simp at hx;omega)))
      replace HD:=lh hd5
      have hYc5:=HY.o;refine⟨_,rfl,hK _ _ (fun _=>⟨hYc5,trivial⟩) ?_⟩;simp only[nrm];clear hK hfd hf5 hf5' hd5 hm5' HCALL;have HDP:Hid (s2.d=s.d):=lh (hdp5.trans hdp1);clear hdp5;obtain⟨l,hl,hz1,hz2⟩:=sU HX.o HSEG.o hm5 HON.o;have hcat:=hl;obtain⟨A2,c2,rfl,-⟩:=CAt.slice hcat;obtain⟨n2,hn2⟩:∃ n2,(l.map Slr.cells).length=n2:=⟨_,rfl⟩;rw[hn2] at hcat ⊢;have HZ1:=lh hz1;have HZ2:=lh hz2;have HCAT:Hid (CAt w5 (fun g=>wA.heap.size<=g) (.rows 10 (l.map Slr.cells)) (.slice A2 n2 c2)):=lh hcat;clear hl hcat hz1 hz2 hm5 hn2;have hwz:=HF.o.size
      have HROW:Hid (gA w5 (fun g=>w.heap.size+2<=g/\(Value.slice A acc.length c).ownBlock ≠ some g) (Sgm.cells (.mk false l)) [.bool false,.slice A2 n2 c2]):=lh (.tl rfl (.cons (by
       rw[yE]
       exact HCAT.o.mono (fun g hg=>⟨by have h2:wA.heap.size<=g:=hg;omega,fun e=>by
        have h1:=hol g e;have h2:wA.heap.size<=g:=hg;omega⟩)) (.nil _ _)))
      clear hol hyl HCAT;refine tks [4] ?_;refine tk rfl rfl ⟨hYc5,trivial⟩ rfl (fun _ hW=>by(obtain⟨k0,k1⟩:=hW;go_simp) <;> with_reducible rfl) ?_;simp only[nrm];refine tke ?_;refine sp 5 rfl rfl rfl fun K hK=>?_;refine kD (.tmp 51) rfl Tryz.underlying29 hi hz' [.bool false,.slice A2 n2 c2] rfl hsz' rfl (by simp) (by simp) (hK _ _ (fun _=>⟨hYc5.alloc _,trivial⟩) ?_);simp only[nrm];clear hK;have hb6:=Blk.new w5 77 [.bool false,.slice A2 n2 c2];have hf6:Fr [] w5 (w5.alloc (.cells #[.bool false,.slice A2 n2 c2] 77)):=(Fr.refl [] w5).alloc _;have hz6:(w5.alloc (.cells #[.bool false,.slice A2 n2 c2] 77)).heap.size=w5.heap.size+1:=by simp
      generalize w5.alloc (.cells #[.bool false,.slice A2 n2 c2] 77)=w6 at *;obtain⟨css,hcss,how6,hge6,-⟩:=HO.o;rw[List.length_map] at how6;have hYc6:=hYc5.fr hf6;refine sp 6 rfl rfl rfl fun K hK=>?_;refine jB (.tmp 48) (.tmp 52) rfl 77 2 32 Tryz.underlying29 hi hz' hsz' hby rfl (by omega) (.slice A acc.length c) acc.length css.flatten rfl (sB how6 hf6 (by simp)) ⟨w5.heap.size,0,none⟩ 1 1 [.bool false,.slice A2 n2 c2] rfl rfl (fun j u hu=>by rw[Addr.add_mid,Nat.zero_add];exact hb6.at_ hu) (HROW.o.one) (by omega) (by unfold maxLen;have:=HAC.o;omega) (by have:=HAC.o;omega) (w5.heap.size+1) hz6 fun g7 cap w7 ho7 hf7 hat7 hlt7=>hK _ _ (fun _=>⟨hYc6.fr hf7 (fun hm=>by have:=hge6 _ (by simpa using hm);omega),trivial⟩) ?_;simp only[nrm];clear hK;have hHO7:=iF.app (p:=Sgm.cells (.mk false l)) (l:=acc.map Sgm.cells) (g7:=g7) (cap:=cap) HO.o rfl hf6 hz6 (by have:=HY.o.lt;omega) rfl (by simpa using HROW.o) hf7 (by simpa using ho7) (by simpa using how6) hat7;have hYc7:=hYc6.fr hf7 (fun hm=>by have:=hge6 _ (by simpa using hm);omega);have hHF7:=(HF.o.trans hf6).trans hf7 (fun x hx=>.inr (by have:=hge6 _ (by simpa using hx);omega));have hHZ7:=(HZ.o.fr hf6).fr hf7 (fun hm=>by have:=hge6 _ (by simpa using hm);omega);have hHD7:=(HD.o.fr hf6).fr hf7 (fun x hx=>by have:=hge6 _ (by simpa using hx);omega);clear HF HZ HD HO HY HROW;have HO:=lh hHO7;have HF:=lh hHF7;have HZ:=lh hHZ7;have HD:=lh hHD7;have HY:=lh hYc7;clear hHO7 hHF7 hHZ7 hHD7 hb6 hf6 hz6 hf7 ho7 hat7 hlt7 how6 hge6 hYc hYc5 hYc6 hcss;refine tks [7] ?_;refine tk rfl rfl ⟨hYc7,trivial⟩ rfl (fun _ hW=>by(obtain⟨k0,k1⟩:=hW;go_simp) <;> with_reducible rfl) ?_;simp only[nrm];refine tke ?_;refine iC (j:=8) none rfl rfl (by kernel_rfl) rfl fun K hK=>?_;have q1:=hYc7.at_ (i:=1) rfl;have qf:=hYc7.free;refine pC (w':=w7.setCell ⟨w.heap.size+1,1,none⟩ (.slice (some ⟨g7,0,none⟩) (acc.length+1) cap)) (by go_simp) (hK _ _ (fun h=>absurd h (by decide +kernel)) ?_);simp only[Act.put];clear hK;refine wd ?_ _;clear q1 qf hYc7;have hf8:Fr [w.heap.size+1] w7 (w7.setCell ⟨w.heap.size+1,1,none⟩ (.slice (some ⟨g7,0,none⟩) (acc.length+1) cap)):=(Fr.refl [w.heap.size+1] w7).setCell (.inl (by simp)) _;have hy8:Blk (w7.setCell ⟨w.heap.size+1,1,none⟩ (.slice (some ⟨g7,0,none⟩) (acc.length+1) cap)) (w.heap.size+1) 31 [.bool rel,.slice (some ⟨g7,0,none⟩) (acc.length+1) cap]:=HY.o.set_ 1 _;generalize w7.setCell ⟨w.heap.size+1,1,none⟩ (.slice (some ⟨g7,0,none⟩) (acc.length+1) cap)=w8 at *
      replace HY:=lh hy8
      replace HF:=lh (HF.o.trans hf8 (fun x hx=>.inr (by simp at hx;omega)))
      replace HZ:=lh (HZ.o.fr hf8)
      replace HD:=lh (HD.o.fr hf8 (by simp;omega))
      replace HO:=lh (HO.o.fr hf8 (fun x hx=>.inl (by simp at hx;omega)))
      clear hf8 hy8;have HMP:Hid ((acc ++ [Sgm.mk false l]).map Sgm.cells=acc.map Sgm.cells ++ [Sgm.cells (.mk false l)]):=lh (by simp);go_wp2_with fail
      cases hbd:s2.bad with
      | true=>
       have HXN:=lh (HZ1.o hbd)
       go_roundg 0
       case measure=>omega
       case rel=>exact⟨acc ++ [.mk false l],m,s2,_,HD.o,HDP.o,HY.o,HZ.o,by rw[HMP.o];simpa using HO.o,HF.o,.inr ⟨hbd,HXN.o⟩⟩
      | false=>
       obtain⟨g1,g2,g3⟩:=HZ2.o hbd;have HXN:=lh g3;clear g3
       go_roundg (TS.length - s2.k+1)
       case measure=>omega
       case rel=>exact⟨acc ++ [.mk false l],m,s2,_,HD.o,HDP.o,HY.o,HZ.o,by rw[HMP.o];simpa using HO.o,HF.o,.inl ⟨hbd,by rw[List.length_append];simp;omega,by omega,g1,by omega,HXN.o,Nat.le_refl _⟩⟩
     | false=>
      have HXE:=lh (HX.o.trans (by rw[zK,aEL HNB.o HNC.o hn3]));rw[hn3,if_neg (by simp)] at HI;clear hn3;go_wp2_with fail;refine HI.o.mono ?_;rintro e w6 ⟨rfl,hd6,hf6⟩
      replace HF:=lh (HF.o.trans hf6 (fun x hx=>.inl hx))
      replace HZ:=lh (HZ.o.fr hf6 (by simp;omega))
      replace HY:=lh (HY.o.fr hf6 (by simp;omega))
      replace HO:=lh (HO.o.fr hf6 (fun x hx=>.inl (by simp at hx;omega)))
      replace HD:=lh hd6
      clear hd6 hf6 HI;have HM:Hid (Mch (fun l=>CAt w6 (fun g=>w.heap.size+2<=g) (.rows 2 (l.map Sgm.cells)) (.slice A acc.length c)) TS s1 X):=lh (eI (y:=acc) (HXE.o.trans (by simp[xE])) HB1.o hk1 rfl (HO.o.cat (by decide)));have y0:=HY.o.at_ (i:=0) rfl;have y1:=HY.o.at_ (i:=1) rfl;have z0:=HZ.o.at_ (i:=0) rfl;have z1:=HZ.o.at_ (i:=1) rfl;have zf:=HZ.o.free;go_wp2_with fail;have hb9:=HZ.o.setL (vs:=[.bool rel,.slice A acc.length c]) rfl;have hf9:Fr [w.heap.size] w6 _:=(Fr.refl [w.heap.size] w6).setL (g:=w.heap.size) (k:=0) (vs:=[.bool rel,.slice A acc.length c]) (.inl (by simp))
      exact xD rfl rfl hb9 Tryz.underlying31 rfl bG (HQ.o _ _ ⟨_,_,rfl,HD.o.fr hf9 (by simp;omega),hdp1,HF.o.trans hf9 (fun x hx=>.inr (by simp at hx;omega)),tE (f:=fun l=>Qry.mk rel l) HM.o HXQ.o (fun l hl=>⟨_,rfl,.tl rfl (.cons (by
       rw[dE];exact(hl.fr hf9 (fun g hg=>by simp;omega)).mono (fun g hg=>by omega)) (.nil _ _))⟩) rfl rfl rfl⟩)
  ·have HM:Hid (Mch (fun l=>CAt wA (fun g=>w.heap.size+2<=g) (.rows 2 (l.map Sgm.cells)) (.slice A acc.length c)) TS s1 X):=lh (cN (y:=acc) hX hb1 (HO.o.cat (by decide)));rw[hb1] at c5;clear hX hb1;have y0:=HY.o.at_ (i:=0) rfl;have y1:=HY.o.at_ (i:=1) rfl;have z0:=HZ.o.at_ (i:=0) rfl;have z1:=HZ.o.at_ (i:=1) rfl;have zf:=HZ.o.free;go_wp2_with fail;have hb9:=HZ.o.setL (vs:=[.bool rel,.slice A acc.length c]) rfl;have hf9:Fr [w.heap.size] wA _:=(Fr.refl [w.heap.size] wA).setL (g:=w.heap.size) (k:=0) (vs:=[.bool rel,.slice A acc.length c]) (.inl (by simp))
   exact xD rfl rfl hb9 Tryz.underlying31 rfl bG (HQ.o _ _ ⟨_,_,rfl,HD.o.fr hf9 (by simp;omega),hdp1,HF.o.trans hf9 (fun x hx=>.inr (by simp at hx;omega)),tE (f:=fun l=>Qry.mk rel l) HM.o HXQ.o (fun l hl=>⟨_,rfl,.tl rfl (.cons (by
    rw[dE];exact(hl.fr hf9 (fun g hg=>by simp;omega)).mono (fun g hg=>by omega)) (.nil _ _))⟩) rfl rfl rfl⟩)
end
section
variable {w w' : World} {r gl n : Nat} {txt : ByteArray} {TS : List Tkn} {s s' : DS} {E S : Int -> Rd Xpr}
theorem zD {w:World} {fn:Func} {R:Ending -> World -> Prop} {tmps:Array Value} {k:Tmp} {g:Nat} {cs:List Value} (hr:fn.results=#[.cell k 117]) (ha:tmps.getD k undef=.pointer (some ⟨g,0,none⟩)) (hb:Blk w g 117 cs) (hl:cs.length=13) (h:R (.returned (.agg cs.toArray)) w):bodyPost Tryz.prog fn R .ret ⟨tmps,[]⟩ w:=
 xD hr ha hb Tryz.underlying117 rfl (by rw[hl];exact tB) h
theorem lX {d:Int} {q:QS}:bD E d q=(E (d+1) ⟨q.l,max q.most (d+1)⟩).bind fun r=>gF [41] r.1 r.2:=by
 unfold bD
 cases E (d+1) ⟨q.l,max q.most (d+1)⟩ <;> rfl
theorem aAh (hE:oQ 128 txt E n) (h:DAt w r gl txt TS s) (hb:s.bad=false) (hk:s.k<=TS.length) (hn:(s.q TS).l.length < n) (hd:s.d+1+(s.q TS).l.length<=80000):Calls Tryz.prog 201 #[.pointer (some ⟨r,0,none⟩)] w (mR (cF Xpr.cells w) w r gl txt TS s (bD E s.d (s.q TS))):=by
 refine bA fun R HQ=>?_;have hrlt:=h.lt;have hdp:=h.deep;have HH:=lh h;have HEK:=lh hE;have HBD:=lh hb;have HX0:=lh (lX (E:=E) (d:=s.d) (q:=s.q TS));rw[show(⟨(s.q TS).l,max (s.q TS).most (s.d+1)⟩:QS)=s.down.q TS from rfl] at HX0;rw[bC] at hn hd;clear h hE hb
 go_enter Tryz.func201,Tryz.ntmps201
 go_wp2_with (with_reducible refine vD rfl 117 rfl (.agg zx.toArray) zx wH sE ?_)
 intro w0 hb0 hf0 hz0;have HZ:=lh hb0;have HF:Hid (Fr [r] w w0):=lh (hf0.mono (by simp));have HD:=lh (HH.o.fr hf0);clear hb0 hf0 hz0;go_wp2_with fail;refine(aBm HD.o (by omega)).mono ?_;rintro e w1 ⟨rfl,hd1,hf1⟩
 replace HF:=lh (HF.o.trans hf1 (fun x hx=>.inl hx));replace HZ:=lh (HZ.o.fr hf1 (by simp;omega));replace HD:=lh hd1
 have HC:=lh (HEK.o _ _ _ _ _ HD.o HBD.o hk (by rw[bC];exact hn) (by rw[bC];exact hd));rw[show s.down.d=s.d+1 from rfl] at HC;generalize E (s.d+1) (s.down.q TS)=X at *;have hzl1:=HZ.o.lt;clear hd1 hf1;go_wp2_with fail;refine HC.o.mono ?_;rintro e w2 ⟨v,s3,rfl,hd2,hp2,hf2,hm2⟩;obtain⟨y0,cs,rfl,hcs0⟩:=kG hm2;have HCL:Hid (cs.length=13):=lh (hcs0.1.trans (kA y0));have HO:=lh hcs0.one;have hc1:(Tryz.prog.info? 117).map (·.size)=some cs.length:=by rw[HCL.o];exact tB
 have hc2:zx.length=cs.length:=by rw[HCL.o];rfl
 have HM:=lh hm2;have HC1:=lh hc1;have HC2:=lh hc2;have HP:Hid (s3.d=s.d+1):=lh hp2
 replace HF:=lh (HF.o.trans hf2 (fun x hx=>.inl hx));replace HZ:=lh (HZ.o.fr hf2 (by simp;omega));replace HD:=lh hd2
 have hz12:=hf2.size;clear HC hcs0 hm2 hp2 hc1 hc2 hf2 hd2
 go_wp2_with (with_reducible refine zC rfl rfl 117 (.tmp 7) rfl rfl rfl rfl (.agg zx.toArray) zx wH sE cs rfl rfl HC1.o HC2.o HO.o ?_)
 intro w3 hb3 hf3 hz3;have HB:=lh hb3
 replace HF:=lh (HF.o.trans hf3);replace HD:=lh (HD.o.fr hf3);replace HZ:=lh (HZ.o.fr hf3)
 have HM3:Hid (Fr [r] w2 w3):=lh (hf3.mono (by simp));clear hb3 hf3 hz3;go_wp2_with fail;refine(aEF HD.o (by have:=HP.o;omega)).mono ?_;rintro e w4 ⟨rfl,hd4,hf4⟩;have hbl:=HB.o.lt
 replace HF:=lh (HF.o.trans hf4 (fun x hx=>.inl hx));replace HZ:=lh (HZ.o.fr hf4 (by simp;omega));replace HD:=lh hd4
 replace HM3:=lh (HM3.o.trans hf4 (fun x hx=>.inl hx));replace HB:=lh (HB.o.fr hf4 (by simp;omega))
 clear hf4 hd4;have HNE:=lh (fP HD.o ⟨#[41]⟩);rw[show aA ⟨#[41]⟩=[41] from rfl] at HNE;go_wp2_with fail;refine HNE.o.mono ?_;rintro e w5 ⟨rfl,hd5,hf5⟩
 replace HF:=lh (HF.o.trans hf5 (fun x hx=>.inl hx));replace HZ:=lh (HZ.o.fr hf5 (by simp;omega));replace HD:=lh hd5
 replace HM3:=lh (HM3.o.trans hf5 (fun x hx=>.inl hx));replace HB:=lh (HB.o.fr hf5 (by simp;omega))
 clear hf5 hd5 HNE
 go_wp2_with (first
  | (with_reducible refine uA rfl 117 (.tmp 3) rfl rfl HB.o Tryz.underlying117 rfl HC1.o ?_)
  | (with_reducible refine iA rfl 117 (.tmp 2) (.tmp 12) rfl cs rfl rfl HZ.o HC1.o HC2.o HO.o ?_))
 intro w6 hb6 hf6 hz6;have HB6:=lh hb6;have HF6:=lh hf6;clear hb6 hf6 hz6
 have hup:(if s3.up.nx TS [41]=true then s3.up.go else s3.up.fail).d=s.d:=by
  have:=HP.o
  split <;> (show s3.d - 1=s.d;omega)
 have HUP:=lh hup;have hmu:Mch (fun y=>cF Xpr.cells w1 w2 y (.agg cs.toArray)) TS s3.up X:=tE (f:=fun y=>y) HM.o (by cases X <;> rfl) (fun y hy=>hy) rfl rfl rfl;have HMU:=lh hmu;clear hup hmu;go_wp2_with fail;exact zD rfl rfl HB6.o HCL.o (HQ.o _ _ ⟨_,_,rfl,HD.o.fr HF6.o (by simp;omega),HUP.o,HF.o.trans HF6.o (fun x hx=>.inr (by simp at hx;omega)),bN (f:=fun y=>y) HMU.o HX0.o (fun y hy=>eH (eH hy HM3.o (fun x hx=>by simp at hx;omega) (Nat.le_refl _)) HF6.o (fun x hx=>by simp at hx;omega) (by omega))⟩)
end
def cxs (v:Value) (x:ByteArray):List Value:=[.int .i64 7,v,.string x,.bool false,.slice none 0 0,.int .i64 0,.bool false,.bool false,.string { data:=#[] },.int .i64 0,.string { data:=#[] },.slice none 0 0,.slice none 0 0]
def iK (S:Int -> Rd Xpr) (d:Int) (x:List UInt8) (q:QS):Option (Xpr × QS):=
 if q.next [41]=true then some (.of 7 [] x,q.go) else (eC [44] (S (d+1)) q).bind fun r=>gF [41] (.of 7 r.1 x) r.2
theorem mX {A:Option Addr} {n c:Nat} {x:ByteArray}:∀ u ∈ cxs (.slice A n c) x,u.oneCell'=true:=by
 intro u hu;simp only[cxs,List.mem_cons,List.not_mem_nil,or_false] at hu;rcases hu with rfl | rfl | rfl | rfl | rfl | rfl | rfl | rfl | rfl | rfl | rfl | rfl | rfl <;> rfl
def aEM (w w':World) (y:Xpr) (cs:List Value):Prop:=gA w' (fun g=>w.heap.size+2<=g) y.cells cs
theorem aEM.fr9 {w w7 w8 w9:World} {r:Nat} {y:Xpr} {cs:List Value} (h:aEM w w7 y cs) (hf:Fr [r] w7 w8) (hf9:Fr [w.heap.size] w8 w9) (hr:r < w.heap.size) (_:w.heap.size<=w.heap.size):gA w9 (fun g=>w.heap.size<=g) y.cells cs:=
 ((gA.fr h hf (fun g hg=>by simp;omega)).fr hf9 (fun g hg=>by simp;omega)).mono (fun g hg=>by omega)
section
variable {w w' : World} {r gl n : Nat} {txt : ByteArray} {TS : List Tkn} {s s' : DS} {E S : Int -> Rd Xpr}
def aGk (w:World) (r gl:Nat) (txt:ByteArray) (TS:List Tkn) (s0:DS) (S:Int -> Rd Xpr) (x:ByteArray) (X:Option (List Xpr × QS)) (j:Nat) (wr:World):Prop:=∃ acc m s v,LsD Xpr.cells 117 13 w wr (w.heap.size+2) r gl txt TS s0 [44] (S s0.d) X acc m v s/\Blk wr (w.heap.size+1) 117 (cxs v x)/\Blk wr w.heap.size 117 zx/\TS.length - s.k<=j
theorem aHs (hS:oQ 202 txt S n) (hSo:∀ d,(S d).on) (x:ByteArray) (h:DAt w r gl txt TS s) (hb:s.bad=false) (hk:s.k<=TS.length) (hn:(s.q TS).l.length < n) (hd:s.d+1+(s.q TS).l.length<=80000):Calls Tryz.prog 225 #[.pointer (some ⟨r,0,none⟩),.string x] w (mR (cF Xpr.cells w) w r gl txt TS s (iK S s.d (aA x) (s.down.q TS))):=by
 refine bA fun R HQ=>?_;have hrlt:=h.lt;have hlen:=h.len;have hdp:=h.deep;have hza:=(Blk.new w 117 zx).alloc (.cells (cxs (.slice none 0 0) x).toArray 117);have hya:=Blk.new (w.alloc (.cells zx.toArray 117)) 117 (cxs (.slice none 0 0) x);have hfa:=((Fr.refl [] w).alloc (.cells zx.toArray 117)).alloc (.cells (cxs (.slice none 0 0) x).toArray 117);rw[show(w.alloc (.cells zx.toArray 117)).heap.size=w.heap.size+1 by simp] at hya;have hd0:=h.fr hfa;unfold cxs zx at hza hya hfa hd0;have HSK:=lh hS;have HSO:=lh hSo;have HBD:=lh hb;obtain⟨iu,hi,hz',hsz',hby⟩:=info_parts pQ;have k0:(0:Nat) < 13:=by decide
 have kb:(13:Nat)<=16777216:=by decide
 rw[bC] at hn hd;have HXO:Hid (∀ W N l v,CAt W N (.rows 13 (xF l)) v -> gA W N (Xpr.of 7 l (aA x)).cells (cxs v x)):=lh (fun W N l v hv=>wG hv);clear h hS hSo hb
 go_enter Tryz.func225,Tryz.ntmps225
 go_upto_region 2 with fail
 generalize (w.alloc (.cells #[.int .i64 0,.slice none 0 0,.string { data:=#[] },.bool false,.slice none 0 0,.int .i64 0,.bool false,.bool false,.string { data:=#[] },.int .i64 0,.string { data:=#[] },.slice none 0 0,.slice none 0 0] 117)).alloc (.cells #[.int .i64 7,.slice none 0 0,.string x,.bool false,.slice none 0 0,.int .i64 0,.bool false,.bool false,.string { data:=#[] },.int .i64 0,.string { data:=#[] },.slice none 0 0,.slice none 0 0] 117)=w0 at *;have HY:Hid (Blk w0 (w.heap.size+1) 117 (cxs (.slice none 0 0) x)):=lh hya;have HZ:Hid (Blk w0 w.heap.size 117 zx):=lh hza;have HF:Hid (Fr [r] w w0):=lh (hfa.mono (by simp));have HD:=lh hd0;clear hya hza hfa hd0;go_wp2_with fail;refine(aBm HD.o (by omega)).mono ?_;rintro e w1 ⟨rfl,hd1,hf1⟩
 replace HF:=lh (HF.o.trans hf1 (fun x hx=>.inl hx));replace HZ:=lh (HZ.o.fr hf1 (by simp;omega));replace HY:=lh (HY.o.fr hf1 (by simp;omega));replace HD:=lh hd1
 clear hd1 hf1;have HI:=lh (qK HD.o ⟨#[41]⟩);rw[show aA ⟨#[41]⟩=[41] from rfl] at HI
 cases hn1:s.down.nx TS [41] with
 | true=>
  have HE:Hid (iK S s.d (aA x) (s.down.q TS)=some (.of 7 [] (aA x),(s.down.q TS).go)):=lh (by unfold iK;rw[if_pos (show(s.down.q TS).next [41]=true from hn1)]);have hk2:s.k+1<=TS.length:=aG hn1;rw[hn1,if_pos rfl] at HI;clear hn1;go_wp2_with fail;refine HI.o.mono ?_;rintro e w2 ⟨rfl,hd2,hf2⟩
  replace HF:=lh (HF.o.trans hf2 (fun x hx=>.inl hx));replace HZ:=lh (HZ.o.fr hf2 (by simp;omega));replace HY:=lh (HY.o.fr hf2 (by simp;omega));replace HD:=lh hd2
  clear hd2 hf2 HI;go_wp2_with fail;have HUP:Hid (1<=s.down.go.d):=lh (by show 1<=s.d+1;omega);have HDN:Hid (s.down.go.up.d=s.d):=lh (by show s.d+1 - 1=s.d;omega);have HMC:Hid (Mch (fun y=>aEM w w2 y (cxs (.slice none 0 0) x)) TS s.down.go (iK S s.d (aA x) (s.down.q TS))):=lh (eI HE.o HBD.o hk2 (DS.q_go s.down TS) (HXO.o _ _ [] _ (CAt.nil _ _ k0 none 0)));refine(aEF HD.o HUP.o).mono ?_;rintro e w8 ⟨rfl,hd8,hf8⟩
  replace HF:=lh (HF.o.trans hf8 (fun x hx=>.inl hx))
  replace HZ:=lh (HZ.o.fr hf8 (by simp;omega))
  replace HY:=lh (HY.o.fr hf8 (by simp;omega))
  replace HD:=lh hd8
  clear hd8;have HC1:Hid ((Tryz.prog.info? 117).map (·.size)=some (cxs (.slice none 0 0) x).length):=lh tB;have HC2:Hid (zx.length=(cxs (.slice none 0 0) x).length):=lh rfl;have HO1:Hid (∀ u ∈ cxs (.slice none 0 0) x,u.oneCell'=true):=lh mX
  go_wp2_with (first
   | (with_reducible refine uA rfl 117 (.tmp 5) rfl rfl HY.o Tryz.underlying117 rfl HC1.o ?_)
   | (with_reducible refine iA rfl 117 (.tmp 4) (.tmp 38) rfl (cxs (.slice none 0 0) x) rfl rfl HZ.o HC1.o HC2.o HO1.o ?_))
  intro w9 hb9 hf9 hz9;have HB9:=lh hb9;have HF9:=lh hf9;have HF8:=lh hf8;clear hb9 hf9 hz9 hf8;go_wp2_with fail;exact zD rfl rfl HB9.o rfl (HQ.o _ _ ⟨_,_,rfl,HD.o.fr HF9.o (by simp;omega),HDN.o,HF.o.trans HF9.o (fun x hx=>.inr (by simp at hx;omega)),tE (f:=fun y=>y) HMC.o (by cases iK S s.d (aA x) (s.down.q TS) <;> rfl) (fun y hy=>⟨_,rfl,hy.fr9 HF8.o HF9.o (by omega) (by omega)⟩) rfl rfl rfl⟩)
 | false=>
  have hx2:iK S s.d (aA x) (s.down.q TS)=(eC [44] (S (s.d+1)) (s.down.q TS)).bind fun r=>gF [41] (.of 7 r.1 (aA x)) r.2:=by unfold iK;rw[if_neg (by rw[show(s.down.q TS).next [41]=false from hn1];simp)]
  have hx0:eC [44] (S (s.d+1)) (s.down.q TS)=xE [] (rB [44] (S (s.d+1)) (TS.length - s.k+1) (s.down.q TS)):=by
   unfold eC;rw[bC]
   show rB [44] (S (s.d+1)) (TS.length - s.k+1) (s.down.q TS)=_
   cases rB [44] (S (s.d+1)) (TS.length - s.k+1) (s.down.q TS) <;> rfl
  generalize eC [44] (S (s.d+1)) (s.down.q TS)=X at *;have HE2:=lh hx2;have HX0:=lh hx0;rw[hn1,if_neg (by simp)] at HI;clear hn1 hx2 hx0;go_wp2_with fail;refine HI.o.mono ?_;rintro e w2 ⟨rfl,hd2,hf2⟩
  replace HF:=lh (HF.o.trans hf2 (fun x hx=>.inl hx))
  replace HZ:=lh (HZ.o.fr hf2 (by simp;omega))
  replace HY:=lh (HY.o.fr hf2 (by simp;omega))
  replace HD:=lh hd2
  have hzl2:=HZ.o.lt;clear hd2 hf2 HI;go_wp2_with fail
  go_loopg [] (TS.length - s.k) (fun j wr=>aGk w r gl txt TS s.down S x X j wr)
  case atStart=>exact⟨[],_,s.down,.slice none 0 0,⟨HD.o,HBD.o,hk,rfl,Nat.le_refl _,by show TS.length < TS.length - s.k+1+s.k;omega,HX0.o,iF.nil _ _ _ _,by simp,HF.o⟩,HY.o,HZ.o,Nat.le_refl _⟩
  case round=>
   obtain⟨j,rfl⟩:=nm (gk);obtain⟨wA,rfl⟩:=nm (wr);obtain⟨acc,m,s1,v,hL,hY,hZ,hj⟩:=hrel;obtain⟨m,rfl⟩:∃ m1,m=m1+1:=⟨m - 1,by have:=hL.fuel;have:=hL.kle;omega⟩;obtain⟨A,c,hov⟩:=hL.own.slice;rw[List.length_map] at hov;subst hov;clear HY HZ HF HD;have HL:=lh hL;have HY:=lh hY;have HZ:=lh hZ;have HF:=lh hL.fr;have hk1:=hL.kle;have hle1:s.k<=s1.k:=hL.le;have hfu1:=hL.fuel;have hfw1:=hL.few;have hdq1:s1.d=s.d+1:=hL.dep;have HAC:Hid (acc.length<=8193):=lh (by omega);have c5:=hL.st.cells.1 4 _ rfl;rw[hL.good] at c5;simp only[Nat.succ_ne_zero,if_false,Nat.reduceAdd] at c5;have HCALL:=lh (HSK.o wA.drew r gl TS s1 (hL.st.fr ((Fr.refl [] wA).drew)) hL.good hL.kle (by rw[bC];omega) (by rw[bC];omega));rw[hdq1] at HCALL;have HDQ:=lh hdq1;have HLY:Hid (w.heap.size+2<=wA.heap.size):=lh hY.lt;clear hL hY hZ hdq1;go_upto_region 5 with fail
   have hYc:=HY.o;have hol:=HL.o.own.lt;clear c5;refine mA (fun W=>Blk W (w.heap.size+1) 117 (cxs (.slice A acc.length c) x)/\True) [0,1,2,6] (by kernel_rfl) ?_;refine tks [0,1,2] ?_
   iterate 3 (refine tk rfl rfl ⟨hYc,trivial⟩ rfl (fun _ hW=>by(obtain⟨k0',k1'⟩:=hW;have z1:=k0'.at_ (i:=1) rfl;go_simp) <;> with_reducible rfl) ?_;simp only[nrm])
   refine tke ?_;refine sp 3 rfl rfl rfl fun K hK=>?_;have hfd:Fr [] wA wA.drew:=(Fr.refl [] wA).drew;refine zA (l:=[.tmp 20]) rfl [.pointer (some ⟨r,0,none⟩)] rfl (fun W=>by kernel_rfl) (HCALL.o.mono ?_);rintro e w5 ⟨v',s2,rfl,hd5,hdp5,hf5',hm5⟩;obtain⟨y,⟨cs,rfl,hcs⟩,hz1,hz2⟩:=qQ (HSO.o _) HL.o.spec hm5;have hf5:Fr [r] wA w5:=(hfd.mono (by simp):Fr [r] wA wA.drew).trans hf5' (fun x hx=>.inl hx);have HO:=lh (HL.o.own.fr hf5 (fun x hx=>.inl (by simp at hx;omega)))
   replace HF:=lh (HF.o.trans hf5 (fun x hx=>.inl hx))
   replace HZ:=lh (HZ.o.fr hf5 (by simp;omega))
   replace HY:=lh (HY.o.fr hf5 (by simp;omega))
   have HD:=lh hd5;have hYc5:=HY.o;refine⟨_,rfl,hK _ _ (fun _=>⟨hYc5,trivial⟩) ?_⟩;simp only[nrm];clear hK hfd hf5' hd5 hm5 HCALL;have HZ1:=lh hz1;have HZ2:=lh hz2;have HDP:Hid (s2.d=s.d+1):=lh (hdp5.trans HDQ.o);have HCL:Hid (cs.length=13):=lh (hcs.1.trans (kA y));have hwz:=HL.o.fr.size
   have HCS:Hid (gA w5 (fun g=>w.heap.size+2<=g/\(Value.slice A acc.length c).ownBlock ≠ some g) (Xpr.cells y) cs):=lh (hcs.mono (fun g hg=>by
    have h2:wA.heap.size<=g:=hg;have h3:=HY.o.lt;exact⟨by have:=HLY.o;omega,fun e=>by have h1:=hol g e;omega⟩))
   clear hcs hz1 hz2 hdp5 hf5 hol HL;refine sp 4 rfl rfl rfl fun K hK=>?_;refine kD (.tmp 21) rfl Tryz.underlying78 hi hz' cs rfl (hsz'.trans HCL.o.symm) (by rw[HCL.o];exact rD) (by rw[HCL.o];omega) (by rw[HCL.o];omega) (hK _ _ (fun _=>⟨hYc5.alloc _,trivial⟩) ?_);simp only[nrm];clear hK;have hb6:=Blk.new w5 117 cs;have hf6:Fr [] w5 (w5.alloc (.cells cs.toArray 117)):=(Fr.refl [] w5).alloc _;have hz6:(w5.alloc (.cells cs.toArray 117)).heap.size=w5.heap.size+1:=by simp
   generalize w5.alloc (.cells cs.toArray 117)=w6 at *;obtain⟨css,hcss,how6,hge6,-⟩:=HO.o;rw[List.length_map] at how6;have hYc6:=hYc5.fr hf6;refine sp 5 rfl rfl rfl fun K hK=>?_;refine jB (.tmp 19) (.tmp 22) rfl 117 13 192 Tryz.underlying78 hi hz' hsz' hby rD (by omega) (.slice A acc.length c) acc.length css.flatten rfl (sB how6 hf6 (by simp)) ⟨w5.heap.size,0,none⟩ 1 1 cs rfl (by rw[HCL.o]) (fun j u hu=>by rw[Addr.add_mid,Nat.zero_add];exact hb6.at_ hu) (HCS.o.one) (by omega) (by unfold maxLen;have:=HAC.o;omega) (by have:=HAC.o;omega) (w5.heap.size+1) hz6 fun g7 cap w7 ho7 hf7 hat7 hlt7=>hK _ _ (fun _=>⟨hYc6.fr hf7 (fun hm=>by have:=hge6 _ (by simpa using hm);omega),trivial⟩) ?_;simp only[nrm];clear hK;have hHO7:=iF.app (p:=Xpr.cells y) (l:=acc.map Xpr.cells) (g7:=g7) (cap:=cap) HO.o rfl hf6 hz6 (by have:=HY.o.lt;omega) (kA y) (by simpa using HCS.o) hf7 (by simpa using ho7) (by simpa using how6) hat7;have hYc7:=hYc6.fr hf7 (fun hm=>by have:=hge6 _ (by simpa using hm);omega);have hHF7:=(HF.o.trans hf6).trans hf7 (fun x hx=>.inr (by have:=hge6 _ (by simpa using hx);omega));have hHZ7:=(HZ.o.fr hf6).fr hf7 (fun hm=>by have:=hge6 _ (by simpa using hm);omega);have hHD7:=(HD.o.fr hf6).fr hf7 (fun x hx=>by have:=hge6 _ (by simpa using hx);omega);clear HF HZ HD HO HY HCS;have HO:=lh hHO7;have HF:=lh hHF7;have HZ:=lh hHZ7;have HD:=lh hHD7;have HY:=lh hYc7;clear hHO7 hHF7 hHZ7 hHD7 hb6 hf6 hz6 hf7 ho7 hat7 hlt7 how6 hge6 hYc hYc5 hYc6 hcss;refine tks [6] ?_;refine tk rfl rfl ⟨hYc7,trivial⟩ rfl (fun _ hW=>by(obtain⟨k0',k1'⟩:=hW;go_simp) <;> with_reducible rfl) ?_;simp only[nrm];refine tke ?_;refine iC (j:=7) none rfl rfl (by kernel_rfl) rfl fun K hK=>?_;have q1:=hYc7.at_ (i:=1) rfl;have qf:=hYc7.free;refine pC (w':=w7.setCell ⟨w.heap.size+1,1,none⟩ (.slice (some ⟨g7,0,none⟩) (acc.length+1) cap)) (by go_simp) (hK _ _ (fun h=>absurd h (by decide +kernel)) ?_);simp only[Act.put];clear hK;refine wd ?_ _;have hf8:Fr [w.heap.size+1] w7 (w7.setCell ⟨w.heap.size+1,1,none⟩ (.slice (some ⟨g7,0,none⟩) (acc.length+1) cap)):=(Fr.refl [w.heap.size+1] w7).setCell (.inl (by simp)) _;have hy8:Blk (w7.setCell ⟨w.heap.size+1,1,none⟩ (.slice (some ⟨g7,0,none⟩) (acc.length+1) cap)) (w.heap.size+1) 117 (cxs (.slice (some ⟨g7,0,none⟩) (acc.length+1) cap) x):=HY.o.set_ 1 _;generalize w7.setCell ⟨w.heap.size+1,1,none⟩ (.slice (some ⟨g7,0,none⟩) (acc.length+1) cap)=w8 at *
   replace HY:=lh hy8
   replace HF:=lh (HF.o.trans hf8 (fun x hx=>.inr (by simp at hx;omega)))
   replace HZ:=lh (HZ.o.fr hf8)
   replace HD:=lh (HD.o.fr hf8 (by simp;omega))
   replace HO:=lh (HO.o.fr hf8 (fun x hx=>.inl (by simp at hx;omega)))
   have HMP:Hid ((acc ++ [y]).map Xpr.cells=acc.map Xpr.cells ++ [Xpr.cells y]):=lh (by simp);rw[List.length_map] at HO;clear q1 qf hYc7 hf8 hy8;have c5:=HD.o.cells.1 4 _ rfl;simp only[Nat.succ_ne_zero,if_false,Nat.reduceAdd] at c5
   cases hbd:s2.bad with
   | true=>
    rw[hbd] at c5;have HX:Hid (Mch (fun l=>CAt w8 (fun g=>w.heap.size+2<=g) (.rows 13 (l.map Xpr.cells)) (.slice (some ⟨g7,0,none⟩) (acc.length+1) cap)) TS s2 X):=lh (cN (y:=acc ++ [y]) (HZ1.o hbd) hbd (by rw[HMP.o];simpa using HO.o.cat k0));clear hbd;go_upto_region 7 with fail
    have HNE:=lh (fP HD.o ⟨#[41]⟩);rw[show aA ⟨#[41]⟩=[41] from rfl] at HNE;go_wp2_with fail;refine HNE.o.mono ?_;rintro e w10 ⟨rfl,hd10,hf10⟩;have HMC:Hid (Mch (fun y=>aEM w w10 y (cxs (.slice (some ⟨g7,0,none⟩) (acc.length+1) cap) x)) TS (if s2.nx TS [41]=true then s2.go else s2.fail) (iK S s.d (aA x) (s.down.q TS))):=lh (bN (f:=fun l=>Xpr.of 7 l (aA x)) HX.o HE2.o (fun l hl=>HXO.o _ (fun g=>w.heap.size+2<=g) l _ (by rw[oC];exact hl.fr hf10 (fun g hg=>by simp;omega))))
    replace HF:=lh (HF.o.trans hf10 (fun x hx=>.inl hx))
    replace HZ:=lh (HZ.o.fr hf10 (by simp;omega))
    replace HY:=lh (HY.o.fr hf10 (by simp;omega))
    replace HD:=lh hd10
    have HUP:Hid (1<=(if s2.nx TS [41]=true then s2.go else s2.fail).d):=lh (by have:=HDP.o;split <;> (show 1<=s2.d;omega));have HDN:Hid ((if s2.nx TS [41]=true then s2.go else s2.fail).up.d=s.d):=lh (by have:=HDP.o;split <;> (show s2.d - 1=s.d;omega));clear hf10 hd10 HNE HX;generalize (if s2.nx TS [41]=true then s2.go else s2.fail)=s9 at *;go_wp2_with fail;refine(aEF HD.o HUP.o).mono ?_;rintro e w8 ⟨rfl,hd8,hf8⟩
    replace HF:=lh (HF.o.trans hf8 (fun x hx=>.inl hx))
    replace HZ:=lh (HZ.o.fr hf8 (by simp;omega))
    replace HY:=lh (HY.o.fr hf8 (by simp;omega))
    replace HD:=lh hd8
    clear hd8;have HC1:Hid ((Tryz.prog.info? 117).map (·.size)=some (cxs (.slice (some ⟨g7,0,none⟩) (acc.length+1) cap) x).length):=lh tB;have HC2:Hid (zx.length=(cxs (.slice (some ⟨g7,0,none⟩) (acc.length+1) cap) x).length):=lh rfl;have HO1:Hid (∀ u ∈ cxs (.slice (some ⟨g7,0,none⟩) (acc.length+1) cap) x,u.oneCell'=true):=lh mX
    go_wp2_with (first
     | (with_reducible refine uA rfl 117 (.tmp 5) rfl rfl HY.o Tryz.underlying117 rfl HC1.o ?_)
     | (with_reducible refine iA rfl 117 (.tmp 4) (.tmp 38) rfl (cxs (.slice (some ⟨g7,0,none⟩) (acc.length+1) cap) x) rfl rfl HZ.o HC1.o HC2.o HO1.o ?_))
    intro w9 hb9 hf9 hz9;have HB9:=lh hb9;have HF9:=lh hf9;have HF8:=lh hf8;clear hb9 hf9 hz9 hf8;go_wp2_with fail;exact zD rfl rfl HB9.o rfl (HQ.o _ _ ⟨_,_,rfl,HD.o.fr HF9.o (by simp;omega),HDN.o,HF.o.trans HF9.o (fun x hx=>.inr (by simp at hx;omega)),tE (f:=fun y=>y) HMC.o (by cases iK S s.d (aA x) (s.down.q TS) <;> rfl) (fun y hy=>⟨_,rfl,hy.fr9 HF8.o HF9.o (by omega) (by omega)⟩) rfl rfl rfl⟩)
   | false=>
    rw[hbd] at c5;obtain⟨hk2,hq2,hX2⟩:=HZ2.o hbd;rw[bC] at hq2;have HX2:=lh hX2;have HI:=lh (qK HD.o ⟨#[44]⟩);rw[show aA ⟨#[44]⟩=[44] from rfl] at HI;have HBD2:=lh hbd;clear hbd hX2
    cases hnx:s2.nx TS [44] with
    | false=>
     have HXE:=lh (HX2.o.trans (if_neg (by rw[hnx];simp)));rw[hnx,if_neg (by simp)] at HI;clear hnx;go_wp2_with fail;refine HI.o.mono ?_;rintro e w11 ⟨rfl,hd11,hf11⟩
     replace HF:=lh (HF.o.trans hf11 (fun x hx=>.inl hx))
     replace HZ:=lh (HZ.o.fr hf11 (by simp;omega))
     replace HY:=lh (HY.o.fr hf11 (by simp;omega))
     replace HO:=lh (HO.o.fr hf11 (fun x hx=>.inl (by simp at hx;omega)))
     replace HD:=lh hd11
     have HX:Hid (Mch (fun l=>CAt w11 (fun g=>w.heap.size+2<=g) (.rows 13 (l.map Xpr.cells)) (.slice (some ⟨g7,0,none⟩) (acc.length+1) cap)) TS s2 X):=lh (eI HXE.o HBD2.o hk2 rfl (by rw[HMP.o];simpa using HO.o.cat k0));clear hd11 hf11 c5 HI;go_upto_region 7 with fail
     have HNE:=lh (fP HD.o ⟨#[41]⟩);rw[show aA ⟨#[41]⟩=[41] from rfl] at HNE;go_wp2_with fail;refine HNE.o.mono ?_;rintro e w10 ⟨rfl,hd10,hf10⟩;have HMC:Hid (Mch (fun y=>aEM w w10 y (cxs (.slice (some ⟨g7,0,none⟩) (acc.length+1) cap) x)) TS (if s2.nx TS [41]=true then s2.go else s2.fail) (iK S s.d (aA x) (s.down.q TS))):=lh (bN (f:=fun l=>Xpr.of 7 l (aA x)) HX.o HE2.o (fun l hl=>HXO.o _ (fun g=>w.heap.size+2<=g) l _ (by rw[oC];exact hl.fr hf10 (fun g hg=>by simp;omega))))
     replace HF:=lh (HF.o.trans hf10 (fun x hx=>.inl hx))
     replace HZ:=lh (HZ.o.fr hf10 (by simp;omega))
     replace HY:=lh (HY.o.fr hf10 (by simp;omega))
     replace HD:=lh hd10
     have HUP:Hid (1<=(if s2.nx TS [41]=true then s2.go else s2.fail).d):=lh (by have:=HDP.o;split <;> (show 1<=s2.d;omega));have HDN:Hid ((if s2.nx TS [41]=true then s2.go else s2.fail).up.d=s.d):=lh (by have:=HDP.o;split <;> (show s2.d - 1=s.d;omega));clear hf10 hd10 HNE HX;generalize (if s2.nx TS [41]=true then s2.go else s2.fail)=s9 at *;go_wp2_with fail;refine(aEF HD.o HUP.o).mono ?_;rintro e w8 ⟨rfl,hd8,hf8⟩
     replace HF:=lh (HF.o.trans hf8 (fun x hx=>.inl hx))
     replace HZ:=lh (HZ.o.fr hf8 (by simp;omega))
     replace HY:=lh (HY.o.fr hf8 (by simp;omega))
     replace HD:=lh hd8
     clear hd8;have HC1:Hid ((Tryz.prog.info? 117).map (·.size)=some (cxs (.slice (some ⟨g7,0,none⟩) (acc.length+1) cap) x).length):=lh tB;have HC2:Hid (zx.length=(cxs (.slice (some ⟨g7,0,none⟩) (acc.length+1) cap) x).length):=lh rfl;have HO1:Hid (∀ u ∈ cxs (.slice (some ⟨g7,0,none⟩) (acc.length+1) cap) x,u.oneCell'=true):=lh mX
     go_wp2_with (first
      | (with_reducible refine uA rfl 117 (.tmp 5) rfl rfl HY.o Tryz.underlying117 rfl HC1.o ?_)
      | (with_reducible refine iA rfl 117 (.tmp 4) (.tmp 38) rfl (cxs (.slice (some ⟨g7,0,none⟩) (acc.length+1) cap) x) rfl rfl HZ.o HC1.o HC2.o HO1.o ?_))
     intro w9 hb9 hf9 hz9;have HB9:=lh hb9;have HF9:=lh hf9;have HF8:=lh hf8;clear hb9 hf9 hz9 hf8;go_wp2_with fail;exact zD rfl rfl HB9.o rfl (HQ.o _ _ ⟨_,_,rfl,HD.o.fr HF9.o (by simp;omega),HDN.o,HF.o.trans HF9.o (fun x hx=>.inr (by simp at hx;omega)),tE (f:=fun y=>y) HMC.o (by cases iK S s.d (aA x) (s.down.q TS) <;> rfl) (fun y hy=>⟨_,rfl,hy.fr9 HF8.o HF9.o (by omega) (by omega)⟩) rfl rfl rfl⟩)
    | true=>
     have HXE:=lh (HX2.o.trans (if_pos hnx));have hk3:s2.k+1<=TS.length:=aG hnx;rw[hnx,if_pos rfl] at HI;clear hnx;go_wp2_with fail;refine HI.o.mono ?_;rintro e w11 ⟨rfl,hd11,hf11⟩
     replace HF:=lh (HF.o.trans hf11 (fun x hx=>.inl hx))
     replace HZ:=lh (HZ.o.fr hf11 (by simp;omega))
     replace HY:=lh (HY.o.fr hf11 (by simp;omega))
     replace HO:=lh (HO.o.fr hf11 (fun x hx=>.inl (by simp at hx;omega)))
     replace HD:=lh hd11
     clear hd11 hf11 c5 HI;go_wp2_with fail
     go_roundg (TS.length - (s2.k+1))
     case measure=>omega
     case rel=>exact⟨acc ++ [y],m,s2.go,_,⟨HD.o,HBD2.o,hk3,HDP.o,by show s.k<=s2.k+1;omega,by show TS.length < m+(s2.k+1);omega,HXE.o,by rw[HMP.o];simpa using HO.o,by rw[List.length_append];show acc.length+1<=s2.k+1;omega,HF.o⟩,HY.o,HZ.o,Nat.le_refl _⟩
end
end
end Go.Proofs.YtbggkiebfflcdaaGreatDoor
