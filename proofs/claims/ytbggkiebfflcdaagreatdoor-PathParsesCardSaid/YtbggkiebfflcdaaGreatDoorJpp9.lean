/-
  Joined by join.py: Gb Gc Gd
-/
import Derived.Test.YtbggkiebfflcdaaGreatDoorJpp8
set_option maxRecDepth 100000
set_option maxHeartbeats 32000000
namespace Go.Proofs.YtbggkiebfflcdaaGreatDoor
section
open Go.RowKit Go.Shelf
def xE {α:Type} (acc:List α) (x:Option (List α × QS)):Option (List α × QS):=x.map fun r=>(acc ++ r.1,r.2)
theorem hon' {α:Type} {item:Rd α} (h:item.on) {s s':QS} {a:α} (hi:item s=some (a,s')):s'.l.length<=s.l.length:=(h s a s' hi).length_le
theorem kA (e:Xpr):e.cells.length=13:=by obtain⟨what,l,op,⟨rel,ql⟩,v⟩:=e;simp[Xpr.cells,Qry.cells,Vlu.cells]
theorem aD (e:Slr):e.cells.length=10:=by obtain⟨what,name,at_,has,s,f⟩:=e;simp[Slr.cells]
theorem vL (e:Sgm):e.cells.length=2:=by obtain⟨dp,l⟩:=e;simp[Sgm.cells]
theorem oC:∀ l:List Xpr,xF l=l.map Xpr.cells
 | []=>rfl
 | x :: l=>by rw[xF,oC l];rfl
theorem yE:∀ l:List Slr,lH l=l.map Slr.cells
 | []=>rfl
 | x :: l=>by rw[lH,yE l];rfl
theorem dE:∀ l:List Sgm,jJ l=l.map Sgm.cells
 | []=>rfl
 | x :: l=>by rw[jJ,dE l];rfl
def zx:List Value:=[.int .i64 0,.slice none 0 0,.string { data:=#[] },.bool false,.slice none 0 0,.int .i64 0,.bool false,.bool false,.string { data:=#[] },.int .i64 0,.string { data:=#[] },.slice none 0 0,.slice none 0 0]
theorem rD:(Value.agg zx.toArray).cells.size=13:=rfl
def zs:List Value:=[.int .i64 0,.string { data:=#[] },.int .i64 0,.bool false,.bool false,.bool false,.int .i64 0,.int .i64 0,.int .i64 0,.slice none 0 0]
theorem uJ:(Value.agg zs.toArray).cells.size=10:=rfl
theorem tW:(Tryz.prog.info? 109).map (fun i=>(i.zero,i.size,i.bytes))=some (some (.agg zx.toArray),13,192):=by kernel_rfl
theorem aDH:(Tryz.prog.info? 50).map (fun i=>(i.zero,i.size,i.bytes))=some (some (.agg zs.toArray),10,88):=by kernel_rfl
theorem aFr {w:World} {g:Nat} {e:TypeId} {k:Nat} {cs:List Value} (h:Blk w g e cs) (hk:cs.length=k):w.ownsRow 0 e k (.slice (some ⟨g,0,none⟩) 1 1) 1 cs:=
 ⟨by rw[hk,Nat.one_mul],.inr ⟨g,1,cs.toArray,rfl,Nat.zero_le _,h,Nat.le_refl _,by decide,by simp[hk],by simp[<- hk]⟩⟩
theorem iF.one {w w2:World} {lo k:Nat} {e:TypeId} {cs:List Value} {row:List Cl} (hb:Blk w2 w.heap.size e cs) (hf:Fr [] w w2) (hp:gA w (fun g=>lo<=g) row cs) (hlo:lo<=w.heap.size) (hk:cs.length=k) (hr:row.length=k):iF w2 lo e k (.slice (some ⟨w.heap.size,0,none⟩) 1 1) [row]:=by
 refine⟨[cs],rfl,by simpa using aFr hb hk,fun x hx=>?_,fun i q c hq hc=>?_⟩
 ·have:w.heap.size=x:=by simpa[Value.ownBlock] using hx
  omega
 ·obtain⟨hi,rfl⟩:=List.getElem?_eq_some_iff.1 hq;have h0:i=0:=by simpa using hi
  subst h0
  simp at hc
  subst hc;exact⟨hr,(hp.bound.fr hf).mono (fun g hg=>⟨hg.1,by simp[Value.ownBlock];omega,by have:=hf.size;omega⟩)⟩
theorem iF.lo_of {w:World} {lo k:Nat} {t:TypeId} {v:Value} {l:List (List Cl)} (h:iF w lo t k v l):∀ g,v.ownBlock=some g -> lo<=g:=by
 obtain⟨css,h1,h2,h3,h4⟩:=h;exact h3
theorem iF.app {w w3 w7:World} {lo:Nat} {t:TypeId} {k H:Nat} {v:Value} {A:Option Addr} {c n:Nat} {l:List (List Cl)} {p:List Cl} {cs:List Value} {g7 cap:Nat} (h:iF w lo t k v l) (hv:v=.slice A n c) (hf3:Fr [] w w3) (hH:w3.heap.size=H+1) (hlo:lo<=H) (hpk:p.length=k) (hp:gA w (fun g=>lo<=g/\(Value.slice A n c).ownBlock ≠ some g) p cs)
  (hf7:Fr v.ownBlock.toList w3 w7) {xs:List Value} (ho7:w7.ownsRow 0 t k (.slice (some ⟨g7,0,none⟩) (l.length+1) cap) (l.length+1) (xs ++ cs)) (hxs:w.ownsRow 0 t k v l.length xs) (hat:v.ownBlock=some g7 ∨ g7=H+1):iF w7 lo t k (.slice (some ⟨g7,0,none⟩) (l.length+1) cap) (l ++ [p]):=by
 subst hv;exact h.push hf3 hH (by omega) hpk (hp.fr hf3) hf7 xs ho7 hxs hat
section
variable {P : Program} {ops : Array Oper} {rest : List Oper} {o : Oper} {a : Act} {w : World} {Q : Exit -> Act -> World -> Prop}
theorem eE (hg:o.guard=none) {t:TypeId} (s x:Operand) (ho:o.op=.call { callee:=.builtin .append,args:=#[s,x],argTypes:=#[t,t] })
  (e:TypeId) {i:TypeInfo} {z:Value} (size bytes:Nat) (ht:P.underlying t=some (.slice e)) (hi:P.info? e=some i) (hz:i.zero=some z) (hsize:i.size=size) (hby:i.bytes=bytes) (hzs:z.cells.size=size) (h0:0 < size)
  (v:Value) (n:Nat) (xs:List Value) (hs:a.eval s=v) (hown:w.ownsRow 0 e size v n xs) (q:Addr) (m d:Nat) (news:List Value) (hx:a.eval x=.slice (some q) m d) (hl:news.length=m * size)
  (hc:∀ (j:Nat) (u:Value),news[j]? = some u -> w.cell? (q.add j)=some u) (h1:∀ u ∈ news,u.oneCell'=true) (hm:0 < m) (h63:n+m<=maxLen) (hbytes:(n+m) * bytes<=140737488355328) (H:Nat) (hH:w.heap.size=H)
  (h:∀ g cap w',w'.ownsRow 0 e size (.slice (some ⟨g,0,none⟩) (n+m) cap) (n+m) (xs ++ news) -> Fr v.ownBlock.toList w w' -> (v.ownBlock=some g ∨ g=H) -> wpList P ops Q rest (a.put o.dst (.slice (some ⟨g,0,none⟩) (n+m) cap)) w'):wpList P ops Q (o :: rest) a w:=
 wpList_plain hg fun _K hK=>jB s x ho e size bytes ht hi hz hsize hby hzs h0 v n xs hs hown q m d news hx hl hc h1 hm h63 hbytes H hH fun g cap w' h2 h3 h4 _=>hK _ _ (h g cap w' h2 h3 h4)
end
def aGL {α:Type} (c:α -> List Cl) (T:TypeId) (k:Nat) (w:World) (r gl:Nat) (txt:ByteArray) (d:Int) (n:Nat) (x:List UInt8) (item:Rd α) (X:Option (List α × QS)) (j:Nat) (v:Value) (wr:World):Prop:=
 ∃ (acc:List α) (s:QS) (m:Nat),s.l.length<=j/\s.l.length<=m/\s.l.length<=n/\X=(if s.next x=true then xE acc (rB x item m s.go) else some (acc,s))/\acc.length+s.l.length<=8193/\iF wr w.heap.size T k v (acc.map c)/\wD wr r gl txt d s/\Fr [r] w wr
theorem aR {w:World} {r gl n:Nat} {txt:ByteArray} {d:Int} {s:QS} {f:FuncId} (he:∀ w,(callFunc f #[.pointer (some ⟨r,0,none⟩)]).run Tryz.prog w=.ok (.enter f #[.pointer (some ⟨r,0,none⟩)]) w) {item:Rd Xpr} (hon:item.on)
  (hit:∀ (w1:World) (s1:QS),wD w1 r gl txt d s1 -> s1.l.length<=n -> Calls Tryz.prog f #[.pointer (some ⟨r,0,none⟩)] w1 (rJ (cF Xpr.cells w1) w1 r gl txt d (item s1)))
  (h:wD w r gl txt d s) (hn:s.l.length<=n) (x:ByteArray):Calls Tryz.prog 198 #[.pointer (some ⟨r,0,none⟩),.string x,.func (.func f) #[.pointer (some ⟨r,0,none⟩)] #[]] w (rJ (fun w' l v=>CAt w' (fun g=>w.heap.size<=g) (.rows 13 (l.map Xpr.cells)) v) w r gl txt d (eC (aA x) item s)):=by
 refine bA fun R HQ=>?_;have HIT:=lh hit;have HON:=lh hon;have HC:=lh (hit w s h hn);have hlen:=h.len;have hrlt:=h.lt;have HE0:Hid (eC (aA x) item s=rB (aA x) item (s.l.length+1) s):=lh rfl;obtain⟨iu,hi,hz',hsz',hby⟩:=info_parts tW;have k0:0 < 13:=by decide
 have kb:13<=16777216:=by decide
 clear hit hon h
 go_enter Tryz.func198,Tryz.ntmps198
 go_wp2_with (with_reducible refine bJ rfl rfl f #[.pointer (some ⟨r,0,none⟩)] #[] #[.pointer (some ⟨r,0,none⟩)] rfl rfl he ?_)
 cases hi1:item s with
 | none=>
  have HE:Hid (eC (aA x) item s=none):=lh (by rw[HE0.o,rB,hi1]);rw[hi1] at HC;refine HC.o.mono ?_;rintro e w1 ⟨rfl,hf⟩;refine .inr ⟨_,rfl,?_⟩;exact⟨rfl,HQ.o _ _ (bB HE.o hf)⟩
 | some y=>
  obtain⟨a1,s1⟩:=y;have hs1:=(hon' HON.o hi1)
  have HE1:Hid (eC (aA x) item s=if s1.next (aA x)=true then xE [a1] (rB (aA x) item s.l.length s1.go) else some ([a1],s1)):=lh (by
   rw[HE0.o,rB,hi1]
   simp only
   split
   ·cases rB (aA x) item s.l.length s1.go <;> rfl
   ·rfl)
  rw[hi1] at HC;clear hi1 HE0;refine HC.o.mono ?_;rintro e w1 ⟨_,rfl,⟨cs,rfl,hcs⟩,hr1,hf1⟩;refine .inl ⟨_,rfl,?_⟩;have HR1:=lh hr1;have HF1:=lh hf1;have HCS:=lh hcs;have hcl:cs.length=13:=hcs.1.trans (kA a1);have HCL:=lh hcl;clear hr1 hf1 hcs hcl HC
  go_wp2_with (with_reducible refine cC rfl (.tmp 9) rfl Tryz.underlying48 hi hz' cs rfl HCL.o hsz' rD k0 kb ?_)
  intro w2 hb2 hf2 hz2;have HO2:=lh (iF.one hb2 hf2 HCS.o (by have:=HF1.o.size;exact this) HCL.o (kA a1));have HR2:=lh (HR1.o.fr hf2);have HF2:=lh (HF1.o.trans hf2);clear hb2 hf2 hz2 HR1 HCS HCL;go_wp2_with fail
  go_loopg [7] s1.l.length (fun j v7 wr=>aGL Xpr.cells 109 13 w r gl txt d n (aA x) item (eC (aA x) item s) j v7 wr)
  case atStart=>exact⟨[a1],s1,s.l.length,Nat.le_refl _,hs1,by omega,HE1.o,by simp;omega,HO2.o,HR2.o,HF2.o⟩
  case round=>
   obtain⟨acc,s3,m,hj,hm,hsn,hE,hac,hO,hR,hF⟩:=hrel;have HO:=lh hO;have HR:=lh hR;have HF:=lh hF;have HE:=lh hE;have HAC:=lh hac;clear hO hR hF hE HE1 HO2 HR2 HF2 hac;obtain⟨oA,oc,hov⟩:=HO.o.slice;have HOV:=lh hov;clear hov
   cases hnx:s3.next (aA x) with
   | false=>
    have HEE:Hid (eC (aA x) item s=some (acc,s3)):=lh (by rw[HE.o,if_neg (by rw[hnx];simp)]);have HN:=lh (mH HR.o x hnx);clear hnx;go_wp2_with fail;refine HN.o.mono ?_;rintro e w4 ⟨rfl,hr4,hf4⟩;have HR4:=lh hr4;have HF4:=lh (HF.o.trans hf4 (fun x hx=>.inl hx));have HO4:=lh (HO.o.fr hf4 (fun x hx=>.inl (by simp at hx;omega)));clear hr4 hf4;go_wp2_with fail;exact HQ.o _ _ (aB HEE.o (HO4.o.cat (by decide)) HR4.o HF4.o)
   | true=>
    obtain⟨t,ht,hlg⟩:=lJ hnx;obtain⟨m1,hm1⟩:∃ m1,m=m1+1:=⟨m - 1,by omega⟩;have HEE:Hid (eC (aA x) item s=xE acc (rB (aA x) item (m1+1) s3.go)):=lh (by rw[HE.o,if_pos hnx,hm1]);have HN:=lh (qF HR.o x hnx);clear hnx ht;go_wp2_with fail;refine HN.o.mono ?_;rintro e w4 ⟨rfl,hr4,hf4⟩;have HR4:=lh hr4;have HF4:=lh (HF.o.trans hf4 (fun x hx=>.inl hx));have HO4:=lh (HO.o.fr hf4 (fun x hx=>.inl (by simp at hx;omega)));have HC:=lh (HIT.o w4 s3.go hr4 (by omega));clear hr4 hf4
    go_wp2_with (with_reducible refine bJ rfl rfl f #[.pointer (some ⟨r,0,none⟩)] #[] #[.pointer (some ⟨r,0,none⟩)] rfl rfl he ?_)
    cases hi4:item s3.go with
    | none=>
     have HE9:Hid (eC (aA x) item s=none):=lh (by rw[HEE.o,rB,hi4];rfl);rw[hi4] at HC;refine HC.o.mono ?_;rintro e w5 ⟨rfl,hf⟩;refine .inr ⟨_,rfl,?_⟩;exact⟨rfl,HQ.o _ _ (bB HE9.o (HF4.o.trans hf (fun x hx=>.inl hx)))⟩
    | some y=>
     obtain⟨a5,s5⟩:=y;have hs5:=(hon' HON.o hi4)
     have HE9:Hid (eC (aA x) item s=if s5.next (aA x)=true then xE (acc ++ [a5]) (rB (aA x) item m1 s5.go) else some (acc ++ [a5],s5)):=lh (by
      rw[HEE.o,rB,hi4]
      simp only
      split
      ·cases rB (aA x) item m1 s5.go <;> simp[xE]
      ·rfl)
     rw[hi4] at HC;clear hi4 HEE HE;refine HC.o.mono ?_;rintro e w5 ⟨_,rfl,⟨cs5,rfl,hcs⟩,hr5,hf5⟩;refine .inl ⟨_,rfl,?_⟩;have HR5:=lh hr5;have HF5:=lh (HF4.o.trans hf5 (fun x hx=>.inl hx));have hO5:=HO4.o.fr hf5 (fun x hx=>.inl (by simp at hx;omega))
     have HCS5:Hid (gA w5 (fun g=>w.heap.size<=g/\(Value.slice oA (acc.map Xpr.cells).length oc).ownBlock ≠ some g) (Xpr.cells a5) cs5):=lh (hcs.mono (fun g hg=>⟨by have:=HF4.o.size;omega,fun e=>by
      have h1:=HO4.o.lt g (by rw[HOV.o];exact e);omega⟩))
     have HO5:=lh hO5;have HCL5:Hid (cs5.length=13):=lh (hcs.1.trans (kA a5));clear hcs hr5 hf5 hO5 HC
     go_wp2_with (with_reducible refine cC rfl (.tmp 16) rfl Tryz.underlying48 hi hz' cs5 rfl HCL5.o hsz' rD k0 kb ?_)
     intro w6 hb6 hf6 hz6;obtain⟨css,hcss,how6,hge6,-⟩:=HO5.o;have hl7:acc.length+1<=8194:=by have:=HAC.o;omega
     have how6':=sB (by simpa using how6) hf6 (by simp:∀ g,u7.ownBlock=some g -> g ∉ ([]:List Nat));have hcl6:cs5.length=1 * 13:=by rw[HCL5.o]
     have hat6:∀ (j:Nat) (u:Value),cs5[j]? = some u -> w6.cell? ((⟨w5.heap.size,0,none⟩:Addr).add j)=some u:=fun j u hu=>by rw[Addr.add_mid,Nat.zero_add];exact hb6.at_ hu
     have hml6:acc.length+1<=maxLen:=by unfold maxLen;omega
     have hbb6:(acc.length+1) * 192<=140737488355328:=by omega
     go_wp2_with (with_reducible refine eE rfl (.tmp 14) (.tmp 17) rfl 109 13 192 Tryz.underlying48 hi hz' hsz' hby rD k0 u7 acc.length css.flatten rfl how6' ⟨w5.heap.size,0,none⟩ 1 1 cs5 rfl hcl6 hat6 HCS5.o.one Nat.one_pos hml6 hbb6 (w5.heap.size+1) hz6 ?_)
     intro g7 cap w7 ho7 hf7 hat7;have HO7:=lh (iF.app (p:=Xpr.cells a5) (l:=acc.map Xpr.cells) (g7:=g7) (cap:=cap) HO5.o HOV.o hf6 hz6 (by have:=HF5.o.size;exact this) (kA a5) HCS5.o hf7 (by simpa using ho7) how6 (by simpa using hat7));have HR7:=lh ((HR5.o.fr hf6).fr hf7 (fun x hx=>by have:=HO5.o.lo_of x (by simpa using hx);omega));have HF7:=lh ((HF5.o.trans hf6).trans hf7 (fun x hx=>.inr (HO5.o.lo_of x (by simpa using hx))));clear hb6 hf6 hz6 ho7 hf7 hat7 how6 hge6;go_wp2_with fail
     go_roundg s5.l.length
     case measure=>omega
     case rel=>exact⟨acc ++ [a5],s5,m1,Nat.le_refl _,by omega,by omega,HE9.o,by have:=HAC.o;rw[List.length_append];simp;omega,by simpa using HO7.o,HR7.o,HF7.o⟩
theorem qV {w:World} {r gl n:Nat} {txt:ByteArray} {d:Int} {s:QS} {f:FuncId} (he:∀ w,(callFunc f #[.pointer (some ⟨r,0,none⟩)]).run Tryz.prog w=.ok (.enter f #[.pointer (some ⟨r,0,none⟩)]) w) {item:Rd Slr} (hon:item.on)
  (hit:∀ (w1:World) (s1:QS),wD w1 r gl txt d s1 -> s1.l.length<=n -> Calls Tryz.prog f #[.pointer (some ⟨r,0,none⟩)] w1 (rJ (cF Slr.cells w1) w1 r gl txt d (item s1)))
  (h:wD w r gl txt d s) (hn:s.l.length<=n) (x:ByteArray):Calls Tryz.prog 112 #[.pointer (some ⟨r,0,none⟩),.string x,.func (.func f) #[.pointer (some ⟨r,0,none⟩)] #[]] w (rJ (fun w' l v=>CAt w' (fun g=>w.heap.size<=g) (.rows 10 (l.map Slr.cells)) v) w r gl txt d (eC (aA x) item s)):=by
 refine bA fun R HQ=>?_;have HIT:=lh hit;have HON:=lh hon;have HC:=lh (hit w s h hn);have hlen:=h.len;have hrlt:=h.lt;have HE0:Hid (eC (aA x) item s=rB (aA x) item (s.l.length+1) s):=lh rfl;obtain⟨iu,hi,hz',hsz',hby⟩:=info_parts aDH;have k0:0 < 10:=by decide
 have kb:10<=16777216:=by decide
 clear hit hon h
 go_enter Tryz.func112,Tryz.ntmps112
 go_wp2_with (with_reducible refine bJ rfl rfl f #[.pointer (some ⟨r,0,none⟩)] #[] #[.pointer (some ⟨r,0,none⟩)] rfl rfl he ?_)
 cases hi1:item s with
 | none=>
  have HE:Hid (eC (aA x) item s=none):=lh (by rw[HE0.o,rB,hi1]);rw[hi1] at HC;refine HC.o.mono ?_;rintro e w1 ⟨rfl,hf⟩;refine .inr ⟨_,rfl,?_⟩;exact⟨rfl,HQ.o _ _ (bB HE.o hf)⟩
 | some y=>
  obtain⟨a1,s1⟩:=y;have hs1:=(hon' HON.o hi1)
  have HE1:Hid (eC (aA x) item s=if s1.next (aA x)=true then xE [a1] (rB (aA x) item s.l.length s1.go) else some ([a1],s1)):=lh (by
   rw[HE0.o,rB,hi1]
   simp only
   split
   ·cases rB (aA x) item s.l.length s1.go <;> rfl
   ·rfl)
  rw[hi1] at HC;clear hi1 HE0;refine HC.o.mono ?_;rintro e w1 ⟨_,rfl,⟨cs,rfl,hcs⟩,hr1,hf1⟩;refine .inl ⟨_,rfl,?_⟩;have HR1:=lh hr1;have HF1:=lh hf1;have HCS:=lh hcs;have hcl:cs.length=10:=hcs.1.trans (aD a1);have HCL:=lh hcl;clear hr1 hf1 hcs hcl HC
  go_wp2_with (with_reducible refine cC rfl (.tmp 9) rfl Tryz.underlying52 hi hz' cs rfl HCL.o hsz' uJ k0 kb ?_)
  intro w2 hb2 hf2 hz2;have HO2:=lh (iF.one hb2 hf2 HCS.o (by have:=HF1.o.size;exact this) HCL.o (aD a1));have HR2:=lh (HR1.o.fr hf2);have HF2:=lh (HF1.o.trans hf2);clear hb2 hf2 hz2 HR1 HCS HCL;go_wp2_with fail
  go_loopg [7] s1.l.length (fun j v7 wr=>aGL Slr.cells 50 10 w r gl txt d n (aA x) item (eC (aA x) item s) j v7 wr)
  case atStart=>exact⟨[a1],s1,s.l.length,Nat.le_refl _,hs1,by omega,HE1.o,by simp;omega,HO2.o,HR2.o,HF2.o⟩
  case round=>
   obtain⟨acc,s3,m,hj,hm,hsn,hE,hac,hO,hR,hF⟩:=hrel;have HO:=lh hO;have HR:=lh hR;have HF:=lh hF;have HE:=lh hE;have HAC:=lh hac;clear hO hR hF hE HE1 HO2 HR2 HF2 hac;obtain⟨oA,oc,hov⟩:=HO.o.slice;have HOV:=lh hov;clear hov
   cases hnx:s3.next (aA x) with
   | false=>
    have HEE:Hid (eC (aA x) item s=some (acc,s3)):=lh (by rw[HE.o,if_neg (by rw[hnx];simp)]);have HN:=lh (mH HR.o x hnx);clear hnx;go_wp2_with fail;refine HN.o.mono ?_;rintro e w4 ⟨rfl,hr4,hf4⟩;have HR4:=lh hr4;have HF4:=lh (HF.o.trans hf4 (fun x hx=>.inl hx));have HO4:=lh (HO.o.fr hf4 (fun x hx=>.inl (by simp at hx;omega)));clear hr4 hf4;go_wp2_with fail;exact HQ.o _ _ (aB HEE.o (HO4.o.cat (by decide)) HR4.o HF4.o)
   | true=>
    obtain⟨t,ht,hlg⟩:=lJ hnx;obtain⟨m1,hm1⟩:∃ m1,m=m1+1:=⟨m - 1,by omega⟩;have HEE:Hid (eC (aA x) item s=xE acc (rB (aA x) item (m1+1) s3.go)):=lh (by rw[HE.o,if_pos hnx,hm1]);have HN:=lh (qF HR.o x hnx);clear hnx ht;go_wp2_with fail;refine HN.o.mono ?_;rintro e w4 ⟨rfl,hr4,hf4⟩;have HR4:=lh hr4;have HF4:=lh (HF.o.trans hf4 (fun x hx=>.inl hx));have HO4:=lh (HO.o.fr hf4 (fun x hx=>.inl (by simp at hx;omega)));have HC:=lh (HIT.o w4 s3.go hr4 (by omega));clear hr4 hf4
    go_wp2_with (with_reducible refine bJ rfl rfl f #[.pointer (some ⟨r,0,none⟩)] #[] #[.pointer (some ⟨r,0,none⟩)] rfl rfl he ?_)
    cases hi4:item s3.go with
    | none=>
     have HE9:Hid (eC (aA x) item s=none):=lh (by rw[HEE.o,rB,hi4];rfl);rw[hi4] at HC;refine HC.o.mono ?_;rintro e w5 ⟨rfl,hf⟩;refine .inr ⟨_,rfl,?_⟩;exact⟨rfl,HQ.o _ _ (bB HE9.o (HF4.o.trans hf (fun x hx=>.inl hx)))⟩
    | some y=>
     obtain⟨a5,s5⟩:=y;have hs5:=(hon' HON.o hi4)
     have HE9:Hid (eC (aA x) item s=if s5.next (aA x)=true then xE (acc ++ [a5]) (rB (aA x) item m1 s5.go) else some (acc ++ [a5],s5)):=lh (by
      rw[HEE.o,rB,hi4]
      simp only
      split
      ·cases rB (aA x) item m1 s5.go <;> simp[xE]
      ·rfl)
     rw[hi4] at HC;clear hi4 HEE HE;refine HC.o.mono ?_;rintro e w5 ⟨_,rfl,⟨cs5,rfl,hcs⟩,hr5,hf5⟩;refine .inl ⟨_,rfl,?_⟩;have HR5:=lh hr5;have HF5:=lh (HF4.o.trans hf5 (fun x hx=>.inl hx));have hO5:=HO4.o.fr hf5 (fun x hx=>.inl (by simp at hx;omega))
     have HCS5:Hid (gA w5 (fun g=>w.heap.size<=g/\(Value.slice oA (acc.map Slr.cells).length oc).ownBlock ≠ some g) (Slr.cells a5) cs5):=lh (hcs.mono (fun g hg=>⟨by have:=HF4.o.size;omega,fun e=>by
      have h1:=HO4.o.lt g (by rw[HOV.o];exact e);omega⟩))
     have HO5:=lh hO5;have HCL5:Hid (cs5.length=10):=lh (hcs.1.trans (aD a5));clear hcs hr5 hf5 hO5 HC
     go_wp2_with (with_reducible refine cC rfl (.tmp 16) rfl Tryz.underlying52 hi hz' cs5 rfl HCL5.o hsz' uJ k0 kb ?_)
     intro w6 hb6 hf6 hz6;obtain⟨css,hcss,how6,hge6,-⟩:=HO5.o;have hl7:acc.length+1<=8194:=by have:=HAC.o;omega
     have how6':=sB (by simpa using how6) hf6 (by simp:∀ g,u7.ownBlock=some g -> g ∉ ([]:List Nat));have hcl6:cs5.length=1 * 10:=by rw[HCL5.o]
     have hat6:∀ (j:Nat) (u:Value),cs5[j]? = some u -> w6.cell? ((⟨w5.heap.size,0,none⟩:Addr).add j)=some u:=fun j u hu=>by rw[Addr.add_mid,Nat.zero_add];exact hb6.at_ hu
     have hml6:acc.length+1<=maxLen:=by unfold maxLen;omega
     have hbb6:(acc.length+1) * 88<=140737488355328:=by omega
     go_wp2_with (with_reducible refine eE rfl (.tmp 14) (.tmp 17) rfl 50 10 88 Tryz.underlying52 hi hz' hsz' hby uJ k0 u7 acc.length css.flatten rfl how6' ⟨w5.heap.size,0,none⟩ 1 1 cs5 rfl hcl6 hat6 HCS5.o.one Nat.one_pos hml6 hbb6 (w5.heap.size+1) hz6 ?_)
     intro g7 cap w7 ho7 hf7 hat7;have HO7:=lh (iF.app (p:=Slr.cells a5) (l:=acc.map Slr.cells) (g7:=g7) (cap:=cap) HO5.o HOV.o hf6 hz6 (by have:=HF5.o.size;exact this) (aD a5) HCS5.o hf7 (by simpa using ho7) how6 (by simpa using hat7));have HR7:=lh ((HR5.o.fr hf6).fr hf7 (fun x hx=>by have:=HO5.o.lo_of x (by simpa using hx);omega));have HF7:=lh ((HF5.o.trans hf6).trans hf7 (fun x hx=>.inr (HO5.o.lo_of x (by simpa using hx))));clear hb6 hf6 hz6 ho7 hf7 hat7 how6 hge6;go_wp2_with fail
     go_roundg s5.l.length
     case measure=>omega
     case rel=>exact⟨acc ++ [a5],s5,m1,Nat.le_refl _,by omega,by omega,HE9.o,by have:=HAC.o;rw[List.length_append];simp;omega,by simpa using HO7.o,HR7.o,HF7.o⟩
def aAB {α:Type} (V:World -> α -> Prop) (w:World) (r gl:Nat) (txt:ByteArray) (d:Int) (L:List Nat) (x:Option (α × QS)) (e:Ending) (w':World):Prop:=
 match x with
 | none=>e=.panicked [oI]/\Fr (r :: L) w w'
 | some (y,s)=>e=.returned (.tuple #[])/\V w' y/\wD w' r gl txt d s/\Fr (r :: L) w w'
theorem yK {α:Type} {V:World -> α -> Prop} {w w':World} {r gl:Nat} {txt:ByteArray} {d:Int} {L:List Nat} {s:QS} {x:Option (α × QS)} {y:α} (h:x=some (y,s)) (hv:V w' y) (hr:wD w' r gl txt d s) (hf:Fr (r :: L) w w'):aAB V w r gl txt d L x (.returned (.tuple #[])) w':=by
 subst h;exact⟨rfl,hv,hr,hf⟩
theorem pN {α:Type} {V:World -> α -> Prop} {w w':World} {r gl:Nat} {txt:ByteArray} {d:Int} {L:List Nat} {x:Option (α × QS)} (h:x=none) (hf:Fr (r :: L) w w'):aAB V w r gl txt d L x (.panicked [oI]) w':=by
 subst h;exact⟨rfl,hf⟩
theorem xO {α:Type} {w:World} {r gl:Nat} {txt:ByteArray} {d:Int} {s:QS} {f:FuncId} {cap:Array Value} (he:∀ w,(callFunc f cap).run Tryz.prog w=.ok (.enter f cap) w) (hc:#[] ++ cap=cap) (h:wD w r gl txt d s) (hd:d < 90000) {X:Option (α × QS)} {V:World -> α -> Prop} (L:List Nat)
  (hread:∀ w1,wD w1 r gl txt (d+1) ⟨s.l,max s.most (d+1)⟩ -> Fr [r] w w1 -> Calls Tryz.prog f cap w1 (aAB V w1 r gl txt (d+1) L X))
  (hV:∀ w2 w3 y,V w2 y -> Fr [r] w2 w3 -> V w3 y):
  Calls Tryz.prog 165 #[.pointer (some ⟨r,0,none⟩),.func (.func f) #[] cap] w (aAB V w r gl txt d L X):=by
 refine bA fun R HQ=>?_;obtain⟨v,hb,hs⟩:=h.at_;have HH:=lh h;have HB:=lh hb;have HS:=lh hs;have hd0:=h.deep;have b2:=hb.at_ (i:=2) rfl;have b3:=hb.at_ (i:=3) rfl;have bf:=hb.free;have HRE:=lh hread;have HV:=lh hV;obtain⟨m,hm⟩:∃ m,s.most=m:=⟨_,rfl⟩;have hmm:=h.most;rw[hm] at b3 hmm HB;have HM:=lh hm;clear h hb hs hread hV hm
 go_enter Tryz.func165,Tryz.ntmps165
 go_wp2_with fail
 go_region
 go_wp2_with fail;have hf1:Fr [r] w ((w.setCell ⟨r,2,none⟩ (.int .i64 (d+1))).setCell ⟨r,3,none⟩ (.int .i64 (max m (d+1)))).drew:=(((Fr.refl [r] w).setCell (.inl (by simp)) _).setCell (.inl (by simp)) _).drew;have hb1:Blk ((w.setCell ⟨r,2,none⟩ (.int .i64 (d+1))).setCell ⟨r,3,none⟩ (.int .i64 (max m (d+1)))).drew r 62 [.string txt,v,.int .i64 (d+1),.int .i64 (max m (d+1))]:=((HB.o.set_ 2 _).set_ 3 _).drew;generalize ((w.setCell ⟨r,2,none⟩ (.int .i64 (d+1))).setCell ⟨r,3,none⟩ (.int .i64 (max m (d+1)))).drew=w1 at *
 have hr1:wD w1 r gl txt (d+1) ⟨s.l,max s.most (d+1)⟩:=by
  have h:=HH.o;refine⟨h.glob.fr hf1 (fun x hx=>by have:=h.r16;simp at hx;omega),h.r16,h.ne,⟨v,by rw[HM.o];exact hb1,HS.o.fr hf1 (fun h0=>by have:=h.ne h0;simp;omega)⟩,h.toks,h.len,?_,?_,h.size,h.names⟩
  ·have:=h.most;have:=HM.o;simp only;omega
  ·omega
 have HC:=lh (HRE.o w1 hr1 hf1);have HF1:=lh hf1;clear hf1 hb1 hr1 b2 b3 bf
 cases hX:X with
 | none=>
  have HX:=lh hX;rw[hX] at HC;clear hX;refine HC.o.mono ?_;rintro e w2 ⟨rfl,hf⟩;exact⟨rfl,HQ.o _ _ (pN HX.o ((HF1.o.mono (by simp)).trans hf (fun x hx=>.inl hx)))⟩
 | some y=>
  obtain⟨y,s'⟩:=y;have HX:=lh hX;rw[hX] at HC;clear hX;refine HC.o.mono ?_;rintro e w2 ⟨rfl,hv,hr,hf⟩;have HR:=lh hr;have HVV:=lh hv;have HF2:Hid (Fr (r :: L) w w2):=lh ((HF1.o.mono (by simp)).trans hf (fun x hx=>.inl hx));obtain⟨v2,hb2,hs2⟩:=hr.at_;have c2:=hb2.at_ (i:=2) rfl;have cf:=hb2.free;have HB2:=lh hb2;have HS2:=lh hs2;clear hb2 hs2 hr hv hf HC;go_wp2_with fail;have hf3:Fr [r] w2 (w2.setCell ⟨r,2,none⟩ (.int .i64 d)):=(Fr.refl [r] w2).setCell (.inl (by simp)) _;have hb3:Blk (w2.setCell ⟨r,2,none⟩ (.int .i64 d)) r 62 [.string txt,v2,.int .i64 d,.int .i64 s'.most]:=HB2.o.set_ 2 _;have h:=HR.o
  go_end0
  exact HQ.o _ _ (yK HX.o (HV.o _ _ _ HVV.o hf3) ⟨h.glob.fr hf3 (fun x hx=>by have:=h.r16;simp at hx;omega),h.r16,h.ne,⟨v2,hb3,HS2.o.fr hf3 (fun h0=>by have:=h.ne h0;simp;omega)⟩,h.toks,h.len,h.most,HH.o.deep,h.size,h.names⟩ (HF2.o.trans hf3 (fun x hx=>.inl (by simp at hx;simp[hx]))))
theorem aCp {w:World} {e:TypeId} {t:ByteArray}:Fr [] w (Lib.bytesWorld w e t):=
 ⟨rfl,rfl,rfl,by rw[Lib.bytesWorld_size];omega,fun k hk _=>Lib.bytesWorld_at_old w e t k hk⟩
theorem aFs (w:World) (k:Nat) (os:Array Obj):Fr [] w (Sort.grow (w.drewN k) os):=
 ⟨rfl,rfl,rfl,by show _<=((w.drewN k).heap ++ os).size;rw[Array.size_append];show w.heap.size<=w.heap.size+_;omega,fun i hi _=>by
  show((w.drewN k).heap ++ os)[i]? = _
  rw[Array.getElem?_append_left (by show i < w.heap.size;omega)]
  rfl⟩
theorem uY {w:World} (hg:bO w) (n:Int) (h0:-9223372036854775808<=n) (h1:n<=9223372036854775807):RV 93 #[.int .i64 n] w (.string ⟨(Lib.itoa n).toArray⟩):=by
 refine(Tryz.strconv_Itoa n h0 h1 w hg.tab).mono ?_;rintro e w' ⟨rfl,k,os,rfl⟩;exact⟨rfl,aFs w k os⟩
def AtoiR (w:World) (l:List UInt8) (e:Ending) (w':World):Prop:=
 Fr [] w w'/\match Lib.atoiAll l with
 | .ok v=>e=.returned (.tuple #[.int .i64 v,.nilIface])
 | _=>∃ x te pe,e=.returned (.tuple #[.int .i64 x,.iface te pe])
theorem aDI {w:World} (hg:bO w) (s:ByteArray) (hs:s.size<=100000):Calls Tryz.prog 200 #[.string s] w (AtoiR w (aA s)):=by
 cases h:Lib.atoiAll s.data.toList
 ·rename_i v
  refine(Tryz.strconv_Atoi_ok s (by omega) v h w).mono ?_;rintro e w' ⟨rfl,hw⟩;refine⟨?_,by unfold aA;rw[h]⟩;rcases hw with rfl | ⟨t,rfl⟩
  ·exact Fr.refl _ _
  ·exact aCp
 ·obtain⟨ev,hv,hev⟩:=hg.syn;refine(Tryz.strconv_Atoi_syntax s (by omega) h ev w hv hev).mono ?_;rintro e w' ⟨N,rfl,_,_,hb⟩;exact⟨Fr.of_below hb [],by unfold aA;rw[h];exact⟨_,_,_,rfl⟩⟩
 ·obtain⟨ev,hv,hev⟩:=hg.ran;refine(Tryz.strconv_Atoi_range s (by omega) h ev w hv hev).mono ?_;rintro e w' ⟨N,rfl,_,_,hb⟩;exact⟨Fr.of_below hb [],by unfold aA;rw[h];exact⟨_,_,_,rfl⟩⟩
theorem aFt {l:List UInt8} {v:Int} (h:Lib.atoiAll l=.ok v):-9223372036854775808<=v/\v<=9223372036854775807:=by
 unfold Lib.atoiAll at h
 match l,h with
 | [],h=>cases h
 | c :: r,h=>
  simp only at h
  split at h
  ·cases h
  ·cases h
  ·repeat' split at h
   all_goals first | (injection h with h;omega) | cases h
theorem uH (s:ByteArray) (i j:Nat) (h1:i<=j) (h2:j<=s.size):∃ t,aA t=((aA s).drop i).take (j - i)/\t.size=j - i/\∀ (k k':IntKind) (W:World),(Instr.slice 9 (.string s) (some (.int k (i:Int))) (some (.int k' (j:Int))) none).run Tryz.prog W=.ok (.string t) W:=by
 refine⟨s.extract i j,lC s i j,?_,fun k k' W=>?_⟩
 ·rw[ByteArray.size_extract];omega
 ·rw[run_slice_string W 9 s k k' (i:Int) (j:Int) Tryz.underlying9 (by omega) (by omega) (by omega)]
  rfl
def WhR (w:World) (r gl:Nat) (txt:ByteArray) (d:Int) (s:QS) (e:Ending) (w':World):Prop:=
 e=.returned (.tuple #[.int .i64 (nA (aA txt) s).1,.bool (nA (aA txt) s).2.1])/\wD w' r gl txt d (nA (aA txt) s).2.2/\Fr [r] w w'
theorem yO {s:QS} (h:s.peek.kind ≠ 0):∃ t l,s.l=t :: l/\s.peek=t:=by
 unfold QS.peek at h ⊢
 cases hl:s.l with
 | nil=>rw[hl] at h;exact absurd rfl h
 | cons t l=>exact⟨t,l,rfl,rfl⟩
theorem bR {w:World} {r gl:Nat} {txt:ByteArray} {d:Int} {s:QS} (h:wD w r gl txt d s):Calls Tryz.prog 168 #[.pointer (some ⟨r,0,none⟩)] w (WhR w r gl txt d s):=by
 refine bA fun R HQ=>?_;have HP:=lh (yP h);have HH:=lh h;have hrlt:=h.lt
 by_cases hk3:s.peek.kind=3
 ·obtain⟨t,l,hl,hpk⟩:=yO (s:=s) (by omega);have htok:=h.toks t (by rw[hl];simp)
  have hE0:nA (aA txt) s=match lF (((aA txt).drop t.frm).take (t.til - t.frm)) with
    | none=>(0,false,s)
    | some n=>(n,true,s.go):=by unfold nA;rw[if_pos hk3,hpk];rfl
  have htake:s.take=some (t,s.go):=by unfold QS.take;rw[hl]
  rw[hpk] at HP hk3;obtain⟨sv,dv,-,-,hv⟩:=sC t;rw[hv,hk3] at HP;obtain⟨v,hb,-⟩:=h.at_;have HB:=lh hb;have HE0:=lh hE0;have HTK:=lh htake;obtain⟨tx,htx,htz,hsl⟩:=uH txt t.frm t.til (by have:=htok.1;omega) htok.2.1;have hts:=h.size;have hz1:=htok.2.1;have hb1:(t.frm:Int)<=(t.til:Int)/\(t.til:Int)<=(txt.size:Int):=by have:=htok.1;omega
  rw[<- htx] at HE0;have HSL:=lh hsl;clear h hb hl hpk htok htake hE0 hv htx hsl hk3
  go_enter Tryz.func168,Tryz.ntmps168
  go_wp2_with fail;refine HP.o.mono ?_;rintro e w1 ⟨rfl,hf1⟩;have HR1:=lh (HH.o.fr hf1);have HB1:=lh (HB.o.fr hf1);have HF1:=lh hf1;have hr1:=HB1.o.lt;clear hf1 HP;obtain⟨frm,hfrm⟩:∃ frm,t.frm=frm:=⟨_,rfl⟩;obtain⟨til,htil⟩:∃ til,t.til=til:=⟨_,rfl⟩;rw[hfrm,htil] at HSL;rw[hfrm,htil];have b0:=HB1.o.at_ (i:=0) rfl;have l1:(frm:Int)<=(til:Int):=by omega
  have l2:(til:Int)<=(txt.size:Int):=by omega
  have hsl:=HSL.o .i64 .i64;go_upto_region 4 with fail
  go_quiet (fail)
  have hf2:Fr [] w1 ((w1.alloc (.cells #[.int .i64 3,.string sv,.bool t.n.neg,.string dv,.int .i64 t.n.exp,.int .i64 (frm:Int),.int .i64 (til:Int)] 95)).drewN nq):=((Fr.refl [] w1).alloc _).drewN _;generalize (w1.alloc (.cells #[.int .i64 3,.string sv,.bool t.n.neg,.string dv,.int .i64 t.n.exp,.int .i64 (frm:Int),.int .i64 (til:Int)] 95)).drewN nq=w2 at *;have HR2:=lh (HR1.o.fr hf2);have HF2:=lh (HF1.o.trans hf2);have htz2:tx.size<=100000:=by omega
  clear hf2 HR1 HF1 b0 l1 l2 hsl HB1 HSL hfrm htil hb1 hz1;go_wp2_with fail;refine(aDI HR2.o.glob tx htz2).mono ?_;rintro e w3 ⟨hf3,hr3⟩;have HR3:=lh (HR2.o.fr hf3);have HF3:=lh (HF2.o.trans hf3);clear hf3 HR2 HF2
  have herr:(∀ v,Lib.atoiAll (aA tx) ≠ .ok v) -> nA (aA txt) s=(0,false,s):=fun hne=>by
   rw[HE0.o]
   cases hw:lF (aA tx) with
   | none=>rfl
   | some n=>exact absurd (qO hw).1 (hne n)
  have HERR:=lh herr;clear herr
  cases hat:Lib.atoiAll (aA tx) with
  | ok v=>
   rw[hat] at hr3;subst hr3;have hbd:=aFt hat
   have hno:∀ n,lF (aA tx)=some n -> n=v:=fun n hn=>by
    have h1:=(qO hn).1;rw[hat] at h1;injection h1 with h1;exact h1.symm
   have HNO:=lh hno
   have hbad:¬ (Lib.itoa v=aA tx /\ -9007199254740991<=v/\v<=9007199254740991) -> nA (aA txt) s=(0,false,s):=fun hne=>by
    rw[HE0.o]
    cases hw:lF (aA tx) with
    | none=>rfl
    | some n=>
     have h1:=HNO.o n hw;subst h1;have h2:=qO hw;exact absurd ⟨h2.2.1,h2.2.2.1,h2.2.2.2⟩ hne
   have HBAD:=lh hbad;clear hno hbad hat;have HIT:=lh (uY HR3.o.glob v hbd.1 hbd.2)
   have hbe:(aA ⟨(Lib.itoa v).toArray⟩ == aA tx)=decide (Lib.itoa v=aA tx):=by
    show((Lib.itoa v).toArray.toList == aA tx)=_
    simp[Bool.beq_eq_decide_eq]
   rw[<- lS] at hbe;clear hbd;obtain⟨ib,hib⟩:∃ ib:ByteArray,⟨(Lib.itoa v).toArray⟩=ib:=⟨_,rfl⟩;rw[hib] at hbe HIT;clear hib;go_wp2_with fail;refine HIT.o.mono ?_;rintro e w4 ⟨rfl,hf4⟩;have HR4:=lh (HR3.o.fr hf4);have HF4:=lh (HF3.o.trans hf4);clear hf4 HIT HR3 HF3
   by_cases h1:Lib.itoa v=aA tx
   ·rw[decide_eq_true h1] at hbe
    by_cases h2:9007199254740991 < v
    ·have HE:=lh (HBAD.o (by omega));have d2:decide (9007199254740991 < v)=true:=by simpa using h2
     clear h1;go_wp2_with fail;exact HQ.o _ _ (by unfold WhR;rw[HE.o];exact⟨rfl,HR4.o,HF4.o.mono (by simp)⟩)
    ·have d2:decide (9007199254740991 < v)=false:=by simpa using h2
     by_cases h3:v < -9007199254740991
     ·have HE:=lh (HBAD.o (by omega));have d3:decide (v < -9007199254740991)=true:=by simpa using h3
      clear h1;go_wp2_with fail;exact HQ.o _ _ (by unfold WhR;rw[HE.o];exact⟨rfl,HR4.o,HF4.o.mono (by simp)⟩)
     ·have d3:decide (v < -9007199254740991)=false:=by simpa using h3
      have HE:Hid (nA (aA txt) s=(v,true,s.go)):=lh (by rw[HE0.o,aDb h1 (by omega) (by omega)]);have HC:=lh (xK HR4.o);rw[HTK.o] at HC;clear h1;go_wp2_with fail;refine HC.o.mono ?_;rintro e w5 ⟨_,rfl,-,hr5,hf5⟩;have HR5:=lh hr5;have HF5:=lh ((HF4.o.mono (by simp):Fr [r] w w4).trans hf5 (fun x hx=>.inl hx));clear hr5 hf5;go_wp2_with fail;exact HQ.o _ _ (by unfold WhR;rw[HE.o];exact⟨rfl,HR5.o,HF5.o⟩)
   ·rw[decide_eq_false h1] at hbe;have HE:=lh (HBAD.o (fun h=>h1 h.1));clear h1;go_wp2_with fail;exact HQ.o _ _ (by unfold WhR;rw[HE.o];exact⟨rfl,HR4.o,HF4.o.mono (by simp)⟩)
  | _=>
   rw[hat] at hr3;obtain⟨x,te,pe,rfl⟩:=hr3;have HE:=lh (HERR.o (by rw[hat];simp));clear hat;go_wp2_with fail;exact HQ.o _ _ (by unfold WhR;rw[HE.o];exact⟨rfl,HR3.o,HF3.o.mono (by simp)⟩)
 ·have d0:((s.peek.kind:Int) != 3)=true:=by rw[bne_iff_ne];omega
  obtain⟨sv,dv,-,-,hv⟩:=sC s.peek;rw[hv] at HP;have HK:=lh hk3;obtain⟨k,hk⟩:∃ k,s.peek.kind=k:=⟨_,rfl⟩;rw[hk] at HP d0;clear hv h hk3 hk
  go_enter Tryz.func168,Tryz.ntmps168
  go_wp2_with fail;refine HP.o.mono ?_;rintro e w1 ⟨rfl,hf1⟩;have HR1:=lh (HH.o.fr hf1);have HF1:=lh hf1;clear hf1;have HE:Hid (nA (aA txt) s=(0,false,s)):=lh (by unfold nA;rw[if_neg HK.o]);go_wp2_with fail;exact HQ.o _ _ (by unfold WhR;rw[HE.o];exact⟨rfl,HR1.o.fr ((Fr.refl [] w1).alloc _),(HF1.o.mono (by simp)).alloc _⟩)
theorem vJ:(Tryz.prog.info? 50).map (·.size)=some 10:=by kernel_rfl
theorem dJ {w:World} {fn:Func} {R:Ending -> World -> Prop} {tmps:Array Value} {k:Tmp} {g:Nat} {cs:List Value} (hr:fn.results=#[.cell k 50]) (ha:tmps.getD k undef=.pointer (some ⟨g,0,none⟩)) (hb:Blk w g 50 cs) (hl:cs.length=10) (h:R (.returned (.agg cs.toArray)) w):bodyPost Tryz.prog fn R .ret ⟨tmps,[]⟩ w:=
 xD hr ha hb Tryz.underlying50 rfl (by rw[hl];exact vJ) h
theorem yF {w:World} {N:Nat -> Prop} (what:Int) (name:List UInt8) (at_:Int) (has:Bool × Bool × Bool) (s:Int × Int × Int):gA w N (Slr.cells (.mk what name at_ has s [])) [.int .i64 what,S8 name,.int .i64 at_,.bool has.1,.bool has.2.1,.bool has.2.2,.int .i64 s.1,.int .i64 s.2.1,.int .i64 s.2.2,.slice none 0 0]:=
 .tl rfl (.tl rfl (.tl rfl (.tl rfl (.tl rfl (.tl rfl (.tl rfl (.tl rfl (.tl rfl (.cons (CAt.nil w N (by decide) none 0) (.nil w N))))))))))
theorem aCq {w:World} {r gl:Nat} {txt:ByteArray} {d:Int} {s:QS} (h:wD w r gl txt d s) (n:Int) (has:Bool):Calls Tryz.prog 169 #[.pointer (some ⟨r,0,none⟩),.int .i64 n,.bool has] w (rJ (cF Slr.cells w) w r gl txt d (kE (aA txt) n has s)):=by
 refine bA fun R HQ=>?_;have hrlt:=h.lt;obtain⟨w2,hw2⟩:∃ w2,w2=(w.alloc (.cells #[.int .i64 0,.string { data:=#[] },.int .i64 0,.bool false,.bool false,.bool false,.int .i64 0,.int .i64 0,.int .i64 0,.slice none 0 0] 50)).alloc (.cells #[.int .i64 4,.string { data:=#[] },.int .i64 0,.bool has,.bool false,.bool false,.int .i64 n,.int .i64 0,.int .i64 0,.slice none 0 0] 50):=⟨_,rfl⟩;have HZ:Hid (Blk w2 w.heap.size 50 zs):=lh (by rw[hw2];exact(Blk.new w 50 zs).alloc _)
 have HY:Hid (Blk w2 (w.heap.size+1) 50 [.int .i64 4,.string { data:=#[] },.int .i64 0,.bool has,.bool false,.bool false,.int .i64 n,.int .i64 0,.int .i64 0,.slice none 0 0]):=lh (by
  have:=Blk.new (w.alloc (.cells #[.int .i64 0,.string { data:=#[] },.int .i64 0,.bool false,.bool false,.bool false,.int .i64 0,.int .i64 0,.int .i64 0,.slice none 0 0] 50)) 50 [.int .i64 4,.string { data:=#[] },.int .i64 0,.bool has,.bool false,.bool false,.int .i64 n,.int .i64 0,.int .i64 0,.slice none 0 0];rw[hw2]
  simpa using this)
 have hf2:Fr [] w w2:=by rw[hw2];exact((Fr.refl [] w).alloc _).alloc _
 have HR2:=lh (h.fr hf2);have HF2:Hid (Fr [r] w w2):=lh (hf2.mono (by simp));clear hf2 h
 go_enter Tryz.func169,Tryz.ntmps169
 go_wp2_with fail;rw[<- hw2];clear hw2
 cases hnx:s.next [58] with
 | false=>
  have HE:Hid (kE (aA txt) n has s=none):=lh (by unfold kE;rw[if_neg (by rw[hnx];simp)]);refine(mH HR2.o ⟨#[58]⟩ hnx).mono ?_;rintro e w3 ⟨rfl,hr3,hf3⟩;have HF3:=lh (HF2.o.trans hf3 (fun x hx=>.inl hx));clear hr3 hf3;go_wp2_with fail;refine(aE _).mono ?_;rintro e w4 ⟨rfl,rfl⟩;exact⟨rfl,HQ.o _ _ (bB HE.o HF3.o)⟩
 | true=>
  have HE0:Hid (kE (aA txt) n has s=if (nA (aA txt) s.go).2.2.next [58]=true then some (.ofSlice (has,(nA (aA txt) s.go).2.1,(nA (aA txt) (nA (aA txt) s.go).2.2.go).2.1) (n,(nA (aA txt) s.go).1,(nA (aA txt) (nA (aA txt) s.go).2.2.go).1),(nA (aA txt) (nA (aA txt) s.go).2.2.go).2.2)
   else some (.ofSlice (has,(nA (aA txt) s.go).2.1,false) (n,(nA (aA txt) s.go).1,0),(nA (aA txt) s.go).2.2)):=lh (by unfold kE;rw[if_pos hnx])
  refine(qF HR2.o ⟨#[58]⟩ hnx).mono ?_;rintro e w3 ⟨rfl,hr3,hf3⟩;have HF3:=lh (HF2.o.trans hf3 (fun x hx=>.inl hx));have HR3:=lh hr3;have HZ3:=lh (HZ.o.fr hf3 (by simp;omega));have HY3:=lh (HY.o.fr hf3 (by simp;omega));clear hr3 hf3 hnx HR2 HF2 HZ HY;go_wp2_with fail;refine(iE _).mono ?_;rintro e w4 ⟨rfl,rfl⟩;go_wp2_with fail;refine(bR HR3.o).mono ?_;rintro e w4 ⟨rfl,hr4,hf4⟩;generalize nA (aA txt) s.go=a at *;obtain⟨n1,b1,s4⟩:=a
  simp only at hr4 HE0 ⊢
  have HF4:=lh (HF3.o.trans hf4 (fun x hx=>.inl hx));have HR4:=lh hr4;have HZ4:=lh (HZ3.o.fr hf4 (by simp;omega));have HY4:=lh (HY3.o.fr hf4 (by simp;omega));have y4:=HY4.o.at_ (i:=4) rfl;have y7:=HY4.o.at_ (i:=7) rfl;have yf:=HY4.o.free;have hylt:=HY4.o.lt;clear hr4 hf4 HR3 HF3 HZ3 HY3;go_wp2_with fail;have hf5:Fr [w.heap.size+1] w4 ((w4.setCell ⟨w.heap.size+1,7,none⟩ (.int .i64 n1)).setCell ⟨w.heap.size+1,4,none⟩ (.bool b1)):=((Fr.refl [w.heap.size+1] w4).setCell (.inl (by simp)) _).setCell (.inl (by simp)) _;have hy5:Blk ((w4.setCell ⟨w.heap.size+1,7,none⟩ (.int .i64 n1)).setCell ⟨w.heap.size+1,4,none⟩ (.bool b1)) (w.heap.size+1) 50 [.int .i64 4,.string { data:=#[] },.int .i64 0,.bool has,.bool b1,.bool false,.int .i64 n,.int .i64 n1,.int .i64 0,.slice none 0 0]:=(HY4.o.set_ 7 _).set_ 4 _;generalize (w4.setCell ⟨w.heap.size+1,7,none⟩ (.int .i64 n1)).setCell ⟨w.heap.size+1,4,none⟩ (.bool b1)=w5 at *;have HF5:=lh (HF4.o.trans hf5 (fun x hx=>.inr (by simp at hx;omega)));have HR5:=lh (HR4.o.fr hf5 (by simp;omega));have HZ5:=lh (HZ4.o.fr hf5);have HY5:=lh hy5;clear hf5 hy5 y4 y7 yf hylt HF4 HR4 HZ4 HY4;have hzy:¬ w.heap.size=w.heap.size+1:=by omega
  cases hn2:s4.next [58] with
  | false=>
   have HE:Hid (kE (aA txt) n has s=some (.ofSlice (has,b1,false) (n,n1,0),s4)):=lh (by rw[HE0.o,if_neg (by rw[hn2];simp)]);refine(mH HR5.o ⟨#[58]⟩ hn2).mono ?_;rintro e w6 ⟨rfl,hr6,hf6⟩;have HF6:=lh (HF5.o.trans hf6 (fun x hx=>.inl hx));have HR6:=lh hr6;have HZ6:=lh (HZ5.o.fr hf6 (by simp;omega));have HY6:=lh (HY5.o.fr hf6 (by simp;omega));have hzl:=HZ6.o.lt;have hyl:=HY6.o.lt;clear hr6 hf6 hn2 HE0 HF5 HR5 HZ5 HY5;have y0:=HY6.o.at_ (i:=0) rfl;have y1:=HY6.o.at_ (i:=1) rfl;have y2:=HY6.o.at_ (i:=2) rfl;have y3:=HY6.o.at_ (i:=3) rfl;have y4:=HY6.o.at_ (i:=4) rfl;have y5:=HY6.o.at_ (i:=5) rfl;have y6:=HY6.o.at_ (i:=6) rfl;have y7:=HY6.o.at_ (i:=7) rfl;have y8:=HY6.o.at_ (i:=8) rfl;have y9:=HY6.o.at_ (i:=9) rfl;have yf:=HY6.o.free;have z0:=HZ6.o.at_ (i:=0) rfl;have z1:=HZ6.o.at_ (i:=1) rfl;have z2:=HZ6.o.at_ (i:=2) rfl;have z3:=HZ6.o.at_ (i:=3) rfl;have z4:=HZ6.o.at_ (i:=4) rfl;have z5:=HZ6.o.at_ (i:=5) rfl;have z6:=HZ6.o.at_ (i:=6) rfl;have z7:=HZ6.o.at_ (i:=7) rfl;have z8:=HZ6.o.at_ (i:=8) rfl;have z9:=HZ6.o.at_ (i:=9) rfl;have zf:=HZ6.o.free;go_wp2_with fail;have hb9:=HZ6.o.setL (vs:=[.int .i64 4,.string { data:=#[] },.int .i64 0,.bool has,.bool b1,.bool false,.int .i64 n,.int .i64 n1,.int .i64 0,.slice none 0 0]) rfl;have hf9:Fr [w.heap.size] w6 _:=(Fr.refl [w.heap.size] w6).setL (g:=w.heap.size) (k:=0) (vs:=[.int .i64 4,.string { data:=#[] },.int .i64 0,.bool has,.bool b1,.bool false,.int .i64 n,.int .i64 n1,.int .i64 0,.slice none 0 0]) (.inl (by simp));exact dJ rfl rfl hb9 rfl (HQ.o _ _ (aB HE.o ⟨_,rfl,yF 4 [] 0 (has,b1,false) (n,n1,0)⟩ (HR6.o.fr hf9 (by simpa using hrlt)) (HF6.o.trans hf9 (fun x hx=>.inr (by simp at hx;omega)))))
  | true=>
   have HE1:Hid (kE (aA txt) n has s=some (.ofSlice (has,b1,(nA (aA txt) s4.go).2.1) (n,n1,(nA (aA txt) s4.go).1),(nA (aA txt) s4.go).2.2)):=lh (by rw[HE0.o,if_pos hn2]);refine(qF HR5.o ⟨#[58]⟩ hn2).mono ?_;rintro e w6 ⟨rfl,hr6,hf6⟩;have HF6:=lh (HF5.o.trans hf6 (fun x hx=>.inl hx));have HR6:=lh hr6;have HZ6:=lh (HZ5.o.fr hf6 (by simp;omega));have HY6:=lh (HY5.o.fr hf6 (by simp;omega));clear hr6 hf6 hn2 HE0 HF5 HR5 HZ5 HY5;go_wp2_with fail;refine(bR HR6.o).mono ?_;rintro e w7 ⟨rfl,hr7,hf7⟩;generalize nA (aA txt) s4.go=c at *;obtain⟨n2,b2,s7⟩:=c
   simp only at hr7 HE1 ⊢
   have HF7:=lh (HF6.o.trans hf7 (fun x hx=>.inl hx));have HR7:=lh hr7;have HZ7:=lh (HZ6.o.fr hf7 (by simp;omega));have HY7:=lh (HY6.o.fr hf7 (by simp;omega));have hf8:Fr [w.heap.size+1] w7 ((w7.setCell ⟨w.heap.size+1,8,none⟩ (.int .i64 n2)).setCell ⟨w.heap.size+1,5,none⟩ (.bool b2)):=((Fr.refl [w.heap.size+1] w7).setCell (.inl (by simp)) _).setCell (.inl (by simp)) _;have hy8:Blk ((w7.setCell ⟨w.heap.size+1,8,none⟩ (.int .i64 n2)).setCell ⟨w.heap.size+1,5,none⟩ (.bool b2)) (w.heap.size+1) 50 [.int .i64 4,.string { data:=#[] },.int .i64 0,.bool has,.bool b1,.bool b2,.int .i64 n,.int .i64 n1,.int .i64 n2,.slice none 0 0]:=(HY7.o.set_ 8 _).set_ 5 _;have y5:=HY7.o.at_ (i:=5) rfl;have y8:=HY7.o.at_ (i:=8) rfl;have yf:=HY7.o.free;have hyl:=HY7.o.lt;have HE:Hid (kE (aA txt) n has s=some (.ofSlice (has,b1,b2) (n,n1,n2),s7)):=HE1;clear hr7 hf7 HE1 HF6 HR6 HZ6 HY6;go_upto_region 6 with fail
   generalize (w7.setCell ⟨w.heap.size+1,8,none⟩ (.int .i64 n2)).setCell ⟨w.heap.size+1,5,none⟩ (.bool b2)=w8 at *;have HF8:=lh (HF7.o.trans hf8 (fun x hx=>.inr (by simp at hx;omega)));have HR8:=lh (HR7.o.fr hf8 (by simp;omega));have HZ8:=lh (HZ7.o.fr hf8);have HY8:=lh hy8;clear hf8 hy8 y5 y8 yf HF7 HR7 HZ7 HY7;have hzl:=HZ8.o.lt;have hyl:=HY8.o.lt;have y0:=HY8.o.at_ (i:=0) rfl;have y1:=HY8.o.at_ (i:=1) rfl;have y2:=HY8.o.at_ (i:=2) rfl;have y3:=HY8.o.at_ (i:=3) rfl;have y4:=HY8.o.at_ (i:=4) rfl;have y5:=HY8.o.at_ (i:=5) rfl;have y6:=HY8.o.at_ (i:=6) rfl;have y7:=HY8.o.at_ (i:=7) rfl;have y8:=HY8.o.at_ (i:=8) rfl;have y9:=HY8.o.at_ (i:=9) rfl;have yf:=HY8.o.free;have z0:=HZ8.o.at_ (i:=0) rfl;have z1:=HZ8.o.at_ (i:=1) rfl;have z2:=HZ8.o.at_ (i:=2) rfl;have z3:=HZ8.o.at_ (i:=3) rfl;have z4:=HZ8.o.at_ (i:=4) rfl;have z5:=HZ8.o.at_ (i:=5) rfl;have z6:=HZ8.o.at_ (i:=6) rfl;have z7:=HZ8.o.at_ (i:=7) rfl;have z8:=HZ8.o.at_ (i:=8) rfl;have z9:=HZ8.o.at_ (i:=9) rfl;have zf:=HZ8.o.free;go_wp2_with fail;have hb9:=HZ8.o.setL (vs:=[.int .i64 4,.string { data:=#[] },.int .i64 0,.bool has,.bool b1,.bool b2,.int .i64 n,.int .i64 n1,.int .i64 n2,.slice none 0 0]) rfl;have hf9:Fr [w.heap.size] w8 _:=(Fr.refl [w.heap.size] w8).setL (g:=w.heap.size) (k:=0) (vs:=[.int .i64 4,.string { data:=#[] },.int .i64 0,.bool has,.bool b1,.bool b2,.int .i64 n,.int .i64 n1,.int .i64 n2,.slice none 0 0]) (.inl (by simp));exact dJ rfl rfl hb9 rfl (HQ.o _ _ (aB HE.o ⟨_,rfl,yF 4 [] 0 (has,b1,b2) (n,n1,n2)⟩ (HR8.o.fr hf9 (by simpa using hrlt)) (HF8.o.trans hf9 (fun x hx=>.inr (by simp at hx;omega)))))
end
end Go.Proofs.YtbggkiebfflcdaaGreatDoor
