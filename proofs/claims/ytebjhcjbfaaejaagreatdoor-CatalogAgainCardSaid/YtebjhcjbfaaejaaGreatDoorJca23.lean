/-
  Joined: Qu Qv CatA CatB CatC
-/
import Derived.Lib.AppendStr
import Derived.Test.YtebjhcjbfaaejaaGreatDoorJca20
import Derived.Test.YtebjhcjbfaaejaaGreatDoorJca22
set_option maxRecDepth 100000
set_option maxHeartbeats 32000000
namespace Go.Proofs.YtebjhcjbfaaejaaGreatDoor
open Go.Proofs.Tryz
variable {w':World}{F:List Value}{E:En}
section
open Go.RowKit Go.ChangeMaps Go.MapKept Go.Maps Go.Sort Go.Shelf
def aDW (N:Nat->Option Nd) (h:Nat) (n:Nd) (i:Nat) (hi:Option Ky) (ER:En):Prop:=∃lo' PR,nD (Sub N 1 h) lo' (n.child i) (n.l.drop i) hi ER PR
theorem aKT{N:Nat->Option Nd}{h:Nat}{n:Nd}{lo hi:Option Ky}{E:En}{P:List Nat}(i:nD (Sub N 1 h) lo n.first n.l hi E P)(low:Ky):
  ∃EA b,E=EA++b/\(∀e∈EA,klt e.1 low)/\aDW N h n (n.way low) hi b:=by
 obtain⟨A,B,j,k,c,d,m⟩:=aPz (n:=n) low;rw[j]at i;obtain⟨f,EA,b,PA,o,rfl,rfl,h3,p⟩:=aFj Sub.fine i;refine⟨EA,b,rfl,fun e r=>?_,f,o,?_⟩
 ·obtain⟨x,q,g⟩:=p e r;exact aGY g (m x q)
 ·unfold Nd.child;rw[c,d];exact h3
theorem aII{N:Nat->Option Nd}{h:Nat}{n:Nd}{hi:Option Ky}(d:aDW N h n n.l.length hi E):∃b c,Sub N 1 h (n.child n.l.length) b hi E c:=by
 obtain⟨b,c,h1⟩:=d;rw[List.drop_length]at h1;exact⟨b,c,h1⟩
theorem aIJ{N:Nat->Option Nd}{h i:Nat}{n:Nd}{hi:Option Ky}(f:aDW N h n i hi E)(c:i<n.l.length):
  ∃b hi' E1 E2 P1,Sub N 1 h (n.child i) b hi' E1 P1/\E=E1++E2/\aDW N h n (i+1) hi E2:=by
 obtain⟨b,g,h1⟩:=f;obtain⟨x,d⟩:=gx (l:=n.l) c;rw[aIH d]at h1;obtain⟨E1,P1,E2,P2,h2,h3,rfl,rfl⟩:=h1;refine⟨b,some x.key,E1,E2,P1,h2,rfl,some x.key,P2,?_⟩
 have e:n.child (i+1)=x.at_:=by
  unfold Nd.child;rw[aDC d,aAK]
 rw[e];exact h3
def aMh (c:CD) (h:Nat) (n:Nd) (hi:Option Ky) (low:Ky) (up:Option Ky) (most:Nat) (out E:En) (i:Nat) (outi:En):Prop:=
 (i<=n.l.length/\∃ER,aDW c.N h n i hi ER/\goE low up most out E=goE low up most outi ER/\outi.length+ER.length<=1000000)∨(i=n.l.length+1/\goE low up most out E=(outi,true))
section
variable {w0 wS : World} {H dk g bc bn bs bw : Nat} {s : PS} {X D : Nat -> Prop} {c : CD} {fv tv : Value} {low : Ky} {up : Option Ky} {most : Nat}
theorem aNu(hp:PgC w0 wS dk g s X c)(he:c.e=0):∀(h f k deep:Nat) (lo hi:Option Ky) (E:En) (P:List Nat) (out:En) (t:Value) (w:World),h<f->f+deep=40->Sub c.N 1 h k lo hi E P ->
  Wst H wS g bc bn bs bw D c fv tv low up most out t w->out.length+E.length<=1000000 ->
  Calls prog 72 #[.pointer (some ⟨bw,0,none⟩),.int .i64 (k:Int),.int .i64 (deep:Int)] w (WEnd H wS g bc bn bs bw D c fv tv low up most out t w E):=by
 intro h
 induction h with
 | zero=>
  intro f k deep lo hi E P out t w hf c9 hs V b3;obtain⟨n,P',hN,a4,a5,hm,c5,a6⟩:=id hs;clear c5;have u:=qE a5;have d4:¬ ((deep:Nat):Int)=40:=by omega
  have c0:=V.bwk.at_ (i:=0) rfl;have Y:=lh (pN hp V.ch hN V.topv);have W1:=lh V;have HS:=lh hs;have HN:=lh hN;have d5:=lh a4;have x:=lh u;have c1:=lh b3;have HE:=lh he;have b4:=lh c9;have HF:=lh hf;have HP:=lh hp;have c2:=lh a6;clear hs hN a4 u b3 V a5 hm a6;refine gA fun R HQ=>?_
  go_enter func72,ntmps72
  go_wp2_with fail;refine Y.o.mono ?_;rintro e w2 ⟨nv,rfl,F,G⟩;obtain⟨A,ca,f7,rfl,_⟩:=F.open_;have Z:=lh (W1.o.quiet G);have a0:=lh (F.low (rB _));have G2:Hid (WFr bc bw t w t w2):=lh (WFr.refl.quiet G);clear F G Y c0
  go_wp2_with (first
   | (with_reducible refine mA rfl 184 rfl (.agg #[.int .i64 0,.int .i64 0,.slice none 0 0]) znd.toArray kD rfl ?_)
   | (refine vA (W:=w2) rfl 184 (.tmp 7) (.tmp 17) rfl [.int .i64 (dA n),.int .i64 (n.first:Int),.slice A n.l.length ca] rfl rfl rfl oB rfl qB ?_))
  intro w3 L r c';obtain⟨p7,a7⟩:=nm (w2.heap.size);rw[<- a7]at L⊢;have Q:Hid (p7≠bc/\p7≠bw/\t.ownBlock≠some p7):=lh ⟨by have:=Z.o.ch.lts.1;omega,by have:=Z.o.bwk.lt;omega,fun e=>by have:=(Z.o.lt _ e).2;omega⟩;have W3:=lh (Z.o.quiet r);have y:=lh (a0.o.fr r);have G3:=lh (G2.o.quiet r);have B3:=lh L;clear r L c' a7 Z a0 G2;have c0:=W3.o.bwk.at_ (i:=0) rfl;go_wp2_with fail;refine(iM W3.o.ch 0).mono ?_;rintro e w4 ⟨rfl,I,m,c6⟩;rw[aPd]at I⊢;have hd:decide (c.e≠0)=false:=by rw[HE.o];rfl
  rw[hd];have W4:=lh (W3.o.failed m I);have z:=lh (y.o.fr m fun q hq hm=>absurd (aB.1 hm) (W3.o.nb q hq.1).2.1);have G4:Hid (WFr bc bw t w t w4):=lh (G3.o.trans ⟨m.mono (by simp),fun q hq=>.inl hq⟩);have B4:=lh (B3.o.fr m (by simpa using Q.o.1));clear I m c6 hd W3 y G3 B3 c0;have S:=B4.o.at_ (i:=0) rfl;have T:=B4.o.at_ (i:=1) rfl;have U:=B4.o.at_ (i:=2) rfl;go_wp2_with fail;refine(gZ n).mono ?_;rintro e w5 ⟨rfl,p⟩;have W5:=lh (W4.o.quiet p);have O:=lh (z.o.fr p);have G5:=lh (G4.o.quiet p);have B5:=lh (B4.o.fr p);clear p W4 z G4 B4 S T U;have S:=B5.o.at_ (i:=0) rfl;have T:=B5.o.at_ (i:=1) rfl;have U:=B5.o.at_ (i:=2) rfl;obtain⟨a8,c7,_⟩:=c2.o;rw[a8];have f2:=lh (aNt W5.o O.o d5.o x.o (by have:=c1.o;rw[c7]at this;unfold bC at this;rw[lI]at this;exact this));have d6:=lh c7;clear a8 c7;go_wp2_with fail;refine f2.o.mono ?_;rintro e w6 ⟨f8,rfl,e6,e7⟩;have HX:=lh (HQ.o _ _ ⟨f8,by rw[d6.o],by rw[d6.o];exact e6,G5.o.trans e7⟩);clear e6 e7;go_wp2_with fail;exact HX.o
 | succ h ih=>
  intro f k deep lo hi E P out t w hf c9 hs V b3;obtain⟨n,P',hN,a4,a5,hm,c5,a6⟩:=id hs;clear c5;have u:=qE a5;have d4:¬ ((deep:Nat):Int)=40:=by omega
  have c0:=V.bwk.at_ (i:=0) rfl;have Y:=lh (pN hp V.ch hN V.topv);have W1:=lh V;have HS:=lh hs;have HN:=lh hN;have d5:=lh a4;have x:=lh u;have c1:=lh b3;have HE:=lh he;have b4:=lh c9;have HF:=lh hf;have HP:=lh hp;have c2:=lh a6;clear hs hN a4 u b3 V a5 hm a6;refine gA fun R HQ=>?_
  go_enter func72,ntmps72
  go_wp2_with fail;refine Y.o.mono ?_;rintro e w2 ⟨nv,rfl,F,G⟩;obtain⟨A,ca,f7,rfl,_⟩:=F.open_;have Z:=lh (W1.o.quiet G);have a0:=lh (F.low (rB _));have G2:Hid (WFr bc bw t w t w2):=lh (WFr.refl.quiet G);clear F G Y c0
  go_wp2_with (first
   | (with_reducible refine mA rfl 184 rfl (.agg #[.int .i64 0,.int .i64 0,.slice none 0 0]) znd.toArray kD rfl ?_)
   | (refine vA (W:=w2) rfl 184 (.tmp 7) (.tmp 17) rfl [.int .i64 (dA n),.int .i64 (n.first:Int),.slice A n.l.length ca] rfl rfl rfl oB rfl qB ?_))
  intro w3 L r c';obtain⟨p7,a7⟩:=nm (w2.heap.size);rw[<- a7]at L⊢;have Q:Hid (p7≠bc/\p7≠bw/\t.ownBlock≠some p7):=lh ⟨by have:=Z.o.ch.lts.1;omega,by have:=Z.o.bwk.lt;omega,fun e=>by have:=(Z.o.lt _ e).2;omega⟩;have W3:=lh (Z.o.quiet r);have y:=lh (a0.o.fr r);have G3:=lh (G2.o.quiet r);have B3:=lh L;clear r L c' a7 Z a0 G2;have c0:=W3.o.bwk.at_ (i:=0) rfl;go_wp2_with fail;refine(iM W3.o.ch 0).mono ?_;rintro e w4 ⟨rfl,I,m,c6⟩;rw[aPd]at I⊢;have hd:decide (c.e≠0)=false:=by rw[HE.o];rfl
  rw[hd];have W4:=lh (W3.o.failed m I);have z:=lh (y.o.fr m fun q hq hm=>absurd (aB.1 hm) (W3.o.nb q hq.1).2.1);have G4:Hid (WFr bc bw t w t w4):=lh (G3.o.trans ⟨m.mono (by simp),fun q hq=>.inl hq⟩);have B4:=lh (B3.o.fr m (by simpa using Q.o.1));clear I m c6 hd W3 y G3 B3 c0;have S:=B4.o.at_ (i:=0) rfl;have T:=B4.o.at_ (i:=1) rfl;have U:=B4.o.at_ (i:=2) rfl;go_wp2_with fail;refine(gZ n).mono ?_;rintro e w5 ⟨rfl,p⟩;have W5:=lh (W4.o.quiet p);have O:=lh (z.o.fr p);have G5:=lh (G4.o.quiet p);have B5:=lh (B4.o.fr p);clear p W4 z G4 B4 S T U;have S:=B5.o.at_ (i:=0) rfl;have T:=B5.o.at_ (i:=1) rfl;have U:=B5.o.at_ (i:=2) rfl;obtain⟨a8,hK⟩:=c2.o;rw[a8];have c3:nD (Sub c.N 1 h) lo n.first n.l hi E P':=hK;have d7:=(nD.keys Sub.fine c3).1;obtain⟨EA,ER,e8,a9,a'⟩:=aKT c3 low;have f3:=lh d7;have d8:=lh e8;have f4:=lh a9;have f5:=lh a';have d9:=lh ih;clear a8 hK c3 d7 e8 a9 a' ih;go_upto_region 8 with fail
  have W6:=lh (W5.o.quiet ((Fr.refl [] w5).drew));have a1:=lh (O.o.fr ((Fr.refl [] w5).drew));have G6:=lh (G5.o.quiet ((Fr.refl [] w5).drew));have B6:=lh (B5.o.fr ((Fr.refl [] w5).drew));clear W5 O G5 B5 S T U;have S:=B6.o.at_ (i:=0) rfl;have T:=B6.o.at_ (i:=1) rfl;have U:=B6.o.at_ (i:=2) rfl;have f1:=W6.o.bwk.at_ (i:=1) rfl;obtain⟨ql,e9,_⟩:=W6.o.low;have b7:=lh e9;clear e9;refine lA (fun W=>W.cell? ⟨p7,0,none⟩=some (.int .i64 (dA n))/\W.cell? ⟨p7,1,none⟩=some (.int .i64 (n.first:Int))/\W.cell? ⟨p7,2,none⟩=some (.slice A n.l.length ca)/\W.cell? ⟨bw,1,none⟩=some fv) [0,1,2,3,4] (by kernel_rfl) ?_;refine tks [0,1,2,3,4] ?_
  iterate 5 (refine tk rfl rfl ⟨S,T,U,f1⟩ rfl (fun _ V=>by(obtain⟨q0,q1,q2,q3⟩:=V;go_simp)<;>with_reducible rfl) ?_;simp only[nrm])
  refine tke ?_;refine sp 5 rfl rfl rfl fun K hK=>?_;refine jA (l:=[.tmp 36,.tmp 40]) rfl [.agg #[.int .i64 (dA n),.int .i64 (n.first:Int),.slice A n.l.length ca],fv] rfl (aFi _) ((aGD a1.o b7.o f3.o (by have:=x.o;omega)).mono ?_);rintro e w7 ⟨rfl,d⟩;refine⟨_,rfl,hK _ _ (fun _=>⟨aA d S,aA d T,aA d U,aA d f1⟩) ?_⟩;simp only[nrm];clear hK;refine sp 6 rfl rfl rfl fun K hK=>?_;refine nA (v:=?aq1_6) ?yq1_6 (hK _ _ (fun _=>⟨aA d S,aA d T,aA d U,aA d f1⟩) ?_)
  case yq1_6=>go_simp<;>with_reducible rfl
  simp only[nrm];refine wd ?_ _;have W7:=lh (W6.o.quiet d);have d':=lh (a1.o.fr d);have G7:=lh (G6.o.quiet d);have B7:=lh (B6.o.fr d);clear d W6 a1 G6 B6 S T U f1 b7;have e0:=nX n low;have e1:Hid (aMh c h n hi low up most out E (n.way low) out):=lh (.inl ⟨e0,ER,f5.o,by rw[d8.o,aHZ _ _ f4.o],by have:=c1.o;rw[d8.o,lB]at this;omega⟩);clear e0;go_wp2_with fail
  go_loopw [9] (fun v wr=>∃(i:Nat) (b:En) (b5:Value),v=.int .i64 (i:Int)/\Wst H wS g bc bn bs bw D c fv tv low up most b b5 wr/\WFr bc bw t w7 b5 wr/\aMh c h n hi low up most out E i b) (fun v _=>n.l.length+1-(intOf v).toNat)
  case atStart=>exact⟨n.way low,out,t,rfl,W7.o,WFr.refl,e1.o⟩
  case round=>
   obtain⟨i,b,b5,rfl,e',f0,f9⟩:=hrel;have WI:=lh e';have GI:=lh f0;have BI:=lh (GI.o.keep B7.o Q.o.1 Q.o.2.1 Q.o.2.2)
   have e2:=lh (d'.o.fr GI.o.fr fun q hq hm=>by
    have h1:=W7.o.nb q hq.1;simp only[kB,Option.mem_toList]at hm;rcases hm with h|h|h
    ·exact absurd h h1.2.1
    ·exact absurd h h1.1
    ·exact absurd h hq.2)
   have S:=BI.o.at_ (i:=0) rfl;have T:=BI.o.at_ (i:=1) rfl;have U:=BI.o.at_ (i:=2) rfl;clear e' f0;rcases f9 with ⟨f',g0,a',J,b9⟩|⟨g1,J⟩
   ·have g3:((i:Nat):Int)<=((n.l.length:Nat):Int):=by omega
    have b8:=lh a';have a2:=lh J;have a3:=lh b9;clear a' J b9;have g4:IntKind.i64.wrap ((deep:Int)+1)=((deep+1:Nat):Int):=by have:=b4.o;rw[iD];omega
    have g5:=wi i (by have:=x.o;omega)
    go_wp2_with fail;refine(uM e2.o f' (by have:=x.o;omega)).mono ?_;rintro e w8 ⟨rfl,c8⟩;have W8:=lh (WI.o.quiet c8);have G8:=lh (GI.o.quiet c8);clear c8 S T U WI GI BI e2
    by_cases d3:i=n.l.length
    ·subst d3;obtain⟨g2,PR,C⟩:=aII b8.o;have B:=lh (d9.o (f-1) _ (deep+1) _ _ _ _ _ _ _ (by have:=HF.o;omega) (by have:=HF.o;have:=b4.o;omega) C W8.o a3.o);clear C;go_wp2_with fail;refine B.o.mono ?_;rintro e w9 ⟨b0,rfl,b1,b2⟩;have W9:=lh b1;have G9:=lh (G8.o.trans b2);clear b1 b2 B
     cases M:(goE low up most b g0).2 with
     | true=>
      have HX:Hid (∃(j:Nat) (outj:En) (ovj:Value),Value.int .i64 (((n.l.length:Nat):Int)+1)=.int .i64 (j:Int)/\Wst H wS g bc bn bs bw D c fv tv low up most outj ovj w9/\WFr bc bw t w7 ovj w9/\aMh c h n hi low up most out E j outj):=lh ⟨n.l.length+1,_,b0,rfl,W9.o,G9.o,.inr ⟨rfl,by rw[a2.o,<- M]⟩⟩;have HB:=lh M;clear M;go_wp2_with fail
      go_roundw
      case rel=>exact HX.o
      case measure=>simp[intOf]
     | false=>
      have HX:=lh (HQ.o (.returned (.bool false)) w9 ⟨b0,by rw[a2.o,M],by rw[a2.o];exact W9.o,G7.o.trans G9.o⟩);have HB:=lh M;clear M;go_wp2_with fail;exact HX.o
    ·have e3:i<n.l.length:=by omega
     obtain⟨g2,g7,E1,E2,P1,C,b6,b'⟩:=aIJ b8.o e3;have e4:b.length+E1.length<=1000000:=by have:=a3.o;rw[b6,lB]at this;omega
     have B:=lh (d9.o (f-1) _ (deep+1) _ _ _ _ _ _ _ (by have:=HF.o;omega) (by have:=HF.o;have:=b4.o;omega) C W8.o e4);have f6:=lh b6;have e5:=lh b';have c4:Hid (goE low up most out E=if (goE low up most b E1).2 then goE low up most (goE low up most b E1).1 E2 else goE low up most b E1):=lh (by rw[a2.o,b6,aDn]);clear C b6 b' e4;go_wp2_with fail;refine B.o.mono ?_;rintro e w9 ⟨b0,rfl,b1,b2⟩;have W9:=lh b1;have G9:=lh (G8.o.trans b2);clear b1 b2 B
     cases M:(goE low up most b E1).2 with
     | true=>
      have HX:Hid (∃(j:Nat) (outj:En) (ovj:Value),Value.int .i64 (((i:Nat):Int)+1)=.int .i64 (j:Int)/\Wst H wS g bc bn bs bw D c fv tv low up most outj ovj w9/\WFr bc bw t w7 ovj w9/\aMh c h n hi low up most out E j outj):=lh ⟨i+1,_,b0,rfl,W9.o,G9.o,.inl ⟨e3,E2,e5.o,by rw[c4.o,iA M],by
       have h1:=aGZ low up most E1 b;have h2:=a3.o;rw[f6.o,lB]at h2;omega⟩⟩
      have HB:=lh M;clear M;go_wp2_with fail
      go_roundw
      case rel=>exact HX.o
      case measure=>simp[intOf];omega
     | false=>
      have HX:=lh (HQ.o (.returned (.bool false)) w9 ⟨b0,by rw[c4.o,eA (by rw[M];decide),M],by rw[c4.o,eA (by rw[M];decide)];exact W9.o,G7.o.trans G9.o⟩);have HB:=lh M;clear M;go_wp2_with fail;exact HX.o
   ·subst g1;have g6:¬ (((n.l.length+1:Nat)):Int)<=((n.l.length:Nat):Int):=by omega
    have HX:=lh (HQ.o (.returned (.bool true)) wr ⟨b5,by rw[J],by rw[J];exact WI.o,G7.o.trans GI.o⟩);have a2:=lh J;clear J;go_wp2_with fail;exact HX.o
end
def aIK (X:Nat->Prop) (E:Nat->En) (t:Nat) (low:Ky) (up:Option Ky) (most:Nat) (w:World) (e:Ending) (w':World):Prop:=
 ∃ov cs,e=.returned (.tuple #[ov,.int .i64 0])/\w'.ownsRow w.heap.size 100 2 ov (goE low up most [] (E t)).1.length cs/\lG (fun q=>X q∨w.heap.size<=q) w' (goE low up most [] (E t)).1 cs/\Fr [] w w'
section
variable {w0 w : World} {dk g st : Nat} {s : PS} {X : Nat -> Prop} {E : Nat -> En}
theorem aMi(h:StX w0 w dk g st s X E){t:Nat}(ht:t<8){fv tv:Value}{low:Ky}{up:Option Ky}{gf most:Nat}(hk:cA w fv low gf)(W:X gf)(hu:UpK X w tv up)(a8:most<9223372036854775808)(hE:(E t).length<=1000000):
  Calls prog 40 #[.pointer (some ⟨st,0,none⟩),.int .i64 (t:Int),fv,tv,.int .i64 (most:Int)] w (aIK X E t low up most w):=by
 obtain⟨Af,cf,_,rfl,_,_⟩:=id hk
 obtain⟨At,nt,ct,rfl⟩:∃A n c,tv=.slice A n c:=by
  cases up with
  | none=>exact⟨_,_,_,hu⟩
  | some b=>obtain⟨a,n,c,q,h1,_⟩:=hu;exact⟨_,_,_,h1⟩
 have J:∀q,X q->q<w.heap.size:=by obtain⟨_,_,_,_,_,_,_,Z⟩:=h.px;exact Z
 obtain⟨_,_,P,F,hF⟩:=h.store;obtain⟨c,hc⟩:=nm (aC s.page s.n);rw[<- hc]at hF;have u:=h.pgc;rw[<- hc]at u;have H:=lh h;have HC:=lh hc;have a0:=lh u;have Y:=lh hF;have HK:=lh hk;have a1:=lh W;have HU:=lh hu;have a2:=lh J;have L:=lh hE;have M:=lh h.begin;clear h hc u hF hk W hE hu J;have a':((t:Nat):Int)<8:=by omega
 have a9:¬ (8:Int)<=((t:Nat):Int):=by omega
 have b0:¬ ((t:Nat):Int)<0:=by omega
 have b1:¬ ((most:Nat):Int)<0:=by omega
 refine gA fun R HQ=>?_
 go_enter func40,ntmps40
 go_wp2_with fail;refine M.o.mono ?_;rintro e w1 ⟨G,bn,bs,rfl,p⟩;rw[<- HC.o]at p;have d:=lh p;have cr:=p.blk.at_ (dG c g bn bs ht);clear p M
 by_cases C:c.roots t=0
 ·rw[C]at cr
  have v:E t=[]:=by
   rcases Y.o.tree t ht with ⟨_,h,_⟩|⟨h,_⟩
   ·exact h
   ·exact absurd C h
  have HX:=lh (HQ.o (.returned (.tuple #[.slice none 0 0,.int .i64 0])) w1 ⟨.slice none 0 0,[],rfl,by rw[v];exact vF _ _ _ _,by rw[v];trivial,d.o.fr⟩);have a3:=lh C;clear C v;go_wp2_with fail;exact HX.o
 ·have b2:¬ ((c.roots t:Nat):Int)=0:=by omega
  obtain⟨I,P',U,z⟩:∃I P',Sub c.N 1 I (c.roots t) none none (E t) P'/\I<40:=by
   rcases Y.o.tree t ht with ⟨h,_,_⟩|⟨_,I,U⟩
   ·exact absurd h C
   ·exact⟨I,_,U,yK U (by have:=L.o;omega)⟩
  obtain⟨w2,l⟩:=nm (w1.alloc (.cells (aDV G (.slice Af low.length cf) (.slice At nt ct) (.slice none 0 0) most).toArray 145));have k:Fr [] w1 w2:=by rw[l];exact(Fr.refl [] _).alloc _
  have x:Blk w2 w1.heap.size 145 (aDV G (.slice Af low.length cf) (.slice At nt ct) (.slice none 0 0) most):=by rw[l];exact Blk.new w1 _ (aDV G (.slice Af low.length cf) (.slice At nt ct) (.slice none 0 0) most)
  have m:=d.o.fr.size;have O:=k.size;have a4:=d.o.lts;obtain⟨D,r⟩:∃D:Nat->Prop,D=fun q=>Dm_ X w G bn bs q/\q≠w1.heap.size:=⟨_,rfl⟩
  have y:∀q,X q->Dv D (.slice none 0 0) q:=fun q f=>by
   have h1:=a2.o q f;have h2:=d.o.l1;have h3:=d.o.l2;have Z:=d.o.l3;rw[r];exact⟨⟨⟨.inl f,by omega,by omega,by omega⟩,by omega⟩,fun e=>by cases e⟩
  have j:Fr [] w w2:=d.o.fr.trans k
  have W2:Hid (Wst w1.heap.size w g G bn bs w1.heap.size D c (.slice Af low.length cf) (.slice At nt ct) low up most [] (.slice none 0 0) w2):=lh {
   ch:=by
    refine(d.o.re (D':=Dv D (.slice none 0 0)) (fun q f hl=>?_) ⟨w1.heap.size+1,?_,by omega⟩ (fun q f=>?_)).frame k
    ·rw[r];exact⟨⟨f,by omega⟩,fun e=>by cases e⟩
    ·rw[r];exact⟨⟨⟨.inr (by omega),by omega,by omega,by omega⟩,by omega⟩,fun e=>by cases e⟩
    ·rw[r]at f;exact f.1.1.2
   bwk:=x
   low:=⟨gf,HK.o.fr j,y _ a1.o⟩
   up:=by
    have h1:=HU.o.fr j
    cases up with
    | none=>exact h1
    | some b=>obtain⟨a,n,ca,q,h2,h3,Z⟩:=h1;exact⟨a,n,ca,q,h2,h3,y _ Z⟩
   row:=⟨[],vF _ _ _ _,trivial⟩
   nb:=fun q f=>by rw[r]at f;exact⟨f.2,f.1.2⟩
   top:=fun q f=>by rw[r];have:=x.lt;exact⟨⟨.inr (by omega),by omega,by omega,by omega⟩,by omega⟩
   own:=fun q e=>by cases e
   hb:=⟨by omega,by omega,by omega⟩
   hH:=m
   hw:=m
   hz:=O }
  have Q:=lh (aNu a0.o Y.o.e I 40 _ 0 _ _ _ _ _ _ _ z rfl U W2.o (by have:=L.o;simpa using this));have HD:=lh r;have a3:=lh C;have b3:=lh z;have a5:Hid (w.heap.size<=G):=lh d.o.l1;have S:=lh m;have a6:=aA k cr;have T:=lh j;clear C U z k x m O a4 r y j;unfold aDV at l;go_upto_region 7 with fail
  rw[<- l];clear l cr;go_wp2_with fail;refine Q.o.mono ?_;rintro e w3 ⟨ov,rfl,B,V⟩;have W3:=lh B
  have HX:=lh (HQ.o (.returned (.tuple #[ov,.int .i64 0])) w3 (by
   obtain⟨cs,h1,h2⟩:=B.row;refine⟨ov,cs,rfl,wC h1 (fun q f=>by have:=(h1.lt q f).1;have:=S.o;omega),h2.re (fun q f _=>?_) ⟨w.heap.size,.inr (tA _)⟩,T.o.trans V.fr fun q f=>.inr ?_⟩
   ·have h3:=f.1;rw[HD.o]at h3;exact h3.1.1
   ·simp only[kB,Option.mem_toList]at f;have h1:=a5.o;have h2:=S.o;rcases f with h|h|h
    ·omega
    ·omega
    ·cases h))
  clear B V Q a6;have a7:=W3.o.ch.blk.at_ (i:=13) rfl;rw[Y.o.e]at a7;have c4:=W3.o.bwk.at_ (i:=4) rfl;go_wp2_with fail;exact HX.o
end
end
section
open Go.RowKit Go.Shelf
theorem aNv(c:UInt8)(l:List UInt8):aNp (c::l)=(aKL c&&qS ((c::l).takeWhile rH)&&decide (((c::l).takeWhile rH).length=(c::l).length)):=rfl
theorem aKU{w:World}(s:ByteArray)(J:s.size<=1000000):RV 106 #[.string s] w (.bool (aNp (bA s))):=by
 have d:=zA s;have j:=aQI s;refine gA fun R n=>?_
 cases p:bA s with
 | nil=>
  rw[p]at n;have g:=lh (n.o (.returned (.bool false)) w ⟨rfl,Fr.refl _ _⟩);rw[p]at j;clear p d
  go_enter func106,ntmps106
  go_wp2_with fail;exact g.o
 | cons c l=>
  have G:∀W,(Instr.index 9 (.string s) (.int .i64 0)).run prog W=.ok (.int .u8 (c.toNat:Int)) W:=fun W=>aFa (s:=s) (i:=0) (c:=c) (by rw[p];rfl) .i64 W;rw[p]at j;have x:=lh (fun W:World=>aPq (w:=W) s J);rw[p]at x n;have f:=lh (fun W=>aDL (c.toNat:Int) W);simp only[aGS]at f;obtain⟨k,h⟩:∃k,(c::l).takeWhile rH=k:=⟨_,rfl⟩;rw[h]at x;have b:=aNv c l;rw[h]at b;have r:s.size=(c::l).length:=by rw[<- p];exact d.symm
  obtain⟨q,m⟩:∃q,aNp (c::l)=q:=⟨_,rfl⟩;rw[m]at n b;have A:=lh b;have y:=lh r;have H:k.length<=s.size:=by rw[r,<- h];exact(List.takeWhile_sublist rH).length_le
  have I:IntKind.i32.wrap (c.toNat:Int)=(c.toNat:Int):=by have:=c.toNat_lt;rw[IntKind.wrap_i32];omega
  clear p d h m b r
  cases v:aKL c with
  | false=>
   have g:=lh (n.o (.returned (.bool false)) w ⟨by rw[A.o,v];rfl,Fr.refl _ _⟩);rw[v]at f;clear v A
   go_enter func106,ntmps106
   go_wp2_with fail;refine(f.o _).mono ?_;rintro e w1 ⟨rfl,rfl⟩;go_wp2_with fail;exact g.o
  | true=>
   rw[v]at f;obtain⟨B,u⟩:∃B,qS k=B:=⟨_,rfl⟩;have z:q=(B&&decide (k.length=(c::l).length)):=by rw[A.o,v,u];simp
   rw[u]at x;have t:=lh z;clear v A u z
   go_enter func106,ntmps106
   go_wp2_with fail;refine(f.o _).mono ?_;rintro e w1 ⟨rfl,rfl⟩;go_wp2_with fail;refine(x.o w).mono ?_;rintro e E ⟨rfl,F⟩;have C:=lh F;clear F x
   cases B with
   | false=>
    have g:=lh (n.o (.returned (.bool false)) E ⟨by rw[t.o];rfl,C.o⟩);go_wp2_with fail;exact g.o
   | true=>
    by_cases m:k.length=(c::l).length
    ·have g:=lh (n.o (.returned (.bool true)) E ⟨by rw[t.o,xP m];rfl,C.o⟩);have D:((k.length:Int)==(s.size:Int))=true:=by rw[beq_iff_eq,y.o,m]
     clear m;go_wp2_with fail;exact g.o
    ·have g:=lh (n.o (.returned (.bool false)) E ⟨by rw[t.o,vN m];rfl,C.o⟩);have D:((k.length:Int)==(s.size:Int))=false:=by rw[eI,y.o];omega
     clear m;go_wp2_with fail;exact g.o
theorem aFk{w:World}(s:ByteArray):RV 75 #[.string s] w (.bool (nmB (bA s))):=by
 have b:=zA s;refine gA fun R d=>?_
 by_cases h:s.size<=32
 ·have i:=lh (aKU (w:=w) s (by omega));obtain⟨q,g⟩:∃q,aNp (bA s)=q:=⟨_,rfl⟩;have c:nmB (bA s)=q:=by unfold nmB;rw[b,xP h,g];rfl
  rw[c]at d;rw[g]at i;have k:(s.size:Int)<=32:=by omega
  clear g c b h
  go_enter func75,ntmps75
  go_wp2_with fail;refine i.o.mono ?_;rintro e w1 ⟨rfl,j⟩;have f:=lh (d.o (.returned (.bool q)) w1 ⟨rfl,j⟩);clear j;go_wp2_with fail;exact f.o
 ·have c:nmB (bA s)=false:=by unfold nmB;rw[b,vN h];rfl
  rw[c]at d;have f:=lh (d.o (.returned (.bool false)) w ⟨rfl,Fr.refl _ _⟩);have k:¬ (s.size:Int)<=32:=by omega
  clear c b h
  go_enter func75,ntmps75
  go_wp2_with fail;exact f.o
theorem kI{w:World}(n:Int):Calls prog 47 #[.int .i64 n] w fun e w'=>e=.returned (.bool (idB n))/\w=w':=by
 refine gA fun R c=>?_
 by_cases h1:0<=n
 ·by_cases h2:n<=4294967295
  ·have b:=lh (c.o (.returned (.bool true)) w ⟨by rw[mL.2 ⟨h1,by omega⟩],rfl⟩)
   go_enter func47,ntmps47
   go_wp2_with fail;exact b.o
  ·have e:idB n=false:=by unfold idB;rw[qK];omega
   have b:=lh (c.o (.returned (.bool false)) w ⟨by rw[e],rfl⟩);clear e
   go_enter func47,ntmps47
   go_wp2_with fail;exact b.o
 ·have e:idB n=false:=by unfold idB;rw[qK];omega
  have b:=lh (c.o (.returned (.bool false)) w ⟨by rw[e],rfl⟩);clear e
  go_enter func47,ntmps47
  go_wp2_with fail;exact b.o
theorem aKV{l:List UInt8}(h:NoZ l):Lib.countByte l 0=0:=List.count_eq_zero.2 fun b=>h 0 b rfl
theorem aNw(s:ByteArray)(b:NoZ (bA s))(w:World):Calls prog 206 #[.string s,.string { data:=#[0] }] w fun e w'=>e=.returned (.int .i64 0)/\w=w':=by
 have g:∀W,(Instr.index 9 (.string { data:=#[0] }) (.int .i64 0)).run prog W=.ok (.int .u8 0) W:=fun W=>aFa (s:={ data:=#[0] }) (i:=0) (c:=0) rfl .i64 W;have d:Hid (Lib.countByte s.data.toList 0=0):=lh (aKV b);clear b;refine gA fun R f=>?_
 go_enter func206,ntmps206
 go_wp2_with fail;rw[Go.run_callFunc_extern func223 (by kernel_rfl) (by kernel_rfl) (by kernel_rfl) (e:=Extern.BytealgCount.count) (by kernel_rfl),Lib.run_countString];simp only[Result.andThen];rw[Oper.upon_value];go_wp2_with fail;exact f.o _ _ ⟨by show Ending.returned (.int .i64 ((Lib.countByte s.data.toList 0:Nat):Int))=_;rw[d.o];rfl,rfl⟩
theorem aIL(s:ByteArray)(c:NoZ (bA s))(w:World):Calls prog 180 #[.string s,.string { data:=#[0] },.string { data:=#[0,255] },.int .i64 (-1)] w fun e w'=>e=.returned (.string s)/\w=w':=by
 have b:=lh (aNw s c);clear c;refine gA fun R d=>?_
 go_enter func180,ntmps180
 go_wp2_with fail;refine(b.o _).mono ?_;rintro e wr ⟨rfl,rfl⟩;go_wp2_with fail;exact d.o _ _ ⟨rfl,rfl⟩
theorem aDX(s:ByteArray)(c:NoZ (bA s))(w:World):Calls prog 144 #[.string s,.string { data:=#[0] },.string { data:=#[0,255] }] w fun e w'=>e=.returned (.string s)/\w=w':=by
 have b:=lh (aIL s c);clear c;refine gA fun R d=>?_
 go_enter func144,ntmps144
 go_wp2_with fail;refine(b.o _).mono ?_;rintro e wr ⟨rfl,rfl⟩;go_wp2_with fail;exact d.o _ _ ⟨rfl,rfl⟩
inductive Pt where
 | str (s:ByteArray)
 | num (n:Nat)
def Pt.vals:Pt->List Value
 | .str s=>[.int .i64 3,.bool false,.bool false,.string { data:=#[] },.int .i64 0,.string s,.int .i64 0]
 | .num n=>[.int .i64 9,.bool false,.bool false,.string { data:=#[] },.int .i64 0,.string { data:=#[] },.int .i64 (n:Int)]
def Pt.bytes:Pt->List UInt8
 | .str s=>nmK (bA s)
 | .num n=>wK n
def Pt.ok:Pt->Prop
 | .str s=>NoZ (bA s)/\s.size<=1000
 | .num n=>n<4294967296
def mT:List Value:=[.int .i64 0,.bool false,.bool false,.string { data:=#[] },.int .i64 0,.string { data:=#[] },.int .i64 0]
theorem xQ:∀(p:Pt),∀u∈p.vals,u.oneCell'=true
 | .str s,u,h=>by
  simp only[Pt.vals,kB,yG,aG]at h;rcases h with rfl|rfl|rfl|rfl|rfl|rfl|rfl<;>rfl
 | .num n,u,h=>by
  simp only[Pt.vals,kB,yG,aG]at h;rcases h with rfl|rfl|rfl|rfl|rfl|rfl|rfl<;>rfl
theorem aAV:(prog.info? 107).map (fun i=>(i.zero,i.size,i.bytes))=some (some (.agg mT.toArray),7,72):=by kernel_rfl
theorem aNx(s:ByteArray)(w:World):RV 111 #[.agg (Pt.str s).vals.toArray] w (.bool true):=by
 refine gA fun R b=>?_;unfold Pt.vals
 go_enter func111,ntmps111
 go_wp2_with fail;exact b.o _ _ ⟨rfl,((Fr.refl _ _).alloc _).alloc _⟩
theorem aNy(n:Nat)(c:n<4294967296)(w:World):RV 111 #[.agg (Pt.num n).vals.toArray] w (.bool true):=by
 have h1:(0:Int)<=(n:Int):=by omega
 have h2:(n:Int)<=4294967295:=by omega
 refine gA fun R b=>?_;unfold Pt.vals
 go_enter func111,ntmps111
 go_wp2_with fail;exact b.o _ _ ⟨rfl,((Fr.refl _ _).alloc _).alloc _⟩
theorem aNz(p:Pt)(b:p.ok)(w:World):RV 111 #[.agg p.vals.toArray] w (.bool true):=
 match p,b with
 | .str s,_=>aNx s w
 | .num n,h=>aNy n h w
theorem yQ(n:Nat):(UInt8.ofNat n).toNat=n%256:=yN ..
def FrB (b:Nat) (w w':World):Prop:=∃S,Fr S w w'/\∀x∈S,b<=x
theorem FrB.of{b:Nat}{S:List Nat}{w w':World}(h:Fr S w w')(c:∀x∈S,b<=x):FrB b w w':=⟨S,h,c⟩
theorem FrB.trans{b:Nat}{w w1:World}(h:FrB b w w1)(h2:FrB b w1 w'):FrB b w w':=by
 obtain⟨S,f,d⟩:=h;obtain⟨T,g,i⟩:=h2;refine⟨S++T,(f.mono fun x c=>.inl (aE _ c)).trans (g.mono fun x c=>.inl (rE S c)) fun x c=>.inl c,fun x c=>?_⟩;rcases pD.1 c with c|c
 ·exact d x c
 ·exact i x c
theorem FrB.after{b:Nat}{w0 w w':World}(h:FrB b w w')(h0:Fr [] w0 w)(g:w0.heap.size<=b):Fr [] w0 w':=by
 obtain⟨S,f,c⟩:=h;exact h0.trans f fun x d=>.inr (aF g (c x d))
theorem jK{w:World}{b:Nat}{e:TypeId}{size n:Nat}{v:Value}(h:w.ownsRow b e size v n F):w.ownsRow 0 e size v n F:=by
 refine⟨h.1,h.2.imp id ?_⟩;rintro⟨g,cap,cur,c,_,d⟩;exact⟨g,cap,cur,c,rB _,d⟩
theorem vP{w:World}{b:Nat}{e:TypeId}{size n:Nat}{v:Value}(h:w.ownsRow 0 e size v n F)(f:∀g,v.ownBlock=some g->b<=g):w.ownsRow b e size v n F:=by
 refine⟨h.1,h.2.imp id ?_⟩;rintro⟨g,cap,cur,c,_,d⟩;exact⟨g,cap,cur,c,f g (by rw[c];rfl),d⟩
theorem lF{w:World}{b:Nat}{e:TypeId}{size n:Nat}{v:Value}(h:w.ownsRow b e size v n F):∀g,v.ownBlock=some g->b<=g:=by
 intro g d;rcases h.2 with ⟨rfl,_⟩|⟨f,cap,cur,rfl,c,_⟩
 ·simp[Value.ownBlock]at d
 ·have:f=g:=by simpa[Value.ownBlock]using d
  subst this;exact c
def aKW (b:Nat) (w:World) (bs:List UInt8) (e:Ending) (w':World):Prop:=∃v',e=.returned v'/\w'.ownsRow b 5 1 v' bs.length (fA bs)/\FrB b w w'
theorem aQP(n:Nat)(_hn:n<4294967296){b:Nat}{w:World}{v:Value}{bs:List UInt8}(M:w.ownsRow b 5 1 v bs.length (fA bs))(X:b<=w.heap.size)(hb:bs.length<=100000):Calls prog 112 #[v,.agg (Pt.num n).vals.toArray] w (aKW b w (bs++wK n)):=by
 refine gA fun R U=>?_;obtain⟨A,c,rfl,Z,_⟩:=sA M;have F:=lh M;clear M;unfold Pt.vals;have O:IntKind.u8.wrap ((n:Int) / 16777216)=((UInt8.ofNat (n / 16777216)).toNat:Int):=by rw[wT,yQ];omega
 have P:IntKind.u8.wrap ((n:Int) / 65536)=((UInt8.ofNat (n / 65536)).toNat:Int):=by rw[wT,yQ];omega
 have Q:IntKind.u8.wrap ((n:Int) / 256)=((UInt8.ofNat (n / 256)).toNat:Int):=by rw[wT,yQ];omega
 have S:IntKind.u8.wrap (n:Int)=((UInt8.ofNat n).toNat:Int):=by rw[wT,yQ];omega
 obtain⟨v1,k⟩:∃v,((UInt8.ofNat (n / 16777216)).toNat:Int)=v:=⟨_,rfl⟩;obtain⟨v2,l⟩:∃v,((UInt8.ofNat (n / 65536)).toNat:Int)=v:=⟨_,rfl⟩;obtain⟨v3,m⟩:∃v,((UInt8.ofNat (n / 256)).toNat:Int)=v:=⟨_,rfl⟩;obtain⟨v4,p⟩:∃v,((UInt8.ofNat n).toNat:Int)=v:=⟨_,rfl⟩;rw[k]at O;rw[l]at P;rw[m]at Q;rw[p]at S;have r:fA (wK n)=[.int .u8 80,.int .u8 v1,.int .u8 v2,.int .u8 v3,.int .u8 v4]:=by rw[<- k,<- l,<- m,<- p];rfl
 have G:=lh r;clear k l m p r
 go_enter func112,ntmps112
 go_upto_region 17 with fail
 have s:Fr [] w (w.alloc (.cells #[.int .i64 9,.bool false,.bool false,.string { data:=#[] },.int .i64 0,.string { data:=#[] },.int .i64 (n:Int)] 107)):=(Fr.refl [] w).alloc _;have t:Blk (w.alloc (.cells #[.int .i64 9,.bool false,.bool false,.string { data:=#[] },.int .i64 0,.string { data:=#[] },.int .i64 (n:Int)] 107)) w.heap.size 107 [.int .i64 9,.bool false,.bool false,.string { data:=#[] },.int .i64 0,.string { data:=#[] },.int .i64 (n:Int)]:=Blk.new w _ [.int .i64 9,.bool false,.bool false,.string { data:=#[] },.int .i64 0,.string { data:=#[] },.int .i64 (n:Int)];generalize w.alloc (.cells #[.int .i64 9,.bool false,.bool false,.string { data:=#[] },.int .i64 0,.string { data:=#[] },.int .i64 (n:Int)] 107)=w1 at *;have Y:=t.at_ (i:=6) rfl;have y:=lh s;clear s t;refine fE ?_
 iterate 16 (refine rn rfl (by go_simp<;>with_reducible rfl) ?_;simp only[nrm])
 refine lp fun K hK=>?_;obtain⟨iu,hi,J,C,L⟩:=Go.info_parts aIx;refine xB (v:=.slice (some ⟨w1.heap.size,0,none⟩) 5 5) (w':=w1.alloc (.cells #[.int .u8 80,.int .u8 v1,.int .u8 v2,.int .u8 v3,.int .u8 v4] 5)) (by go_simp<;>rfl) (hK _ _ ?_);simp only[nrm];clear hK;have f:=Blk.new w1 5 [.int .u8 80,.int .u8 v1,.int .u8 v2,.int .u8 v3,.int .u8 v4];have z:Fr [] w1 (w1.alloc (.cells #[.int .u8 80,.int .u8 v1,.int .u8 v2,.int .u8 v3,.int .u8 v4] 5)):=(Fr.refl [] w1).alloc _;have H:(w1.alloc (.cells #[.int .u8 80,.int .u8 v1,.int .u8 v2,.int .u8 v3,.int .u8 v4] 5)).heap.size=w1.heap.size+1:=by simp
 change Blk (w1.alloc (.cells #[.int .u8 80,.int .u8 v1,.int .u8 v2,.int .u8 v3,.int .u8 v4] 5)) _ _ _ at f
 generalize w1.alloc (.cells #[.int .u8 80,.int .u8 v1,.int .u8 v2,.int .u8 v3,.int .u8 v4] 5)=w2 at *;have B:=lh (y.o.trans z);have I:=lh f;clear z f;refine lp fun K hK=>?_;refine eD (.tmp 86) (.tmp 102) rfl 5 1 1 Go.Proofs.Tryz.underlying67 hi J C L rfl (by omega) (.slice A bs.length c) bs.length (fA bs) rfl (jK (iB F.o B.o (by simp))) ⟨w1.heap.size,0,none⟩ 5 5 [.int .u8 80,.int .u8 v1,.int .u8 v2,.int .u8 v3,.int .u8 v4] rfl rfl (fun j u E=>by rw[Go.Addr.add_mid,cC];exact I.o.at_ E) (by intro u E;simp only[kB,yG,aG]at E;rcases E with rfl|rfl|rfl|rfl|rfl<;>rfl) (by omega) (by unfold maxLen;omega) (by omega) (w1.heap.size+1) H fun g7 cap w7 q D d N=>hK _ _ ?_;simp only[nrm];clear hK;refine rn rfl (by go_simp<;>with_reducible rfl) ?_;simp only[nrm];refine sE ?_
 have T:=lh (U.o (.returned (.slice (some ⟨g7,0,none⟩) (bs.length+5) cap)) w7 ⟨_,rfl,by
  rw[<- G.o,<- sC,show bs.length+5=(bs++wK n).length by rw[lB];rfl]at q;rw[show bs.length+5=(bs++wK n).length by rw[lB];rfl]
  exact vP q fun g V=>by
   have e:g7=g:=by simpa[Value.ownBlock]using V
   subst e;rcases d with h|h
   ·exact lF F.o _ h
   ·have:=y.o.size;omega,(FrB.of B.o (by simp)).trans (FrB.of D fun x W=>lF F.o x (by simpa using W))⟩)
 clear q D d;go_wp2_with fail;exact T.o
theorem aAW(b:Array Value)(w:World):(callFunc 144 b).run prog w=.ok (.enter 144 b) w:=by kernel_rfl
theorem aQQ(s:ByteArray)(hz:NoZ (bA s))(hs:s.size<=1000){b:Nat}{w:World}{v:Value}{bs:List UInt8}(ho:w.ownsRow b 5 1 v bs.length (fA bs))(b1:b<=w.heap.size)(hb:bs.length<=100000):Calls prog 112 #[v,.agg (Pt.str s).vals.toArray] w (aKW b w (bs++nmK (bA s))):=by
 refine gA fun R HQ=>?_;obtain⟨A,c,rfl,hc,_⟩:=sA ho;have Y:=lh ho;have Z:=lh (aDX s hz);have I:=zA s;clear ho hz;unfold Pt.vals;obtain⟨iu,hi,G,r,H⟩:=Go.info_parts aIx
 go_enter func112,ntmps112
 go_upto_region 14 with fail
 have y:Fr [] w (w.alloc (.cells #[.int .i64 3,.bool false,.bool false,.string { data:=#[] },.int .i64 0,.string s,.int .i64 0] 107)):=(Fr.refl [] w).alloc _;have J:(w.alloc (.cells #[.int .i64 3,.bool false,.bool false,.string { data:=#[] },.int .i64 0,.string s,.int .i64 0] 107)).heap.size=w.heap.size+1:=by simp
 have L:Blk (w.alloc (.cells #[.int .i64 3,.bool false,.bool false,.string { data:=#[] },.int .i64 0,.string s,.int .i64 0] 107)) w.heap.size 107 [.int .i64 3,.bool false,.bool false,.string { data:=#[] },.int .i64 0,.string s,.int .i64 0]:=Blk.new w _ [.int .i64 3,.bool false,.bool false,.string { data:=#[] },.int .i64 0,.string s,.int .i64 0];generalize w.alloc (.cells #[.int .i64 3,.bool false,.bool false,.string { data:=#[] },.int .i64 0,.string s,.int .i64 0] 107)=w1 at *;have a0:=lh y;have a1:=lh L;have a2:=lh J;have D:=lh (iB Y.o y (by simp));have M:=lh (aF b1 y.size);clear y L J;refine fE ?_;refine rn rfl (by go_simp<;>with_reducible rfl) ?_;simp only[nrm];refine lp fun K hK=>?_;refine xB (v:=.slice (some ⟨w1.heap.size,0,none⟩) 1 1) (w':=w1.alloc (.cells #[.int .u8 64] 5)) (by go_simp<;>rfl) (hK _ _ ?_);simp only[nrm];clear hK;have m:=Blk.new w1 5 [.int .u8 64];have p:Fr [] w1 (w1.alloc (.cells #[.int .u8 64] 5)):=(Fr.refl [] w1).alloc _;have q:(w1.alloc (.cells #[.int .u8 64] 5)).heap.size=w1.heap.size+1:=by simp
 change Blk (w1.alloc (.cells #[.int .u8 64] 5)) _ _ _ at m
 generalize w1.alloc (.cells #[.int .u8 64] 5)=w2 at *;have E:=lh p;have a3:=lh m;clear p m;refine lp fun K hK=>?_;refine eD (.tmp 75) (.tmp 76) rfl 5 1 1 Go.Proofs.Tryz.underlying67 hi G r H rfl (by omega) (Value.slice A bs.length c) bs.length (fA bs) rfl (jK (iB D.o E.o (by simp))) ⟨w1.heap.size,0,none⟩ 1 1 [.int .u8 64] rfl rfl (fun j u B=>by rw[Go.Addr.add_mid,cC];exact a3.o.at_ B) (by intro u B;simp only[kB,yG,aG]at B;exact B▸rfl) (by omega) (by unfold maxLen;omega) (by omega) (w1.heap.size+1) q fun g7 c7 w7 f k d t=>hK _ _ ?_;simp only[nrm];clear hK;refine rn rfl (by go_simp<;>with_reducible rfl) ?_;simp only[nrm];refine sE ?_
 have N:Hid (w7.ownsRow b 5 1 (.slice (some ⟨g7,0,none⟩) (bs.length+1) c7) (bs.length+1) (fA bs++[.int .u8 64])):=lh (vP f fun g W=>by
  have e:g7=g:=by simpa[Value.ownBlock]using W
  subst e;rcases d with h|h
  ·exact lF D.o _ h
  ·have:=M.o;omega)
 have a4:=lh k;have O:=lh (show b<=w7.heap.size by have:=M.o;have:=k.size;omega);have a5:=lh ((FrB.of a0.o (by simp)).trans ((FrB.of E.o (by simp)).trans (FrB.of k fun x V=>lF D.o x (by simpa using V))));have a6:Hid (g7=w1.heap.size+1∨(Value.slice A bs.length c).ownBlock=some g7):=lh d.symm;clear f k d t q
 have P:g7≠w.heap.size:=fun e=>by
  have h1:=a2.o;rcases a6.o with h|h
  ·omega
  ·have:=sF Y.o g7 h;omega
 have Q:Hid (Blk w7 w.heap.size 107 [.int .i64 3,.bool false,.bool false,.string { data:=#[] },.int .i64 0,.string s,.int .i64 0]):=lh (by
  have h1:=a1.o.fr E.o;exact h1.fr a4.o (fun hm=>by have:=sF Y.o w.heap.size (by simpa using hm);omega))
 have c5:=Q.o.at_ (i:=5) rfl;have a7:=lh P;clear P;go_upto_region 15 with fail
 refine fE ?_
 iterate 3 (refine rn rfl (by go_simp<;>with_reducible rfl) ?_;simp only[nrm])
 refine lp fun K hK=>?_;refine jA (l:=[.tmp 80,.const (.string { data:=#[0] }),.const (.string { data:=#[0,255] })]) rfl [.string s,.string { data:=#[0] },.string { data:=#[0,255] }] rfl (aAW _) ((Z.o _).mono ?_);rintro e wr ⟨rfl,rfl⟩;refine⟨_,rfl,hK _ _ ?_⟩;simp only[nrm];clear hK;have f:=N.o;have e7:fA bs++[Value.int .u8 64]=fA (bs++[64]):=by rw[sC];rfl
 rw[e7]at f;refine Lib.wpList_append_own_string _ rfl (.tmp 78) (.tmp 81) 67 9 rfl b 5 iu Go.Proofs.Tryz.underlying67 Go.Proofs.Tryz.underlying9 hi G r H (.slice (some ⟨g7,0,none⟩) (bs.length+1) c7) (bs.length+1) (fA (bs++[64])) rfl f s rfl (by unfold maxLen;omega) (by omega) (by have:=O.o;omega) ?_;intro v8 n C U _;simp only[nrm];refine rn rfl (by go_simp<;>with_reducible rfl) ?_;simp only[nrm];refine sE ?_;have z:Fr [g7] w7 n:=(Fr.refl _ _).grown U (fun g W=>.inl (by simpa[Value.ownBlock]using W.symm));have e8:fA (bs++[64])++Lib.strCells s=fA (bs++[64]++bA s):=by rw[sC _ (bA s)];rfl
 rw[e8]at C;obtain⟨A8,c8,rfl,b6,_⟩:=sA C;have F:=lh C;have b2:=lh (Q.o.fr z (by simp only[aB];exact fun h=>a7.o h.symm));have a8:=lh (a5.o.trans (FrB.of z (by intro x V;obtain rfl:=aB.1 V;exact lF N.o _ rfl)));have S:=lh (aF O.o z.size);clear f e7 C U z e8 c5;go_upto_region 16 with fail
 refine fE ?_;refine rn rfl (by go_simp<;>with_reducible rfl) ?_;simp only[nrm];refine lp fun K hK=>?_;refine xB (v:=.slice (some ⟨n.heap.size,0,none⟩) 2 2) (w':=n.alloc (.cells #[.int .u8 0,.int .u8 0] 5)) (by go_simp<;>rfl) (hK _ _ ?_);simp only[nrm];clear hK;have m:=Blk.new n 5 [.int .u8 0,.int .u8 0];have p:Fr [] n (n.alloc (.cells #[.int .u8 0,.int .u8 0] 5)):=(Fr.refl [] n).alloc _;have q:(n.alloc (.cells #[.int .u8 0,.int .u8 0] 5)).heap.size=n.heap.size+1:=by simp
 change Blk (n.alloc (.cells #[.int .u8 0,.int .u8 0] 5)) _ _ _ at m
 generalize n.alloc (.cells #[.int .u8 0,.int .u8 0] 5)=w2 at *;have T:=lh p;have a9:=lh m;clear p m;refine lp fun K hK=>?_;refine eD (.tmp 83) (.tmp 84) rfl 5 1 1 Go.Proofs.Tryz.underlying67 hi G r H rfl (by omega) (Value.slice A8 (bs.length+1+s.size) c8) (bs.length+1+s.size) (fA (bs++[64]++bA s)) rfl (jK (iB F.o T.o (by simp))) ⟨n.heap.size,0,none⟩ 2 2 [.int .u8 0,.int .u8 0] rfl rfl (fun j u B=>by rw[Go.Addr.add_mid,cC];exact a9.o.at_ B) (by intro u B;simp only[kB,yG,aG]at B;exact B.elim (fun e=>e▸rfl) (fun e=>e▸rfl)) (by omega) (by unfold maxLen;omega) (by omega) (n.heap.size+1) q fun X c9 w9 f k d t=>hK _ _ ?_;simp only[nrm];clear hK;refine rn rfl (by go_simp<;>with_reducible rfl) ?_;simp only[nrm];refine sE ?_
 have a':Hid (w9.ownsRow b 5 1 (.slice (some ⟨X,0,none⟩) ((bs.length+1+s.size)+2) c9) ((bs.length+1+s.size)+2) (fA (bs++[64]++bA s)++[.int .u8 0,.int .u8 0])):=lh (vP f fun g W=>by
  have e:X=g:=by simpa[Value.ownBlock]using W
  subst e;rcases d with h|h
  ·exact lF F.o _ h
  ·have:=S.o;omega)
 have b3:=lh k;have b4:=lh (show b<=w9.heap.size by have:=S.o;have:=k.size;omega);have b0:=lh (a8.o.trans ((FrB.of T.o (by simp)).trans (FrB.of k fun x V=>lF F.o x (by simpa using V))));have b5:Hid (X=n.heap.size+1∨(Value.slice A8 (bs.length+1+s.size) c8).ownBlock=some X):=lh d.symm;clear f k d t q
 have HX:=lh (HQ.o (.returned (.slice (some ⟨X,0,none⟩) (bs.length+1+s.size+2) c9)) w9 ⟨_,rfl,by
  have h:=a'.o
  have e9:fA (bs++[64]++bA s)++[Value.int .u8 0,.int .u8 0]=fA (bs++nmK (bA s)):=by
   rw[show bs++nmK (bA s)=(bs++[64]++bA s)++[0,0] by simp[nmK],sC _ [0,0]]
   rfl
  have l9:(bs++nmK (bA s)).length=bs.length+1+s.size+2:=by rw[lB,<- I];simp[nmK];omega
  rw[e9,<- l9]at h;rw[<- l9];exact h,b0.o⟩)
 go_wp2_with fail;exact HX.o
theorem aKX(p:Pt)(g:p.ok){b:Nat}{w:World}{v:Value}{bs:List UInt8}(d:w.ownsRow b 5 1 v bs.length (fA bs))(c:b<=w.heap.size)(f:bs.length<=100000):Calls prog 112 #[v,.agg p.vals.toArray] w (aKW b w (bs++p.bytes)):=
 match p,g with
 | .str s,h=>aQQ s h.1 h.2 d c f
 | .num n,h=>aQP n h d c f
theorem nE(p:Pt):p.vals.length=7:=by cases p<;>rfl
def bI (l:List Pt):List Value:=l.flatMap Pt.vals
def aD (l:List Pt):List UInt8:=l.flatMap Pt.bytes
theorem aDY(l:List Pt):(bI l).length=l.length*7:=by
 induction l with
 | nil=>rfl
 | cons p l b=>unfold bI at *;rw[nH,lB,b,gD,nE];omega
theorem aNA{l:List Pt}{k:Nat}{p:Pt}(h:l[k]? = some p){j:Nat}(c:j<7):(bI l)[k*7+j]? = p.vals[j]?:=by
 induction l generalizing k with
 | nil=>simp at h
 | cons q l b=>
  unfold bI at *;rw[nH]
  cases k with
  | zero=>
   simp only[iR,vI]at h;subst h;rw[kM (by rw[nE];omega)]
   congr 1
   omega
  | succ k=>
   rw[dK (by rw[nE];omega),nE,show(k+1)*7+j-7=k*7+j by omega];exact b (by simpa using h)
theorem aDZ{l:List Pt}(h:∀p∈l,p.ok):(aD l).length<=1003*l.length:=by
 induction l with
 | nil=>simp[aD]
 | cons p l c=>
  have h1:=c fun q b=>h q (uC _ b)
  have h2:p.bytes.length<=1003:=by
   have h3:=h p (sB ..)
   cases p with
   | str s=>have:=h3.2;have d:=zA s;show(nmK (bA s)).length<=1003;simp[nmK];omega
   | num n=>show(wK n).length<=1003;simp[wK,be4]
  unfold aD at *;rw[nH,lB,gD];omega
theorem qJ:(prog.info? 107).map (·.size)=some 7:=by kernel_rfl
theorem aIM(b:Array Value)(w:World):(callFunc 111 b).run prog w=.ok (.enter 111 b) w:=by kernel_rfl
theorem aKY(b:Array Value)(w:World):(callFunc 112 b).run prog w=.ok (.enter 112 b) w:=by kernel_rfl
def aRY (w:World) (l:List Pt) (j:Nat) (v4 v12:Value) (wr:World):Prop:=
 ∃k:Nat,k+j=l.length/\v12=.int .i64 (k:Int)/\wr.ownsRow w.heap.size 5 1 v4 (aD (l.take k)).length (fA (aD (l.take k)))/\Fr [] w wr
theorem aKZ{w:World}(l:List Pt)(hl:∀p∈l,p.ok)(hn:l.length<=16){v:Value}{g:Nat}(hv:iH w v l.length (bI l) g):
  Calls prog 78 #[v] w fun e w'=>∃v',e=.returned (.tuple #[v',.int .i64 0])/\w'.ownsRow w.heap.size 5 1 v' (aD l).length (fA (aD l))/\Fr [] w w':=by
 refine gA fun R HQ=>?_;obtain⟨A,c,off,rfl,hc,b⟩:=hv;have HC:=lh b;have S:=lh hl;obtain⟨n,i⟩:∃n,l.length=n:=⟨_,rfl⟩;rw[i]at hc hn⊢;have x:=lh i;have d0:decide (16<(n:Int))=false:=dF (by omega)
 clear b hl i
 go_enter func78,ntmps78
 go_wp2_with fail;clear d0
 go_loopg [4,12] n (fun j v4 v12 wr=>aRY w l j v4 v12 wr)
 case atStart=>exact⟨0,by rw[x.o];omega,rfl,vF _ _ _ _,Fr.refl _ _⟩
 case round=>
  obtain⟨k,hk,rfl,d,hf⟩:=hrel;rw[x.o]at hk;have T:=lh d;have O:=lh hf;clear d hf
  by_cases a8:k<n
  ·obtain⟨p,Q⟩:∃p,l[k]? = some p:=gx (by rw[x.o];exact a8);have f:=rG Q;obtain⟨rfl,H⟩:=HC.o (by rw[x.o];omega)
   have z:wr.rangeAt g (off+k*7) p.vals:=fun j u y=>by
    have hj:j<7:=by rw[<- nE p];exact(tD.1 y).1
    have h1:=H (k*7+j) u (by rw[aNA Q hj];exact y);rw[rT];exact(O.o.cell (p:=⟨g,off+(k*7+j),none⟩) (cF w _ h1) (by simp)).trans h1
   have U:=lh z;have B:=lh (fun W=>aNz p (S.o p f) W);have V:=lh (S.o p f);have X:=lh Q;have a9:(k:Int)<(n:Int):=by omega
   clear H z f Q;go_upto_region 6 with fail
   refine fE ?_;refine rn rfl (by go_simp<;>with_reducible rfl) ?_;simp only[nrm];refine lp fun K hK=>?_;refine Go.wp_load_mid 107 (.tmp 14) rfl g (off+k*7) rfl p.vals _ U.o Go.Proofs.Tryz.underlying107 rfl (by rw[nE];exact qJ) (hK _ _ ?_);simp only[nrm];clear hK;refine lp fun K hK=>?_;refine yB 107 rfl (.agg mT.toArray) mT (by obtain⟨iu,hi,a6,_,_⟩:=Go.info_parts aAV;rw[hi];exact congrArg some a6) rfl fun wa t J L=>hK _ _ ?_;simp only[nrm];clear hK;obtain⟨b6,m⟩:=nm (wr.heap.size);rw[<- m]at t⊢;have Y:=lh m;have Z:=lh J;have a':=lh L;have a0:=lh t;clear m J L t;refine lp fun K hK=>?_;refine yA 107 (.tmp 6) (.tmp 15) rfl p.vals rfl rfl a0.o (by rw[nE];exact qJ) (by rw[nE];rfl) (xQ p) fun wb M N a7=>hK _ _ ?_;simp only[Act.put];clear hK;have C:=lh M;have a1:Hid (Fr [] wr wb):=lh (Z.o.trans N fun q hq=>.inr (by rw[aB.1 hq,Y.o];exact tA _));clear M N a7;refine sE ?_;have D:=B;go_upto_region 7 with fail
   refine fE ?_;refine lp fun K hK=>?_;refine Go.wp_load_mid 107 (.tmp 6) rfl b6 0 rfl p.vals _ (fun j u y=>by rw[cC];exact C.o.at_ y) Go.Proofs.Tryz.underlying107 rfl (by rw[nE];exact qJ) (hK _ _ ?_);simp only[nrm];clear hK;refine lp fun K hK=>?_;refine jA (l:=[.tmp 16]) rfl [.agg p.vals.toArray] rfl (aIM _) ((B.o _).mono ?_);rintro e wc ⟨rfl,r⟩;refine⟨_,rfl,hK _ _ ?_⟩;simp only[nrm];clear hK;refine rn rfl (by go_simp<;>with_reducible rfl) ?_;simp only[nrm];refine sE ?_;have a2:=lh (C.o.fr r);have h:=lh (a1.o.trans r);have a3:=lh (iB T.o h.o (by simp));have E:=aDZ (l:=l.take k) (fun q hq=>S.o q (rO hq));rw[jC]at E;have F:=lh (aKX p V.o a3.o (by have:=O.o.size;have:=h.o.size;omega) (by omega));clear r E D;obtain⟨Ao,co,rfl,_,_⟩:=sA T.o;go_upto_region 9 with fail
   refine fE ?_;refine rn rfl (by go_simp<;>with_reducible rfl) ?_;simp only[nrm];refine lp fun K hK=>?_;refine Go.wp_load_mid 107 (.tmp 6) rfl b6 0 rfl p.vals _ (fun j u y=>by rw[cC];exact a2.o.at_ y) Go.Proofs.Tryz.underlying107 rfl (by rw[nE];exact qJ) (hK _ _ ?_);simp only[nrm];clear hK;refine lp fun K hK=>?_;refine jA (l:=[.tmp 19,.tmp 20]) rfl [_,.agg p.vals.toArray] rfl (aKY _) (F.o.mono ?_);rintro e wd ⟨v',rfl,s,I⟩;refine⟨_,rfl,hK _ _ ?_⟩;simp only[nrm];clear hK;refine rn rfl (by go_simp<;>with_reducible rfl) ?_;simp only[nrm];refine sE ?_;have G:=I.after (O.o.trans h.o) (tA _)
   have e8:aD (l.take k)++p.bytes=aD (l.take (k+1)):=by
    unfold aD;rw[oM,X.o,qP]
    simp
   rw[e8]at s;have a4:=lh s;have a5:=lh G;clear s I G e8 F;have b0:IntKind.i64.wrap ((k:Int)+1)=((k+1:Nat):Int):=by rw[iD];omega
   go_wp2_with fail
   go_roundg (n-(k+1))
   case measure=>omega
   case rel=>exact⟨k+1,by rw[x.o];omega,rfl,a4.o,a5.o⟩
  ·obtain rfl:k=n:=by omega
   have P:=T.o;rw[zF (by rw[x.o];omega)]at P;obtain⟨Ao,co,rfl,_,_⟩:=sA P;have HX:=lh (HQ.o _ _ ⟨_,rfl,P,O.o⟩);clear P;go_wp2_with fail;exact HX.o
theorem qV{w:World}{b:Nat}{e:TypeId}{v:Value}{bs:List UInt8}{n:Nat}(c:n=bs.length)(h:w.ownsRow b e 1 v n (fA bs))(i:b<=w.heap.size):∃g,cA w v bs g/\b<=g:=by
 subst c;rcases h.2 with ⟨rfl,h0⟩|⟨g,cap,cur,rfl,d,k,c,l,m,ht⟩
 ·have:bs=[]:=tO.1 h0;subst this;exact⟨w.heap.size,cA.nil _ _,i⟩
 ·refine⟨g,⟨_,cap,0,rfl,c,fun _=>⟨rfl,fun j u f=>?_⟩⟩,d⟩;rw[cC];have:=World.ownsRow.cells h (g:=g) rfl j u f
  rwa [Go.Addr.add_mid,cC]at this
def qN (s:ByteArray) (ns:List Nat):List Pt:=.str s::ns.map .num
theorem uS(s:ByteArray)(b:List Nat):aD (qN s b)=nB (bA s) b:=by
 unfold aD qN nB;rw[nH,List.flatMap_map]
 rfl
theorem vU(s:ByteArray)(b:List Nat):(qN s b).length=b.length+1:=by unfold qN;simp
def KyRel (w:World) (s:ByteArray) (ns:List Nat) (j:Nat) (v5 v15:Value) (wr:World):Prop:=
 ∃k:Nat,k+j=ns.length/\v15=.int .i64 (k:Int)/\wr.ownsRow w.heap.size 107 7 v5 (k+1) (bI (qN s (ns.take k)))/\Fr [] w wr
theorem rN{w:World}(s:ByteArray)(b:List Nat)(hz:NoZ (bA s))(hs:s.size<=1000)(U:∀n∈b,n<4294967296)(hn:b.length<=3){v:Value}{g:Nat}(hv:iH w v b.length (b.map fun n:Nat=>Value.int .i64 (n:Int)) g):
  Calls prog 45 #[.string s,v] w fun e w'=>∃v',e=.returned v'/\(∃q,cA w' v' (nB (bA s) b) q/\w.heap.size<=q)/\Fr [] w w':=by
 refine gA fun R HQ=>?_;obtain⟨A,c,off,rfl,hc,i⟩:=hv;have HC:=lh i
 have W:Hid (∀p∈qN s b,p.ok):=lh (fun p hp=>by
  rcases kB.1 hp with rfl|hp
  ·exact⟨hz,hs⟩
  ·obtain⟨n,hn,rfl⟩:=cI.1 hp;exact U n hn)
 obtain⟨n,C⟩:∃n,b.length=n:=⟨_,rfl⟩;rw[C]at hc hn⊢;have r:=lh C;obtain⟨iu,hi,D,l,a4⟩:=Go.info_parts aAV;clear i C U hz
 go_enter func45,ntmps45
 go_upto_region 1 with fail
 refine fE ?_
 iterate 2 (refine rn rfl (by go_simp<;>with_reducible rfl) ?_;simp only[nrm])
 refine lp fun K hK=>?_;refine dD (.tmp 11) rfl Go.Proofs.Tryz.underlying101 hi D [.int .i64 3,.bool false,.bool false,.string { data:=#[] },.int .i64 0,.string s,.int .i64 0] rfl l rfl (by simp) (by simp) (hK _ _ ?_);simp only[nrm];clear hK;have d:=Blk.new w 107 [.int .i64 3,.bool false,.bool false,.string { data:=#[] },.int .i64 0,.string s,.int .i64 0];have f:Fr [] w (w.alloc (.cells #[.int .i64 3,.bool false,.bool false,.string { data:=#[] },.int .i64 0,.string s,.int .i64 0] 107)):=(Fr.refl [] w).alloc _
 change Blk (w.alloc (.cells #[.int .i64 3,.bool false,.bool false,.string { data:=#[] },.int .i64 0,.string s,.int .i64 0] 107)) _ _ _ at d
 generalize w.alloc (.cells #[.int .i64 3,.bool false,.bool false,.string { data:=#[] },.int .i64 0,.string s,.int .i64 0] 107)=w1 at *;have H:Hid (w1.ownsRow w.heap.size 107 7 (.slice (some ⟨w.heap.size,0,none⟩) 1 1) 1 (bI (qN s (b.take 0)))):=lh ⟨rfl,.inr ⟨w.heap.size,1,_,rfl,tA _,d,tA _,by unfold maxLen;omega,rfl,rfl⟩⟩;have I:=lh f;clear d f;refine rn rfl (by go_simp<;>with_reducible rfl) ?_;simp only[nrm];refine sE ?_;go_wp2_with fail
 go_loopg [5,15] n (fun j v5 v15 wr=>KyRel w s b j v5 v15 wr)
 case atStart=>exact⟨0,by rw[r.o];omega,rfl,H.o,I.o⟩
 case round=>
  obtain⟨k,hk,rfl,t,hf⟩:=hrel;rw[r.o]at hk;have J:=lh t;have L:=lh hf;clear t hf H I
  by_cases a7:k<n
  ·obtain⟨z,E⟩:∃z,b[k]? = some z:=gx (by rw[r.o];exact a7);obtain⟨rfl,O⟩:=HC.o (by rw[r.o];omega);have B:=O k (.int .i64 (z:Int)) (by rw[zH,E];rfl);have a8:wr.cell? ⟨g,off+k,none⟩=some (.int .i64 (z:Int)):=(L.o.cell (p:=⟨g,off+k,none⟩) (cF w _ B) (by simp)).trans B;have X:=lh E;have a9:(k:Int)<(n:Int):=by omega
   obtain⟨Ao,co,rfl,_,_⟩:=sA J.o;clear O B E;go_upto_region 5 with fail
   refine fE ?_
   iterate 3 (refine rn rfl (by go_simp<;>with_reducible rfl) ?_;simp only[nrm])
   refine lp fun K hK=>?_;refine dD (.tmp 21) rfl Go.Proofs.Tryz.underlying101 hi D [.int .i64 9,.bool false,.bool false,.string { data:=#[] },.int .i64 0,.string { data:=#[] },.int .i64 (z:Int)] rfl l rfl (by simp) (by simp) (hK _ _ ?_);simp only[nrm];clear hK;have d:=Blk.new wr 107 [.int .i64 9,.bool false,.bool false,.string { data:=#[] },.int .i64 0,.string { data:=#[] },.int .i64 (z:Int)];have f:Fr [] wr (wr.alloc (.cells #[.int .i64 9,.bool false,.bool false,.string { data:=#[] },.int .i64 0,.string { data:=#[] },.int .i64 (z:Int)] 107)):=(Fr.refl [] wr).alloc _;have M:(wr.alloc (.cells #[.int .i64 9,.bool false,.bool false,.string { data:=#[] },.int .i64 0,.string { data:=#[] },.int .i64 (z:Int)] 107)).heap.size=wr.heap.size+1:=by simp
   change Blk (wr.alloc (.cells #[.int .i64 9,.bool false,.bool false,.string { data:=#[] },.int .i64 0,.string { data:=#[] },.int .i64 (z:Int)] 107)) _ _ _ at d
   generalize wr.alloc (.cells #[.int .i64 9,.bool false,.bool false,.string { data:=#[] },.int .i64 0,.string { data:=#[] },.int .i64 (z:Int)] 107)=w2 at *;have N:=lh f;have Y:=lh d;clear f d;have Z:(bI (qN s (b.take k))).length=(k+1)*7:=by rw[aDY,vU,jC,r.o];congr 2;omega
   refine lp fun K hK=>?_;refine eD (.tmp 19) (.tmp 22) rfl 107 7 72 Go.Proofs.Tryz.underlying101 hi D l a4 rfl (by omega) (.slice Ao (k+1) co) (k+1) (bI (qN s (b.take k))) rfl (jK (iB J.o N.o (by simp))) ⟨wr.heap.size,0,none⟩ 1 1 [.int .i64 9,.bool false,.bool false,.string { data:=#[] },.int .i64 0,.string { data:=#[] },.int .i64 (z:Int)] rfl rfl (fun j u hu=>by rw[Go.Addr.add_mid,cC];exact Y.o.at_ hu) (xQ (.num z)) (by omega) (by unfold maxLen;omega) (by omega) (wr.heap.size+1) M fun g7 c7 w7 G S y T=>hK _ _ ?_;simp only[nrm];clear hK;refine rn rfl (by go_simp<;>with_reducible rfl) ?_;simp only[nrm];refine sE ?_;have a0:=L.o.size
   have a1:Hid (w7.ownsRow w.heap.size 107 7 (.slice (some ⟨g7,0,none⟩) (k+1+1) c7) (k+1+1) (bI (qN s (b.take (k+1))))):=lh (by
    have e:bI (qN s (b.take k))++[.int .i64 9,.bool false,.bool false,.string { data:=#[] },.int .i64 0,.string { data:=#[] },.int .i64 (z:Int)]=bI (qN s (b.take (k+1))):=by
     unfold bI qN;rw[oM,X.o,List.map_append,nH,nH,qP,qF]
     rfl
    rw[e]at G
    exact vP G fun g' a6=>by
     have e:g7=g':=by simpa[Value.ownBlock]using a6
     subst e;rcases y with h|h
     ·exact lF J.o _ h
     ·omega)
   have a2:Hid (Fr [] w w7):=lh ((FrB.of S fun x hx=>lF J.o x (by simpa using hx)).after (L.o.trans N.o) (tA _));clear G S y T Z M;have a':IntKind.i64.wrap ((k:Int)+1)=((k+1:Nat):Int):=by rw[iD];omega
   go_wp2_with fail
   go_roundg (n-(k+1))
   case measure=>omega
   case rel=>exact⟨k+1,by rw[r.o];omega,rfl,a1.o,a2.o⟩
  ·obtain rfl:k=n:=by omega
   have V:=J.o;rw[zF (by rw[r.o];omega)]at V;obtain⟨Ao,co,rfl,_,_⟩:=sA V;obtain⟨g5,P,_⟩:=iH.of_own V 0;have hl:(qN s b).length=k+1:=by rw[vU,r.o]
   have a3:=lh (aKZ (qN s b) W.o (by omega) (v:=.slice Ao (k+1) co) (g:=g5) (by rw[hl];exact P));clear V P hl;go_wp2_with fail;refine a3.o.mono ?_;rintro e w8 ⟨v8,rfl,m,F⟩;rw[uS]at m;obtain⟨A8,c8,rfl,_,_⟩:=sA m;obtain⟨q,Q,a5⟩:=qV rfl m F.size;have a0:=L.o.size;have HX:=lh (HQ.o _ _ ⟨_,rfl,⟨q,Q,by omega⟩,L.o.trans F⟩);clear m F Q a5;go_wp2_with fail;exact HX.o
end
end Go.Proofs.YtebjhcjbfaaejaaGreatDoor
