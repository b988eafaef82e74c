/-
  Joined: Pz Pc RegIn Pd Pe Pf Pg Na Nb
-/
import Derived.Maps.RangeWalk
import Derived.Maps.Ext
import Derived.RangeFuncNested
import Derived.RangeFuncBound
import Derived.RangeFuncCalls
import Derived.RangeFuncLeaves
import Derived.RangeFuncBox
import Derived.Shelf.Abstract
import Derived.Shelf.RegionOpen
import Derived.WalkKit
import Derived.OwnWalkIn
import Derived.TacticsInMore
import Derived.LoopNIn
import Derived.LoopIn
import Derived.ControlIn
import Derived.Maps.OwnIn
import Derived.Lib.SlBytesConst
import Derived.Lib.Bytealg
import Derived.Test.YtebjhcjbfaaejaaGreatDoorJct3
set_option maxRecDepth 100000
set_option maxHeartbeats 32000000
open Go.Value renaming int->ii,slice->si,pointer->pi,tuple->tl,bool->ij,agg->il
open Go.IntKind renaming i64->ip,u8->ix,wrap->Wi
open Go.Obj renaming cells->iy
open Go.Ending renaming returned->iz
open Or renaming inl->Ii,inr->Ij
open List renaming length->li,take_succ_cons->oH,take_zero->yI,mem_filter->cL,length_nil->qP,pairwise_append->wQ,size_toArray->uU,foldl_cons->aAT,push_toArray->aBi,append_toArray->aBj,drop_succ_cons->aCZ,exists_mem_of_ne_nil->aHo
open UInt8 renaming ofNat->Ot,not_lt->aHm,lt_irrefl->aHn
open Option renaming map_eq_some_iff->mI
namespace Go.Proofs.YtebjhcjbfaaejaaGreatDoor
open Go.Proofs.Tryz
variable {n k i j m t:Nat}{L:List Nat}{O:PgM}
section
open Go.RowKit
section
variable {w w':World}{g d lg bl bh:Nat}{s:PS}{fp:List Nat}
theorem qF.br_(h:qF w g d lg bl bh s fp)(b:Bool)(f:Blk w' g 85 (uK d lg bl bh { s with br:=b }))(c:Fr [g] w w'):qF w' g d lg bl bh { s with br:=b } fp:=by have i:=h.ne2;exact⟨f,h.jn.fr c (by simp only[xA];exact λe=>h.ne1 e.symm) (λk j=>by simp only[xA];exact λe=>h.gout (e▸j)),h.late.fr c (by simp only[xA];exact i.1),h.held.fr c (by simp only[xA];exact i.2.1),h.ne,h.gout,h.lout,h.hout,h.lok,h.hok,h.few⟩
theorem qF.setBr(h:qF w g d lg bl bh s fp)(b:Bool):wD w (w.setCell ⟨g,6,none⟩ (ij b)) g d lg bl bh { s with br:=b } fp:=⟨fp,h.br_ b (h.blk.set_ 6 (ij b)) ((jj _ _).setCell (Ii (by simp)) _),(jj _ _).setCell (Ii (by simp[pfp])) _,λ_ c=>Ii c⟩
end
def aAe (w:World) (g d lg bl bh:Nat) (s:PS) (fp:List Nat) (e:Ending) (w':World):Prop:=
 e=.returned (.int .i64 s.check.2)/\wD w w' g d lg bl bh s.check.1 fp
theorem Z25{P:Prop} (h:P:=by
 go_wp2_with fail;refine HGO.o.mono ?_;rintro e w' ⟨rfl,rfl⟩;go_wp2_with fail;exact HQ.o _ _ HX.o):P:=h
theorem aNo{w:World}{g d lg:Nat}{s:PS}(h:qF w g d lg k i s L)(t:s.D.done+200000<1099511627776): Calls prog 15 #[pi (some ⟨g,0,none⟩)] w (aAe w g d lg k i s L):=by
 refine cA λI HQ=>?_;have q:=h.blk.a 5;have n:=λm=>h.held.len m;have⟨HGO,G,Q⟩:=hh3 (aHM h) h (aQI h t);clear h;obtain⟨b,c⟩:=nm (s.br);have p:=lh c;rw[<- c]at HGO;cases b with
 | true=>
  have b:s.check=(s,10):=by unfold PS.check;rw[iA c.symm]
  have HX:Hid (aAe w g d lg k i s L (iz (ii ip 10)) w):=lh (by unfold aAe;rw[b];exact⟨rfl,wD.same G.o⟩);clear c b p;go_enter func15,ntmps15;exact Z25
 | false=>
  have j:¬s.br=true:=by rw[<- c];decide
  by_cases f:s.held=[]
  ·have b:s.check=(s,0):=(by unfold PS.check;rw[eA j,iA f]);have HX:Hid (aAe w g d lg k i s L (iz (ii ip 0)) w):=lh (by
    unfold aAe;rw[b];exact⟨rfl,wD.same G.o⟩)
   rw[f]at n;clear c b p j f;go_enter func15,ntmps15;exact Z25
  have C:¬li s.held=0:=λh=>f (uO.1 h);have b:s.check=if (rC s).2.2≠0 then ({ s with D:=(rC s).1,l:=(rC s).2.1,br:=true },(rC s).2.2) else ({ s with D:=(rC s).1,l:=(rC s).2.1,held:=[] },0):=by unfold PS.check;rw[eA j,eA f]
  have r:=lh b;clear c b p j f;generalize hn:li s.held=J at *;clear hn;go_enter func15,ntmps15;go_wp2_with fail;refine HGO.o.mono ?_;rintro e w' ⟨rfl,rfl⟩;go_wp2_with fail;refine Q.o.mono ?_;rintro e u ⟨rfl,c⟩;obtain⟨A,b,f,j⟩:=c;have⟨S,T,U⟩:=hh3 b f j;have z:=b.blk.a 5;have E:=b.blk.a 6;have F:=b.blk.free;by_cases c:(rC s).2.2=0
  ·obtain⟨v,x,y,p,B⟩:=b.held.clear 0;have H:∀m,(Builtin.clear_ #[83] m #[.map (some i)]).run prog u=.ok (tl #[]) v:=λm=>x;have HX:Hid (aAe w g d lg k i s L (iz (ii ip 0)) v):=lh (by
    unfold aAe;rw[r.o,eA (by rw[c];decide)];exact⟨rfl,wD.comp f j ⟨A,b.held_ y p (tH.nil _),p.mono (λv m=>Ii (by simp only[xA]at m;simp[pfp,m])),λ_ m=>Ii m⟩⟩)
   rw[c];clear x y p B b f j n q c;go_wp2_with fail;exact HQ.o _ _ HX.o
  have m:=b.setBr true;have HX:Hid (aAe w g d lg k i s L (iz (ii ip (rC s).2.2)) (u.setCell ⟨g,6,none⟩ (ij true))):=lh (by unfold aAe;rw[r.o,iA c];exact⟨rfl,wD.comp f j m⟩);generalize (rC s).2.2=p at *;have r:(p !=0)=true:=(by rw[nJ];exact c);clear b f j m n c q z;go_wp2_with fail;exact HQ.o _ _ HX.o
theorem PS.append_ne(s:PS)(b:List UInt8)(h:rD s.D s.l b≠5):s.append b=(s.laid b,rD s.D s.l b):=by unfold PS.append;rw[iA (Ii h)]
theorem xY(s:PS)(h:li s.held<=s.n)(f:s.n<=4096):s.check.1.D.done<=s.D.done+100000:=by
 have b:(rC s).1.done<=s.D.done+100000:=by
  have c:=aFO (uD s.l.n s.held) s.D;rw[aBA]at c;have c:(rG s.D (uD s.l.n s.held)).1.sync.done<=(rG s.D (uD s.l.n s.held)).1.done+1:=by
   unfold DM.sync;split;·omega
   split;·show(rG s.D (uD s.l.n s.held)).1.done<=_;omega
   exact tA _
  unfold rC;split;·show(rG s.D (uD s.l.n s.held)).1.done<=_;omega
  split;·show(rG s.D (uD s.l.n s.held)).1.sync.done<=_;omega
  have d:=fP (rG s.D (uD s.l.n s.held)).1.sync { s.l with at_:=0 } [];show(kB (rG s.D (uD s.l.n s.held)).1.sync { s.l with at_:=0 } []).done<=_;omega
 unfold PS.check;split;·exact Nat.le_add_right _ _
 split;·exact Nat.le_add_right _ _
 split;·exact b
 exact b
def aAf (w:World) (g d lg bl bh:Nat) (s:PS) (fp:List Nat) (b:List UInt8) (e:Ending) (w':World):Prop:=
 e=.returned (.int .i64 (s.append b).2)/\wD w w' g d lg bl bh (s.append b).1 fp
theorem aOP{w:World}{g d lg:Nat}{s:PS}{v:Value}{b:List UInt8}(h:qF w g d lg k i s L)(H:dA w v b j)(t:j∉pfp g lg k i L)(E:j<w)(F:li b<=9223372036854775807)(S:s.D.done+400000<1099511627776): Calls prog 62 #[pi g,v] w (aAf w g d lg k i s L b):=by
 refine cA λQ q=>?_;have I:=h.blk.a 1;have c:=lh (aBw h.jn H (λy=>t (by simp[pfp,y])) E F (by omega));go_enter func62,ntmps62;go_wp2_with fail;refine c.o.mono ?_;rintro e f ⟨rfl,c⟩;have r:wD w f g d lg k i (s.laid b) L:=h.log_ c (aBD _ _ _);obtain⟨O,p,x,C⟩:=id r;have J:=p.blk.a 5;have u:∀c,(Builtin.len_ #[83] c #[.map (some i)]).run prog f=.ok (ii ip (li s.held:Int)) f:=λc=>p.held.len c;by_cases n:rD s.D s.l b=5
 ·rw[n];by_cases m:s.held=[]
  ·have c:Hid (aAf w g d lg k i s L b (iz (ii ip 5)) f):=lh (by
    unfold aAf PS.append;rw[iA (Ij m),n];exact⟨rfl,r⟩)
   rw[m]at u;go_wp2_with fail;exact q.o _ _ c.o
  have M:¬li s.held=0:=λh=>m (uO.1 h);have z:s.append b=if (s.laid b).check.2≠0 then (s.laid b).check else ((s.laid b).check.1.laid b,rD (s.laid b).check.1.D (s.laid b).check.1.l b):=by unfold PS.append;rw[eA (by rintro(h|h);exact h n;exact m h)]
  have N:(s.laid b).D.done<=s.D.done+65536:=fP s.D s.l b;have m:=lh (aNo p (by omega));generalize hn:li s.held=P at *;go_wp2_with fail;refine m.o.mono ?_;rintro e B ⟨rfl,m⟩;have A:=wD.comp x C m;obtain⟨C,u,x,G⟩:=id A;have I:=u.blk.a 1;have I:(s.laid b).check.1.D.done<=s.D.done+200000:=(by have:=xY (s.laid b) h.hok.few h.few;omega);by_cases p:(s.laid b).check.2=0
  ·rw[p];have m:j∉C:=λy=>by
    obtain h|h:=G _ y;·exact t (by simp[pfp,h])
    omega
   have c:=lh (aBw u.jn (H.fr x t) m (iL E x.size) F (by omega));have y:Hid (∀m,sZ B m lg d (aD (s.laid b).check.1.D (s.laid b).check.1.l b) (kB (s.laid b).check.1.D (s.laid b).check.1.l b) C->aAf w g d lg k i s L b (iz (ii ip (rD (s.laid b).check.1.D (s.laid b).check.1.l b))) m):=lh (λm C=>by unfold aAf;rw[z,eA (by rw[p];decide)];exact⟨rfl,wD.comp x G (u.log_ C (aBD _ _ _))⟩);go_wp2_with fail;refine c.o.mono ?_;rintro e m ⟨rfl,x⟩;have u:=lh (y.o m x);go_wp2_with fail;exact q.o _ _ u.o
  have c:Hid (aAf w g d lg k i s L b (iz (ii ip (s.laid b).check.2)) B):=lh (by unfold aAf;rw[z,iA p];exact⟨rfl,A⟩);generalize (s.laid b).check.2=m at *;have u:(m !=0)=true:=(by rw[nJ];exact p);go_wp2_with fail;exact q.o _ _ c.o
 have c:Hid (aAf w g d lg k i s L b (iz (ii ip (rD s.D s.l b))) f):=lh (by unfold aAf;rw[PS.append_ne s b n];exact⟨rfl,r⟩);generalize rD s.D s.l b=m at *;have u:(m !=5)=true:=by rw[nJ];exact n
 go_wp2_with fail;exact q.o _ _ c.o
open Go.RowKit Go.Maps
theorem aFT{S:List Nat}{w w':World}{b r n:Nat}{D:DataW Unit}{left:Lit->Bool}(h:w.ranges prog 3 pgR b r n D left k)(g:Fr S w w')(q:b∉S)(s:r∉S):w'.ranges prog 3 pgR b r n D left k:=by have c:=h.owns.lt;have d:=h.lt;obtain⟨f,i,j,l,m,o,p,t,u,v,rest⟩:=h;exact⟨f,i,j,l,m,(g.block b c q).trans o,p,t,u,(g.block r d s).trans v,rest⟩
theorem aHN{S:List Nat}{w w':World}{b n:Nat}{D:DataW Unit}(h:w.ownsMap prog 3 pgR b n D)(g:Fr S w w')(i:b∉S):w'.ownsMap prog 3 pgR b n D:=by have c:=h.lt;obtain⟨d,f,j,rest⟩:=h;exact⟨d,f,(g.block b c i).trans j,rest⟩
def aTW (w:World) (bd bs nd ns:Nat) (Dd Ds:DataW Unit) (wr:World):Prop:=
 ∃(left:Lit->Bool) (cnt:Nat) (Dout:DataW Unit),wr.ranges prog 3 pgR bs w.heap.size ns Ds left cnt/\cnt<=ns /\
  wr.ownsMap prog 3 pgR bd (nd+(ns-cnt)) Dout/\Merged Dout Dd Ds left/\Fr [bd] w wr
theorem aQJ{w:World}{bs:Nat}{t:PgM}(b:mF w n O)(d:mF w bs t)(a':n≠bs)(h1:li O<=100000)(h2:li t<=100000): Calls prog 64 #[.map (some n),.map (some bs)] w λe c=>e=iz (tl #[])/\mF c n (rI O t)/\Fr [n] w c:=by
 refine cA λa9 r=>?_;have Q:=b.lt;have S:=d.lt;have K:=aCg;have⟨HD,HS⟩:=hh2 b d;unfold mF at b d;obtain⟨h,f⟩:∃D,D=toD O:=⟨_,rfl⟩;obtain⟨i,c⟩:∃D,D=toD t:=⟨_,rfl⟩;have g:Maps.size i=li t:=by rw[c,aHL]
 rw[<- f]at b;rw[<- c]at d;have⟨a3,a4⟩:=hh2 f c;clear f c;generalize li O=v at *;go_enter func64,ntmps64;go_wp2_with (first
  | (at_range;refine wpList_range_own _ rfl _ 83 rfl 3 127 K Tryz.underlying83 pgR bs _ _ rfl d ?_;intro k c f a0)
  | go_in)
 go_frame;have j:Fr [n] w k:=(jj [n] w).grown f (by simp);rw[g]at c;clear g;go_loopw [8] (λ_ wr=>aTW w n bs v (li t) h i wr) (λ_ wr=>wr.rangeLeft bs w.heap.size);·exact⟨_,_,h,c,tA _,(aHN b ((jj [] w).grown f (by simp)) (by simp)).mono (by omega),merged_start h i,j⟩
 obtain⟨left,y,R,c,l,f,j,k⟩:=hrel;go_wp2_with (first
  | (at_next;refine wpList_next_ranges _ rfl _ rfl 3 K pgR id fJ (λg _ _=>⟨g,rfl⟩) (λM _ q=>by obtain⟨p,g,_⟩:=aCK q;exact⟨p,g⟩) bs w.heap.size (li t) _ _ _ rfl c ?_ ?_)
  | go_in)
 ·intro a1 g;have e:=merged_eq K.one j g (f.canon K) (b.canonK K) (d.canonK K);rw[a3.o,a4.o,aNm]at e;subst e;have b:Hid (mF wr n (rI O t)/\Fr [n] w wr):=lh ⟨mF.of f,k⟩;clear c f j k l g;go_wp2_with fail;go_end0;exact r.o _ _ ⟨rfl,b.o⟩
 intro B d G a2 a5 b H C a8 g E l I s J L;obtain⟨p,z,r,p⟩:=aCK g;obtain rfl:=aFQ z;obtain⟨rfl,rfl⟩:=Prod.mk.inj p;have T:=c.lt;have U:=c.ne;have V:w.heap.size≠n:=(by omega);have p:=aHN f ((jj [w.heap.size] wr).grown s (by simp)) (by simp;omega);have x:Fr [n] w b:=k.grown s (λP u=>by cases u;exact Ij (tA _));have⟨N,m,a6,HM,A,HV,a7⟩:=hh7 l p x j C g E;have F:wr.rangeLeft bs w.heap.size=y:=c.left_eq;have X:w.heap.size<b.heap.size:=l.lt;have Y:=p.lt;have Z:=l.owns.lt;unfold fJ at L;clear l p x j C g E c k s z f;have s:b.heap.size<=wr.heap.size/\wr.heap.size<=b.heap.size:=(by omega);clear J;simp only[]at *;go_wp2_with (first
  | (with_reducible refine qA rfl 127 rfl (fJ jE) (gA jE).toArray aAd rfl ?_)
  | (with_reducible refine zA (W:=b) (zs:=(gA jE).toArray) (t':=127) rfl 127 (.tmp 5) (.tmp 12) rfl (gA d) ?zx ?zy ?zw ?zi ?zl ?z1 ?_))
 case zx=>rfl
 case zy=>rfl
 case zw=>rfl
 case zi=>have q:=uT;simpa[nA,r]using q
 case zl=>show(gA jE).length=li (gA d);rw[nA,nA,aM,r]
 case z1=>exact mD _
 intro c l f C;have x:n≠b.heap.size:=(by omega);have z:w.heap.size≠b.heap.size:=(by omega);have j:c.rangeAt b.heap.size 0 (gA d):=λE M g=>(by rw[nB];exact l.at_ g);have p:(prog.info? 127).map (·.size)=some (li (gA d)):=(by rw[nA,r];exact uT);have q:v+(li t-y)<maxLen:=(by unfold maxLen;omega);have g:=aHN m.o f (by simp);have k:=HV.o;unfold fJ at k;go_wp2_with (first
  | (with_reducible refine wpList_load_mid rfl 127 (.tmp 5) rfl b.heap.size 0 rfl (gA d) _ j Tryz.underlying127 rfl p ?_)
  | (at_mapUpdate;refine wpList_mapUpdate_own c rfl (.tmp 13) (.tmp 14) (.tmp 15) 83 rfl 3 127 K Tryz.underlying83 pgR n _ _ rfl g q B _ G rfl rfl A.o _ _ k ?_))
 intro d k p;have b:Fr [n] c d:=(jj [n] c).grown p (λP u=>by cases u;exact Ii (by simp));have c:=aFT (aFT N.o f (by simp) (by simp)) b (by simp;omega) (by simp;omega);have q:aTW w n bs v (li t) h i d:=⟨_,H,_,c,by omega,k.mono (by omega),merged_step HM.o m.o.isMap (K.key A.o) a7.o,(a6.o.trans f).trans b (λB d=>Ii d)⟩;have d:=c.left_eq;clear c k p b l f j g;go_roundw
 case rel=>exact⟨_,_,_,_,_,_,_,_,_,_,q,rfl⟩
 case measure=>rw[d,F];exact I
open Go.RowKit
theorem aEl(s:PS):s.check.1.late=s.late:=by
 unfold PS.check;repeat' split
 all_goals rfl
theorem aJn(s:PS)(b:List UInt8):(s.append b).1.late=s.late:=by
 unfold PS.append;split;·rfl
 split;·exact aEl _
 exact aEl _
theorem aJo(b:Array Value)(w:World):(callFunc 64 b).run prog w=.ok (.enter 64 b) w:=by kernel_rfl
def aAg (w:World) (g d lg bl bh:Nat) (s:PS) (fp:List Nat) (e:Ending) (w':World):Prop:=
 e=.returned (.int .i64 s.commit.2)/\wD w w' g d lg bl bh s.commit.1 fp
theorem aQK{w:World}{g d lg:Nat}{s:PS}(h:qF w g d lg k i s L)(Q:s.D.done+400000<1099511627776): Calls prog 35 #[pi (some ⟨g,0,none⟩)] w (aAg w g d lg k i s L):=by
 refine cA λa4 HQ=>?_;have u:=h.blk.a 4;have q:=λm=>h.late.len m;have⟨HGO,S,HR⟩:=hh3 (aHM h) h (aQH h);have b:=h.lt;have y:=lh b;clear h b;obtain⟨v,c⟩:=nm (s.br);have r:=lh c;rw[<- c]at HGO;cases v with
 | true=>
  have b:s.commit=(s,10):=by unfold PS.commit;rw[iA c.symm]
  have HX:Hid (aAg w g d lg k i s L (iz (ii ip 10)) w):=lh (by unfold aAg;rw[b];exact⟨rfl,wD.same S.o⟩);clear c b r;go_enter func35,ntmps35;exact Z25
 | false=>
  have j:¬s.br=true:=by rw[<- c];decide
  by_cases f:s.late=[]
  ·have b:s.commit=(s,0):=(by unfold PS.commit;rw[eA j,iA f]);have HX:Hid (aAg w g d lg k i s L (iz (ii ip 0)) w):=lh (by
    unfold aAg;rw[b];exact⟨rfl,wD.same S.o⟩)
   rw[f]at q;clear c b r j f;go_enter func35,ntmps35;exact Z25
  have t:¬li s.late=0:=λh=>f (uO.1 h);have b:s.commit=if (s.append (nE s.late)).2≠0 then ({ (s.append (nE s.late)).1 with br:=(s.append (nE s.late)).1.br || ((s.append (nE s.late)).2 !=5&&(s.append (nE s.late)).2 !=4) },(s.append (nE s.late)).2)
    else ({ (s.append (nE s.late)).1 with held:=rI (s.append (nE s.late)).1.held s.late,late:=[] },0):=by
   unfold PS.commit;rw[eA j,eA f]
  have x:li (nE s.late)=514*li s.late:=gS (n:=s.n) (λp z=>S.o.lok.mem p z);have p:=lh b;have z:=S.o.lok.few;have Y:=S.o.few;clear c b r j f;obtain⟨n,b⟩:=nm (li s.late);rw[<- b]at q t x z;clear b;go_enter func35,ntmps35;go_wp2_with fail;refine HGO.o.mono ?_;rintro e w' ⟨rfl,rfl⟩;go_wp2_with fail;refine HR.o.mono ?_;rintro e t ⟨z,x,rfl,c,A,f⟩;have j:=S.o.fr f;have r:x<t.heap.size:=(by obtain⟨a0,a2,a3,_,_,b⟩:=c;obtain⟨_,B⟩:=b (by omega);obtain⟨b,C⟩:∃b,(gA (nE s.late))[0]? = some b:=gx (by rw[nA];omega);exact xF t _ (B 0 b C));have⟨a1,b1⟩:=hh2 (aOP j c (λt=>by have:=y.o x t;omega) r (by omega) Q) f;have t:∃b,b=z:=⟨_,rfl⟩;clear j f c A r t u q;go_wp2_with fail;refine a1.o.mono ?_;rintro e r ⟨rfl,j⟩;have f:=wD.comp (b1.o.mono (T:=pfp g lg k i L) (by simp)) (λ_ G=>Ii G) j;have z:Hid ((s.append (nE s.late)).1.late=s.late):=lh (aJn _ _);obtain⟨b,q⟩:=nm (s.append (nE s.late));rw[<- q]at f p z⊢;obtain⟨t,c⟩:=b;simp only at f p z⊢;obtain⟨M,b,x,y⟩:=f;have⟨b3,b5,b6⟩:=hh3 b x y;have A:=b.blk.a 6;have B:=b.blk.free;clear j a1 q;by_cases H:c=0
  ·subst H;have f:=p.o;rw[eA (by simp)]at f;have W:=lh f;have u:=b.blk.a 4;have I:=b.blk.a 5;have q:li t.held<=100000:=(by have:=b.hok.few;have:=b.few;omega);have C:li t.late<=100000:=(by have:=b.lok.few;have:=b.few;omega);clear f p b x y A B;go_wp2_with fail;refine aj (λj=>j.cell? ⟨g,4,none⟩=some (.map (some k))/\j.cell? ⟨g,5,none⟩=some (.map (some i))) [0,1,2,3,4,5,6,7] ?_;refine tks [0,1,2,3,4,5,6,7] ?_;iterate 8 (refine ac ⟨u,I⟩ ?_)
   refine tke ?_;refine ag 8 λK hK=>?_;have J:Fr [] r r.drew:=(jj [] r).drew;have j:=b3.o.fr J;refine kA (l:=[.tmp 39,.tmp 43]) rfl [.map (some i),.map (some k)] rfl (aJo _) ((aQJ j.held j.late (λe=>j.ne e.symm) q C).mono ?_);rintro e C ⟨rfl,N,E⟩;have q:=j.held_ N E (j.hok.merge j.lok.mem);have B:C.cell? ⟨g,4,none⟩=some (.map (some k))/\C.cell? ⟨g,5,none⟩=some (.map (some i)):=⟨q.blk.a 4,q.blk.a 5⟩;refine⟨_,rfl,hK _ _ (λ_=>B) ?_⟩;simp only[nrm];refine wd ?_ _;have Z:=B.1;obtain⟨O,U,V,F,X⟩:=q.late.clear 0;have R:∀m,(Builtin.clear_ #[83] m #[.map (some k)]).run prog C=.ok (tl #[]) O:=λm=>U;have HX:Hid (aAg w g d lg k i s L (iz (ii ip 0)) O):=lh (by unfold aAg;rw[W.o];have m:=q.late_ V F (tH.nil _);rw[<- z.o];refine⟨rfl,wD.comp b5.o b6.o ⟨M,m,((jj _ r).drew.trans (E.mono (T:=pfp g lg k i M) (λz m=>Ii (by simp only[xA]at m;simp[pfp,m]))) (λz m=>Ii m)).trans F (λz m=>Ii (by simp only[xA]at m;simp[pfp,m])),λ_ G=>Ii G⟩⟩);clear U V F X q N E j J B u I hK;go_wp2_with fail;exact HQ.o _ _ HX.o
  have j:=b.setBr (t.br || (c !=5&&c !=4));have f:=p.o;rw[iA (by simpa using H)]at f;have HX:Hid (aAg w g d lg k i s L (iz (ii ip c)) (r.setCell ⟨g,6,none⟩ (ij (t.br || (c !=5&&c !=4))))):=lh (by unfold aAg;rw[f];exact⟨rfl,wD.comp x y j⟩);have m:(c !=0)=true:=(by rw[nJ];exact H);clear b x y j f p;have u1:∀v,¬(some undef=some (ij v)):=λv=>(by simp[undef]);cases b:t.br with
  | true=>rw[b]at HX A;simp only[Bool.true_or]at HX;go_wp2_with fail;exact HQ.o _ _ HX.o
  | false=>
   rw[b]at HX A;simp only[Bool.false_or]at HX;by_cases b:c=5;·subst b;simp at HX;go_wp2_with fail;exact HQ.o _ _ HX.o
   have f:(c !=5)=true:=(by rw[nJ];exact b);rw[f]at HX;simp only[Bool.true_and]at HX;generalize hb4:(c !=4)=b at *;go_wp2_with fail;exact HQ.o _ _ HX.o
structure aCA (s:PS):Prop where
 dead:s.D.dead=false
 pend:s.D.P=[]
 fit:s.l.n+8*s.n<=s.D.S.length
theorem fG.calm{c:Nat}{s:PS}{C:Nat->List UInt8}(h:fG c s C):aCA s:=⟨h.dead,h.pend,h.fit⟩
def aNp (w:World) (b:List UInt8) (e:Ending) (w':World):Prop:=∃v gb,e=.returned (.tuple #[v,.int .i64 0])/\dA w' v b gb/\w.heap.size<=gb/\Fr [] w w'
def aAh (S:List (List UInt8)) (log k i:Nat):List UInt8:=((S.drop (log+8*k)).take i).flatten
theorem aOQ{S:List (List UInt8)}{log k i:Nat}(b:∀s∈S,li s=64)(h:log+8*k+i<=li S):li (aAh S log k i)=64*i:=by unfold aAh;rw[aDC (λs c=>b s (pJ (yM c))),pB,vB];omega
theorem aLX{S:List (List UInt8)}{log k i:Nat}(h:log+8*k+i<li S):aAh S log k (i+1)=aAh S log k i++S.getD (log+8*k+i) []:=by unfold aAh;rw[jR (by rw[vB];omega),List.flatten_append,List.getElem_drop];simp[List.getD,kE h]
def aTX (w:World) (S:List (List UInt8)) (log k:Nat) (v6 v10:Value) (wr:World):Prop:=
 ∃i:Nat,i<=8/\v10=.int .i64 (i:Int)/\wr.ownsRow 0 5 1 v6 (64*i) (gA (aAh S log k i))/\(∀x,v6.ownBlock=some x->w.heap.size<=x)/\Fr [] w wr
theorem Z7{P:Prop} (h:P:=by
 go_wp2_with fail
 go_roundw
 case rel=>exact HX.o
 case measure=>simp[intOf];omega):P:=h
theorem aUt{w:World}{g d lg:Nat}{s:PS}(h:qF w g d lg j m s L)(Y:aCA s)(k:Nat)(a0:k<s.n): Calls prog 129 #[pi g,k] w (aNp w (pH s.D.S s.l.n k)):=by
 refine cA λR H=>?_;have p:=lh h;have b:=h.jn.disk.ok;have I:=b.most;have J:=Y.fit;have v:=b.sec;have M:=h.few;go_enter func129,ntmps129;go_wp2_with fail;go_loopw [6,10] (aTX w s.D.S s.l.n k) (λ_ f _=>8-(intOf f).toNat);·exact⟨0,by omega,rfl,by unfold aAh;rw[yI];exact gD _ _ _ _,by simp[Value.ownBlock],jj _ _⟩
 obtain⟨b,T,rfl,r,t,i⟩:=hrel;obtain⟨y,z,rfl,U,_⟩:=jA r;have c:=p.o.fr i;have q:=c.blk.a 0;have u:=c.blk.a 3;by_cases Z:b<8
 ·have N:Wi ip (8*(k:Int))=8*(k:Int):=ak;have O:Wi ip ((s.l.n:Int)+8*(k:Int))=(s.l.n:Int)+8*(k:Int):=ak;have Q:Wi ip ((s.l.n:Int)+8*(k:Int)+(b:Int))=(s.l.n:Int)+8*(k:Int)+(b:Int):=ak;go_wp2_with fail;refine aj (λp=>p.cell? g=some (pi d)/\p.cell? ⟨g,3,none⟩=some (ii ip (s.l.n:Int))) [0,1,2,3,4,5,6,7,8,9,10,11,12,14,15,16] ?_;refine tks [0,1,2,3,4,5,6,7,8,9,10,11,12] ?_;iterate 13 (refine ac ⟨q,u⟩ ?_)
  refine tke ?_;refine ag 13 λK hK=>?_;have x:Fr [] wr wr.drew:=(jj [] wr).drew;refine kA (l:=[.tmp 17,.tmp 26]) rfl [pi d,ii ip ((s.l.n:Int)+8*(k:Int)+(b:Int))] rfl (aDO _) ((aNc (c.jn.disk.fr x) ((s.l.n:Int)+8*(k:Int)+(b:Int))).mono ?_);rintro e p ⟨f,B,rfl,V,W,A,C,_⟩;have q:s.D.readE ((s.l.n:Int)+8*(k:Int)+(b:Int))=0:=(by unfold DM.readE;rw[Y.dead,eA (by simp),eA (by omega)]);have f:s.D.read ((s.l.n:Int)+8*(k:Int)+(b:Int))=s.D.S.getD (s.l.n+8*k+b) []:=by unfold DM.read;rw[iA q,show((s.l.n:Int)+8*(k:Int)+(b:Int)).toNat=s.l.n+8*k+b by omega];unfold DM.look;rw[Y.pend];rfl
  obtain⟨rfl,u⟩:=C q;rw[f]at u;have f:Fr [] wr p:=x.trans A;have x:=c.fr f;have c:p.cell? g=some (pi d)/\p.cell? ⟨g,3,none⟩=some (ii ip (s.l.n:Int)):=⟨x.blk.a 0,x.blk.a 3⟩;rw[q];refine⟨_,rfl,hK _ _ (λ_=>c) ?_⟩;simp only[nrm];refine tks [14,15,16] ?_;iterate 3 (refine ac c ?_)
  refine tke ?_;refine af 17 (λ_=>c) ?_;refine af 18 (λ_=>c) ?_;refine wd ?_ _;obtain⟨q,c⟩:=nm (s.D.S.getD (s.l.n+8*k+b) []);rw[<- c]at u;have x:li q=64:=(by rw[c,List.getD,kE (by omega:s.l.n+8*k+b<li s.D.S),fV];exact v _ (List.getElem_mem _));have A:=lh u;have u:=fB r f (by simp);go_upto_region 9 with fail;refine sB ?_;iterate 2 (refine ab ?_)
  obtain⟨X,C,E,F,G⟩:=info_parts nT;refine lp λK hK=>fC (.tmp 36) (.tmp 37) rfl 5 1 1 Go.Proofs.Tryz.underlying67 C E F G rfl (by omega) (si y (64*b) z) (64*b) (gA (aAh s.D.S s.l.n k b)) rfl u ⟨B,0,none⟩ 64 64 (gA q) rfl (by rw[nA,x]) (λj C q=>by rw[Go.Addr.add_mid,nB];exact A.o.at_ q) (mD _) (by omega) (by unfold maxLen;omega) (by omega) p rfl λp q u x A B E=>hK _ _ ?_;simp only[nrm];refine ab ?_;refine wB ?_;have HX:Hid (aTX w s.D.S s.l.n k (si p (64*b+64) q) (ii ip ((b:Int)+1)) u):=lh (by
   refine⟨b+1,by omega,by go_num,?_,?_,?_⟩;·rw[aLX (by omega),fD,<- c];exact x
   ·intro p c;simp[Value.ownBlock]at c;subst c;obtain h|h:=B
    ·exact t _ h
    have:=(i.trans f).size;omega
   exact(i.trans f).trans A (λp c=>Ij (t p (by simpa using c))))
  exact Z7
 obtain rfl:b=8:=(by omega);have HX:Hid (∃b,dA wr (si y (64*8) z) (pH s.D.S s.l.n k) b/\w<=b):=lh (by have h:=r;have c:li (aAh s.D.S s.l.n k 8)=64*8:=aOQ v (by omega);rw[<- c]at h⊢;exact jM h (by rw[c];exact t));go_wp2_with fail;obtain⟨b,c,f⟩:=HX.o;exact H.o _ _ ⟨_,b,rfl,c,f,i⟩
theorem aLY(a b:Nat)(w:World):(Instr.buildSlice 220 2 #[(0,.map (some a)),(1,.map (some b))]).run prog w=.ok (si w 2 2) (w.alloc (iy #[.map (some a),.map (some b)] 83)):=by kernel_rfl
theorem aJp(q:Nat)(W:World):(Instr.sliceAt 127 (pi q) none none none).run prog W=.ok (si q 512 512) W:=by kernel_rfl
def PS.page (s:PS) (k:Nat):List UInt8:=(kG s.late k).getD ((kG s.held k).getD (pH s.D.S s.l.n k))
theorem fG.page_eq{c:Nat}{s:PS}{C:Nat->List UInt8}(h:fG c s C){k:Nat}(b:k<s.n):s.page k=aLK C s.late k:=by unfold PS.page aLK;rw[h.cont k b]
def aTY (w2:World) (s:PS) (k:Nat) (v34:Value) (wr:World):Prop:=
 ∃j:Nat,j<=2/\v34=.int .i64 (j:Int)/\(0<j->kG s.late k=none)/\(1<j->kG s.held k=none)/\Fr [] w2 wr
theorem aUu{w:World}{g d lg:Nat}{s:PS}(h:qF w g d lg i m s L)(Y:s.br=false)(c:aCA s)(k:Nat)(Q:k<s.n): Calls prog 94 #[pi (some ⟨g,0,none⟩),ii ip (k:Int)] w (aNp w (s.page k)):=by
 refine cA λX I=>?_;have q:=lh h;have T:=h.few;have b:=aHM h;rw[Y]at b;have⟨Z,HC⟩:=hh2 b c;have A:=h.blk.a 2;have t:=h.blk.a 4;have u:=h.blk.a 5;clear h b c Y;go_enter func94,ntmps94;go_wp2_with fail;refine Z.o.mono ?_;rintro e w' ⟨rfl,rfl⟩;go_wp2_with fail;refine aj (λW=>W.cell? ⟨g,4,none⟩=some (.map (some i))/\W.cell? ⟨g,5,none⟩=some (.map (some m))) [0,1,2,3,4,5,6,7,9,10] ?_;refine tks [0,1,2,3,4,5,6,7,10] ?_;iterate 9 (refine ac ⟨t,u⟩ ?_)
 refine tke ?_;refine ag 8 λK hK=>?_;have x:Fr [] w w.drew:=(jj [] w).drew;have y:=aLY i m w.drew;have b:Fr [] w (w.drew.alloc (iy #[.map (some i),.map (some m)] 83)):=x.alloc _;have c:Blk (w.drew.alloc (iy #[.map (some i),.map (some m)] 83)) w.drew.heap.size 83 [.map (some i),.map (some m)]:=jl w.drew 83 _;have f:=q.o.fr b;have j:(w.drew.alloc (iy #[.map (some i),.map (some m)] 83)).cell? ⟨g,4,none⟩=some (.map (some i))/\(w.drew.alloc (iy #[.map (some i),.map (some m)] 83)).cell? ⟨g,5,none⟩=some (.map (some m)):=⟨f.blk.a 4,f.blk.a 5⟩;refine tB (v:=si (some ⟨w.drew.heap.size,0,none⟩) 2 2) (w':=w.drew.alloc (iy #[.map (some i),.map (some m)] 83)) (by simp[execOp,Act.eval,y,Result.andThen]) (hK _ _ (λ_=>j) ?_);simp only[nrm];refine tks [9] (ac j ?_);refine tke ?_;refine wd ?_ _;have z:w.drew.heap.size=w.heap.size:=rfl;rw[z]at c⊢;have⟨p,a0⟩:=hh2 b c;clear y f j hK x z b c t u A;generalize w.drew.alloc (iy #[.map (some i),.map (some m)] 83)=J at *;have U:=aJp;go_wp2_with fail;have b:decide ((k:Int)<0)=false:=by simp
 have c:decide (s.n<=k)=false:=by simp;omega
 simp only[b,c,Bool.or_self];go_loopw [34] (λv34 wr=>aTY J s k v34 wr) (λv _=>2-(intOf v).toNat);·exact⟨0,by omega,rfl,λh=>absurd h (by omega),λh=>absurd h (by omega),jj _ _⟩
 obtain⟨c,V,rfl,f,j,b⟩:=hrel;have t:=q.o.fr (p.o.trans b);have⟨a3,H,H0,H1⟩:=hh4 t b f j;clear b f j;by_cases R:c<2
 ·have z:=a0.o.fr H.o;obtain⟨f,b,N,F,G,u,y⟩:∃f b,wr.cell? ⟨w.heap.size,c,none⟩=some (.map (some f))/\mF wr f b/\tH s.n b/\(kG b k=none->(0<c+1->kG s.late k=none)/\(1<c+1->kG s.held k=none))/\∀f,kG b k=some f->s.page k=f:=by
   obtain rfl|rfl:=(by omega:c=0∨c=1);·refine⟨i,s.late,z.a 0,t.late,t.lok,λh=>⟨λ_=>h,λh=>absurd h (by omega)⟩,λf q=>?_⟩;unfold PS.page;rw[q];rfl
   refine⟨m,s.held,z.a 1,t.held,t.hok,λh=>⟨λ_=>H0.o (by omega),λ_=>h⟩,λf q=>?_⟩;unfold PS.page;rw[H0.o (by omega),q];rfl
  have A:=F.look_ok (k:=k) (by omega);obtain⟨f,q⟩:=nm ((kG b k).getD jE);have E:li f=512:=by
   rw[q];cases x:kG b k with
   | none=>exact aM
   | some M=>exact(aJh G x).2
  obtain⟨O,C⟩:=nm ((kG b k).isSome);rw[<- q,<- C]at A;unfold fJ at A;have⟨HN,HS,B,HI,r⟩:=hh5 u y q C E;clear z t F G u y q C E;go_wp2_with (first
   | (with_reducible refine qA rfl 127 rfl (fJ jE) (gA jE).toArray aAd rfl ?_)
   | (with_reducible refine zA (W:=wr) rfl 127 (.tmp 8) (.tmp 42) rfl (gA f) rfl rfl rfl ?zi ?zl ?z1 ?_))
  case zi=>have h:=uT;simpa[nA,r.o]using h
  case zl=>show(gA jE).length=li (gA f);rw[nA,nA,aM,r.o]
  case z1=>exact mD _
  intro C q z E;have⟨a4,P⟩:=hh2 q z;clear q z A N;cases O with
  | true=>
   have q:w.heap.size<=wr.heap.size:=(by have:=(p.o.trans H.o).size;omega);go_wp2_with fail;refine I.o _ _ ⟨_,wr.heap.size,rfl,?_,q,((p.o.trans H.o).trans P.o)⟩;have y:=HS.o f (by
    have j:=HI.o;have f:=B.o;cases x:kG b k with
    | none=>rw[x]at j;cases j
    | some M=>rw[x]at f;rw[f];rfl)
   rw[y];have h:=dA.of_blk a4.o 512 (by rw[r.o];exact tA _);rw[r.o]at h;exact h
  | false=>
   have u:=HN.o (by
    have j:=HI.o;cases x:kG b k with
    | none=>rfl
    | some M=>rw[x]at j;cases j)
   have b:Hid (aTY J s k (ii ip ((c:Int)+1)) C):=lh ⟨c+1,by omega,by go_num,u.1,u.2,H.o.trans P.o⟩;clear u;go_wp2_with fail;go_roundw
   case rel=>exact b.o
   case measure=>simp[intOf];omega
 obtain rfl:c=2:=(by omega);have b:s.page k=pH s.D.S s.l.n k:=by unfold PS.page;rw[H0.o (by omega),H1.o (by omega)];rfl
 have⟨HH,a7⟩:=hh2 (aUt a3.o HC.o k Q) b;clear t b;go_wp2_with fail;refine HH.o.mono ?_;rintro e f ⟨v,j,rfl,b,q,c⟩;have B:Hid (aNp w (s.page k) (iz (tl #[v,ii ip 0])) f):=lh ⟨v,j,rfl,by rw[a7.o];exact b,by have:=(p.o.trans H.o).size;omega,(p.o.trans H.o).trans c⟩;clear b q c;go_wp2_with fail;exact I.o _ _ B.o
section
variable {P:Program}{ops:Array Oper}{Q:Exit->Act->World->Prop}{md:Region.Mode}{S:World->Prop}{I:List Nat}{l:Nat}
theorem aHO{row:String}{args:Array Value}{w:World}{R:Value->World->Prop}(h:Rows P row args w R):Go.RowsIn (Fence.wide.inRound l) n P row args w R:=λb c _=>let ⟨v,w',r,s⟩:=h b c;⟨v,w',r,stepsIn_wide.2 s⟩
theorem aEm{d:Oper}{a:Act}{w:World}{next:Act->World->Prop}(b:∀c,d.op≠.defer c)(h:d.wp P a w next Q):d.wpIn (Fence.wide.inRound l) n P a w next Q:=by
 refine⟨λ_ _=>trivial,?_⟩;have e:d.semAt (Fence.wide.inRound l).round a.eval=execOp a.eval d:=Oper.semAt_some l a.eval d b;rw[e];unfold Oper.wp at h;generalize (execOp a.eval d).run P w=d at *;cases d with
 | ok x w'=>
  cases x<;>simp only[Oper.upon,Oper.uponIn]at h⊢ <;>first
    | exact h
    | exact⟨λb=>(by cases b),uN.2 h⟩
    | exact⟨λb=>(by cases b),aHO h⟩
 | halt x w'=>cases x<;>simp only[Oper.upon,Oper.uponIn]at h⊢<;>exact h
def aAi (ops:Array Oper):Bool:=ops.all fun o=>match o.op with | .defer _=>false|_=>true
theorem aAj(h:aAi ops=true){i:Nat}{b:Oper}(d:ops[i]? = some b):∀c,b.op≠.defer c:=by intro c f;unfold aAi at h;rw[Array.all_eq_true_iff_forall_mem]at h;have:=h b (Array.mem_of_getElem? d);rw[f]at this;cases this
theorem pN(d:aAi ops=true)(f:∀a w,¬Q .outgrown a w):∀(b:Nat) (c:Array Bool) (a:Act) (w:World),wpAny P md ops Q b c a w->wpAnyIn (Fence.wide.inRound l) n P md ops Q b c a w
 | 0,_,_,_,h=>h
 | b+1,c,a,w,h=>by
  refine⟨h.1,λi j=>?_⟩;have g:=h.2 i j;unfold wpOp at g;unfold wpOpIn;cases j:ops[i]? with
  | none=>rw[j]at g;exact pN d f b _ _ _ g
  | some o=>
   rw[j]at g;simp only at g⊢;split
   ·rename_i i;rw[iA i]at g;obtain g|⟨_,k,m,g⟩:=g
    ·exact aEm (aAj d j) (Oper.wp_mono (λa w h=>pN d f b _ a w h) g)
    exact absurd g (f _ _)
   rename_i i;rw[eA i]at g;exact⟨λ_ _=>trivial,pN d f b _ _ _ g⟩
theorem aAk{j:Nat}(d:Option Tmp){i:Oper}{b:Array Bool}{a:Act}{w:World}(f:ops[j]? = some i)(g:i.dst=d)(c:Region.ready md ops b=[j])(m:Region.wanted i (yielded ops a.tmps)=true) (h:∀K:Act->World->Prop,(∀v w',(aP md ops I j=true->S w')->lG P md ops Q S I k (b.setIfInBounds j true) (a.put d v) w'->K (a.put i.dst v) w')->Oper.wp P i a w K Q): lG P md ops Q S I (k+1) b a w:=by
 subst g;refine⟨λi=>absurd (c▸i) (by simp),λl i=>?_⟩;rw[c]at i;obtain rfl:l=j:=by simpa using i
 refine wpOp_step f λK hK=>?_;rw[iA m];exact h K (λv w' i l=>hK _ w' ⟨i,l⟩)
theorem jQ(S:World->Prop)(f:List Nat){a:Act}{w:World}(b:P.follows .mixedOrders=true)(c:aAi ops=true)(d:∀a w,¬Q .outgrown a w) (h:lG P .any ops Q S f ops.size (Array.replicate ops.size false) a w.drew):(Code.region k ops true).wpIn (Fence.wide.inRound l) n P Q a w:=wpIn_region_any b (pN c d _ _ _ _ (uY _ _ _ _ h))
theorem lM(S:World->Prop)(c:List Nat){a:Act}{w:World}(b:P.follows .mixedOrders=true) (h:lG P .any ops Q S c ops.size (Array.replicate ops.size false) a w.drew):(Code.region k ops true).wpIn Fence.wide n P Q a w:=wpIn_wide.2 (mA S c b h)
end
end
section
open Go.RowKit Go.Shelf
attribute [local go_sem] Oper.semAt_some
theorem aEn(A:Option Addr)(n c lo hi:Nat)(h1:lo<=hi)(h2:hi<=c)(w:World): (Instr.sliceAt 67 (si A n c) (some (ii ip (lo:Int))) (some (ii ip (hi:Int))) (some (ii ip (hi:Int)))).run prog w=.ok (si (if hi=lo then A else A.map (·.add lo)) (hi-lo) (hi-lo)) w:=by
 have ht:=Go.Proofs.Tryz.underlying67;have b:prog.elem 67=5:=by simp[Program.elem,ht]
 obtain⟨i,f,g⟩:=mI.1 iM;have d:∀w,(sizeOf 5).run prog w=.ok 1 w:=λw=>by simp[sizeOf,typeInfo,go_sem,f,g]
 rw[Go.run_sliceAt_slice (h:=by rw[b];exact ht),run_slice_lhm (ht:=by rw[b];exact ht) (h0:=by omega) (h1:=by omega) (h2:=by omega) (h3:=by omega),b,d];simp[Result.andThen,sliced]
def iK (Bs Bn:Nat) (W W':World):Prop:=W'.cell? ⟨Bs,0,none⟩=W.cell? ⟨Bs,0,none⟩/\W'.cell? ⟨Bn,0,none⟩=W.cell? ⟨Bn,0,none⟩
theorem iK.trans{A B C:World}(h:iK n i A B)(k:iK n i B C):iK n i A C:=⟨k.1.trans h.1,k.2.trans h.2⟩
def chV (g off k:Nat):Value:=.slice (some ⟨g,off+514*k,none⟩) 514 514
def uL (m k:Nat):List (Fin m):=(List.finRange m).take k
theorem xV{m k:Nat}(h:k<m):uL m (k+1)=uL m k++[⟨k,h⟩]:=by unfold uL;rw[jR (by simpa using h)];simp
theorem yY{m k:Nat}(h:k<=m):li (uL m k)=k:=by simp[uL,h]
theorem aOR(n l f j g off m cap:Nat)(A:Option Addr)(P:0<m->A=some ⟨g,off,none⟩)(C:514*m<=cap)(G:m<=100000)(X:1<=n)(c L:List (Fin m)->World->Prop) (Q:∀pre (x:Fin m) W,c pre W->li pre<m->YieldAt Fence.wide (n-1) prog l #[chV g off x.1] W λe b=>
   (e=iz (ij true)/\c (pre++[x]) b/\iK f j W b)∨(e=iz (ij false)/\L (pre++[x]) b))
 (D:∀pre W,c pre W->c pre W.drew)
 (W:World)(E:W.cell? f=some (si A (514*m) cap))(F:W.cell? j=some (ii ip 514))(h0:c [] W): CallsIn Fence.wide n prog 115 #[.func (.yield l) #[] #[],pi f,pi j] W λe b=>(∃v,e=iz v) /\((∃ys,ys=List.finRange m/\c ys b)∨(∃pre,True/\L pre b)):=by
 refine callsIn_of_wp func115 rfl trivial ?_ rfl;simp only[ntmps115,uU,bD,qP,Nat.reduceAdd,Nat.reduceSub,Array.replicate_succ,aBh,aBi,aBj,nG,lI]
 gi_wp2
 gi_loopw [4] (λd wr=>∃b:Nat,b<=m/\d=ii ip ((514*b:Nat):Int)/\c (uL m b) wr/\wr.cell? f=some (si A (514*m) cap)/\wr.cell? j=some (ii ip 514)) (λd _=>514*m-(intOf d).toNat)
 ·exact⟨0,uB _,rfl,h0,E,F⟩
 ·obtain⟨b,h,rfl,o,c,d⟩:=hrel;by_cases i:b<m
  ·obtain⟨t,u,y,z,k,q⟩:=Q _ ⟨b,i⟩ wr.drew (D _ _ o) (by rw[yY h];exact i);unfold chV at k;obtain rfl:=P (by omega);have h:=xH Go.Proofs.Tryz.underlying67 iM (some ⟨g,off,none⟩) (514*m) cap (514*b) ip (by omega);rw[eA (by omega)]at h;simp only[tO,Go.Addr.add_mid]at h;have r:∀(k:Array TypeId) (p:TypeId) (W:World),(Builtin.min_ k p #[ii ip 514,ii ip ((514*m-514*b:Nat):Int)]).run prog W=.ok (ii ip 514) W:=λk p W=>by
    rw[run_min_int2,eA (by omega)]
   have s:Wi ip (((514*b:Nat):Int)+514)=((514*(b+1):Nat):Int):=ak;have k:=aEn (some ⟨g,off,none⟩) (514*m) cap (514*b) (514*(b+1)) (by omega) (by omega);rw[eA (by omega),show 514*(b+1)-514*b=514 by omega]at k;simp only[tO,Go.Addr.add_mid]at k;gi_wp2;refine lM (λW=>W.cell? f=some (si (some ⟨g,off,none⟩) (514*m) cap)/\W.cell? j=some (ii ip 514)) [0,1,2,3,4,5] (by kernel_rfl) ?_;refine tks [0,1,2] ?_;iterate 3 (refine ac ⟨c,d⟩ ?_)
   refine tke ?_;refine tv 3 (si (some ⟨g,off+514*b,none⟩) (514*m-514*b) (cap-514*b)) rfl rfl ⟨c,d⟩ (Ii ⟨rfl,λW _=>gH rfl rfl rfl rfl (h W)⟩) ?_;simp only[nrm];refine tks [4,5] ?_;iterate 2 (refine ac ⟨c,d⟩ ?_)
   refine tke ?_;refine af 6 (λh=>absurd h (by decide +kernel)) ?_;refine wd ?_ _;have h:wr.drew.cell? f=some (si (some ⟨g,off,none⟩) (514*m) cap):=c;have k:wr.drew.cell? j=some (ii ip 514):=d;gi_wp2;refine q.mono ?_;rintro e B (⟨rfl,p,c⟩|⟨rfl,q⟩)
   ·have d:=c.1.trans h;have h:=c.2.trans k;gi_wp2;go_roundw
    case rel=>exact⟨b+1,by omega,by go_num,by rw[xV i];exact p,d,h⟩
    case measure=>simp[intOf];omega
   gi_wp2;refine qD (results_none rfl _ _ _) rfl ?_;exact⟨⟨_,rfl⟩,Ij ⟨_,trivial,q⟩⟩
  obtain rfl:b=m:=(by omega);gi_wp2;go_end0;exact⟨⟨_,rfl⟩,Ii ⟨_,by unfold uL;rw[zF (by simp)],o⟩⟩
theorem aLZ(W:World):W.grownBy W.drew none:=⟨rfl,rfl,rfl,tA _,λ_ _ _=>rfl⟩
theorem vT{w W:World}{b:Nat}{v:Value}(h:w.cell? b=some v)(c:Below w w W):W.cell? b=some v:=(c.cell (p:=⟨b,0,none⟩) (xF w _ h)).trans h
theorem aJq(n c d g off m cap:Nat)(A:Option Addr)(j:0<m->A=some ⟨g,off,none⟩)(b:514*m<=cap)(k:m<=100000)(u:1<=n)(w:World) (f:w.cell? c=some (si A (514*m) cap))(i:w.cell? d=some (ii ip 514)): SeqStopsK Fence.wide n prog 115 #[pi c,pi d] (λh:Fin m=>#[chV g off h.1]) (iK c d) (λh=>h=List.finRange m) (λ_=>True) m w:=λo p q h l r _ s t=>aOR n o c d g off m cap A j b k u p q s (λo h p=>r o h h.drew none p (aLZ h) (by simp)) h (vT f l) (vT i l) t
theorem aOS(A:Option Addr)(n c:Nat)(w:World):Calls prog 82 #[si A n c,ii ip 514] w λe b=>
  e=iz (.func (.func 115) #[] #[pi w,pi (some (w.heap.size+1:Nat))])/\b=(w.alloc (iy #[si A n c] 67)).alloc (iy #[ii ip 514] 3):=by
 refine cA λd b=>?_
 go_enter func82,ntmps82
 go_wp2_with fail;exact b.o _ _ ⟨rfl,rfl⟩
def atC (b:List UInt8) (k:Nat):Nat:=nD ((b.drop (514*k)).take 2)
def pgC (b:List UInt8) (k:Nat):List UInt8:=(b.drop (514*k+2)).take 512
theorem aJr(b:List UInt8)(k:Nat):atC (b.drop 514) k=atC b (k+1):=by unfold atC;rw[List.drop_drop,show 514+514*k=514*(k+1) by omega]
theorem aQL(b:List UInt8)(k:Nat):pgC (b.drop 514) k=pgC b (k+1):=by unfold pgC;rw[List.drop_drop,show 514+(514*k+2)=514*(k+1)+2 by omega]
theorem zX{n:Nat}:∀(m:Nat) (b:List UInt8) (h H:PgM),li b=514*m->bP n m b h=some H ->(∀c,c<m->atC b c<n)/\H=(List.range m).foldl (λh c=>pR h (atC b c) (pgC b c)) h
 | 0,b,h,H,_,e=>⟨λc f=>absurd f (by omega),by injection e with e;exact e.symm⟩
 | m+1,b,h,H,hl,e=>by
  have d:b≠[]:=λg=>by rw[g]at hl;simp at hl
  unfold bP at e;rw[eA d]at e;split at e;·cases e
  rename_i k;obtain⟨i,j⟩:=zX m (b.drop 514) _ H (by rw[vB];omega) e;have d:atC b 0=nD (b.take 2):=(by unfold atC;simp);have g:pgC b 0=(b.drop 2).take 512:=(by unfold pgC;simp);refine⟨λc f=>?_,?_⟩
  ·cases c with
   | zero=>rw[d];omega
   | succ c=>rw[<- aJr];exact i c (by omega)
  rw[j,List.range_succ_eq_map,aAT,List.foldl_map,d,g];simp only[aJr,aQL]
def yV {m:Nat} (b:List UInt8) (h:PgM) (pre:List (Fin m)):PgM:=pre.foldl (fun h x=>pR h (atC b x.1) (pgC b x.1)) h
theorem aEo{m:Nat}(b:List UInt8)(h:PgM)(c:List (Fin m))(x:Fin m):yV b h (c++[x])=pR (yV b h c) (atC b x.1) (pgC b x.1):=by simp[yV]
theorem aCh{m:Nat}(b:List UInt8)(h:PgM):∀c,c<=m->yV b h (uL m c)=(List.range c).foldl (λh c=>pR h (atC b c) (pgC b c)) h
 | 0,_=>rfl
 | c+1,hk=>by rw[xV (by omega),aEo,aCh b h c (by omega),List.range_succ,List.foldl_append];rfl
theorem aOT{m:Nat}(b:List UInt8)(h:PgM):yV b h (List.finRange m)=(List.range m).foldl (λh c=>pR h (atC b c) (pgC b c)) h:=by rw[<- aCh b h m (tA _)];unfold uL;rw[zF (by simp)]
theorem aJs{n m:Nat}{b:List UInt8}{h:PgM}(g:li b=514*m)(f:∀k,k<m->atC b k<n)(c:tH n h)(i:List (Fin m)):tH n (yV b h i):=by
 unfold yV;induction i generalizing h with
 | nil=>exact c
 | cons d i i=>rw[aAT];exact i (c.put (f d.1 d.2) (by have:=d.2;unfold pgC;rw[pB,vB];omega))
attribute [local go_sem] Oper.semAt_some
def RyRes (w:World) (g d lg bl bh:Nat) (s:PS) (fp:List Nat) (H:PgM) (e:Ending) (w':World):Prop:=
 e=.returned (.int .i64 0)/\wD w w' g d lg bl bh { s with held:=H } fp
theorem Z70{P:Prop} (h:P:=by
 have h1:∀ b,b < wl.heap.size -> (W.putObj l o').cell? ⟨b,0,none⟩=W.cell? ⟨b,0,none⟩:=fun b hb=>by
  unfold World.cell?;rw[World.putObj_heap_other (show b ≠ l by omega)]
 exact⟨h1 _ (by omega),h1 _ (by omega)⟩):P:=h
theorem aQM{w:World}{g d lg f:Nat}{s:PS}{v:Value}{b:List UInt8}{H:PgM}(h:qF w g d lg i t s L)(hv:dA w v b f)(e1:f≠t)(e7:li b<=4194304)(ht:nL s.n b s.held=some H):
  Calls prog 51 #[pi (some ⟨g,0,none⟩),v] w (RyRes w g d lg i t s L H):=by
 obtain⟨m,S⟩:∃m,li b=514*m:=⟨li b / 514,by
  unfold nL at ht
  split at ht
  ·cases ht
  ·omega⟩
 have a0:bP s.n m b s.held=some H:=by
  unfold nL at ht;rw[eA (by omega),S,Nat.mul_div_cancel_left _ (by omega)]at ht;exact ht
 obtain⟨b9,hH⟩:=zX m b _ _ S a0;rw[<- aOT (m:=m)]at hH;obtain⟨A,c,off,rfl,hc,U⟩:=hv;rw[S]at hc⊢;have HA:=lh h;have a4:=lh b9;have HH:=lh hH;have a':=lh U;clear h b9 hH U ht a0;refine(uN (n:=5)).1 ?_;refine callsIn_of_wp_marks func51 rfl trivial ?_ rfl;simp only[ntmps51,uU,bD,qP,Nat.reduceAdd,Nat.reduceSub,Array.replicate_succ,aBh,aBi,aBj,nG,lI]
 gi_wp2_with (refine⟨trivial,?_⟩;gi_at_call 82;refine(uN.2 (aOS A (514*m) c _)).mono ?_;rintro e w' ⟨rfl,rfl⟩)
 obtain⟨wl,B⟩:=nm ((((w.alloc (iy #[pi (some ⟨g,0,none⟩)] 31)).alloc (iy #[ii ip 0] 27)).alloc (iy #[si A (514*m) c] 67)).alloc (iy #[ii ip 514] 3));have cP:Boxed wl w.heap.size 31 (pi (some ⟨g,0,none⟩)):=by rw[B];exact(((Boxed.new w _ _).alloc _).alloc _).alloc _
 have cE:Boxed wl (w.heap.size+1) 27 (ii ip 0):=by rw[B];have:=(((Boxed.new (w.alloc (iy #[pi (some ⟨g,0,none⟩)] 31)) 27 (ii ip 0)).alloc (iy #[si A (514*m) c] 67)).alloc (iy #[ii ip 514] 3));rwa [qB]at this
 have cB:Boxed wl (w.heap.size+1+1) 67 (si A (514*m) c):=by rw[B];have:=((Boxed.new ((w.alloc (iy #[pi (some ⟨g,0,none⟩)] 31)).alloc (iy #[ii ip 0] 27)) 67 (si A (514*m) c)).alloc (iy #[ii ip 514] 3));rwa [qB,qB]at this
 have cN:Boxed wl (w.heap.size+1+1+1) 3 (ii ip 514):=by rw[B];have:=(Boxed.new (((w.alloc (iy #[pi (some ⟨g,0,none⟩)] 31)).alloc (iy #[ii ip 0] 27)).alloc (iy #[si A (514*m) c] 67)) 3 (ii ip 514));rwa [qB,qB,qB]at this
 have a5:Fr [] w wl:=by rw[B];exact((((jj [] w).alloc _).alloc _).alloc _).alloc _
 have e3:wl.heap.size=w.heap.size+1+1+1+1:=by rw[B];simp
 rw[<- B];clear B;have b0:=lh a5;have HP:=lh cP;have HE:=lh cE;have HB:=lh cB;have HN:=lh cN;have J:=lh (HA.o.fr a5);have e2:t<w.heap.size:=HA.o.held.lt;have c3:mF wl t s.held:=J.o.held;clear a5 cP cE
 refine wpIn_rangeFunc_ownG (F:=Fence.wide) (n:=5) rfl (by omega) (gf:=115) (lb:=#[pi (some ⟨w.heap.size+1+1,0,none⟩),pi (some ⟨w.heap.size+1+1+1,0,none⟩)]) rfl trivial (enters_of func115 (by kernel_rfl) rfl)
  (aJq 4 (w.heap.size+1+1) (w.heap.size+1+1+1) f off m c A (λh=>(a'.o (by omega)).1) hc (by omega) (by omega) wl cB.cell cN.cell) iK.trans ?_ (Below.refl _ _) (λ_=>rfl)
  (λpre W=>mF W t (yV b s.held pre)/\Fr [t] wl W) (λ_ _ _=>False) ?_ (λ_ _ _ _ _ hs _ _=>hs) ⟨c3,jj _ _⟩
  (λx=>{ tmps:=#[pi (some ⟨g,0,none⟩),si A (514*m) c,pi (some ⟨w.heap.size,0,none⟩),undef,pi (some ⟨w.heap.size+1,0,none⟩),chV f off x.1,undef,si A (514*m) c,ii ip (514*(m:Int)),ii ip 0,ij false,si A (514*m) c,
   .func (.func 115) #[] #[pi (some ⟨w.heap.size+1+1,0,none⟩),pi (some ⟨w.heap.size+1+1+1,0,none⟩)],chV f off x.1,undef,undef,undef,undef,undef,undef,undef,undef,undef,undef,undef,undef,undef,undef,undef,undef,undef,undef,undef,undef,undef,undef,undef,undef,undef],defers:=[] }) ?_ ?_ ?_ ?_
 ·intro W l o o' hl ho _ _
  exact Z70
 ·intro s' W W' row hs hg hr;have I:Fr row.toList W W':=(jj row.toList W).grown hg (λr e=>Ii (by simp[e]));refine⟨hs.1.fr I (λS=>?_),hs.2.grown hg (λr e=>Ij (hr r e).1)⟩;have:=(hr t (by simpa using S)).1;omega
 ·intro l x W K hK
  gi_wp2
  exact hK
 ·rintro l pre x W ⟨G,I⟩ e6;unfold chV;have c9:=x.2;obtain⟨e0,a9⟩:=a'.o (by omega)
  have c':f<w.heap.size:=by
   obtain⟨u,C⟩:∃u,(gA b)[0]? = some u:=gx (by rw[nA];omega);exact xF w _ (a9 0 u C)
  have a6:Fr [t] w W:=(b0.o.mono (T:=[t]) (by simp)).trans I (λx E=>Ii E)
  have V:∀(j:Nat) (u:Value),(gA b)[j]? = some u->W.cell? ⟨f,off+j,none⟩=some u:=λj u C=>by
   rw[a6.cell (by exact c') (by simpa using e1)];exact a9 j u C
  obtain⟨u,C⟩:∃u,b[514*x.1]? = some u:=gx (by omega);obtain⟨v,hv⟩:∃v,b[514*x.1+1]? = some v:=gx (by omega);have cu:W.cell? ⟨f,off+514*x.1,none⟩=some (ii ix (u.toNat:Int)):=V _ _ (by simp[gA,C,B8])
  have cv:W.cell? ⟨f,off+514*x.1+1,none⟩=some (ii ix (v.toNat:Int)):=by
   have:=V (514*x.1+1) _ (by simp only[gA,wI,hv];rfl);rw[<- yP]at this;exact this
  have a1:atC b x.1=u.toNat*256+v.toNat:=by
   unfold atC
   have e:(b.drop (514*x.1)).take 2=[u,v]:=by
    obtain⟨h1,h2⟩:=uC.1 C;obtain⟨h3,h4⟩:=uC.1 hv;rw[xM h1,oH,xM h3,oH,yI,h2,h4]
   rw[e]
   simp[nD]
  have d0:u.toNat<256:=u.toNat_lt;have d1:v.toNat<256:=v.toNat_lt;have a7:=aLB u.toNat v.toNat d0 d1;rw[<- a1]at a7;have d2:=a4.o x.1 c9;have X:qF W g d lg i t { s with held:=yV b s.held pre } L:=J.o.held_ G I (aJs S a4.o J.o.hok _);have b4:=lh a7;have HM:=lh G;have HF:=lh I;have d3:=lh V;have d4:=lh X;have e4:=lh a6;have hP:Boxed W w.heap.size 31 (pi (some ⟨g,0,none⟩)):=(I.block _ (by omega) (by simp only[xA];omega)).trans HP.o;have cP:=hP.cell;have c2:=X.blk.a 2;have c5:=X.blk.a 5;have e5:=I.size;clear a7 G I V X a6 hP C hv a1 a9 e0
  gi_wp2
  refine jQ (λW=>W.cell? ⟨f,off+514*x.1,none⟩=some (ii ix (u.toNat:Int))/\W.cell? ⟨f,off+514*x.1+1,none⟩=some (ii ix (v.toNat:Int))) [0,1,2,3,4,5,6,7,8,9] (by kernel_rfl) (by kernel_rfl) (λ_ _ h=>h) ?_;refine tks [0,1,2,3,4,5,6,7,8,9] ?_
  iterate 10 (refine ac ⟨cu,cv⟩ ?_)
  refine tke ?_;refine af 10 (λh=>absurd h (by decide +kernel)) ?_;refine wd ?_ _;have y1:Wi ip (u.toNat:Int)=(u.toNat:Int):=ak
  have y2:Wi ip ((u.toNat:Int)*256)=(u.toNat:Int)*256:=ak
  have y3:Wi ip (v.toNat:Int)=(v.toNat:Int):=ak
  rw[y1,y2,y3,b4.o];have a8:Fr [] W W.drew:=(jj [] W).drew;have N:W.drew.cell? ⟨w.heap.size,0,none⟩=some (pi (some ⟨g,0,none⟩)):=cP;have d5:W.drew.cell? ⟨g,2,none⟩=some (ii ip (s.n:Int)):=c2;have O:W.drew.cell? ⟨g,5,none⟩=some (.map (some t)):=c5;have a2:∀(j:Nat) (u:Value),(gA b)[j]? = some u->W.drew.cell? ⟨f,off+j,none⟩=some u:=d3.o;have y:=lh a2;have d6:¬((s.n:Int)<=((atC b x.1:Nat):Int)):=by omega
  obtain⟨k,Z⟩:=nm (atC b x.1);rw[<- Z]at d6 d2⊢;have HK:=lh Z;have a3:=d4.o.fr a8;have z:=lh a3;clear a2 y1 y2 y3 b4 cP c2 c5 cu cv Z a3;obtain⟨Wd,b'⟩:=nm (W.drew);rw[<- b']at a8 N d5 O y z⊢;clear b';have Y:=xH Go.Proofs.Tryz.underlying67 iM (some ⟨f,off+514*x.1,none⟩) 514 514 2 ip (by omega);rw[eA (by omega)]at Y;simp only[tO,Go.Addr.add_mid,Nat.reduceSub]at Y;have b5:∀W,(Instr.sliceAt 67 (si (some ⟨f,off+514*x.1,none⟩) 514 514) (some (ii ip 2)) none none).run prog W=.ok (si (some ⟨f,off+514*x.1+2,none⟩) 512 512) W:=Y;have d7:∀W,(Instr.arrayAt 127 (si (some ⟨f,off+514*x.1+2,none⟩) 512 512)).run prog W=.ok (pi (some ⟨f,off+514*x.1+2,none⟩)) W:=λW=>run_arrayAt (P:=prog) W _ _ _ _ _ _ Tryz.underlying127 (tA _);have M:li (pgC b x.1)=512:=by unfold pgC;rw[pB,vB];omega
  have b6:∀W:World,(∀(j:Nat) (u:Value),(gA b)[j]? = some u->W.cell? ⟨f,off+j,none⟩=some u)->W.rangeAt f (off+514*x.1+2) (gA (pgC b x.1)):=λW hW j u C=>by
   unfold pgC at C;rw[vN,dK,uH]at C
   split at C
   ·rw[zK]at C;have:=hW _ _ C;rw[show off+514*x.1+2+j=off+(514*x.1+2+j) by omega];exact this
   ·cases C
  have d8:=lh b6;have b7:=lh M;clear Y b6 M
  gi_wp2
  refine jQ (λW=>W.cell? ⟨w.heap.size,0,none⟩=some (pi (some ⟨g,0,none⟩))/\W.cell? ⟨g,5,none⟩=some (.map (some t))/\∀(j:Nat) (u:Value),(gA b)[j]? = some u->W.cell? ⟨f,off+j,none⟩=some u) [0,1,2,3,4,5,6,7,8] (by kernel_rfl) (by kernel_rfl) (λ_ _ h=>h) ?_;refine tks [0,1,2,3,4,5] ?_
  iterate 6 (refine ac ⟨N,O,y.o⟩ ?_)
  refine tke ?_;refine tv 6 (si (some ⟨f,off+514*x.1+2,none⟩) 512 512) rfl rfl ⟨N,O,y.o⟩ (Ii ⟨rfl,λW _=>gH rfl rfl rfl rfl (b5 W)⟩) ?_;simp only[nrm];refine tv 7 (pi (some ⟨f,off+514*x.1+2,none⟩)) rfl rfl ⟨N,O,y.o⟩ (Ii ⟨rfl,λW _=>by simp[execOp,Act.eval,d7,Result.andThen]⟩) ?_;simp only[nrm];refine tv 8 (il (gA (pgC b x.1)).toArray) rfl rfl ⟨N,O,y.o⟩ (yieldsIf_load_mid rfl 127 (.tmp 37) rfl f (off+514*x.1+2) rfl (gA (pgC b x.1)) _ (λW hW=>d8.o W hW.2.2) Tryz.underlying127 rfl (by rw[nA,b7.o];exact uT)) ?_;simp only[nrm];refine ah 9 λK hK=>?_;have b8:Fr [] Wd Wd.drew:=(jj [] Wd).drew;have d9:li (yV b s.held pre)<9223372036854775807:=by have:=z.o.hok.few;have:=z.o.few;simp only at *;omega
  have d':k<=9223372036854775807:=by have:=z.o.few;simp only at *;omega
  obtain⟨w9,hr,c0,c1,_⟩:=(z.o.held.fr b8).store d' d9 b7.o;unfold fJ at hr;refine rB (w':=w9) (by simp[execOp,Act.eval,hr,Result.andThen]) (hK _ _ (λh=>absurd h (by decide +kernel)) ?_);simp only[Act.put];refine wd ?_ _;have Q:Fr [t] W w9:=((a8.mono (T:=[t]) (by simp)).trans (b8.mono (T:=[t]) (by simp)) (λx E=>Ii E)).trans c1 (λx E=>Ii E)
  have hX:ownPostG wl.heap.size (iK (w.heap.size+1+1) (w.heap.size+1+1+1)) (λpre W=>mF W t (yV b s.held pre)/\Fr [t] wl W) (λ_ _ _=>False) (pre++[x]) W .normal { tmps:=#[],defers:=[] } w9:=
   ⟨⟨Q.size,λq o hB hq _=>(Q.block q (wJ.1 hq).1 (by simp only[xA];omega)).trans hq⟩,
    ⟨Q.cell (p:=⟨w.heap.size+1+1,0,none⟩) (show w.heap.size+1+1<W.heap.size by omega) (by simp only[xA];omega),Q.cell (p:=⟨w.heap.size+1+1+1,0,none⟩) (show w.heap.size+1+1+1<W.heap.size by omega) (by simp only[xA];omega)⟩,
    by rw[aEo,<- HK.o];exact c0,HF.o.trans Q (λx E=>Ii E)⟩
  clear hK hr c0 c1
  gi_wp2
  exact hX
 ·rintro D ys W hD rfl ⟨G,I⟩ hK;have hE:Boxed W (w.heap.size+1) 27 (ii ip 0):=(I.block _ (by omega) (by simp only[xA];omega)).trans HE.o;have ce:=hE.cell;have fe:=hE.frozen;have HM:=lh G;have HF:=lh I;clear G I
  gi_wp2
  have b1:=(KeepsOthers.setCell W ⟨w.heap.size+1,0,none⟩ (ii ip 0)).same D _ hK rfl;refine⟨by simp,Ii ⟨_,_,rfl,run_takeDeferred b1,?_⟩⟩;have c4:=cell_kept (World.cell?_setCell_same' W ⟨w.heap.size+1,0,none⟩ (ii ip 0) (by rw[ce];rfl)) (grownBy_putObj' _ D (.deferred none)) (λr e=>by cases e;exact⟨_,b1,rfl⟩);have M:=HA.o.lt;have c6:=J.o.held_ HM.o HF.o (aJs S a4.o J.o.hok _);have b2:Fr [w.heap.size+1] W (W.setCell ⟨w.heap.size+1,0,none⟩ (ii ip 0)):=(jj _ _).setCell (Ii (by simp)) _;have b3:Fr [D] (W.setCell ⟨w.heap.size+1,0,none⟩ (ii ip 0)) ((W.setCell ⟨w.heap.size+1,0,none⟩ (ii ip 0)).putObj D (.deferred none)):=(jj [D] _).grown (grownBy_putObj' _ D _) (λr e=>by cases e;exact Ii (by simp));have c7:=(c6.fr b2 (λk Z S=>by have:=M k Z;simp only[xA]at S;omega)).fr b3 (λk Z S=>by have:=M k Z;simp only[xA]at S;omega)
  have c8:Fr (pfp g lg i t L) w ((W.setCell ⟨w.heap.size+1,0,none⟩ (ii ip 0)).putObj D (.deferred none)):=
   (((b0.o.mono (T:=pfp g lg i t L) (by simp)).trans HF.o (λx E=>Ii (by simp only[xA]at E;simp[pfp,E]))).trans b2 (λx E=>Ij (by simp only[xA]at E;omega))).trans b3 (λx E=>Ij (by simp only[xA]at E;omega))
  refine⟨ii ip 0,?_,rfl,L,by rw[HH.o];exact c7,c8,λ_ Z=>Ii Z⟩
  simp[results,f51,go_sem,c4]
 ·rintro D c pre W _ _ h _;exact h.elim
end
section
open Go.RowKit
theorem aAl{st:pC}:∀(L:List (List UInt8)) (k:Nat) (b:List UInt8),zC st k L=some b->li b<=48*li L
 | [],_,b,c=>by injection c with c;subst c;simp
 | s::L,k,b,c=>by
  unfold zC at c;split at c;·cases c
  rename_i i g;split at c;·obtain⟨d,f,rfl⟩:=mI.1 c;have h:=aAl L (k+1) d f;have d:=vW g;simp only[iB,bD];omega
  cases c
theorem aHP{L:List (List UInt8)}{x:pC×List UInt8}(h:jB L=some x):li x.2<=48*li L:=by
 unfold jB at h;split at h;·cases h
 rename_i d f;split at h;·cases h
 rename_i g i;split at h;·cases h
 obtain⟨b,c,rfl⟩:=mI.1 h;have:=aAl _ _ _ c;rw[pB]at this;show li b<=_;omega
theorem aCi:∀(n:Nat) (last:Option pC) (L:List (List UInt8)),∀x∈vA n last L,li x.2<=48*li L
 | 0,_,_,x,h=>by simp[vA]at h
 | n+1,last,L,x,h=>by
  unfold vA at h;split at h;·cases h
  rename_i c d f;have b:x∈(c,d)::vA n (some c) (L.drop c.count):=by
   cases last with
   | none=>simpa using h
   | some c=>
    simp only at h;split at h;·cases h
    exact h
  obtain rfl|b:=bB.1 b;·exact aHP f
  have:=aCi n _ _ x b;rw[vB]at this;omega
theorem aOU{D:DM}{log:Nat}(b:D.dead=false)(c:D.P=[])(d:log<=li D.S):D.part 0 log=D.S.take log:=(aQE b c).view (by rw[pB];omega)
def aTZ (w:World) (d n log:Nat) (D:DM) (H:PgM) (fp:List Nat) (e:Ending) (w':World):Prop:=
 ∃g lg bl bh fp',e=.returned (.tuple #[.pointer (some ⟨g,0,none⟩),.int .i64 0])/\qF w' g d lg bl bh (qH n log D H) fp'/\Fr fp w w'/\(∀k∈fp',k∈fp∨w.heap.size<=k)/\w.heap.size<=g/\w.heap.size<=lg/\w.heap.size<=bl/\w.heap.size<=bh
theorem aUv{w:World}{d n log:Nat}{D:DM}{H:PgM}(X:wF w d D L)(i:D.dead=false)(A:D.P=[])(h1:1<=n)(h2:n<=4096)(h3:1<=log)(c4:log+8*n<=li D.S)(B:(lC (D.S.take log)).1<4294967295)(ht:qG n ((vA log none (D.S.take log)).map (·.2)) []=some H): Calls prog 27 #[pi (some ⟨d,0,none⟩),ii ip (n:Int),ii ip (log:Int)] w (aTZ w d n log D H L):=by
 refine cA λc1 Y=>?_;have b:=aOU i A (by omega:log<=li D.S);have R:=(wF.ok X).most;have k:aQw D 0 log=aAc log (D.S.take log):=by unfold aQw aQv aAc;rw[b];rfl
 have h:=lh (aQx (D:=D) (f:=0) (n:=log) (by omega) (by rw[b];exact B));rw[k]at h;have p:=lh (aSQ (f:=0) X i h3 (by omega) (by rw[b];exact B));rw[b]at p;have⟨HD,Z,c2⟩:=hh3 X (aHE X) (aHF X);have u:=lh ht;have r:∀j∈(vA log none (D.S.take log)).map (·.2),li j<=4194304:=λj c=>by obtain⟨m,q,rfl⟩:=kI.1 c;have:=aCi _ _ _ m q;rw[pB]at this;omega
 have C:=lh r;rw[i]at Z;have a0:Wi ip (8*(n:Int))=8*(n:Int):=ak;have a1:Wi ip ((li D.S:Int)-8*(n:Int))=(li D.S:Int)-8*(n:Int):=ak;clear X i A ht r b B k;have a4:=@run_makeMap prog;have a5:decide ((n:Int)<1)=false:=by simp;omega
 have a6:decide ((4096:Int)<(n:Int))=false:=by simp;omega
 have a7:decide ((log:Int)<1)=false:=by simp;omega
 have a8:decide ((li D.S:Int)-8*(n:Int)<(log:Int))=false:=by simp;omega
 go_enter func27,ntmps27;go_wp2_with fail;refine Z.o.mono ?_;rintro e b ⟨rfl,rfl⟩;go_wp2_with fail;refine c2.o.mono ?_;rintro e b ⟨rfl,rfl⟩;go_wp2_with fail;refine p.o.mono ?_;rintro e b ⟨b4,rfl,⟨J,q⟩,s,k⟩;obtain⟨b5,b6,rfl,x,m⟩:=jA q.own;unfold maxLen at m;have t:=HD.o.fr k;have a9:=s.lt;have b2:=k.size;have⟨g,a2,c3,a3⟩:=hh4 q s k t;obtain⟨m,v⟩:=nm ((vA log none (D.S.take log)).map (·.2));rw[<- v]at g u C x⊢;clear q s k t p v;go_wp2_with fail;have p:Fr [] b (((b.alloc (.map #[] 0)).alloc (.map #[] 0)).alloc (iy (uK d w.heap.size b.heap.size (b.heap.size+1) (qH n log D [])).toArray 85)):=(((jj [] b).alloc _).alloc _).alloc _;have s:mF (((b.alloc (.map #[] 0)).alloc (.map #[] 0)).alloc (iy (uK d w.heap.size b.heap.size (b.heap.size+1) (qH n log D [])).toArray 85)) b.heap.size []:=(mF.new b).fr (((jj [] _).alloc _).alloc _);have v:mF (((b.alloc (.map #[] 0)).alloc (.map #[] 0)).alloc (iy (uK d w.heap.size b.heap.size (b.heap.size+1) (qH n log D [])).toArray 85)) (b.heap.size+1) []:=by have:=(mF.new (b.alloc (.map #[] 0))).fr ((jj [] _).alloc (iy (uK d w.heap.size b.heap.size (b.heap.size+1) (qH n log D [])).toArray 85));rwa [qB]at this
 have x:Blk (((b.alloc (.map #[] 0)).alloc (.map #[] 0)).alloc (iy (uK d w.heap.size b.heap.size (b.heap.size+1) (qH n log D [])).toArray 85)) (b.heap.size+1+1) 85 (uK d w.heap.size b.heap.size (b.heap.size+1) (qH n log D [])):=by have:=jl ((b.alloc (.map #[] 0)).alloc (.map #[] 0)) 85 (uK d w.heap.size b.heap.size (b.heap.size+1) (qH n log D []));rwa [qB,qB]at this
 have b3:(((b.alloc (.map #[] 0)).alloc (.map #[] 0)).alloc (iy (uK d w.heap.size b.heap.size (b.heap.size+1) (qH n log D [])).toArray 85)).heap.size=b.heap.size+1+1+1:=by simp
 show Code.wp _ _ _ _ (((b.alloc (.map #[] 0)).alloc (.map #[] 0)).alloc (iy (uK d w.heap.size b.heap.size (b.heap.size+1) (qH n log D [])).toArray 85));generalize ((b.alloc (.map #[] 0)).alloc (.map #[] 0)).alloc (iy (uK d w.heap.size b.heap.size (b.heap.size+1) (qH n log D [])).toArray 85)=t at *;have q:=a3.o.lt;have y:=HD.o.lt;have z:qF t (b.heap.size+1+1) d w.heap.size b.heap.size (b.heap.size+1) (qH n log D []) L:=⟨x,⟨a2.o.fr p,a3.o.fr p,λk=>by have:=y _ k;omega,h.o.at_,h.o.fit,h.o.num,h.o.ses⟩,s,v,by omega,λk=>by have:=q _ k;omega,λk=>by have:=q _ k;omega,λk=>by have:=q _ k;omega,tH.nil _,tH.nil _,h2⟩;have G:=g.o.fr p;have I:=lh z;have E:=lh p;have h:∀j∈pfp (b.heap.size+1+1) w.heap.size b.heap.size (b.heap.size+1) L,j<w.heap.size+1∨b.heap.size<=j:=λj c=>by
  simp only[pfp,bB]at c;obtain rfl|rfl|rfl|rfl|c:=c;·omega
  ·omega
  ·omega
  ·omega
  have:=y _ c;omega
 have F:=lh h;clear p s v x z G q h;go_wp2_with fail;go_loopw [58] (λv58 wr=>∃(h:Nat) (p:PgM),h<=li m/\v58=ii ip (h:Int)/\qG n (m.drop h) p=some H/\wD t wr (b.heap.size+1+1) d w.heap.size b.heap.size (b.heap.size+1) (qH n log D p) L) (λq _=>li m-(intOf q).toNat);·exact⟨0,[],uB _,rfl,u.o,wD.same I.o⟩
 obtain⟨h,p,b7,rfl,q,Q,s,u,v⟩:=hrel;have⟨a',N,b0,b1⟩:=hh4 s u v q;clear s u v q;by_cases z:h<li m
 ·have u:Fr (pfp (b.heap.size+1+1) w.heap.size b.heap.size (b.heap.size+1) L) b wr:=(E.o.mono (by simp)).trans N.o (λj c=>Ii c);have v:=g.o.fr u F.o;obtain⟨b8,U,I⟩:=tD v.own (by omega);obtain⟨q,x⟩:∃q,J[h]? = some q:=gx (by rw[v.len];exact z);obtain⟨s,y⟩:=gx (l:=m) z;obtain⟨J,z,V,W,_⟩:=g.o.row h q s x y;have G:=z.fr u (λk=>by have:=F.o J k;omega);obtain⟨b9,b',c0,rfl,_⟩:=id z;have O:=I h _ x;obtain⟨q,F,J⟩:∃q,nL n s p=some q/\qG n (m.drop (h+1)) q=some H:=by
   have k:=b1.o;obtain⟨h3,M⟩:=uC.1 y;rw[xM h3,M]at k;unfold qG at k;cases M:nL n s p with
   | none=>rw[M]at k;cases k
   | some q=>rw[M]at k;exact⟨q,rfl,k⟩
  have⟨c6,c7⟩:=hh2 (aQM a'.o G (by omega) (C.o s (kF y)) F) J;obtain⟨y,r⟩:=nm (li m);subst U;clear u v I x z V W G F J r;go_wp2_with fail;refine c6.o.mono ?_;rintro e u ⟨rfl,s⟩;have r:Hid (wD t u (b.heap.size+1+1) d w.heap.size b.heap.size (b.heap.size+1) (qH n log D q) L):=lh (wD.comp N.o b0.o s);clear s O;go_wp2_with fail;go_roundw
  case rel=>exact⟨h+1,q,by omega,by go_num,c7.o,r.o⟩
  case measure=>simp[intOf];omega
 obtain rfl:h=li m:=(by omega);have h:p=H:=by have:=b1.o;rw[sO (tA _)]at this;injection this
 subst h;have r:Hid (aTZ w d n log D p L (iz (tl #[pi (some ⟨b.heap.size+1+1,0,none⟩),ii ip 0])) wr):=lh (by
  have b:Fr [] w t:=c3.o.trans E.o;refine⟨_,_,_,_,Q,rfl,a'.o,(b.mono (T:=L) (by simp)).trans N.o (λj c=>?_),λj c=>?_,by omega,tA _,by omega,by omega⟩
  ·simp only[pfp,bB]at c;obtain rfl|rfl|rfl|rfl|c:=c
   ·exact Ij (by omega)
   ·exact Ij (by omega)
   ·exact Ij (by omega)
   ·exact Ij (by omega)
   exact Ii c
  obtain k|k:=b0.o j c;·exact Ii k
  exact Ij (by have:=b.size;omega))
 go_wp2_with fail;exact Y.o _ _ r.o
def PgX (w0 w:World) (d g:Nat) (s:PS) (X:Nat->Prop):Prop:=∃lg bl bh fp,qF w g d lg bl bh s fp/\(∀k∈pfp g lg bl bh fp,w0.heap.size<=k/\¬ X k)/\Fr [] w0 w/\∀k,X k->k<w.heap.size
section
variable {w0 w w':World}{d g:Nat}{s s':PS}{X Y:Nat->Prop}
theorem PgX.step{lg:Nat}(h2:∀k∈pfp g lg n i L,w0<=k/\¬ X k)(h3:Fr [] w0 w)(m:∀k,X k->k<w)(p:wD w w' g d lg n i s' L):PgX w0 w' d g s' X/\Kp X w w':=by
 obtain⟨b,c,f,l⟩:=p;have o:=h3.size;have j:=f.size;refine⟨⟨lg,n,i,b,c,λk b=>?_,h3.trans f (λh c=>Ij (h2 h c).1),λk b=>iL (m k b) j⟩,_,f,λh c=>(h2 h c).2⟩;simp only[pfp,bB]at b;obtain rfl|rfl|rfl|rfl|b:=b;·exact h2 _ (by simp[pfp])
 ·exact h2 _ (by simp[pfp])
 ·exact h2 _ (by simp[pfp])
 ·exact h2 _ (by simp[pfp])
 obtain f|f:=l k b;·exact h2 k (by simp[pfp,f])
 exact⟨by omega,λc=>by have:=m k c;omega⟩
theorem PgX.fr(h:PgX w0 w d g s X)(c:Fr [] w w'):PgX w0 w' d g s (λb=>X b∨w<=b/\b<w'):=by
 obtain⟨f,i,l,m,j,k,n,o⟩:=h;have p:=c.size;refine⟨f,i,l,m,j.fr c,λb i=>⟨(k b i).1,?_⟩,n.trans c,?_⟩
 ·rintro(f|f)
  ·exact(k b i).2 f
  have:=j.lt b i;omega
 rintro b (f|f);·have:=o b f;omega
 exact f.2
theorem PgX.weak(h:PgX w0 w d g s X)(b:∀k,Y k->X k):PgX w0 w d g s Y:=by obtain⟨c,i,j,l,m,f,n,o⟩:=h;exact⟨c,i,j,l,m,λk c=>⟨(f k c).1,λi=>(f k c).2 (b k i)⟩,n,λk c=>o k (b k c)⟩
theorem PgX.stay(h:PgX w0 w d g s X)(b:Fr [] w w'):PgX w0 w' d g s X:=(h.fr b).weak λ_ c=>Ii c
theorem PgX.frame(h:PgX w0 w d g s X):Fr [] w0 w:=by obtain⟨_,_,_,_,_,_,h,_⟩:=h;exact h
theorem PgX.other{S:List Nat}(h:PgX w0 w d g s X)(b:Fr S w w')(m:∀x∈S,X x)(h0:∀x∈S,w0<=x):PgX w0 w' d g s X:=by obtain⟨c,f,j,k,l,i,n,o⟩:=h;exact⟨c,f,j,k,l.fr b (λc f j=>(i c f).2 (m c j)),i,n.trans b (λx i=>Ij (h0 x i)),λc f=>iL (o c f) b.size⟩
theorem aUw{n log:Nat}{D:DM}{H:PgM}(h:DkX w0 w d D X)(c:D.dead=false)(f:D.P=[])(h1:1<=n)(h2:n<=4096)(h3:1<=log)(j:log+8*n<=li D.S)(m:(lC (D.S.take log)).1<4294967295)(ht:qG n ((vA log none (D.S.take log)).map (·.2)) []=some H): Calls prog 27 #[pi (some ⟨d,0,none⟩),ii ip (n:Int),ii ip (log:Int)] w λe b=>∃g,e=iz (tl #[pi (some ⟨g,0,none⟩),ii ip 0])/\PgX w0 b d g (qH n log D H) X/\Kp X w b:=by
 obtain⟨t,i,o,q,r⟩:=h;refine(aUv i c f h1 h2 h3 j m ht).mono ?_;rintro e b ⟨g,u,v,x,y,z,A,p,B,C,E,F,G⟩;have I:=q.size;have s:=p.size;have k:∀b,w.heap.size<=b->w0.heap.size<=b/\¬ X b:=λb i=>⟨by omega,λl=>by have:=r b l;omega⟩;refine⟨g,z,⟨u,v,x,y,A,λb i=>?_,q.trans p (λq l=>Ij (o q l).1),λb i=>iL (r b i) s⟩,t,p,λq l=>(o q l).2⟩;simp only[pfp,bB]at i;obtain rfl|rfl|rfl|rfl|i:=i;·exact k _ C
 ·exact k _ E
 ·exact k _ F
 ·exact k _ G
 obtain h|h:=B b i;·exact o b h
 exact k b h
theorem aHQ(h:PgX w0 w d g s X)(c:s.br=false)(k:Nat)(j:k<s.n)(v:Value)(b:List UInt8)(f:Nat)(m:dA w v b f)(r:li b<=512): Calls prog 150 #[pi g,k,v] w λe i=>e=iz (ii ip 0)/\PgX w0 i d g (s.write k b) X/\Kp X w i:=by obtain⟨t,u,x,y,l,o,p,q⟩:=h;exact(aSX l c k j v b f m r).mono λe i ⟨l,r⟩=>⟨l,PgX.step o p q r⟩
theorem aQN(h:PgX w0 w d g s X)(b:s.D.done+400000<1099511627776): Calls prog 35 #[pi g] w λe c=>e=iz (ii ip s.commit.2)/\PgX w0 c d g s.commit.1 X/\Kp X w c:=by obtain⟨m,n,o,p,f,i,j,k⟩:=h;exact(aQK f b).mono λe c ⟨f,l⟩=>⟨f,PgX.step i j k l⟩
theorem aCL(h:PgX w0 w d g s X)(b:s.D.done+200000<1099511627776): Calls prog 15 #[pi g] w λe c=>e=iz (ii ip s.check.2)/\PgX w0 c d g s.check.1 X/\Kp X w c:=by obtain⟨m,n,o,p,f,i,j,k⟩:=h;exact(aNo f b).mono λe c ⟨f,l⟩=>⟨f,PgX.step i j k l⟩
theorem aMa(h:PgX w0 w d g s X): Calls prog 33 #[pi g] w λe b=>e=iz (tl #[])/\PgX w0 b d g { s with late:=[] } X/\Kp X w b:=by obtain⟨l,m,n,o,c,f,i,j⟩:=h;exact(aLO c).mono λe b ⟨c,k⟩=>⟨c,PgX.step f i j k⟩
theorem aMb(h:PgX w0 w d g s X)(b:s.br=false)(c:aCA s)(k:Nat)(f:k<s.n):Calls prog 94 #[pi g,k] w (aNp w (s.page k)):=by obtain⟨j,l,m,o,i,_⟩:=h;exact aUu i b c k f
end
theorem fG.free{c:Nat}{s:PS}{C:Nat->List UInt8}(h:fG c s C)(q:c+4<4294967296)(g:s.D.limit = -1)(d:514*li s.late+48<=48*s.l.n)(i:2<=s.l.n): s.commit.2=0/\fG (c+3) s.commit.1 (aLK C s.late)/\s.commit.1.late=[]/\s.commit.1.n=s.n/\s.commit.1.l.n=s.l.n/\s.commit.1.D.limit = -1:=by
 have r:=h.late.few;have t:=gS h.late.mem;have u:=h.fit;have v:=h.ok.most;obtain⟨j,k,b,m,o,p⟩|⟨_,_,_,_,_,_,f⟩|⟨_,_,b,_⟩:=h.committed q;·exact⟨j,k,b,m,o,p g⟩
 ·unfold rA at f;split at f<;>omega
 exact absurd g b
open Go.RowKit

open Go.RowKit
end
abbrev Ky:=List UInt8
def klt (a b:Ky):Prop:=Lib.compareBytes a b<0
instance (a b:Ky):Decidable (klt a b):=by unfold klt;infer_instance
theorem aOV:∀a b:Ky,Lib.compareBytes a b = -1∨Lib.compareBytes a b=0∨Lib.compareBytes a b=1
 | [],[]=>Ij (Ii rfl)
 | [],_::_=>Ii rfl
 | _::_,[]=>Ij (Ij rfl)
 | a::u,b::bs=>by
  unfold Lib.compareBytes;split;·exact Ii rfl
  split;·exact Ij (Ij rfl)
  exact aOV u bs
theorem aJt:∀ {a b:Ky},Lib.compareBytes a b=0->a=b
 | [],[],_=>rfl
 | [],_::_,h=>by cases h
 | _::_,[],h=>by cases h
 | a::u,b::bs,h=>by
  unfold Lib.compareBytes at h;split at h;·cases h
  split at h;·cases h
  rename_i c d;have e:a=b:=UInt8.le_antisymm (aHm.1 d) (aHm.1 c);rw[e,aJt h]
theorem aJu:∀a:Ky,Lib.compareBytes a a=0
 | []=>rfl
 | a::u=>by unfold Lib.compareBytes;rw[eA (aHn a),eA (aHn a)];exact aJu u
theorem aEp:∀a b:Ky,Lib.compareBytes b a = - Lib.compareBytes a b
 | [],[]=>rfl
 | [],_::_=>rfl
 | _::_,[]=>rfl
 | a::u,b::bs=>by
  have f:=aEp u bs;unfold Lib.compareBytes;by_cases d:a<b;·have c:¬ b<a:=λg=>aHn a (UInt8.lt_trans d g);rw[eA c,iA d,iA d];rfl
  by_cases c:b<a;·rw[iA c,eA d,iA c]
  rw[eA c,eA d,eA d,eA c];exact f
theorem bC(a:Ky):¬ klt a a:=by unfold klt;rw[aJu];decide
theorem qE:∀ {a b c:Ky},klt a b->klt b c->klt a c
 | [],[],_,h,_=>absurd h (bC _)
 | _::_,[],_,h,_=>by unfold klt Lib.compareBytes at h;cases h
 | [],_::_,[],_,h=>by unfold klt Lib.compareBytes at h;cases h
 | [],_::_,_::_,_,_=>by unfold klt Lib.compareBytes;decide
 | _::_,_::_,[],_,h=>by unfold klt Lib.compareBytes at h;cases h
 | a::u,b::bs,c::cs,h1,h2=>by
  have g:=@qE u bs cs;unfold klt Lib.compareBytes at h1 h2⊢;unfold klt at g;have i:∀d f:UInt8,d<f↔d.toNat<f.toNat:=λd f=>UInt8.lt_iff_toNat_lt;simp only[i]at h1 h2⊢;by_cases i:a.toNat<b.toNat
  ·by_cases f:b.toNat<c.toNat
   ·rw[iA (by omega)];decide
   rw[eA f]at h2;by_cases d:c.toNat<b.toNat;·rw[iA d]at h2;cases h2
   rw[iA (by omega)];decide
  rw[eA i]at h1;by_cases i:b.toNat<a.toNat;·rw[iA i]at h1;cases h1
  rw[eA i]at h1;by_cases f:b.toNat<c.toNat;·rw[iA (by omega)];decide
  rw[eA f]at h2;by_cases d:c.toNat<b.toNat;·rw[iA d]at h2;cases h2
  rw[eA d]at h2;rw[eA (by omega),eA (by omega)];exact g h1 h2
theorem jS{a b:Ky}(h:klt a b):¬ klt b a:=λc=>bC a (qE h c)
theorem zQ{a b:Ky}(h1:¬ klt a b)(h2:¬ klt b a):a=b:=by have c:=aEp a b;unfold klt at h1 h2;exact aJt (by omega)
theorem aBE{a b c:Ky}(h1:¬ klt b a)(h2:klt b c):klt a c:=by
 by_cases d:klt a b;·exact qE d h2
 rw[zQ d h1];exact h2
theorem zW{a b c:Ky}(h1:klt a b)(h2:¬ klt c b):klt a c:=by
 by_cases d:klt b c;·exact qE h1 d
 rw[<- zQ d h2];exact h1
theorem aOW{a b c:Ky}(h1:¬ klt b a)(h2:¬ klt c b):¬ klt c a:=λd=>h1 (aBE h2 d)
def wT (lo:Option Ky) (k:Ky):Prop:=∀a,lo=some a->¬ klt k a
def kS (hi:Option Ky) (k:Ky):Prop:=∀b,hi=some b->klt k b
structure It where
 key:Ky
 v:List UInt8
 at_:Nat
structure Nd where
 lf:Bool
 first:Nat
 l:List It
def b16 (n:Nat):List UInt8:=[UInt8.ofNat (n / 256),UInt8.ofNat n]
def ib (lf:Bool) (x:It):List UInt8:=if lf then [UInt8.ofNat x.key.length,UInt8.ofNat x.v.length]++x.key++x.v else [UInt8.ofNat x.key.length]++x.key++b16 x.at_
def Nd.head (n:Nd):List UInt8:=(if n.lf then 1 else 2)::(b16 n.l.length++if n.lf then [] else b16 n.first)
def Nd.written (n:Nd):List UInt8:=n.head++n.l.flatMap (ib n.lf)
def ibn (lf:Bool) (x:It):Nat:=if lf then 2+x.key.length+x.v.length else 3+x.key.length
def Nd.size (n:Nd):Nat:=(if n.lf then 3 else 5)+(n.l.map (ibn n.lf)).sum
theorem aUx(lf:Bool)(x:It):li (ib lf x)=ibn lf x:=by unfold ib ibn b16;split<;>simp<;>omega
theorem aHR(lf:Bool):∀l:List It,li (l.flatMap (ib lf))=(l.map (ibn lf)).sum
 | []=>rfl
 | x::l=>by rw[xG,iB,aUx,aHR lf l];rfl
theorem Nd.head_len(n:Nd):li n.head=if n.lf then 3 else 5:=by unfold Nd.head b16;cases n.lf<;>simp
theorem Nd.written_len(n:Nd):li n.written=n.size:=by unfold Nd.written Nd.size;rw[iB,aHR,n.head_len]
structure It.ok (lf:Bool) (x:It):Prop where
 k1:1<=x.key.length
 k2:x.key.length<=96
 v:x.v.length<=64
 at_:x.at_<65536
 bare:if lf then x.at_=0 else x.v=[]
structure Nd.ok (n:Nd):Prop where
 few:n.l.length<65536
 item:∀x∈n.l,x.ok n.lf
 first:n.first<65536
 bare:n.lf=true->n.first=0
def r16 (b:List UInt8):Nat:=(b.getD 0 0).toNat*256+(b.getD 1 0).toNat
theorem lH{n:Nat}(h:n<65536)(r:List UInt8):r16 (b16 n++r)=n:=by show(Ot (n / 256)).toNat*256+(Ot n).toNat=n;rw[cQ,cQ];omega
def aEq (lf:Bool):Nat->List UInt8->List It
 | 0,_=>[]
 | k+1,b=>
  if lf then ⟨(b.drop 2).take (b.getD 0 0).toNat,(b.drop (2+(b.getD 0 0).toNat)).take (b.getD 1 0).toNat,0⟩::aEq lf k (b.drop (2+(b.getD 0 0).toNat+(b.getD 1 0).toNat))
  else ⟨(b.drop 1).take (b.getD 0 0).toNat,[],r16 (b.drop (1+(b.getD 0 0).toNat))⟩::aEq lf k (b.drop (3+(b.getD 0 0).toNat))
theorem aQO(lf:Bool):∀(l:List It) (r:List UInt8),(∀x∈l,x.ok lf)->aEq lf (li l) (l.flatMap (ib lf)++r)=l
 | [],_,_=>rfl
 | x::l,r,h=>by
  have j:=h x (eC ..);have k:=aQO lf l r (λi b=>h i (jD _ b));have m:(Ot (li x.key)).toNat=li x.key:=by rw[cQ];have:=j.k2;omega
  have o:(Ot (li x.v)).toNat=li x.v:=by rw[cQ];have:=j.v;omega
  have g:=j.bare;rw[xG,uF,bD];generalize l.flatMap (ib lf)++r=c at k⊢;obtain⟨b,d,f⟩:=x;simp only at m o g;cases lf with
  | true=>rw[iA rfl]at g;have e:ib true ⟨b,d,f⟩++c=Ot (li b)::Ot (li d)::(b++(d++c)):=(by simp[ib]);rw[e];unfold aEq;rw[iA rfl];have n:∀z:List UInt8,(Ot (li b)::z).getD 0 0=Ot (li b):=λ_=>rfl;have p:∀(i:UInt8) (z:List UInt8),(i::Ot (li d)::z).getD 1 0=Ot (li d):=λ_ _=>rfl;rw[n,p,m,o];have i:(Ot (li b)::Ot (li d)::(b++(d++c))).drop (2+li b)=d++c:=(by rw[show 2+li b=li b+1+1 by omega,aCZ,aCZ,rO]);have o:(Ot (li b)::Ot (li d)::(b++(d++c))).drop (2+li b+li d)=c:=(by rw[<- List.drop_drop,i,rO]);rw[i,o,k,show(Ot (li b)::Ot (li d)::(b++(d++c))).drop 2=b++(d++c) from rfl,xL,xL,g]
  | false=>rw[eA (by decide)]at g;have e:ib false ⟨b,d,f⟩++c=Ot (li b)::(b++(b16 f++c)):=(by simp[ib]);rw[e];unfold aEq;rw[eA (by decide)];have n:∀z:List UInt8,(Ot (li b)::z).getD 0 0=Ot (li b):=λ_=>rfl;rw[n,m];have i:(Ot (li b)::(b++(b16 f++c))).drop (1+li b)=b16 f++c:=(by rw[show 1+li b=li b+1 by omega,aCZ,rO]);have o:(Ot (li b)::(b++(b16 f++c))).drop (3+li b)=c:=(by rw[show 3+li b=(1+li b)+2 by omega,<- List.drop_drop,i];rfl);rw[i,o,k,lH j.at_,show(Ot (li b)::(b++(b16 f++c))).drop 1=b++(b16 f++c) from rfl,xL,g]
def aJv (b:List UInt8):Nd:=
 if b.getD 0 0=1 then ⟨true,0,aEq true (r16 (b.drop 1)) (b.drop 3)⟩ else ⟨false,r16 (b.drop 3),aEq false (r16 (b.drop 1)) (b.drop 5)⟩
theorem rd_nd{n:Nd}(h:n.ok)(r:List UInt8):aJv (n.written++r)=n:=by
 have d:=aQO n.lf n.l r h.item;obtain⟨f,first,c⟩:=n;unfold Nd.written;rw[uF];simp only at d⊢;generalize c.flatMap (ib f)++r=b at d⊢;cases f with
 | true=>
  have j:=h.bare rfl;simp only at j;have e:Nd.head ⟨true,first,c⟩++b=1::(b16 (li c)++b):=by unfold Nd.head;simp
  have f:(1::(b16 (li c)++b)).getD 0 0=(1:UInt8):=rfl;have g:(1::(b16 (li c)++b)).drop 1=b16 (li c)++b:=rfl;have i:(1::(b16 (li c)++b)).drop 3=b:=rfl;rw[e];unfold aJv;rw[f,iA rfl,g,i,lH h.few,d,j]
 | false=>
  have e:Nd.head ⟨false,first,c⟩++b=2::(b16 (li c)++(b16 first++b)):=by unfold Nd.head;simp
  have f:(2::(b16 (li c)++(b16 first++b))).getD 0 0=(2:UInt8):=rfl;have g:(2::(b16 (li c)++(b16 first++b))).drop 1=b16 (li c)++(b16 first++b):=rfl;have i:(2::(b16 (li c)++(b16 first++b))).drop 3=b16 first++b:=rfl;have j:(2::(b16 (li c)++(b16 first++b))).drop 5=b:=rfl;rw[e];unfold aJv;rw[f,eA (by decide),g,i,j,lH h.few,lH h.first,d]
open Classical in
noncomputable def aOX (b:List UInt8):Option Nd:=if (aJv b).ok/\b=gI (aJv b).written/\(aJv b).size<=512 then some (aJv b) else none
theorem aSY{n:Nd}(h:n.ok)(b:n.size<=512):aOX (gI n.written)=some n:=by have e:aJv (gI n.written)=n:=rd_nd h _;unfold aOX;rw[e,iA ⟨h,rfl,b⟩]
theorem aJw{b:List UInt8}{n:Nd}(h:aOX b=some n):n.ok/\b=gI n.written/\n.size<=512:=by
 unfold aOX at h;split at h;·rename_i c;injection h with h;rw[<- h];exact c
 cases h
section
variable {α:Type}
def nX (x:Nat×α):List (Nat×α)->List (Nat×α)
 | []=>[x]
 | y::m=>if x.1<y.1 then x::y::m else y::nX x m
def aAm (m:List (Nat×α)) (k:Nat) (b:α):List (Nat×α):=nX (k,b) (m.filter fun p=>!decide (p.1=k))
def sG (m:List (Nat×α)) (k:Nat):Option α:=(m.find? fun p=>decide (p.1=k)).map (·.2)
def aBF (m:List (Nat×α)) (k:Nat):List (Nat×α):=m.filter fun p=>!decide (p.1=k)
theorem aJx(x:Nat×α)(k:Nat):∀m:List (Nat×α),(∀p∈m,p.1≠x.1)->sG (nX x m) k=if k=x.1 then some x.2 else sG m k
 | [],_=>by
  unfold nX sG;by_cases b:x.1=k;·rw[bQ (by simpa using b),iA b.symm];rfl
  rw[rP (by simpa using b),eA (λe=>b e.symm)]
 | y::m,hm=>by
  have c:=aJx x k m (λp d=>hm p (jD _ d));have d:=hm y (eC ..);unfold nX;split
  ·unfold sG;by_cases b:x.1=k
   ·rw[bQ (by simpa using b),iA b.symm];rfl
   rw[rP (by simpa using b),eA (λe=>b e.symm)]
  unfold sG at c⊢;by_cases b:y.1=k;·rw[bQ (by simpa using b),bQ (by simpa using b),eA (λe=>d (by rw[b,e]))]
  rw[rP (by simpa using b),rP (by simpa using b)];exact c
theorem zV(m:List (Nat×α))(k j:Nat):sG (aBF m k) j=if j=k then none else sG m j:=by
 unfold sG aBF;induction m with
 | nil=>by_cases b:j=k<;>simp[b]
 | cons d m f=>
  by_cases c:d.1=k
  ·rw[List.filter_cons_of_neg (by simpa using c),f];by_cases b:j=k
   ·rw[iA b,iA b]
   rw[eA b,eA b,rP (by simp;omega)]
  rw[List.filter_cons_of_pos (by simpa using c)];by_cases b:d.1=j;·rw[bQ (by simpa using b),bQ (by simpa using b),eA (by omega)]
  rw[rP (by simpa using b),rP (by simpa using b)];exact f
theorem aAn(m:List (Nat×α))(k j:Nat)(b:α):sG (aAm m k b) j=if j=k then some b else sG m j:=by
 unfold aAm;rw[aJx (k,b) j _ (λd c=>by simpa using(cL.1 c).2)];by_cases c:j=k;·rw[iA c,iA c]
 rw[eA c,eA c];have:=zV m k j;rw[eA c]at this;exact this
theorem aJy(k:Nat):sG ([]:List (Nat×α)) k=none:=rfl
def gJ (m:List (Nat×α)):Prop:=m.Pairwise fun p q=>p.1<q.1
theorem Z34{P:Prop} (h:P:=by
 rintro(h | h | h)
 ·exact .inr (.inl h)
 ·exact .inl h
 ·exact .inr (.inr h)):P:=h
theorem aEr{x y:Nat×α}:∀ {m:List (Nat×α)},y∈nX x m↔y=x∨y∈m
 | []=>by simp[nX]
 | z::m=>by
  unfold nX;split;·simp
  rw[bB,aEr,bB];constructor;·exact Z34
  exact Z34
theorem gJ.ins{x:Nat×α}:∀ {m:List (Nat×α)},gJ m->(∀p∈m,p.1≠x.1)->gJ (nX x m)
 | [],_,_=>by simp[nX,gJ]
 | y::m,h,hx=>by
  obtain⟨c,d⟩:=lF.1 h;have g:=hx y (eC ..);unfold nX;split
  ·rename_i f;refine lF.2 ⟨λp b=>?_,h⟩;obtain rfl|b:=bB.1 b
   ·exact f
   have:=c p b;omega
  refine lF.2 ⟨λp b=>?_,gJ.ins d (λp b=>hx p (jD _ b))⟩;obtain rfl|b:=aEr.1 b;·omega
  exact c p b
theorem gJ.del{m:List (Nat×α)}(h:gJ m)(k:Nat):gJ (aBF m k):=List.Pairwise.filter _ h
theorem gJ.put{m:List (Nat×α)}(h:gJ m)(k:Nat)(b:α):gJ (aAm m k b):=(h.del k).ins λd c=>by simpa using(cL.1 c).2
theorem aAo{m:List (Nat×α)}{k:Nat}{b:α}(h:sG m k=some b):(k,b)∈m:=by unfold sG at h;obtain⟨g,d,rfl⟩:=mI.1 h;have c:=List.find?_some d;have f:=List.mem_of_find?_eq_some d;simp only[uG]at c;rw[<- c];exact f
end
abbrev En:=List (Ky × List UInt8)
def mC (l:List It):En:=l.map fun x=>(x.key,x.v)
def sI (E:En):Prop:=E.Pairwise fun a b=>klt a.1 b.1
def gL (lo hi:Option Ky) (E:En):Prop:=∀e∈E,wT lo e.1/\kS hi e.1
abbrev aW:=Nat -> Option Ky -> Option Ky -> En -> List Nat -> Prop
def fE (S:aW):Option Ky->Nat->List It->Option Ky->En->List Nat->Prop
 | lo,c,[],hi,E,P=>S c lo hi E P
 | lo,c,x::l,hi,E,P=>∃E1 P1 E2 P2,S c lo (some x.key) E1 P1/\fE S (some x.key) x.at_ l hi E2 P2/\E=E1++E2/\P=P1++P2
def NF (N:Nat->Option Nd):Nat->Nd->Option Ky->Option Ky->En->List Nat->Prop
 | 0,n,lo,hi,E,P=>n.lf=true/\E=mC n.l/\P=[]/\sI E/\gL lo hi E
 | h+1,n,lo,hi,E,P=>n.lf=false/\fE (fun at_ lo hi E P=>∃n P',N at_=some n/\n.ok/\n.size<=512/\1<=n.l.length/\P=at_::P'/\NF N h n lo hi E P') lo n.first n.l hi E P
def Sub (N:Nat->Option Nd) (m h:Nat):aW:=fun at_ lo hi E P=>∃n P',N at_=some n/\n.ok/\n.size<=512/\m<=n.l.length/\P=at_::P'/\NF N h n lo hi E P'
def qO (c:Nat):List It->Nat
 | []=>c
 | x::A=>qO x.at_ A
def lS (lo:Option Ky):List It->Option Ky
 | []=>lo
 | x::A=>lS (some x.key) A
def oX (hi:Option Ky):List It->Option Ky
 | []=>hi
 | x::_=>some x.key
def yH (S:aW):Option Ky->Nat->List It->En->List Nat->Prop
 | _,_,[],E,P=>E=[]/\P=[]
 | lo,c,x::A,E,P=>∃E1 P1 E2 P2,S c lo (some x.key) E1 P1/\yH S (some x.key) x.at_ A E2 P2/\E=E1++E2/\P=P1++P2
def nM (S:aW):List It->Option Ky->En->List Nat->Prop
 | [],_,E,P=>E=[]/\P=[]
 | x::B,hi,E,P=>fE S (some x.key) x.at_ B hi E P
section
variable {S S':aW}{lo hi:Option Ky}{c:Nat}{A B l:List It}{E:En}{P:List Nat}
theorem fE.mono(d:∀c lo hi E b,(∀p∈b,p∈P)->S c lo hi E b->S' c lo hi E b):∀ {l:List It} {lo:Option Ky} {c:Nat} {E:En} {b:List Nat},(∀p∈b,p∈P)->fE S lo c l hi E b->fE S' lo c l hi E b
 | [],_,_,_,_,hP,h=>d _ _ _ _ _ hP h
 | x::l,lo,c,E,b,hP,h=>by obtain⟨f,g,i,j,k,m,rfl,rfl⟩:=h;exact⟨f,g,i,j,d _ _ _ _ _ (λp f=>hP p (yE _ f)) k,fE.mono d (λp f=>hP p (tF _ f)) m,rfl,rfl⟩
theorem yH.mono(d:∀c lo hi E b,(∀p∈b,p∈P)->S c lo hi E b->S' c lo hi E b):∀ {l:List It} {lo:Option Ky} {c:Nat} {E:En} {b:List Nat},(∀p∈b,p∈P)->yH S lo c l E b->yH S' lo c l E b
 | [],_,_,_,_,_,h=>h
 | x::l,lo,c,E,b,hP,h=>by obtain⟨f,g,i,j,k,m,rfl,rfl⟩:=h;exact⟨f,g,i,j,d _ _ _ _ _ (λp f=>hP p (yE _ f)) k,yH.mono d (λp f=>hP p (tF _ f)) m,rfl,rfl⟩
theorem nM.mono(b:∀c lo hi E L,(∀p∈L,p∈P)->S c lo hi E L->S' c lo hi E L)(d:∀p∈L,p∈P)(h:nM S B hi E L):nM S' B hi E L:=by
 cases B with
 | nil=>exact h
 | cons f B=>exact fE.mono b d h
theorem fE.focus:∀ {A:List It} {lo:Option Ky} {c:Nat} {E:En} {P:List Nat},fE S lo c (A++B) hi E P ↔ ∃EA PA E0 b EB PB,yH S lo c A EA PA/\S (qO c A) (lS lo A) (oX hi B) E0 b/\nM S B hi EB PB/\E=EA++(E0++EB)/\P=PA++(b++PB)
 | [],lo,c,E,P=>by
  cases B with
  | nil=>
   constructor;·intro d;exact⟨[],[],E,P,[],[],⟨rfl,rfl⟩,d,⟨rfl,rfl⟩,by simp,by simp⟩
   rintro⟨_,_,E0,b,_,_,⟨rfl,rfl⟩,d,⟨rfl,rfl⟩,rfl,rfl⟩;simp only[nG,jH];exact d
  | cons l B=>
   constructor;·rintro⟨f,g,i,j,d,h,rfl,rfl⟩;exact⟨[],[],f,g,i,j,⟨rfl,rfl⟩,d,h,rfl,rfl⟩
   rintro⟨_,_,E0,b,EB,PB,⟨rfl,rfl⟩,d,h,rfl,rfl⟩;exact⟨E0,b,EB,PB,d,h,rfl,rfl⟩
 | y::A,lo,c,E,P=>by
  constructor;·rintro⟨f,g,i,j,d,h,rfl,rfl⟩;obtain⟨EA,PA,E0,b,EB,PB,i,j,k,rfl,rfl⟩:=fE.focus.1 h;exact⟨f++EA,g++PA,E0,b,EB,PB,⟨f,g,EA,PA,d,i,rfl,rfl⟩,j,k,by rw[uF],by rw[uF]⟩
  rintro⟨_,_,E0,b,EB,PB,⟨f,g,EA,PA,d,i,rfl,rfl⟩,j,k,rfl,rfl⟩;exact⟨f,g,EA++(E0++EB),PA++(b++PB),d,fE.focus.2 ⟨EA,PA,E0,b,EB,PB,i,j,k,rfl,rfl⟩,by rw[uF],by rw[uF]⟩
theorem fE.focus2{x:It}:fE S lo c (A++x::B) hi E P ↔ ∃EA PA E1 P1 E2 P2 EB PB,yH S lo c A EA PA/\S (qO c A) (lS lo A) (some x.key) E1 P1/\S x.at_ (some x.key) (oX hi B) E2 P2/\nM S B hi EB PB/\E=EA++((E1++E2)++EB)/\P=PA++((P1++P2)++PB):=by
 constructor;·intro h;obtain⟨EA,PA,E1,P1,i,j,b,d,k,rfl,rfl⟩:=fE.focus.1 h;obtain⟨_,_,E2,P2,EB,PB,⟨rfl,rfl⟩,f,g,rfl,rfl⟩:=(fE.focus (A:=[])).1 (show fE S (some x.key) x.at_ ([]++B) hi i j from k);exact⟨EA,PA,E1,P1,E2,P2,EB,PB,b,d,f,g,by simp,by simp⟩
 rintro⟨EA,PA,E1,P1,E2,P2,EB,PB,b,d,f,g,rfl,rfl⟩;refine fE.focus.2 ⟨EA,PA,E1,P1,E2++EB,P2++PB,b,d,?_,by simp,by simp⟩;exact(fE.focus (A:=[])).2 ⟨[],[],E2,P2,EB,PB,⟨rfl,rfl⟩,f,g,rfl,rfl⟩
theorem fE.cut{x:It}:∀ {A:List It} {lo:Option Ky} {c:Nat} {E:En} {P:List Nat},fE S lo c (A++x::B) hi E P↔∃E1 P1 E2 P2,fE S lo c A (some x.key) E1 P1/\fE S (some x.key) x.at_ B hi E2 P2/\E=E1++E2/\P=P1++P2
 | [],_,_,_,_=>Iff.rfl
 | y::A,lo,c,E,P=>by
  constructor;·rintro⟨E1,P1,E2,P2,h,k,rfl,rfl⟩;obtain⟨b,d,f,g,i,j,rfl,rfl⟩:=fE.cut.1 k;exact⟨E1++b,P1++d,f,g,⟨E1,P1,b,d,h,i,rfl,rfl⟩,j,by rw[uF],by rw[uF]⟩
  rintro⟨_,_,f,g,⟨E1,P1,b,d,h,i,rfl,rfl⟩,j,rfl,rfl⟩;exact⟨E1,P1,b++f,d++g,h,fE.cut.2 ⟨b,d,f,g,i,j,rfl,rfl⟩,by rw[uF],by rw[uF]⟩
end
theorem aFU{lo hi:Option Ky}{E:En}{k:Ky}(h:gL lo (some k) E)(c:kS hi k):gL lo hi E:=λe b=>⟨(h e b).1,λd f=>qE ((h e b).2 k rfl) (c d f)⟩
theorem aFV{lo hi:Option Ky}{E:En}{k:Ky}(h:gL (some k) hi E)(b:wT lo k):gL lo hi E:=λe c=>⟨λa d=>aOW (b a d) ((h e c).1 k rfl),(h e c).2⟩
theorem gL.mid{lo _hi:Option Ky}{E:En}{k:Ky}(h:gL lo (some k) E)(c:E≠[]):wT lo k:=by obtain⟨e,b⟩:=aHo E c;exact λa d f=>(h e b).1 a d (qE ((h e b).2 k rfl) f)
theorem gL.mid2{lo _hi:Option Ky}{E:En}{k:Ky}(h:gL lo (some k) E)(c:E≠[]):∀a,lo=some a->klt a k:=by obtain⟨e,b⟩:=aHo E c;exact λa d=>aBE ((h e b).1 a d) ((h e b).2 k rfl)
theorem gL.midHi{hi:Option Ky}{E:En}{k:Ky}(h:gL (some k) hi E)(d:E≠[]):kS hi k:=by obtain⟨e,b⟩:=aHo E d;exact λc f=>aBE ((h e b).1 k rfl) ((h e b).2 c f)
theorem sI.append{E1 E2:En}{k:Ky}{lo hi:Option Ky}(h1:sI E1)(h2:sI E2)(w1:gL lo (some k) E1)(c:gL (some k) hi E2):sI (E1++E2):=by refine wQ.2 ⟨h1,h2,λa b d f=>?_⟩;exact zW ((w1 a b).2 k rfl) ((c d f).1 k rfl)
structure aHS (S:aW):Prop where
 all:∀c lo hi E P,S c lo hi E P->sI E/\gL lo hi E/\E≠[]
theorem fE.fine{S:aW}(g:aHS S){hi:Option Ky}:∀ {l:List It} {lo:Option Ky} {c:Nat} {E:En} {P:List Nat},fE S lo c l hi E P->sI E/\gL lo hi E/\E≠[]
 | [],_,_,_,_,h=>g.all _ _ _ _ _ h
 | x::l,lo,_,_,_,⟨E1,P1,E2,P2,h1,h2,rfl,rfl⟩=>by
  obtain⟨b,d,i⟩:=g.all _ _ _ _ _ h1;obtain⟨j,f,k⟩:=fE.fine g h2;refine⟨b.append j d f,λe b=>?_,λe=>i (List.append_eq_nil_iff.1 e).1⟩;obtain b|b:=sD.1 b;·exact aFU d (f.midHi k) e b
  exact aFV f (d.mid (_hi:=hi) i) e b
theorem fE.keys{S:aW}(d:aHS S){hi:Option Ky}:∀ {l:List It} {lo:Option Ky} {c:Nat} {E:En} {P:List Nat},fE S lo c l hi E P->(l.Pairwise λb f=>klt b.key f.key)/\∀b∈l,(∀a,lo=some a->klt a b.key)/\kS hi b.key
 | [],_,_,_,_,_=>⟨List.Pairwise.nil,λb g=>by cases g⟩
 | b::l,lo,_,_,_,⟨E1,P1,E2,P2,h1,h2,rfl,rfl⟩=>by
  obtain⟨n,h,i⟩:=d.all _ _ _ _ _ h1;obtain⟨o,j,k⟩:=fE.fine d h2;obtain⟨m,g⟩:=fE.keys d h2;refine⟨lF.2 ⟨λf b=>(g f b).1 _ rfl,m⟩,λf b=>?_⟩;obtain rfl|b:=bB.1 b;·exact⟨h.mid2 (_hi:=hi) i,j.midHi k⟩
  exact⟨λa j=>qE (h.mid2 (_hi:=hi) i a j) ((g f b).1 _ rfl),(g f b).2⟩
theorem yH.less{S:aW}(i:aHS S):∀ {A:List It} {lo:Option Ky} {c:Nat} {E:En} {P:List Nat},yH S lo c A E P->(A.Pairwise λd g=>klt d.key g.key)->∀e∈E,∃a,lS lo A=some a/\klt e.1 a
 | [],_,_,_,_,h,_,e,b=>by obtain⟨rfl,_⟩:=h;cases b
 | [d],_,_,_,_,h,_,e,b=>by obtain⟨j,k,l,m,f,⟨rfl,_⟩,rfl,_⟩:=h;rw[jH]at b;exact⟨d.key,rfl,((i.all _ _ _ _ _ f).2.1 e b).2 _ rfl⟩
 | d::g::A,_,_,_,_,h,hp,e,b=>by
  obtain⟨j,k,l,m,f,d,rfl,_⟩:=h;have g:=(lF.1 hp);obtain b|b:=sD.1 b;·have k:=((i.all _ _ _ _ _ f).2.1 e b).2 _ rfl;obtain⟨p,q,r,s,f,t,l,u⟩:=id d;obtain⟨_,m,n⟩:=i.all _ _ _ _ _ f;obtain⟨f,j⟩:=aHo _ n;obtain⟨a,n,o⟩:=yH.less i d g.2 f (by rw[l];exact yE _ j);exact⟨a,n,qE (zW k ((m f j).1 _ rfl)) o⟩
  exact yH.less i d g.2 e b
theorem nM.more{S:aW}(d:aHS S){B:List It}{hi:Option Ky}{E:En}{P:List Nat}(h:nM S B hi E P):∀e∈E,∃b,oX hi B=some b/\¬ klt e.1 b:=by
 cases B with
 | nil=>obtain⟨rfl,_⟩:=h;intro e c;cases c
 | cons f B=>exact λe c=>⟨f.key,rfl,((fE.fine d h).2.1 e c).1 _ rfl⟩
section
variable {N N':Nat->Option Nd}{h at_:Nat}{n:Nd}{lo hi:Option Ky}{E:En}{P:List Nat}
theorem NF.fine:∀ {h:Nat} {n:Nd} {lo hi:Option Ky} {E:En} {P:List Nat},NF N h n lo hi E P->sI E/\gL lo hi E/\(1<=li n.l∨1<=h->E≠[])
 | 0,n,_,_,_,_,⟨_,rfl,_,b,c⟩=>⟨b,c,λj e=>by
  have f:li n.l=0:=by have:=congrArg List.length e;simpa[mC]using this
  omega⟩
 | h+1,n,_,_,_,_,hn=>by have g:aHS (Sub N 1 h):=⟨λg lo hi E P ⟨n,k,_,_,_,f,_,i⟩=>by obtain⟨b,c,d⟩:=NF.fine i;exact⟨b,c,d (Ii f)⟩⟩;obtain⟨b,c,d⟩:=fE.fine g hn.2;exact⟨b,c,λ_=>d⟩
theorem Sub.fine:aHS (Sub N 1 h):=⟨λi j k l m ⟨n,o,_,_,_,f,_,g⟩=>by obtain⟨b,c,d⟩:=NF.fine g;exact⟨b,c,d (Ii f)⟩⟩
theorem NF.congr:∀ {h:Nat} {n:Nd} {lo hi:Option Ky} {E:En} {P:List Nat},NF N h n lo hi E P->(∀p∈P,N' p=N p)->NF N' h n lo hi E P
 | 0,_,_,_,_,_,hn,_=>hn
 | h+1,n,_,_,_,P,hn,hN=>by refine⟨hn.1,fE.mono (P:=P) (λc lo hi E m d=>?_) (λp b=>b) hn.2⟩;rintro⟨n,f,g,i,j,k,rfl,l⟩;exact⟨n,f,by rw[hN c (d c (eC ..))];exact g,i,j,k,rfl,NF.congr l (λp b=>hN p (d p (jD _ b)))⟩
theorem Sub.congr(g:Sub N m h at_ lo hi E P)(b:∀p∈P,N' p=N p):Sub N' m h at_ lo hi E P:=by obtain⟨c,d,f,i,j,k,rfl,l⟩:=g;exact⟨c,d,by rw[b at_ (eC ..)];exact f,i,j,k,rfl,l.congr (λp c=>b p (jD _ c))⟩
theorem Sub.head(b:Sub N m h at_ lo hi E P):at_∈P:=by obtain⟨c,d,_,_,_,_,rfl,_⟩:=b;exact eC ..
theorem NF.kind(b:NF N h n lo hi E P):n.lf=decide (h=0):=by
 cases h with
 | zero=>exact b.1
 | succ h=>rw[b.1];rfl
theorem fE.count{S:aW}{q:Nat}(d:∀c lo hi E P,S c lo hi E P->li P+1<=2*li E/\q<=li E){hi:Option Ky}:∀ {l:List It} {lo:Option Ky} {c:Nat} {E:En} {P:List Nat},fE S lo c l hi E P->li P+li l+1<=2*li E/\q*(li l+1)<=li E
 | [],_,_,_,_,hk=>by have:=d _ _ _ _ _ hk;simpa using this
 | x::l,_,_,_,_,⟨E1,P1,E2,P2,h1,h2,rfl,rfl⟩=>by have a:=d _ _ _ _ _ h1;have b:=fE.count d h2;rw[iB,iB,bD,Nat.mul_succ];omega
theorem NF.count:∀ {h:Nat} {n:Nd} {lo hi:Option Ky} {E:En} {P:List Nat},NF N h n lo hi E P->1<=li n.l->li P+2<=2*li E/\2^h<=li E
 | 0,n,_,_,_,_,⟨_,rfl,rfl,_,_⟩,b=>by
  have e:li (mC n.l)=li n.l:=by simp[mC]
  rw[e];simp;omega
 | h+1,n,_,_,_,_,hn,b=>by
  have d:∀c lo hi E P,Sub N 1 h c lo hi E P->li P+1<=2*li E/\2^h<=li E:=by rintro c lo hi E P ⟨n,f,_,_,_,b,rfl,c⟩;have:=NF.count c b;rw[bD];omega
  have b:=fE.count d hn.2;have c:2^h*2<=2^h*(li n.l+1):=Nat.mul_le_mul_left _ (by omega);rw[Nat.pow_succ];omega
theorem Sub.count(d:Sub N 1 h at_ lo hi E P):li P+1<=2*li E/\2^h<=li E:=by obtain⟨f,g,_,_,_,b,rfl,c⟩:=d;have:=NF.count c b;rw[bD];omega
end
theorem yH.count{S:aW}(d:∀c lo hi E P,S c lo hi E P->li P+1<=2*li E):∀ {A:List It} {lo:Option Ky} {c:Nat} {E:En} {P:List Nat},yH S lo c A E P->li P+li A<=2*li E
 | [],_,_,_,_,h=>by obtain⟨rfl,rfl⟩:=h;simp
 | x::l,_,_,_,_,h=>by obtain⟨g,i,j,k,b,f,rfl,rfl⟩:=h;have a:=d _ _ _ _ _ b;have b:=yH.count d f;rw[iB,iB,bD];omega
theorem nM.count{S:aW}(b:∀c lo hi E P,S c lo hi E P->li P+1<=2*li E){B:List It}{hi:Option Ky}{E:En}{P:List Nat}(h:nM S B hi E P):li P+li B<=2*li E:=by
 cases B with
 | nil=>obtain⟨rfl,rfl⟩:=h;simp
 | cons d B=>have:=(fE.count (q:=0) (λc lo hi E P h=>⟨b c lo hi E P h,uB _⟩) (show fE S (some d.key) d.at_ B hi E P from h)).1;rw[bD];omega
def kQ (lf:Bool) (lim:Nat):List It->Nat->Nat->Nat
 | x::y::l,k,s=>if 2*s<lim then kQ lf lim (y::l) (k+1) (s+ibn lf x) else k
 | _,k,_=>k
def Nd.half (n:Nd):Nat:=max (kQ n.lf (n.size-3) n.l 0 0) 1
def Nd.cutAt (n:Nd):Nat:=if n.lf then n.half else min n.half (n.l.length-2)
def Nd.left (n:Nd):Nd:=⟨n.lf,n.first,n.l.take n.cutAt⟩
def Nd.key (n:Nd):Ky:=((n.l[n.cutAt]?).map (·.key)).getD []
def Nd.right (n:Nd):Nd:=if n.lf then ⟨true,0,n.l.drop n.cutAt⟩ else ⟨false,((n.l[n.cutAt]?).map (·.at_)).getD 0,n.l.drop (n.cutAt+1)⟩
def aF (lf:Bool) (l:List It):Nat:=(l.map (ibn lf)).sum
theorem cD(lf:Bool)(x:It)(l:List It):aF lf (x::l)=ibn lf x+aF lf l:=rfl
theorem gC(lf:Bool)(a b:List It):aF lf (a++b)=aF lf a+aF lf b:=by unfold aF;rw[tQ,List.sum_append]
theorem cF(n:Nd):n.size=(if n.lf then 3 else 5)+aF n.lf n.l:=rfl
theorem aCj(lf:Bool)(b:Nat):∀(l:List It) (k s:Nat),∃j,kQ lf b l k s=k+j/\(j<=li l-1)/\(j=0∨∃x,l[j-1]? = some x/\2*(s+aF lf (l.take (j-1)))<b/\aF lf (l.take j)=aF lf (l.take (j-1))+ibn lf x)/\(j=li l-1∨b<=2*(s+aF lf (l.take j)))
 | [],k,s=>⟨0,rfl,by simp,Ii rfl,Ii rfl⟩
 | [x],k,s=>⟨0,rfl,by simp,Ii rfl,Ii rfl⟩
 | x::y::l,k,s=>by
  unfold kQ;by_cases h:2*s<b
  ·rw[iA h];obtain⟨j,h1,h2,h3,c⟩:=aCj lf b (y::l) (k+1) (s+ibn lf x);have f:kQ lf b (y::l) (k+1) (s+ibn lf x)=k+(j+1):=(by rw[h1];omega);have g:j+1<=li (x::y::l)-1:=(by clear h3 c;simp only[bD]at h2⊢;omega);refine⟨j+1,f,g,Ij ?_,?_⟩
   ·obtain rfl|⟨z,m,n,d⟩:=h3
    ·exact⟨x,rfl,by simpa[aF]using h,by simp[aF]⟩
    obtain⟨i,rfl⟩:∃i,j=i+1:=by
     obtain _|j:=j;·exfalso;simp[aF]at d;unfold ibn at d;split at d<;>omega
     exact⟨j,rfl⟩
    simp only[Nat.add_sub_cancel]at m n d⊢;rw[oH,cD]at d;refine⟨z,by simpa using m,?_,?_⟩;·rw[oH,cD];omega
    rw[oH,oH,cD,cD,oH,cD];omega
   obtain c|c:=c;·left;simp only[bD]at c⊢;omega
   right;rw[oH,cD];omega
  rw[eA h];exact⟨0,rfl,by simp,Ii rfl,Ij (by simp[aF];omega)⟩
theorem aCM{lf:Bool}{l:List It}{q:Nat}(h:∀x∈l,ibn lf x<=q):aF lf l<=q*li l:=by
 induction l with
 | nil=>simp[aF]
 | cons b l c=>have:=c (λx c=>h x (jD _ c));have:=h b (eC ..);rw[cD,bD,Nat.mul_succ];omega
theorem aHT{lf:Bool}{x:It}(h:x.ok lf):ibn lf x<=if lf then 162 else 99:=by have:=h.k2;have:=h.v;unfold ibn;split<;>omega
theorem pP(lf:Bool)(l:List It)(k:Nat):aF lf (l.take k)+aF lf (l.drop k)=aF lf l:=by rw[<- gC,bL]
theorem aOY{lf:Bool}{l:List It}{k:Nat}{x:It}(b:l[k]? = some x):aF lf (l.drop k)=ibn lf x+aF lf (l.drop (k+1)):=by obtain⟨c,d⟩:=uC.1 b;rw[xM c,d,cD]
theorem Z56{P:Prop} (h:P:=by
 have hd:=aCM (l:=l.drop (k+1)) (fun y hy=>hq y (pJ hy));rw[vB] at hd;have:l.length - (k+1)=1:=by omega
 rw[this] at hd;omega):P:=h
theorem Nd.split_ok{n:Nd}(h:n.ok)(c:512<n.size)(A:n.size<=if n.lf then 680 else 780): n.cutAt<li n.l/\1<=n.cutAt/\n.left.size<=512/\n.right.size<=512/\1<=li n.left.l/\1<=li n.right.l/\n.left.ok/\n.right.ok:=by
 obtain⟨lf,first,l⟩:=n;obtain⟨h1,h2,h3,u⟩:=h;simp only at h1 h2 h3 u;have hq:∀x∈l,ibn lf x<=if lf then 162 else 99:=λx o=>aHT (h2 x o)
 have p:Nd.size ⟨lf,first,l⟩=(if lf then 3 else 5)+aF lf l:=rfl;have q:=aCM hq;obtain⟨j,C,I,g,f⟩:=aCj lf (Nd.size ⟨lf,first,l⟩ - 3) l 0 0;rw[nB]at C;have d:Nd.half ⟨lf,first,l⟩=max j 1:=by unfold Nd.half;simp only;rw[C]
 rw[p]at c A g f;simp only[nB]at g f;have r:1<=j:=by
  clear g;obtain f|f:=f;·cases lf<;>simp only[vG,eF,nH]at c q⊢<;>omega
  obtain rfl|r:=iT j;·exfalso;simp only[yI]at f;have:aF lf ([]:List It)=0:=rfl;cases lf<;>simp only[vG,eF,nH]at c f<;>omega
  exact r
 have i:max j 1=j:=by clear g;omega
 rw[i]at d;have s:∃x,l[j-1]? = some x/\2*aF lf (l.take (j-1))<(if lf then 3 else 5)+aF lf l-3/\aF lf (l.take j)=aF lf (l.take (j-1))+ibn lf x:=by
  obtain g|g:=g;·omega
  exact g
 clear g;obtain⟨x,G,D,J⟩:=s;have o:=hq x (kF G);cases lf with
 | true=>
  simp only[vG]at c A q f D o hq;have b:Nd.cutAt ⟨true,first,l⟩=j:=by unfold Nd.cutAt;simp only[vG];exact d
  have ht:=pP true l j;have t:j<li l:=by omega
  have E:aF true (l.drop j)<=400:=by
   obtain f|f:=f;·have hd:=aCM (l:=l.drop j) (λy hy=>hq y (pJ hy));rw[vB]at hd;have:li l-j=1:=(by omega);rw[this]at hd;omega
   omega
  refine⟨by rw[b];exact t,by rw[b];exact r,?_,?_,?_,?_,⟨?_,?_,h3,u⟩,⟨?_,?_,?_,?_⟩⟩;·show(if true then 3 else 5)+aF true (l.take (Nd.cutAt ⟨true,first,l⟩))<=512;rw[b,iA rfl];omega
  ·show(if true then 3 else 5)+aF true (l.drop (Nd.cutAt ⟨true,first,l⟩))<=512;rw[b,iA rfl];omega
  ·show 1<=li (l.take (Nd.cutAt ⟨true,first,l⟩));rw[b,pB];omega
  ·show 1<=li (l.drop (Nd.cutAt ⟨true,first,l⟩));rw[b,vB];omega
  ·show(l.take (Nd.cutAt ⟨true,first,l⟩)).length<65536;rw[b,pB];omega
  ·exact λy hy=>h2 y (yM hy)
  ·show(l.drop (Nd.cutAt ⟨true,first,l⟩)).length<65536;rw[b,vB];omega
  ·exact λy hy=>h2 y (pJ hy)
  ·exact Nat.zero_lt_succ _
  exact λ_=>rfl
 | false=>
  simp only[eF,nH]at c A q f D o hq;have B:4<=li l:=by omega
  have b:Nd.cutAt ⟨false,first,l⟩=min j (li l-2):=by unfold Nd.cutAt;simp only[eF,nH];rw[d]
  obtain⟨k,H⟩:=nm (min j (li l-2));rw[<- H]at b;have ht:=pP false l k;have m:k<li l:=by omega
  obtain⟨y,hy⟩:=gx (l:=l) m;have hd:=aOY (lf:=false) hy;have F:aF false (l.take k)<=aF false (l.take j):=by have e:l.take k=(l.take j).take k:=(by rw[List.take_take,gO (by omega)]);rw[e];have:=pP false (l.take j) k;omega
  have E:aF false (l.drop (k+1))<=450:=by
   obtain f|f:=f;·exact Z56
   by_cases z:k=j;·rw[z]at ht hd⊢;omega
   exact Z56
  refine⟨by rw[b];exact m,by rw[b];omega,?_,?_,?_,?_,⟨?_,?_,h3,u⟩,⟨?_,?_,?_,?_⟩⟩;·show(if false=true then 3 else 5)+aF false (l.take (Nd.cutAt ⟨false,first,l⟩))<=512;rw[b,eA (by decide)];omega
  ·show(if false=true then 3 else 5)+aF false (l.drop (Nd.cutAt ⟨false,first,l⟩+1))<=512;rw[b,eA (by decide)];omega
  ·show 1<=li (l.take (Nd.cutAt ⟨false,first,l⟩));rw[b,pB];omega
  ·show 1<=li (l.drop (Nd.cutAt ⟨false,first,l⟩+1));rw[b,vB];omega
  ·show(l.take (Nd.cutAt ⟨false,first,l⟩)).length<65536;rw[b,pB];omega
  ·exact λy hy=>h2 y (yM hy)
  ·show(l.drop (Nd.cutAt ⟨false,first,l⟩+1)).length<65536;rw[b,vB];omega
  ·exact λy hy=>h2 y (pJ hy)
  ·show((l[Nd.cutAt ⟨false,first,l⟩]?).map (·.at_)).getD 0<65536;rw[b,hy];exact(h2 y (kF hy)).at_
  intro h;cases h
def Nd.with_ (n:Nd) (key:Ky) (r:Nd):Nd:=⟨n.lf,n.first,(if n.lf then n.l else n.l++[⟨key,[],r.first⟩])++r.l⟩
section
variable {N:Nat->Option Nd}{h:Nat}{n a b:Nd}{lo hi:Option Ky}{E E1 E2:En}{P P1 P2:List Nat}{k:Ky}
theorem rF(a b:List It):mC (a++b)=mC a++mC b:=by unfold mC;rw[tQ]
theorem NF.split(G:NF N h n lo hi E P)(W:n.cutAt<li n.l)(h1:1<=n.cutAt):∃E1 P1 E2 P2,NF N h n.left lo (some n.key) E1 P1/\NF N h n.right (some n.key) hi E2 P2/\E=E1++E2/\P=P1++P2/\kS hi n.key/\wT lo n.key:=by
 obtain⟨lf,first,l⟩:=n;obtain⟨x,q⟩:∃x,l[Nd.cutAt ⟨lf,first,l⟩]? = some x:=⟨_,kE W⟩;have H:Nd.key ⟨lf,first,l⟩=x.key:=by unfold Nd.key;rw[q];rfl
 have i:l.drop (Nd.cutAt ⟨lf,first,l⟩)=x::l.drop (Nd.cutAt ⟨lf,first,l⟩+1):=by obtain⟨I,J⟩:=uC.1 q;rw[xM I,J]
 have s:l=l.take (Nd.cutAt ⟨lf,first,l⟩)++x::l.drop (Nd.cutAt ⟨lf,first,l⟩+1):=by rw[<- i,bL]
 rw[H];cases h with
 | zero=>
  obtain⟨d,C,L,M,r⟩:=G;simp only at d C;subst d;obtain⟨j,g⟩:=nm (Nd.cutAt ⟨true,first,l⟩);rw[<- g]at q i s h1;have t:Nd.left ⟨true,first,l⟩=⟨true,first,l.take j⟩:=by unfold Nd.left;rw[<- g]
  have u:Nd.right ⟨true,first,l⟩=⟨true,0,l.drop j⟩:=by unfold Nd.right;simp only[vG];rw[<- g]
  rw[t,u];have c:E=mC (l.take j)++mC (l.drop j):=by rw[C,<- rF,bL]
  have m:=M;rw[c]at m;obtain⟨O,z,Q⟩:=wQ.1 m;have o:(x.key,x.v)∈mC (l.drop j):=by rw[i];exact eC ..
  have p:(x.key,x.v)∈E:=by rw[c];exact tF _ o
  refine⟨mC (l.take j),[],mC (l.drop j),[],⟨rfl,rfl,rfl,O,λe f=>⟨(r e (by rw[c];exact yE _ f)).1,λb A=>?_⟩⟩,⟨rfl,rfl,rfl,z,λe f=>⟨λa B=>?_,(r e (by rw[c];exact tF _ f)).2⟩⟩,c,L,(r _ p).2,(r _ p).1⟩;·injection A with A;rw[<- A];exact Q e f _ o
  injection B with B;rw[<- B];rw[i]at f z;obtain rfl|f:=bB.1 f;·exact bC _
  exact jS ((lF.1 z).1 e f)
 | succ h=>
  obtain⟨d,hK⟩:=G;simp only at d hK;subst d;obtain⟨j,g⟩:=nm (Nd.cutAt ⟨false,first,l⟩);rw[<- g]at q i s;have t:Nd.left ⟨false,first,l⟩=⟨false,first,l.take j⟩:=by unfold Nd.left;rw[<- g]
  have u:Nd.right ⟨false,first,l⟩=⟨false,x.at_,l.drop (j+1)⟩:=by unfold Nd.right;simp only[eF,nH];rw[<- g,q];rfl
  rw[t,u];have y:fE (Sub N 1 h) lo first (l.take j++x::l.drop (j+1)) hi E P:=by rw[<- s];exact hK
  obtain⟨E1,P1,E2,P2,D,F,S,T⟩:=fE.cut.1 y;obtain⟨_,U,V⟩:=fE.fine Sub.fine D;obtain⟨_,c2,c3⟩:=fE.fine Sub.fine F;exact⟨E1,P1,E2,P2,⟨rfl,D⟩,⟨rfl,F⟩,S,T,c2.midHi c3,U.mid (_hi:=hi) V⟩
theorem NF.with_(m:NF N h a lo (some k) E1 P1)(i:NF N h b (some k) hi E2 P2)(h1:kS hi k)(h2:wT lo k):NF N h (a.with_ k b) lo hi (E1++E2) (P1++P2):=by
 obtain⟨n,first,d⟩:=a;cases h with
 | zero=>
  obtain⟨rfl,rfl,rfl,c,f⟩:=m;obtain⟨j,rfl,rfl,l,g⟩:=i;refine⟨rfl,?_,rfl,c.append l f g,λe c=>?_⟩;·show _=mC (d++b.l);rw[rF]
  obtain c|c:=sD.1 c;·exact aFU f h1 e c
  exact aFV g h2 e c
 | succ h=>
  obtain⟨rfl,hK⟩:=m;obtain⟨j,c⟩:=i;refine⟨rfl,?_⟩;show fE (Sub N 1 h) lo first ((d++[⟨k,[],b.first⟩])++b.l) hi (E1++E2) (P1++P2)
  rw[uF];exact fE.cut.2 ⟨E1,P1,E2,P2,hK,c,rfl,rfl⟩
theorem aFW(d:a.lf=b.lf)(k:Ky):(a.with_ k b).size=if a.lf then a.size+b.size-3 else a.size+b.size+li k-2:=by
 obtain⟨g,first,c⟩:=a;obtain⟨i,h,f⟩:=b;simp only at d;subst d;cases g with
 | true=>show 3+aF true (c++f)=3+aF true c+(3+aF true f)-3;rw[gC];omega
 | false=>show 5+aF false ((c++[⟨k,[],h⟩])++f)=5+aF false c+(5+aF false f)+li k-2;rw[gC,gC,cD];show _+(_+(3+li k+0)+_)=_;omega
theorem aNq(f:a.ok)(i:b.ok)(j:a.lf=b.lf)(m:1<=li k/\li k<=96)(p:li a.l+li b.l<65535):(a.with_ k b).ok:=by
 obtain⟨h,first,g⟩:=a;obtain⟨q,l,n⟩:=b;simp only at j p;subst j;refine⟨?_,λd o=>?_,f.first,f.bare⟩
 ·show((if h then g else g++[⟨k,[],l⟩])++n).length<65536;rw[iB];split
  ·omega
  rw[iB];simp only[LN];omega
 have c:d∈(if h then g else g++[⟨k,[],l⟩])++n:=o;show d.ok h;obtain c|c:=sD.1 c
 ·split at c
  ·exact f.item d c
  rename_i g;obtain c|c:=sD.1 c;·exact f.item d c
  simp only[xA]at c;subst c;exact⟨m.1,m.2,uB _,i.first,by rw[eA g]⟩
 exact i.item d c
end
end Go.Proofs.YtebjhcjbfaaejaaGreatDoor
