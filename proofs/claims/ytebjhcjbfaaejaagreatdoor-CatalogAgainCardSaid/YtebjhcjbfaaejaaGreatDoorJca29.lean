/-
  Joined: CcK CcL CcI CcM CgC CgD CgE
-/
import Derived.Test.YtebjhcjbfaaejaaGreatDoorJca28
set_option maxRecDepth 100000
set_option maxHeartbeats 32000000
namespace Go.Proofs.YtebjhcjbfaaejaaGreatDoor
open Go.Proofs.Tryz
variable {k i j m d s:Nat}{W:World}{S:PS}
section
theorem aJe(x:Nat×List UInt8):∀m:PgM,(pT x m).length=m.length+1
 | []=>rfl
 | y::m=>by
  unfold pT
  split
  ·rfl
  ·rw[gD,aJe x m,gD]
theorem aJf(m:PgM)(k:Nat)(b:List UInt8):(cO m k b).length<=m.length+1:=by
 unfold cO;rw[aJe];have:=yW (fun p:Nat×List UInt8=>!decide (p.1=k)) m;omega
section
variable {s : PS} {E : Nat -> En} {t : Nat} {key v : Ky}
theorem aJg(k:oI s.page s.n E)(ht:t<8)(h1:1<=key.length)(h2:key.length<=96)(h3:v.length<=64)(m:(E t).length<1099511627776)(c:2*(uH (E t) key v).length+2*(aEY E t).length<s.n):
  ∃c',putC (aC s.page s.n) t ⟨key,v,0⟩=some c'/\putS ⟨s,E⟩ t key v=(⟨endS s c',sD E t (uH (E t) key v)⟩,0)/\∃P F,vH c' (sD E t (uH (E t) key v)) P F:=by
 obtain⟨_,_,P,F,d⟩:=k;obtain⟨c',f,_,i⟩:=aDl (x:=⟨key,v,0⟩) d ht ⟨h1,h2,h3,by show 0<65536;omega,rfl⟩ m;rcases i with ⟨P2,j,g⟩|⟨_,b⟩
 ·exact⟨c',f,aIq f g.e,P2,j,g⟩
 ·have:=qX d t;have h:=(nG s.page s.n).2.1;rw[h]at b;have b:s.n<=2*(uH (E t) key v).length+(xK P t).length:=b;omega
theorem aFt(z:oI s.page s.n E)(ht:t<8)(A:E t=[])(h1:1<=key.length)(h2:key.length<=96)(h3:v.length<=64)(i:2+2*(aEY E t).length<s.n):
  ∃s',putS ⟨s,E⟩ t key v=(⟨s',sD E t [(key,v)]⟩,0)/\oI s'.page s.n (sD E t [(key,v)])/\s'.late.length<=s.late.length+2/\s'.n=s.n:=by
 have m:uH (E t) key v=[(key,v)]:=by rw[A];rfl
 obtain⟨c',d,D,P2,F2,x⟩:=aJg (E:=E) z ht h1 h2 h3 (by rw[A];decide) (by rw[m];exact i);rw[m]at D x;have g:=aIm z;obtain⟨G,H,I,J,L⟩:=nG s.page s.n;obtain⟨_,j,P,F,y⟩:=z;obtain⟨c,V⟩:=nm (aC s.page s.n);rw[<- V]at d g G H I J L y
 have N:c.roots t=0:=by
  rcases y.tree t ht with ⟨a,_⟩|⟨_,h,W⟩
  ·exact a
  ·exact absurd A (Sub.fine.all _ _ _ _ _ W).2.2
 unfold putC at d;rw[iA N]at d;have d:=fG d;rcases aZ y.acc L with ⟨_,_,q,X,Y,F',b⟩|⟨_,Z,_⟩
 ·have r:=b.mem (k:=c.alloc.2) (.inl (sB ..));have O:=b.next2;have Q:=b.few;have w1:WfW c.alloc.1:=⟨b.few,b.next2,b.head,fun k r=>by rw[q.pg];rw[q.n]at r;exact g.pg k r,b.wf.rM,b.wf.rS,fun p j=>⟨(b.wf.mM p j).2.1,(b.wf.mM p j).2.2⟩,fun p j=>⟨(b.wf.mS p j).2.1,(b.wf.mS p j).2.2⟩,fun k=>by rw[q.roots];exact g.roots k⟩;have f:Nd.ok ⟨true,0,[⟨key,v,0⟩]⟩/\Nd.size ⟨true,0,[⟨key,v,0⟩]⟩<=512:=aKo ⟨h1,h2,h3,by show 0<65536;omega,rfl⟩
  have T:WfW c':=by
   rw[<- d];exact(w1.root (t:=t) (v:=c.alloc.2) (by omega)).write (by show c.alloc.2<c.alloc.1.n;omega) f.1 f.2
  have B:c'.M=[(c.alloc.2,⟨true,0,[⟨key,v,0⟩]⟩)]:=by
   rw[<- d]
   show vY c.alloc.1.M _ _=_
   rw[X,I]
   rfl
  have o:c'.S=[]:=by
   rw[<- d]
   show aAI c.alloc.1.S _=_
   rw[Y,J]
   rfl
  have u:c'.pg=s.page:=by
   rw[<- d]
   show c.alloc.1.pg=_
   rw[q.pg,G]
  have U:c'.n=s.n:=by
   rw[<- d]
   show c.alloc.1.n=_
   rw[q.n,H]
  refine⟨endS s c',D,lZ x u U T,?_,?_⟩
  ·unfold endS pX vV;rw[B,o];exact aF (aJf _ _ _) (Nat.succ_le_succ (aJf _ _ _))
  ·unfold endS pX vV;rw[B,o]
   rfl
 ·have C:=x.e;rw[<- d,Z]at C
  cases C
end
def awA:OpV:=⟨1,⟨#[97]⟩,0,⟨#[]⟩⟩
def awB:OpV:=⟨3,⟨#[97]⟩,1,⟨#[120]⟩⟩
def awC:OpV:=⟨3,⟨#[97]⟩,2,⟨#[121]⟩⟩
def awD:OpV:=⟨4,⟨#[97]⟩,9,⟨#[]⟩⟩
def aw1:Ct:=[([97],[(1,[120])])]
theorem aSf:doC [] [] [awA.op,awB.op]=(aw1,0):=by decide +kernel
theorem aRj:aPW aw1 [97] 1=([120],true,0):=by decide +kernel
theorem aRk:aPW aw1 [97] 2=([],false,0):=by decide +kernel
theorem aMm:∀o∈[awA.op,awB.op,awC.op,awD.op],OkO o:=by
 intro o b;simp only[kB,yG,aG]at b;unfold OkO;rcases b with rfl|rfl|rfl|rfl<;>decide
theorem nm97:nmB [97]=true:=by decide +kernel
def awE:Nat->En:=sD (sD (fun _=>[]) 1 [(nmK [97],[])]) 0 [(nB [97] [1,0],pc [120] 0)]
theorem aSg{s:PS}(h:Liv k 0 ⟨s,fun _=>[]⟩ [])(g:s.n=20):∃c,allS ⟨s,fun _=>[]⟩ [awA.op,awB.op]=(⟨c,awE⟩,0)/\c.late.length<=4:=by
 have i:=h.com.store h.late;have j:s.late=[]:=h.late;obtain⟨b,q,r,u,f⟩:=aFt (t:=1) (key:=nmK [97]) (v:=[]) i (by omega) rfl (by decide +kernel) (by decide +kernel) (by decide) (by show 2+2*(aEY (fun _=>[]) 1).length<s.n;rw[g];decide +kernel);have d:oI b.page b.n (sD (fun _=>[]) 1 [(nmK [97],[])]):=by rw[f];exact r
 obtain⟨c,x,_,y,_⟩:=aFt (t:=0) (key:=nB [97] [1,0]) (v:=pc [120] 0) d (by omega) rfl (by decide +kernel) (by decide +kernel) (by decide +kernel) (by rw[f,g];decide +kernel)
 have m:oneS ⟨s,fun _=>[]⟩ awA.op=(⟨b,sD (fun _=>[]) 1 [(nmK [97],[])]⟩,0):=by
  rw[<- q];unfold oneS kW;rw[iA (show awA.op.what=1 from rfl),show awA.op.coll=[97] from rfl,nm97,eA (by decide),eA (show ¬ jS [] (nmK [97])=true by decide +kernel)]
 have o:oneS ⟨b,sD (fun _=>[]) 1 [(nmK [97],[])]⟩ awB.op=(⟨c,awE⟩,0):=by
  have hi:isS ⟨b,sD (fun _=>[]) 1 [(nmK [97],[])]⟩ [97]=true:=by
   unfold isS;rw[nm97]
   show jS [(nmK [97],[])] (nmK [97])=true
   decide +kernel
  have p:rC (sD (fun _=>[]) 1 [(nmK [97],[])] 0) (nB [97] [1])=[]:=rfl;have hcut:cutS ⟨b,sD (fun _=>[]) 1 [(nmK [97],[])]⟩ (nB [97] [1])=(⟨b,sD (fun _=>[]) 1 [(nmK [97],[])]⟩,0):=by unfold cutS;rw[p];rfl
  unfold oneS;rw[eA (show ¬ awB.op.what=1 by decide),iA (show awB.op.what=2∨awB.op.what=3∨awB.op.what=4 by decide),show awB.op.coll=[97] from rfl,hi,eA (by decide),eA (show ¬ awB.op.what=2 by decide),iA (show awB.op.what=3 from rfl)];unfold qZ;rw[show awB.op.id=1 from rfl,show awB.op.text=[120] from rfl,show idB 1=true from by decide,eA (by decide),eA (by decide),show(1:Int).toNat=1 from rfl,hcut,iA rfl,show np [120]=1 from by decide];unfold layS;rw[x,iA rfl]
  rfl
 refine⟨c,?_,?_⟩
 ·unfold allS;rw[m,iA rfl];unfold allS;rw[o,iA rfl]
  rfl
 ·rw[j]at u;have:([]:PgM).length=0:=rfl;omega
theorem aRl{s:PS}{N:Nat}(h:Liv k N ⟨s,awE⟩ aw1)(o:s.n=20):(allS ⟨s,awE⟩ [awC.op,awD.op]).2=6:=by
 have j:oI s.page s.n awE:=h.com.store h.late
 have hi:isS ⟨s,awE⟩ [97]=true:=by
  unfold isS;rw[nm97]
  show jS (awE 1) (nmK [97])=true
  decide +kernel
 have hcut:cutS ⟨s,awE⟩ (nB [97] [2])=(⟨s,awE⟩,0):=by
  have c:rC ((⟨s,awE⟩:SE).E 0) (nB [97] [2])=[]:=(show rC (awE 0) (nB [97] [2])=[] by decide +kernel);unfold cutS;rw[c]
  rfl
 obtain⟨c',_,i,_⟩:=aJg (t:=0) (key:=nB [97] [2,0]) (v:=pc [121] 0) j (by omega) (by decide +kernel) (by decide +kernel) (by decide +kernel) (by decide +kernel) (by rw[o];decide +kernel);obtain⟨b,f⟩:=nm (endS s c');rw[<- f]at i
 have m:oneS ⟨s,awE⟩ awC.op=(⟨b,sD awE 0 (uH (awE 0) (nB [97] [2,0]) (pc [121] 0))⟩,0):=by
  unfold oneS;rw[eA (show ¬ awC.op.what=1 by decide),iA (show awC.op.what=2∨awC.op.what=3∨awC.op.what=4 by decide),show awC.op.coll=[97] from rfl,hi,eA (by decide),eA (show ¬ awC.op.what=2 by decide),iA (show awC.op.what=3 from rfl)];unfold qZ;rw[show awC.op.id=2 from rfl,show awC.op.text=[121] from rfl,show idB 2=true from by decide,eA (by decide),eA (by decide),show(2:Int).toNat=2 from rfl,hcut,iA rfl,show np [121]=1 from by decide];unfold layS;rw[i,iA rfl]
  rfl
 have g:(oneS ⟨b,sD awE 0 (uH (awE 0) (nB [97] [2,0]) (pc [121] 0))⟩ awD.op).2=6:=by
  have d:isS ⟨b,sD awE 0 (uH (awE 0) (nB [97] [2,0]) (pc [121] 0))⟩ [97]=true:=by
   unfold isS;rw[nm97]
   show jS (awE 1) (nmK [97])=true
   decide +kernel
  have c:rC ((⟨b,sD awE 0 (uH (awE 0) (nB [97] [2,0]) (pc [121] 0))⟩:SE).E 0) (nB [97] [9])=[]:=by
   show rC (sD awE 0 (uH (awE 0) (nB [97] [2,0]) (pc [121] 0)) 0) (nB [97] [9])=[]
   decide +kernel
  unfold oneS;rw[eA (show ¬ awD.op.what=1 by decide),iA (show awD.op.what=2∨awD.op.what=3∨awD.op.what=4 by decide),show awD.op.coll=[97] from rfl,d,eA (by decide),eA (show ¬ awD.op.what=2 by decide),eA (show ¬ awD.op.what=3 by decide)];unfold jW cutS;rw[show awD.op.id=9 from rfl,show idB 9=true from by decide,eA (by decide),show(9:Int).toNat=9 from rfl,c]
  rfl
 unfold allS;rw[m,iA rfl];unfold allS;rw[eA (by rw[g];decide),g]
theorem aw_do{s:PS}(h:Liv k 0 ⟨s,fun _=>[]⟩ [])(f:k+4<4294967296)(m:s.n=20)(g:s.l.n=200)(o:s.D.limit = -1)(b:Wr s (allS ⟨s,fun _=>[]⟩ [awA.op,awB.op]).1.s):∃s2,doS ⟨s,fun _=>[]⟩ [awA.op,awB.op]=(⟨s2,awE⟩,0):=by
 obtain⟨d,h1,h2⟩:=aSg h m;rw[h1]at b;have b:Wr s d:=b;obtain⟨C,i,_⟩:=h.com.inv;have hi:=b.inv i;have c:=b.same;obtain⟨j,_⟩:=hi.free f (by rw[c.D];exact o) (by rw[c.l,g];omega) (by rw[c.l,g];omega);refine⟨d.commit.1,?_⟩;unfold doS;rw[h1,eA (fun h=>h rfl),eA (by show ¬ d.commit.2≠0;rw[j];decide)]
theorem aSh{s:PS}{N:Nat}(h:Liv k N ⟨s,awE⟩ aw1)(b:s.n=20):∃s2,doS ⟨s,awE⟩ [awC.op,awD.op]=(⟨s2,awE⟩,6):=by
 have h1:=aRl h b;refine⟨{ (allS ⟨s,awE⟩ [awC.op,awD.op]).1.s with late:=[] },?_⟩;unfold doS;rw[iA (by rw[h1];decide),h1]
theorem aJh{n log M:Nat}(h1:1<=n)(h2:n<=4096)(h3:1<=log)(b:log+8*n<=M)(i:M<=65536):
  ∃H,iF n ((rA log none ((DM.new M).S.take log)).map (·.2)) []=some H/\Liv 1 0 ⟨gG n log (DM.new M) H,fun _=>[]⟩ []/\(tB ((DM.new M).S.take log)).1<4294967295/\log+8*n<=(DM.new M).S.length:=by
 have h:aKR 0 n log (DM.new M) fun _=>[]:=⟨fun _=>List.replicate 512 0,eJ.new h1 h2 h3 b i,aNc rfl (fun k _=>zT ..) h1 h2⟩;obtain⟨H,c,d,f,_,_,g,_⟩:=h.open_ (by omega) (by show 0<=_;omega);exact⟨H,c,⟨d,rfl,rD.nil,Rep.nil⟩,f,g⟩
end
section
open Go.RowKit Go.ChangeMaps Go.MapKept Go.Maps Go.Sort Go.Shelf
theorem aFu(b:Array Value)(w:World):(callFunc 13 b).run prog w=.ok (.enter 13 b) w:=by kernel_rfl
theorem aPY{w:World}{b:Nat}{o p:OpV}(h:Blk w b 65 (o.cells++p.cells)):iH w (.slice (some ⟨b,0,none⟩) 2 2) [o,p].length ([o,p].map OpV.cells).flatten b:=
 ⟨_,2,0,rfl,tA _,fun _=>⟨rfl,fun j u c=>by rw[cC];exact h.at_ (by simpa using c)⟩⟩
theorem aRm(w:World):RV 6 #[] w (.bool true):=by
 obtain⟨H1,a3,a4,a5,a6⟩:=aJh (n:=20) (log:=200) (M:=400) (by omega) (by omega) (by omega) (by omega) (by omega);have Q:=lh a3;have h:=lh a4;have S:=lh a5;have T:=lh a6;clear a3 a4 a5 a6;refine gA fun R HQ=>?_
 go_enter func6,ntmps6
 go_wp2_with fail;refine(aOm (X:=fun _=>False) w w 400 (by omega) (by omega) (Fr.refl _ _) (by simp)).mono ?_;rintro e w1 ⟨dk,rfl,a7,_⟩;have U:=lh a7;clear a7;go_wp2_with fail;refine(aSe (n:=20) (log:=200) U.o rfl rfl (by omega) (by omega) (by omega) T.o S.o Q.o h.o).mono ?_;rintro e I ⟨g,st,ca,X2,rfl,a8,_,_⟩;have l1:(gG 20 200 (DM.new 400) H1).n=20/\(gG 20 200 (DM.new 400) H1).l.n=200/\(gG 20 200 (DM.new 400) H1).D.limit = -1/\(gG 20 200 (DM.new 400) H1).D.done=0:=⟨rfl,rfl,rfl,rfl⟩;generalize gG 20 200 (DM.new 400) H1=s1 at *;obtain⟨a9,b3,J,b4⟩:=l1;have x:=lh a8;clear a8 U Q S T;go_upto_region 3 with fail
 obtain⟨w3,r⟩:=nm (I.alloc (.cells #[.int .i64 1,.string ⟨#[97]⟩,.int .i64 0,.string ⟨#[]⟩,.int .i64 3,.string ⟨#[97]⟩,.int .i64 1,.string ⟨#[120]⟩] 65));have y:Fr [] I w3:=by rw[r];exact(Fr.refl [] I).alloc _
 have z:Blk w3 I.heap.size 65 (awA.cells++awB.cells):=by rw[r];exact Blk.new I _ (awA.cells++awB.cells)
 refine fE ?_
 iterate 3 (refine rn rfl (by go_simp<;>with_reducible rfl) ?_;simp only[nrm])
 refine lp fun K hK=>?_;refine xB (v:=.slice (some ⟨I.heap.size,0,none⟩) 2 2) (w':=w3) (by rw[r];go_simp<;>rfl) (hK _ _ ?_);simp only[nrm];clear hK;have i:=lh (aHb (x.o.fr y) h.o.few h.o.rep (L:=[awA,awB]) (fun o m=>aMm o.op (by simp only[kB,yG,aG]at m⊢;rcases m with rfl|rfl<;>simp)) (by show 0+25*2<=_;omega) (by show s1.D.done+_<_;omega) (aPY z) (fun _=>.inr ⟨tA _,z.lt⟩));have V:=lh (x.o.fr y);clear r y z;refine lp fun K hK=>?_;refine jA (l:=[.tmp 24,.tmp 27]) rfl [.pointer (some ⟨ca,0,none⟩),.slice (some ⟨I.heap.size,0,none⟩) 2 2] rfl (aFu _) (i.o.mono ?_);intro e P t;have W:=t;obtain⟨rfl,c,d,_,_⟩:=W;have em:[awA,awB].map OpV.op=[awA.op,awB.op]:=rfl;rw[em]at c d t⊢;obtain⟨s2,a'⟩:=aw_do h.o (by omega) a9 b3 J c;have A:=aMf h.o (l:=[awA.op,awB.op]) (fun o m=>aMm o (by simp only[kB,yG,aG]at m⊢;rcases m with rfl|rfl<;>simp)) c d (by omega) (by show s1.n<=100;omega);rcases A with ⟨_,_,N,_⟩|⟨_,_,p,_,b,k⟩
 ·exact absurd J N
 have B:=V.o.done t k;rw[a']at p b k B⊢;rw[iA rfl,aSf]at k;have p:s2.n=20:=p.trans a9;have b:s2.D.limit = -1:=b J;refine⟨_,rfl,hK _ _ ?_⟩;simp only[nrm];clear hK;refine rn rfl (by go_simp<;>with_reducible rfl) ?_;simp only[nrm];refine sE ?_;have j:=lh k;have C:=lh B;clear t c d a' k B V i x;go_upto_region 4 with fail
 obtain⟨w5,s⟩:=nm (P.alloc (.cells #[.int .i64 3,.string ⟨#[97]⟩,.int .i64 2,.string ⟨#[121]⟩,.int .i64 4,.string ⟨#[97]⟩,.int .i64 9,.string ⟨#[]⟩] 65));have E:Fr [] P w5:=by rw[s];exact(Fr.refl [] P).alloc _
 have F:Blk w5 P.heap.size 65 (awC.cells++awD.cells):=by rw[s];exact Blk.new P _ (awC.cells++awD.cells)
 refine fE ?_
 iterate 3 (refine rn rfl (by go_simp<;>with_reducible rfl) ?_;simp only[nrm])
 refine lp fun K hK=>?_;refine xB (v:=.slice (some ⟨P.heap.size,0,none⟩) 2 2) (w':=w5) (by rw[s];go_simp<;>rfl) (hK _ _ ?_);simp only[nrm];clear hK;have Y:=j.o.com.done;have i:=lh (aHb (C.o.fr E) j.o.few j.o.rep (L:=[awC,awD]) (fun o m=>aMm o.op (by simp only[kB,yG,aG]at m⊢;rcases m with rfl|rfl<;>simp)) (by show 0+25*[awA.op,awB.op].length+25*2<=_;decide) (by show s2.D.done+_<_;have:s2.D.done<=300000*(1+3):=Y;omega) (aPY F) (fun _=>.inr ⟨tA _,F.lt⟩));have Z:=lh (C.o.fr E);clear s E F Y;refine lp fun K hK=>?_;refine jA (l:=[.tmp 29,.tmp 32]) rfl [.pointer (some ⟨ca,0,none⟩),.slice (some ⟨P.heap.size,0,none⟩) 2 2] rfl (aFu _) (i.o.mono ?_);intro e w6 u;have a0:=u;obtain⟨rfl,c,d,_,_⟩:=a0;have em:[awC,awD].map OpV.op=[awC.op,awD.op]:=rfl;rw[em]at c d u⊢;obtain⟨s3,b0⟩:=aSh j.o p;have A:=aMf j.o (l:=[awC.op,awD.op]) (fun o m=>aMm o (by simp only[kB,yG,aG]at m⊢;rcases m with rfl|rfl<;>simp)) c d (by omega) (by show s2.n<=100;omega);rcases A with ⟨_,_,N,_⟩|⟨_,_,_,_,_,f⟩
 ·exact absurd b N
 have q:=Z.o.done u f;rw[b0]at f q⊢;rw[eA (show ¬ (6:Int)=0 by decide)]at f;refine⟨_,rfl,hK _ _ ?_⟩;simp only[nrm];clear hK;refine rn rfl (by go_simp<;>with_reducible rfl) ?_;simp only[nrm];refine sE ?_;have G:=lh (aBL q f.few (by decide) f.rep ⟨#[97]⟩ 1);rw[show bA ⟨#[97]⟩=[97] from rfl,aRj]at G;have a1:=lh q;have a2:=lh f;clear u c d b0 f q Z i C;go_wp2_with fail;refine G.o.mono ?_;rintro e w7 ⟨rfl,O⟩;have H:=lh (aBL (a1.o.stay O) a2.o.few (by decide) a2.o.rep ⟨#[97]⟩ 2);rw[show bA ⟨#[97]⟩=[97] from rfl,aRk]at H;have b2:=lh O;clear O G;go_wp2_with fail;refine H.o.mono ?_;rintro e w8 ⟨rfl,b1⟩;have HX:=lh (HQ.o (.returned (.bool true)) w8 ⟨rfl,(a1.o.frame.trans b2.o).trans b1⟩);clear b1 H;go_wp2_with fail;exact HX.o
theorem aEh(b:Array Value)(w:World):(callFunc 23 b).run prog w=.ok (.enter 23 b) w:=by kernel_rfl
theorem aNQ(L:En)(k:Ky):(rC L k).length<=L.length:=yW ..
theorem aMn(s:Ky):∀l:Tx,l.length<=(l.flatMap fun t=>pL s t.1 t.2).length
 | []=>tA _
 | t::l=>by
  have h1:=aMn s l;have h2:=aDQ t.2;have h3:(pL s t.1 t.2).length=np t.2:=by unfold pL;simp
  rw[nH,lB,gD];omega
section
variable {w0 w : World} {dk g st ca : Nat} {x : SE} {X : Nat -> Prop} {c m : Ct} {D : Nat -> Prop} {v : Value} {us : List Value}
end
section
variable {w0 w w' : World} {dk g st ca b : Nat} {cc N n B cc' N' B' : Nat} {x x' : SE} {c c' : Ct} {vm vm' : Value} {us us' : List Value} {X Y : Nat -> Prop}
end
theorem aEi{o:RdA}(h:OkRd o):∀p∈o.L,OkO p.op:=fun p b=>⟨by show(bA p.cs).length<=100;rw[zA];exact(h.2 p b).1,by show(bA p.ts).length<=1500;rw[zA];exact(h.2 p b).2⟩
section
variable {w0 w w' : World} {dk dk2 g st ca : Nat} {s : PS} {x y : SE} {X Y : Nat -> Prop} {E : Nat -> En}
structure aFv (c:CD) (F:List Nat) (r:Nat):Prop where
 chain:eN c.nx c.head F
 mem:∀k∈F,1<=k/\k<c.n
 next:c.next=F.length+r
 pos:1<=r
 few:F.length+r<=4096
theorem aLg(i:oI s.page s.n E):∃F r,aFv (aC s.page s.n) F r:=by
 obtain⟨_,_,P,F,h⟩:=i;have b:=h.acc.perm;have h1:=h.acc.next1;have h2:=h.acc.next2;have h3:=h.acc.few;have c:=b.length_eq;rw[lB,List.length_range']at c;refine⟨F,(aC s.page s.n).next-F.length,h.acc.chain,fun k f=>?_,by omega,by omega,by omega⟩;have d:=b.mem_iff.1 (rE _ f);rw[List.mem_range'_1]at d;omega
theorem aFv.re{c d:CD}{F:List Nat}{r:Nat}(h:aFv c F r)(b:Re c d):aFv d F r:=by
 have f:=b.nx;obtain⟨i,j,k,_⟩:=b.same;exact⟨by rw[f,k];exact h.chain,by rw[i];exact h.mem,by rw[j];exact h.next,h.pos,h.few⟩
theorem aSi(h:StX w0 w dk g st s X E){F:List Nat}{r:Nat}(z:aFv (aC s.page s.n) F r):
  RV 42 #[.pointer (some ⟨st,0,none⟩)] w (.int .i64 (r:Int)):=by
 obtain⟨_,_,P,F0,v⟩:=h.store;obtain⟨c,hc⟩:=nm (aC s.page s.n);have t:=h.pgc;rw[<- hc]at v z t;have HC:=lh hc;have N:=lh t;have O:=lh v.e;have Q:=lh z.chain;have B:=lh z.mem;have C:=lh h.begin;have S:=lh z.next;have T:=lh z.few;have U:=lh z.pos;clear h hc t z v;refine gA fun R HQ=>?_
 go_enter func42,ntmps42
 go_wp2_with fail;refine C.o.mono ?_;rintro e w1 ⟨L,M,bs,rfl,f⟩;rw[<- HC.o]at f;have V:=lh f;have c0:=f.blk.at_ (i:=0) rfl;have c1:=f.blk.at_ (i:=1) rfl;clear f C;rw[S.o]at c0;go_wp2_with fail
 go_loopw [5,6] (fun v5 v6 wr=>∃(m:List Nat) (a:Nat),m.length<=F.length/\v5=.int .i64 (((m.length+r:Nat)):Int)/\v6=.int .i64 (a:Int)/\eN c.nx a m/\(∀k∈m,1<=k/\k<c.n)/\kE w wr g L M bs (Dm_ X w L M bs) c) (fun v5 _ _=>(intOf v5).toNat)
 case atStart=>exact⟨F,c.head,tA _,rfl,rfl,Q.o,B.o,V.o⟩
 case round=>
  obtain⟨m,a,G,rfl,rfl,d,p,H⟩:=hrel;have CI:=lh H;have W:=lh G;clear H G c0 c1
  cases m with
  | nil=>
   have Z:a=0:=d;subst Z;have HX:=lh (HQ.o (.returned (.int .i64 (r:Int))) wr ⟨rfl,CI.o.fr⟩);clear d p;rw[show([]:List Nat).length+r=r from cC r];go_wp2_with fail;exact HX.o
  | cons b A=>
   obtain⟨rfl,j,hj,q⟩:=d;obtain⟨a4,I⟩:=p a (sB ..);have a0:¬ ((a:Nat):Int)=0:=by omega
   have a6:(((a:Nat):Int)==0)=false:=by simpa using a0
   have a7:(0:Int)<(A.length:Int)+1+(r:Int):=by omega
   have u:=lh (aEP N.o CI.o I O.o);rw[aOS hj]at u;have a1:=lh q;have a2:=lh (fun k hk=>p k (uC _ hk));have D:Hid (A.length+1<=F.length):=lh (by have:=W.o;simpa using this);have a8:IntKind.i64.wrap ((A.length:Int)+1+(r:Int)-1)=(A.length:Int)+(r:Int):=by have:=D.o;have:=T.o;rw[iD];omega
   clear q p hj a4 I;go_wp2_with fail;refine u.o.mono ?_;rintro e w4 ⟨rfl,J,a5⟩;have a3:Hid (∃(m:List Nat) (a':Nat),m.length<=F.length/\Value.int .i64 ((A.length:Int)+(r:Int))=.int .i64 (((m.length+r:Nat)):Int)/\Value.int .i64 (j:Int)=.int .i64 (a':Int)/\eN c.nx a' m/\(∀k∈m,1<=k/\k<c.n)/\kE w w4 g L M bs (Dm_ X w L M bs) c):=lh ⟨A,j,by have:=D.o;omega,rfl,rfl,a1.o,a2.o,J⟩;have a9:=U.o;clear J a5 u;go_wp2_with fail
   go_roundw
   case rel=>exact a3.o
   case measure=>simp[intOf];omega
theorem aJi(h:CtX w0 w dk g st ca x X){F:List Nat}{r:Nat}(c:aFv (aC x.s.page x.s.n) F r):
  RV 20 #[.pointer (some ⟨ca,0,none⟩)] w (.int .i64 (r:Int)):=by
 refine gA fun R j=>?_;have d:=lh (aSi h.sx c);have c1:=h.blk.at_ (i:=1) rfl;clear h c
 go_enter func20,ntmps20
 go_wp2_with fail;refine d.o.mono ?_;rintro e w1 ⟨rfl,b⟩;have f:=lh (j.o _ _ ⟨rfl,b⟩);clear b;go_wp2_with fail;exact f.o
theorem aPZ(b:Kp X w w')(m:Fr [] w0 w)(c:Fr [] w0 w'):∃S,Fr S w w'/\∀q∈S,¬ X q/\w0.heap.size<=q/\q<w.heap.size:=by
 obtain⟨S,h,d⟩:=b;refine⟨S.filter fun q=>decide (w0.heap.size<=q/\q<w.heap.size),⟨h.os,h.tape,h.output,h.size,fun k b f=>?_⟩,fun q i=>?_⟩
 ·by_cases h0:w0.heap.size<=k
  ·exact h.block k b fun j=>f (wI.2 ⟨j,xP ⟨h0,b⟩⟩)
  ·rw[c.block k (by omega) (by simp),m.block k (by omega) (by simp)]
 ·obtain⟨h1,h2⟩:=wI.1 i;exact⟨d q h1,of_decide_eq_true h2⟩
def Cov (w0 w:World) (X Y:Nat->Prop):Prop:=∀q,w0.heap.size<=q->q<w.heap.size->X q∨Y q
theorem Cov.more(h:Cov w0 w X Y):Cov w0 w' X (kC Y w w'):=fun q h1 h2=>by
 by_cases b:q<w.heap.size
 ·exact(h q h1 b).imp id .inl
 ·exact .inr (.inr ⟨by omega,h2⟩)
theorem Cov.symm(h:Cov w0 w X Y):Cov w0 w Y X:=fun q h1 h2=>(h q h1 h2).symm
theorem CtX.beside(c:CtX w0 w dk g st ca y Y)(h:Cov w0 w X Y)(b:Kp X w w')(i:Fr [] w0 w')(h1:X st)(h2:X ca):CtX w0 w' dk g st ca y (kC Y w w'):=by
 obtain⟨S,j,d⟩:=aPZ b c.frame i;refine⟨⟨?_,c.sx.blk.fr j (fun f=>(d _ f).1 h1),.inl c.sx.xs,c.sx.br,c.sx.calm,c.sx.store⟩,c.blk.fr j (fun f=>(d _ f).1 h2),.inl c.xc⟩;obtain⟨lg,u,v,z,r,o,B,A⟩:=c.sx.px;have t:∀q∈S,Y q:=fun q p=>(h q (d q p).2.1 (d q p).2.2).resolve_left (d q p).1;refine⟨lg,u,v,z,r.fr j (fun k b f=>(o k b).2 (t k f)),fun k b=>⟨(o k b).1,fun m=>?_⟩,i,fun k b=>?_⟩
 ·have:=r.lt k b;rcases m with m|m
  ·exact(o k b).2 m
  ·omega
 ·have:=j.size;rcases b with b|b
  ·have:=A k b;omega
  ·exact b.2
theorem DkX.beside{D:DM}(p:DkX w0 w dk D Y)(h:Cov w0 w X Y)(b:Kp X w w')(c:Fr [] w0 w'):DkX w0 w' dk D (kC Y w w'):=by
 obtain⟨S,m,f⟩:=aPZ b p.frame c;obtain⟨t,o,i,z,u⟩:=p;have r:∀q∈S,Y q:=fun q j=>(h q (f q j).2.1 (f q j).2.2).resolve_left (f q j).1;refine⟨t,o.fr m (fun k b v=>(i k b).2 (r k v)),fun k b=>⟨(i k b).1,fun d=>?_⟩,c,fun k b=>?_⟩
 ·have:=o.lt k b;rcases d with d|d
  ·exact(i k b).2 d
  ·omega
 ·have:=m.size;rcases b with b|b
  ·have:=u k b;omega
  ·exact b.2
theorem aNR(i:PgX w0 w dk g s X)(d:s.br=false)(c:aAG s)(k:oI s.page s.n E):
  Calls prog 28 #[.pointer (some ⟨g,0,none⟩)] w fun e w'=>∃st ca,e=.returned (.tuple #[.pointer (some ⟨ca,0,none⟩),.int .i64 0])/\CtX w0 w' dk g st ca ⟨s,E⟩ (kC X w w')/\w.heap.size<=st/\w.heap.size<=ca/\Fr [] w w':=by
 refine(aFq (i.weak (Y:=fun _=>False) fun _ h=>h.elim) d c k).mono ?_;rintro e w' ⟨st,ca,j,b,f⟩;have h1:=b.sx.xs.resolve_left id;have h2:=b.xc.resolve_left id;exact⟨st,ca,j,⟨⟨i.fr f,b.sx.blk,.inr h1,b.sx.br,b.sx.calm,b.sx.store⟩,b.blk,.inr h2⟩,h1.1,h2.1,f⟩
theorem aMo{n log:Nat}{D:DM}{N:Nat}{c:Ct}{H:PgM}(h:DkX w0 w dk D X)(b:D.dead=false)(d:D.P=[])(h1:1<=n)(h2:n<=4096)(h3:1<=log)(j:log+8*n<=D.S.length)(m:(tB (D.S.take log)).1<4294967295)(ht:iF n ((rA log none (D.S.take log)).map (·.2)) []=some H)(u:Liv i N ⟨gG n log D H,E⟩ c):
  Calls prog 9 #[.pointer (some ⟨dk,0,none⟩),.int .i64 (n:Int),.int .i64 (log:Int)] w fun e w'=>∃g st ca,e=.returned (.tuple #[.pointer (some ⟨ca,0,none⟩),.pointer (some ⟨g,0,none⟩),.int .i64 0])/\(∃X',CtX w0 w' dk g st ca ⟨gG n log D H,E⟩ X'/\∀k,X k->X' k)/\(w.heap.size<=st/\st<w'.heap.size)/\(w.heap.size<=ca/\ca<w'.heap.size)/\Kp X w w':=by
 have z:=lh (aOF h b d h1 h2 h3 j m ht);have C:=lh u.com.calm;have F:=lh u.com.br;have G:=lh (u.com.store u.late);refine gA fun R L=>?_;clear h b d h1 h2 h3 j m ht u
 go_enter func9,ntmps9
 go_wp2_with fail;refine z.o.mono ?_;rintro e w1 ⟨g,rfl,B,q⟩;have p:=lh (aNR B F.o C.o G.o);have I:=lh q;have A:Hid (w.heap.size<=w1.heap.size):=lh (by obtain⟨_,v,_⟩:=q;exact v.size);clear B q z;go_wp2_with fail;refine p.o.mono ?_;rintro e M ⟨st,ca,rfl,f,r,t,v⟩;have J:=lh (L.o _ _ ⟨g,st,ca,rfl,⟨_,f,fun k q=>.inl q⟩,⟨aF A.o r,f.sx.blk.lt⟩,⟨aF A.o t,f.blk.lt⟩,aJd I.o v⟩);clear f r t v p;go_wp2_with fail;exact eF (by simp[results,Tryz.results9,go_sem]) rfl J.o
end
theorem qL.checked{c c' N N':Nat}{x y:SE}{z A:Ct}(h:qL x y)(B:Liv c N x z)(F:Liv c' N' y A)(G:c+1<4294967296)(i:c'+1<4294967296)(H:x.s.D.limit = -1)(I:y.s.D.limit = -1):qL ⟨x.s.check.1,x.E⟩ ⟨y.s.check.1,y.E⟩:=by
 obtain⟨C,j,_⟩:=B.com.inv;obtain⟨J,f,_⟩:=F.com.inv;rcases j.checked G with ⟨_,q,_,m,g,_⟩|⟨_,_,r,_⟩
 ·rcases f.checked i with ⟨_,t,_,o,p,_⟩|⟨_,_,u,_⟩
  ·refine⟨⟨by show 0<x.s.check.1.n;rw[g];exact h.s.pos,by show y.s.check.1.n=x.s.check.1.n;rw[g,p];exact h.s.n,by show y.s.check.1.late=x.s.check.1.late;rw[m,o];exact h.s.late,fun k v=>?_⟩,h.E⟩;have d:k<x.s.check.1.n:=v;have b:k<x.s.n:=by rw[<- g];exact d
   show y.s.check.1.page k=x.s.check.1.page k
   rw[q.page_eq d,t.page_eq (by rw[p,h.s.n];exact b),m,o,<- j.page_eq b,<- f.page_eq (k:=k) (by rw[h.s.n];exact b)];exact h.s.pg k b
  ·exact absurd I u
 ·exact absurd H r
structure aNS (s:PS):Prop where
 lim:s.D.limit = -1
 n:s.n=60
 l:s.l.n=400
structure Ag (w0 w:World) (dk g st ca dk2 cc N:Nat) (x:SE) (c:Ct) (X:Nat->Prop) (D2:DM) (Y:Nat->Prop):Prop where
 ct:CtX w0 w dk g st ca x X
 liv:Liv cc N x c
 as_:aNS x.s
 dk:DkX w0 w dk2 D2 Y
 off:aHh cc 60 D2 x
 cov:Cov w0 w X Y
 ys:Y st/\Y ca
structure Ag2 (w0 w:World) (dk g st ca dk2 g2 st2 ca2 cc N:Nat) (x y:SE) (c:Ct) (X Y:Nat->Prop):Prop where
 c1:CtX w0 w dk g st ca x X
 c2:CtX w0 w dk2 g2 st2 ca2 y Y
 l1:Liv cc N x c
 l2:Liv cc N y c
 m1:aNS x.s
 m2:aNS y.s
 two:qL x y
 cov:Cov w0 w X Y
 xs:X st2/\X ca2
 ys:Y st/\Y ca
section
variable {w0 w w' w2 : World} {dk g st ca dk2 g2 st2 ca2 cc N : Nat} {x y : SE} {c : Ct} {X Y X' Y' : Nat -> Prop} {D2 : DM}
theorem Cov.imp(h:Cov w0 w X Y)(b:∀q,X q->X' q)(d:∀q,Y q->Y' q):Cov w0 w X' Y':=fun q h1 h2=>(h q h1 h2).imp (b q) (d q)
theorem Ag2.fr(h:Ag2 w0 w dk g st ca dk2 g2 st2 ca2 cc N x y c X Y)(b:Fr [] w w'):Ag2 w0 w' dk g st ca dk2 g2 st2 ca2 cc N x y c (kC X w w') (kC Y w w'):=
 ⟨h.c1.fr b,h.c2.fr b,h.l1,h.l2,h.m1,h.m2,h.two,h.cov.more.imp (fun _ h=>.inl h) (fun _ h=>h),⟨.inl h.xs.1,.inl h.xs.2⟩,⟨.inl h.ys.1,.inl h.ys.2⟩⟩
theorem aHh.new{H:PgM}(ht:iF 60 ((rA 400 none ((DM.new 1000).S.take 400)).map (·.2)) []=some H):aHh 0 60 (DM.new 1000) ⟨gG 60 400 (DM.new 1000) H,fun _=>[]⟩:=by
 have h:eJ 0 60 400 (DM.new 1000) _:=eJ.new (by omega) (by omega) (by omega) (by omega) (by omega);obtain⟨b,d,f,_⟩:=h.open_ (by omega);obtain rfl:H=b:=fG (ht.symm.trans d);exact⟨⟨_,h,fun k i=>(f.page_eq (k:=k) i).symm⟩,rfl,tA _⟩
theorem Ag.start{D2:DM}{w1:World}(h1:∃X',CtX w0 w' dk g st ca x X'/\∀k,X k->X' k)(d:w1.heap.size<=st/\st<w'.heap.size)(f:w1.heap.size<=ca/\ca<w'.heap.size)(i:Kp X w1 w')(j:DkX w0 w1 dk2 D2 Y)(b:Cov w0 w1 X Y)(m:Liv cc N x c)(o:aNS x.s)(p:aHh cc 60 D2 x):
  ∃X' Y',Ag w0 w' dk g st ca dk2 cc N x c X' D2 Y':=by
 obtain⟨X',h1,h2⟩:=h1;exact⟨X',_,h1,m,o,j.beside b i h1.frame,p,b.more.imp h2 (fun _ h=>h),.inr d,.inr f⟩
theorem Ag.opened(h:Ag w0 w dk g st ca dk2 cc N x c X D2 Y)(h1:∃Y',CtX w0 w' dk2 g2 st2 ca2 y Y'/\∀k,Y k->Y' k)(b:w.heap.size<=st2/\st2<w'.heap.size)(d:w.heap.size<=ca2/\ca2<w'.heap.size)(f:Kp Y w w')(i:Liv (cc+1) N y c)(ht:qL x y)(j:aNS y.s):
  ∃X' Y',Ag2 w0 w' dk g st ca dk2 g2 st2 ca2 (cc+1) N x y c X' Y':=by
 obtain⟨Y',h1,h2⟩:=h1;exact⟨_,Y',h.ct.beside h.cov.symm f h1.frame h.ys.1 h.ys.2,h1,h.liv.mono (by omega) (tA _),i,h.as_,j,ht,h.cov.symm.more.symm.imp (fun _ h=>h) h2,⟨.inr b,.inr d⟩,⟨h2 _ h.ys.1,h2 _ h.ys.2⟩⟩
theorem Ag2.closed(h:Ag2 w0 w dk g st ca dk2 g2 st2 ca2 cc N x y c X Y):Ag w0 w dk g st ca dk2 cc N x c X y.s.D Y:=
 ⟨h.c1,h.l1,h.m1,h.c2.sx.px.disk,h.l2.offT h.two h.m2.n h.m2.l h.m2.lim,h.cov,h.ys⟩
theorem Ag.mono{cc' N':Nat}(h:Ag w0 w dk g st ca dk2 cc N x c X D2 Y)(h1:cc<=cc')(h2:N<=N'):Ag w0 w dk g st ca dk2 cc' N' x c X D2 Y:=
 ⟨h.ct,h.liv.mono h1 h2,h.as_,h.dk,by obtain⟨⟨C,a,b⟩,d,e⟩:=h.off;exact⟨⟨C,a.mono h1,b⟩,d,by omega⟩,h.cov,h.ys⟩
theorem Ag2.did(h:Ag2 w0 w dk g st ca dk2 g2 st2 ca2 cc N x y c X Y){l:List OpC}(F:∀o∈l,OkO o)(b:cc+4<4294967296){w1 w2:World}{V Z:Ending}(G:aIT w0 dk2 g2 st2 ca2 y Y l w V w1)(H:Fr [] w1 w2)(q:aIT w0 dk g st ca x (kC (kC X w w1) w1 w2) l w2 Z W):
  ∃X' Y' c',Ag2 w0 W dk g st ca dk2 g2 st2 ca2 (cc+3) (N+25*l.length) (doS x l).1 (doS y l).1 c' X' Y'/\(doS y l).2=(doS x l).2:=by
 have r:=G;have i:=q;obtain⟨_,C,I,a3,J⟩:=r;obtain⟨_,D,L,b3,M⟩:=i;have j:x.s.n<=100:=by rw[h.m1.n];omega
 have t:y.s.n<=100:=by rw[h.m2.n];omega
 have ht:=aSd h.l1 h.l2 h.two D C b b j h.m1.l h.m2.l h.m1.lim h.m2.lim;rcases aMf h.l1 F D L b j with ⟨_,_,f,_⟩|⟨_,_,O,P,Q,E⟩
 ·exact absurd h.m1.lim f
 rcases aMf h.l2 F C I b t with ⟨_,_,f,_⟩|⟨_,_,S,T,U,B⟩
 ·exact absurd h.m2.lim f
 rw[ht.a]at B;have k:=h.c2.done G B;have u:=h.c1.beside h.cov.symm J k.frame h.ys.1 h.ys.2;have m:=h.cov.symm.more (w':=w1) |>.symm;have v:=u.fr H;have z:=k.fr H;have d:Cov w0 w2 (kC (kC X w w1) w1 w2) (kC Y w1 w2):=m.more.imp (fun _ h=>.inl h) (fun _ h=>h);have p:=v.done q E;have A:=z.beside d M p.frame (.inl (.inl h.xs.1)) (.inl (.inl h.xs.2));exact⟨_,_,_,⟨p,A,E,B,⟨Q h.m1.lim,O.trans h.m1.n,P.trans h.m1.l⟩,⟨U h.m2.lim,S.trans h.m2.n,T.trans h.m2.l⟩,ht.x,d.more,⟨.inl (.inl h.xs.1),.inl (.inl h.xs.2)⟩,⟨.inl (.inl h.ys.1),.inl (.inl h.ys.2)⟩⟩,ht.a⟩
theorem Ag2.first(h:Ag2 w0 w dk g st ca dk2 g2 st2 ca2 cc N x y c X Y){l:List OpC}{w1 w2:World}{f:Ending}(i:aIT w0 dk2 g2 st2 ca2 y Y l w f w1)(j:Fr [] w1 w2):CtX w0 w2 dk g st ca x (kC (kC X w w1) w1 w2):=by
 obtain⟨_,_,_,b,d⟩:=i;exact(h.c1.beside h.cov.symm d b.frame h.ys.1 h.ys.2).fr j
theorem Ag2.second(h:Ag2 w0 w dk g st ca dk2 g2 st2 ca2 cc N x y c X Y)(b:PgX w0 w' dk g S X)(d:Kp X w w'):CtX w0 w' dk2 g2 st2 ca2 y (kC Y w w'):=h.c2.beside h.cov d b.frame h.xs.1 h.xs.2
theorem Ag2.checked(h:Ag2 w0 w dk g st ca dk2 g2 st2 ca2 cc N x y c X Y)(b:cc+1<4294967296)(t:PgX w0 w' dk g x.s.check.1 X)(u:Kp X w w')(i:PgX w0 w2 dk2 g2 y.s.check.1 (kC Y w w'))(j:Kp (kC Y w w') w' w2):
  x.s.check.2=0/\y.s.check.2=0/\∃X',Ag2 w0 w2 dk g st ca dk2 g2 st2 ca2 (cc+1) N ⟨x.s.check.1,x.E⟩ ⟨y.s.check.1,y.E⟩ c X' (kC Y w w'):=by
 rcases h.l1.check b with ⟨v,q,z,A,o⟩|⟨_,_,f,_⟩
 ·rcases h.l2.check b with ⟨B,r,kn,C,p⟩|⟨_,_,f,_⟩
  ·have c1:=h.c1.checked t u q;have c2:=h.second t u;have d:Cov w0 w' X (kC Y w w'):=h.cov.more;have k:=c2.checked i j r;have m:=c1.beside d.symm j i.frame (.inl h.ys.1) (.inl h.ys.2);exact⟨v,B,_,m,k,q,r,⟨o h.m1.lim,z.trans h.m1.n,A.trans h.m1.l⟩,⟨p h.m2.lim,kn.trans h.m2.n,C.trans h.m2.l⟩,h.two.checked h.l1 h.l2 b b h.m1.lim h.m2.lim,d.symm.more.symm,⟨.inl h.xs.1,.inl h.xs.2⟩,⟨.inl h.ys.1,.inl h.ys.2⟩⟩
  ·exact absurd h.m2.lim f
 ·exact absurd h.m1.lim f
end
theorem tZ(b:Array Value)(w:World):(callFunc 14 b).run prog w=.ok (.enter 14 b) w:=by kernel_rfl
theorem aBt(b:Array Value)(w:World):(callFunc 13 b).run prog w=.ok (.enter 13 b) w:=by kernel_rfl
theorem Ag2.fr'{w0 w w':World}{dk g st N:Nat}{x y:SE}{c:Ct}{X Y:Nat->Prop}(h:Ag2 w0 w dk g st k i j m d s N x y c X Y)(f:Fr [] w w'):∃X' Y',Ag2 w0 w' dk g st k i j m d s N x y c X' Y'/\∀q,w.heap.size<=q->q<w'.heap.size->Y' q:=
 ⟨_,_,h.fr f,fun _ a b=>.inr ⟨a,b⟩⟩
theorem aLh{c:Ct}(g:OkC c){B:Nat}(h:∀y∈c,y.2.length<=B)(i:B<=1000000000)(nm:ByteArray):∃l0 n0,(∀w':World,(if vQ c (bA nm)=true then uX (idsC c (bA nm)) 0 w' else uX [] 6 w')=uX l0 n0 w')/\l0.length<=1000000000:=by
 by_cases d:vQ c (bA nm)=true
 ·refine⟨_,_,fun w'=>iA d,?_⟩;unfold idsC;rw[lI];obtain⟨z,f,b⟩:=oL.1 d;rw[<- b,g.tx f];have:=h z f;omega
 ·exact⟨_,_,fun w'=>eA d,by simp⟩
theorem Rep.tx_few{x:SE}{c:Ct}{N:Nat}(d:Rep x.E c)(f:rD N x.E){z:Ky×Tx}(g:z∈c):z.2.length<=N:=by
 have h1:=f.few 0;have b:=aNQ (x.E 0) (nmK z.1);rw[d.texts g]at b;have h:=aMn z.1 z.2;omega
theorem aHi(W:World)(v:Value)(l:List RdA)(hv:aLc W v l):RV 4 #[v] W (.bool true):=by
 have HV:=lh hv;obtain⟨A,cv,g0,off,rfl,f0,m3⟩:=hv;obtain⟨m,hm⟩:∃m,l.length=m:=⟨_,rfl⟩;rw[hm]at HV f0⊢;have p':=lh m3;have HM:=lh hm;clear m3 f0 hm;refine gA fun R hq=>?_;have HQ:=lh hq;clear hq
 go_enter func4,ntmps4
 go_wp2_with fail;refine(aRm W).mono ?_;rintro e w1 ⟨rfl,m4⟩;have a':=lh m4;clear m4;go_wp2_with fail;refine(aRi HV.o a'.o).mono ?_;rintro e w2 ⟨bs,rfl,hb,m5⟩;have b0:=lh (a'.o.trans m5);have J:=lh hb;have i1:=lh (HQ.o (.returned (.bool true)) w2 ⟨rfl,b0.o⟩);clear m5 hb
 cases bs with
 | false=>
  go_wp2_with fail;exact i1.o
 | true=>
  have i2:=lh (J.o rfl);clear J i1;go_wp2_with fail;obtain⟨H4,m6,m7,m8,b7⟩:=aJh (n:=60) (log:=400) (M:=1000) (by omega) (by omega) (by omega) (by omega) (by omega);have f2:=lh m6;have f3:=lh m7;have i3:=lh m8;have i4:=lh b7;clear m6 m7 m8 b7;refine(aOm (X:=fun q=>q<w2.heap.size) W w2 1000 (by omega) (by omega) b0.o fun _ h=>h).mono ?_;rintro e w3 ⟨dk,rfl,m9,_⟩;have f4:=lh m9;clear m9;go_wp2_with fail;refine(aOm (X:=fun q=>q<w3.heap.size) W w3 1000 (by omega) (by omega) f4.o.frame fun _ h=>h).mono ?_;rintro e w4 ⟨b8,rfl,m',b7⟩;have i5:=lh m';have e9:=lh (f4.o.fr b7)
  have i6:Hid (Cov W w4 (fun k=>k<w2.heap.size∨w3.heap.size<=k/\k<w4.heap.size) fun q=>q<w3.heap.size):=lh fun q _ h=>by
   by_cases hq:q<w3.heap.size
   ·exact .inr hq
   ·exact .inl (.inr ⟨by omega,h⟩)
  clear m' b7 f4;go_wp2_with fail;refine(aMo (n:=60) (log:=400) e9.o rfl rfl (by omega) (by omega) (by omega) i4.o i3.o f2.o f3.o).mono ?_;rintro e w5 ⟨g,st,ca,rfl,n1,n2,n3,n4⟩;have i7:=lh (Ag.start n1 n2 n3 n4 i5.o i6.o f3.o ⟨rfl,rfl,rfl⟩ ((by obtain⟨⟨C,a,b⟩,d,e⟩:=aHh.new f2.o;exact⟨⟨C,a.mono (by omega),b⟩,d,by omega⟩):aHh 1 60 _ _));obtain⟨X5,Y5,n5⟩:=i7.o;generalize (⟨gG 60 400 (DM.new 1000) H4,fun _=>[]⟩:SE)=x5 at *;have i8:=lh n5;clear n1 n2 n3 n4 n5 i7 e9 i5 i6 f2 f3 i3 i4;go_wp2_with fail
  go_loopg [11] m (fun j v11 wr=>∃(i:Nat) (x:SE) (c:Ct) (X:Nat->Prop) (D2:DM) (Y:Nat->Prop),i+j=m/\v11=.int .i64 (i:Int)/\Ag W wr dk g st ca b8 (5*i+1) (300*i) x c X D2 Y)
  case atStart=>exact⟨0,_,_,_,_,_,by omega,rfl,i8.o⟩
  case round=>
   obtain⟨i,x,c,X,D2,Y,hi,rfl,hp⟩:=hrel;have HP:=lh hp;have r1:m<=20:=by have:=i2.o.1;rw[HM.o]at this;exact this
   clear hp i8
   by_cases q9:i<m
   ·obtain⟨o,ho⟩:∃o,l[i]? = some o:=gx (by rw[HM.o];exact q9);obtain⟨rfl,d9⟩:=p'.o i o ho;obtain⟨go,b9,q8⟩:=d9.a.sl;have c5:=i2.o.2 o (rG ho);obtain⟨nl,V⟩:∃nl,o.L.length=nl:=⟨_,rfl⟩;have i9:=b9;obtain⟨A2,c2,o2,g7,n6,d'⟩:=i9;have f5:=d9.c0;rw[V]at g7 b9;rw[g7]at f5 b9;have f6:=lh f5;have q0:=lh d9.c1;have i':=lh b9;have a6:=lh c5;have I:=lh V;have q1:Hid (∀q∈o.L.map OpV.op,OkO q):=lh fun q hq=>by obtain⟨p,hp,rfl⟩:=cI.1 hq;exact aEi c5 p hp
    have q2:Hid ((o.L.map OpV.op).length<=12):=lh (by rw[lI];exact c5.1);have hI:(i:Int)<(m:Int):=by omega
    have r2:IntKind.i64.wrap ((i:Int)+1)=((i+1:Nat):Int):=by rw[iD];omega
    obtain⟨H,k1,k2,k3,k4,k5,k6,k7,k8,k9⟩:=HP.o.off.open_ HP.o.liv HP.o.as_.n (by omega);have HO:=lh (aMo (n:=60) (log:=400) HP.o.dk k3 k4 k6 k7 (by omega) k5 k2 k1 k9);have j0:=lh k8;have j1:=lh k9;have j2:Hid (aNS (gG 60 400 D2 H)):=lh ⟨HP.o.off.lim,rfl,rfl⟩;clear ho d9 b9 q8 c5 V g7 n6 d' f5 k1 k2 k3 k4 k5 k6 k7 k8 k9;go_wp2_with fail;refine HO.o.mono ?_;rintro e w6 ⟨g2,g9,b',rfl,n7,n8,n9,n'⟩;obtain⟨X6,Y6,o0⟩:=HP.o.opened n7 n8 n9 n' j1.o j0.o j2.o;generalize (⟨gG 60 400 D2 H,x.E⟩:SE)=y at *;obtain⟨w7,g'⟩:=_root_.Go.Proofs.YtebjhcjbfaaejaaGreatDoor.nm (w6.drew);obtain⟨X7,Y7,e2,_⟩:=o0.fr' (w':=w7) (by rw[g'];exact(Fr.refl [] w6).drew);have c6:=lh e2;clear n7 n8 n9 n' HO j0 j1 j2 o0 e2;have e0:=c6.o.c1.frame.keep f6.o;go_upto_region 13 with fail
    refine lA (fun W'=>W'.cell? ⟨g0,off+i*2,none⟩=some (.slice A2 nl c2)/\True) [0,1,2,3,4,5,6,7,8,11,12,13,14,15,16,19,20] (by kernel_rfl) ?_;rw[<- g'];clear g';refine tks [0,1,2,3,4,5,6,7,8,11,12,13,14,15,16] ?_
    iterate 15 (refine tk rfl rfl ⟨e0,trivial⟩ rfl (fun _ hW=>by(obtain⟨y1,_⟩:=hW;go_simp)<;>with_reducible rfl) ?_;simp only[nrm])
    refine tke ?_;refine vJ (j:=9) (some 73) rfl rfl (by kernel_rfl) rfl fun K hK=>?_;refine jA (l:=[.tmp 72]) rfl [.slice A2 nl c2] rfl (tZ _) ((aJb (L:=o.L) (by rw[I.o];exact i'.o.fr c6.o.c1.frame) (by have:=a6.o.1;omega)).mono ?_);rintro e w8 ⟨v8,g8,rfl,a0,a1,O,t⟩;obtain⟨X8,Y8,e4,o1⟩:=c6.o.fr' t;rw[I.o]at a0 O;obtain⟨A8,c8,o8,rfl,_,_⟩:=_root_.id a0;have Q:=lh e4;have b1:=lh (aHb Q.o.c2 Q.o.l2.few Q.o.l2.rep (L:=o.L) (fun p hp=>aEi a6.o p hp) (by have:=a6.o.1;omega) (by have:=Q.o.l2.com.done;omega) (by rw[I.o];exact a0) (fun h=>o1 _ a1 (O (by rw[<- I.o];exact h))))
    replace e0:=aA t e0
    refine⟨_,rfl,hK _ _ (fun _=>⟨e0,trivial⟩) ?_⟩;simp only[nrm];clear hK a0 a1 O t e4 o1 c6;refine vJ (j:=10) (some 74) rfl rfl (by kernel_rfl) rfl fun K hK=>?_;refine jA (l:=[.tmp 67,.tmp 73]) rfl [.pointer (some ⟨b',0,none⟩),.slice A8 nl c8] rfl (aBt _) (b1.o.mono ?_);intro e w9 p7;have c':=lh p7;obtain⟨rfl,_,_,o3,_⟩:=p7
    replace e0:=o3.frame.keep f6.o
    refine⟨_,rfl,hK _ _ (fun _=>⟨e0,trivial⟩) ?_⟩;simp only[nrm];clear hK o3 b1;obtain⟨gy,h0⟩:∃gy,(doS y (o.L.map OpV.op)).2=gy:=⟨_,rfl⟩;rw[h0];have j3:=lh h0;clear h0;refine vJ (j:=17) (some 81) rfl rfl (by kernel_rfl) rfl fun K hK=>?_;refine jA (l:=[.tmp 80]) rfl [.slice A2 nl c2] rfl (tZ _) ((aJb (L:=o.L) (by rw[I.o];exact i'.o.fr c'.o.2.2.2.1.frame) (by have:=a6.o.1;omega)).mono ?_);rintro e wa ⟨v8,g8,rfl,a0,a1,O,t⟩;rw[I.o]at a0 O;obtain⟨A9,c9,o9,rfl,_,_⟩:=_root_.id a0;have b2:=lh t;have b1:=lh (aHb (Q.o.first c'.o t) Q.o.l1.few Q.o.l1.rep (L:=o.L) (fun p hp=>aEi a6.o p hp) (by have:=a6.o.1;omega) (by have:=Q.o.l1.com.done;omega) (by rw[I.o];exact a0) (fun h=>.inr ⟨a1,O (by rw[<- I.o];exact h)⟩))
    replace e0:=aA t e0
    refine⟨_,rfl,hK _ _ (fun _=>⟨e0,trivial⟩) ?_⟩;simp only[nrm];clear hK a0 a1 O t;refine vJ (j:=18) (some 82) rfl rfl (by kernel_rfl) rfl fun K hK=>?_;refine jA (l:=[.tmp 75,.tmp 81]) rfl [.pointer (some ⟨ca,0,none⟩),.slice A9 nl c9] rfl (aBt _) (b1.o.mono ?_);intro e wb p8;obtain⟨Xb,Yb,cb,D,h3⟩:=Q.o.did q1.o (by omega) c'.o b2.o p8;obtain⟨rfl,_,_,o4,_⟩:=p8
    replace e0:=o4.frame.keep f6.o
    rw[j3.o]at h3;rw[<- h3];refine⟨_,rfl,hK _ _ (fun _=>⟨e0,trivial⟩) ?_⟩;simp only[nrm];clear hK o4 b1 c' b2 Q j3 h3;have f7:(gy==gy)=true:=by simp
    refine tks [19,20] ?_
    iterate 2 (refine tk rfl rfl ⟨e0,trivial⟩ rfl (fun _ hW=>by(obtain⟨y1,_⟩:=hW;go_simp)<;>with_reducible rfl) ?_;simp only[nrm])
    refine tke ?_;refine _root_.Go.Proofs.YtebjhcjbfaaejaaGreatDoor.wd ?_ _;have j4:=q2.o
    replace D:=(⟨D.c1,D.c2,D.l1.mono (cc':=5*i+5) (N':=300*(i+1)) (by omega) (by omega),D.l2.mono (by omega) (by omega),D.m1,D.m2,D.two,D.cov,D.xs,D.ys⟩:Ag2 W wb dk g st ca b8 g2 g9 b' (5*i+5) (300*(i+1)) _ _ _ _ _)
    generalize (doS x (o.L.map OpV.op)).1=xb at *;generalize (doS y (o.L.map OpV.op)).1=yb at *;have J:=lh D;have j5:=D.c1.frame.keep q0.o;clear D e0 j4
    cases p9:o.chk
    case' false=>
     rw[p9]at j5;have f:Hid (Ag2 W wb dk g st ca b8 g2 g9 b' (5*(i+1)+1) (300*(i+1)) xb yb cb Xb Yb):=lh ⟨J.o.c1,J.o.c2,J.o.l1.mono (by omega) (tA _),J.o.l2.mono (by omega) (tA _),J.o.m1,J.o.m2,J.o.two,J.o.cov,J.o.xs,J.o.ys⟩;clear J;obtain⟨L,hL⟩:∃L,(cb.map fun y=>(⟨y.1.toArray⟩:ByteArray))=L:=⟨_,rfl⟩;obtain⟨n,hn⟩:∃n,L.length=n:=⟨_,rfl⟩;have u:=aHg f.o.l1.rep;have B:=aHg f.o.l2.rep;rw[hL]at u B
     have V:n<=900000:=by
      have h1:=f.o.l1.few.few 1;rw[f.o.l1.rep.names,lI]at h1;rw[<- hn,<- hL,lI];omega
     have HN:=lh hn;have f8:=lh V;have S:=lh (sV f.o.c2 f.o.l2.few (by omega) B);have b5:=lh u;clear u B hL hn V;go_wp2_with fail;refine S.o.mono ?_;rintro e wa ⟨va,rfl,a4,a5⟩;obtain⟨ga,c3,_,_⟩:=iH.of_own a4 wb.heap.size;obtain⟨Aa,ka,rfl,_,_⟩:=sA a4;have d0:=lh (sV (f.o.c1.stay a5) f.o.l1.few (by omega) b5.o);have f9:=lh c3;have f':=lh a5;clear a4 c3 a5 S b5;go_wp2_with fail;refine d0.o.mono ?_;rintro e wb ⟨vb,rfl,c4,e5⟩;obtain⟨gb,h4,_,_⟩:=iH.of_own c4 wb.heap.size
    case' true=>
     rw[p9]at j5;have e':=lh (aLy J.o.c1.sx.px (by have:=J.o.l1.com.done;omega));go_wp2_with fail;refine e'.o.mono ?_;rintro e wc ⟨rfl,hp,a8⟩;have S:=lh (aLy (J.o.second hp a8).sx.px (by have:=J.o.l2.com.done;omega));obtain⟨wd,h5⟩:=_root_.Go.Proofs.YtebjhcjbfaaejaaGreatDoor.nm (wc)
     have j6:Hid (∀(W2:World),PgX W W2 b8 g2 yb.s.check.1 (kC Yb wb wd)->Kp (kC Yb wb wd) wd W2->xb.s.check.2=0/\yb.s.check.2=0/\∃X',Ag2 W W2 dk g st ca b8 g2 g9 b' (5*i+5+1) (300*(i+1)) ⟨xb.s.check.1,xb.E⟩ ⟨yb.s.check.1,yb.E⟩ cb X' (kC Yb wb wd)):=lh fun W2 h1 h2=>by
      rw[h5]at h1 h2⊢;exact J.o.checked (by omega) hp a8 h1 h2
     have hz:xb.s.check.2=0:=by
      rcases J.o.l1.check (by omega) with ⟨h,_⟩|⟨_,_,h6,_⟩
      ·exact h
      ·exact absurd J.o.m1.lim h6
     have j7:yb.s.check.2=0:=by
      rcases J.o.l2.check (by omega) with ⟨h,_⟩|⟨_,_,h6,_⟩
      ·exact h
      ·exact absurd J.o.m2.lim h6
     rw[hz];rw[j7]at S;rw[<- h5]at S⊢;clear hp a8 h5 hz j7 e';go_wp2_with fail;refine S.o.mono ?_;rintro e we ⟨rfl,hp,a8⟩;obtain⟨_,_,Xe,o5⟩:=j6.o _ hp a8;have f:=lh o5;generalize kC Yb wb wd=Ye at *;generalize (⟨xb.s.check.1,xb.E⟩:SE)=xe at *;generalize (⟨yb.s.check.1,yb.E⟩:SE)=ye at *;clear hp a8 o5 j6 S J;obtain⟨L,hL⟩:∃L,(cb.map fun y=>(⟨y.1.toArray⟩:ByteArray))=L:=⟨_,rfl⟩;obtain⟨n,hn⟩:∃n,L.length=n:=⟨_,rfl⟩;have u:=aHg f.o.l1.rep;have B:=aHg f.o.l2.rep;rw[hL]at u B
     have V:n<=900000:=by
      have h1:=f.o.l1.few.few 1;rw[f.o.l1.rep.names,lI]at h1;rw[<- hn,<- hL,lI];omega
     have HN:=lh hn;have f8:=lh V;have S:=lh (sV f.o.c2 f.o.l2.few (by omega) B);have b5:=lh u;clear u B hL hn V;go_wp2_with fail;refine S.o.mono ?_;rintro e wa ⟨va,rfl,a4,a5⟩;obtain⟨ga,c3,_,_⟩:=iH.of_own a4 we.heap.size;obtain⟨Aa,ka,rfl,_,_⟩:=sA a4;have d0:=lh (sV (f.o.c1.stay a5) f.o.l1.few (by omega) b5.o);have f9:=lh c3;have f':=lh a5;clear a4 c3 a5 S b5;go_wp2_with fail;refine d0.o.mono ?_;rintro e wb ⟨vb,rfl,c4,e5⟩;obtain⟨gb,h4,_,_⟩:=iH.of_own c4 we.heap.size
    all_goals
     obtain⟨Ab,kb,rfl,_,_⟩:=sA c4;have b6:=f9.o.fr e5;have g1:=lh (aLf b6 h4 (by rw[HN.o];have:=f8.o;omega));rw[HN.o]at g1;have j8:=lh b6;have j9:=lh (f'.o.trans e5);clear c4 h4 e5 b6 d0 f9;rw[HN.o];go_wp2_with fail;refine g1.o.mono ?_;rintro e wc ⟨b3,rfl,o6,h7⟩;obtain rfl:b3=true:=o6.2 trivial;obtain⟨F,r,hF⟩:=aLg f.o.c1.sx.store;have a':=lh hF;have b0:=lh (hF.re f.o.two.begin);have d3:=lh (j9.o.trans h7);have j':=lh (j8.o.fr h7);have k0:=lh (aJi (f.o.c2.stay d3.o) b0.o);clear o6 h7 hF g1 j8 f' j9 b0;go_wp2_with fail;refine k0.o.mono ?_;rintro e wu ⟨rfl,e6⟩;have k':=lh (aJi (f.o.c1.stay (d3.o.trans e6)) a'.o);have l3:=lh (d3.o.trans e6);have l4:=lh (j'.o.fr e6);clear e6 k0 a' d3 j';go_wp2_with fail;refine k'.o.mono ?_;rintro e ww ⟨rfl,h8⟩;have f7:((r:Int)==(r:Int))=true:=by simp
     have d4:=lh (l3.o.trans h8);have q3:=lh (l4.o.fr h8);clear h8 k' l3 l4;go_wp2_with fail;clear f7;obtain⟨wo,rfl⟩:=_root_.Go.Proofs.YtebjhcjbfaaejaaGreatDoor.nm (wr)
     go_loopg [19] n (fun j v19 wr=>∃k:Nat,k+j=n/\v19=.int .i64 (k:Int)/\Fr [] ww wr)
     case atStart=>exact⟨0,by omega,rfl,Fr.refl _ _⟩
     case round=>
      obtain⟨k,hk,rfl,o7⟩:=hrel;have d5:=lh o7;clear o7
      by_cases q':k<n
      ·obtain⟨nm,o'⟩:∃nm,L[k]? = some nm:=gx (by rw[HN.o];exact q');obtain⟨A7,c7,oa,e2,_,p0⟩:=q3.o.fr d5.o;obtain⟨rfl,P⟩:=p0 (by rw[HN.o];omega);have a7:=P k (.string nm) (by rw[zH,o'];rfl);injection e2 with e1 _ e3;subst e1;subst e3;have r3:(k:Int)<(n:Int):=by omega
       have r4:IntKind.i64.wrap ((k:Int)+1)=((k+1:Nat):Int):=by have:=f8.o;rw[iD];omega
       obtain⟨l0,n0,p1,p2⟩:=aLh f.o.l1.rep.ok (fun z hz=>f.o.l1.rep.tx_few f.o.l1.few hz) (by omega) nm;have l5:=lh p1;have l6:=lh p2;obtain⟨q,hq⟩:∃q,l0.length=q:=⟨_,rfl⟩;have d6:=lh hq;have g3:=lh (aMl (f.o.c2.stay (d4.o.trans d5.o)) f.o.l2.few (by omega) f.o.l2.rep nm);rw[l5.o]at g3;have Z:=lh a7;clear o' p0 P p1 p2 hq;go_wp2_with fail;refine g3.o.mono ?_;rintro e wx ⟨vx,gn,rfl,h9,_,h'⟩;obtain⟨Ax,kx,ox,rfl,_,_⟩:=_root_.id h9;have l7:=lh h9;have b2:=lh (d5.o.trans h')
       replace a7:=aA h' a7
       replace Z:=lh a7
       have g4:=lh (aMl (f.o.c1.stay (d4.o.trans b2.o)) f.o.l1.few (by omega) f.o.l1.rep nm);rw[l5.o]at g4;clear h9 h' g3;go_wp2_with fail;refine g4.o.mono ?_;rintro e wy ⟨vy,gy,rfl,i0,_,e7⟩;obtain⟨Ay,ky,oy,rfl,_,_⟩:=_root_.id i0;have g5:=lh (l7.o.fr e7);have q4:=lh (b2.o.trans e7)
       replace Z:=lh (aA e7 a7)
       have g6:=lh (aNO g5.o i0 l6.o);clear a7 i0 e7 g4 l7;rw[d6.o]at g6⊢;go_wp2_with fail;refine g6.o.mono ?_;rintro e wz ⟨b4,rfl,p3,e8⟩;obtain rfl:b4=true:=p3.2 trivial;have l8:=lh (q4.o.trans e8);have q5:=lh (g5.o.fr e8);have q6:=lh (aA e8 Z.o);clear p3 e8 g6 g5 Z;go_wp2_with fail;obtain⟨wk,rfl⟩:=_root_.Go.Proofs.YtebjhcjbfaaejaaGreatDoor.nm (wr)
       go_loopg [24] q (fun j v24 wr=>∃i:Nat,i+j=q/\v24=.int .i64 (i:Int)/\Fr [] wz wr)
       case atStart=>exact⟨0,by omega,rfl,Fr.refl _ _⟩
       case round=>
        obtain⟨j,hj,rfl,p4⟩:=hrel;have G:=lh p4;clear p4
        by_cases r0:j<q
        ·obtain⟨id,p5⟩:∃id,l0[j]? = some id:=gx (by rw[d6.o];exact r0);obtain⟨A8,c8,on,e4,_,p6⟩:=q5.o.fr G.o;obtain⟨rfl,P⟩:=p6 (by rw[d6.o];omega);have l9:=P j (.int .i64 id) (by rw[zH,p5];rfl);injection e4 with e1 _ e3;subst e1;subst e3;have r5:(j:Int)<(q:Int):=by omega
         have r6:IntKind.i64.wrap ((j:Int)+1)=((j+1:Nat):Int):=by have:=l6.o;have:=d6.o;rw[iD];omega
         have Z:=lh (aA G.o q6.o);have d7:=lh l9;have d8:=lh (d4.o.trans (l8.o.trans G.o));obtain⟨rs,rb,rn,hr⟩:∃rs rb rn,aPW cb (bA nm) id=(rs,rb,rn):=⟨_,_,_,rfl⟩;obtain⟨a9,f1⟩:∃a9:ByteArray,a9=⟨rs.toArray⟩:=⟨_,rfl⟩;have l':=lh hr;have m0:=lh f1;clear p5 p6 P l9 hr f1;have N:Fr [] wr wr.drew:=(Fr.refl [] wr).drew;go_upto_region 31 with fail
         have T:=aA N Z.o;have U:=aA N d7.o;refine lA (fun W=>W.cell? ⟨ga,oa+k,none⟩=some (.string nm)/\W.cell? ⟨gn,on+j,none⟩=some (.int .i64 id)) [0,1,2,3,4,5,6,7,8,10,11,12,13] (by kernel_rfl) ?_;have a2:=lh (d8.o.trans N);replace G:=lh (G.o.trans N);have a3:=lh (aBL (f.o.c2.stay a2.o) f.o.l2.few (by omega) f.o.l2.rep nm id);rw[l'.o]at a3;clear N;generalize wr.drew=wd at *;refine tks [0,1,2,3,4,5,6,7,8] ?_
         iterate 9 (refine tk rfl rfl ⟨T,U⟩ rfl (fun _ hW=>by(obtain⟨y1,y2⟩:=hW;go_simp)<;>with_reducible rfl) ?_;simp only[nrm])
         refine tke ?_;refine sp 9 rfl rfl rfl fun K hK=>?_;refine jA (l:=[.tmp 161,.tmp 165,.tmp 169]) rfl [.pointer (some ⟨b',0,none⟩),.string nm,.int .i64 id] rfl (aEh _) (a3.o.mono ?_);rintro e w8 ⟨rfl,t⟩
         replace T:=aA t T;replace U:=aA t U
         refine⟨_,rfl,hK _ _ (fun _=>⟨T,U⟩) ?_⟩;simp only[nrm];clear hK
         replace d8:=lh (a2.o.trans t);replace G:=lh (G.o.trans t);replace Z:=lh T;replace d7:=lh U
         clear t a3 a2;rw[<- m0.o];refine tks [10,11,12,13] ?_
         iterate 4 (refine tk rfl rfl ⟨T,U⟩ rfl (fun _ hW=>by(obtain⟨y1,y2⟩:=hW;go_simp)<;>with_reducible rfl) ?_;simp only[nrm])
         refine tke ?_;refine sp 14 rfl rfl rfl fun K hK=>?_;refine nA (v:=.string a9) (by go_simp) (hK _ _ (fun _=>⟨T,U⟩) ?_);simp only[nrm];clear hK;refine sp 15 rfl rfl rfl fun K hK=>?_;refine nA (v:=.bool rb) (by go_simp) (hK _ _ (fun _=>⟨T,U⟩) ?_);simp only[nrm];clear hK;refine sp 16 rfl rfl rfl fun K hK=>?_;refine nA (v:=.int .i64 rn) (by go_simp) (hK _ _ (fun _=>⟨T,U⟩) ?_);simp only[nrm];clear hK;refine _root_.Go.Proofs.YtebjhcjbfaaejaaGreatDoor.wd ?_ _;clear T U;have N:Fr [] w8 w8.drew:=(Fr.refl [] w8).drew;go_upto_region 32 with fail
         have T:=aA N Z.o;have U:=aA N d7.o;refine lA (fun W=>W.cell? ⟨ga,oa+k,none⟩=some (.string nm)/\W.cell? ⟨gn,on+j,none⟩=some (.int .i64 id)) [0,1,2,3,4,5,6,7,8,10,11,12,13] (by kernel_rfl) ?_;have a2:=lh (d8.o.trans N);replace G:=lh (G.o.trans N);have a3:=lh (aBL (f.o.c1.stay a2.o) f.o.l1.few (by omega) f.o.l1.rep nm id);rw[l'.o]at a3;clear N;generalize w8.drew=wd at *;refine tks [0,1,2,3,4,5,6,7,8] ?_
         iterate 9 (refine tk rfl rfl ⟨T,U⟩ rfl (fun _ hW=>by(obtain⟨y1,y2⟩:=hW;go_simp)<;>with_reducible rfl) ?_;simp only[nrm])
         refine tke ?_;refine sp 9 rfl rfl rfl fun K hK=>?_;refine jA (l:=[.tmp 175,.tmp 179,.tmp 183]) rfl [.pointer (some ⟨ca,0,none⟩),.string nm,.int .i64 id] rfl (aEh _) (a3.o.mono ?_);rintro e w9 ⟨rfl,t⟩
         replace T:=aA t T;replace U:=aA t U
         refine⟨_,rfl,hK _ _ (fun _=>⟨T,U⟩) ?_⟩;simp only[nrm];clear hK
         replace d8:=lh (a2.o.trans t);replace G:=lh (G.o.trans t);replace Z:=lh T;replace d7:=lh U
         clear t a3 a2;rw[<- m0.o];refine tks [10,11,12,13] ?_
         iterate 4 (refine tk rfl rfl ⟨T,U⟩ rfl (fun _ hW=>by(obtain⟨y1,y2⟩:=hW;go_simp)<;>with_reducible rfl) ?_;simp only[nrm])
         refine tke ?_;refine sp 14 rfl rfl rfl fun K hK=>?_;refine nA (v:=.string a9) (by go_simp) (hK _ _ (fun _=>⟨T,U⟩) ?_);simp only[nrm];clear hK;refine sp 15 rfl rfl rfl fun K hK=>?_;refine nA (v:=.bool rb) (by go_simp) (hK _ _ (fun _=>⟨T,U⟩) ?_);simp only[nrm];clear hK;refine sp 16 rfl rfl rfl fun K hK=>?_;refine nA (v:=.int .i64 rn) (by go_simp) (hK _ _ (fun _=>⟨T,U⟩) ?_);simp only[nrm];clear hK;refine _root_.Go.Proofs.YtebjhcjbfaaejaaGreatDoor.wd ?_ _;clear T U;have f7:(a9.toList==a9.toList)=true:=by simp
         go_wp2_with fail
         go_roundg (q-(j+1))
         case measure=>omega
         case rel=>exact⟨j+1,by omega,rfl,G.o⟩
        ·obtain rfl:j=q:=by omega
         go_wp2_with fail
         go_roundg (n-(k+1))
         case measure=>omega
         case rel=>exact⟨k+1,by omega,rfl,l8.o.trans G.o⟩
      ·obtain rfl:k=n:=by omega
       have q7:=lh (((f.o.fr (d4.o.trans d5.o)).closed).mono (cc':=5*(i+1)+1) (N':=300*(i+1)) (by omega) (by omega));go_wp2_with fail
       go_roundg (m-(i+1))
       case measure=>omega
       case rel=>exact⟨i+1,_,_,_,_,_,by omega,rfl,q7.o⟩
   ·obtain rfl:i=m:=by omega
    have HX:=lh (HQ.o (.returned (.bool true)) wr ⟨rfl,HP.o.ct.frame⟩);go_wp2_with fail;exact HX.o
end
end Go.Proofs.YtebjhcjbfaaejaaGreatDoor
