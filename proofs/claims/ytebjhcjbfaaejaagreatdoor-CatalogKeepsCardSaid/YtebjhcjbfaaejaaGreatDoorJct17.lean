/-
  CatalogKeeps, for every input: never a mixture: rounds, until the disk dies at any write, whatever is kept of what was pending: opened again, all is as the last round that was OK left it, or as the one would have that was being done. The listed variables hold what the program's text lays (the card's tie).
-/
import Derived.Test.YtebjhcjbfaaejaaGreatDoorJct15
import Derived.Test.YtebjhcjbfaaejaaGreatDoorCards
import Derived.Test.YtebjhcjbfaaejaaGreatDoorTie
import Derived.SevenTiedAt
import Derived.Test.YtebjhcjbfaaejaaGreatDoorJctK1
set_option maxRecDepth 100000
set_option maxHeartbeats 32000000
open Go.Value renaming int->ii,slice->si,pointer->pi,tuple->tl,bool->ij,agg->il
open Go.IntKind renaming i64->ip,wrap->Wi
open Go.Obj renaming cells->iy
open Go.Ending renaming returned->iz
open Or renaming inl->Ii,inr->Ij
open List renaming length->li
namespace Go.Proofs.YtebjhcjbfaaejaaGreatDoor
open Go.Proofs.Tryz
variable {k:Nat}{L:List Nat}
section
open Go.RowKit
theorem zJ.nil(w:World)(g:Nat):zJ w (si none 0 0) [] g:=⟨none,0,0,rfl,tA _,λb=>by simp at b⟩
end
section
open Go.RowKit Go.ChangeShapes Go.WideShapes
variable {H:Type}{P:Program}{enc:TypeId×Value->H}
def aAQ (W:World) (v:Value) (bs:List Bool):Prop:=bs.length<=maxLen/\∃g,zJ W v bs g/\(bs=[]∨g<W.heap.size)
theorem aAQ.here{W w:World}{v:Value}{bs:List Bool}(h:aAQ W v bs)(i:Fr [] W w):∃g,zJ w v bs g/\(g<W∨w<=g):=by
 obtain⟨_,g,c,b⟩:=h;by_cases d:bs=[];·obtain⟨f,j,k,rfl,l,_⟩:=c;subst d;exact⟨w,⟨f,j,k,rfl,l,λh=>by simp at h⟩,Ij (tA _)⟩
 obtain b|b:=b;·exact absurd b d
 exact⟨g,c.fr i,Ii b⟩
theorem aQb{W:World}{t e:TypeId}{v:Value}{x:DataW H×List MemPlace}(ht:P.underlying t=some (.slice e))(B:P.underlying e=some .bool)(C:P.cellsOf e=1) (h:DataW.trod enc P W 0 (λ_=>true) true k t [v]=some x):∃bs,aAQ W v bs:=by
 obtain⟨b,_⟩|⟨a,g,d,i,q,r,s,b,_,u,y,c,_,j⟩:=Go.Deep.open_slice ht h
 ·obtain rfl:v=si none 0 0:=by simpa using b
  exact⟨[],by simp,0,zJ.nil _ _,Ii rfl⟩
 obtain rfl:v=si a g d:=by simpa using b
 simp only[vG]at c;subst c;rw[C]at j;have c:∀b,b<i->∃d:Bool,W.cell? (a.add b)=some (ij d):=by intro b m;obtain⟨z,f,l⟩:=j b m;obtain⟨_,A,m⟩:=World.cells?_some f;obtain⟨d,c,_⟩:=DataW.trod_bool B l;have f:=m 0 (by omega);rw[c]at f;refine⟨d,?_⟩;have l:(a.add (b*1)).add 0=a.add b:=(by rw[Nat.mul_one];simp[Addr.add]);rw[l]at f;simpa using f
 by_cases f:g=0;·subst f;exact⟨[],by simp,0,⟨some a,i,0,rfl,by simp,λh=>by simp at h⟩,Ii rfl⟩
 obtain⟨D,f⟩:=c 0 (by omega);obtain⟨l,m,rfl⟩:=aDB f;obtain⟨bs,n,o⟩:=aCH (p:=λb (d:Bool)=>W.cell? ⟨l,m+b,none⟩=some (ij d)) g (λb j=>by obtain⟨d,c⟩:=c b (by omega);rw[aHA]at c;exact⟨d,c⟩);rw[aHA]at f;exact⟨bs,by omega,l,⟨some ⟨l,m,none⟩,i,m,by rw[n],by omega,λ_=>⟨rfl,o⟩⟩,Ij (xF W _ f)⟩
end
section
open Go.RowKit
theorem aQc{w:World}{d:Nat}{D:DM}(h:wF w d D L)(v:Value)(K:List Bool)(gs:Nat)(c:zJ w v K gs)(b:gs∉L)(hK:li K<=9223372036854775807): Calls prog 16 #[pi d,v] w λe f=>e=iz (tl #[])/\eK w f d (D.reopen K) L:=by obtain⟨f,g,rfl,h⟩:=h;exact aOv h v K gs c (λe=>b (by simp[dfp,e])) hK
section
variable {w0 w w':World}{d:Nat}{D D':DM}{X:Nat->Prop}
theorem DkX.frame(h:DkX w0 w d D X):Fr [] w0 w:=by obtain⟨_,_,_,h,_⟩:=h;exact h
theorem DkX.step(h2:∀k∈L,w0<=k/\¬ X k)(h3:Fr [] w0 w)(g:∀k,X k->k<w)(j:eK w w' d D' L):DkX w0 w' d D' X/\Kp X w w':=by
 obtain⟨b,f,c,l⟩:=j;have m:=h3.size;have i:=c.size;refine⟨⟨b,f,λk f=>?_,h3.trans c (λh b=>Ij (h2 h b).1),λk f=>iL (g k f) i⟩,L,c,λh b=>(h2 h b).2⟩;obtain c|c:=l k f;·exact h2 k c
 exact⟨by omega,λb=>by have:=g k b;omega⟩
theorem aSA(h:DkX w0 w d D X)(v:Value)(K:List Bool)(gs:Nat)(f:zJ w v K gs)(g:gs<w0∨w<=gs)(hK:li K<=9223372036854775807): Calls prog 16 #[pi d,v] w λe b=>e=iz (tl #[])/\DkX w0 b d (D.reopen K) X/\Kp X w b:=by obtain⟨n,c,i,j,k⟩:=h;refine(aQc c v K _ f ?_ hK).mono λe b ⟨l,m⟩=>⟨l,DkX.step i j k m⟩;intro b;have j:=c.lt _ b;have c:=(i _ b).1;omega
theorem aFv(h:DkX w0 w d D X):Calls prog 11 #[pi d] w λe b=>e=iz (ij D.dead)/\w=b:=by obtain⟨c,b,_⟩:=h;exact aHE b
end
end
theorem aIL{D:DM}(b:D.P=[])(K:List Bool):(D.reopen K).S=D.S:=by show iC D.S (zG D.P K)=_;rw[b];rfl
theorem fG.closed{c:Nat}{s:PS}{C:Nat->List UInt8}(h:fG c s C)(K:List Bool):zL c s.n s.l.n (s.D.reopen K) C:=by obtain⟨f,d,g,i⟩:=h.recs;have b:=aIL h.pend K;refine⟨rfl,rfl,DM.ok_reopen h.ok K,by rw[b];exact h.fit,h.n1,h.n2,h.log1,⟨f,s.held,by rw[b];exact d.closed,g,λe=>by rw[<- d.at_];exact i e,by rw[b];exact h.cont⟩⟩
theorem fG.limited{c:Nat}{s:PS}{C:Nat->List UInt8}(h:fG c s C)(k:Int)(b:k<=9223372036854775807):fG c { s with D:=s.D.limited k } C:=⟨h.dead,h.pend,DM.ok_limited h.ok k b,h.fit,h.n1,h.n2,h.log1,h.recs,h.late,h.br,h.cont⟩
section
open Go.RowKit
section
variable {w0 w:World}{d g:Nat}{s:PS}{X:Nat->Prop}
theorem PgX.disk(h:PgX w0 w d g s X):DkX w0 w d s.D X:=by obtain⟨k,l,m,b,c,f,i,j⟩:=h;exact⟨b,c.jn.disk,λb c=>f b (by simp[pfp,c]),i,j⟩
theorem aTS(h:PgX w0 w d g s X)(k:Int)(c:k<=9223372036854775807): Calls prog 10 #[pi d,k] w λe b=>e=iz (tl #[])/\PgX w0 b d g { s with D:=s.D.limited k } X/\Kp X w b:=by obtain⟨o,p,q,r,f,i,j,l⟩:=h;exact(aSz f.jn.disk k c).mono λe b ⟨m,n⟩=>⟨m,PgX.step i j l (f.disk_ n rfl)⟩
end
open Go.RowKit

open Go.RowKit
end
section
variable {c:Nat}{s:PS}{K:Nat->En}
theorem vL.live(h:vL c s K):s.D.dead=false:=by obtain⟨d,b,_⟩:=h.inv;exact b.dead
theorem vL.closed(h:vL c s K)(Q:List Bool):aFf c s.n s.l.n (s.D.reopen Q) K:=by obtain⟨b,d,f⟩:=h.inv;exact⟨b,d.closed Q,f⟩
theorem aFf.mono{c' n log:Nat}{D:DM}(h:aFf c n log D K)(b:c<=c'):aFf c' n log D K:=by obtain⟨d,f,g⟩:=h;exact⟨d,f.mono b,g⟩
end
theorem aCF.mono{N cc' N' n log:Nat}{D:DM}{c:Ct}(h:aCF k N n log D c)(h1:k<=cc')(h2:N<=N'):aCF cc' N' n log D c:=by obtain⟨b,a,d,f⟩:=h;exact⟨b,a.mono h1,d.mono h2,f⟩
theorem Liv.closed{N:Nat}{x:SE}{c:Ct}(h:Liv k N x c)(Q:List Bool):aCF k N x.s.n x.s.l.n (x.s.D.reopen Q) c:=⟨x.E,h.com.closed Q,h.few,h.rep⟩
section
open Go.RowKit Go.Shelf
theorem aSB{b:Ct}(h0:OkC b):∀(l:List OpC) {c:Ct},OkC c->OkC (doC b c l).1
 | [],_,h=>h
 | o::l,c,h=>by
  unfold doC;split;·exact aSB h0 l (aOl h o)
  exact h0
end
section
open Go.RowKit Go.ChangeMaps Go.MapKept Go.Maps Go.Sort Go.Shelf
section
variable {g cc N:Nat}{c:Ct}
theorem aCF.open_{n log:Nat}{D:DM}(h:aCF cc N n log D c)(i:cc+1<4294967296)(j:D.done<=300000*(cc+1)): ∃H E,qG n ((vA log none (D.S.take log)).map (·.2)) []=some H/\Liv (cc+1) N ⟨qH n log D H,E⟩ c/\(lC (D.S.take log)).1<4294967295/\D.dead=false/\D.P=[]/\log+8*n<=li D.S/\1<=n/\n<=4096/\1<=log:=by obtain⟨E,b,d,f⟩:=h;obtain⟨H,g,k,l⟩:=b.open_ i j;exact⟨H,E,g,⟨k,rfl,d,f⟩,l⟩
end
structure KpO (w0 w:World) (b B:Nat) (D:Nat->Prop) (c:Ct) (v:Value) (us:List Value) (X:Nat->Prop):Prop where
 cat:CtV D w v c us
 blk:Blk w b 37 [v]
 xb:X b
 lo:w0.heap.size<=b
 len:c.length<=B
 tx:∀y∈c,y.2.length<=B
 ok:OkC c
structure KpM (w0 w:World) (b b2 B:Nat) (c:Ct) (v:Value) (us:List Value) (c2:Ct) (v2:Value) (us2:List Value) (X:Nat->Prop):Prop where
 o1:KpO w0 w b B (fun q=>X q/\q≠b/\q≠b2) c v us X
 o2:KpO w0 w b2 B (fun q=>X q/\q≠b/\q≠b2) c2 v2 us2 X
 ne:b≠b2
section
variable {w0 w w':World}{b b2 B B':Nat}{D D' X X':Nat->Prop}{c c2 c':Ct}{v v2 v':Value}{us us2 us':List Value}
theorem KpO.to(h:KpO w0 w b B D c v us X){S:List Nat}(d:Fr S w w')(h1:∀q,D q->q∉S)(h2:b∉S)(g:∀q,D q->D' q)(i:X' b)(f:B<=B'):KpO w0 w' b B' D' c v us X':=⟨(h.cat.fr d h1).more g,h.blk.fr d h2,i,h.lo,vD h.len f,λj k=>vD (h.tx j k) f,h.ok⟩
theorem KpM.fr(h:KpM w0 w b b2 B c v us c2 v2 us2 X)(d:Fr [] w w'):KpM w0 w' b b2 B c v us c2 v2 us2 (yC X w w'):=⟨h.o1.to d (by simp) (by simp) (λg f=>⟨Ii f.1,f.2⟩) (Ii h.o1.xb) (tA _),h.o2.to d (by simp) (by simp) (λg f=>⟨Ii f.1,f.2⟩) (Ii h.o2.xb) (tA _),h.ne⟩
theorem KpM.kp(h:KpM w0 w b b2 B c v us c2 v2 us2 X)(g:Kp X w w'):KpM w0 w' b b2 B c v us c2 v2 us2 X:=by obtain⟨l,k,j⟩:=g;exact⟨h.o1.to k (λi d f=>j i f d.1) (λf=>j b f h.o1.xb) (λi d=>d) h.o1.xb (tA _),h.o2.to k (λi d f=>j i f d.1) (λf=>j b2 f h.o2.xb) (λi d=>d) h.o2.xb (tA _),h.ne⟩
theorem KpM.mono(h:KpM w0 w b b2 B c v us c2 v2 us2 X)(d:B<=B'):KpM w0 w b b2 B' c v us c2 v2 us2 X:=⟨h.o1.to (jj [] w) (by simp) (by simp) (λg f=>f) h.o1.xb d,h.o2.to (jj [] w) (by simp) (by simp) (λg f=>f) h.o2.xb d,h.ne⟩
theorem KpM.set2(h:KpM w0 w b b2 B c v us c2 v2 us2 X)(f:Fr [b2] w w')(g:Blk w' b2 37 [v'])(i:CtV (λk=>X k/\k≠b/\k≠b2) w v' c' us')(j:li c'<=B)(ht:∀y∈c',li y.2<=B)(d:OkC c'):KpM w0 w' b b2 B c v us c' v' us' X:=⟨h.o1.to f (λk l m=>l.2.2 (xA.1 m)) (by simp[h.ne]) (λk l=>l) h.o1.xb (tA _),⟨i.fr f (λk l m=>l.2.2 (xA.1 m)),g,h.o2.xb,h.o2.lo,j,ht,d⟩,h.ne⟩
theorem KpM.set1(h:KpM w0 w b b2 B c v us c2 v2 us2 X)(f:Fr [b] w w')(g:Blk w' b 37 [v'])(i:CtV (λk=>X k/\k≠b/\k≠b2) w v' c' us')(j:li c'<=B)(ht:∀y∈c',li y.2<=B)(d:OkC c'):KpM w0 w' b b2 B c' v' us' c2 v2 us2 X:=⟨⟨i.fr f (λk l m=>l.2.1 (xA.1 m)),g,h.o1.xb,h.o1.lo,j,ht,d⟩,h.o2.to f (λk l m=>l.2.1 (xA.1 m)) (by simp[Ne.symm h.ne]) (λk l=>l) h.o2.xb (tA _),h.ne⟩
end
structure KpA (w0 w:World) (dk g st ca b b2 cc N B:Nat) (x:SE) (c:Ct) (v:Value) (us:List Value) (c2:Ct) (v2:Value) (us2:List Value) (X:Nat->Prop):Prop where
 ct:CtX w0 w dk g st ca x X
 liv:Liv cc N x c
 sn:x.s.n=60
 ln:x.s.l.n=400
 mem:KpM w0 w b b2 B c v us c2 v2 us2 X
 ne:st≠b/\ca≠b/\st≠b2/\ca≠b2
structure KpZ (w0 w:World) (dk b b2 cc N B:Nat) (D:DM) (c:Ct) (v:Value) (us:List Value) (c2:Ct) (v2:Value) (us2:List Value) (X:Nat->Prop):Prop where
 dk:DkX w0 w dk D X
 off:∀Q,aCF cc N 60 400 (D.reopen Q) c∨aCF cc N 60 400 (D.reopen Q) c2
 done:D.done<=300000*cc
 mem:KpM w0 w b b2 B c v us c2 v2 us2 X
section
variable {w0 w w':World}{dk g st ca b b2 cc N B cc' N' B':Nat}{x:SE}{D:DM}{c c2 c':Ct}{v v2 v':Value}{us us2 us':List Value}{X:Nat->Prop}
theorem KpA.fr(h:KpA w0 w dk g st ca b b2 cc N B x c v us c2 v2 us2 X)(d:Fr [] w w'):KpA w0 w' dk g st ca b b2 cc N B x c v us c2 v2 us2 (yC X w w'):=⟨h.ct.fr d,h.liv,h.sn,h.ln,h.mem.fr d,h.ne⟩
theorem KpA.mono(h:KpA w0 w dk g st ca b b2 cc N B x c v us c2 v2 us2 X)(h1:cc<=cc')(h2:N<=N')(h3:B<=B'):KpA w0 w dk g st ca b b2 cc' N' B' x c v us c2 v2 us2 X:=⟨h.ct,h.liv.mono h1 h2,h.sn,h.ln,h.mem.mono h3,h.ne⟩
theorem KpA.set2(h:KpA w0 w dk g st ca b b2 cc N B x c v us c2 v2 us2 X)(f:Fr [b2] w w')(i:Blk w' b2 37 [v'])(j:CtV (λl=>X l/\l≠b/\l≠b2) w v' c' us')(k:li c'<=B)(ht:∀y∈c',li y.2<=B)(d:OkC c'):KpA w0 w' dk g st ca b b2 cc N B x c v us c' v' us' X:=⟨h.ct.other f h.mem.o2.xb h.mem.o2.lo h.ne.2.2.1 h.ne.2.2.2,h.liv,h.sn,h.ln,h.mem.set2 f i j k ht d,h.ne⟩
theorem KpA.closed(h:KpA w0 w dk g st ca b b2 cc N B x c v us c2 v2 us2 X):KpZ w0 w dk b b2 cc N B x.s.D c v us c2 v2 us2 X:=⟨h.ct.sx.px.disk,λd=>Ii (by have:=h.liv.closed d;rwa [h.sn,h.ln]at this),h.liv.com.done,h.mem⟩
theorem KpZ.mono(h:KpZ w0 w dk b b2 cc N B D c v us c2 v2 us2 X)(h1:cc<=cc')(h2:N<=N')(h3:B<=B'):KpZ w0 w dk b b2 cc' N' B' D c v us c2 v2 us2 X:=⟨h.dk,λd=>(h.off d).imp (λh=>h.mono h1 h2) (λh=>h.mono h1 h2),by have:=h.done;omega,h.mem.mono h3⟩
theorem DkX.other{S:List Nat}(h:DkX w0 w dk D X)(d:Fr S w w')(j:∀q∈S,X q)(h0:∀q∈S,w0<=q):DkX w0 w' dk D X:=by obtain⟨c,f,b,g,i⟩:=h;exact⟨c,f.fr d (λc f k=>(b c f).2 (j c k)),b,g.trans d (λq b=>Ij (h0 q b)),λq b=>iL (i q b) d.size⟩
theorem Liv.limited(h:Liv cc N x c)(k:Int)(d:k<=9223372036854775807):Liv cc N ⟨{ x.s with D:=x.s.D.limited k },x.E⟩ c:=by obtain⟨b,f,g⟩:=h.com.inv;exact⟨⟨⟨b,f.limited k d,g⟩,h.com.done⟩,h.late,h.few,h.rep⟩
end
def KpR (W w:World) (dk g st ca b b2 cc N B:Nat):Prop:=
 (∃x c v us c2 v2 us2 X,KpA W w dk g st ca b b2 cc N B x c v us c2 v2 us2 X) ∨
 (∃D c v us c2 v2 us2 X,KpZ W w dk b b2 cc N B D c v us c2 v2 us2 X/\D.dead=true)
theorem Z6{P:Prop} (h:P:=by
 rw[hkk] at hckT;have HDE:=lh (aFv HPT.o.ct.sx.px.disk);rw[HPT.o.liv.com.live] at HDE;go_wp2_with fail;refine HDE.o.mono ?_;rintro e wz ⟨rfl,rfl⟩;have HCHK:=lh (aCL HPT.o.ct.sx.px (by have:=HPT.o.liv.com.done;omega));go_wp2_with fail;refine HCHK.o.mono ?_;rintro e wc ⟨rfl,hpc,hkc⟩
 have HKR:Hid (KpR W wc dk g st ca bm bn (5 * (i+1)+1) (300 * (i+1)) (12 * (i+1))):=lh (by
  rcases HPT.o.liv.check (by omega) with ⟨_,hLc,hnc,hlc,_⟩ | ⟨_,hdd,_,hdn,hof⟩
  ·exact .inl ⟨_,_,_,_,_,_,_,_,HPT.o.ct.checked hpc hkc hLc,hLc.mono (by omega) (tA _),hnc.trans HPT.o.sn,hlc.trans HPT.o.ln,HPT.o.mem.kp hkc,HPT.o.ne⟩
  ·refine .inr ⟨_,_,_,_,_,_,_,_,⟨hpc.disk,fun Q=>.inl ?_,by omega,HPT.o.mem.kp hkc⟩,hdd⟩;have h:=hof Q;rw[HPT.o.sn,HPT.o.ln] at h;exact h.mono (by omega) (tA _))
 clear hpc hkc HCHK;go_wp2_with fail
 go_roundg (m - (i+1))
 case measure=>omega
 case rel=>exact⟨i+1,by omega,rfl,HKR.o⟩):P:=h
theorem Z83{P:Prop} (h:P:=by
 go_wp2_with fail
 go_roundg (m - (i+1))
 case measure=>omega
 case rel=>exact⟨i+1,by omega,rfl,HKR.o⟩):P:=h
theorem aIM(W:World)(v kv:Value)(l:List RdA)(k6:Int)(ks:List Bool)(hv:aIB W v l)(hk:aAQ W kv ks):RV 3 #[v,ii ip k6,kv] W (ij true):=by
 obtain⟨mk,t6,n7⟩:=aIT k6 1023 (by omega);have k7:bits .and ip k6 1023=(mk:Int):=n7;have k8:=lh hk;obtain⟨n8,gk,f4,_⟩:=hk;obtain⟨Ak,ck,ok,rfl,s8,_⟩:=f4;obtain⟨nk,j0⟩:∃nk,li ks=nk:=⟨_,rfl⟩;have q2:=lh j0;rw[j0]at n8 s8 k8⊢;have HV:=lh hv;obtain⟨A,cv,g0,off,rfl,g3,n9⟩:=hv;obtain⟨m,hm⟩:∃m,li l=m:=⟨_,rfl⟩;rw[hm]at HV g3⊢;have q3:=lh n9;have HM:=lh hm;unfold maxLen at n8;clear n7 n9 g3 hm j0;refine cA λR k=>?_;have HQ:=lh k;clear k;go_enter func3,ntmps3;go_wp2_with fail;refine(aOo W).mono ?_;rintro e w1 ⟨rfl,n'⟩;have k9:=lh n';clear n';go_wp2_with fail;refine(aOm HV.o k9.o).mono ?_;rintro e w2 ⟨bs,rfl,hb,o0⟩;have k':=lh (k9.o.trans o0);have HB:=lh hb;have h4:=lh (HQ.o (iz (ij true)) w2 ⟨rfl,k'.o⟩);clear o0 hb;cases bs with
 | false=>go_wp2_with fail;exact h4.o
 | true=>
  have l0:=lh (HB.o rfl);clear HB;by_cases g':600<nk;·have q4:(600:Int)<(nk:Int):=(by omega);clear g';go_wp2_with fail;exact h4.o
  have q4:¬ (600:Int)<(nk:Int):=(by omega);clear g' h4;go_wp2_with fail;obtain⟨H4,o3,o4,o5,o7⟩:=aFu (n:=60) (log:=400) (M:=1000) (by omega) (by omega) (by omega) (by omega) (by omega);refine(aQu (X:=λ_=>False) W w2 1000 (by omega) (by omega) k'.o (by simp)).mono ?_;rintro e w3 ⟨dk,rfl,o8,_⟩;have l1:=lh o3;have h5:=lh o4;have l2:=lh o5;have l3:=lh o7;have l4:=lh o8;clear o3 o4 o5 o7 o8;go_wp2_with fail;refine(aIJ (n:=60) (log:=400) l4.o rfl rfl (by omega) (by omega) (by omega) l3.o l2.o l1.o h5.o).mono ?_;rintro e w4 ⟨g,st,ca,X4,rfl,j1,_,_⟩;have l5:(qH 60 400 (DM.new 1000) H4).n=60/\(qH 60 400 (DM.new 1000) H4).l.n=400:=⟨rfl,rfl⟩;generalize qH 60 400 (DM.new 1000) H4=s4 at *;have l6:=lh j1;have l7:=lh l5;have l8:=lh (aTS j1.sx.px (mk:Int) (by omega));clear j1 l5 l1 l2 l3 l4;go_wp2_with fail;refine l8.o.mono ?_;rintro e U ⟨rfl,o9,o'⟩;have h6:=h5.o.limited (mk:Int) (by omega);have c9:Hid (CtX W U dk g st ca ⟨{ s4 with D:=s4.D.limited (mk:Int) },λ_=>[]⟩ X4):=lh (l6.o.checked (x:=⟨s4,λ_=>[]⟩) o9 o' h6);have l9:=lh h6;have f9:({ s4 with D:=s4.D.limited (mk:Int) }:PS).n=60/\({ s4 with D:=s4.D.limited (mk:Int) }:PS).l.n=400:=l7.o;generalize ({ s4 with D:=s4.D.limited (mk:Int) }:PS)=s5 at *;have d8:=lh f9;clear o9 o' h6 f9 l6 h5 l7 l8 k7;go_upto_region 11 with fail;obtain⟨w8,e3⟩:=nm ((U.alloc (iy #[si none 0 0] 37)).alloc (iy #[si none 0 0] 37));have J:Fr [] U w8:=(by rw[e3];exact((jj [] U).alloc _).alloc _);have a4:Blk w8 U.heap.size 37 [si none 0 0]:=(by rw[e3];exact(jl U _ [si none 0 0]).alloc _);have B:Blk w8 (U.heap.size+1) 37 [si none 0 0]:=by rw[e3];have:=jl (U.alloc (iy #[si none 0 0] 37)) 37 [si none 0 0];rwa [qB]at this
  obtain⟨bm,j2⟩:=nm (U.heap.size);obtain⟨bn,j3⟩:=nm (U.heap.size+1);rw[<- e3,<- j3,<- j2];have q5:Hid (KpR W w8 dk g st ca bm bn 1 0 0):=lh (by have h1:=c9.o.lt _ c9.o.sx.xs;have h2:=c9.o.lt _ c9.o.xc;have h3:=c9.o.frame.size;rw[<- j2]at a4;rw[<- j3]at B;have hn:∀(b:Nat),W.heap.size<=b->yC X4 U w8 b->Blk w8 b 37 [si none 0 0]->KpO W w8 b 0 (λq=>yC X4 U w8 q/\q≠bm/\q≠bn) [] (si none 0 0) [] (yC X4 U w8):=λb hl hx hb=>⟨⟨rfl,gD _ _ _ _,(λq k=>by cases k),λi y u h=>by simp at h⟩,hb,hx,hl,tA _,(λy hy=>by cases hy),OkC.nil⟩;exact Ii ⟨_,_,_,_,_,_,_,_,c9.o.fr J,l9.o,d8.o.1,d8.o.2,⟨hn bm (by omega) (Ij ⟨by omega,a4.lt⟩) a4,hn bn (by omega) (Ij ⟨by omega,B.lt⟩) B,by omega⟩,⟨by omega,by omega,by omega,by omega⟩⟩);clear e3 J a4 B j2 j3 c9 l9 d8;go_upto_block 0 with fail;go_cut [15] (λv15 wc=>∃D c v us c2 v2 a1 X,KpZ W wc dk bm bn 120 8000 300 D c v us c2 v2 a1 X)
  ·go_wp2_with fail;go_loopg [15] m (λj v15 wr=>∃i:Nat,i+j=m/\v15=ii ip (i:Int)/\KpR W wr dk g st ca bm bn (5*i+1) (300*i) (12*i))
   case atStart=>exact⟨0,by omega,rfl,q5.o⟩
   case round=>
    obtain⟨i,hi,rfl,hR⟩:=hrel;have t2:m<=20:=(by have:=l0.o.1;rw[HM.o]at this;exact this);have c':Hid (∃D c v us c2 v2 a1 X,KpZ W wr dk bm bn 120 8000 300 D c v us c2 v2 a1 X):=lh (by
     obtain⟨x,c,v,us,c2,v2,a1,X,h⟩|⟨D,c,v,us,c2,v2,a1,X,h,_⟩:=hR;·exact⟨_,_,_,_,_,_,_,_,h.closed.mono (by omega) (by omega) (by omega)⟩
     exact⟨_,_,_,_,_,_,_,_,h.mono (by omega) (by omega) (by omega)⟩)
    by_cases k5:i<m
    ·obtain⟨x,c,vm,us,c2,v2,a1,X,hA⟩|⟨D,c,v,us,c2,v2,a1,X,hZ,t⟩:=hR
     ·have F:=lh hA;have t7:=lh k5;clear hA c';obtain⟨o,ho⟩:∃o,l[i]? = some o:=gx (by rw[HM.o];exact k5);obtain⟨rfl,f5⟩:=q3.o i o ho;obtain⟨go,d0,d6⟩:=f5.a.sl;have f2:=l0.o.2 o (kF ho);obtain⟨nl,j4⟩:∃nl,li o.L=nl:=⟨_,rfl⟩;have l':=d0;obtain⟨A2,c2,o2,j5,p0,f6⟩:=l';have h7:=lh f5.c1;have q6:=lh f5.c0;have q7:=lh d0;rw[j4]at j5 d6;have h8:(doC c c (o.L.map OpV.op)).1.length<=12*(i+1):=aII (by have:=F.o.mem.o1.len;omega) _ (by have:=F.o.mem.o1.len;have:=f2.1;rw[cH];omega);have h9:∀y∈(doC c c (o.L.map OpV.op)).1,li y.2<=12*(i+1):=aMX (λy hy=>by have:=F.o.mem.o1.tx y hy;omega) _ F.o.mem.o1.tx (by have:=f2.1;rw[cH];omega);have h':=aSB F.o.mem.o1.ok (o.L.map OpV.op) F.o.mem.o1.ok;obtain⟨cf,fc,j6⟩:∃cf fc,doC c c (o.L.map OpV.op)=(cf,fc):=⟨_,_,rfl⟩;rw[j6]at h8 h9 h';have m0:=lh j6;have i0:=lh h8;have i1:=lh h9;have i2:=lh h';have a5:=lh f2;have Z:=lh j4;have m1:=lh j5;have t8:=lh d6;have hI:(i:Int)<(m:Int):=(by omega);have t9:Wi ip ((i:Int)+1)=((i+1:Nat):Int):=(by rw[yB];omega);clear ho f5 d0 d6 f2 j4 j5 p0 f6 h8 h9 j6 h';have z:=lh (aFv F.o.ct.sx.px.disk);rw[F.o.liv.com.live]at z;go_wp2_with fail;refine z.o.mono ?_;rintro e wz ⟨rfl,rfl⟩;have pm:=F.o.mem.o1.blk.at_ (i:=0) rfl;go_upto_region 14 with fail;obtain⟨wo,rfl⟩:=nm (wr);refine sB ?_;refine rn rfl (by go_simp<;>with_reducible rfl) ?_;simp only[nrm];refine lp λK hK=>pA 37 (.tmp 14) (.tmp 61) rfl [vm] rfl rfl F.o.mem.o2.blk lD rfl (by intro u hu;simp only[bB,kC,dC]at hu;subst hu;obtain⟨_,_,rfl,_,_⟩:=jA F.o.mem.o1.cat.own;rfl) λwr B O f0=>hK _ _ ?_;simp only[Act.put];clear hK;refine wB ?_;replace F:=lh (F.o.set2 O B F.o.mem.o1.cat F.o.mem.o1.len F.o.mem.o1.tx F.o.mem.o1.ok);clear B O f0 pm;have i3:=F.o.ct.frame;have b5:=i3.keep q6.o;rw[m1.o]at b5;have d0:kH wr (si A2 nl c2) nl (o.L.map OpV.cells).flatten go:=by
       have:=q7.o.fr i3;rwa [m1.o,Z.o]at this
      have q8:=lh d0;obtain⟨D1,f7⟩:∃D1:Nat->Prop,D1=λq=>X q/\q≠bm/\q≠bn:=⟨_,rfl⟩;have d9:=F.o.mem.o1.cat;rw[<- f7]at d9;have m2:Hid (∀q,D1 q->q<wr.heap.size):=lh λq k=>F.o.ct.lt q (by rw[f7]at k;exact k.1);have m3:Hid (∀W':World,Fr [] wr W'->Calls prog 12 #[il #[vm],si A2 nl c2] W' λe w'=>∃v' us',e=iz (tl #[il #[v'],ii ip fc])/\CtV (λq=>D1 q∨W'.heap.size<=q) w' v' cf us'/\Fr [] W' w'):=lh λW' hf=>(by have h:=do23 (L:=o.L) (d9.fr hf) F.o.mem.o1.ok (λq k=>iL (m2.o q k) hf.size) (by have:=F.o.mem.o1.len;have:=a5.o.1;omega) F.o.mem.o1.tx (by have:=a5.o.1;omega) (by rw[Z.o];exact d0.fr hf);rw[m0.o]at h;exact h);have q9:=lh f7;have f3:=lh F.o.mem.o1.blk;have q':=lh F.o.mem.o2.blk;clear i3 d0 f7 d9;go_upto_region 15 with fail;have P:wr.drew.cell? ⟨bm,0,none⟩=some vm:=f3.o.at_ (i:=0) rfl;have T:wr.drew.cell? ⟨g0,off+i*2,none⟩=some (si A2 nl c2):=b5;have N:Fr [] wr wr.drew:=(jj [] wr).drew;have t3:=f3.o.lt;have t4:=dI b5;apply aNa (H:=λI V c3 b8 W=>Hid (∃a2,DoD wr wr D1 (si none 0 0) (cf,fc) (si I V c3) a2 b8 W))
      case main=>
       intro g8;refine mA (λW=>W.cell? ⟨bm,0,none⟩=some vm/\W.cell? ⟨g0,off+i*2,none⟩=some (si A2 nl c2)) [0,1,2,3,4,5,7,8,9] (by kernel_rfl) ?_;refine tks [0,1,2,3,4,5] ?_;iterate 6 (refine tk rfl rfl ⟨P,T⟩ rfl (λ_ hW=>by(obtain⟨y1,y2⟩:=hW;go_simp)<;>with_reducible rfl) ?_;simp only[nrm])
       refine tke ?_;refine jJ (i:=6) (j:=10) (some 69) (some 16) rfl rfl rfl rfl (by kernel_rfl) rfl rfl (λK hK=>?_) (λK hK=>?_)
       ·
        refine kA (l:=[.tmp 63,.tmp 68]) rfl [il #[vm],si A2 nl c2] rfl (tU _) ((m3.o wr.drew N).mono ?_);rintro e w4 ⟨v3,a2,rfl,c5,a'⟩;replace P:=aA a' P;replace T:=aA a' T;refine⟨_,rfl,hK _ _ (λ_=>⟨P,T⟩) ?_⟩;simp only[nrm];clear hK;obtain⟨I,V,c3,rfl⟩:∃I V c3,v3=si I V c3:=(by obtain⟨I,c3,rfl,_,_⟩:=jA c5.own;exact⟨_,_,_,rfl⟩);refine tv 7 (tl #[il #[si I V c3],ii ip fc]) rfl rfl ⟨P,T⟩ (Ii ⟨rfl,λW hW=>by go_simp⟩) ?_;simp only[nrm];refine tv 8 (il #[si I V c3]) rfl rfl ⟨P,T⟩ (Ii ⟨rfl,λW hW=>by go_simp⟩) ?_;simp only[nrm];refine tv 9 (ii ip fc) rfl rfl ⟨P,T⟩ (Ii ⟨rfl,λW hW=>by go_simp⟩) ?_;simp only[nrm];refine sp 10 rfl rfl rfl λK hK=>gB 37 rfl (il #[si none 0 0]) [si none 0 0] rQ rfl λw8 a4 J t0=>?_;replace P:=aA J P;replace T:=aA J T;refine hK _ _ (λ_=>⟨P,T⟩) ?_;simp only[nrm];clear hK;obtain⟨b8,e4⟩:=nm (w4.heap.size);rw[<- e4]at a4⊢;have b6:wr.drew.heap.size<=b8:=(by have:=a'.size;omega);have i4:wr.heap.size<=b8:=vD N.size b6;have i5:=(c5.below.fr J).more (D':=λq=>(D1 q∨wr.heap.size<=q)/\q≠b8) λq k=>⟨by obtain h|h:=k.1;exact Ii h;exact Ij (by have:=N.size;omega),by omega⟩;have d':=a'.trans J;refine wA (j:=11) none rfl rfl (by kernel_rfl) rfl λK hK=>pA 37 (.tmp 16) (.tmp 70) rfl [si I V c3] rfl rfl a4 lD rfl (by intro u hu;simp only[bB,kC,dC]at hu;subst hu;rfl) λw7 k4 C t1=>?_;have b7:bm∉[b8]:=(by simp;omega);have b9:g0∉[b8]:=(by simp;omega);refine hK _ _ (λ_=>⟨yD C P b7,yD C T b9⟩) ?_;simp only[nrm];clear hK;refine sp 12 rfl rfl rfl λK hK=>lA (v:=ii ip fc) (by go_simp) (hK _ _ (λ_=>⟨yD C P b7,yD C T b9⟩) ?_);simp only[nrm];clear hK;refine _root_.Go.Proofs.YtebjhcjbfaaejaaGreatDoor.wd ?_ _;exact g8 I V c3 b8 w7 (lh ⟨a2,i5.fr C (λq k hm=>k.2 (xA.1 hm)),k4,i4,N.trans (d'.trans C λq k=>Ij (by rw[xA.1 k];exact b6))⟩)
       ·
        refine gB 37 rfl (il #[si none 0 0]) [si none 0 0] rQ rfl λw8 a4 J t0=>?_;replace P:=aA J P;replace T:=aA J T;refine hK _ _ (λ_=>⟨P,T⟩) ?_;simp only[nrm];clear hK;obtain⟨b8,e4⟩:=nm (wr.drew.heap.size);rw[<- e4]at a4⊢;refine sp 6 rfl rfl rfl λK hK=>kA (l:=[.tmp 63,.tmp 68]) rfl [il #[vm],si A2 nl c2] rfl (tU _) ((m3.o w8 (N.trans J)).mono ?_);rintro e w9 ⟨v3,a2,rfl,c5,a'⟩;replace P:=aA a' P;replace T:=aA a' T;refine⟨_,rfl,hK _ _ (λ_=>⟨P,T⟩) ?_⟩;simp only[nrm];clear hK;obtain⟨I,V,c3,rfl⟩:∃I V c3,v3=si I V c3:=(by obtain⟨I,c3,rfl,_,_⟩:=jA c5.own;exact⟨_,_,_,rfl⟩);refine tv 7 (tl #[il #[si I V c3],ii ip fc]) rfl rfl ⟨P,T⟩ (Ii ⟨rfl,λW hW=>by go_simp⟩) ?_;simp only[nrm];refine tv 8 (il #[si I V c3]) rfl rfl ⟨P,T⟩ (Ii ⟨rfl,λW hW=>by go_simp⟩) ?_;simp only[nrm];refine tv 9 (ii ip fc) rfl rfl ⟨P,T⟩ (Ii ⟨rfl,λW hW=>by go_simp⟩) ?_;simp only[nrm];have b6:wr.drew.heap.size<=b8:=(by omega);have i4:wr.heap.size<=b8:=vD N.size b6;have m4:=a4.fr a';have i5:=c5.more (D':=λq=>(D1 q∨wr.heap.size<=q)/\q≠b8) λq k=>by
         have:=N.size;obtain h|h:=k;·exact⟨Ii h,by have:=m2.o q h;omega⟩
         exact⟨Ij (by omega),by omega⟩
        have d':=J.trans a';refine wA (j:=11) none rfl rfl (by kernel_rfl) rfl λK hK=>pA 37 (.tmp 16) (.tmp 70) rfl [si I V c3] rfl rfl m4 lD rfl (by intro u hu;simp only[bB,kC,dC]at hu;subst hu;rfl) λw7 k4 C t1=>?_;have b7:bm∉[b8]:=(by simp;omega);have b9:g0∉[b8]:=(by simp;omega);refine hK _ _ (λ_=>⟨yD C P b7,yD C T b9⟩) ?_;simp only[nrm];clear hK;refine sp 12 rfl rfl rfl λK hK=>lA (v:=ii ip fc) (by go_simp) (hK _ _ (λ_=>⟨yD C P b7,yD C T b9⟩) ?_);simp only[nrm];clear hK;refine _root_.Go.Proofs.YtebjhcjbfaaejaaGreatDoor.wd ?_ _;exact g8 I V c3 b8 w7 (lh ⟨a2,i5.fr C (λq k hm=>k.2 (xA.1 hm)),k4,i4,N.trans (d'.trans C λq k=>Ij (by rw[xA.1 k];exact b6))⟩)
      intro I V c3 b8 U p';obtain⟨a2,e5⟩:=p'.o;clear P T N p';have i6:Fr [] wr U:=(by simpa[Value.ownBlock]using e5.fr);have r0:=e5.new;have e0:CtV (λq=>yC X wr U q/\q≠bm/\q≠bn) U (si I V c3) cf a2:=e5.ct.below.more λq k=>by
       obtain h|h:=k.1.1;·rw[q9.o]at h;exact⟨Ii h.1,h.2⟩
       exact⟨Ij ⟨h,k.2⟩,by have:=f3.o.lt;omega,by have:=q'.o.lt;omega⟩
      have i7:=e5.blk;have i8:yC X wr U b8:=Ij ⟨r0,i7.lt⟩;have m5:=lh (F.o.fr i6);have i9:=lh (aKO (L:=o.L) (by rw[Z.o];exact q8.o.fr i6) (by have:=a5.o.1;omega));rw[Z.o]at i9;have r1:=aA i6 b5;obtain⟨X5,p1⟩:∃Y:Nat->Prop,Y=yC X wr U:=⟨_,rfl⟩;rw[<- p1]at e0 i8 m5;have m6:=lh e0;have r2:=lh i7;have r3:=lh i8;clear p1 e0 i7 i8 e5 b5;go_wp2_with fail;refine i9.o.mono ?_;rintro e w6 ⟨v6,g6,rfl,j7,g4,g5,j8⟩;have m7:=j7;obtain⟨A6,c6,o6,rfl,_,_⟩:=m7;have r:=lh (m5.o.fr j8);have m8:=lh ((m6.o.fr j8).more (D':=λq=>yC X5 U w6 q/\q≠bm/\q≠bn) λq k=>⟨Ii k.1,k.2⟩);have d3:=r2.o.fr j8;have r4:=lh (aIA r.o.ct r.o.liv.few r.o.liv.rep (L:=o.L) (λp hp=>aAP a5.o p hp) (by have:=a5.o.1;omega) (by have:=r.o.liv.com.done;omega) (by rw[Z.o];exact j7) (λh=>Ij ⟨g4,g5 (by rw[<- Z.o];exact h)⟩));clear j7 g4 g5 i9;go_wp2_with fail;refine r4.o.mono ?_;intro e w7 f8;have m9:=f8;obtain⟨rfl,e7,e8,c7,e9⟩:=m9;have m':=aNX r.o.liv (l:=o.L.map OpV.op) (λq k=>by obtain⟨p,hp,rfl⟩:=kI.1 k;exact aAP a5.o p hp) e7 e8 (by omega) (by rw[r.o.sn];omega);rw[m0.o,cH,Z.o,r.o.sn,r.o.ln]at m';have d4:=e9.blk d3 (Ii r3.o);have f:=r.o.mem.kp e9;have a8:CtV (λq=>yC X5 U w6 q/\q≠bm/\q≠bn) w7 (si I V c3) cf a2:=(by obtain⟨S,s9,hS⟩:=e9;exact m8.o.fr s9 λq k hm=>hS q hm k.1);have p8:=d4.at_ (i:=0) rfl;obtain⟨d1,t,_,c4,g7,a0⟩|⟨a3,d1,d7,a9,_,b0⟩:=m'
      ·obtain⟨y,gc,hy⟩:∃y gc,doS x (o.L.map OpV.op)=(y,gc):=⟨_,_,rfl⟩;rw[hy]at d1 t c4 a0 c7⊢;simp only at d1 t c4 a0 g7 c7⊢;subst d1 g7;clear f8 e7 e8 hy;go_upto_region 23 with fail;refine sB ?_;refine rn rfl (by go_simp<;>with_reducible rfl) ?_;simp only[nrm];refine lp λK hK=>pA 37 (.tmp 14) (.tmp 92) rfl [si I V c3] rfl rfl f.o2.blk lD rfl (by intro u hu;simp only[bB,kC,dC]at hu;subst hu;rfl) λw9 B O f0=>hK _ _ ?_;simp only[Act.put];clear hK;refine wB ?_;have i':Hid (KpZ W w9 dk bm bn (5*(i+1)+1) (300*(i+1)) (12*(i+1)) y.s.D c vm us cf (si I V c3) a2 (yC X5 U w6)):=lh ⟨c7.disk.other O (by intro q k;rw[xA.1 k];exact f.o2.xb) (by intro q k;rw[xA.1 k];exact f.o2.lo),λQ=>(a0 Q).imp (λh=>h.mono (by omega) (by have:=a5.o.1;have:=Z.o;omega)) (λh=>h.mono (by omega) (by have:=a5.o.1;have:=Z.o;omega)),by omega,(f.mono (by omega)).set2 O B a8 i0.o i1.o i2.o⟩;have f':=lh t;have G:=i'.o.dk.frame.keep h7.o;have a6:Hid (KpR W w9 dk g st ca bm bn (5*(i+1)+1) (300*(i+1)) (12*(i+1))):=lh (Ij ⟨_,_,_,_,_,_,_,_,i'.o,f'.o⟩);clear e9 c7 f a8 a0 c4 t B O f0 p8 d4 d3;cases c8:o.chk with
       | false=>
        rw[c8]at G;go_wp2_with fail;go_roundg (m-(i+1))
        case measure=>omega
        case rel=>exact⟨i+1,by omega,rfl,a6.o⟩
       | true=>
        rw[c8]at G;have z:=lh (aFv i'.o.dk);rw[f'.o]at z;go_wp2_with fail;refine z.o.mono ?_;rintro e wz ⟨rfl,rfl⟩;go_wp2_with fail;go_roundg (m-(i+1))
        case measure=>omega
        case rel=>exact⟨i+1,by omega,rfl,a6.o⟩
      have d5:=r.o.ct.done f8 b0;obtain⟨y,gc,hy⟩:∃y gc,doS x (o.L.map OpV.op)=(y,gc):=⟨_,_,rfl⟩;rw[hy]at a3 d1 d7 a9 b0 d5⊢;simp only at a3 d1 d7 a9 b0 d5⊢;clear f8 e7 e8 hy c7 e9;by_cases h0:gc=0
      ·subst h0;have r5:fc=0:=(by obtain h|h:=a3;exact h.symm;cases h);subst r5;rw[iA rfl]at b0;go_upto_region 20 with fail;refine sB ?_;refine rn rfl (by go_simp<;>with_reducible rfl) ?_;simp only[nrm];refine lp λK hK=>pA 37 (.tmp 13) (.tmp 84) rfl [si I V c3] rfl rfl f.o1.blk lD rfl (by intro u hu;simp only[bB,kC,dC]at hu;subst hu;rfl) λw9 B O f0=>hK _ _ ?_;simp only[Act.put];clear hK;refine wB ?_;have e1:=(f.mono (B':=12*(i+1)) (by omega)).set1 O B a8 i0.o i1.o i2.o;have n0:=d5.other O f.o1.xb f.o1.lo r.o.ne.1 r.o.ne.2.1;have p9:=yD O p8 (by simp;have:=f3.o.lt;omega);have g1:=a8.fr O (λq k hm=>k.2.1 (xA.1 hm));go_upto_region 21 with fail;refine sB ?_;refine rn rfl (by go_simp<;>with_reducible rfl) ?_;simp only[nrm];refine lp λK hK=>pA 37 (.tmp 14) (.tmp 85) rfl [si I V c3] rfl rfl e1.o2.blk lD rfl (by intro u hu;simp only[bB,kC,dC]at hu;subst hu;rfl) λq0 g9 f1 q1=>hK _ _ ?_;simp only[Act.put];clear hK;refine wB ?_;have d:Hid (KpA W q0 dk g st ca bm bn (5*i+4) (300*(i+1)) (12*(i+1)) y cf (si I V c3) a2 cf (si I V c3) a2 (yC X5 U w6)):=lh ⟨n0.other f1 e1.o2.xb e1.o2.lo r.o.ne.2.2.1 r.o.ne.2.2.2,b0.mono (by omega) (by have:=a5.o.1;have:=Z.o;omega),d7,a9,e1.set2 f1 g9 g1 i0.o i1.o i2.o,r.o.ne⟩;clear B O f0 g9 f1 q1 e1 n0 g1 p9;have G:=d.o.ct.frame.keep h7.o;clear d5 b0 d7 a9 a3 f a8 p8 d4 d3;cases c8:o.chk with
       | false=>
        rw[c8]at G;have a6:Hid (KpR W q0 dk g st ca bm bn (5*(i+1)+1) (300*(i+1)) (12*(i+1))):=lh (Ii ⟨_,_,_,_,_,_,_,_,d.o.mono (by omega) (tA _) (tA _)⟩);go_wp2_with fail;go_roundg (m-(i+1))
        case measure=>omega
        case rel=>exact⟨i+1,by omega,rfl,a6.o⟩
       | true=>
        rw[c8]at G;have z:=lh (aFv d.o.ct.sx.px.disk);rw[d.o.liv.com.live]at z;go_wp2_with fail;refine z.o.mono ?_;rintro e wz ⟨rfl,rfl⟩;have b':=lh (aCL d.o.ct.sx.px (by have:=d.o.liv.com.done;omega));go_wp2_with fail;refine b'.o.mono ?_;rintro e wc ⟨rfl,d2,b3⟩;have a6:Hid (KpR W wc dk g st ca bm bn (5*(i+1)+1) (300*(i+1)) (12*(i+1))):=lh (by
         obtain⟨_,e',j9,j',_⟩|⟨_,k0,_,c4,k1⟩:=d.o.liv.check (by omega);·exact Ii ⟨_,_,_,_,_,_,_,_,d.o.ct.checked d2 b3 e',e'.mono (by omega) (tA _),j9.trans d.o.sn,j'.trans d.o.ln,d.o.mem.kp b3,d.o.ne⟩
         refine Ij ⟨_,_,_,_,_,_,_,_,⟨d2.disk,λQ=>Ii ?_,by omega,d.o.mem.kp b3⟩,k0⟩;have h:=k1 Q;rw[d.o.sn,d.o.ln]at h;exact h.mono (by omega) (tA _))
        clear d2 b3 b';go_wp2_with fail;go_roundg (m-(i+1))
        case measure=>omega
        case rel=>exact⟨i+1,by omega,rfl,a6.o⟩
      rw[eA h0]at b0;have d:Hid (∃c2 v2 a1,KpA W w7 dk g st ca bm bn (5*i+4) (300*(i+1)) (12*(i+1)) y c vm us c2 v2 a1 (yC X5 U w6)):=lh ⟨_,_,_,d5,b0.mono (by omega) (by have:=a5.o.1;have:=Z.o;omega),d7,a9,f.mono (by omega),r.o.ne⟩;obtain⟨c2,v2,a1,p2⟩:=d.o;replace d:=lh p2;have t':(gc==0)=false:=(by rw[lE];exact h0);have t5:(gc==10)=false:=(by rw[lE];exact d1);clear p2;by_cases b4:fc=0
      case' pos=>subst b4
      case' neg=>have v0:(fc==0)=false:=by rw[lE];exact b4
      all_goals
       go_upto_region 24 with fail;have G:=d.o.ct.frame.keep h7.o;clear d5 b0 d7 a9 a3 f a8 p8 d4 d3;cases c8:o.chk with
       | false=>
        rw[c8]at G;have a6:Hid (KpR W w7 dk g st ca bm bn (5*(i+1)+1) (300*(i+1)) (12*(i+1))):=lh (Ii ⟨_,_,_,_,_,_,_,_,d.o.mono (by omega) (tA _) (tA _)⟩);go_wp2_with fail;go_roundg (m-(i+1))
        case measure=>omega
        case rel=>exact⟨i+1,by omega,rfl,a6.o⟩
       | true=>
        rw[c8]at G;have z:=lh (aFv d.o.ct.sx.px.disk);rw[d.o.liv.com.live]at z;go_wp2_with fail;refine z.o.mono ?_;rintro e wz ⟨rfl,rfl⟩;have b':=lh (aCL d.o.ct.sx.px (by have:=d.o.liv.com.done;omega));go_wp2_with fail;refine b'.o.mono ?_;rintro e wc ⟨rfl,d2,b3⟩;have a6:Hid (KpR W wc dk g st ca bm bn (5*(i+1)+1) (300*(i+1)) (12*(i+1))):=lh (by
         obtain⟨_,e',j9,j',_⟩|⟨_,k0,_,c4,k1⟩:=d.o.liv.check (by omega);·exact Ii ⟨_,_,_,_,_,_,_,_,d.o.ct.checked d2 b3 e',e'.mono (by omega) (tA _),j9.trans d.o.sn,j'.trans d.o.ln,d.o.mem.kp b3,d.o.ne⟩
         refine Ij ⟨_,_,_,_,_,_,_,_,⟨d2.disk,λQ=>Ii ?_,by omega,d.o.mem.kp b3⟩,k0⟩;have h:=k1 Q;rw[d.o.sn,d.o.ln]at h;exact h.mono (by omega) (tA _))
        clear d2 b3 b';go_wp2_with fail;go_roundg (m-(i+1))
        case measure=>omega
        case rel=>exact⟨i+1,by omega,rfl,a6.o⟩
     have hI:(i:Int)<(m:Int):=(by omega);have z:=lh (aFv hZ.dk);rw[t]at z;clear hZ t k5;go_wp2_with fail;refine z.o.mono ?_;rintro e wz ⟨rfl,rfl⟩;go_wp2_with fail;go_meet
     case rel=>exact c'.o
    obtain rfl:i=m:=(by omega);clear hR;go_wp2_with fail;go_meet
    case rel=>exact c'.o
  obtain⟨D,c,vm,us,c2,v2,a1,X,hZ⟩:=hcut;obtain⟨gs,p3,d6⟩:=k8.o.here hZ.dk.frame;have n1:=lh (aSA hZ.dk _ ks gs p3 d6 (by rw[q2.o];omega));have HZ:=lh hZ;clear hZ p3 d6;go_wp2_with fail;refine n1.o.mono ?_;rintro e wa ⟨rfl,p4,p5⟩;have r6:=lh (HZ.o.mem.kp p5);have a0:=HZ.o.off ks;have c4:(D.reopen ks).done<=300000*121:=(by have:=HZ.o.done;show D.done<=_;omega);have r7:=lh p4;have n2:Hid (∃c3,(c3=c∨c3=c2)/\aCF 120 8000 60 400 (D.reopen ks) c3):=lh (by obtain h|h:=a0;exact⟨_,Ii rfl,h⟩;exact⟨_,Ij rfl,h⟩);obtain⟨c3,c5,p6⟩:=n2.o;obtain⟨H,E,kt,kL,kn,kd,kp,kf,_,_,_⟩:=p6.open_ (by omega) c4;have r8:=lh kt;have e2:=lh kL;have r9:=lh kn;have r':=lh kd;have s0:=lh kp;have s1:=lh kf;have s2:=lh c5;clear p4 p5 a0 c4 n2 c5 p6 kt kL kn kd kp kf n1;go_wp2_with fail;refine(aIJ (n:=60) (log:=400) r7.o r'.o s0.o (by omega) (by omega) (by omega) s1.o r9.o r8.o e2.o).mono ?_;rintro e wb ⟨g2,v1,v4,X2,rfl,k2,s',f4⟩;have a7:=lh (r6.o.kp f4);have n4:=lh k2;have pm:=a7.o.o1.blk.at_ (i:=0) rfl;have s3:=lh (aCb k2 e2.o.few (by omega) e2.o.rep a7.o.o1.cat a7.o.o1.ok (by have:=a7.o.o1.len;omega) (λy hy=>by have:=a7.o.o1.tx y hy;omega));clear k2 s' f4;go_wp2_with fail;refine s3.o.mono ?_;rintro e wc ⟨b1,rfl,k3,b4⟩;have n5:=lh (n4.o.frame.trans b4);cases b1 with
  | true=>have HX:=lh (HQ.o (iz (ij true)) wc ⟨rfl,n5.o⟩);clear k3 b4;go_wp2_with fail;exact HX.o
  | false=>
   have n6:c3=c2:=by
    obtain h|h:=s2.o;·have:=k3 h;cases this
    exact h
   have pn:=(a7.o.o2.blk.fr b4).at_ (i:=0) rfl;have s6:=lh (aCb (n4.o.stay b4) e2.o.few (by omega) e2.o.rep (a7.o.o2.cat.fr b4) a7.o.o2.ok (by have:=a7.o.o2.len;omega) (λy hy=>by have:=a7.o.o2.tx y hy;omega));have s7:=lh n6;clear k3 b4 n6;go_wp2_with fail;refine s6.o.mono ?_;rintro e wd ⟨b2,rfl,p7,N⟩;obtain rfl:=p7 s7.o;have HX:=lh (HQ.o (iz (ij true)) wd ⟨rfl,n5.o.trans N⟩);clear p7 N;go_wp2_with fail;exact HX.o
end
end Go.Proofs.YtebjhcjbfaaejaaGreatDoor
namespace Go.Proofs.YtebjhcjbfaaejaaGreatDoor.catalogKeeps
open Go.ChangeShapes Go.WideShapes Go.ChangeAt Go.RowKit

theorem own:ownKnob Tryz.prog.godebug=none:=by kernel_rfl
theorem laidOut:laidOutB Tryz.prog=true:=by kernel_rfl

set_option maxRecDepth 100000 in
theorem lifted(os:Os)(c:os.Started)(H:Type)(enc:TypeId×Value → H): ReturnsInHanded {} Tryz.checked os 3 .any (λw args=>(Rows.catalogKeepsSpec.pre enc Tryz.prog Tryz.f3 Rows.catalogKeepsRow.domain false w args ∧ laidMetH Tryz.prog mN w) ∧ sizedMet enc Tryz.prog Tryz.f3 (OpenSpec.ofChange Rows.catalogKeepsSpec) false w args) (Rows.catalogKeepsSpec.post enc Tryz.prog Tryz.f3 false true false false):=by
  refine zI (C:=Tryz.checked) (X:=λw _=>laidMetH Tryz.prog mN w) (λ_ _ _ hh h=>h.of_heap hh) own c (by kernel_rfl) Tryz.func3 (ChangeSpec.witness_shaped (enc:=enc) (C:=Tryz.checked) (os:=os) (X:=λw _=>laidMetH Tryz.prog mN w) false (World.laidAll Tryz.prog os mN) #[si none 0 0,ii ip 0,si none 0 0] 8 (World.laidAll_os _ _ _) (World.shaped_of_ZipB (by kernel_rfl) (by kernel_rfl)) (by kernel_rfl) (by kernel_rfl) (by kernel_rfl) (by rw[aFG];exact laidMet_laidAll _ (by kernel_rfl) (by kernel_rfl))) ?_;intro W f args ds gs g d u a0 hL;have b:∀(j:Nat) t v,Tryz.f3.params[j]? = some t → args[j]? = some v → Value.okWide Tryz.prog W .any f t v:=d;have i:=u;obtain⟨p,q,k,x,rfl,y,z⟩:=u;have s:DataW.TrodAll enc Tryz.prog W 0 (λ_=>true) true Tryz.f3.params.toList args.toList ds p:=k;rw[Tryz.params3]at s b;obtain⟨v0,A,d0,B,p0,q0,l,rfl,rfl,h0,D⟩:=trodAll_cons s;obtain⟨v1,E,d1,F,p1,q1,rfl,rfl,rfl,h1,G⟩:=trodAll_cons D;obtain⟨v2,I,d2,J,p2,q2,rfl,rfl,rfl,h2,L⟩:=trodAll_cons G;obtain⟨rfl,rfl,rfl⟩:=trodAll_nil L;obtain rfl:args=#[v0,v1,v2]:=by cases args;simp_all
  obtain⟨rfl,rfl⟩:=trodVars_none x;obtain⟨M,N,O,rfl⟩:=okWide_slice Tryz.underlying22 (b 0 22 v0 rfl rfl);obtain⟨P,m⟩:=h0;obtain⟨Q,n⟩:=aOd Tryz.underlying22 Tryz.underlying42 (by kernel_rfl) (by kernel_rfl) rfl rfl Tryz.underlying40 Tryz.underlying66 (by kernel_rfl) (by kernel_rfl) rfl rfl rfl rfl Tryz.underlying3 Tryz.underlying9 Tryz.underlying4 m;obtain⟨S,rfl,rfl,rfl,w1⟩:=open_int Tryz.underlying3 (b 1 3 v1 rfl rfl) h1;obtain⟨T,U,V,rfl⟩:=okWide_slice Tryz.underlying23 (b 2 23 v2 rfl rfl);obtain⟨Y,o⟩:=h2;obtain⟨Z,r⟩:=aQb Tryz.underlying23 Tryz.underlying4 (by kernel_rfl) o;refine(aIM W _ _ Q S Z n r).mono λe W' ⟨he,hf⟩=>?_;subst he;exact⟨_,rfl,aIN laidOut (by kernel_rfl) rfl Tryz.underlying4 rfl i rfl rfl rfl hf⟩
theorem proved:Rows.CatalogKeepsSaid:=OpenClaim.holds_of_wide 3 Tryz.f3 rfl rfl rfl rfl rfl rfl rfl ⟨rfl,rfl,rfl,rfl,rfl⟩ rfl rfl rfl rfl rfl (by kernel_rfl) Tryz.func3 (by kernel_rfl) (of_decide_eq_true (by kernel_rfl)) (by unfold Func.isWrapper;first|(rw[iA (by decide +kernel)];kernel_rfl)|(rw[eA (by decide +kernel)];exact⟨rfl,rfl⟩)) (λb c d f _=>lifted b c d f)
theorem card:Rows.CatalogKeepsCardSaid:=
  Claim7.holds_tied_plain_at .later [] [.data,.pinned] true (true,"cc9bf3849ddc5e5d8828eb410803f7d98900a4d3086a6f7e2ba7dc41b37c8a2d") false proved (λ_ b=>by cases b) (by kernel_rfl) (λ_ b=>by cases b) catalogKeeps_row_tie rfl ⟨rfl,rfl⟩ (by kernel_rfl) rfl (λb c d f=>by
      obtain rfl:b=3:=tE ((show Tryz.prog.funcNamed "orangery/orangerylaw23.CatalogKeeps" = some 3 by kernel_rfl).symm.trans d) |>.symm;obtain rfl:c=Tryz.f3:=(tE (Tryz.func3.symm.trans f)).symm;exact⟨by kernel_rfl,λg b c=>by rw[Tryz.params3]at c;have d:b∈[22,3,23]:=(by simpa using Array.mem_of_getElem? c);have c:([22,3,23].all λf=>!Tryz.prog.wantsStandIn f)=true:=(by kernel_rfl);exact(show Tryz.prog.wantsStandIn b=false by simpa using List.all_eq_true.1 c b d)⟩)
    (by kernel_rfl)
#print axioms proved
#print axioms card
end Go.Proofs.YtebjhcjbfaaejaaGreatDoor.catalogKeeps
