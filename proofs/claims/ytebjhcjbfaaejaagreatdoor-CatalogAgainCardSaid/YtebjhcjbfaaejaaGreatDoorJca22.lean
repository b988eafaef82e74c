/-
  Joined: Qq Qr Qs Qt
-/
import Derived.Test.YtebjhcjbfaaejaaGreatDoorJca19
set_option maxRecDepth 100000
set_option maxHeartbeats 32000000
namespace Go.Proofs.YtebjhcjbfaaejaaGreatDoor
open Go.Proofs.Tryz
variable {k:Nat}{α:Type}
section
open Go.RowKit Go.ChangeMaps Go.MapKept Go.Maps Go.Sort Go.Shelf
def aDU:Nat->CD->Nat->Ky->Nd->Prop
 | 0,_,_,_,_=>False
 | f+1,c,k,key,nf=>∃n,c.N k=some n/\aBn n.l/\((n.lf=true/\nf=n)∨(n.lf=false/\aDU f c (n.child (n.way key)) key nf))
theorem aIG:∀(h:Nat) {f:Nat} {c:CD} {k:Nat} {lo hi:Option Ky} {E:En} {P:List Nat} {key:Ky},h<f->Sub c.N 1 h k lo hi E P->zR lo key->lQ hi key ->
  ∃n,aDU f c k key n/\n.lf=true/\n.ok/\aBn n.l/\n.l.length<=509/\tH (bC n.l)/\rP (bC n.l) key=rP E key
 | 0,f,c,k,lo,hi,E,P,key,hf,hs,h1,h2=>by
  obtain⟨f,rfl⟩:∃g,f=g+1:=⟨f-1,by omega⟩;obtain⟨n,y,q,j,m,z,rfl,i,rfl,rfl,r,hw⟩:=hs;exact⟨n,⟨n,q,kV r,.inl ⟨i,rfl⟩⟩,i,j,kV r,qE m,r,rfl⟩
 | h+1,f,c,k,lo,hi,E,P,key,hf,hs,h1,h2=>by
  obtain⟨f,rfl⟩:∃g,f=g+1:=⟨f-1,by omega⟩;obtain⟨n,y,q,j,m,z,rfl,i,hK⟩:=hs;obtain⟨A,B,C,D,s,F,v,x⟩:=nQ (n:=n) h1 h2;have b:=(nD.keys Sub.fine hK).1;have d:=b;rw[C]at hK d;have o:=(aQ.1 d).1;obtain⟨EA,PA,E0,X,EB,PB,G,H,I,rfl,rfl⟩:=nD.focus.1 hK;obtain⟨J,L⟩:=kX Sub.fine G I (_E0:=E0) o v x;have p:n.child (n.way key)=yM n.first A:=by unfold Nd.child;rw[s]
  obtain⟨M,O,Q,S,T,U,V,W⟩:=aIG h (f:=f) (by omega) H v x;refine⟨M,⟨n,q,b,.inr ⟨i,by rw[p];exact O⟩⟩,Q,S,T,U,V,?_⟩;rw[W,aBj (fun e t u=>zB key (by have:=J e t;rwa [u]at this)),aNd (fun e t u=>zB key (by have:=L e t;rwa [u]at this))]
theorem aFi(b:Array Value)(w:World):(callFunc 101 b).run prog w=.ok (.enter 101 b) w:=by kernel_rfl
section
variable {w0 wS w : World} {dk g bc bn bs : Nat} {s : PS} {X D : Nat -> Prop} {c : CD}
theorem aQO{t:Nat}{kv:Value}{key:Ky}{Q:Nd}(hp:PgC w0 wS dk g s X c)(h:kE wS w g bc bn bs D c)(O:∃q,cA w kv key q/\D q)(hD:∀q,w.heap.size<=q->D q)(ht:t<8)(hF:aDU 40 c (c.roots t) key Q):
  Calls prog 108 #[.pointer (some ⟨bc,0,none⟩),.int .i64 (t:Int),kv] w fun e w'=>∃nv,e=.returned (.tuple #[nv,.int .i64 0])/\NdV D w' 0 nv Q/\kE wS w' g bc bn bs D c/\Fr [bc,bn,bs] w w':=by
 obtain⟨wb,u⟩:=nm (w.alloc (.cells znd.toArray 184));have S:Fr [] w wb:=by rw[u];exact(Fr.refl [] w).alloc _
 have T:Blk wb w.heap.size 184 znd:=by rw[u];exact Blk.new w _ znd
 have hO:∀q,D q->Off D [] [] q:=fun q hq=>⟨hq,fun _ h=>by simp at h,fun _ h=>by simp at h⟩;have S1:=lh (((Sx.start h hD).key (O.imp fun q hq=>⟨hq.1,hO q hq.2⟩)).new1 S T (tA _));have b':((t:Nat):Int)<8:=by omega
 have HP:=lh hp;have b0:=lh hF;clear h O hD hp hF S T hO;have cr:=(S1.o.ch.blk).at_ (dG c g bn bs ht);refine gA fun R HQ=>?_
 go_enter func108,ntmps108
 go_upto_region 1 with (with_reducible refine mA rfl 184 rfl (.agg #[.int .i64 0,.int .i64 0,.slice none 0 0]) znd.toArray kD rfl ?_)
 rw[<- u];clear u;go_wp2_with fail
 go_loopw [8,18] (fun v8 v18 wr=>∃k N:Nat,k<=40/\v8=.int .i64 (N:Int)/\v18=.int .i64 (k:Int)/\aDU (40-k) c N key Q/\Sx wS w g bc bn bs D [(w.heap.size,184,znd)] [] [.by_ kv key] c wr) (fun _ v _=>40-(intOf v).toNat)
 case atStart=>exact⟨0,c.roots t,by omega,rfl,rfl,b0.o,S1.o⟩
 case round=>
  obtain⟨k,N,O,rfl,rfl,H,hS⟩:=hrel;have U:=lh hS;clear hS cr
  by_cases a':k<40
  ·obtain⟨f,I⟩:∃f,40-k=f+1:=⟨40-k-1,by omega⟩;rw[I]at H;obtain⟨n,hN,Z,hW⟩:=H;obtain⟨b6,b7,a0⟩:=U.o.ch.wf.N_ok hN;have y:=qE a0;have V:=lh (pN HP.o U.o.ch hN U.o.offD);have b1:=lh Z;have z:=lh y;have HW:=lh hW;have b2:=lh I;clear hN Z hW b7 a0 y b6 I;go_wp2_with fail;refine V.o.mono ?_;rintro e w3 ⟨nv,rfl,a1,a2⟩;obtain⟨A,P,rfl,a3⟩:=U.o.node_r a2 a1;have S3:=lh a3;clear a1 a2 a3 U V
   go_wp2_with (first
    | (with_reducible refine mA rfl 184 rfl (.agg #[.int .i64 0,.int .i64 0,.slice none 0 0]) znd.toArray kD rfl ?_)
    | (refine vA (W:=w3) rfl 184 (.tmp 9) (.tmp 24) rfl [.int .i64 (dA n),.int .i64 (n.first:Int),.slice A n.l.length P] rfl rfl rfl oB rfl qB ?_))
   intro w4 J a8 b8;obtain⟨p9,a4⟩:=nm (w3.heap.size);rw[<- a4]at J⊢;have Y:=lh (S3.o.new1 a8 J (by omega));clear a8 J b8 a4 S3;have C:=(Y.o.loc _ (.head _)).1.at_ (i:=0) rfl;have E:=(Y.o.loc _ (.head _)).1.at_ (i:=1) rfl;have F:=(Y.o.loc _ (.head _)).1.at_ (i:=2) rfl;go_wp2_with fail;refine(gZ n).mono ?_;rintro e w5 ⟨rfl,a5⟩;have B:=lh (Y.o.quiet a5);clear a5 Y C E F;have C:=(B.o.loc _ (.head _)).1.at_ (i:=0) rfl;have E:=(B.o.loc _ (.head _)).1.at_ (i:=1) rfl;have F:=(B.o.loc _ (.head _)).1.at_ (i:=2) rfl
   cases x:n.lf with
   | true=>
    have m:Q=n:=by
     rcases HW.o with ⟨_,h⟩|⟨h,_⟩
     ·exact h
     ·rw[x]at h;cases h
    have G:=lh m;clear x m;have r:=lh (B.o.perm (List.Perm.swap _ _ _));have b3:=lh (r.o.loc _ (.head _)).1
    go_wp2_with (refine oD rfl 184 (.tmp 6) (.tmp 32) rfl [.int .i64 (dA n),.int .i64 (n.first:Int),.slice A n.l.length P] rfl rfl b3.o oB rfl qB ?_)
    intro we L a9 b9;have M:=lh (r.o.set_ a9 L);have b4:=lh L;have HX:=lh (HQ.o _ _ ⟨_,rfl,by rw[G.o];exact(M.o.kn (n:=n) (.head _)).weak Off.d,M.o.fin⟩);clear L a9 b9 B r C E F;go_wp2_with fail;exact eF (mJ (g:=w.heap.size) (t':=184) (cs:=[.int .i64 (dA n),.int .i64 (n.first:Int),.slice A n.l.length P]) (d:=_) rfl rfl b4.o Go.Proofs.Tryz.underlying184 rfl oB) rfl HX.o
   | false=>
    have m:aDU f c (n.child (n.way key)) key Q:=by
     rcases HW.o with ⟨h,_⟩|⟨_,h⟩
     ·rw[x]at h;cases h
     ·exact h
    have G:=lh m;clear x m;obtain⟨gk,a6,_⟩:=B.o.kb (b:=key) (.tail _ (.head _));have b5:=lh a6;clear a6;go_upto_region 7 with fail
    have r:=lh (B.o.quiet ((Fr.refl [] w5).drew));have C:=(r.o.loc _ (.head _)).1.at_ (i:=0) rfl;have E:=(r.o.loc _ (.head _)).1.at_ (i:=1) rfl;have F:=(r.o.loc _ (.head _)).1.at_ (i:=2) rfl;refine lA (fun W=>W.cell? ⟨p9,0,none⟩=some (.int .i64 (dA n))/\W.cell? ⟨p9,1,none⟩=some (.int .i64 (n.first:Int))/\W.cell? ⟨p9,2,none⟩=some (.slice A n.l.length P)) [0,1,2] (by kernel_rfl) ?_;refine tks [0,1,2] ?_
    iterate 3 (refine tk rfl rfl ⟨C,E,F⟩ rfl (fun _ hW=>by(obtain⟨q0,q1,q2⟩:=hW;go_simp)<;>with_reducible rfl) ?_;simp only[nrm])
    refine tke ?_;refine sp 3 rfl rfl rfl fun K hK=>?_;refine jA (l:=[.tmp 35,.tmp 36]) rfl [.agg #[.int .i64 (dA n),.int .i64 (n.first:Int),.slice A n.l.length P],kv] rfl (aFi _) ((aGD (r.o.kn (n:=n) (.head _)) (b5.o.fr ((Fr.refl [] w5).drew)) b1.o (by have:=z.o;omega)).mono ?_);rintro e w6 ⟨rfl,p⟩;refine⟨_,rfl,hK _ _ (fun _=>⟨aA p C,aA p E,aA p F⟩) ?_⟩;simp only[nrm];have M:=lh (r.o.quiet p);clear hK p;refine sp 4 rfl rfl rfl fun K hK=>?_;refine jA (l:=[.tmp 34,.tmp 37]) rfl [.agg #[.int .i64 (dA n),.int .i64 (n.first:Int),.slice A n.l.length P],.int .i64 ((n.way key:Nat):Int)] rfl (vM _) ((uM (M.o.kn (n:=n) (.head _)) (nX n key) (by have:=z.o;omega)).mono ?_);rintro e w7 ⟨rfl,a7⟩;have S8:=lh (M.o.quiet a7);refine⟨_,rfl,hK _ _ (fun _=>⟨(S8.o.loc _ (.head _)).1.at_ (i:=0) rfl,(S8.o.loc _ (.head _)).1.at_ (i:=1) rfl,(S8.o.loc _ (.head _)).1.at_ (i:=2) rfl⟩) ?_⟩;simp only[nrm];clear hK a7;refine sp 5 rfl rfl rfl fun K hK=>?_;refine nA (v:=?aq1_5) ?yq1_5 (hK _ _ (fun _=>⟨(S8.o.loc _ (.head _)).1.at_ (i:=0) rfl,(S8.o.loc _ (.head _)).1.at_ (i:=1) rfl,(S8.o.loc _ (.head _)).1.at_ (i:=2) rfl⟩) ?_)
    case yq1_5=>go_simp<;>with_reducible rfl
    simp only[nrm];refine wd ?_ _;have HX:Hid (∃j N:Nat,j<=40/\Value.int .i64 ((n.child (n.way key):Nat):Int)=.int .i64 (N:Int)/\Value.int .i64 ((k:Int)+1)=.int .i64 (j:Int)/\aDU (40-j) c N key Q/\Sx wS w g bc bn bs D [(w.heap.size,184,znd)] [] [.by_ kv key] c w7):=lh ⟨k+1,n.child (n.way key),a',rfl,rfl,by rw[show 40-(k+1)=f by have:=b2.o;omega];exact G.o,S8.o.less (.cons _ (dC _)) (dC _) fun k O=>by simp only[kB,yG,aG]at O⊢;simp[O]⟩;clear B r M S8 C E F;have c0:=wi k (by omega)
    go_wp2_with fail
    go_roundw
    case rel=>exact HX.o
    case measure=>simp[intOf];omega
  ·obtain rfl:k=40:=by omega
   exact H.elim
end
theorem uU{P:Program}{b:Func}{tmps:Array Value}{w:World}{k c d:Tmp}(f:b.results=#[.tmp k,.tmp c,.tmp d]):(results b tmps).run P w=.ok (.tuple #[tmps.getD k undef,tmps.getD c undef,tmps.getD d undef]) w:=by
 simp[results,f,go_sem]
def aRX (E:Nat->En) (t:Nat) (key:Ky) (w:World) (e:Ending) (w':World):Prop:=
 ∃v,e=.returned (.tuple #[v,.bool (rP (E t) key).isSome,.int .i64 0])/\(∃q,cA w' v ((rP (E t) key).getD []) q/\w.heap.size<=q)/\Fr [] w w'
theorem aKS{c:CD}{E:Nat->En}{P:Nat->List Nat}{F:List Nat}{t:Nat}(key:Ky)(h:vH c E P F)(ht:t<8)(i:(E t).length<1099511627776)(j:c.roots t≠0):
  ∃n,aDU 40 c (c.roots t) key n/\n.lf=true/\n.ok/\aBn n.l/\n.l.length<=509/\tH (bC n.l)/\rP (bC n.l) key=rP (E t) key:=by
 rcases h.tree t ht with ⟨d,_,_⟩|⟨_,g,b⟩
 ·exact absurd d j
 ·exact aIG g (f:=40) (yK b i) b (fun _ h=>by cases h) (fun _ h=>by cases h)
section
variable {w0 w : World} {dk g st : Nat} {s : PS} {X : Nat -> Prop} {E : Nat -> En}
theorem Get_X(h:StX w0 w dk g st s X E){t:Nat}(ht:t<8){kv:Value}{key:Ky}(hk:cA w kv key k)(b8:X k)(h1:1<=key.length)(h2:key.length<=96)(hE:(E t).length<1099511627776):
  Calls prog 76 #[.pointer (some ⟨st,0,none⟩),.int .i64 (t:Int),kv] w (aRX E t key w):=by
 obtain⟨_,_,P,F,hF⟩:=h.store;obtain⟨c,hc⟩:=nm (aC s.page s.n);rw[<- hc]at hF;have J:=h.pgc;rw[<- hc]at J
 have u:sU (t:Int) key=true:=by
  unfold sU;have a1:(0:Int)<=(t:Int):=by omega
  have a2:(t:Int)<8:=by omega
  simp[a1,a2,h2]
  omega
 have H:=lh h;have HC:=lh hc;have b9:=lh J;have HF:=lh hF;have f:=lh (aGN (t:Int) hk);rw[u]at f;have HK:=lh hk;have b':=lh b8;have c0:=lh hE;have Z:=lh h.begin;clear h hc J hF hk b8 h1 h2 hE u;have d3:((t:Nat):Int)<8:=by omega
 refine gA fun R HQ=>?_
 go_enter func76,ntmps76
 go_wp2_with fail;refine f.o.mono ?_;rintro e w1 ⟨rfl,rfl⟩;go_wp2_with fail;refine Z.o.mono ?_;rintro e w1 ⟨bc,bn,bs,rfl,d⟩;rw[<- HC.o]at d;have Y:=lh (Sx.start d d.top);have a0:=lh (H.o.key HK.o b'.o d.l1 d.l2 d.l3 d.fr);clear d Z f;have cr:=(Y.o.ch.blk).at_ (dG c g bn bs ht)
 by_cases V:c.roots t=0
 ·rw[V]at cr
  have L:E t=[]:=by
   rcases HF.o.tree t ht with ⟨_,h,_⟩|⟨h,_⟩
   ·exact h
   ·exact absurd V h
  have HX:=lh (HQ.o (.returned (.tuple #[.slice none 0 0,.bool false,.int .i64 0])) w1 ⟨.slice none 0 0,by rw[L];rfl,⟨w1.heap.size,by rw[L];exact cA.nil _ _,Y.o.fin.1.fr.size⟩,Y.o.fin.1.fr⟩);have c1:=lh V;clear V L;go_wp2_with fail;exact eF (uU rfl) rfl HX.o
 ·obtain⟨n,a7,c6,a8,a9,x,j,z⟩:=aKS key HF.o ht c0.o V;have d4:¬ ((c.roots t:Nat):Int)=0:=by omega
  have c3:=lh a9;have a3:=lh x;have c4:=lh a8;have HG:Hid (rP (E t) key=if nN n.l key then (n.l[gB n.l key]?).map (·.v) else none):=lh (by rw[<- z];exact aOL j);have a4:=lh (aQO b9.o Y.o.fin.1 a0.o Y.o.fin.1.top ht a7);have c1:=lh V;clear a7 c6 a9 x j z V a8;go_wp2_with fail;refine a4.o.mono ?_;rintro e w2 ⟨nv,rfl,S,m,a'⟩;have hO:∀q,Dm_ X w bc bn bs q->Off (Dm_ X w bc bn bs) [] [] q:=fun q hq=>⟨hq,fun _ h=>by simp at h,fun _ h=>by simp at h⟩;obtain⟨A,ca,_,rfl,_⟩:=S.open_;obtain⟨c7,B,T⟩:=a0.o
  have S1:=lh (((Sx.start m m.top).nd (S.weak hO)).key ⟨c7,B.fr a' (fun hm=>by
   have:=T.2;simp only[kB,yG,aG]at hm;omega),hO _ T⟩)
  clear S m a' hO B T a4 Y cr
  go_wp2_with (first
   | (with_reducible refine mA rfl 184 rfl (.agg #[.int .i64 0,.int .i64 0,.slice none 0 0]) znd.toArray kD rfl ?_)
   | (refine vA (W:=w2) rfl 184 (.tmp 11) (.tmp 45) rfl [.int .i64 (dA n),.int .i64 (n.first:Int),.slice A n.l.length ca] rfl rfl rfl oB rfl qB ?_))
  intro w3 U b7 c9;obtain⟨d6,C⟩:=nm (w2.heap.size);rw[<- C]at U⊢;have M:=lh (S1.o.new1 b7 U (by omega));clear b7 U c9 C S1;have d0:=(M.o.loc _ (.head _)).1.at_ (i:=0) rfl;have d1:=(M.o.loc _ (.head _)).1.at_ (i:=1) rfl;have d2:=(M.o.loc _ (.head _)).1.at_ (i:=2) rfl;obtain⟨d7,D,_⟩:=M.o.kb (.head _);have a5:=lh (aDt (M.o.kn (n:=n) (.tail _ (.head _))) D c3.o (by have:=a3.o;omega));clear D;go_wp2_with fail;refine a5.o.mono ?_;rintro e w4 ⟨rfl,b0⟩;have N:=lh (M.o.quiet b0);clear b0 a5 M d0 d1 d2;have d2:=(N.o.loc _ (.head _)).1.at_ (i:=2) rfl;have b:=HG.o
  cases r:nN n.l key with
  | true=>
   rw[r,iA rfl]at b;have O:=aGH r;obtain⟨y,hy⟩:∃y,n.l[gB n.l key]? = some y:=⟨_,xD O⟩;rw[hy]at b;obtain⟨A2,c2,cs2,b1,m,b2,G,p⟩:=(N.o.kn (n:=n) (.tail _ (.head _))).parts;obtain⟨rfl,rfl⟩:A=A2/\ca=c2:=by injection b1 with h;simp at h;exact h
   obtain⟨d8,d9,d',e0,e1,e2,b3⟩:=G.at_ hy;obtain⟨gr,rfl,b4⟩:=p (by omega);have cv:=b4 _ _ e1;obtain⟨e3,I,_⟩:=b3.2.1;have c':((gB n.l key:Nat):Int)<((n.l.length:Nat):Int):=by omega
   have a6:y.v.length<=1099511627776:=by have:=(c4.o.item y (rG hy)).v;omega
   have c5:=lh (tG I a6);have Q:=lh b;have d5:=lh O;clear b O hy b1 m b2 G p e0 e1 e2 b3 b4 I a6 r;go_wp2_with fail;refine c5.o.mono ?_;rintro e w5 ⟨v5,rfl,⟨g5,b5,c8⟩,b6⟩;have S4:=lh (N.o.quiet b6);have HX:=lh (HQ.o (.returned (.tuple #[v5,.bool true,.int .i64 0])) w5 ⟨v5,by rw[Q.o];rfl,⟨g5,by rw[Q.o];exact b5,by have:=N.o.fin.1.fr.size;omega⟩,S4.o.fin.1.fr⟩);clear b5 c8 b6 N S4 cv d2;go_wp2_with fail;exact eF (uU rfl) rfl HX.o
  | false=>
   rw[r,eA (by decide)]at b;have HX:=lh (HQ.o (.returned (.tuple #[.slice none 0 0,.bool false,.int .i64 0])) w4 ⟨.slice none 0 0,by rw[b];rfl,⟨w4.heap.size,by rw[b];exact cA.nil _ _,N.o.fin.1.fr.size⟩,N.o.fin.1.fr⟩);have Q:=lh b;clear b r;go_wp2_with fail;exact eF (uU rfl) rfl HX.o
end
theorem aFj{S:oU}(i:aGx S){hi:Option Ky}{B:List It}:∀ {A:List It} {lo:Option Ky} {c:Nat} {E:En} {P:List Nat},nD S lo c (A++B) hi E P ->
  ∃b EA f PA g,E=EA++f/\P=PA++g/\nD S b (yM c A) B hi f g/\∀e∈EA,∃x∈A,klt e.1 x.key
 | [],lo,c,E,P,h=>⟨lo,[],E,[],P,rfl,rfl,h,fun e d=>(by cases d)⟩
 | x::A,lo,c,_,_,⟨E1,P1,E2,P2,h1,h2,rfl,rfl⟩=>by
  obtain⟨b,EA,f,PA,g,rfl,rfl,h3,j⟩:=aFj i (A:=A) h2;refine⟨b,E1++EA,f,P1++PA,g,by rw[qF],by rw[qF],h3,fun e d=>?_⟩;rcases pD.1 d with d|d
  ·exact⟨x,sB ..,((i.all _ _ _ _ _ h1).2.1 e d).2 _ rfl⟩
  ·obtain⟨y,k,l⟩:=j e d;exact⟨y,uC _ k,l⟩
theorem aGY{a b d:Ky}(h1:klt a b)(h2:¬ klt d b):klt a d:=by
 by_cases h:klt a d
 ·exact h
 ·by_cases c:klt d a
  ·exact absurd (vD c h1) h2
  ·rw[wO h c]at h1;exact absurd h1 h2
theorem aPz{n:Nd}(low:Ky):∃A B,n.l=A++B/\A.length=n.way low/\n.l.take (n.way low)=A/\n.l.drop (n.way low)=B/\∀x∈A,¬ klt low x.key:=by
 obtain⟨A,c⟩:=nm (n.l.takeWhile fun x=>!decide (klt low x.key));obtain⟨B,f⟩:=nm (n.l.dropWhile fun x=>!decide (klt low x.key));have b:n.l=A++B:=by rw[c,f,pP]
 have hw:A.length=n.way low:=by rw[c];rfl
 refine⟨A,B,b,hw,by rw[<- hw,b,List.take_left' rfl],by rw[<- hw,b,List.drop_left' rfl],fun x d=>?_⟩;rw[c]at d
 simpa using sI x d
theorem aGZ(low:Ky)(up:Option Ky)(most:Nat):∀(E out:En),(goE low up most out E).1.length<=out.length+E.length
 | [],out=>by simp[goE]
 | e::E,out=>by
  rw[iK];have h1:=aGZ low up most E out;have h2:=aGZ low up most E (out++[e]);rw[lB,aAd]at h2;simp only[gD]
  split
  ·omega
  ·split
   ·show out.length<=_;omega
   ·omega
def aNs (D:Nat->Prop) (w:World) (e:Ky×List UInt8) (kv vv:Value):Prop:=(∃g,cA w kv e.1 g/\D g)/\∃g,cA w vv e.2 g/\D g
def lG (D:Nat->Prop) (w:World):En->List Value->Prop
 | [],[]=>True
 | e::E,kv::vv::cs=>aNs D w e kv vv/\lG D w E cs
 | _,_=>False
theorem lG.len{D:Nat->Prop}{w:World}:∀ {E:En} {cs:List Value},lG D w E cs->cs.length=2*E.length
 | [],[],_=>rfl
 | _::E,_::_::cs,h=>by
  have:=lG.len h.2;simp only[gD];omega
theorem lG.fr{D:Nat->Prop}{w w':World}{S:List Nat}(b:Fr S w w')(c:∀q,D q->q∈S->w.heap.size<=q:=by simp):∀ {E:En} {cs:List Value},lG D w E cs->lG D w' E cs
 | [],[],_=>trivial
 | _::_E,_::_::_cs,⟨⟨⟨g1,a1,b1⟩,⟨g2,a2,b2⟩⟩,h⟩=>⟨⟨⟨g1,a1.frD b (c _ b1),b1⟩,⟨g2,a2.frD b (c _ b2),b2⟩⟩,lG.fr b c h⟩
theorem lG.re{D D':Nat->Prop}{w:World}(b:∀q,D q->q<w.heap.size->D' q)(h0:∃q,D' q):∀ {E:En} {cs:List Value},lG D w E cs->lG D' w E cs
 | [],[],_=>trivial
 | _::_E,_::_::_cs,h=>⟨⟨cA.re h.1.1 b h0,cA.re h.1.2 b h0⟩,lG.re b h0 h.2⟩
theorem lG.snoc{D:Nat->Prop}{w:World}{e:Ky×List UInt8}{kv vv:Value}(b:aNs D w e kv vv):∀ {E:En} {cs:List Value},lG D w E cs->lG D w (E++[e]) (cs++[kv,vv])
 | [],[],_=>⟨b,trivial⟩
 | _::_E,_::_::_cs,h=>⟨h.1,lG.snoc b h.2⟩
theorem lG.at_{D:Nat->Prop}{w:World}:∀ {E:En} {cs:List Value} {i:Nat} {e:Ky×List UInt8},lG D w E cs->E[i]? = some e->∃kv vv,cs[i*2]? = some kv/\cs[i*2+1]? = some vv/\aNs D w e kv vv
 | [],[],i,e,_,h=>by simp at h
 | a::E,kv::vv::cs,0,e,h,he=>by
  simp only[iR,vI]at he;subst he;exact⟨kv,vv,rfl,rfl,h.1⟩
 | a::E,kv::vv::cs,i+1,e,h,he=>by
  simp only[List.getElem?_cons_succ]at he;obtain⟨b,v1,h1,h2,h3⟩:=lG.at_ h.2 he;refine⟨b,v1,?_,?_,h3⟩
  ·rw[show(i+1)*2=i*2+1+1 by omega];simpa using h1
  ·rw[show(i+1)*2+1=i*2+1+1+1 by omega];simpa using h2
def Dv (D:Nat->Prop) (ov:Value):Nat->Prop:=fun q=>D q/\ov.ownBlock≠some q
def UpK (D:Nat->Prop) (w:World) (tv:Value):Option Ky->Prop
 | none=>tv=.slice none 0 0
 | some b=>∃a n c q,tv=.slice (some a) n c/\cA w tv b q/\D q
def aDV (bc:Nat) (fv tv ov:Value) (most:Nat):List Value:=[.pointer (some ⟨bc,0,none⟩),fv,tv,.int .i64 (most:Int),ov]
structure Wst (H:Nat) (wS:World) (g bc bn bs bw:Nat) (D:Nat->Prop) (c:CD) (fv tv:Value) (low:Ky) (up:Option Ky) (most:Nat) (out:En) (ov:Value) (w:World):Prop where
 ch:kE wS w g bc bn bs (Dv D ov) c
 bwk:Blk w bw 145 (aDV bc fv tv ov most)
 low:∃q,cA w fv low q/\Dv D ov q
 up:UpK (Dv D ov) w tv up
 row:∃cs,w.ownsRow H 100 2 ov out.length cs/\lG (Dv D ov) w out cs
 nb:∀q,D q->q≠bw/\q≠bc/\q≠bn/\q≠bs
 top:∀q,w.heap.size<=q->D q
 own:∀q,ov.ownBlock=some q->q≠bw/\q≠bc/\q≠bn/\q≠bs
 hb:bw≠bc/\bw≠bn/\bw≠bs
 hH:wS.heap.size<=H
 hw:wS.heap.size<=bw
 hz:H<=w.heap.size
structure WFr (bc bw:Nat) (ov:Value) (w:World) (ov':Value) (w':World):Prop where
 fr:Fr (bc::bw::ov.ownBlock.toList) w w'
 own:∀q,ov'.ownBlock=some q->ov.ownBlock=some q∨w.heap.size<=q
section
variable {H g bc bn bs bw : Nat} {wS w w1 w2 w3 : World} {D : Nat -> Prop} {c c' : CD} {fv tv ov ov' ov1 ov2 : Value} {low : Ky} {up : Option Ky} {most : Nat} {out : En}
theorem WFr.refl:WFr bc bw ov w ov w:=⟨Fr.refl _ _,fun _ h=>.inl h⟩
theorem WFr.trans(h:WFr bc bw ov w ov1 w1)(d:WFr bc bw ov1 w1 ov2 w2):WFr bc bw ov w ov2 w2:=by
 have hz:=h.fr.size;refine⟨h.fr.trans d.fr fun q b=>?_,fun q b=>?_⟩
 ·simp only[kB]at b⊢;rcases b with rfl|rfl|b
  ·exact .inl (.inl rfl)
  ·exact .inl (.inr (.inl rfl))
  ·rcases h.own q (by simpa using b) with h1|h1
   ·exact .inl (.inr (.inr (by simpa using h1)))
   ·exact .inr h1
 ·rcases d.own q b with h1|h1
  ·exact h.own q h1
  ·exact .inr (by omega)
theorem WFr.quiet(h:WFr bc bw ov w ov1 w1)(b:Fr [] w1 w2):WFr bc bw ov w ov1 w2:=⟨h.fr.trans b,h.own⟩
theorem WFr.pre(d:Fr [] w w1)(h:WFr bc bw ov w1 ov1 w2):WFr bc bw ov w ov1 w2:=⟨(d.mono (by simp)).trans h.fr (fun q b=>.inl b),fun q b=>by
 rcases h.own q b with h1|h1
 ·exact .inl h1
 ·exact .inr (by have:=d.size;omega)⟩
theorem WFr.keep(h:WFr bc bw ov w ov1 w1){p:Nat}{t:TypeId}{cs:List Value}(hb:Blk w p t cs)(h1:p≠bc)(h2:p≠bw)(h3:ov.ownBlock≠some p):Blk w1 p t cs:=
 hb.fr h.fr (by simp only[kB,Option.mem_toList];rintro(h|h|h);exact h1 h;exact h2 h;exact h3 h)
theorem Wst.shape(h:Wst H wS g bc bn bs bw D c fv tv low up most out ov w):∃A b,ov=.slice A out.length b:=by
 obtain⟨cs,h1,_⟩:=h.row;obtain⟨A,b,e,_⟩:=sA h1;exact⟨A,b,e⟩
theorem Wst.lt(h:Wst H wS g bc bn bs bw D c fv tv low up most out ov w):∀q,ov.ownBlock=some q->H<=q/\q<w.heap.size:=by
 obtain⟨cs,h1,_⟩:=h.row;exact fun q b=>⟨(h1.lt q b).1,sF h1 q b⟩
theorem Wst.topv(h:Wst H wS g bc bn bs bw D c fv tv low up most out ov w):∀q,w.heap.size<=q->Dv D ov q:=fun q b=>⟨h.top q b,fun e=>by have:=(h.lt q e).2;omega⟩
theorem UpK.fr{S:List Nat}(h:UpK D w tv up)(f:Fr S w w1)(i:∀q,D q->q∈S->w.heap.size<=q:=by simp):UpK D w1 tv up:=by
 cases up with
 | none=>exact h
 | some b=>
  obtain⟨a,n,d,q,h1,h2,h3⟩:=h;exact⟨a,n,d,q,h1,h2.frD f (i _ h3),h3⟩
theorem UpK.re{D':Nat->Prop}(h:UpK D w tv up)(k:∀q,D q->q<w.heap.size->D' q)(h0:∃q,D' q):UpK D' w tv up:=by
 cases up with
 | none=>exact h
 | some b=>
  obtain⟨a,n,d,q,h1,h2,h3⟩:=h;obtain⟨f,i,j⟩:=cA.re ⟨q,h2,h3⟩ k h0;exact⟨a,n,d,f,h1,i,j⟩
theorem Wst.quiet(h:Wst H wS g bc bn bs bw D c fv tv low up most out ov w1)(b:Fr [] w1 w2):Wst H wS g bc bn bs bw D c fv tv low up most out ov w2:=by
 have hz:=b.size;have d:=h.hz;obtain⟨q,f,l2⟩:=h.low;obtain⟨cs,i,j⟩:=h.row;exact⟨h.ch.frame b,h.bwk.fr b,⟨q,f.fr b,l2⟩,h.up.fr b,⟨cs,iB i b (by simp),j.fr b⟩,h.nb,fun q k=>h.top q (by omega),h.own,h.hb,h.hH,h.hw,by omega⟩
theorem Wst.failed(h:Wst H wS g bc bn bs bw D c fv tv low up most out ov w1)(b:Fr [bc] w1 w2)(n:kE wS w2 g bc bn bs (Dv D ov) c'):Wst H wS g bc bn bs bw D c' fv tv low up most out ov w2:=by
 have hz:=b.size;have j:=h.hz;obtain⟨q,k,l2⟩:=h.low;obtain⟨cs,l,m⟩:=h.row;have f:∀q,Dv D ov q->q∈[bc]->w1.heap.size<=q:=fun q d i=>absurd (aB.1 i) (h.nb q d.1).2.1;exact⟨n,h.bwk.fr b (by simpa using h.hb.1),⟨q,k.frD b (f _ l2),l2⟩,h.up.fr b f,⟨cs,iB l b (fun q d i=>(h.own q d).2.1 (aB.1 i)),m.fr b f⟩,h.nb,fun q d=>h.top q (by omega),h.own,h.hb,h.hH,h.hw,by omega⟩
theorem Wst.push(h:Wst H wS g bc bn bs bw D c fv tv low up most out ov w1){cs:List Value}(t:lG (Dv D ov) w1 out cs){e:Ky×List UInt8}{kv vv:Value}(V:aNs (Dv D ov) w1 e kv vv)(u:Fr ov.ownBlock.toList w1 w2)
 (x:w2.ownsRow 0 100 2 ov' (out.length+1) (cs++[kv,vv]))(s:∀q,ov'.ownBlock=some q->ov.ownBlock=some q∨q=w1.heap.size):
  Wst H wS g bc bn bs bw D c fv tv low up most (out++[e]) ov' (w2.setCell ⟨bw,4,none⟩ ov')/\WFr bc bw ov w1 ov' (w2.setCell ⟨bw,4,none⟩ ov'):=by
 have hz:=u.size;have F:=h.hz;have o:=h.lt;have G:=h.bwk.lt;have I:=h.ch.lts;have f:Fr [bw] w2 (w2.setCell ⟨bw,4,none⟩ ov'):=(Fr.refl [bw] w2).setCell (.inl (by simp)) _;have J:=f.size;obtain⟨l,k⟩:∃l:Nat->Prop,l=fun q=>Dv D ov q/\ov'.ownBlock≠some q:=⟨_,rfl⟩
 have y:∀q,Dv D ov q->q<w1.heap.size->l q:=fun q d E=>by
  rw[k];refine⟨d,fun e=>?_⟩;rcases s _ e with h1|h1
  ·exact d.2 h1
  ·omega
 have C:∃q,l q/\w1.heap.size<=q:=⟨w1.heap.size+1,by
  rw[k];refine⟨h.topv _ (by omega),fun e=>?_⟩;rcases s _ e with h1|h1
  ·have:=(o _ h1).2;omega
  ·omega,by omega⟩
 have m:∃q,l q:=C.imp fun q s=>s.1
 have z:∀q,l q->q∈ov.ownBlock.toList->w1.heap.size<=q:=fun q d i=>by
  rw[k]at d;exact absurd (by simpa using i) d.1.2
 have p:∀q,l q->Dv D ov' q:=fun q d=>by
  rw[k]at d;exact⟨d.1.1,d.2⟩
 have A:∀q,Dv D ov' q->q∈[bw]->w2.heap.size<=q:=fun q d i=>absurd (aB.1 i) (h.nb q d.1).1;have v:∀q,l q->q≠bc/\q≠bn/\q≠bs:=fun q d=>(h.nb q (p q d).1).2
 have j:∀q,ov'.ownBlock=some q->q≠bw/\q≠bc/\q≠bn/\q≠bs:=fun q e=>by
  rcases s _ e with h1|h1
  ·exact h.own q h1
  ·omega
 have c1:kE wS w2 g bc bn bs l c:=(h.ch.re y C v).frS u fun q i=>by
  have r:ov.ownBlock=some q:=by simpa using i
  have:=(o q r).1;have L:=h.own q r;refine .inr ⟨by have:=h.hH;omega,fun d=>?_,L.2⟩;rw[k]at d;exact d.1.2 r
 have c2:kE wS (w2.setCell ⟨bw,4,none⟩ ov') g bc bn bs (Dv D ov') c:=(c1.weak p fun q d=>(h.nb q d.1).2).frS f fun q i=>by
  obtain rfl:=aB.1 i;exact .inr ⟨h.hw,fun d=>(h.nb _ d.1).1 rfl,h.hb⟩
 obtain⟨O,P,l2⟩:=cA.re h.low y m
 have u2:UpK (Dv D ov') (w2.setCell ⟨bw,4,none⟩ ov') tv up:=by
  have u1:=((h.up.re y m).fr u z)
  have B:UpK (Dv D ov') w2 tv up:=by
   cases up with
   | none=>exact u1
   | some b=>obtain⟨a,n,Q,q,S,T,U⟩:=u1;exact⟨a,n,Q,q,S,T,p q U⟩
  exact B.fr f A
 have M:lG l w1 (out++[e]) (cs++[kv,vv]):=(t.snoc V).re y m
 have N:lG (Dv D ov') w2 (out++[e]) (cs++[kv,vv]):=by
  have:=M.fr u z;exact this.re (fun q d _=>p q d) (m.imp fun q d=>p q d)
 refine⟨⟨c2,?_,⟨O,(P.frD u (z _ l2)).frD f (A _ (p _ l2)),p _ l2⟩,u2,⟨cs++[kv,vv],?_,N.fr f A⟩,h.nb,fun q d=>h.top q (by omega),j,h.hb,h.hH,h.hw,by omega⟩,?_⟩
 ·have hb:=(h.bwk.fr u (fun i=>(h.own bw (by simpa using i)).1 rfl)).set_ 4 ov';exact hb
 ·have E:(out++[e]).length=out.length+1:=by simp
  rw[E];refine iB (wC x fun q d=>?_) f fun q d i=>(j q d).1 (aB.1 i);rcases s _ d with h1|h1
  ·exact(o q h1).1
  ·omega
 ·refine⟨(u.mono fun q i=>.inl (by simp only[kB];exact .inr (.inr i))).trans f fun q i=>.inl (by simp only[kB];exact .inr (.inl (aB.1 i))),fun q d=>?_⟩;rcases s _ d with h1|h1
  ·exact .inl h1
  ·exact .inr (by omega)
end
theorem aMg:(prog.info? 100).map (fun i=>(i.zero,i.size,i.bytes))=some (some (.agg #[.slice none 0 0,.slice none 0 0]),2,48):=by kernel_rfl
theorem lW(b:Array Value)(w:World):(callFunc 133 b).run prog w=.ok (.enter 133 b) w:=by kernel_rfl
theorem gP(b:Array Value)(w:World):(callFunc 110 b).run prog w=.ok (.enter 110 b) w:=by kernel_rfl
def WEnd (H:Nat) (wS:World) (g bc bn bs bw:Nat) (D:Nat->Prop) (c:CD) (fv tv:Value) (low:Ky) (up:Option Ky) (most:Nat) (out:En) (ov:Value) (w:World) (E:En) (e:Ending) (w':World):Prop:=
 ∃ov',e=.returned (.bool (goE low up most out E).2)/\Wst H wS g bc bn bs bw D c fv tv low up most (goE low up most out E).1 ov' w'/\WFr bc bw ov w ov' w'
theorem aIH{l:List α}{i:Nat}{x:α}(h:l[i]? = some x):l.drop i=x::l.drop (i+1):=by
 obtain⟨h1,h2⟩:=tD.1 h;rw[zM h1,h2]
section
variable {H g bc bn bs bw : Nat} {wS w : World} {D : Nat -> Prop} {c : CD} {fv tv ov : Value} {low : Ky} {up : Option Ky} {most : Nat} {out : En}
theorem aNt{n:Nd}{nv:Value}(h:Wst H wS g bc bn bs bw D c fv tv low up most out ov w)(hn:NdV (Dv D ov) w 0 nv n)(g7:n.ok)(g':n.l.length<=509)(d7:out.length+n.l.length<=1000000):
  Calls prog 100 #[.pointer (some ⟨bw,0,none⟩),nv] w (WEnd H wS g bc bn bs bw D c fv tv low up most out ov w (bC n.l)):=by
 obtain⟨A,ca,cs,rfl,i4,d5,d6,a'⟩:=hn.parts;obtain⟨wb,c0⟩:=nm (w.alloc (.cells #[.int .i64 (dA n),.int .i64 (n.first:Int),.slice A n.l.length ca] 184));have d8:Fr [] w wb:=by rw[c0];exact(Fr.refl [] w).alloc _
 have f4:Blk wb w.heap.size 184 [.int .i64 (dA n),.int .i64 (n.first:Int),.slice A n.l.length ca]:=by rw[c0];exact Blk.new w _ [.int .i64 (dA n),.int .i64 (n.first:Int),.slice A n.l.length ca]
 have d2:=f4.at_ (i:=2) rfl;have HN:=lh hn;have h8:=lh d5;have f5:=lh d6;have d9:=lh a';have h0:=lh g7;have h9:=lh g';have WB:=lh (h.quiet d8);have V:=lh d8;have f6:=lh h;have f7:=lh d7;clear h hn d5 d6 a' g7 d8 f4 d7;refine gA fun R HQ=>?_
 go_enter func100,ntmps100
 go_upto_region 1 with fail
 rw[<- c0];clear c0;go_wp2_with fail
 go_loopw [10] (fun v wr=>∃(i:Nat) (d:En) (z:Value),i<=n.l.length/\v=.int .i64 (i:Int)/\Wst H wS g bc bn bs bw D c fv tv low up most d z wr/\WFr bc bw ov wb z wr/\goE low up most out (bC n.l)=goE low up most d (bC (n.l.drop i))/\d.length+(n.l.length-i)<=1000000) (fun v _=>n.l.length-(intOf v).toNat)
 case atStart=>exact⟨0,out,ov,rB _,rfl,WB.o,WFr.refl,rfl,f7.o⟩
 case round=>
  obtain⟨i0,d,z,i5,rfl,s,hG,f',g0⟩:=hrel;obtain⟨Ao,co,rfl⟩:=s.shape;have W1:=lh s;have G1:=lh hG;have I:=lh f';have X:=lh g0;clear s hG f' g0 d2
  by_cases hi:i0<n.l.length
  ·obtain⟨x,hx⟩:=gx (l:=n.l) hi;have f8:=rG hx;have b9:=lh (h0.o.item x f8);have t:Hid (bC (n.l.drop i0)=(x.key,x.v)::bC (n.l.drop (i0+1))):=lh (by rw[aIH hx];rfl);obtain⟨kv,vv,av,e0,e1,e2,g1⟩:=f5.o.at_ hx;obtain⟨gr,hA,c1⟩:=d9.o (by omega)
   have d':Dv D ov gr:=by
    obtain⟨i6,cs2,z1,z2,z3,z4⟩:=HN.o;refine z4 gr ?_;injection z1 with z1
    simp at z1
    rw[<- z1,hA];rfl
   have a3:gr∉bc::bw::ov.ownBlock.toList:=by
    have:=f6.o.nb gr d'.1;simp only[kB,Option.mem_toList];rintro(h|h|h)
    ·exact this.2.1 h
    ·exact this.1 h
    ·exact d'.2 h
   subst hA;have i1:=wA G1.o.fr a3 (aA V.o (c1 _ _ e0));have i2:=wA G1.o.fr a3 (aA V.o (c1 _ _ e1));have i3:=wA G1.o.fr a3 (aA V.o (c1 _ _ e2))
   have c5:ItC (Dv D ov) wr x kv vv av:=(g1.fr V.o).fr G1.o.fr fun q hq hm=>by
    have h1:=f6.o.nb q hq.1;simp only[kB,Option.mem_toList]at hm;rcases hm with h|h|h
    ·exact absurd h h1.2.1
    ·exact absurd h h1.1
    ·exact absurd h hq.2
   have h2:=lh c5.one;obtain⟨⟨gk,g2,_⟩,⟨gv,g3,_⟩,h6⟩:=c5;have c6:=lh g2;have c7:=lh g3;obtain⟨Ak,ck,_,rfl,_,_⟩:=g2;obtain⟨Aw,cw,_,rfl,_,_⟩:=g3;subst h6;clear hx f8 e0 e1 e2 g1 c1 d' a3;have h':=wi i0 (by omega)
   go_wp2_with (first
    | (with_reducible refine mA rfl 198 rfl (.agg #[.slice none 0 0,.slice none 0 0,.int .i64 0]) zit.toArray xO rfl ?_)
    | (refine vA (W:=wr) rfl 198 (.tmp 6) (.tmp 13) rfl [.slice Ak x.key.length ck,.slice Aw x.v.length cw,.int .i64 (x.at_:Int)] rfl rfl rfl pG rfl h2.o ?_))
   intro w4 f3 b6 h7;obtain⟨p6,g4⟩:=nm (wr.heap.size);rw[<- g4]at f3⊢;have W2:=lh (W1.o.quiet b6);have G2:=lh (G1.o.quiet b6);have B2:=lh f3;have c':=lh (c6.o.fr b6);have d0:=lh (c7.o.fr b6);have d1:Hid ((Value.slice Ao d.length co).ownBlock≠some p6):=lh (fun e=>by have:=(W1.o.lt _ e).2;omega);clear f3 b6 h7 i1 i2 i3 g4;go_upto_region 4 with fail
   have W3:=lh (W2.o.quiet ((Fr.refl [] w4).drew));have G3:=lh (G2.o.quiet ((Fr.refl [] w4).drew));have B3:=lh (B2.o.fr ((Fr.refl [] w4).drew));have a6:=lh (c'.o.fr ((Fr.refl [] w4).drew));have d3:=lh (d0.o.fr ((Fr.refl [] w4).drew));clear W1 W2 G1 G2 B2 c6 c7 c' d0;obtain⟨ql,g5,_⟩:=W3.o.low;have d4:=lh g5;have r:=B3.o.at_ (i:=0) rfl;have f1:=W3.o.bwk.at_ (i:=1) rfl;clear g5;refine lA (fun W=>W.cell? ⟨p6,0,none⟩=some (.slice Ak x.key.length ck)/\W.cell? ⟨bw,1,none⟩=some fv) [0,1,2,3,4,5,6,8] (by kernel_rfl) ?_;refine tks [0,1,2,3,4,5,6] ?_
   iterate 7 (refine tk rfl rfl ⟨r,f1⟩ rfl (fun _ s=>by(obtain⟨T,U⟩:=s;go_simp)<;>with_reducible rfl) ?_;simp only[nrm])
   refine tke ?_;refine sp 7 rfl rfl rfl fun K hK=>?_;refine jA (l:=[.tmp 17,.tmp 21]) rfl [.slice Ak x.key.length ck,fv] rfl (lW _) ((gM a6.o d4.o).mono ?_);rintro e M ⟨rfl,rfl⟩;refine⟨_,rfl,hK _ _ (fun _=>⟨r,f1⟩) ?_⟩;simp only[nrm];clear hK;refine tks [8] ?_;refine tk rfl rfl ⟨r,f1⟩ rfl (fun _ s=>by(obtain⟨T,U⟩:=s;go_simp)<;>with_reducible rfl) ?_;simp only[nrm];refine tke ?_;refine sp 9 rfl rfl rfl fun K hK=>?_;refine nA (v:=?aq1_9) ?yq1_9 (hK _ _ (fun _=>⟨r,f1⟩) ?_)
   case yq1_9=>go_simp<;>with_reducible rfl
   simp only[nrm];refine wd ?_ _;clear r f1 d4;generalize w4.drew=M at *
   by_cases a5:klt x.key low
   ·have h3:Lib.compareBytes x.key low<0:=a5
    have HX:Hid (∃(i:Nat) (d:En) (z:Value),i<=n.l.length/\Value.int .i64 ((i0:Int)+1)=.int .i64 (i:Int)/\Wst H wS g bc bn bs bw D c fv tv low up most d z M/\WFr bc bw ov wb z M/\goE low up most out (bC n.l)=goE low up most d (bC (n.l.drop i))/\d.length+(n.l.length-i)<=1000000):=lh ⟨i0+1,d,_,hi,rfl,W3.o,G3.o,by
     rw[I.o,t.o,iK,iA a5],by have:=X.o;omega⟩
    clear a5;go_wp2_with fail
    go_roundw
    case rel=>exact HX.o
    case measure=>simp[intOf];omega
   ·have h3:¬ Lib.compareBytes x.key low<0:=a5;have a4:=lh a5;clear a5;have c4:=(W3.o.bwk.fr ((Fr.refl [] M).drew)).at_ (i:=4) rfl;have c3:=(W3.o.bwk.fr ((Fr.refl [] M).drew)).at_ (i:=3) rfl;have c2:=(W3.o.bwk.fr ((Fr.refl [] M).drew)).at_ (i:=2) rfl;have r:=(B3.o.fr ((Fr.refl [] M).drew)).at_ (i:=0) rfl;have W6:=lh (W3.o.quiet ((Fr.refl [] M).drew));have G6:=lh (G3.o.quiet ((Fr.refl [] M).drew));have B6:=lh (B3.o.fr ((Fr.refl [] M).drew));have e3:=lh (a6.o.fr ((Fr.refl [] M).drew));have f9:=lh (d3.o.fr ((Fr.refl [] M).drew));go_upto_region 5 with fail
    clear W3 G3 B3 a6 d3
    by_cases G:d.length=most
    ·have b':((d.length:Nat):Int)=(most:Int):=by omega
     have B:Hid (d.length=most∨iN up (x.key,x.v).1=true):=lh (.inl G);have Y:=lh G;clear G;refine lA (fun W=>W.cell? ⟨bw,4,none⟩=some (.slice Ao d.length co)/\W.cell? ⟨bw,3,none⟩=some (.int .i64 (most:Int))/\W.cell? ⟨bw,2,none⟩=some tv/\W.cell? ⟨p6,0,none⟩=some (.slice Ak x.key.length ck)) [0,1,2,3,4,5,6,7,8,9,10,11,12,13,14,15,16,17,18,19,20,21,22,23,24,25,26,27] (by kernel_rfl) ?_;refine tks [0,1,2,3,4,5,6,7,8] ?_
     iterate 9 (refine tk rfl rfl ⟨c4,c3,c2,r⟩ rfl (fun _ s=>by(obtain⟨T,U,q2,q3⟩:=s;go_simp)<;>with_reducible rfl) ?_;simp only[nrm])
     refine tke ?_;refine _root_.Go.Proofs.YtebjhcjbfaaejaaGreatDoor.tv 9 (.bool true) rfl rfl ⟨c4,c3,c2,r⟩ (.inl ⟨rfl,fun W' _=>by first|(simp[execOp,Act.eval,go_sem];done)|(simp[execOp,Act.eval,Result.andThen,go_sem];omega)⟩) ?_;simp only[nrm];refine tks [10] ?_;refine tk rfl rfl ⟨c4,c3,c2,r⟩ rfl (fun _ s=>by(obtain⟨T,U,q2,q3⟩:=s;go_simp)<;>with_reducible rfl) ?_;simp only[nrm];refine tke ?_;refine tks [11,12,13,14,15,16,17,18,19,20,21,22,23,24,25,26] ?_
     iterate 16 (refine tu rfl rfl ⟨c4,c3,c2,r⟩ rfl ?_;simp only[nrm])
     refine tke ?_;refine tks [27] ?_;refine tk rfl rfl ⟨c4,c3,c2,r⟩ rfl (fun _ s=>by(obtain⟨T,U,q2,q3⟩:=s;go_simp)<;>with_reducible rfl) ?_;simp only[nrm];refine tke ?_;refine sp 28 rfl rfl rfl fun K hK=>?_;refine nA (v:=?aq2_28) ?yq2_28 (hK _ _ (fun _=>⟨c4,c3,c2,r⟩) ?_)
     case yq2_28=>go_simp<;>with_reducible rfl
     simp only[nrm];refine wd ?_ _;clear c4 c3 c2 r;have WG:Hid (WFr bc bw ov w (.slice Ao d.length co) M.drew):=lh (WFr.pre V.o G6.o);generalize M.drew=S at *;have HX:=lh (HQ.o (.returned (.bool false)) _ ⟨_,by rw[I.o,t.o,iK,eA a4.o,iA B.o],by rw[I.o,t.o,iK,eA a4.o,iA B.o];exact W6.o,WG.o⟩);go_wp2_with fail;exact HX.o
    ·have b':¬ ((d.length:Nat):Int)=(most:Int):=by omega
     have Y:=lh G;clear G;have e4:=W6.o.up
     cases up with
     | none=>
      have e5:tv=.slice none 0 0:=e4;subst e5;clear e4
      have Z:Hid (¬ (d.length=most∨iN none (x.key,x.v).1=true)):=lh (by
       rintro(h|h)
       ·exact Y.o h
       ·cases h)
      refine lA (fun W=>W.cell? ⟨bw,4,none⟩=some (.slice Ao d.length co)/\W.cell? ⟨bw,3,none⟩=some (.int .i64 (most:Int))/\W.cell? ⟨bw,2,none⟩=some (.slice none 0 0)/\W.cell? ⟨p6,0,none⟩=some (.slice Ak x.key.length ck)) [0,1,2,3,4,5,6,7,8,9,10,11,12,13,14,15,16,17,18,19,20,21,22,23,24,25,26,27] (by kernel_rfl) ?_;refine tks [0,1,2,3,4,5,6,7,8] ?_
      iterate 9 (refine tk rfl rfl ⟨c4,c3,c2,r⟩ rfl (fun _ s=>by(obtain⟨T,U,q2,q3⟩:=s;go_simp)<;>with_reducible rfl) ?_;simp only[nrm])
      refine tke ?_;refine _root_.Go.Proofs.YtebjhcjbfaaejaaGreatDoor.tv 9 (.bool false) rfl rfl ⟨c4,c3,c2,r⟩ (.inl ⟨rfl,fun W' _=>by first|(simp[execOp,Act.eval,go_sem,b'];done)|(simp[execOp,Act.eval,Result.andThen,go_sem];omega)⟩) ?_;simp only[nrm];refine tks [10,11,12,13,14] ?_
      iterate 5 (refine tk rfl rfl ⟨c4,c3,c2,r⟩ rfl (fun _ s=>by(obtain⟨T,U,q2,q3⟩:=s;go_simp)<;>with_reducible rfl) ?_;simp only[nrm])
      refine tke ?_;refine _root_.Go.Proofs.YtebjhcjbfaaejaaGreatDoor.tv 15 (.bool false) rfl rfl ⟨c4,c3,c2,r⟩ (.inl ⟨rfl,fun W' _=>by simp[execOp,Act.eval,Result.andThen,go_sem,Go.Proofs.Tryz.underlying67]⟩) ?_;simp only[nrm];refine tks [16] ?_;refine tk rfl rfl ⟨c4,c3,c2,r⟩ rfl (fun _ s=>by(obtain⟨T,U,q2,q3⟩:=s;go_simp)<;>with_reducible rfl) ?_;simp only[nrm];refine tke ?_;refine tks [17,18,19,20,21,22,23,24,25] ?_
      iterate 9 (refine tu rfl rfl ⟨c4,c3,c2,r⟩ rfl ?_;simp only[nrm])
      refine tke ?_;refine tks [26,27] ?_
      iterate 2 (refine tk rfl rfl ⟨c4,c3,c2,r⟩ rfl (fun _ s=>by(obtain⟨T,U,q2,q3⟩:=s;go_simp)<;>with_reducible rfl) ?_;simp only[nrm])
      refine tke ?_;refine sp 28 rfl rfl rfl fun K hK=>?_;refine nA (v:=?aq3_28) ?yq3_28 (hK _ _ (fun _=>⟨c4,c3,c2,r⟩) ?_)
      case yq3_28=>go_simp<;>with_reducible rfl
      simp only[nrm];refine wd ?_ _;clear c4 c3 c2 r;generalize M.drew=S at *;have a7:=W6.o.hz;have c4:=W6.o.bwk.at_ (i:=4) rfl;have r:=(B6.o).at_ (i:=0) rfl;have k1:=(B6.o).at_ (i:=1) rfl;have k2:=True.intro;go_upto_region 7 with fail
      have W7:=lh (W6.o.quiet ((Fr.refl [] S).drew));have G7:=lh (G6.o.quiet ((Fr.refl [] S).drew));have B7:=lh (B6.o.fr ((Fr.refl [] S).drew));refine lA (fun W=>W.cell? ⟨bw,4,none⟩=some (.slice Ao d.length co)/\W.cell? ⟨p6,0,none⟩=some (.slice Ak x.key.length ck)/\W.cell? ⟨p6,1,none⟩=some (.slice Aw x.v.length cw)) [0,1,2,3,4,5,6,7,9,10,11,13,17] (by kernel_rfl) ?_;refine tks [0,1,2,3,4,5,6,7,9,10,11] ?_
      iterate 11 (refine tk rfl rfl ⟨c4,r,k1⟩ rfl (fun _ s=>by(obtain⟨T,U,q2⟩:=s;go_simp)<;>with_reducible rfl) ?_;simp only[nrm])
      refine tke ?_;refine sp 8 rfl rfl rfl fun K hK=>?_;refine jA (l:=[.tmp 60]) rfl [.slice Ak x.key.length ck] rfl (gP _) ((tG (e3.o.fr ((Fr.refl [] S).drew)) (by have:=b9.o.k2;omega)).mono ?_);rintro e w8 ⟨v8,rfl,⟨g8,a0,b0⟩,y⟩;refine⟨_,rfl,hK _ _ (fun _=>⟨aA y c4,aA y r,aA y k1⟩) ?_⟩;simp only[nrm];clear hK;refine sp 12 rfl rfl rfl fun K hK=>?_;refine jA (l:=[.tmp 64]) rfl [.slice Aw x.v.length cw] rfl (gP _) ((tG (f9.o.fr (((Fr.refl [] S).drew).trans y)) (by have:=b9.o.v;omega)).mono ?_);rintro e w9 ⟨v9,rfl,⟨g9,a1,e'⟩,a2⟩;have f:Fr [] S.drew w9:=y.trans a2;refine⟨_,rfl,hK _ _ (fun _=>⟨aA f c4,aA f r,aA f k1⟩) ?_⟩;simp only[nrm];clear hK;obtain⟨A8,c8,_,rfl,_,_⟩:=id a0;obtain⟨A9,c9,_,rfl,_,_⟩:=id a1;refine _root_.Go.Proofs.YtebjhcjbfaaejaaGreatDoor.tv 13 (.agg #[.slice A8 x.key.length c8,.slice A9 x.v.length c9]) rfl rfl ⟨aA f c4,aA f r,aA f k1⟩ (.inl ⟨rfl,fun W s=>by go_simp⟩) ?_;simp only[nrm];obtain⟨wx,E⟩:=nm (w9.alloc (.cells ([.slice A8 x.key.length c8,.slice A9 x.v.length c9]:List Value).toArray 100));have J:Fr [] w9 wx:=by rw[E];exact(Fr.refl [] _).alloc _
      have a8:Blk wx w9.heap.size 100 [.slice A8 x.key.length c8,.slice A9 x.v.length c9]:=by rw[E];exact Blk.new w9 _ [.slice A8 x.key.length c8,.slice A9 x.v.length c9]
      have k:Fr [] S.drew wx:=f.trans J;obtain⟨te,b1,b2,b3,f0⟩:=mE aMg;refine sp 14 rfl rfl rfl fun K hK=>?_;refine dD (.tmp 66) rfl Go.Proofs.Tryz.underlying96 b1 b2 [.slice A8 x.key.length c8,.slice A9 x.v.length c9] rfl b3 rfl (by simp) (by simp) (hK _ _ (fun _=>by rw[<- E];exact⟨aA k c4,aA k r,aA k k1⟩) ?_);simp only[nrm];rw[<- E];clear hK E;have W8:=lh (W7.o.quiet k);obtain⟨f2,P,F⟩:=W8.o.row;have a9:Hid (aNs (Dv D (.slice Ao d.length co)) wx (x.key,x.v) (.slice A8 x.key.length c8) (.slice A9 x.v.length c9)):=lh ⟨⟨g8,(a0.fr a2).fr J,W7.o.topv _ b0⟩,⟨g9,a1.fr J,W7.o.topv _ (by have:=y.size;omega)⟩⟩;have C:=lh F;have N:=W8.o.bwk;have O:=B7.o.fr k;refine sp 15 rfl rfl rfl fun K hK=>?_;refine tI (.tmp 57) (.tmp 67) rfl 100 2 48 Go.Proofs.Tryz.underlying96 b1 b2 b3 f0 rfl (by omega) Ao d.length co f2 rfl (wC P (fun _ _=>rB _)) (some ⟨w9.heap.size,0,none⟩) 1 1 [.slice A8 x.key.length c8,.slice A9 x.v.length c9] rfl rfl (fun _=>⟨_,rfl,fun j u hu=>by rw[Go.Addr.add_mid,cC];exact a8.at_ hu⟩) (by intro u hu;simp at hu;rcases hu with rfl|rfl<;>rfl) (by have:=X.o;unfold maxLen;omega) (by have:=X.o;omega) wx.heap.size rfl fun A' cap wz Q L b7=>?_;have m:Blk wz bw 145 (aDV bc fv (.slice none 0 0) (.slice Ao d.length co) most):=N.fr L (fun hm=>(W8.o.own bw (by simpa using hm)).1 rfl);have p:=O.fr L (fun hm=>d1.o (by simpa using hm));refine hK _ _ (fun _=>⟨m.at_ (i:=4) rfl,p.at_ (i:=0) rfl,p.at_ (i:=1) rfl⟩) ?_;simp only[nrm];clear hK;obtain⟨b4,b5⟩:=W8.o.push (e:=(x.key,x.v)) C.o a9.o L Q b7;have e6:=m.at_ (i:=4) rfl;have e7:=m.free 4;have e8:=m.lt;refine sp 16 rfl rfl rfl fun K hK=>?_;refine nA (v:=.pointer (some ⟨bw,0,none⟩)) (by go_simp) (hK _ _ (fun _=>⟨m.at_ (i:=4) rfl,p.at_ (i:=0) rfl,p.at_ (i:=1) rfl⟩) ?_);simp only[nrm];clear hK;refine tks [17] ?_;refine tk rfl rfl ⟨m.at_ (i:=4) rfl,p.at_ (i:=0) rfl,p.at_ (i:=1) rfl⟩ rfl (fun _ s=>by(obtain⟨T,U,q2⟩:=s;go_simp)<;>with_reducible rfl) ?_;simp only[nrm];refine tke ?_;refine xA (j:=18) none rfl rfl (by kernel_rfl) rfl fun K hK=>?_;refine pB (w':=wz.setCell ⟨bw,4,none⟩ (.slice A' (d.length+1) cap)) (by go_simp) (hK _ _ (fun h=>absurd h (by decide +kernel)) ?_);simp only[Act.put];clear hK;refine wd ?_ _;have W9:=lh b4;have G9:=lh ((G7.o.quiet k).trans b5);clear b4 b5 e6 e7 e8 m p Q L b7 N O C a9 P F a8 J k f a0 a1 y a2 b0 e' c4 r k1 k2 W6 W7 W8 G6 G7 B6 B7 a7;generalize wz.setCell ⟨bw,4,none⟩ (.slice A' (d.length+1) cap)=b8 at *
      have HX:Hid (∃(i:Nat) (d:En) (z:Value),i<=n.l.length/\Value.int .i64 ((i0:Int)+1)=.int .i64 (i:Int)/\Wst H wS g bc bn bs bw D c fv (.slice none 0 0) low none most d z b8/\WFr bc bw ov wb z b8/\goE low none most out (bC n.l)=goE low none most d (bC (n.l.drop i))/\d.length+(n.l.length-i)<=1000000):=lh ⟨i0+1,d++[(x.key,x.v)],_,hi,rfl,W9.o,G9.o,by
       rw[I.o,t.o,iK,eA a4.o,eA Z.o],by have:=X.o;simp only[lB,aAd];omega⟩
      go_wp2_with fail
      go_roundw
      case rel=>exact HX.o
      case measure=>simp[intOf];omega
     | some b=>
      obtain⟨ta,tm,tc,tq,e5,g6,_⟩:=e4;subst e5;have h4:=lh g6;clear g6;refine lA (fun W=>W.cell? ⟨bw,4,none⟩=some (.slice Ao d.length co)/\W.cell? ⟨bw,3,none⟩=some (.int .i64 (most:Int))/\W.cell? ⟨bw,2,none⟩=some (.slice (some ta) tm tc)/\W.cell? ⟨p6,0,none⟩=some (.slice Ak x.key.length ck)) [0,1,2,3,4,5,6,7,8,9,10,11,12,13,14,15,16,17,18,19,20,21,22,23,25,26,27] (by kernel_rfl) ?_;refine tks [0,1,2,3,4,5,6,7,8] ?_
      iterate 9 (refine tk rfl rfl ⟨c4,c3,c2,r⟩ rfl (fun _ s=>by(obtain⟨T,U,q2,q3⟩:=s;go_simp)<;>with_reducible rfl) ?_;simp only[nrm])
      refine tke ?_;refine _root_.Go.Proofs.YtebjhcjbfaaejaaGreatDoor.tv 9 (.bool false) rfl rfl ⟨c4,c3,c2,r⟩ (.inl ⟨rfl,fun W' _=>by first|(simp[execOp,Act.eval,go_sem,b'];done)|(simp[execOp,Act.eval,Result.andThen,go_sem];omega)⟩) ?_;simp only[nrm];refine tks [10,11,12,13,14] ?_
      iterate 5 (refine tk rfl rfl ⟨c4,c3,c2,r⟩ rfl (fun _ s=>by(obtain⟨T,U,q2,q3⟩:=s;go_simp)<;>with_reducible rfl) ?_;simp only[nrm])
      refine tke ?_;refine _root_.Go.Proofs.YtebjhcjbfaaejaaGreatDoor.tv 15 (.bool true) rfl rfl ⟨c4,c3,c2,r⟩ (.inl ⟨rfl,fun W' _=>by simp[execOp,Act.eval,Result.andThen,go_sem,Go.Proofs.Tryz.underlying67]⟩) ?_;simp only[nrm];refine tks [16,17,18,19,20,21,22,23] ?_
      iterate 8 (refine tk rfl rfl ⟨c4,c3,c2,r⟩ rfl (fun _ s=>by(obtain⟨T,U,q2,q3⟩:=s;go_simp)<;>with_reducible rfl) ?_;simp only[nrm])
      refine tke ?_;refine vJ (j:=24) (some 49) rfl rfl (by kernel_rfl) rfl fun K hK=>?_;refine jA (l:=[.tmp 44,.tmp 48]) rfl [.slice Ak x.key.length ck,.slice (some ta) tm tc] rfl (lW _) ((gM e3.o h4.o).mono ?_);rintro e w7 ⟨rfl,rfl⟩;refine⟨_,rfl,hK _ _ (fun _=>⟨c4,c3,c2,r⟩) ?_⟩;simp only[nrm];clear hK;refine _root_.Go.Proofs.YtebjhcjbfaaejaaGreatDoor.tv 25 (.bool (!decide (klt x.key b))) rfl rfl ⟨c4,c3,c2,r⟩ (.inl ⟨rfl,fun W' _=>by rw[<- aDr];simp[execOp,Act.eval,go_sem]⟩) ?_;simp only[nrm];refine tks [26,27] ?_
      iterate 2 (refine tk rfl rfl ⟨c4,c3,c2,r⟩ rfl (fun _ s=>by(obtain⟨T,U,q2,q3⟩:=s;go_simp)<;>with_reducible rfl) ?_;simp only[nrm])
      refine tke ?_;refine sp 28 rfl rfl rfl fun K hK=>?_;refine nA (v:=?aq5_28) ?yq5_28 (hK _ _ (fun _=>⟨c4,c3,c2,r⟩) ?_)
      case yq5_28=>go_simp<;>with_reducible rfl
      simp only[nrm];refine wd ?_ _;clear c4 c3 c2 r;have WG:Hid (WFr bc bw ov w (.slice Ao d.length co) M.drew):=lh (WFr.pre V.o G6.o)
      by_cases hp:klt x.key b
      ·rw[xP hp]
       have Z:Hid (¬ (d.length=most∨iN (some b) (x.key,x.v).1=true)):=lh (by
        rintro(h|h)
        ·exact Y.o h
        ·unfold iN at h;simp[hp]at h)
       have h5:=lh hp;clear hp WG;generalize M.drew=S at *;have a7:=W6.o.hz;have c4:=W6.o.bwk.at_ (i:=4) rfl;have r:=(B6.o).at_ (i:=0) rfl;have k1:=(B6.o).at_ (i:=1) rfl;have k2:=True.intro;go_upto_region 7 with fail
       have W7:=lh (W6.o.quiet ((Fr.refl [] S).drew));have G7:=lh (G6.o.quiet ((Fr.refl [] S).drew));have B7:=lh (B6.o.fr ((Fr.refl [] S).drew));refine lA (fun W=>W.cell? ⟨bw,4,none⟩=some (.slice Ao d.length co)/\W.cell? ⟨p6,0,none⟩=some (.slice Ak x.key.length ck)/\W.cell? ⟨p6,1,none⟩=some (.slice Aw x.v.length cw)) [0,1,2,3,4,5,6,7,9,10,11,13,17] (by kernel_rfl) ?_;refine tks [0,1,2,3,4,5,6,7,9,10,11] ?_
       iterate 11 (refine tk rfl rfl ⟨c4,r,k1⟩ rfl (fun _ s=>by(obtain⟨T,U,q2⟩:=s;go_simp)<;>with_reducible rfl) ?_;simp only[nrm])
       refine tke ?_;refine sp 8 rfl rfl rfl fun K hK=>?_;refine jA (l:=[.tmp 60]) rfl [.slice Ak x.key.length ck] rfl (gP _) ((tG (e3.o.fr ((Fr.refl [] S).drew)) (by have:=b9.o.k2;omega)).mono ?_);rintro e w8 ⟨v8,rfl,⟨g8,a0,b0⟩,y⟩;refine⟨_,rfl,hK _ _ (fun _=>⟨aA y c4,aA y r,aA y k1⟩) ?_⟩;simp only[nrm];clear hK;refine sp 12 rfl rfl rfl fun K hK=>?_;refine jA (l:=[.tmp 64]) rfl [.slice Aw x.v.length cw] rfl (gP _) ((tG (f9.o.fr (((Fr.refl [] S).drew).trans y)) (by have:=b9.o.v;omega)).mono ?_);rintro e w9 ⟨v9,rfl,⟨g9,a1,e'⟩,a2⟩;have f:Fr [] S.drew w9:=y.trans a2;refine⟨_,rfl,hK _ _ (fun _=>⟨aA f c4,aA f r,aA f k1⟩) ?_⟩;simp only[nrm];clear hK;obtain⟨A8,c8,_,rfl,_,_⟩:=id a0;obtain⟨A9,c9,_,rfl,_,_⟩:=id a1;refine _root_.Go.Proofs.YtebjhcjbfaaejaaGreatDoor.tv 13 (.agg #[.slice A8 x.key.length c8,.slice A9 x.v.length c9]) rfl rfl ⟨aA f c4,aA f r,aA f k1⟩ (.inl ⟨rfl,fun W s=>by go_simp⟩) ?_;simp only[nrm];obtain⟨wx,E⟩:=nm (w9.alloc (.cells ([.slice A8 x.key.length c8,.slice A9 x.v.length c9]:List Value).toArray 100));have J:Fr [] w9 wx:=by rw[E];exact(Fr.refl [] _).alloc _
       have a8:Blk wx w9.heap.size 100 [.slice A8 x.key.length c8,.slice A9 x.v.length c9]:=by rw[E];exact Blk.new w9 _ [.slice A8 x.key.length c8,.slice A9 x.v.length c9]
       have k:Fr [] S.drew wx:=f.trans J;obtain⟨te,b1,b2,b3,f0⟩:=mE aMg;refine sp 14 rfl rfl rfl fun K hK=>?_;refine dD (.tmp 66) rfl Go.Proofs.Tryz.underlying96 b1 b2 [.slice A8 x.key.length c8,.slice A9 x.v.length c9] rfl b3 rfl (by simp) (by simp) (hK _ _ (fun _=>by rw[<- E];exact⟨aA k c4,aA k r,aA k k1⟩) ?_);simp only[nrm];rw[<- E];clear hK E;have W8:=lh (W7.o.quiet k);obtain⟨f2,P,F⟩:=W8.o.row;have a9:Hid (aNs (Dv D (.slice Ao d.length co)) wx (x.key,x.v) (.slice A8 x.key.length c8) (.slice A9 x.v.length c9)):=lh ⟨⟨g8,(a0.fr a2).fr J,W7.o.topv _ b0⟩,⟨g9,a1.fr J,W7.o.topv _ (by have:=y.size;omega)⟩⟩;have C:=lh F;have N:=W8.o.bwk;have O:=B7.o.fr k;refine sp 15 rfl rfl rfl fun K hK=>?_;refine tI (.tmp 57) (.tmp 67) rfl 100 2 48 Go.Proofs.Tryz.underlying96 b1 b2 b3 f0 rfl (by omega) Ao d.length co f2 rfl (wC P (fun _ _=>rB _)) (some ⟨w9.heap.size,0,none⟩) 1 1 [.slice A8 x.key.length c8,.slice A9 x.v.length c9] rfl rfl (fun _=>⟨_,rfl,fun j u hu=>by rw[Go.Addr.add_mid,cC];exact a8.at_ hu⟩) (by intro u hu;simp at hu;rcases hu with rfl|rfl<;>rfl) (by have:=X.o;unfold maxLen;omega) (by have:=X.o;omega) wx.heap.size rfl fun A' cap wz Q L b7=>?_;have m:Blk wz bw 145 (aDV bc fv (.slice (some ta) tm tc) (.slice Ao d.length co) most):=N.fr L (fun hm=>(W8.o.own bw (by simpa using hm)).1 rfl);have p:=O.fr L (fun hm=>d1.o (by simpa using hm));refine hK _ _ (fun _=>⟨m.at_ (i:=4) rfl,p.at_ (i:=0) rfl,p.at_ (i:=1) rfl⟩) ?_;simp only[nrm];clear hK;obtain⟨b4,b5⟩:=W8.o.push (e:=(x.key,x.v)) C.o a9.o L Q b7;have e6:=m.at_ (i:=4) rfl;have e7:=m.free 4;have e8:=m.lt;refine sp 16 rfl rfl rfl fun K hK=>?_;refine nA (v:=.pointer (some ⟨bw,0,none⟩)) (by go_simp) (hK _ _ (fun _=>⟨m.at_ (i:=4) rfl,p.at_ (i:=0) rfl,p.at_ (i:=1) rfl⟩) ?_);simp only[nrm];clear hK;refine tks [17] ?_;refine tk rfl rfl ⟨m.at_ (i:=4) rfl,p.at_ (i:=0) rfl,p.at_ (i:=1) rfl⟩ rfl (fun _ s=>by(obtain⟨T,U,q2⟩:=s;go_simp)<;>with_reducible rfl) ?_;simp only[nrm];refine tke ?_;refine xA (j:=18) none rfl rfl (by kernel_rfl) rfl fun K hK=>?_;refine pB (w':=wz.setCell ⟨bw,4,none⟩ (.slice A' (d.length+1) cap)) (by go_simp) (hK _ _ (fun h=>absurd h (by decide +kernel)) ?_);simp only[Act.put];clear hK;refine wd ?_ _;have W9:=lh b4;have G9:=lh ((G7.o.quiet k).trans b5);clear b4 b5 e6 e7 e8 m p Q L b7 N O C a9 P F a8 J k f a0 a1 y a2 b0 e' c4 r k1 k2 W6 W7 W8 G6 G7 B6 B7 a7;generalize wz.setCell ⟨bw,4,none⟩ (.slice A' (d.length+1) cap)=b8 at *
       have HX:Hid (∃(i:Nat) (d:En) (z:Value),i<=n.l.length/\Value.int .i64 ((i0:Int)+1)=.int .i64 (i:Int)/\Wst H wS g bc bn bs bw D c fv (.slice (some ta) tm tc) low (some b) most d z b8/\WFr bc bw ov wb z b8/\goE low (some b) most out (bC n.l)=goE low (some b) most d (bC (n.l.drop i))/\d.length+(n.l.length-i)<=1000000):=lh ⟨i0+1,d++[(x.key,x.v)],_,hi,rfl,W9.o,G9.o,by
        rw[I.o,t.o,iK,eA a4.o,eA Z.o],by have:=X.o;simp only[lB,aAd];omega⟩
       go_wp2_with fail
       go_roundw
       case rel=>exact HX.o
       case measure=>simp[intOf];omega
      ·rw[vN hp];have B:Hid (d.length=most∨iN (some b) (x.key,x.v).1=true):=lh (.inr (by unfold iN;simp[hp]));have h5:=lh hp;clear hp;generalize M.drew=S at *;have HX:=lh (HQ.o (.returned (.bool false)) _ ⟨_,by rw[I.o,t.o,iK,eA a4.o,iA B.o],by rw[I.o,t.o,iK,eA a4.o,iA B.o];exact W6.o,WG.o⟩);go_wp2_with fail;exact HX.o
  ·obtain rfl:i0=n.l.length:=by omega
   have e9:bC (n.l.drop n.l.length)=[]:=by rw[List.drop_length];rfl
   have HX:=lh (HQ.o (.returned (.bool true)) wr ⟨_,by rw[I.o,e9];rfl,by rw[I.o,e9];exact W1.o,WFr.pre V.o G1.o⟩);clear e9;go_wp2_with fail;exact HX.o
end
end
end Go.Proofs.YtebjhcjbfaaejaaGreatDoor
