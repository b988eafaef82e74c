/-
  Joined: Uc Ue Ea Eb Eg Fa Fb Ei Fd Ec Fg Bn
-/
import Derived.Lib.AtoiAll
import Derived.Lib.ItoaMem
import Derived.Laws.RangeString
import Derived.Laws.IdiomStrings
import Derived.Test.YtebjhcjbfaaejaaGreatDoorChecked
import Derived.Lib.SlTrimSet
import Derived.Shelf.Strings.SlTrimAscii
import Derived.Shelf.Strings.Builder1
import Derived.Shelf.Strings.Builder2
import Derived.Shelf.Strings.Trim
import Derived.Shelf.Small.Utf8
import Derived.Shelf.Small.Bits
import Derived.Shelf.Small.Strs
import Derived.Shelf.Small.Wraps
import Derived.Shelf.Strings.BuilderF
import Derived.Shelf.Strings.BuilderK
import Derived.Shelf.Strconv.Itoa0
import Derived.Shelf.Strings.Search1
import Derived.Shelf.Strings.Search2
import Derived.Shelf.Strings.Search3
import Derived.Shelf.Strings.Count
import Derived.Shelf.LaysM
import Derived.Shelf.Strings.Shaped
import Derived.Shelf.Strings.Runes
import Derived.Shelf.Strings.AsciiSet
import Derived.Shelf.Unicode.DecodeSlow
import Derived.Shelf.SortM.Plain
import Derived.Shelf.SortM.SortNone
import Derived.Test.YtebjhcjbfaaejaaGreatDoorProg
import Derived.Lib.OthersKept
import Derived.Deep.CutBlock
import Derived.Test.YtebjhcjbfaaejaaGreatDoorJca19
set_option maxRecDepth 100000
set_option maxHeartbeats 32000000
namespace Go.Proofs.YtebjhcjbfaaejaaGreatDoor
open Go.Proofs.Tryz
variable {q:List UInt8}{α:Type}{B:UInt8}
section
open Go.RowKit
theorem oS{c:UInt8}{l:List UInt8}{k:Nat}(b:B::l=c::q)(h1:k<=q.length)(h:l.length<k):False:=by
 injection b with _ b;subst b;omega
theorem pS{b:UInt8}{l:List UInt8}{k:Nat}(g:k<4)(c:k<=l.length)(h:dP k b=true)(d:∀i,i<k->¬ lL (b::l) i):oJ (b::l)=pI k b l:=by
 have no:∀i,i<k->¬ (i<=l.length/\dP i b=true):=fun i hi h=>d i hi ⟨b,l,rfl,h.1,h.2⟩;rw[oJ];have f:k=0∨k=1∨k=2∨k=3:=by omega
 rcases f with rfl|rfl|rfl|rfl
 ·rw[iA h]
 ·rw[eA (fun e=>no 0 (by omega) ⟨by omega,e⟩),iA ⟨c,h⟩]
 ·rw[eA (fun e=>no 0 (by omega) ⟨by omega,e⟩),eA (no 1 (by omega)),iA ⟨c,h⟩]
 ·rw[eA (fun e=>no 0 (by omega) ⟨by omega,e⟩),eA (no 1 (by omega)),eA (no 2 (by omega)),iA ⟨c,h⟩]
theorem aIu{b:UInt8}{l:List UInt8}(c:∀i,i<4->¬ lL (b::l) i):oJ (b::l)=none:=by
 have no:∀i,i<4->¬ (i<=l.length/\dP i b=true):=fun i hi h=>c i hi ⟨b,l,rfl,h.1,h.2⟩;rw[oJ,eA (fun e=>no 0 (by omega) ⟨by omega,e⟩),eA (no 1 (by omega)),eA (no 2 (by omega)),eA (no 3 (by omega))]
theorem fP{l:List α}{i:Nat}{u:α}(h:l[i]? = some u):l.drop i=u::l.drop (i+1):=by
 obtain⟨hi,rfl⟩:=tD.1 h;exact zM hi
theorem aGQ{r m:Nat}(h:(r+1)*64^(m+1)<=2097152):r<32768/\∀x,x<64->(r*64+x+1)*64^m<=2097152:=by
 have h1:1<=64^m:=Nat.one_le_pow _ _ (by omega);have e:(r+1)*64^(m+1)=((r+1)*64)*64^m:=by rw[Nat.pow_succ,Nat.mul_comm (64^m) 64,Nat.mul_assoc]
 rw[e]at h;refine⟨?_,fun x b=>aF (Nat.mul_le_mul_right _ (by omega)) h⟩;have h2:((r+1)*64)*1<=((r+1)*64)*64^m:=Nat.mul_le_mul_left _ h1;omega
def aLX (W0:World) (h0 kk:Nat) (l:List UInt8) (j:Nat) (v6 v41:Value) (wr:World):Prop:=
 ∃i r:Nat,i+j=kk/\v6=.int .i32 (r:Int)/\v41=.int .i64 (i:Int)/\W0=wr/\nJ h0 (l.take kk)=nJ r ((l.take kk).drop i)/\(r+1)*64^j<=2097152
theorem aNm{w:World}{c n g off:Nat}{b:UInt8}{l:List UInt8}(hn:n=l.length+1)(hc:n<=c)(hm:c<=9223372036854775807)(hv:∀(j:Nat) (u:UInt8),(b::l)[j]? = some u->w.cell? ⟨g,off+j,none⟩=some (.int .u8 (u.toNat:Int))):
  RV 198 #[.slice (some ⟨g,off,none⟩) n c] w (kG (b::l)):=by
 refine gA fun R HQ=>?_
 have a8:Hid (∀W,Fr [] w W->W.cell? ⟨g,off,none⟩=some (.int .u8 (b.toNat:Int))):=lh fun W hW=>by
  have h1:=hv 0 b rfl;rw[aAa]at h1;rw[hW.cell (cF w _ h1) (by simp)];exact h1
 have a':Hid (∀W,Fr [] w W->∀(j:Nat) (u:UInt8),l[j]? = some u->W.cell? ⟨g,off+1+j,none⟩=some (.int .u8 (u.toNat:Int))):=lh fun W hW j u hu=>by
  have h1:=hv (j+1) u (by simpa using hu);rw[show off+(j+1)=off+1+j by omega]at h1;rw[hW.cell (cF w _ h1) (by simp)];exact h1
 have HN:=lh hn;have c1:1<=n:=by omega
 have c2:l.length+1<=n/\n<=l.length+1:=by omega
 clear hv hn
 go_enter func198,ntmps198
 go_wp2_with fail;refine(aEZ _).mono ?_;rintro e w1 ⟨rfl,b9⟩;have b8:=lh b9;clear b9;go_wp2_with fail
 go_loopg [10] 4 (aRw w (b::l))
 case atStart=>exact⟨0,rfl,rfl,b8.o,fun i hi=>absurd hi (by omega)⟩
 case round=>
  obtain⟨k,hk,rfl,hf,b'⟩:=hrel;have P:=lh hf;have G:=lh b';clear hf b' b8
  by_cases c0:k=4
  ·subst c0;rw[show((4:Nat):Int)=4 from rfl];have HM:Hid (kG (b::l)=.tuple #[.int .i32 0,.int .i64 0]):=lh (by unfold kG;rw[aIu G.o]);go_wp2_with fail;exact HQ.o _ _ ⟨by rw[HM.o];rfl,P.o⟩
  ·have h4:k=0∨k=1∨k=2∨k=3:=by omega
   clear c0;rcases h4 with rfl|rfl|rfl|rfl
   ·have c3:¬ n=0:=by omega
    have X:0<=l.length:=by omega
    have S:∀W:World,(Instr.index 299 (.agg tC.toArray) (.int .i64 0)).run prog W=.ok (.agg #[.int .u8 128,.int .u8 0,.int .i32 0]) W:=fun _=>by kernel_rfl
    unfold tC at S⊢;rw[show((0:Nat):Int)=0 from rfl];have a1:bits .and .u8 (b.toNat:Int) 128=((b.toNat &&& 128:Nat):Int):=tP b.toNat 128 b.toNat_lt (by omega);have cb:wr.cell? ⟨g,off,none⟩=some (.int .u8 (b.toNat:Int)):=a8.o wr P.o;have Y:g<wr.heap.size:=cF wr _ cb
    cases d:dP 0 b with
    | false=>
     have a2:(((b.toNat &&& 128:Nat):Int)!=0)=true:=by
      have f:(b.toNat &&& 128==0)=false:=d;rw[aJ];intro e;have O:b.toNat &&& 128=0:=by omega
      rw[O]at f
      cases f
     have q:Hid (∀i,i<0+1->¬ lL (b::l) i):=lh fun i hi Q=>by
      by_cases m:i=0
      ·subst m;obtain⟨a5,l',C,h1,h2⟩:=Q;injection C with a4 b7;subst a4;rw[d]at h2;cases h2
      ·exact G.o i (by omega) Q
     clear d;go_wp2_with fail
     go_quiet (fail)
     go_wp2_with fail
     go_roundg (3-0)
     case measure=>omega
     case rel=>exact⟨0+1,by omega,by go_num,(P.o.alloc _).drewN _,q.o⟩
    | true=>
     have a2:(((b.toNat &&& 128:Nat):Int)!=0)=false:=by
      have f:(b.toNat &&& 128==0)=true:=d;have O:b.toNat &&& 128=0:=by simpa using f
      rw[O];rfl
     have a3:bits .andNot .u8 (b.toNat:Int) 128=((eG 0 b:Nat):Int):=mV 0 (by omega) b d;have C:=nS 0 (by omega) b d;have y:Hid (oJ (b::l)=pI 0 b l):=lh (pS (by omega) X d G.o)
     have H:(eG 0 b+1)*64^0<=2097152:=by
      obtain⟨q0,L,q2,q3⟩:=C
      show(eG 0 b+1)*1<=2097152
      omega
     have I:=lh H;have hh:eG 0 b<128:=C.1;clear d C H;obtain⟨h0,B⟩:∃h0,eG 0 b=h0:=⟨_,rfl⟩;rw[B]at a3 hh I;have z:=lh B;clear B
     by_cases b6:c=1
     case' pos=>
      skip
     case' neg=>
      skip
     all_goals
      go_wp2_with fail
      go_quiet (fail)
      generalize nq=L at *;go_wp2_with fail
      go_quiet (fail)
      have b5:=P.o.size;go_wp2_with fail;have t:Hid (Fr [] w ((wr.alloc (.cells #[.int .u8 128,.int .u8 0,.int .i32 0] 298)).drewN (L+nq))):=lh ((P.o.alloc _).drewN _);have Z:((wr.alloc (.cells #[.int .u8 128,.int .u8 0,.int .i32 0] 298)).drewN (L+nq)).cell? ⟨wr.heap.size,2,none⟩=some (.int .i32 0):=((Blk.new wr 298 [.int .u8 128,.int .u8 0,.int .i32 0]).drewN (L+nq)).at_ (i:=2) rfl;generalize hW5:(wr.alloc (.cells #[.int .u8 128,.int .u8 0,.int .i32 0] 298)).drewN (L+nq)=w5 at *;clear hW5;obtain⟨xb,M⟩:=nm (wr.heap.size);rw[<- M]at Z⊢;clear M
      go_loopg [6,41] 0 (aLX w5 h0 0 l)
      case atStart=>exact⟨0,h0,by omega,rfl,by go_num,rfl,rfl,I.o⟩
      case round=>
       obtain⟨i,r,hi,rfl,rfl,rfl,ht,A⟩:=hrel;have HT:=lh ht;clear ht;clear S a1 cb Y a2 a3
       by_cases m:i<0
       ·skip
        exact absurd m (by omega)
       ·obtain rfl:i=0:=by omega
        obtain rfl:gk=0:=by omega
        have D:Hid (nJ h0 (l.take 0)=some r):=lh (by rw[HT.o,wZ (by rw[jC];omega)];rfl);have hr:r<2097152:=by rw[Nat.pow_zero]at A;omega
        rw[show((0:Nat):Int)=0 from rfl];clear m hi A
        by_cases x:(r:Int)<0
        ·skip
         exact absurd x (by omega)
        ·have a0:=lh x;have d1:decide ((r:Int)<0)=false:=by rw[qK];exact x
         go_wp2_with fail;refine(nV _ _).mono ?_;rintro e w6 ⟨rfl,rfl⟩
         cases v:kO (r:Int) with
         | true=>
          have E:Hid (kG (b::l)=.tuple #[.int .i32 (r:Int),.int .i64 (0+1)]):=lh (by unfold kG;rw[y.o];unfold pI;rw[z.o,D.o];simp only;rw[eA (by rw[v];simp only[bQ,aG];exact Int.not_lt.2 a0.o)];rfl);clear v;go_wp2_with fail;exact HQ.o _ _ ⟨by rw[E.o];rfl,t.o⟩
         | false=>
          have E:Hid (kG (b::l)=.tuple #[.int .i32 0,.int .i64 0]):=lh (by unfold kG;rw[y.o];unfold pI;rw[z.o,D.o];simp only;rw[iA (.inr v)]);clear v;go_wp2_with fail;exact HQ.o _ _ ⟨by rw[E.o];rfl,t.o⟩
   ·by_cases a9:n<=1
    ·have t2:(n:Int)<=1:=by omega
     have S:∀W:World,(Instr.index 299 (.agg tC.toArray) (.int .i64 1)).run prog W=.ok (.agg #[.int .u8 224,.int .u8 192,.int .i32 128]) W:=fun _=>by kernel_rfl
     unfold tC at S⊢;rw[show((1:Nat):Int)=1 from rfl]
     have q:Hid (∀i,i<1+1->¬ lL (b::l) i):=lh fun i hi Q=>by
      by_cases m:i=1
      ·subst m;obtain⟨a5,l',C,h1,_⟩:=Q;exact oS C h1 (by omega)
      ·exact G.o i (by omega) Q
     go_wp2_with fail
     go_quiet (fail)
     go_wp2_with fail
     go_roundg (3-1)
     case measure=>omega
     case rel=>exact⟨1+1,by omega,by go_num,(P.o.alloc _).drewN _,q.o⟩
    ·have t1:decide ((n:Int)<=1)=false:=dF (by omega)
     have t2:¬ (n:Int)<=1:=by omega
     have X:1<=l.length:=by omega
     have S:∀W:World,(Instr.index 299 (.agg tC.toArray) (.int .i64 1)).run prog W=.ok (.agg #[.int .u8 224,.int .u8 192,.int .i32 128]) W:=fun _=>by kernel_rfl
     unfold tC at S⊢;rw[show((1:Nat):Int)=1 from rfl];have a1:bits .and .u8 (b.toNat:Int) 224=((b.toNat &&& 224:Nat):Int):=tP b.toNat 224 b.toNat_lt (by omega);have cb:wr.cell? ⟨g,off,none⟩=some (.int .u8 (b.toNat:Int)):=a8.o wr P.o;have Y:g<wr.heap.size:=cF wr _ cb
     cases d:dP 1 b with
     | false=>
      have a2:(((b.toNat &&& 224:Nat):Int)!=192)=true:=by
       have f:(b.toNat &&& 224==192)=false:=d;rw[aJ];intro e;have O:b.toNat &&& 224=192:=by omega
       rw[O]at f
       cases f
      have q:Hid (∀i,i<1+1->¬ lL (b::l) i):=lh fun i hi Q=>by
       by_cases m:i=1
       ·subst m;obtain⟨a5,l',C,h1,h2⟩:=Q;injection C with a4 b7;subst a4;rw[d]at h2;cases h2
       ·exact G.o i (by omega) Q
      clear d;go_wp2_with fail
      go_quiet (fail)
      go_wp2_with fail
      go_roundg (3-1)
      case measure=>omega
      case rel=>exact⟨1+1,by omega,by go_num,(P.o.alloc _).drewN _,q.o⟩
     | true=>
      have a2:(((b.toNat &&& 224:Nat):Int)!=192)=false:=by
       have f:(b.toNat &&& 224==192)=true:=d;have O:b.toNat &&& 224=192:=by simpa using f
       rw[O];rfl
      have a3:bits .andNot .u8 (b.toNat:Int) 224=((eG 1 b:Nat):Int):=mV 1 (by omega) b d;have C:=nS 1 (by omega) b d;have y:Hid (oJ (b::l)=pI 1 b l):=lh (pS (by omega) X d G.o)
      have H:(eG 1 b+1)*64^1<=2097152:=by
       obtain⟨q0,L,q2,q3⟩:=C
       show(eG 1 b+1)*64<=2097152
       omega
      have I:=lh H;have hh:eG 1 b<128:=C.1;clear d C H;obtain⟨h0,B⟩:∃h0,eG 1 b=h0:=⟨_,rfl⟩;rw[B]at a3 hh I;have z:=lh B;clear B;have b6:¬ c=1:=by omega
      go_wp2_with fail
      go_quiet (fail)
      generalize nq=L at *;go_wp2_with fail
      go_quiet (fail)
      have b5:=P.o.size;go_wp2_with fail;have t:Hid (Fr [] w ((wr.alloc (.cells #[.int .u8 224,.int .u8 192,.int .i32 128] 298)).drewN (L+nq))):=lh ((P.o.alloc _).drewN _);have Z:((wr.alloc (.cells #[.int .u8 224,.int .u8 192,.int .i32 128] 298)).drewN (L+nq)).cell? ⟨wr.heap.size,2,none⟩=some (.int .i32 128):=((Blk.new wr 298 [.int .u8 224,.int .u8 192,.int .i32 128]).drewN (L+nq)).at_ (i:=2) rfl;generalize hW5:(wr.alloc (.cells #[.int .u8 224,.int .u8 192,.int .i32 128] 298)).drewN (L+nq)=w5 at *;clear hW5;obtain⟨xb,M⟩:=nm (wr.heap.size);rw[<- M]at Z⊢;clear M
      go_loopg [6,41] 1 (aLX w5 h0 1 l)
      case atStart=>exact⟨0,h0,by omega,rfl,by go_num,rfl,rfl,I.o⟩
      case round=>
       obtain⟨i,r,hi,rfl,rfl,rfl,ht,A⟩:=hrel;have HT:=lh ht;clear ht;clear S a1 cb Y a2 a3
       by_cases m:i<1
       ·skip
        obtain⟨N,rfl⟩:∃N,gk=N+1:=⟨gk-1,by omega⟩;obtain⟨u,hu⟩:∃u,l[i]? = some u:=gx (by omega);have T:Hid ((l.take 1).drop i=u::(l.take 1).drop (i+1)):=lh (fP (by rw[xG,iA m];exact hu));have cu:=a'.o w5 t.o i u hu;obtain⟨hr,V⟩:=aGQ A;have a6:=lh V;have b1:bits .and .u8 (u.toNat:Int) 192=((u.toNat &&& 192:Nat):Int):=tP u.toNat 192 u.toNat_lt (by omega);obtain⟨F,p⟩:∃F,F=u.toNat%64:=⟨_,rfl⟩;have b2:bits .and .u8 (u.toNat:Int) 63=(F:Int):=by rw[p,<- aKG];exact tP u.toNat 63 u.toNat_lt (by omega)
        have U:F<64:=by rw[p];exact Nat.mod_lt _ (by omega)
        have a7:=lh p;have b3:=aKH r F (by omega) U;have d0:decide ((i:Int)<1)=true:=dT (by omega)
        clear hu V A p
        cases h:aIt u with
        | true=>
         have b4:(((u.toNat &&& 192:Nat):Int)!=128)=false:=by
          rw[tQ]at h;have e:u.toNat &&& 192=128:=by simpa using h
          rw[e];rfl
         have J:Hid (nJ h0 (l.take 1)=nJ (r*64+F) ((l.take 1).drop (i+1))):=lh (by rw[HT.o,T.o,nJ,iA h,a7.o]);clear h;go_wp2_with fail
         go_roundg N
         case measure=>omega
         case rel=>exact⟨i+1,r*64+F,by omega,by go_num,by go_num,rfl,J.o,a6.o F U⟩
        | false=>
         have b4:(((u.toNat &&& 192:Nat):Int)!=128)=true:=by
          rw[tQ]at h;rw[aJ];intro e;have O:u.toNat &&& 192=128:=by omega
          rw[O]at h
          cases h
         have J:Hid (nJ h0 (l.take 1)=none):=lh (by rw[HT.o,T.o,nJ,eA (by rw[h];simp)]);have E:Hid (kG (b::l)=.tuple #[.int .i32 0,.int .i64 0]):=lh (by unfold kG;rw[y.o];unfold pI;rw[z.o,J.o]);clear h;go_wp2_with fail;exact HQ.o _ _ ⟨by rw[E.o];rfl,t.o⟩
       ·obtain rfl:i=1:=by omega
        obtain rfl:gk=0:=by omega
        have D:Hid (nJ h0 (l.take 1)=some r):=lh (by rw[HT.o,wZ (by rw[jC];omega)];rfl);have hr:r<2097152:=by rw[Nat.pow_zero]at A;omega
        rw[show((1:Nat):Int)=1 from rfl];clear m hi A
        by_cases x:(r:Int)<128
        ·skip
         have d1:decide ((r:Int)<128)=true:=by rw[yI];exact x
         have E:Hid (kG (b::l)=.tuple #[.int .i32 0,.int .i64 0]):=lh (by unfold kG;rw[y.o];unfold pI;rw[z.o,D.o];simp only;rw[iA (.inl x)]);go_wp2_with fail;exact HQ.o _ _ ⟨by rw[E.o];rfl,t.o⟩
        ·have a0:=lh x;have d1:decide ((r:Int)<128)=false:=by rw[qK];exact x
         go_wp2_with fail;refine(nV _ _).mono ?_;rintro e w6 ⟨rfl,rfl⟩
         cases v:kO (r:Int) with
         | true=>
          have E:Hid (kG (b::l)=.tuple #[.int .i32 (r:Int),.int .i64 (1+1)]):=lh (by unfold kG;rw[y.o];unfold pI;rw[z.o,D.o];simp only;rw[eA (by rw[v];simp only[bQ,aG];exact Int.not_lt.2 a0.o)];rfl);clear v;go_wp2_with fail;exact HQ.o _ _ ⟨by rw[E.o];rfl,t.o⟩
         | false=>
          have E:Hid (kG (b::l)=.tuple #[.int .i32 0,.int .i64 0]):=lh (by unfold kG;rw[y.o];unfold pI;rw[z.o,D.o];simp only;rw[iA (.inr v)]);clear v;go_wp2_with fail;exact HQ.o _ _ ⟨by rw[E.o];rfl,t.o⟩
   ·by_cases a9:n<=2
    ·have t2:(n:Int)<=2:=by omega
     have S:∀W:World,(Instr.index 299 (.agg tC.toArray) (.int .i64 2)).run prog W=.ok (.agg #[.int .u8 240,.int .u8 224,.int .i32 2048]) W:=fun _=>by kernel_rfl
     unfold tC at S⊢;rw[show((2:Nat):Int)=2 from rfl]
     have q:Hid (∀i,i<2+1->¬ lL (b::l) i):=lh fun i hi Q=>by
      by_cases m:i=2
      ·subst m;obtain⟨a5,l',C,h1,_⟩:=Q;exact oS C h1 (by omega)
      ·exact G.o i (by omega) Q
     go_wp2_with fail
     go_quiet (fail)
     go_wp2_with fail
     go_roundg (3-2)
     case measure=>omega
     case rel=>exact⟨2+1,by omega,by go_num,(P.o.alloc _).drewN _,q.o⟩
    ·have t1:decide ((n:Int)<=2)=false:=dF (by omega)
     have t2:¬ (n:Int)<=2:=by omega
     have X:2<=l.length:=by omega
     have S:∀W:World,(Instr.index 299 (.agg tC.toArray) (.int .i64 2)).run prog W=.ok (.agg #[.int .u8 240,.int .u8 224,.int .i32 2048]) W:=fun _=>by kernel_rfl
     unfold tC at S⊢;rw[show((2:Nat):Int)=2 from rfl];have a1:bits .and .u8 (b.toNat:Int) 240=((b.toNat &&& 240:Nat):Int):=tP b.toNat 240 b.toNat_lt (by omega);have cb:wr.cell? ⟨g,off,none⟩=some (.int .u8 (b.toNat:Int)):=a8.o wr P.o;have Y:g<wr.heap.size:=cF wr _ cb
     cases d:dP 2 b with
     | false=>
      have a2:(((b.toNat &&& 240:Nat):Int)!=224)=true:=by
       have f:(b.toNat &&& 240==224)=false:=d;rw[aJ];intro e;have O:b.toNat &&& 240=224:=by omega
       rw[O]at f
       cases f
      have q:Hid (∀i,i<2+1->¬ lL (b::l) i):=lh fun i hi Q=>by
       by_cases m:i=2
       ·subst m;obtain⟨a5,l',C,h1,h2⟩:=Q;injection C with a4 b7;subst a4;rw[d]at h2;cases h2
       ·exact G.o i (by omega) Q
      clear d;go_wp2_with fail
      go_quiet (fail)
      go_wp2_with fail
      go_roundg (3-2)
      case measure=>omega
      case rel=>exact⟨2+1,by omega,by go_num,(P.o.alloc _).drewN _,q.o⟩
     | true=>
      have a2:(((b.toNat &&& 240:Nat):Int)!=224)=false:=by
       have f:(b.toNat &&& 240==224)=true:=d;have O:b.toNat &&& 240=224:=by simpa using f
       rw[O];rfl
      have a3:bits .andNot .u8 (b.toNat:Int) 240=((eG 2 b:Nat):Int):=mV 2 (by omega) b d;have C:=nS 2 (by omega) b d;have y:Hid (oJ (b::l)=pI 2 b l):=lh (pS (by omega) X d G.o)
      have H:(eG 2 b+1)*64^2<=2097152:=by
       obtain⟨q0,L,q2,q3⟩:=C
       show(eG 2 b+1)*4096<=2097152
       omega
      have I:=lh H;have hh:eG 2 b<128:=C.1;clear d C H;obtain⟨h0,B⟩:∃h0,eG 2 b=h0:=⟨_,rfl⟩;rw[B]at a3 hh I;have z:=lh B;clear B;have b6:¬ c=1:=by omega
      go_wp2_with fail
      go_quiet (fail)
      generalize nq=L at *;go_wp2_with fail
      go_quiet (fail)
      have b5:=P.o.size;go_wp2_with fail;have t:Hid (Fr [] w ((wr.alloc (.cells #[.int .u8 240,.int .u8 224,.int .i32 2048] 298)).drewN (L+nq))):=lh ((P.o.alloc _).drewN _);have Z:((wr.alloc (.cells #[.int .u8 240,.int .u8 224,.int .i32 2048] 298)).drewN (L+nq)).cell? ⟨wr.heap.size,2,none⟩=some (.int .i32 2048):=((Blk.new wr 298 [.int .u8 240,.int .u8 224,.int .i32 2048]).drewN (L+nq)).at_ (i:=2) rfl;generalize hW5:(wr.alloc (.cells #[.int .u8 240,.int .u8 224,.int .i32 2048] 298)).drewN (L+nq)=w5 at *;clear hW5;obtain⟨xb,M⟩:=nm (wr.heap.size);rw[<- M]at Z⊢;clear M
      go_loopg [6,41] 2 (aLX w5 h0 2 l)
      case atStart=>exact⟨0,h0,by omega,rfl,by go_num,rfl,rfl,I.o⟩
      case round=>
       obtain⟨i,r,hi,rfl,rfl,rfl,ht,A⟩:=hrel;have HT:=lh ht;clear ht;clear S a1 cb Y a2 a3
       by_cases m:i<2
       ·skip
        obtain⟨N,rfl⟩:∃N,gk=N+1:=⟨gk-1,by omega⟩;obtain⟨u,hu⟩:∃u,l[i]? = some u:=gx (by omega);have T:Hid ((l.take 2).drop i=u::(l.take 2).drop (i+1)):=lh (fP (by rw[xG,iA m];exact hu));have cu:=a'.o w5 t.o i u hu;obtain⟨hr,V⟩:=aGQ A;have a6:=lh V;have b1:bits .and .u8 (u.toNat:Int) 192=((u.toNat &&& 192:Nat):Int):=tP u.toNat 192 u.toNat_lt (by omega);obtain⟨F,p⟩:∃F,F=u.toNat%64:=⟨_,rfl⟩;have b2:bits .and .u8 (u.toNat:Int) 63=(F:Int):=by rw[p,<- aKG];exact tP u.toNat 63 u.toNat_lt (by omega)
        have U:F<64:=by rw[p];exact Nat.mod_lt _ (by omega)
        have a7:=lh p;have b3:=aKH r F (by omega) U;have d0:decide ((i:Int)<2)=true:=dT (by omega)
        clear hu V A p
        cases h:aIt u with
        | true=>
         have b4:(((u.toNat &&& 192:Nat):Int)!=128)=false:=by
          rw[tQ]at h;have e:u.toNat &&& 192=128:=by simpa using h
          rw[e];rfl
         have J:Hid (nJ h0 (l.take 2)=nJ (r*64+F) ((l.take 2).drop (i+1))):=lh (by rw[HT.o,T.o,nJ,iA h,a7.o]);clear h;go_wp2_with fail
         go_roundg N
         case measure=>omega
         case rel=>exact⟨i+1,r*64+F,by omega,by go_num,by go_num,rfl,J.o,a6.o F U⟩
        | false=>
         have b4:(((u.toNat &&& 192:Nat):Int)!=128)=true:=by
          rw[tQ]at h;rw[aJ];intro e;have O:u.toNat &&& 192=128:=by omega
          rw[O]at h
          cases h
         have J:Hid (nJ h0 (l.take 2)=none):=lh (by rw[HT.o,T.o,nJ,eA (by rw[h];simp)]);have E:Hid (kG (b::l)=.tuple #[.int .i32 0,.int .i64 0]):=lh (by unfold kG;rw[y.o];unfold pI;rw[z.o,J.o]);clear h;go_wp2_with fail;exact HQ.o _ _ ⟨by rw[E.o];rfl,t.o⟩
       ·obtain rfl:i=2:=by omega
        obtain rfl:gk=0:=by omega
        have D:Hid (nJ h0 (l.take 2)=some r):=lh (by rw[HT.o,wZ (by rw[jC];omega)];rfl);have hr:r<2097152:=by rw[Nat.pow_zero]at A;omega
        rw[show((2:Nat):Int)=2 from rfl];clear m hi A
        by_cases x:(r:Int)<2048
        ·skip
         have d1:decide ((r:Int)<2048)=true:=by rw[yI];exact x
         have E:Hid (kG (b::l)=.tuple #[.int .i32 0,.int .i64 0]):=lh (by unfold kG;rw[y.o];unfold pI;rw[z.o,D.o];simp only;rw[iA (.inl x)]);go_wp2_with fail;exact HQ.o _ _ ⟨by rw[E.o];rfl,t.o⟩
        ·have a0:=lh x;have d1:decide ((r:Int)<2048)=false:=by rw[qK];exact x
         go_wp2_with fail;refine(nV _ _).mono ?_;rintro e w6 ⟨rfl,rfl⟩
         cases v:kO (r:Int) with
         | true=>
          have E:Hid (kG (b::l)=.tuple #[.int .i32 (r:Int),.int .i64 (2+1)]):=lh (by unfold kG;rw[y.o];unfold pI;rw[z.o,D.o];simp only;rw[eA (by rw[v];simp only[bQ,aG];exact Int.not_lt.2 a0.o)];rfl);clear v;go_wp2_with fail;exact HQ.o _ _ ⟨by rw[E.o];rfl,t.o⟩
         | false=>
          have E:Hid (kG (b::l)=.tuple #[.int .i32 0,.int .i64 0]):=lh (by unfold kG;rw[y.o];unfold pI;rw[z.o,D.o];simp only;rw[iA (.inr v)]);clear v;go_wp2_with fail;exact HQ.o _ _ ⟨by rw[E.o];rfl,t.o⟩
   ·by_cases a9:n<=3
    ·have t2:(n:Int)<=3:=by omega
     have S:∀W:World,(Instr.index 299 (.agg tC.toArray) (.int .i64 3)).run prog W=.ok (.agg #[.int .u8 248,.int .u8 240,.int .i32 65536]) W:=fun _=>by kernel_rfl
     unfold tC at S⊢;rw[show((3:Nat):Int)=3 from rfl]
     have q:Hid (∀i,i<3+1->¬ lL (b::l) i):=lh fun i hi Q=>by
      by_cases m:i=3
      ·subst m;obtain⟨a5,l',C,h1,_⟩:=Q;exact oS C h1 (by omega)
      ·exact G.o i (by omega) Q
     go_wp2_with fail
     go_quiet (fail)
     go_wp2_with fail
     go_roundg (3-3)
     case measure=>omega
     case rel=>exact⟨3+1,by omega,by go_num,(P.o.alloc _).drewN _,q.o⟩
    ·have t1:decide ((n:Int)<=3)=false:=dF (by omega)
     have t2:¬ (n:Int)<=3:=by omega
     have X:3<=l.length:=by omega
     have S:∀W:World,(Instr.index 299 (.agg tC.toArray) (.int .i64 3)).run prog W=.ok (.agg #[.int .u8 248,.int .u8 240,.int .i32 65536]) W:=fun _=>by kernel_rfl
     unfold tC at S⊢;rw[show((3:Nat):Int)=3 from rfl];have a1:bits .and .u8 (b.toNat:Int) 248=((b.toNat &&& 248:Nat):Int):=tP b.toNat 248 b.toNat_lt (by omega);have cb:wr.cell? ⟨g,off,none⟩=some (.int .u8 (b.toNat:Int)):=a8.o wr P.o;have Y:g<wr.heap.size:=cF wr _ cb
     cases d:dP 3 b with
     | false=>
      have a2:(((b.toNat &&& 248:Nat):Int)!=240)=true:=by
       have f:(b.toNat &&& 248==240)=false:=d;rw[aJ];intro e;have O:b.toNat &&& 248=240:=by omega
       rw[O]at f
       cases f
      have q:Hid (∀i,i<3+1->¬ lL (b::l) i):=lh fun i hi Q=>by
       by_cases m:i=3
       ·subst m;obtain⟨a5,l',C,h1,h2⟩:=Q;injection C with a4 b7;subst a4;rw[d]at h2;cases h2
       ·exact G.o i (by omega) Q
      clear d;go_wp2_with fail
      go_quiet (fail)
      go_wp2_with fail
      go_roundg (3-3)
      case measure=>omega
      case rel=>exact⟨3+1,by omega,by go_num,(P.o.alloc _).drewN _,q.o⟩
     | true=>
      have a2:(((b.toNat &&& 248:Nat):Int)!=240)=false:=by
       have f:(b.toNat &&& 248==240)=true:=d;have O:b.toNat &&& 248=240:=by simpa using f
       rw[O];rfl
      have a3:bits .andNot .u8 (b.toNat:Int) 248=((eG 3 b:Nat):Int):=mV 3 (by omega) b d;have C:=nS 3 (by omega) b d;have y:Hid (oJ (b::l)=pI 3 b l):=lh (pS (by omega) X d G.o)
      have H:(eG 3 b+1)*64^3<=2097152:=by
       obtain⟨q0,L,q2,q3⟩:=C
       show(eG 3 b+1)*262144<=2097152
       omega
      have I:=lh H;have hh:eG 3 b<128:=C.1;clear d C H;obtain⟨h0,B⟩:∃h0,eG 3 b=h0:=⟨_,rfl⟩;rw[B]at a3 hh I;have z:=lh B;clear B;have b6:¬ c=1:=by omega
      go_wp2_with fail
      go_quiet (fail)
      generalize nq=L at *;go_wp2_with fail
      go_quiet (fail)
      have b5:=P.o.size;go_wp2_with fail;have t:Hid (Fr [] w ((wr.alloc (.cells #[.int .u8 248,.int .u8 240,.int .i32 65536] 298)).drewN (L+nq))):=lh ((P.o.alloc _).drewN _);have Z:((wr.alloc (.cells #[.int .u8 248,.int .u8 240,.int .i32 65536] 298)).drewN (L+nq)).cell? ⟨wr.heap.size,2,none⟩=some (.int .i32 65536):=((Blk.new wr 298 [.int .u8 248,.int .u8 240,.int .i32 65536]).drewN (L+nq)).at_ (i:=2) rfl;generalize hW5:(wr.alloc (.cells #[.int .u8 248,.int .u8 240,.int .i32 65536] 298)).drewN (L+nq)=w5 at *;clear hW5;obtain⟨xb,M⟩:=nm (wr.heap.size);rw[<- M]at Z⊢;clear M
      go_loopg [6,41] 3 (aLX w5 h0 3 l)
      case atStart=>exact⟨0,h0,by omega,rfl,by go_num,rfl,rfl,I.o⟩
      case round=>
       obtain⟨i,r,hi,rfl,rfl,rfl,ht,A⟩:=hrel;have HT:=lh ht;clear ht;clear S a1 cb Y a2 a3
       by_cases m:i<3
       ·skip
        obtain⟨N,rfl⟩:∃N,gk=N+1:=⟨gk-1,by omega⟩;obtain⟨u,hu⟩:∃u,l[i]? = some u:=gx (by omega);have T:Hid ((l.take 3).drop i=u::(l.take 3).drop (i+1)):=lh (fP (by rw[xG,iA m];exact hu));have cu:=a'.o w5 t.o i u hu;obtain⟨hr,V⟩:=aGQ A;have a6:=lh V;have b1:bits .and .u8 (u.toNat:Int) 192=((u.toNat &&& 192:Nat):Int):=tP u.toNat 192 u.toNat_lt (by omega);obtain⟨F,p⟩:∃F,F=u.toNat%64:=⟨_,rfl⟩;have b2:bits .and .u8 (u.toNat:Int) 63=(F:Int):=by rw[p,<- aKG];exact tP u.toNat 63 u.toNat_lt (by omega)
        have U:F<64:=by rw[p];exact Nat.mod_lt _ (by omega)
        have a7:=lh p;have b3:=aKH r F (by omega) U;have d0:decide ((i:Int)<3)=true:=dT (by omega)
        clear hu V A p
        cases h:aIt u with
        | true=>
         have b4:(((u.toNat &&& 192:Nat):Int)!=128)=false:=by
          rw[tQ]at h;have e:u.toNat &&& 192=128:=by simpa using h
          rw[e];rfl
         have J:Hid (nJ h0 (l.take 3)=nJ (r*64+F) ((l.take 3).drop (i+1))):=lh (by rw[HT.o,T.o,nJ,iA h,a7.o]);clear h;go_wp2_with fail
         go_roundg N
         case measure=>omega
         case rel=>exact⟨i+1,r*64+F,by omega,by go_num,by go_num,rfl,J.o,a6.o F U⟩
        | false=>
         have b4:(((u.toNat &&& 192:Nat):Int)!=128)=true:=by
          rw[tQ]at h;rw[aJ];intro e;have O:u.toNat &&& 192=128:=by omega
          rw[O]at h
          cases h
         have J:Hid (nJ h0 (l.take 3)=none):=lh (by rw[HT.o,T.o,nJ,eA (by rw[h];simp)]);have E:Hid (kG (b::l)=.tuple #[.int .i32 0,.int .i64 0]):=lh (by unfold kG;rw[y.o];unfold pI;rw[z.o,J.o]);clear h;go_wp2_with fail;exact HQ.o _ _ ⟨by rw[E.o];rfl,t.o⟩
       ·obtain rfl:i=3:=by omega
        obtain rfl:gk=0:=by omega
        have D:Hid (nJ h0 (l.take 3)=some r):=lh (by rw[HT.o,wZ (by rw[jC];omega)];rfl);have hr:r<2097152:=by rw[Nat.pow_zero]at A;omega
        rw[show((3:Nat):Int)=3 from rfl];clear m hi A
        by_cases x:(r:Int)<65536
        ·skip
         have d1:decide ((r:Int)<65536)=true:=by rw[yI];exact x
         have E:Hid (kG (b::l)=.tuple #[.int .i32 0,.int .i64 0]):=lh (by unfold kG;rw[y.o];unfold pI;rw[z.o,D.o];simp only;rw[iA (.inl x)]);go_wp2_with fail;exact HQ.o _ _ ⟨by rw[E.o];rfl,t.o⟩
        ·have a0:=lh x;have d1:decide ((r:Int)<65536)=false:=by rw[qK];exact x
         go_wp2_with fail;refine(nV _ _).mono ?_;rintro e w6 ⟨rfl,rfl⟩
         cases v:kO (r:Int) with
         | true=>
          have E:Hid (kG (b::l)=.tuple #[.int .i32 (r:Int),.int .i64 (3+1)]):=lh (by unfold kG;rw[y.o];unfold pI;rw[z.o,D.o];simp only;rw[eA (by rw[v];simp only[bQ,aG];exact Int.not_lt.2 a0.o)];rfl);clear v;go_wp2_with fail;exact HQ.o _ _ ⟨by rw[E.o];rfl,t.o⟩
         | false=>
          have E:Hid (kG (b::l)=.tuple #[.int .i32 0,.int .i64 0]):=lh (by unfold kG;rw[y.o];unfold pI;rw[z.o,D.o];simp only;rw[iA (.inr v)]);clear v;go_wp2_with fail;exact HQ.o _ _ ⟨by rw[E.o];rfl,t.o⟩
theorem aPm{w:World}{A:Option Addr}{n c:Nat}{bs:List UInt8}{g:Nat}(k:cA w (.slice A n c) bs g)(m:c<=9223372036854775807):RV 198 #[.slice A n c] w (kG bs):=by
 obtain⟨o,c',off,b,f,d⟩:=k;injection b with h1 h2 h3;subst h1 h2 h3
 match bs,d with
 | [],_=>exact aPl
 | b0::l,d=>
  obtain⟨rfl,h⟩:=d (by simp);refine aNm (by simp) f m fun j u i=>h j (B8 u) ?_;rw[uG,i];rfl
structure Dcm where
 neg:Bool
 digits:List UInt8
 exp:Int
 deriving DecidableEq
def aKJ (c:UInt8):Bool:=decide (48<=c.toNat/\c.toNat<=57)
def aRT (l:List UInt8):Nat:=l.foldl (fun n c=>min (n*10+(c.toNat-48)) 1000000) 0
def eB (c:UInt8):Bool:=c.toNat==101 || c.toNat==69
def aKK (c:UInt8) (l:List UInt8):Bool:=l.head?==some c
def expD (l:List UInt8):Int×List UInt8×Bool:=
 match l with
 | []=>(0,[],true)
 | c::cs=>
  if eB c then
   let m:=aKK 45 cs
   let r:=if m || aKK 43 cs then cs.drop 1 else cs
   let n:=(aRT (r.takeWhile aKJ):Int)
   (if m then -n else n,r.dropWhile aKJ,!(r.takeWhile aKJ).isEmpty)
  else (0,c::cs,true)
structure Tkn where
 kind:Nat
 s:List UInt8
 n:Dcm
 frm:Nat
 til:Nat
 deriving DecidableEq
def aKL (c:UInt8):Bool:=decide (97<=c.toNat/\c.toNat<=122) || decide (65<=c.toNat/\c.toNat<=90) || c.toNat==95 || decide (127<c.toNat)
def rH (c:UInt8):Bool:=aKL c || aKJ c
def uP:Nat->List UInt8->Bool
 | 0,l=>l.isEmpty
 | n+1,l=>match l with
  | []=>true
  | c::cs=>match oJ (c::cs) with
   | none=>false
   | some (_,k)=>uP n ((c::cs).drop k)
def qS (l:List UInt8):Bool:=uP l.length l
structure QS where
 l:List Tkn
 most:Int
def aPn (neg:Bool) (d:List UInt8):Prop:=d=[]∨16<d.length∨d.all aKJ=false∨(1<d.length/\aKK 48 d=true)∨(neg=true/\d=[48])
instance (neg:Bool) (d:List UInt8):Decidable (aPn neg d):=by unfold aPn;exact inferInstance
section
variable (txt : List UInt8)
end
theorem aPo(s:ByteArray)(i:Nat)(h:i<s.size):s.get! i=s[i]'h:=by
 show s.get! i=_
 simp[ByteArray.get!,getElem!_pos,h]
 rfl
theorem aNn(s:ByteArray)(pos:Nat)(h:pos<s.size)(hb:128<=(s[pos]'h).toNat):
  ∃r k,Utf8.decode s pos=(r,k)/\128<=r/\r<=2097151/\1<=k/\pos+k<=s.size/\∀j (hj:j<s.size),pos<=j->j<pos+k->128<=(s[j]'hj).toNat:=by
 have hlt:=(s[pos]'h).toNat_lt
 have one:∀j (hj:j<s.size),pos<=j->j<pos+1->128<=(s[j]'hj).toNat:=fun j hj h1 h2=>by
  have:j=pos:=by omega
  subst this;exact hb
 have err:∃r k,(Utf8.runeError,1)=(r,k)/\128<=r/\r<=2097151/\1<=k/\pos+k<=s.size/\∀j (hj:j<s.size),pos<=j->j<pos+k->128<=(s[j]'hj).toNat:=⟨_,_,rfl,by decide,by decide,tA _,by omega,one⟩
 have cont:∀k,(decide (pos+k<s.size)&&(s.get! (pos+k)).toNat / 64==2)=true->∃hk:pos+k<s.size,128<=(s[pos+k]'hk).toNat:=fun k hk=>by
  rw[tN,yI,beq_iff_eq]at hk;refine⟨hk.1,?_⟩;have:=hk.2;rw[aPo s _ hk.1]at this;omega
 unfold Utf8.decode;simp only[aPo s _ (show pos+0<s.size by omega)];simp only[aAa];rw[eA (by omega)]
 split
 ·rename_i h2
  rw[tN]at h2;obtain⟨k1,b1⟩:=cont 1 h2.2;have h6:=eq_of_beq h2.1
  split
  ·refine⟨_,_,rfl,by omega,?_,by omega,by omega,fun j hj h3 h4=>?_⟩
   ·have:(s.get! (pos+1)).toNat<256:=(s.get! (pos+1)).toNat_lt;omega
   ·have hj2:j=pos∨j=pos+1:=by omega
    rcases hj2 with rfl|rfl
    ·exact hb
    ·exact b1
  ·exact err
 ·split
  ·rename_i h3
   rw[tN,tN]at h3;obtain⟨k1,b1⟩:=cont 1 h3.1.2;obtain⟨k2,b2⟩:=cont 2 h3.2;have h6:=eq_of_beq h3.1.1
   split
   ·rename_i hv
    rw[tN,yI]at hv;refine⟨_,_,rfl,by omega,?_,by omega,by omega,fun j hj h3 h4=>?_⟩
    ·have:(s.get! (pos+1)).toNat<256:=(s.get! (pos+1)).toNat_lt;have:(s.get! (pos+2)).toNat<256:=(s.get! (pos+2)).toNat_lt;omega
    ·have hj2:j=pos∨j=pos+1∨j=pos+2:=by omega
     rcases hj2 with rfl|rfl|rfl
     ·exact hb
     ·exact b1
     ·exact b2
   ·exact err
  ·split
   ·rename_i h4
    rw[tN,tN,tN]at h4;obtain⟨k1,b1⟩:=cont 1 h4.1.1.2;obtain⟨k2,b2⟩:=cont 2 h4.1.2;obtain⟨k3,b3⟩:=cont 3 h4.2;have h6:=eq_of_beq h4.1.1.1
    split
    ·rename_i hv
     rw[tN,yI]at hv;refine⟨_,_,rfl,by omega,?_,by omega,by omega,fun j hj h3 h4=>?_⟩
     ·omega
     ·have hj2:j=pos∨j=pos+1∨j=pos+2∨j=pos+3:=by omega
      rcases hj2 with rfl|rfl|rfl|rfl
      ·exact hb
      ·exact b1
      ·exact b2
      ·exact b3
    ·exact err
   ·exact err
theorem aPp{c:UInt8}(h:128<=c.toNat):rH c=true:=by
 unfold rH aKL;have:decide (127<c.toNat)=true:=dT (by omega)
 rw[this];simp
theorem sS{p:α->Bool}:∀ {l:List α} {k:Nat},k<=l.length->(∀c∈l.take k,p c=true)->(∀c,l[k]? = some c->p c=false)->l.takeWhile p=l.take k/\l.dropWhile p=l.drop k
 | [],k,_,_,_=>by simp
 | c::l,0,_,_,h=>by
  have:=h c rfl
  simp[this]
 | c::l,k+1,hk,h1,h2=>by
  have d:=h1 c (by simp);obtain⟨f,g⟩:=sS (l:=l) (k:=k) (by simpa using hk) (fun x b=>h1 x (by simp[b])) (fun x b=>h2 x (by simpa using b))
  simp[d,f,g]
theorem aGR(w:World)(s:ByteArray)(o:s.size<=140737488351232):∃C w',(convert 9 67 (.string s)).run prog w=.ok (.slice (some ⟨w.heap.size,0,none⟩) s.size C) w'/\C<=9223372036854775807/\cA w' (.slice (some ⟨w.heap.size,0,none⟩) s.size C) (bA s) w.heap.size/\Fr [] w w':=by
 have d:=run_bytes_of_string (P:=prog) w 9 67 5 s Go.Proofs.Tryz.underlying9 Go.Proofs.Tryz.underlying67 Go.Proofs.Tryz.underlying5;have f:=grownCap_ge w s.size 0 5;have b:=grownCap_le_maxLen w s.size 0 5 (by unfold maxLen;omega);unfold maxLen at b;generalize grownCap w s.size 0 5=C at *;refine⟨C,_,d,b,⟨_,C,0,by rw[zA],by rw[zA];exact f,fun h0=>⟨rfl,fun j u i=>?_⟩⟩,((Fr.refl [] w).drew).alloc _⟩;have k:(w.drew.alloc (.cells (bytesRow s C) 5 ((bytesRow s C).size,(bytesRow s C).size+1))).heap[w.heap.size]? = some (.cells (bytesRow s C) 5 ((bytesRow s C).size,(bytesRow s C).size+1)):=Go.heap_alloc_new w.drew _;rw[cC];simp only[World.cell?,k];rw[uG]at i;obtain⟨x,h,rfl⟩:=Option.map_eq_some_iff.1 i;unfold bA at h;obtain⟨m,g⟩:=tD.1 h;have c:j<s.data.size:=by simpa using m
 simp only[Option.isSome_none,qG,dE];rw[bytesRow,Array.getElem?_append_left (by simpa using c)];simp only[Array.getElem?_map];rw[Array.getElem?_eq_getElem c];have:s.data[j]=x:=by simpa using g
 rw[this];rfl
section
variable {P : Program} {o : Oper} {a : Act} {w : World} {K : Act -> World -> Prop} {Q : Exit -> Act -> World -> Prop}
end
theorem aKM(n:Nat):uP n []=true:=by cases n<;>rfl
theorem aIv{n:Nat}{l:List UInt8}(h:oJ l=none)(b:l≠[]):uP n l=false:=by
 match l,b with
 | c::cs,_=>
  cases n with
  | zero=>rfl
  | succ n=>unfold uP;simp only[h]
theorem aIw{n r k:Nat}{l:List UInt8}(h:oJ l=some (r,k))(b:l.length<=n+1):uP (n+1) l=uP n (l.drop k):=by
 match l with
 | []=>simp[oJ]at h
 | c::cs=>rw[uP];simp only[h]
def CkRel (w:World) (bs:List UInt8) (v3:Value) (wr:World):Prop:=∃k m:Nat,k<=bs.length/\v3=.int .i64 (k:Int)/\Fr [] w wr/\qS bs=uP m (bs.drop k)/\bs.length<=m+k
theorem sX{w:World}{A:Option Addr}{n c g:Nat}{bs:List UInt8}(J:cA w (.slice A n c) bs g)(Y:c<=9223372036854775807):Calls prog 177 #[.slice A n c] w fun e w'=>∃x:Int,e=.returned (.int .i64 x)/\decide (x<0)=qS bs/\Fr [] w w':=by
 refine gA fun R N=>?_;obtain⟨L,G⟩:=J.len;have O:=lh J;have d:=lh L;clear J L
 go_enter func177,ntmps177
 go_wp2_with fail
 go_loopw [3] (fun v wr=>CkRel w bs v wr) (fun v _=>n-(intOf v).toNat)
 case atStart=>exact⟨0,bs.length,by omega,rfl,Fr.refl _ _,rfl,by omega⟩
 case round=>
  obtain⟨k,E,H,rfl,M,f,I⟩:=hrel;rw[<- d.o]at H I;have z:=lh M;have h:=lh f;clear M f
  by_cases W:k<n
  ·have i:=(O.o.fr z.o).from_ k (by rw[<- d.o];exact H);rw[<- d.o]at i;have j:=aH (P:=prog) (t:=67) Go.Proofs.Tryz.underlying67 (by kernel_rfl) A n c k .i64 H;generalize (if c=k then A else A.map (·.add k))=sa at *;have B:=lh i;have C:=j wr;clear i j;go_wp2_with fail;refine(aPm B.o (by omega)).mono ?_;rintro e w1 ⟨rfl,q⟩;have p:=lh (z.o.trans q);clear q C;unfold kG
   cases b:oJ (bs.drop k) with
   | none=>
    have Q:Hid (qS bs=false):=lh (by rw[h.o];exact aIv b (by intro e;have:=congrArg List.length e;rw[mC,<- d.o]at this;simp at this;omega));clear b;go_wp2_with fail;exact N.o _ _ ⟨_,rfl,by rw[Q.o,qK];omega,p.o⟩
   | some y=>
    obtain⟨r,m⟩:=y;have S:=aKI b;obtain⟨u,rfl⟩:∃u,E=u+1:=⟨E-1,by omega⟩;have D:Hid (qS bs=uP u (bs.drop (k+m))):=lh (by rw[h.o,aIw b (by rw[mC,<- d.o];omega),List.drop_drop]);obtain⟨h1,h2,h3,X⟩:=S;rw[mC,<- d.o]at h2;have E:((m:Int)==0)=false:=by simp;omega
    have T:k+m<=n:=by omega
    have U:n<=c:=by rw[d.o];exact G
    have V:Hid (n<=u+(k+m)):=lh (by omega);clear b I;go_wp2_with fail
    go_roundw
    case rel=>exact⟨k+m,u,by rw[<- d.o];omega,by go_num,p.o,D.o,by rw[<- d.o];exact V.o⟩
    case measure=>simp[intOf];omega
  ·have F:Hid (qS bs=true):=lh (by rw[h.o,nP (by rw[<- d.o];omega)];exact aKM _);clear I;go_wp2_with fail;exact N.o _ _ ⟨_,rfl,by rw[F.o];rfl,z.o⟩
theorem aIx:(prog.info? 5).map (fun i=>(i.zero,i.size,i.bytes))=some (some (.int .u8 0),1,1):=by kernel_rfl
theorem aRU(p:UInt8->Bool)(h:∀n:Fin 256,p (UInt8.ofNat n.val)=true)(c:UInt8):p c=true:=by
 have:=h ⟨c.toNat,c.toNat_lt⟩
 simpa using this
end
section
open Go.RowKit Go.Shelf
theorem aFa{s:ByteArray}{i:Nat}{c:UInt8}(h:(bA s)[i]? = some c)(k:IntKind)(W:World):(Instr.index 9 (.string s) (.int k (i:Int))).run prog W=.ok (.int .u8 (c.toNat:Int)) W:=by
 have hi:i<s.size:=by rw[<- zA];exact(tD.1 h).1
 rw[run_index_string W 9 s k (i:Int) Go.Proofs.Tryz.underlying9,dif_pos ⟨by omega,by omega⟩];have h2:=bP s hi;rw[h]at h2;injection h2 with h2;rw[h2]
 rfl
theorem aQI(s:ByteArray):(s.toList==([]:List UInt8))=(bA s).isEmpty:=by
 rw[ByteArray.toList_eq];unfold bA
 cases s.data.toList<;>rfl
end
section
open Go.RowKit
theorem tU{k:Nat}:∀(b:List (List α)),(∀cs∈b,cs.length=k)->∀(i:Nat) (cs:List α),b[i]? = some cs->∀(j:Nat),j<k->b.flatten[k*i+j]? = cs[j]?
 | [],_,i,cs,h,_,_=>by simp at h
 | c::b,hk,0,cs,h,j,hj=>by
  simp only[iR,vI]at h;subst h;have d:=hk c (by simp);rw[bR,Nat.mul_zero,cC,kM (by omega)]
 | c::b,hk,i+1,cs,h,j,hj=>by
  have d:=hk c (by simp);rw[List.getElem?_cons_succ]at h;have:=tU b (fun x f=>hk x (uC _ f)) i cs h j hj;rw[bR,dK (by rw[d,Nat.mul_succ];omega),d,show k*(i+1)+j-k=k*i+j by rw[Nat.mul_succ];omega];exact this
def S8 (l:List UInt8):Value:=.string ⟨l.toArray⟩
end
section
open Go.RowKit Go.Shelf
def aBA (r:Int):Bool:=decide (97<=r/\r<=122) || decide (65<=r/\r<=90) || r==95 || decide (127<r)
theorem aGS(c:UInt8):aBA (c.toNat:Int)=aKL c:=eq_of_beq (aRU (fun c=>aBA (c.toNat:Int)==aKL c) (by decide +kernel) c)
theorem aQJ{r:Int}(h:128<=r):aBA r=true:=by
 unfold aBA;rw[xP (show 127<r by omega)];simp
theorem aDL(r:Int)(w:World):Calls prog 138 #[.int .i32 r] w fun e w'=>e=.returned (.bool (aBA r))/\w=w':=by
 have g:∀b,aBA r=b->Calls prog 138 #[.int .i32 r] w fun e w'=>e=.returned (.bool b)/\w=w':=by
  intro b c;unfold aBA at c
  by_cases h1:97<=r
  ·by_cases h2:r<=122
   ·obtain rfl:b=true:=by rw[<- c,xP (show 97<=r/\r<=122 from⟨h1,h2⟩)];simp
    clear c
    go_enter Go.Proofs.Tryz.func138,Go.Proofs.Tryz.ntmps138
    go_wp2_with fail
    go_ret
    exact⟨rfl,rfl⟩
   ·by_cases h3:127<r
    ·obtain rfl:b=true:=by rw[<- c,xP h3];simp
     have d:¬ r<=90:=by omega
     have f:(r==95)=false:=bF (by omega)
     clear c
     go_enter Go.Proofs.Tryz.func138,Go.Proofs.Tryz.ntmps138
     go_wp2_with fail
     go_ret
     exact⟨rfl,rfl⟩
    ·obtain rfl:b=false:=by rw[<- c,vN h3,vN (show ¬ (97<=r/\r<=122) by omega),vN (show ¬ (65<=r/\r<=90) by omega),show(r==95)=false by rw[eI];omega];rfl
     have d:¬ r<=90:=by omega
     have f:(r==95)=false:=bF (by omega)
     clear c
     go_enter Go.Proofs.Tryz.func138,Go.Proofs.Tryz.ntmps138
     go_wp2_with fail
     go_ret
     exact⟨rfl,rfl⟩
  ·have h3:¬ 127<r:=by omega
   by_cases h2:65<=r
   ·by_cases d:r<=90
    ·obtain rfl:b=true:=by rw[<- c,xP (show 65<=r/\r<=90 from⟨h2,d⟩)];simp
     clear c
     go_enter Go.Proofs.Tryz.func138,Go.Proofs.Tryz.ntmps138
     go_wp2_with fail
     go_ret
     exact⟨rfl,rfl⟩
    ·obtain rfl:b=(r==95):=by rw[<- c,vN h3,vN (show ¬ (97<=r/\r<=122) by omega),vN (show ¬ (65<=r/\r<=90) by omega)];simp
     clear c
     cases f:(r==95)
     ·skip
      go_enter Go.Proofs.Tryz.func138,Go.Proofs.Tryz.ntmps138
      go_wp2_with fail
      go_ret
      exact⟨rfl,rfl⟩
     ·skip
      go_enter Go.Proofs.Tryz.func138,Go.Proofs.Tryz.ntmps138
      go_wp2_with fail
      go_ret
      exact⟨rfl,rfl⟩
   ·obtain rfl:b=false:=by rw[<- c,vN h3,vN (show ¬ (97<=r/\r<=122) by omega),vN (show ¬ (65<=r/\r<=90) by omega),show(r==95)=false by rw[eI];omega];rfl
    have f:(r==95)=false:=bF (by omega)
    clear c
    go_enter Go.Proofs.Tryz.func138,Go.Proofs.Tryz.ntmps138
    go_wp2_with fail
    go_ret
    exact⟨rfl,rfl⟩
 exact g _ rfl
theorem Fr.iterAt{S:List Nat}{a b:World}(h:Fr S a b){k:Nat}(d:a.heap.size<=k)(s:ByteArray)(pos:Nat):Fr S a (b.iterAt k s pos):=
 ⟨h.os,h.tape,h.output,by rw[Lib.iterAt_size];exact h.size,fun i hi c=>(Lib.iterAt_other b k i s pos (by omega)).trans (h.block i hi c)⟩
def NmRel (w:World) (s:ByteArray) (j:Nat) (v4:Value) (wr:World):Prop:=∃pos,v4=.int .i64 (s.size:Int)/\pos<=s.size/\s.size<=pos+j/\wr.heap[w.heap.size]? = some (.stringIter s pos)/\(∀c∈(bA s).take pos,rH c=true)/\Fr [] w wr
theorem aNo(s:ByteArray)(pos:Nat)(h:pos<s.size):∃r k:Nat,Utf8.decode s pos=(r,k)/\1<=k/\pos+k<=s.size/\r<=2097151 /\
  ((aBA (r:Int)=true∨(48<=r/\r<=57))->∀c∈((bA s).drop pos).take k,rH c=true)/\(¬ (aBA (r:Int)=true∨(48<=r/\r<=57))->rH (s[pos]'h)=false):=by
 by_cases q:(s[pos]'h).toNat<128
 ·refine⟨_,_,decode_ascii s pos h q,tA _,by omega,by omega,fun b c g=>?_,fun b=>?_⟩
  ·rw[fP (bP s h)]at g;simp only[List.take_succ_cons,xT,aB]at g;subst g;unfold rH;rw[<- aGS];rcases b with b|b
   ·rw[b];rfl
   ·unfold aKJ;rw[xP b];simp
  ·unfold rH;rw[<- aGS];simp only[not_or]at b;rw[Bool.not_eq_true]at b;rw[b.1];unfold aKJ;rw[vN b.2];rfl
 ·obtain⟨r,k,i,h1,h2,h3,m,o⟩:=aNn s pos h (by omega);refine⟨r,k,i,h3,m,h2,fun _ c g=>?_,fun b=>absurd (.inl (aQJ (by omega))) b⟩;obtain⟨j,d⟩:=List.mem_iff_getElem?.1 g;rw[xG]at d
  split at d
  ·rename_i p
   rw[xJ]at d;have f:pos+j<s.size:=by omega
   rw[bP s f]at d;injection d with d;rw[<- d];exact aPp (o _ f (by omega) (by omega))
  ·cases d
theorem aPq{w:World}(s:ByteArray)(hs:s.size<=1000000):RV 139 #[.string s] w (.tuple #[.int .i64 (((bA s).takeWhile rH).length:Int),.bool (qS ((bA s).takeWhile rH))]):=by
 refine gA fun R HQ=>?_
 go_enter func139,ntmps139
 go_wp2_with fail;have N:(w.iter s 0).heap[w.heap.size]? = some (.stringIter s 0):=World.iter_heap w s 0;have U:Fr [] w (w.iter s 0):=(Fr.refl [] w).alloc _;generalize w.iter s 0=w0 at *;have V:=lh N;have W:=lh U;clear N U
 go_loopg [4,5,6] s.size (fun j v4 _ _ wr=>NmRel w s j v4 wr)
 case atStart=>exact⟨0,rfl,rB _,by omega,V.o,by simp,W.o⟩
 case round=>
  obtain⟨pos,rfl,hp,hj,Y,O,hf⟩:=hrel;have S:=lh Y;have v:=lh O;have HF:=lh hf;clear Y O hf V W
  by_cases M:pos<s.size
  ·obtain⟨r,k,hd,a3,Z,hr,hy,hn⟩:=aNo s pos M
   have u:∀ty,(Instr.next (.pointer (some ⟨w.heap.size,0,none⟩)) true ty).run prog wr=.ok (.tuple #[.bool true,.int .i64 pos,.int .i32 r]) (wr.iterAt w.heap.size s (pos+k)):=fun ty=>by
    have:=Lib.run_next_any_at (P:=prog) wr w.heap.size s pos ty S.o M;rw[hd]at this;exact this
   have y:=lh (Lib.iterAt_heap wr w.heap.size s pos (pos+k) S.o);have z:=lh (HF.o.iterAt (tA _) s (pos+k));have HY:=lh hy;have HN:=lh hn;obtain⟨w2,a0⟩:∃w2,wr.iterAt w.heap.size s (pos+k)=w2:=⟨_,rfl⟩;rw[a0]at u y z;clear hy hn hd a0;obtain⟨lt,a1⟩:∃lt,aBA (r:Int)=lt:=⟨_,rfl⟩
   have A:(aBA (r:Int)=true∨(48<=r/\r<=57))->∀c∈(bA s).take (pos+k),rH c=true:=fun h c J=>by
    rw[List.take_add]at J;rcases pD.1 J with h1|h1
    ·exact v.o c h1
    ·exact HY.o h c h1
   have B:¬ (aBA (r:Int)=true∨(48<=r/\r<=57))->(bA s).takeWhile rH=(bA s).take pos:=fun h=>
    (sS (by rw[zA];exact hp) v.o (fun c J=>by
     rw[bP s M]at J;injection J with J;rw[<- J];exact HN.o h)).1
   have HM:=lh A;have HS:=lh B;have L:=lh a1;clear A B a1;go_wp2_with fail;refine(aDL _ _).mono ?_;rintro e w3 ⟨rfl,rfl⟩;rw[L.o]
   cases lt with
   | true=>
    have T:=lh (HM.o (.inl L.o));clear u;go_wp2_with fail
    go_roundg (s.size-(pos+k))
    case measure=>omega
    case rel=>exact⟨pos+k,rfl,Z,by omega,y.o,T.o,z.o⟩
   | false=>
    by_cases a4:r<48
    ·have D:=lh (HS.o (by rw[L.o];simp;omega));have d1:decide ((r:Int)<48)=true:=dT (by omega)
     have E:=z;clear u;obtain⟨t,b⟩:∃t,s.extract 0 pos=t:=⟨_,rfl⟩;have ht:bA t=(bA s).take pos:=by rw[<- b,kS];simp
     have d:bA t=(bA s).takeWhile rH:=by rw[ht];exact D.o.symm
     have f:t.size=pos:=by rw[rX ht,jC,zA];omega
     obtain⟨C,w3,m,hC,g,p⟩:=aGR w2 t (by omega);rw[d,f]at g;rw[f]at m;have F:=lh (E.o.trans p);have G:=lh g;have H:=lh d;clear ht g p d;go_wp2_with fail;refine(sX G.o (by omega)).mono ?_;rintro e w4 ⟨x,rfl,Q,q⟩;have I:=lh (F.o.trans q);have X:=lh Q;clear q Q m b;go_wp2_with fail;have i:((bA s).takeWhile rH).length=pos:=by rw[<- H.o,zA,f]
     exact HQ.o _ _ ⟨by rw[i,<- X.o];rfl,I.o⟩
    ·have d1:decide ((r:Int)<48)=false:=dF (by omega)
     by_cases a5:57<r
     ·have D:=lh (HS.o (by rw[L.o];simp;omega));have d2:decide (57<(r:Int))=true:=dT (by omega)
      have E:=z;clear u;obtain⟨t,b⟩:∃t,s.extract 0 pos=t:=⟨_,rfl⟩;have ht:bA t=(bA s).take pos:=by rw[<- b,kS];simp
      have d:bA t=(bA s).takeWhile rH:=by rw[ht];exact D.o.symm
      have f:t.size=pos:=by rw[rX ht,jC,zA];omega
      obtain⟨C,w3,m,hC,g,p⟩:=aGR w2 t (by omega);rw[d,f]at g;rw[f]at m;have F:=lh (E.o.trans p);have G:=lh g;have H:=lh d;clear ht g p d;go_wp2_with fail;refine(sX G.o (by omega)).mono ?_;rintro e w4 ⟨x,rfl,Q,q⟩;have I:=lh (F.o.trans q);have X:=lh Q;clear q Q m b;go_wp2_with fail;have i:((bA s).takeWhile rH).length=pos:=by rw[<- H.o,zA,f]
      exact HQ.o _ _ ⟨by rw[i,<- X.o];rfl,I.o⟩
     ·have T:=lh (HM.o (.inr ⟨by omega,by omega⟩));have d2:decide (57<(r:Int))=false:=dF (by omega)
      clear u;go_wp2_with fail
      go_roundg (s.size-(pos+k))
      case measure=>omega
      case rel=>exact⟨pos+k,rfl,Z,by omega,y.o,T.o,z.o⟩
  ·have a2:pos=s.size:=by omega
   subst a2;have u:∀ty,(Instr.next (.pointer (some ⟨w.heap.size,0,none⟩)) true ty).run prog wr=.ok (.tuple #[.bool false]) wr:=fun ty=>Lib.run_next_end_at wr w.heap.size s s.size ty S.o M
   have D:Hid ((bA s).takeWhile rH=(bA s).take s.size):=lh
    (sS (by rw[zA];exact tA _) v.o (fun c J=>by
     rw[fR (by rw[zA];exact tA _)]at J;cases J)).1
   have E:=HF;obtain⟨t,b⟩:∃t,s.extract 0 s.size=t:=⟨_,rfl⟩;have ht:bA t=(bA s).take s.size:=by rw[<- b,kS];simp
   have d:bA t=(bA s).takeWhile rH:=by rw[ht];exact D.o.symm
   have f:t.size=s.size:=by rw[rX ht,jC,zA];omega
   obtain⟨C,w3,m,hC,g,p⟩:=aGR wr t (by omega);rw[d,f]at g;rw[f]at m;have F:=lh (E.o.trans p);have G:=lh g;have H:=lh d;clear ht g p d;go_wp2_with fail;refine(sX G.o (by omega)).mono ?_;rintro e w4 ⟨x,rfl,Q,q⟩;have I:=lh (F.o.trans q);have X:=lh Q;clear q Q m b;go_wp2_with fail;have i:((bA s).takeWhile rH).length=s.size:=by rw[<- H.o,zA,f]
   exact HQ.o _ _ ⟨by rw[i,<- X.o];rfl,I.o⟩
theorem cA.get{w:World}{A:Option Addr}{n c g:Nat}{bs:List UInt8}(k:cA w (.slice A n c) bs g):(0<bs.length->∃off,A=some ⟨g,off,none⟩/\∀(i:Nat) (b:UInt8),bs[i]? = some b->w.cell? ⟨g,off+i,none⟩=some (.int .u8 (b.toNat:Int))):=by
 intro h0;obtain⟨m,c',off,d,f,h⟩:=k;injection d with j o p;subst j;obtain⟨h1,h2⟩:=h h0;exact⟨off,h1,fun i b hi=>h2 i (B8 b) (by rw[uG,hi];rfl)⟩
def nameF:Nat->List UInt8->Option Nat
 | 0,_=>some 0
 | n+1,l=>match l with
  | []=>some 0
  | c::cs=>if rH c=true then match oJ (c::cs) with
    | none=>none
    | some (_,k)=>(nameF n ((c::cs).drop k)).map (· + k)
   else some 0
def aNp (s:List UInt8):Bool:=match s with | []=>false|c::_=>aKL c&&qS (s.takeWhile rH)&&decide ((s.takeWhile rH).length=s.length)
def nmB (s:List UInt8):Bool:=decide (s.length<=32)&&aNp s
def idB (n:Int):Bool:=decide (0<=n/\n<4294967296)
theorem mL{n:Int}:idB n=true↔0<=n/\n<4294967296:=by unfold idB;rw[yI]
def NoZ (s:List UInt8):Prop:=∀c∈s,c≠0
theorem uF{s:List UInt8}(h:nmB s=true):NoZ s/\s.length<=32:=by
 unfold nmB at h;rw[tN,yI]at h;refine⟨?_,h.1⟩
 cases s with
 | nil=>exact fun c b=>by cases b
 | cons c0 s=>
  have h2:=h.2;unfold aNp at h2;simp only[tN,yI]at h2;intro c b d;have e:(c0::s).takeWhile rH=c0::s:=(List.takeWhile_prefix rH).eq_of_length h2.2;rw[<- e]at b
  have h3:rH c=true:=by
   have:=List.all_takeWhile (p:=rH) (l:=c0::s);exact List.all_eq_true.1 this c b
  rw[d]at h3;exact absurd h3 (by decide)
def be4 (n:Nat):List UInt8:=[UInt8.ofNat (n / 16777216),UInt8.ofNat (n / 65536),UInt8.ofNat (n / 256),UInt8.ofNat n]
def wK (n:Nat):List UInt8:=80::be4 n
def nmK (s:List UInt8):List UInt8:=64::(s++[0,0])
def nB (s:List UInt8) (l:List Nat):List UInt8:=nmK s++l.flatMap wK
theorem sH(s:List UInt8)(l:List Nat):(nB s l).length=s.length+3+5*l.length:=by
 have h:(l.flatMap wK).length=5*l.length:=by
  induction l with
  | nil=>rfl
  | cons a l b=>rw[nH,lB,b,gD];show 5+_=_;omega
 unfold nB nmK;rw[lB,h,gD,lB]
 rfl
def aft:List UInt8->List UInt8
 | []=>[]
 | a::k=>if aft k=[] then (if a=255 then [] else [a+1]) else a::aft k
theorem aPr(m:Nat):aft (List.replicate m 255)=[]:=by
 induction m with
 | zero=>rfl
 | succ m b=>rw[List.replicate_succ];unfold aft;rw[iA b,iA rfl]
theorem aPs{c:UInt8}(b:c≠255)(m:Nat):∀p:List UInt8,aft (p++c::List.replicate m 255)=p++[c+1]
 | []=>by
  show aft (c::List.replicate m 255)=[c+1]
  unfold aft;rw[iA (aPr m),eA b]
 | a::p=>by
  show aft (a::(p++c::List.replicate m 255))=a::(p++[c+1])
  unfold aft;rw[aPs b m p,eA (by simp)]
end
end Go.Proofs.YtebjhcjbfaaejaaGreatDoor
