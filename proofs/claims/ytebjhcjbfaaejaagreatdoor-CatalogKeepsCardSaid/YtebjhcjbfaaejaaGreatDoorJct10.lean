/-
  Joined: Bn Ba Bb Bc Bd Qq Qr Qs
-/
import Derived.Deep.CutBlock
import Derived.Test.YtebjhcjbfaaejaaGreatDoorJct9
set_option maxRecDepth 100000
set_option maxHeartbeats 32000000
open Go.Value renaming int->ii,slice->si,string->sj,pointer->pi,tuple->tl,bool->ij,agg->il
open Go.IntKind renaming i64->ip,u8->ix,wrap->Wi
open Go.Obj renaming cells->iy
open Go.Ending renaming returned->iz
open Or renaming inl->Ii,inr->Ij
open List renaming length->li,replicate->ji,take_succ_cons->oH,take_zero->yI,take_add_one->eJ,mem_filter->cL,pairwise_append->wQ,mem_flatMap->wR,pairwise_map->mV,isPrefixOf_iff_prefix->oV,all_eq_true->pY,any_eq_true->aAV,takeWhile_cons->aDw,prefix_append->aLr,takeWhile_append_of_pos->aQf
open List.Mem renaming head->Hi
open UInt8 renaming ofNat->Ot,toNat_inj->xP,not_lt->aHm,lt_iff_toNat_lt->aLl
namespace Go.Proofs.YtebjhcjbfaaejaaGreatDoor
open Go.Proofs.Tryz
variable {n k i:Nat}{y:Ky}{α:Type}{O:PgM}
section
open Go.RowKit Go.Shelf
theorem aRy{c:UInt8}(h:c.toNat<128):sE 0 c=true/\dG (c.toNat:Int)=true:=by have:=fW (λc=>!decide (c.toNat<128) || (sE 0 c&&dG (c.toNat:Int))) (by decide +kernel) c;simpa[h]using this
theorem aEV{c:UInt8}(h:c.toNat<128)(l:List UInt8):xC (c::l)=some (c.toNat,1):=by
 obtain⟨b,d⟩:=aRy h;unfold xC;dsimp only;rw[iA b];unfold oG;have:oF (wC 0 c) (l.take 0)=some c.toNat:=by simp[oF,wC,bJ]
 rw[this];dsimp only;rw[d,eA (by simp[rL])]
theorem nQ{k:Nat}{b:UInt8}(i:k<4)(h:sE k b=true):(k=0->b.toNat<128)/\(k=1->192<=b.toNat/\b.toNat<224)/\(k=2->224<=b.toNat/\b.toNat<240)/\(k=3->240<=b.toNat/\b.toNat<248):=by
 have:=fW (λb=>(!sE 0 b || decide (b.toNat<128))&&(!sE 1 b || decide (192<=b.toNat/\b.toNat<224))&&(!sE 2 b || decide (224<=b.toNat/\b.toNat<240))&&(!sE 3 b || decide (240<=b.toNat/\b.toNat<248))) (by decide +kernel) b;simp only[tN,Bool.or_eq_true,lT,uG]at this;obtain⟨⟨⟨c,d⟩,f⟩,g⟩:=this;refine⟨λe=>?_,λe=>?_,λe=>?_,λe=>?_⟩<;>subst e;·exact c.resolve_left (by rw[h];simp)
 ·exact d.resolve_left (by rw[h];simp)
 ·exact f.resolve_left (by rw[h];simp)
 exact g.resolve_left (by rw[h];simp)
theorem xS{b:UInt8}(h:aAB b=true):128<=b.toNat/\b.toNat<192:=by have:=fW (λb=>!aAB b || decide (128<=b.toNat/\b.toNat<192)) (by decide +kernel) b;simpa[h]using this
theorem tM{n:Nat}{b:UInt8}(h:n=b.toNat):Ot n=b:=by subst h;simp
theorem gW{l:List UInt8}{r k:Nat}(h:xC l=some (r,k)):jN r=l.take k/\(∀more,xC (l.take k++more)=some (r,k))/\(1<k->128<=r/\∀c∈l.take k,128<=c.toNat)/\(k=1->∃c,l.take k=[c]/\r=c.toNat/\c.toNat<128):=by
 have hK:∀d f g,oG d f g=some (r,k)->k=d+1/\oF (wC d f) (g.take d)=some r/\(rL d:Int)<=r/\dG r=true:=λd f g h=>by
  unfold oG at h;split at h;·cases h
  rename_i i j;split at h;·cases h
  rename_i d;simp only[yG,Prod.mk.injEq]at h;obtain⟨rfl,rfl⟩:=h;refine⟨rfl,j,by omega,?_⟩;cases j:dG i;·exact absurd (Ij j) d
  rfl
 match l with
 | []=>cases h
 | f::g=>
  rw[xC]at h;split at h;·rename_i s;obtain⟨rfl,d,o,p⟩:=hK _ _ _ h;have n:=(nQ (by decide) s).1 rfl;simp only[yI,oF,wC,bJ,Nat.sub_zero,yG]at d;subst d;refine⟨?_,λmore=>aEV n _,λe=>absurd e (by decide),λ_=>⟨f,rfl,rfl,n⟩⟩;unfold jN;rw[iA n];simp
  rename_i s;split at h
  ·rename_i i;obtain⟨rfl,d,o,p⟩:=hK _ _ _ h;have n:=(nQ (by decide) i.2).2.1 rfl;match g,i.1 with
   | c1::g,_=>
    simp only[oH,yI,oF,wC,bJ,rL]at d o;split at d
    ·rename_i j;have y:=xS j;simp only[yG]at d;refine⟨?_,λmore=>?_,λ_=>⟨by omega,λc m=>?_⟩,λe=>absurd e (by decide)⟩
     ·unfold jN;rw[eA (by omega),iA (by omega)];simp only[Nat.reduceAdd,oH,yI];rw[tM (b:=f) (by omega),tM (b:=c1) (by omega)]
     ·simp only[Nat.reduceAdd,oH,yI,lI,nG];rw[xC,eA s,iA ⟨by simp,i.2⟩];unfold oG;simp only[oH,yI,oF,wC,bJ,rL,j,vG,d];rw[eA (by rw[p];simp;omega)]
     simp only[Nat.reduceAdd,oH,yI,bB,kC,dC]at m;rcases m with rfl|rfl<;>omega
    cases d
  rename_i i;split at h
  ·rename_i q;obtain⟨rfl,d,o,p⟩:=hK _ _ _ h;have n:=(nQ (by decide) q.2).2.2.1 rfl;match g,q.1,i with
   | c1::c2::g,_,i=>
    simp only[oH,yI,oF,wC,bJ,rL]at d o;split at d
    ·rename_i j;split at d
     ·rename_i t;have y:=xS j;have z:=xS t;simp only[yG]at d;have v:sE 1 f=false:=by
       cases u:sE 1 f;·rfl
       have:=(nQ (by decide) u).2.1 rfl;omega
      refine⟨?_,λmore=>?_,λ_=>⟨by omega,λc m=>?_⟩,λe=>absurd e (by decide)⟩;·unfold jN;rw[eA (by omega),eA (by omega),iA (by omega)];simp only[Nat.reduceAdd,oH,yI];rw[tM (b:=f) (by omega),tM (b:=c1) (by omega),tM (b:=c2) (by omega)]
      ·simp only[Nat.reduceAdd,oH,yI,lI,nG];rw[xC,eA s,eA (by rw[v];simp),iA ⟨by simp,q.2⟩];unfold oG;simp only[oH,yI,oF,wC,bJ,rL,j,t,vG,d];rw[eA (by rw[p];simp;omega)]
      simp only[Nat.reduceAdd,oH,yI,bB,kC,dC]at m;rcases m with rfl|rfl|rfl<;>omega
     cases d
    cases d
  rename_i q;split at h
  ·rename_i x;obtain⟨rfl,d,o,p⟩:=hK _ _ _ h;have n:=(nQ (by decide) x.2).2.2.2 rfl;match g,x.1,i,q with
   | c1::c2::c3::g,_,i,q=>
    simp only[oH,yI,oF,wC,bJ,rL]at d o;split at d
    ·rename_i j;split at d
     ·rename_i t;split at d
      ·rename_i g;have y:=xS j;have z:=xS t;have n:=xS g;simp only[yG]at d;have v:sE 1 f=false:=by
        cases u:sE 1 f;·rfl
        have:=(nQ (by decide) u).2.1 rfl;omega
       have i:sE 2 f=false:=by
        cases u:sE 2 f;·rfl
        have:=(nQ (by decide) u).2.2.1 rfl;omega
       refine⟨?_,λmore=>?_,λ_=>⟨by omega,λc m=>?_⟩,λe=>absurd e (by decide)⟩;·unfold jN;rw[eA (by omega),eA (by omega),eA (by omega)];simp only[Nat.reduceAdd,oH,yI];rw[tM (b:=f) (by omega),tM (b:=c1) (by omega),tM (b:=c2) (by omega),tM (b:=c3) (by omega)]
       ·simp only[Nat.reduceAdd,oH,yI,lI,nG];rw[xC,eA s,eA (by rw[v];simp),eA (by rw[i];simp),iA ⟨by simp,x.2⟩];unfold oG;simp only[oH,yI,oF,wC,bJ,rL,j,t,g,vG,d];rw[eA (by rw[p];simp;omega)]
       simp only[Nat.reduceAdd,oH,yI,bB,kC,dC]at m;rcases m with rfl|rfl|rfl|rfl<;>omega
      cases d
     cases d
    cases d
  cases h
theorem dA.get{w:World}{A:Option Addr}{n c g:Nat}{bs:List UInt8}(h:dA w (si A n c) bs g):(0<li bs->∃off,A=some ⟨g,off,none⟩/\∀(i:Nat) (b:UInt8),bs[i]? = some b->w.cell? ⟨g,off+i,none⟩=some (ii ix (b.toNat:Int))):=by intro k;obtain⟨l,m,off,d,o,f⟩:=h;injection d with d p q;subst d;obtain⟨d,j⟩:=f k;exact⟨off,d,λi b d=>j i (B8 b) (by rw[sH,d];rfl)⟩
theorem aNQ{w w':World}(h:Fr [] w w'){p:Addr}{v:Value}(b:w.cell? p=some v):w'.cell? p=some v:=by rw[h.cell (xF w _ b) (by simp)];exact b
def bK (b:UInt8):Nat×Nat:=if 240<=b.toNat then (b.toNat%8,4) else if 224<=b.toNat then (b.toNat%16,3) else if 192<=b.toNat then (b.toNat%32,2) else (b.toNat,1)
def dM (r:Nat) (l:List UInt8):Nat:=l.foldl (fun r c=>r*64+c.toNat%64) r
theorem aEW:∀ {cs:List UInt8} {r b:Nat},oF r cs=some b->dM r cs=b
 | [],r,b,h=>by simpa[oF,dM]using h
 | c::cs,r,b,h=>by
  unfold oF at h;split at h;·have:=aEW h;simpa[dM]using this
  cases h
theorem aRz{d:UInt8}{bs:List UInt8}{r k:Nat}(h:xC (d::bs)=some (r,k)):∃j,j<4/\k=j+1/\sE j d=true/\j<=li bs/\oF (wC j d) (bs.take j)=some r/\dG r=true:=by
 have hK:∀j,oG j d bs=some (r,k)->k=j+1/\oF (wC j d) (bs.take j)=some r/\dG r=true:=λj h=>by
  unfold oG at h;split at h;·cases h
  rename_i b c;split at h;·cases h
  rename_i f;simp only[yG,Prod.mk.injEq]at h;obtain⟨rfl,rfl⟩:=h;refine⟨rfl,c,?_⟩;cases c:dG b;·exact absurd (Ij c) f
  rfl
 rw[xC]at h;split at h;·rename_i b;obtain⟨a,c,f⟩:=hK _ h;exact⟨0,by decide,a,b,uB _,c,f⟩
 split at h;·rename_i b;obtain⟨a,c,f⟩:=hK _ h;exact⟨1,by decide,a,b.2,b.1,c,f⟩
 split at h;·rename_i b;obtain⟨a,c,f⟩:=hK _ h;exact⟨2,by decide,a,b.2,b.1,c,f⟩
 split at h;·rename_i b;obtain⟨a,c,f⟩:=hK _ h;exact⟨3,by decide,a,b.2,b.1,c,f⟩
 cases h
theorem aRA{j:Nat}(c:j<4){b:UInt8}(h:sE j b=true):bK b=(wC j b,j+1):=by have:=fW (λb=>(List.range 4).all λj=>!sE j b || decide (bK b=(wC j b,j+1))) (by decide +kernel) b;have:=pY.1 this j (kO.2 c);simpa[h]using this
theorem aIp(b:UInt8):(192<=b.toNat/\b.toNat<224->sE 0 b=false/\sE 1 b=true)/\(224<=b.toNat/\b.toNat<240->sE 0 b=false/\sE 1 b=false/\sE 2 b=true)/\(240<=b.toNat/\b.toNat<248->sE 0 b=false/\sE 1 b=false/\sE 2 b=false/\sE 3 b=true):=by have:=fW (λb=>(!decide (192<=b.toNat/\b.toNat<224) || (!sE 0 b&&sE 1 b))&&(!decide (224<=b.toNat/\b.toNat<240) || (!sE 0 b&&!sE 1 b&&sE 2 b))&&(!decide (240<=b.toNat/\b.toNat<248) || (!sE 0 b&&!sE 1 b&&!sE 2 b&&sE 3 b))) (by decide +kernel) b;simp only[tN,Bool.or_eq_true,lT,eI]at this;obtain⟨⟨a,d⟩,f⟩:=this;exact⟨λc=>a.resolve_left (not_not_intro c),λc=>by have:=d.resolve_left (not_not_intro c);exact⟨this.1.1,this.1.2,this.2⟩,λc=>by have:=f.resolve_left (not_not_intro c);exact⟨this.1.1.1,this.1.1.2,this.1.2,this.2⟩⟩
theorem aI{n:Nat}(h:n<256):(Ot n).toNat=n:=by simp;omega
theorem fX{n:Nat}(h:n<64):aAB (Ot (128+n))=true/\(Ot (128+n)).toNat%64=n:=by have e:=aI (n:=128+n) (by omega);refine⟨?_,by rw[e];omega⟩;unfold aAB;rw[e,uG];omega
theorem aRB{r:Nat}(i:dG (r:Int)=true)(l:List UInt8):xC (jN r++l)=some (r,li (jN r)):=by
 have x:r<=1114111:=by unfold dG at i;rw[uG]at i;omega
 unfold jN;split;·rename_i m;have e:=aI (n:=r) (by omega);have:=aEV (c:=Ot r) (by rw[e];exact m) l;rw[e]at this;exact this
 split
 ·rename_i t m;have e:=aI (n:=192+r / 64) (by omega);obtain⟨d,f⟩:=fX (n:=r%64) (by omega);obtain⟨g,h⟩:=(aIp (Ot (192+r / 64))).1 (by rw[e];omega);generalize Ot (192+r / 64)=j at *;generalize Ot (128+r%64)=k at *;simp only[lI,nG];rw[xC,eA (by rw[g];simp),iA ⟨by simp,h⟩];unfold oG;have b:oF (wC 1 j) ((k::l).take 1)=some r:=by
   simp only[oH,yI,oF,d,vG,f,wC,bJ,e];rw[yG];omega
  rw[b];dsimp only;rw[i,eA (by simp[rL];omega)];rfl
 split
 ·rename_i t u m;have e:=aI (n:=224+r / 4096) (by omega);obtain⟨d,f⟩:=fX (n:=r / 64%64) (by omega);obtain⟨o,p⟩:=fX (n:=r%64) (by omega);obtain⟨g,h,q⟩:=(aIp (Ot (224+r / 4096))).2.1 (by rw[e];omega);generalize Ot (224+r / 4096)=j at *;generalize Ot (128+r / 64%64)=k at *;generalize Ot (128+r%64)=s at *;simp only[lI,nG];rw[xC,eA (by rw[g];simp),eA (by rw[h];simp),iA ⟨by simp,q⟩];unfold oG;have b:oF (wC 2 j) ((k::s::l).take 2)=some r:=by
   simp only[oH,yI,oF,d,o,vG,f,p,wC,bJ,e];rw[yG];omega
  rw[b];dsimp only;rw[i,eA (by simp[rL];omega)];rfl
 rename_i t u m;have e:=aI (n:=240+r / 262144) (by omega);obtain⟨d,f⟩:=fX (n:=r / 4096%64) (by omega);obtain⟨o,p⟩:=fX (n:=r / 64%64) (by omega);obtain⟨m,t⟩:=fX (n:=r%64) (by omega);obtain⟨g,h,q,u⟩:=(aIp (Ot (240+r / 262144))).2.2 (by rw[e];omega);generalize Ot (240+r / 262144)=j at *;generalize Ot (128+r / 4096%64)=k at *;generalize Ot (128+r / 64%64)=s at *;generalize Ot (128+r%64)=v at *;simp only[lI,nG];rw[xC,eA (by rw[g];simp),eA (by rw[h];simp),eA (by rw[q];simp),iA ⟨by simp,u⟩];unfold oG;have b:oF (wC 3 j) ((k::s::v::l).take 3)=some r:=by simp only[oH,yI,oF,d,o,m,vG,f,p,t,wC,bJ,e];rw[yG];omega
 rw[b];dsimp only;rw[i,eA (by simp[rL];omega)];rfl
theorem aRC(b:UInt8)(bs:List UInt8):xC (b::bs) =if li bs+1<(bK b).2 then none
  else if dG (dM (bK b).1 (bs.take ((bK b).2-1)):Nat)=true/\(jN (dM (bK b).1 (bs.take ((bK b).2-1)))).isPrefixOf (b::bs)=true/\li (jN (dM (bK b).1 (bs.take ((bK b).2-1))))=(bK b).2 then some (dM (bK b).1 (bs.take ((bK b).2-1)),(bK b).2) else none:=by
 cases h:xC (b::bs) with
 | some c=>
  obtain⟨g,p⟩:=c;obtain⟨m,f,c,d,i,n,o⟩:=aRz h;obtain⟨j,_⟩:=gW h;have k:(jN g).isPrefixOf (b::bs)=true:=by rw[j,oV];exact List.take_prefix _ _
  have l:li (jN g)=m+1:=by rw[j,c,pB,bD];omega
  rw[aRA f d];dsimp only;rw[Nat.add_sub_cancel,aEW n,eA (by omega),iA ⟨o,k,l⟩,c]
 | none=>
  by_cases f:li bs+1<(bK b).2;·rw[iA f]
  rw[eA f,eA];rintro⟨c,d,i⟩;generalize dM (bK b).1 (bs.take ((bK b).2-1))=g at c d i;rw[oV]at d;obtain⟨f,g⟩:=d;have:=aRB c f;rw[g,h]at this;cases this
theorem aMA{c:UInt8}(h:128<=c.toNat):nC c=true:=by unfold nC sQ;rw[show decide (127<c.toNat)=true by rw[uG];omega];simp
theorem aPr{l:List UInt8}{r k:Nat}(h:xC l=some (r,k))(p:∃c r,l=c::r/\nC c=true):k<=li (l.takeWhile nC)/\xC (l.takeWhile nC)=some (r,k):=by
 obtain⟨j,g,f,m⟩:=gW h;obtain⟨n,o,_⟩:=iN h;have d:(l.take k).all nC=true:=by
  rw[pY];intro c b;by_cases i:1<k;·exact aMA ((f i).2 c b)
  obtain⟨q,s,rfl,i⟩:=p;have f:k=1:=(by omega);subst f;simp at b;subst b;exact i
 have f:l=l.take k++l.drop k:=(bL k l).symm;have b:l.takeWhile nC=l.take k++(l.drop k).takeWhile nC:=by
  conv=>lhs;rw[f]
  rw[aQf (pY.1 d)]
 refine⟨by rw[b,iB,pB];omega,?_⟩;rw[b];exact g _
theorem aPs{w rest:List UInt8}{r k:Nat}(h:xC w=some (r,k)):xC (w++rest)=some (r,k):=by obtain⟨c,b,_⟩:=gW h;have:=b (w.drop k++rest);rwa [<- uF,bL]at this
def eM:Nat->List UInt8->Option Nat
 | 0,_=>some 0
 | n+1,l=>match l with
  | []=>some 0
  | c::cs=>if nC c=true then match xC (c::cs) with
    | none=>none
    | some (_,k)=>(eM n ((c::cs).drop k)).map (· + k)
   else some 0
theorem aIq{n:Nat}{l:List UInt8}(h:xC l=none)(b:l≠[]):iH n l=false:=by
 match l,b with
 | c::cs,_=>
  cases n with
  | zero=>rfl
  | succ n=>unfold iH;simp only[h]
theorem aKd:∀(n:Nat) (l:List UInt8),li l<=n->eM n l=if iH n (l.takeWhile nC)=true then some (li (l.takeWhile nC)) else none
 | 0,l,h=>by have:l=[]:=uO.mp (by omega);subst this;rfl
 | n+1,[],_=>rfl
 | n+1,c::cs,h=>by
  unfold eM;dsimp only;cases f:nC c with
  | false=>rw[eA (by simp),aDw,f];rfl
  | true=>
   rw[iA rfl];have j:(c::cs).takeWhile nC=c::cs.takeWhile nC:=(by rw[aDw,f,iA rfl]);cases g:xC (c::cs) with
   | none=>
    have k:xC ((c::cs).takeWhile nC)=none:=by
     cases b:xC ((c::cs).takeWhile nC) with
     | none=>rfl
     | some i=>obtain⟨m,d⟩:=i;have:=aPs (rest:=(c::cs).dropWhile nC) b;rw[xR,g]at this;cases this
    rw[aIq k (by rw[j];simp)];rfl
   | some i=>
    obtain⟨m,d⟩:=i;obtain⟨k,i⟩:=aPr g ⟨c,cs,rfl,f⟩;obtain⟨m,o,_⟩:=iN g;have g:((c::cs).drop d).takeWhile nC=((c::cs).takeWhile nC).drop d:=by
     have f:(c::cs).takeWhile nC++(c::cs).dropWhile nC=c::cs:=xR;conv=>lhs;rw[<- f]
     rw[List.drop_append_of_le_length k,aQf (λf b=>by have:=pJ b;exact pY.1 (List.all_takeWhile) f this)];have:((c::cs).dropWhile nC).takeWhile nC=[]:=by
      cases k:(c::cs).dropWhile nC with
      | nil=>rfl
      | cons f p=>have:=List.head?_dropWhile_not nC (c::cs);rw[k]at this;have b:nC f=false:=(by simpa using this);rw[aDw,b];rfl
     rw[this,jH]
    have b:=aKd n ((c::cs).drop d) (by rw[vB];simp only[bD]at h⊢;omega);rw[g]at b;have f:iH (n+1) ((c::cs).takeWhile nC)=iH n (((c::cs).takeWhile nC).drop d):=(by rw[j]at i⊢;rw[iH];simp only[i]);rw[f];dsimp only;rw[b];split;·rw[tO,vB];congr 1;omega
    rfl
theorem Z27{P:Prop} (h:P:=by
 go_enter func181,ntmps181
 go_wp2_with fail;exact HQ.o _ _ ⟨by rw[HB.o];rfl,rfl⟩):P:=h
theorem aTk(r:Nat)(w:World):Calls prog 181 #[r] w λe b=>e=iz (ij (dG (r:Int)))/\w=b:=by
 refine cA λk HQ=>?_;have f:decide (0<=(r:Int))=true:=dT;have b:Hid (dG (r:Int)=decide ((0<=(r:Int)/\(r:Int)<55296)∨(57343<(r:Int)/\(r:Int)<=1114111))):=lh rfl;by_cases g:r<55296;·have c:decide ((r:Int)<55296)=true:=dT;have HB:Hid (dG (r:Int)=true):=lh (by rw[b.o,uG];omega);exact Z27
 have c:decide ((r:Int)<55296)=false:=dF;by_cases i:57343<r
 ·have c:decide (57343<(r:Int))=true:=dT;by_cases j:r<=1114111
  ·have d:decide ((r:Int)<=1114111)=true:=dT;have HB:Hid (dG (r:Int)=true):=lh (by rw[b.o,uG];omega);exact Z27
  have d:decide ((r:Int)<=1114111)=false:=dF;have HB:Hid (dG (r:Int)=false):=lh (by rw[b.o,eI];omega);exact Z27
 have c:decide (57343<(r:Int))=false:=dF;have HB:Hid (dG (r:Int)=false):=lh (by rw[b.o,eI];omega);exact Z27
theorem aNR(r:Nat)(T:r<=1114111)(w:World):Calls prog 183 #[ii ip (r:Int)] w λe b=>∃c,e=iz (si (some ⟨w.heap.size,0,none⟩) (li (jN r)) c)/\dA b (si (some ⟨w.heap.size,0,none⟩) (li (jN r)) c) (jN r) w.heap.size/\c<=4/\Fr [] w b:=by
 refine cA λO j=>?_;by_cases l:r<128
 ·have f:Hid (jN r=[Ot r]):=lh (by unfold jN;rw[iA l]);have g:=aI (n:=r) (by omega);generalize Ot r=h at *;have t:IntKind.u8.wrap (r:Int)=(h.toNat:Int):=by rw[jL,g];omega
  have b:decide ((r:Int)<128)=true:=dT;rw[f.o]at j;clear f g l T;go_enter func183,ntmps183;go_wp2_with fail;exact j.o _ _ ⟨1,rfl,.of_blk (jl w 5 (gA [h])) 1 (tA _),by decide,(jj [] w).alloc _⟩
 have b:decide ((r:Int)<128)=false:=dF;by_cases v:r<2048;·have f:Hid (jN r=[Ot (192+r / 64),Ot (128+r%64)]):=lh (by unfold jN;rw[eA l,iA v]);have x:(r:Int).tdiv 64=((r / 64:Nat):Int):=rfl;have y:(r:Int).tmod 64=((r%64:Nat):Int):=rfl;have d:decide ((r:Int)<2048)=true:=dT;have g:=aI (n:=192+r / 64) (by omega);have i:=aI (n:=128+r%64) (by omega);have m:r / 64<64:=(by omega);have p:r%64<64:=(by omega);generalize r / 64=a at *;generalize r%64=b at *;generalize Ot (192+a)=h at *;generalize Ot (128+b)=k at *;have t:IntKind.u8.wrap (192+(a:Int))=(h.toNat:Int):=(by rw[jL,g];omega);have z:Wi ip (192+(a:Int))=192+(a:Int):=ak;have A:Wi ip (a:Int)=(a:Int):=ak;have B:IntKind.u8.wrap (128+(b:Int))=(k.toNat:Int):=(by rw[jL,i];omega);have C:Wi ip (128+(b:Int))=128+(b:Int):=ak;have D:Wi ip (b:Int)=(b:Int):=ak;rw[f.o]at j;clear f g m i p;go_enter func183,ntmps183;go_wp2_with fail;exact j.o _ _ ⟨2,rfl,.of_blk (jl w 5 (gA [h,k])) 2 (tA _),by decide,(jj [] w).alloc _⟩
 have d:decide ((r:Int)<2048)=false:=dF;by_cases E:r<65536;·have f:Hid (jN r=[Ot (224+r / 4096),Ot (128+r / 64%64),Ot (128+r%64)]):=lh (by unfold jN;rw[eA l,eA v,iA E]);have x:(r:Int).tdiv 4096=((r / 4096:Nat):Int):=rfl;have y:(r:Int).tmod 64=((r%64:Nat):Int):=rfl;have F:(r:Int).tdiv 64=((r / 64:Nat):Int):=rfl;have G:((r / 64:Nat):Int).tmod 64=((r / 64%64:Nat):Int):=rfl;have H:Wi ip ((r / 64:Nat):Int)=((r / 64:Nat):Int):=ak;have I:decide ((r:Int)<65536)=true:=dT;have g:=aI (n:=224+r / 4096) (by omega);have i:=aI (n:=128+r / 64%64) (by omega);have q:=aI (n:=128+r%64) (by omega);have m:r / 4096<32:=(by omega);have p:r / 64%64<64:=(by omega);have u:r%64<64:=(by omega);generalize r / 64%64=b at *;generalize r / 64=N at *;generalize r / 4096=a at *;generalize r%64=d at *;generalize Ot (224+a)=h at *;generalize Ot (128+b)=k at *;generalize Ot (128+d)=s at *;have t:IntKind.u8.wrap (224+(a:Int))=(h.toNat:Int):=(by rw[jL,g];omega);have z:Wi ip (224+(a:Int))=224+(a:Int):=ak;have A:Wi ip (a:Int)=(a:Int):=ak;have B:IntKind.u8.wrap (128+(b:Int))=(k.toNat:Int):=(by rw[jL,i];omega);have C:Wi ip (128+(b:Int))=128+(b:Int):=ak;have D:Wi ip (b:Int)=(b:Int):=ak;have J:IntKind.u8.wrap (128+(d:Int))=(s.toNat:Int):=(by rw[jL,q];omega);have L:Wi ip (128+(d:Int))=128+(d:Int):=ak;have M:Wi ip (d:Int)=(d:Int):=ak;rw[f.o]at j;clear f g m i p q u;go_enter func183,ntmps183;go_wp2_with fail;exact j.o _ _ ⟨3,rfl,.of_blk (jl w 5 (gA [h,k,s])) 3 (tA _),by decide,(jj [] w).alloc _⟩
 have f:Hid (jN r=[Ot (240+r / 262144),Ot (128+r / 4096%64),Ot (128+r / 64%64),Ot (128+r%64)]):=lh (by unfold jN;rw[eA l,eA v,eA E]);have x:(r:Int).tdiv 262144=((r / 262144:Nat):Int):=rfl;have y:(r:Int).tmod 64=((r%64:Nat):Int):=rfl;have F:(r:Int).tdiv 64=((r / 64:Nat):Int):=rfl;have G:((r / 64:Nat):Int).tmod 64=((r / 64%64:Nat):Int):=rfl;have H:Wi ip ((r / 64:Nat):Int)=((r / 64:Nat):Int):=ak;have E:(r:Int).tdiv 4096=((r / 4096:Nat):Int):=rfl;have F:((r / 4096:Nat):Int).tmod 64=((r / 4096%64:Nat):Int):=rfl;have G:Wi ip ((r / 4096:Nat):Int)=((r / 4096:Nat):Int):=ak;have I:decide ((r:Int)<65536)=false:=dF;have g:=aI (n:=240+r / 262144) (by omega);have i:=aI (n:=128+r / 4096%64) (by omega);have q:=aI (n:=128+r / 64%64) (by omega);have v:=aI (n:=128+r%64) (by omega);have m:r / 262144<16:=(by omega);have p:r / 4096%64<64:=(by omega);have u:r / 64%64<64:=(by omega);have y:r%64<64:=(by omega);generalize r / 4096%64=b at *;generalize r / 4096=H at *;generalize r / 64%64=d at *;generalize r / 64=N at *;generalize r / 262144=a at *;generalize r%64=l at *;generalize Ot (240+a)=h at *;generalize Ot (128+b)=k at *;generalize Ot (128+d)=s at *;generalize Ot (128+l)=x at *;have t:IntKind.u8.wrap (240+(a:Int))=(h.toNat:Int):=(by rw[jL,g];omega);have z:Wi ip (240+(a:Int))=240+(a:Int):=ak;have A:Wi ip (a:Int)=(a:Int):=ak;have B:IntKind.u8.wrap (128+(b:Int))=(k.toNat:Int):=(by rw[jL,i];omega);have C:Wi ip (128+(b:Int))=128+(b:Int):=ak;have D:Wi ip (b:Int)=(b:Int):=ak;have J:IntKind.u8.wrap (128+(d:Int))=(s.toNat:Int):=(by rw[jL,q];omega);have L:Wi ip (128+(d:Int))=128+(d:Int):=ak;have M:Wi ip (d:Int)=(d:Int):=ak;have b:IntKind.u8.wrap (128+(l:Int))=(x.toNat:Int):=(by rw[jL,v];omega);have d:Wi ip (128+(l:Int))=128+(l:Int):=ak;have t:Wi ip (l:Int)=(l:Int):=ak;rw[f.o]at j;clear f g m i p q u v y;go_enter func183,ntmps183;go_wp2_with fail;exact j.o _ _ ⟨4,rfl,.of_blk (jl w 5 (gA [h,k,s,x])) 4 (tA _),by decide,(jj [] w).alloc _⟩
def BgRel (w:World) (bs cs:List UInt8) (m:Nat) (j:Nat) (v:Value) (wr:World):Prop:=∃k:Nat,k+j=m/\v=.int .i64 (k:Int)/\bs.take k=cs.take k/\Fr [] w wr
theorem aUE{bs cs:List UInt8}(h:bs.take (li cs)=cs):cs.isPrefixOf bs=true:=by rw[oV,List.prefix_iff_eq_take];exact h.symm
theorem aTl{bs cs:List UInt8}{k:Nat}{x y:UInt8}(c:bs[k]? = some x)(d:cs[k]? = some y)(h:x≠y):cs.isPrefixOf bs=false:=by rw[Bool.eq_false_iff];intro b;rw[oV]at b;obtain⟨f,rfl⟩:=b;have b:=(uC.1 d).1;rw[yK b,d]at c;exact h (tE c).symm
theorem aPt{bs cs:List UInt8}(h:li bs<li cs):cs.isPrefixOf bs=false:=by rw[Bool.eq_false_iff];intro b;rw[oV]at b;have:=b.length_le;omega
theorem aRD{w:World}{A B:Option Addr}{n m c d g:Nat}{bs cs:List UInt8}(h1:dA w (si A n c) bs g)(h2:dA w (si B m d) cs i)(r:li bs<=9223372036854775806): RV 182 #[si A n c,si B m d] w (ij (cs.isPrefixOf bs)):=by
 refine cA λN j=>?_;obtain⟨b,l⟩:=h1.len;obtain⟨f,p⟩:=h2.len;have⟨P,Q,F⟩:=hh3 h1.get h2.get b;have q:=lh f;by_cases O:n<m;·have h:decide ((n:Int)<(m:Int))=true:=dT;have k:Hid (cs.isPrefixOf bs=false):=lh (aPt (by omega));rw[k.o]at j;go_enter func182,ntmps182;go_wp2_with fail;exact j.o _ _ ⟨rfl,jj _ _⟩
 have h:decide ((n:Int)<(m:Int))=false:=dF;have D:m<=n:=by omega
 have E:n<=9223372036854775806:=by omega
 clear h1 h2 b f l p r;go_enter func182,ntmps182;go_wp2_with fail;go_loopg [5] m (λb f wr=>BgRel w bs cs m b f wr);·exact⟨0,by omega,rfl,rfl,jj _ _⟩
 obtain⟨b,J,rfl,f,h⟩:=hrel;have l:=lh h;have t:=lh f;by_cases S:b<m
 ·obtain⟨f,p⟩:∃f,bs[b]? = some f:=gx (by have:=F.o;omega);obtain⟨h,r⟩:∃h,cs[b]? = some h:=gx (by have:=q.o;omega);obtain⟨L,rfl,s⟩:=P.o (by have:=F.o;omega);obtain⟨M,rfl,u⟩:=Q.o (by have:=q.o;omega);have G:=aNQ l.o (s b f p);have H:=aNQ l.o (u b h r);have x:(b:Int)<(m:Int):=(by omega);have I:b<n:=(by omega);have u:=lh p;have v:=lh r;by_cases p:f=h
  ·have y:((f.toNat:Int)!=(h.toNat:Int))=false:=(by rw[p];simp);have z:Hid (bs.take (b+1)=cs.take (b+1)):=lh (by rw[eJ,eJ,u.o,v.o,t.o,p]);go_upto_region 6 with fail;go_quiet (fail);have r:Fr [] wr (wr.drewN nq):=(jj [] wr).drewN nq;have s:=lh (l.o.trans r);generalize wr.drewN nq=C at *;go_wp2_with fail;go_roundg (m-(b+1))
   case measure=>omega
   case rel=>exact⟨b+1,by omega,by go_num,z.o,s.o⟩
  have y:((f.toNat:Int)!=(h.toNat:Int))=true:=(by rw[nJ];intro f;exact p (xP.1 (by omega)));have k:Hid (cs.isPrefixOf bs=false):=lh (aTl u.o v.o p);rw[k.o]at j;go_upto_region 6 with fail;go_quiet (fail);have r:Fr [] wr (wr.drewN nq):=(jj [] wr).drewN nq;have s:=lh (l.o.trans r);generalize wr.drewN nq=C at *;go_wp2_with fail;exact j.o _ _ ⟨rfl,s.o⟩
 have k:Hid (cs.isPrefixOf bs=true):=lh (aUE (by have h1:=t.o;have h2:=q.o;rw[show b=li cs by omega,List.take_length]at h1;exact h1));have x:¬ (b:Int)<(m:Int):=(by omega);rw[k.o]at j;go_wp2_with fail;exact j.o _ _ ⟨rfl,l.o⟩
def NdRel (w:World) (r0:Nat) (bs:List UInt8) (n:Nat) (j:Nat) (v4 v6:Value) (wr:World):Prop:=∃k:Nat,k+j=n-1/\v4=.int .i64 ((dM r0 (bs.take k):Nat):Int)/\v6=.int .i64 ((k+1:Nat):Int)/\w=wr
theorem aKe:∀(l:List UInt8) (r:Nat),dM r l<(r+1)*64^li l
 | [],r=>by simp[dM]
 | c::l,r=>by
  have b:=aKe l (r*64+c.toNat%64);have e:dM r (c::l)=dM (r*64+c.toNat%64) l:=rfl;rw[e,bD,Nat.pow_succ];have d:(r*64+c.toNat%64+1)*64^li l<=((r+1)*64)*64^li l:=Nat.mul_le_mul_right _ (by omega);have f:(r+1)*(64^li l*64)=((r+1)*64)*64^li l:=by rw[Nat.mul_comm (64^li l) 64,Nat.mul_assoc]
  omega
theorem aMB{l:List UInt8}{k:Nat}{c:UInt8}(h:l[k]? = some c)(r:Nat):dM r (l.take (k+1))=dM r (l.take k)*64+c.toNat%64:=by rw[eJ,h];simp[dM]
theorem aKf{l:List UInt8}{r:Nat}(c:r<=255)(b:li l<=3):dM r l<=67108864:=by have f:=aKe l r;have d:64^li l<=64^3:=Nat.pow_le_pow_right (by decide) b;have g:(r+1)*64^li l<=256*64^3:=Nat.mul_le_mul (by omega) d;omega
theorem aKg(b:UInt8):1<=(bK b).2/\(bK b).2<=4/\(bK b).1<=255:=by have:=fW (λb=>decide (1<=(bK b).2/\(bK b).2<=4/\(bK b).1<=255)) (by decide +kernel) b;exact of_decide_eq_true this
theorem Z21{P:Prop} (h:P:=by
 injection e with e1 e2;subst e1 e2;clear HLD HDN hl1 hl2 hl3;go_wp2_with fail
 go_meet
 exact⟨rfl,rfl,rfl⟩):P:=h
theorem aRE{w:World}{A:Option Addr}{n c g:Nat}{bs:List UInt8}(Y:dA w (si A n c) bs g)(v:li bs<=9223372036854775000):RV 148 #[si A n c] w (vE bs):=by
 refine cA λX r=>?_;obtain⟨j,O⟩:=Y.len;match bs with
 | []=>have q:n=0:=j;subst q;clear Y j;go_enter func148,ntmps148;go_wp2_with fail;exact r.o _ _ ⟨rfl,jj _ _⟩
 | b0::l=>
  have s:n=li l+1:=by simpa using j
  obtain⟨Q,rfl,m⟩:=Y.get (by simp);have t:=m 0 b0 rfl;rw[gV]at t;have⟨HC,HV,Z,HDN⟩:=hh4 (fun(i:Nat) (d:UInt8) (h:l[i]? = some d)=>m (i+1) d (by simpa using h)) Y s (aRC b0 l);obtain⟨hl1,hl2,hl3⟩:=aKg b0;have k:bK b0=if 240<=b0.toNat then (b0.toNat%8,4) else if 224<=b0.toNat then (b0.toNat%16,3) else if 192<=b0.toNat then (b0.toNat%32,2) else (b0.toNat,1):=rfl
  obtain⟨⟨f,b⟩,u⟩:∃p,bK b0=p:=⟨_,rfl⟩;rw[u]at k HDN hl1 hl2 hl3;have HLD:=lh k;clear k;simp only at HDN hl1 hl2 hl3;have q:0<n:=by omega
  have E:n<=9223372036854775001:=by simp at v;omega
  have F:¬ n=0:=by omega
  have G:=b0.toNat_lt;have q:(b0.toNat:Int).tmod 8=((b0.toNat%8:Nat):Int):=rfl;have x:(b0.toNat:Int).tmod 16=((b0.toNat%16:Nat):Int):=rfl;have y:(b0.toNat:Int).tmod 32=((b0.toNat%32:Nat):Int):=rfl;have z:Wi ip (b0.toNat:Int)=(b0.toNat:Int):=ak;clear Y j m v u s;go_enter func148,ntmps148;go_upto_block 0 with fail;go_cut [4,5] (λv4 v5 j=>v4=ii ip (f:Int)/\v5=ii ip (b:Int)/\w=j)
  ·by_cases j:240<=b0.toNat
   ·have k:decide (240<=(b0.toNat:Int))=true:=dT;have e:(f,b)=(b0.toNat%8,4):=(by rw[HLD.o,iA j]);exact Z21
   have k:decide (240<=(b0.toNat:Int))=false:=dF;by_cases k:224<=b0.toNat;·have m:decide (224<=(b0.toNat:Int))=true:=dT;have e:(f,b)=(b0.toNat%16,3):=(by rw[HLD.o,eA j,iA k]);exact Z21
   have m:decide (224<=(b0.toNat:Int))=false:=dF;by_cases m:192<=b0.toNat;·have s:decide (192<=(b0.toNat:Int))=true:=dT;have e:(f,b)=(b0.toNat%32,2):=(by rw[HLD.o,eA j,eA k,iA m]);exact Z21
   have s:decide (192<=(b0.toNat:Int))=false:=dF;have e:(f,b)=(b0.toNat,1):=(by rw[HLD.o,eA j,eA k,eA m]);exact Z21
  obtain⟨rfl,rfl,rfl⟩:=hcut;clear q x y z t HLD;by_cases m:li l+1<b;·have k:n<b:=(by have:=Z.o;omega);have j:Hid (vE (b0::l)=tl #[ii .i32 0,ii ip 0]):=lh (by unfold vE;rw[HDN.o,iA m]);clear HDN m;go_wp2_with fail;exact r.o _ _ ⟨by rw[j.o];rfl,jj _ _⟩
  have k:¬ n<b:=(by have:=Z.o;omega);have q:=HDN.o;rw[eA m]at q;have k:=lh q;have y:Hid (b<=li l+1):=lh (by omega);clear HDN q m;go_wp2_with fail;go_loopg [4,6] (b-1) (λm v4 v6 wr=>NdRel w f l b m v4 v6 wr)
  case atStart=>exact⟨0,by omega,rfl,rfl,rfl⟩
  case round=>
   obtain⟨m,S,rfl,rfl,rfl⟩:=hrel;have t:Hid (dM f (l.take m)<=67108864):=lh (aKf hl3 (by rw[pB];omega));by_cases D:m+1<b
   ·obtain⟨d,x⟩:∃d,l[m]? = some d:=gx (by have:=y.o;omega);have H:=HC.o m d x;have u:=lh (aMB x f);have C:(d.toNat:Int).tmod 64=((d.toNat%64:Nat):Int):=rfl;have I:=d.toNat_lt;have L:Wi ip (d.toNat:Int)=(d.toNat:Int):=ak;have v:=t.o;obtain⟨q,z⟩:∃q,dM f (l.take m)=q:=⟨_,rfl⟩;rw[z]at u v⊢;obtain⟨s,B⟩:∃s,d.toNat%64=s:=⟨_,rfl⟩;have M:s<64:=(by omega);rw[B]at C u;have C:Wi ip ((q:Int)*64)=(q:Int)*64:=ak;have N:Wi ip ((q:Int)*64+(s:Int))=(q:Int)*64+(s:Int):=ak;have q:m+1<n:=(by have:=Z.o;have:=y.o;omega);clear x z B t;go_wp2_with fail;go_roundg (b-1-(m+1))
    case measure=>omega
    case rel=>exact⟨m+1,by omega,by rw[u.o];go_num,by go_num,rfl⟩
   obtain rfl:m=b-1:=(by omega);have v:=t.o;obtain⟨d,m⟩:∃d,dM f (l.take (b-1))=d:=⟨_,rfl⟩;rw[m]at k v⊢;have q:¬ b-1+1<b:=D;clear m t;go_wp2_with fail;refine(aTk d _).mono ?_;rintro e y ⟨rfl,rfl⟩;cases f:dG (d:Int) with
   | false=>have j:Hid (vE (b0::l)=tl #[ii .i32 0,ii ip 0]):=lh (by unfold vE;rw[k.o,eA (by rw[f];simp)]);clear f k;go_wp2_with fail;exact r.o _ _ ⟨by rw[j.o];rfl,jj _ _⟩
   | true=>
    have m:d<=1114111:=(by unfold dG at f;rw[uG]at f;omega);have t:=lh f;clear f;go_wp2_with fail;refine(aNR d m _).mono ?_;rintro e z ⟨B,rfl,f,D,q⟩;have⟨a5,J,b7⟩:=hh3 f q (rfl:li (jN d)=li (jN d));clear f q;go_wp2_with fail;refine(aRD (HV.o.fr J.o) a5.o (by simp;have:=Z.o;omega)).mono ?_;rintro e T ⟨rfl,f⟩;have q:=lh (J.o.trans f);clear f;cases f:(jN d).isPrefixOf (b0::l) with
    | false=>have j:Hid (vE (b0::l)=tl #[ii .i32 0,ii ip 0]):=lh (by unfold vE;rw[k.o,eA (by rw[f];simp)]);clear f k;go_wp2_with fail;exact r.o _ _ ⟨by rw[j.o];rfl,q.o⟩
    | true=>
     have u:=lh f;clear f;go_wp2_with fail;refine(aNR d m _).mono ?_;rintro e U ⟨V,rfl,m,W,f⟩;have s:=lh (q.o.trans f);clear m f;obtain⟨m,q⟩:∃m,li (jN d)=m:=⟨_,rfl⟩;rw[q];by_cases f:m=b;·have v:((m:Int)!=(b:Int))=false:=(by rw[f];simp);have x:IntKind.i32.wrap (d:Int)=(d:Int):=(by rw[IntKind.wrap_i32];omega);have j:Hid (vE (b0::l)=tl #[ii .i32 (d:Int),ii ip (b:Int)]):=lh (by unfold vE;rw[k.o,iA ⟨t.o,u.o,q.trans f⟩]);clear f q k;go_wp2_with fail;exact r.o _ _ ⟨by rw[j.o];rfl,s.o⟩
     have v:((m:Int)!=(b:Int))=true:=(by rw[nJ];intro h;exact f (by omega));have j:Hid (vE (b0::l)=tl #[ii .i32 0,ii ip 0]):=lh (by unfold vE;rw[k.o,eA (by rw[q];simp[f])]);clear f q k;go_wp2_with fail;exact r.o _ _ ⟨by rw[j.o];rfl,s.o⟩
theorem aTm(c:UInt8)(w:World):Calls prog 147 #[ii ix (c.toNat:Int)] w λe b=>e=iz (ij (aAC c))/\w=b:=by
 refine cA λk f=>?_;have d:Hid (aAC c=decide (48<=c.toNat/\c.toNat<=57)):=lh rfl;go_enter func147,ntmps147;by_cases i:48<=c.toNat
 ·by_cases j:c.toNat<=57
  ·have h:decide ((48:Int)<=(c.toNat:Int))=true:=dT;have g:decide ((c.toNat:Int)<=57)=true:=dT;have b:Hid (aAC c=true):=lh (by rw[d.o,uG];exact⟨i,j⟩);go_wp2_with fail;exact f.o _ _ ⟨by rw[b.o];rfl,rfl⟩
  have h:decide ((48:Int)<=(c.toNat:Int))=true:=dT;have g:decide ((c.toNat:Int)<=57)=false:=dF;have b:Hid (aAC c=false):=lh (by rw[d.o,eI];exact λg=>j g.2);go_wp2_with fail;exact f.o _ _ ⟨by rw[b.o];rfl,rfl⟩
 have h:decide ((48:Int)<=(c.toNat:Int))=false:=dF;have b:Hid (aAC c=false):=lh (by rw[d.o,eI];exact λg=>i g.1);go_wp2_with fail;exact f.o _ _ ⟨by rw[b.o];rfl,rfl⟩
theorem aRF(c:UInt8):sQ c=decide ((97<=c.toNat/\c.toNat<=122)∨(65<=c.toNat/\c.toNat<=90)∨c.toNat=95∨127<c.toNat):=by have:=fW (λc=>sQ c==decide ((97<=c.toNat/\c.toNat<=122)∨(65<=c.toNat/\c.toNat<=90)∨c.toNat=95∨127<c.toNat)) (by decide +kernel) c;exact eq_of_beq this
theorem Z20{P:Prop} (h:P:=by
 have d6:decide ((127:Int) < (c.toNat:Int))=false:=dF
 have HB:Hid (sQ c=false):=lh (by rw[HFG.o,eI];omega);go_wp2_with fail;exact HQ.o _ _ ⟨by rw[HB.o];rfl,rfl⟩):P:=h
theorem Z67{P:Prop} (h:P:=by
 have HB:Hid (sQ c=true):=lh (by rw[HFG.o,uG];omega);go_wp2_with fail;exact HQ.o _ _ ⟨by rw[HB.o];rfl,rfl⟩):P:=h
theorem aKh(c:UInt8)(w:World):Calls prog 116 #[ii ix (c.toNat:Int)] w λe b=>e=iz (ij (sQ c))/\w=b:=by
 refine cA λl HQ=>?_;have HFG:=lh (aRF c);go_enter func116,ntmps116;by_cases k:97<=c.toNat
 ·have g:decide ((97:Int)<=(c.toNat:Int))=true:=dT;by_cases i:c.toNat<=122
  ·have b:decide ((c.toNat:Int)<=122)=true:=dT;exact Z67
  have b:decide ((c.toNat:Int)<=122)=false:=dF;have d:decide ((65:Int)<=(c.toNat:Int))=true:=dT;have f:decide ((c.toNat:Int)<=90)=false:=dF;have b:((c.toNat:Int)==95)=false:=(by rw[lE];omega);by_cases j:127<c.toNat;·have d6:decide ((127:Int)<(c.toNat:Int))=true:=dT;exact Z67
  exact Z20
 have g:decide ((97:Int)<=(c.toNat:Int))=false:=dF;by_cases i:65<=c.toNat
 ·have d:decide ((65:Int)<=(c.toNat:Int))=true:=dT;by_cases j:c.toNat<=90
  ·have f:decide ((c.toNat:Int)<=90)=true:=dT;exact Z67
  have f:decide ((c.toNat:Int)<=90)=false:=dF;by_cases f:c.toNat=95;·have b:((c.toNat:Int)==95)=true:=(by rw[beq_iff_eq];omega);exact Z67
  have b:((c.toNat:Int)==95)=false:=(by rw[lE];omega);exact Z20
 have d:decide ((65:Int)<=(c.toNat:Int))=false:=dF;have b:((c.toNat:Int)==95)=false:=(by rw[lE];omega);exact Z20
def jU (k:Nat) (o:Option Nat):Int:=match o with|none=>-1|some m=>((k+m:Nat):Int)
def aTn (w:World) (L:List UInt8) (I:Int) (v:Value) (wr:World):Prop:=∃k n:Nat,k<=L.length/\v=.int .i64 (k:Int)/\L.length<=n+k/\jU k (eM n (L.drop k))=I/\Fr [] w wr
theorem aMC{n:Nat}{c:UInt8}{l:List UInt8}(h:nC c=false):eM n (c::l)=some 0:=by
 cases n with
 | zero=>rfl
 | succ n=>unfold eM;simp[h]
theorem aPu(n:Nat):eM n []=some 0:=by cases n<;>rfl
theorem aEX{n:Nat}{c:UInt8}{l:List UInt8}(h:nC c=true)(b:xC (c::l)=none):eM (n+1) (c::l)=none:=by unfold eM;simp[h,b]
theorem aEY{n r k:Nat}{c:UInt8}{l:List UInt8}(h:nC c=true)(b:xC (c::l)=some (r,k)):eM (n+1) (c::l)=(eM n ((c::l).drop k)).map (· + k):=by rw[eM];simp only[h,b,vG]
theorem Z14{P:Prop} (h:P:=by
 obtain⟨r,j⟩:=y;obtain⟨p1,p2,p3,p4⟩:=iN hN;have hjl:j<=n0 - k:=by rw[<- HDC.o,vB,HLN.o] at p2;exact p2
 have HX:Hid (jU (k+j) (eM m1 (L.drop (k+j)))=I):=lh (by
  rw[<- HPL.o,HDC.o,aEY HNT.o hN,<- HDC.o,List.drop_drop]
  cases eM m1 (L.drop (k+j)) with
  | none=>rfl
  | some m=>simp only[jU,tO];omega)
 have j0:((j:Int) == 0)=false:=by rw[lE];omega
 clear hN;go_wp2_with fail
 go_roundw
 case rel=>exact⟨k+j,m1,by rw[HLN.o];omega,by go_num,by rw[HLN.o];omega,HX.o,HF4.o⟩
 case measure=>simp[intOf];omega):P:=h
theorem Z78{P:Prop} (h:P:=by
 have HE:Hid (I = -1):=lh (by rw[<- HPL.o,HDC.o,aEX HNT.o hN];rfl);clear hN;go_wp2_with fail;exact HQ.o _ _ ⟨by rw[HE.o];rfl,HF4.o⟩):P:=h
theorem aUF{w:World}(s:ByteArray)(at_:Nat)(l:at_<=s.size)(t:s.size<=140737488351232):Calls prog 117 #[sj s,at_] w λe c=>e=iz (ii ip (jU at_ (eM s.size ((bA s).drop at_))))/\Fr [] w c:=by
 refine cA λQ HQ=>?_;have i:=yA s;obtain⟨L,d⟩:∃L,bA s=L:=⟨_,rfl⟩;obtain⟨n0,c⟩:∃n,s.size=n:=⟨_,rfl⟩;obtain⟨I,g⟩:∃I,jU at_ (eM s.size ((bA s).drop at_))=I:=⟨_,rfl⟩;rw[g]at HQ;rw[d,c]at g;rw[d,c]at i;rw[c]at l t;have⟨S,J,X⟩:=hh3 d c g;have HLN:=lh i;go_enter func117,ntmps117;go_wp2_with fail;go_loopw [1] (λc wr=>aTn w L I c wr) (λc _=>n0-(intOf c).toNat);·exact⟨at_,n0,by rw[HLN.o];exact l,rfl,by rw[HLN.o];omega,X.o,jj _ _⟩
 obtain⟨k,g,c,rfl,d,l,t⟩:=hrel;rw[HLN.o]at c d;have i:=lh t;have HPL:=lh l;by_cases C:k<n0
 ·have E:k<s.size:=(by rw[J.o];exact C);obtain⟨c,l⟩:∃c,L[k]? = some c:=gx (by rw[HLN.o];exact C);have N:=λd=>eX (s:=s) (by rw[S.o];exact l) ip d;have HDC:=lh (bO l);obtain⟨m1,rfl⟩:∃m1,g=m1+1:=⟨g-1,by omega⟩;have⟨b,f⟩:=hh2 (λd=>aKh c d) (λd=>aTm c d);have g:nC c=(sQ c || aAC c):=rfl;have v:=lh g;obtain⟨x,g,l⟩:=aRw s k (by rw[J.o];omega);rw[S.o]at g;have O:=λd=>l ip d;have D:x.size=n0-k:=(by rw[<- yA,g,vB,HLN.o]);have l:=lh g;cases g:sQ c with
  | true=>
   have HNT:Hid (nC c=true):=lh (by rw[v.o,g];rfl);rw[g]at b;go_wp2_with fail;refine(b.o _).mono ?_;rintro e t ⟨rfl,rfl⟩;obtain⟨F,G,z,H,d,A⟩:=aBR wr x (by omega);rw[D]at z d;have⟨p,q⟩:=hh2 (i.o.trans A) d;go_wp2_with fail;refine(aRE q.o (by rw[l.o,vB,HLN.o];omega)).mono ?_;rintro e M ⟨rfl,B⟩;have HF4:=lh (p.o.trans B);rw[l.o,HDC.o];unfold vE;cases hN:xC (c::L.drop (k+1)) with
   | none=>exact Z78
   | some y=>exact Z14
  | false=>
   rw[g]at b;cases u:aAC c with
   | true=>
    have HNT:Hid (nC c=true):=lh (by rw[v.o,g,u];rfl);rw[u]at f;go_wp2_with fail;refine(b.o _).mono ?_;rintro e t ⟨rfl,rfl⟩;go_wp2_with fail;refine(f.o _).mono ?_;rintro e t ⟨rfl,rfl⟩;obtain⟨F,G,z,H,d,A⟩:=aBR wr x (by omega);rw[D]at z d;have⟨p,q⟩:=hh2 (i.o.trans A) d;go_wp2_with fail;refine(aRE q.o (by rw[l.o,vB,HLN.o];omega)).mono ?_;rintro e M ⟨rfl,B⟩;have HF4:=lh (p.o.trans B);rw[l.o,HDC.o];unfold vE;cases hN:xC (c::L.drop (k+1)) with
    | none=>exact Z78
    | some y=>exact Z14
   | false=>have HNT:Hid (nC c=false):=lh (by rw[v.o,g,u];rfl);have HE:Hid (I=(k:Int)):=lh (by rw[<- HPL.o,HDC.o,aMC HNT.o];rfl);rw[u]at f;go_wp2_with fail;refine(b.o _).mono ?_;rintro e t ⟨rfl,rfl⟩;go_wp2_with fail;refine(f.o _).mono ?_;rintro e t ⟨rfl,rfl⟩;go_wp2_with fail;exact HQ.o _ _ ⟨by rw[HE.o];rfl,i.o⟩
 have E:¬ k<s.size:=(by rw[J.o];exact C);have HE:Hid (I=(k:Int)):=lh (by rw[<- HPL.o,sO (by rw[HLN.o];omega),aPu];rfl);go_wp2_with fail;exact HQ.o _ _ ⟨by rw[HE.o];rfl,i.o⟩
def aIr (s:List UInt8):Bool:=match s with | []=>false|c::_=>sQ c&&hU (s.takeWhile nC)&&decide ((s.takeWhile nC).length=s.length)
def nmB (s:List UInt8):Bool:=decide (s.length<=32)&&aIr s
def idB (n:Int):Bool:=decide (0<=n/\n<4294967296)
theorem cK{n:Int}:idB n=true↔0<=n/\n<4294967296:=by unfold idB;rw[uG]
def NoZ (s:List UInt8):Prop:=∀c∈s,c≠0
theorem mG{s:List UInt8}(h:nmB s=true):NoZ s/\li s<=32:=by
 unfold nmB at h;rw[tN,uG]at h;refine⟨?_,h.1⟩;cases s with
 | nil=>exact λd b=>by cases b
 | cons f s=>
  have c:=h.2;unfold aIr at c;simp only[tN,uG]at c;intro d b g;have e:(f::s).takeWhile nC=f::s:=(List.takeWhile_prefix nC).eq_of_length c.2;rw[<- e]at b;have c:nC d=true:=by have:=List.all_takeWhile (p:=nC) (l:=f::s);exact pY.1 this d b
  rw[g]at c;exact absurd c (by decide)
def be4 (n:Nat):List UInt8:=[UInt8.ofNat (n / 16777216),UInt8.ofNat (n / 65536),UInt8.ofNat (n / 256),UInt8.ofNat n]
def wK (n:Nat):List UInt8:=80::be4 n
def nmK (s:List UInt8):List UInt8:=64::(s++[0,0])
def zB (s:List UInt8) (l:List Nat):List UInt8:=nmK s++l.flatMap wK
theorem qI(s:List UInt8)(l:List Nat):li (zB s l)=li s+3+5*li l:=by
 have b:li (l.flatMap wK)=5*li l:=by
  induction l with
  | nil=>rfl
  | cons a l c=>rw[xG,iB,c,bD];show 5+_=_;omega
 unfold zB nmK;rw[iB,b,bD,iB];rfl
def aft:List UInt8->List UInt8
 | []=>[]
 | a::k=>if aft k=[] then (if a=255 then [] else [a+1]) else a::aft k
theorem aRG(m:Nat):aft (ji m 255)=[]:=by
 induction m with
 | zero=>rfl
 | succ m b=>rw[List.replicate_succ];unfold aft;rw[iA b,iA rfl]
theorem aRH{c:UInt8}(b:c≠255)(m:Nat):∀p:List UInt8,aft (p++c::ji m 255)=p++[c+1]
 | []=>by show aft (c::ji m 255)=[c+1];unfold aft;rw[iA (aRG m),eA b]
 | a::p=>by show aft (a::(p++c::ji m 255))=a::(p++[c+1]);unfold aft;rw[aRH b m p,eA (by simp)]
end
theorem aRI(a b:UInt8)(x y:Ky):Lib.compareBytes (a::x) (b::y)=if a<b then -1 else if b<a then 1 else Lib.compareBytes x y:=rfl
theorem oK{a b:UInt8}{x y:Ky}:klt (a::x) (b::y)↔a.toNat<b.toNat∨a=b/\klt x y:=by
 unfold klt;rw[aRI];by_cases d:a<b;·rw[iA d];exact⟨λ_=>Ii (aLl.1 d),λ_=>by decide⟩
 rw[eA d];have g:¬ a.toNat<b.toNat:=λc=>d (aLl.2 c);by_cases f:b<a
 ·rw[iA f];refine⟨λc=>absurd c (by decide),λc=>?_⟩;obtain c|⟨rfl,_⟩:=c
  ·exact absurd c g
  exact absurd f (UInt8.lt_irrefl _)
 rw[eA f];have e:a=b:=UInt8.le_antisymm (aHm.1 f) (aHm.1 d);exact⟨λc=>Ij ⟨e,c⟩,λc=>c.elim (λc=>absurd c g) And.right⟩
theorem aAD(b:UInt8)(y:Ky):klt [] (b::y):=by unfold klt Lib.compareBytes;decide
theorem sN:∀y:Ky,¬ klt y []
 | []=>bC _
 | _::_=>by unfold klt Lib.compareBytes;decide
theorem aMD(p:Ky){x y:Ky}:klt (p++x) (p++y)↔klt x y:=by
 induction p with
 | nil=>rfl
 | cons a p b=>rw[lI,lI,oK,b];exact⟨λb=>b.elim (λb=>absurd b (fT _)) And.right,λb=>Ij ⟨rfl,b⟩⟩
theorem oQ{a b:UInt8}{x y:Ky}:(a::x) <+: (b::y)↔a=b/\x <+: y:=List.cons_prefix_cons
theorem aAE(a:UInt8)(k:Ky):aft (a::k)=if aft k=[] then (if a=255 then [] else [a+1]) else a::aft k:=rfl
theorem aKi:∀ {k x:Ky},aft k=[]->(¬ klt x k↔k <+: x)
 | [],x,_=>⟨λ_=>List.nil_prefix,λ_=>sN x⟩
 | a::k,x,b=>by
  have f:aft k=[]/\a=255:=by
   unfold aft at b;by_cases c:aft k=[]
   ·rw[iA c]at b;by_cases d:a=255
    ·exact⟨c,d⟩
    rw[eA d]at b;cases b
   rw[eA c]at b;cases b
  obtain⟨c,rfl⟩:=f;cases x with
  | nil=>exact⟨λb=>absurd (aAD _ _) b,λb=>by cases List.prefix_nil.1 b⟩
  | cons d x=>
   have f:=aKi (x:=x) c;rw[oK,oQ,<- f];have f:=d.toNat_lt;have g:(255:UInt8).toNat=255:=rfl;constructor
   ·intro b;have:d=255:=xP.1 (by
     have h:¬ d.toNat<(255:UInt8).toNat:=λc=>b (Ii c);omega)
    exact⟨this.symm,λc=>b (Ij ⟨this,c⟩)⟩
   rintro⟨rfl,b⟩ c;obtain c|⟨_,c⟩:=c;·exact absurd c (fT _)
   exact b c
theorem aNS:∀ {k x:Ky},aft k≠[]->(¬ klt x k/\klt x (aft k)↔k <+: x)
 | [],_,c=>absurd rfl c
 | a::k,x,c=>by
  cases x with
  | nil=>exact⟨λc=>absurd (aAD _ _) c.1,λc=>by cases List.prefix_nil.1 c⟩
  | cons h x=>
   by_cases g:aft k=[]
   ·by_cases f:a=255
    ·exact absurd (by rw[aAE,iA g,iA f]) c
    have e:aft (a::k)=[a+1]:=(by rw[aAE,iA g,eA f]);have i:(a+1).toNat=a.toNat+1:=(by have d:=a.toNat_lt;have b:a.toNat≠255:=λc=>f (xP.1 c);rw[UInt8.toNat_add,show(1:UInt8).toNat=1 from rfl];omega);rw[e,oK,oK,oQ,<- aKi g,i];constructor
    ·rintro⟨d,b⟩;have f:h.toNat<=a.toNat:=by
      obtain b|⟨_,b⟩:=b;·omega
      exact absurd b (sN _)
     have:h=a:=xP.1 (by have:¬ h.toNat<a.toNat:=λc=>d (Ii c);omega);exact⟨this.symm,λc=>d (Ij ⟨this,c⟩)⟩
    rintro⟨rfl,d⟩;refine⟨λb=>?_,Ii (by omega)⟩;obtain b|⟨_,b⟩:=b;·exact absurd b (fT _)
    exact d b
   have e:aft (a::k)=a::aft k:=(by rw[aAE,eA g]);have c:=aNS (x:=x) g;rw[e,oK,oK,oQ,<- c];constructor
   ·rintro⟨d,b⟩;obtain b|⟨rfl,b⟩:=b
    ·exact absurd (Ii b) d
    exact⟨rfl,λf=>d (Ij ⟨rfl,f⟩),b⟩
   rintro⟨rfl,d,b⟩;refine⟨λf=>?_,Ij ⟨rfl,b⟩⟩;obtain f|⟨_,f⟩:=f;·exact absurd f (fT _)
   exact d f
theorem aTo{k:Ky}(h:aft k≠[])(e:Ky×List UInt8):inB k (some (aft k)) e=k.isPrefixOf e.1:=by rw[lO,oV,<- aNS h];unfold inB zO;simp
theorem aKj(n:Nat):(Ot n).toNat=n%256:=cQ ..
theorem aME{n m:Nat}(h:n<m)(c:m<4294967296)(x y:Ky):klt (be4 n++x) (be4 m++y):=by
 unfold be4;simp only[lI,nG,oK,<- xP,aKj];have b:n / 16777216<256:=by omega
 have d:m / 16777216<256:=by omega
 rw[aL b,aL d];by_cases b:n / 16777216<m / 16777216;·exact Ii b
 refine Ij ⟨by omega,?_⟩;by_cases b:n / 65536%256<m / 65536%256;·exact Ii b
 refine Ij ⟨by omega,?_⟩;by_cases b:n / 256%256<m / 256%256;·exact Ii b
 exact Ij ⟨by omega,Ii (by omega)⟩
theorem aNT{n m:Nat}(b:n<4294967296)(c:m<4294967296)(h:be4 n=be4 m):n=m:=by
 obtain d|d|d:=Nat.lt_trichotomy n m;·have:=aME d c [] [];rw[h]at this;exact absurd this (bC _)
 ·exact d
 have:=aME d b [] [];rw[h]at this;exact absurd this (bC _)
theorem gX(s:Ky)(a:Nat)(l:List Nat):zB s (a::l)=nmK s++(wK a++l.flatMap wK):=rfl
theorem uM(s:Ky):nmK s=zB s []:=by unfold zB;simp
theorem fM(s:Ky)(l m:List Nat):zB s (l++m)=zB s l++m.flatMap wK:=by unfold zB;rw[List.flatMap_append,uF]
theorem aEZ{r:Ky}(b:aft r≠[]):∀p:Ky,aft (p++r)=p++aft r
 | []=>rfl
 | a::p=>by show aft (a::(p++r))=a::(p++aft r);rw[aAE,aEZ b p,eA (by simp[b])]
theorem iX(s:Ky)(l:List Nat):aft (zB s l)≠[]:=by
 have b:∀(l:List Nat),aft ((0:UInt8)::l.flatMap wK)≠[]:=λl b=>by
  unfold aft at b;by_cases c:aft (l.flatMap wK)=[];·rw[iA c,eA (by decide)]at b;cases b
  rw[eA c]at b;cases b
 have e:zB s l=(64::(s++[0]))++(0::l.flatMap wK):=by unfold zB nmK;simp
 rw[e,aEZ (b l)];simp
theorem aGo:∀ {a b r:Ky},NoZ a->NoZ b->((a++[0,0]) <+: (b++0::0::r)↔a=b)
 | [],[],r,_,_=>⟨λ_=>rfl,λ_=>⟨r,rfl⟩⟩
 | [],c::b,r,_,hb=>⟨λf=>absurd (oQ.1 f).1.symm (hb c (eC ..)),λf=>by cases f⟩
 | c::a,[],r,ha,_=>⟨λf=>absurd (oQ.1 f).1 (ha c (eC ..)),λf=>by cases f⟩
 | c::a,d::b,r,ha,hb=>by have i:=aGo (r:=r) (λg h=>ha g (jD _ h)) (λg h=>hb g (jD _ h));show(c::(a++[0,0])) <+: (d::(b++0::0::r))↔_;rw[oQ,i];exact⟨λf=>by rw[f.1,f.2],λf=>by injection f with f g;exact⟨f,g⟩⟩
theorem kU(p:Ky){x y:Ky}:(p++x) <+: (p++y)↔x <+: y:=List.prefix_append_right_inj p
theorem aFa{a b:Ky}(c:NoZ a)(d:NoZ b)(l:List Nat):nmK a <+: zB b l↔a=b:=by
 have e:zB b l=64::(b++0::0::l.flatMap wK):=by unfold zB nmK;simp
 rw[e];unfold nmK;rw[oQ,aGo c d];exact⟨And.right,λd=>⟨rfl,d⟩⟩
theorem aKk{p q x y:Ky}(h:li p=li q):(p++x) <+: (q++y)↔p=q/\x <+: y:=by
 constructor
 ·intro c;have e:p=q:=by
   obtain⟨d,b⟩:=c;rw[uF]at b;exact(List.append_inj b h).1
  subst e;exact⟨rfl,(kU p).1 c⟩
 rintro⟨rfl,b⟩;exact(kU p).2 b
theorem aRJ{a b:Ky}(c:NoZ a)(i:NoZ b){n m:Nat}(d:n<4294967296)(f:m<4294967296)(l:List Nat):zB a [n] <+: zB b (m::l)↔a=b/\n=m:=by
 constructor
 ·intro g;have h:nmK a <+: zB b (m::l):=by
   refine List.IsPrefix.trans ?_ g;unfold zB;exact aLr ..
  have e:=(aFa c i _).1 h;subst e;refine⟨rfl,?_⟩;rw[gX,gX,kU]at g;have:=(aKk (p:=wK n) (q:=wK m) rfl).1 g;have g:=this.1;unfold wK at g;injection g with _ g;exact aNT d f g
 rintro⟨rfl,rfl⟩;rw[gX,gX,kU];exact(aKk rfl).2 ⟨rfl,List.nil_prefix⟩
theorem aPv{a b:Ky}(c:NoZ a)(l:NoZ b){n m i j:Nat}(d:n<4294967296)(f:m<4294967296)(hi:i<4294967296)(g:j<4294967296)(h:zB a [n,i]=zB b [m,j]):a=b/\n=m/\i=j:=by
 have k:zB a [n] <+: zB b [m,j]:=by rw[<- h,show[n,i]=[n]++[i] from rfl,fM];exact aLr ..
 obtain⟨rfl,rfl⟩:=(aRJ c l d f [j]).1 k;refine⟨rfl,rfl,?_⟩;rw[show[n,i]=[n]++[i] from rfl,show[n,j]=[n]++[j] from rfl,fM,fM]at h;have k:=List.append_cancel_left h;rw[xG,xG,List.flatMap_nil,jH,jH]at k;unfold wK at k;injection k with _ k;exact aNT hi g k
theorem aUd:∀ {a b:Ky},NoZ a->NoZ b->klt a b->∀x y:Ky,klt (a++0::x) (b++0::y)
 | _,[],_,_,f,_,_=>absurd f (sN _)
 | [],c::b,_,hb,_,x,y=>by show klt (0::x) (c::(b++0::y));rw[oK];refine Ii ?_;have g:c≠0:=hb c (eC ..);have:c.toNat≠0:=λf=>g (xP.1 f);show(0:Nat)<c.toNat;omega
 | c::a,d::b,ha,hb,f,x,y=>by
  show klt (c::(a++0::x)) (d::(b++0::y));rw[oK]at f⊢;obtain f|⟨g,h⟩:=f;·exact Ii f
  exact Ij ⟨g,aUd (λf g=>ha f (jD _ g)) (λf g=>hb f (jD _ g)) h x y⟩
theorem aUG{a b:Ky}(c:NoZ a)(f:NoZ b)(h:klt a b)(l m:List Nat):klt (zB a l) (zB b m):=by
 have e:∀(d:Ky) (l:List Nat),zB d l=64::(d++0::(0::l.flatMap wK)):=λd l=>by unfold zB nmK;simp
 rw[e,e,oK];exact Ij ⟨rfl,aUd c f h _ _⟩
theorem aRK(s:Ky)(p:List Nat){n m:Nat}(h:n<m)(b:m<4294967296)(l k:List Nat):klt (zB s (p++n::l)) (zB s (p++m::k)):=by rw[fM,fM,aMD,xG,xG];unfold wK;rw[lI,lI,oK];exact Ij ⟨rfl,aME h b _ _⟩
theorem aAF:∀ {A B:En},sI A->sI B->(∀e,e∈A↔e∈B)->A=B
 | [],[],_,_,_=>rfl
 | [],b::B,_,_,h=>absurd ((h b).2 (eC ..)) (by simp)
 | a::A,[],_,_,h=>absurd ((h a).1 (eC ..)) (by simp)
 | a::A,b::B,hA,hB,h=>by
  obtain⟨g,f⟩:=lF.1 hA;obtain⟨i,j⟩:=lF.1 hB;have e:a=b:=by
   obtain c|c:=bB.1 ((h a).1 (eC ..));·exact c
   obtain d|d:=bB.1 ((h b).2 (eC ..));·exact d.symm
   exact absurd (i a c) (jS (g b d))
  subst e;rw[aAF f j λe=>?_];have c:=h e;rw[bB,bB]at c;constructor
  ·intro f;obtain rfl|d:=c.1 (Ij f)
   ·exact absurd (g _ f) (bC _)
   exact d
  intro f;obtain rfl|d:=c.2 (Ij f);·exact absurd (i _ f) (bC _)
  exact d
def eD (E:En) (k:Ky):En:=E.filter fun e=>k.isPrefixOf e.1
theorem aRL{E:En}(b:sI E){k:Ky}(h:aft k≠[])(c:li E<=9223372036854775807):(goE k (some (aft k)) 9223372036854775807 [] E).1=eD E k:=by rw[aNN b];have e:E.filter (inB k (some (aft k)))=eD E k:=List.filter_congr λe _=>aTo h e;rw[e,zF];exact vD (pO ..) c
theorem aFb{E:En}(b:sI E)(k:Ky):sI (eD E k):=b.filter _
theorem yS{E:En}{k:Ky}{e:Ky×List UInt8}:e∈eD E k↔e∈E/\k <+: e.1:=by unfold eD;rw[cL,oV]
theorem aKl{E:En}{k:Ky}{e:Ky×List UInt8}:e∈zH E k↔e∈E/\e.1≠k:=by unfold zH;rw[cL];simp
theorem aTp(L:En):∀(E:En),(∀e,e∈L.foldl (λE c=>zH E c.1) E↔e∈E/\∀c∈L,e.1≠c.1):=by
 induction L with
 | nil=>exact λE e=>⟨λb=>⟨b,λ_ b=>by cases b⟩,λb=>b.1⟩
 | cons c L b=>
  intro E e;rw[List.foldl_cons,b,aKl];constructor
  ·rintro⟨⟨f,d⟩,h⟩;refine⟨f,λg b=>?_⟩;obtain rfl|b:=bB.1 b
   ·exact d
   exact h g b
  rintro⟨f,d⟩;exact⟨⟨f,d c (eC ..)⟩,λg b=>d g (jD _ b)⟩
structure OpC where
 what:Int
 coll:Ky
 id:Int
 text:List UInt8
abbrev Tx:=List (Nat × List UInt8)
abbrev Ct:=List (Ky × Tx)
def pK (c:Ct) (s:Ky):Bool:=c.any fun x=>decide (x.1=s)
def aAG (c:Ct) (s:Ky):Ct:=(c.takeWhile fun x=>decide (klt x.1 s))++(s,[])::c.dropWhile fun x=>decide (klt x.1 s)
def lU (l:Tx) (n:Nat):Tx:=l.filter fun t=>!decide (t.1=n)
def with_ (l:Tx) (n:Nat) (s:List UInt8):Tx:=((lU l n).takeWhile fun t=>decide (t.1<n))++(n,s)::(lU l n).dropWhile fun t=>decide (t.1<n)
def iW (c:Ct) (s:Ky) (f:Tx->Tx):Ct:=c.map fun x=>if x.1=s then (x.1,f x.2) else x
def bY (c:Ct) (s:Ky):Ct:=c.filter fun x=>!decide (x.1=s)
def txC (c:Ct) (s:Ky):Tx:=((c.find? fun x=>decide (x.1=s)).map (·.2)).getD []
def aBS (l:Tx) (n:Int):Bool:=l.any fun t=>decide ((t.1:Int)=n)
def pQ (c:Ct) (o:OpC):Ct×Int:=
 if o.what=1 then if nmB o.coll=false then (c,1) else if pK c o.coll=true then (c,7) else (aAG c o.coll,0)
 else if o.what=2∨o.what=3∨o.what=4 then
  if pK c o.coll=false then (c,6)
  else if o.what=2 then (bY c o.coll,0)
  else if o.what=3 then if idB o.id=false then (c,1) else if 65536<o.text.length then (c,4) else (iW c o.coll fun l=>with_ l o.id.toNat o.text,0)
  else if aBS (txC c o.coll) o.id=true then (iW c o.coll fun l=>lU l o.id.toNat,0) else (c,6)
 else (c,1)
def doC (c0:Ct):Ct->List OpC->Ct×Int
 | c,[]=>(c,0)
 | c,o::l=>if (pQ c o).2=0 then doC c0 (pQ c o).1 l else (c0,(pQ c o).2)
theorem kZ{lt:α->α->Prop}[DecidableRel lt](ht:∀ {a b c},lt a b->lt b c->lt a c)(x:α):∀ {l:List α},l.Pairwise lt->(∀c∈l,¬ lt c x->lt x c)->((l.takeWhile λc=>decide (lt c x))++x::l.dropWhile λc=>decide (lt c x)).Pairwise lt
 | [],_,_=>List.pairwise_singleton _ _
 | c::l,h,hx=>by
  obtain⟨g,i⟩:=lF.1 h;by_cases d:lt c x
  ·rw[List.takeWhile_cons_of_pos (by simpa using d),List.dropWhile_cons_of_pos (by simpa using d),lI];refine lF.2 ⟨λf b=>?_,kZ (lt:=lt) (λg i=>ht g i) x i λf b=>hx f (jD _ b)⟩;obtain b|b:=sD.1 b
   ·exact g f ((List.takeWhile_sublist _).subset b)
   obtain rfl|b:=bB.1 b;·exact d
   exact g f ((List.dropWhile_sublist _).subset b)
  rw[List.takeWhile_cons_of_neg (by simpa using d),List.dropWhile_cons_of_neg (by simpa using d),nG];have i:=hx c (eC ..) d;refine lF.2 ⟨λf b=>?_,h⟩;obtain rfl|b:=bB.1 b;·exact i
  exact ht i (g f b)
theorem aNU{p:α->Bool}{l:List α}{x y:α}:y∈l.takeWhile p++x::l.dropWhile p↔y=x∨y∈l:=by
 have e:y∈l↔y∈l.takeWhile p++l.dropWhile p:=by rw[xR]
 rw[e,sD,sD,bB];constructor;·exact Z34
 exact Z34
theorem cO{l:Tx}{n:Nat}{t:Nat×List UInt8}:t∈lU l n↔t∈l/\t.1≠n:=by unfold lU;rw[cL];simp
theorem aAH{l:Tx}{n:Nat}{s:List UInt8}{t:Nat×List UInt8}:t∈with_ l n s↔t=(n,s)∨t∈l/\t.1≠n:=by unfold with_;rw[aNU,cO]
theorem vM{c:Ct}{s:Ky}{x:Ky×Tx}:x∈aAG c s↔x=(s,[])∨x∈c:=aNU
theorem dO{c:Ct}{s:Ky}{x:Ky×Tx}:x∈bY c s↔x∈c/\x.1≠s:=by unfold bY;rw[cL];simp
theorem yF{c:Ct}{s:Ky}{f:Tx->Tx}{x:Ky×Tx}:x∈iW c s f↔(x∈c/\x.1≠s)∨∃y∈c,y.1=s/\x=(s,f y.2):=by
 unfold iW;rw[kI];constructor
 ·rintro⟨y,d,rfl⟩;by_cases b:y.1=s
  ·rw[iA b];exact Ij ⟨y,d,b,by rw[b]⟩
  rw[eA b];exact Ii ⟨d,b⟩
 rintro(⟨b,g⟩|⟨y,d,b,rfl⟩);·exact⟨x,b,eA g⟩
 exact⟨y,d,by rw[iA b,b]⟩
theorem sJ{c:Ct}{s:Ky}:pK c s=true↔∃x∈c,x.1=s:=by unfold pK;rw[aAV];simp
structure OkC (c:Ct):Prop where
 rise:c.Pairwise fun a b=>klt a.1 b.1
 name:∀x∈c,nmB x.1=true
 ids:∀x∈c,x.2.Pairwise fun a b=>a.1<b.1
 fit:∀x∈c,∀t∈x.2,t.1<4294967296/\t.2.length<=65536
theorem OkC.nil:OkC []:=⟨List.Pairwise.nil,(λ_ b=>by cases b),(λ_ b=>by cases b),(λ_ b=>by cases b)⟩
section
variable {c:Ct}{s:Ky}
theorem OkC.one(h:OkC c){x y:Ky×Tx}(k:x∈c)(m:y∈c)(e:x.1=y.1):x=y:=by
 have i:∀ {b:Ct},b.Pairwise (λa d=>klt a.1 d.1)->x∈b->y∈b->x=y:=λ{b}=>by
  induction b with
  | nil=>exact λ_ h=>by cases h
  | cons o b n=>
   intro b l g;obtain⟨f,j⟩:=lF.1 b;obtain d|d:=bB.1 l
   ·obtain b|b:=bB.1 g
    ·rw[d,b]
    exact absurd (f y b) (by rw[<- d,e];exact bC _)
   obtain b|b:=bB.1 g;·exact absurd (f x d) (by rw[<- b,e];exact bC _)
   exact n j d b
 exact i h.rise k m
theorem OkC.tx(h:OkC c){x:Ky×Tx}(d:x∈c):txC c x.1=x.2:=by
 unfold txC;cases b:c.find? λf=>decide (f.1=x.1) with
 | none=>exact absurd (List.find?_eq_none.1 b x d) (by simp)
 | some f=>have f:=List.find?_some b;have g:=List.mem_of_find?_eq_some b;rw[h.one g d (by simpa using f)];rfl
theorem OkC.made(h:OkC c)(f:nmB s=true)(g:pK c s=false):OkC (aAG c s):=by
 refine⟨kZ (lt:=λa b:Ky×Tx=>klt a.1 b.1) qE (s,[]) h.rise λj k l=>?_,λd b=>?_,λd b=>?_,λd b=>?_⟩
 ·by_cases i:klt s j.1
  ·exact i
  have:pK c s=true:=sJ.2 ⟨j,k,zQ l i⟩;rw[g]at this;cases this
 ·obtain rfl|b:=vM.1 b
  ·exact f
  exact h.name d b
 ·obtain rfl|b:=vM.1 b
  ·exact List.Pairwise.nil
  exact h.ids d b
 obtain rfl|b:=vM.1 b;·exact λj i=>by cases i
 exact h.fit d b
theorem OkC.kill(h:OkC c):OkC (bY c s):=⟨h.rise.filter _,λb d=>h.name b (dO.1 d).1,λb d=>h.ids b (dO.1 d).1,λb d=>h.fit b (dO.1 d).1⟩
theorem OkC.set(h:OkC c){f:Tx->Tx}(h1:∀l:Tx,l.Pairwise (λa g=>a.1<g.1)->(f l).Pairwise λa g=>a.1<g.1)(h2:∀l:Tx,(∀t∈l,t.1<4294967296/\li t.2<=65536)->∀t∈f l,t.1<4294967296/\li t.2<=65536):OkC (iW c s f):=by
 refine⟨?_,λb d=>?_,λb d=>?_,λb d=>?_⟩
 ·have e:∀b:Ky×Tx,(if b.1=s then (b.1,f b.2) else b).1=b.1:=λb=>by split<;>rfl
  unfold iW;rw[mV];exact h.rise.imp λ{a g} i=>by rw[e,e];exact i
 ·obtain⟨d,_⟩|⟨g,i,e,rfl⟩:=yF.1 d
  ·exact h.name b d
  show nmB s=true;rw[<- e];exact h.name g i
 ·obtain⟨d,_⟩|⟨g,i,_,rfl⟩:=yF.1 d
  ·exact h.ids b d
  exact h1 _ (h.ids g i)
 obtain⟨d,_⟩|⟨g,i,_,rfl⟩:=yF.1 d;·exact h.fit b d
 exact h2 _ (h.fit g i)
theorem aIs{l:Tx}(n:Nat)(h:l.Pairwise λa b=>a.1<b.1):(lU l n).Pairwise λa b=>a.1<b.1:=h.filter _
theorem aKm{l:Tx}(n:Nat)(s:List UInt8)(h:l.Pairwise λa b=>a.1<b.1):(with_ l n s).Pairwise λa b=>a.1<b.1:=kZ (lt:=λa b:Nat×List UInt8=>a.1<b.1) (λb c=>Nat.lt_trans b c) (n,s) (aIs n h) λd f g=>by have b:=(cO.1 f).2;have c:¬ d.1<n:=g;show n<d.1;omega
end
def pc (b:List UInt8) (j:Nat):List UInt8:=(b.drop (64*j)).take 64
def np (b:List UInt8):Nat:=max 1 ((b.length+63) / 64)
theorem aUH(b:List UInt8)(j:Nat):li (pc b j)<=64:=by unfold pc;rw[pB];omega
theorem aTq(b:List UInt8):((List.range (np b)).map (pc b)).flatten=b:=by have c:=aBz b (np b);have e:((List.range (np b)).map (pc b)).flatten=b.take (64*np b):=c;rw[e,zF];unfold np;omega
def wM (s:Ky) (n:Nat) (b:List UInt8):En:=(List.range (np b)).map fun j=>(zB s [n,j],pc b j)
theorem eO{s:Ky}{n:Nat}{b:List UInt8}{e:Ky×List UInt8}:e∈wM s n b↔∃j,j<np b/\e=(zB s [n,j],pc b j):=by unfold wM;rw[kI];simp only[kO];exact⟨λ⟨j,c,d⟩=>⟨j,c,d.symm⟩,λ⟨j,c,d⟩=>⟨j,c,d.symm⟩⟩
theorem aFc(b:List UInt8):0<np b:=by unfold np;omega
theorem aRM{b:List UInt8}(h:li b<=65536):np b<=1024:=by unfold np;omega
theorem aGp(s:Ky)(n:Nat){b:List UInt8}(h:li b<=65536):sI (wM s n b):=by have f:=aRM h;unfold wM sI;rw[mV];refine(List.pairwise_lt_range (n:=np b)).imp_of_mem λ{g i} _ c d=>?_;have:=kO.1 c;exact aRK s [n] d (by omega) [] []
theorem aFd(s:Ky):∀ {l:Tx},l.Pairwise (λa b=>a.1<b.1)->(∀b∈l,b.1<4294967296/\li b.2<=65536)->sI (l.flatMap λb=>wM s b.1 b.2)
 | [],_,_=>List.Pairwise.nil
 | b::l,h,hf=>by obtain⟨f,c⟩:=lF.1 h;rw[xG];refine wQ.2 ⟨aGp s _ (hf b (eC ..)).2,aFd s c λb c=>hf b (jD _ c),λj i k d=>?_⟩;obtain⟨g,_,rfl⟩:=eO.1 i;obtain⟨b,c,d⟩:=wR.1 d;obtain⟨i,_,rfl⟩:=eO.1 d;exact aRK s [] (f b c) (hf b (jD _ c)).1 [g] [i]
structure Rep (E:Nat->En) (c:Ct):Prop where
 r0:sI (E 0)
 r1:sI (E 1)
 e0:∀e,e∈E 0↔∃x∈c,∃t∈x.2,e∈wM x.1 t.1 t.2
 e1:∀e,e∈E 1↔∃x∈c,e=(nmK x.1,[])
 ok:OkC c
theorem Rep.nil:Rep (λ_=>[]) []:=⟨List.Pairwise.nil,List.Pairwise.nil,λe=>by simp,λe=>by simp,OkC.nil⟩
section
variable {E:Nat->En}{c:Ct}{s:Ky}
theorem Rep.has(h:Rep E c)(g:nmB s=true):dU (E 1) (nmK s)=pK c s:=by
 rw[lO,aEP,sJ];constructor
 ·rintro⟨e,f,i⟩;obtain⟨b,d,rfl⟩:=(h.e1 e).1 f;refine⟨b,d,?_⟩;have f:nmK b.1 <+: zB s []:=by rw[<- uM];exact⟨[],by rw[jH];exact i⟩
  exact(aFa (mG (h.ok.name b d)).1 (mG g).1 _).1 f
 rintro⟨b,d,rfl⟩;exact⟨_,(h.e1 _).2 ⟨b,d,rfl⟩,rfl⟩
theorem Rep.no(h:Rep E c)(b:nmB s=false):pK c s=false:=by
 cases g:pK c s with
 | false=>rfl
 | true=>obtain⟨d,f,rfl⟩:=sJ.1 g;rw[h.ok.name d f]at b;cases b
theorem Rep.names(h:Rep E c):E 1=c.map λb=>(nmK b.1,[]):=by
 refine aAF h.r1 ?_ λe=>?_;·unfold sI;rw[mV];refine h.ok.rise.imp_of_mem λ{a d} f g i=>?_;show klt (nmK a.1) (nmK d.1);rw[uM,uM];exact aUG (mG (h.ok.name a f)).1 (mG (h.ok.name d g)).1 i [] []
 rw[h.e1,kI];exact⟨λ⟨b,d,f⟩=>⟨b,d,f.symm⟩,λ⟨b,d,f⟩=>⟨b,d,f.symm⟩⟩
theorem Rep.mine(h:Rep E c){x:Ky×Tx}(b:x∈c){y:Ky×Tx}(d:y∈c){t:Nat×List UInt8}{e:Ky×List UInt8}(f:e∈wM y.1 t.1 t.2):nmK x.1 <+: e.1↔x=y:=by obtain⟨g,_,rfl⟩:=eO.1 f;rw[aFa (mG (h.ok.name x b)).1 (mG (h.ok.name y d)).1];exact⟨λe=>h.ok.one b d e,λe=>by rw[e]⟩
theorem aAI{s:Ky}(h1:NoZ s)(h2:NoZ y){n:Nat}(b:n<4294967296){t:Nat×List UInt8}(ht:t.1<4294967296){e:Ky×List UInt8}(d:e∈wM y t.1 t.2):zB s [n] <+: e.1↔s=y/\n=t.1:=by obtain⟨c,_,rfl⟩:=eO.1 d;exact aRJ h1 h2 b ht [c]
theorem Rep.texts(h:Rep E c){x:Ky×Tx}(b:x∈c):eD (E 0) (nmK x.1)=x.2.flatMap λd=>wM x.1 d.1 d.2:=by
 refine aAF (aFb h.r0 _) (aFd _ (h.ok.ids x b) (h.ok.fit x b)) λe=>?_;rw[yS,h.e0,wR];constructor;·rintro⟨⟨k,i,d,g,f⟩,j⟩;obtain rfl:=(h.mine b i f).1 j;exact⟨d,g,f⟩
 rintro⟨d,g,f⟩;exact⟨⟨x,b,d,g,f⟩,(h.mine b b f).2 rfl⟩
theorem Rep.text(h:Rep E c){x:Ky×Tx}(d:x∈c){t:Nat×List UInt8}(ht:t∈x.2):eD (E 0) (zB x.1 [t.1])=wM x.1 t.1 t.2:=by
 have j:=(mG (h.ok.name x d)).1;refine aAF (aFb h.r0 _) (aGp _ _ (h.ok.fit x d t ht).2) λe=>?_;rw[yS,h.e0];constructor
 ·rintro⟨⟨k,b,f,l,g⟩,i⟩;obtain⟨m,q⟩:=(aAI j (mG (h.ok.name k b)).1 (h.ok.fit x d t ht).1 (h.ok.fit k b f l).1 g).1 i;obtain rfl:=h.ok.one d b m;have:t=f:=by
   have n:∀ {b:Tx},b.Pairwise (λa k=>a.1<k.1)->t∈b->f∈b->t=f:=λ{b}=>by
    induction b with
    | nil=>exact λ_ h=>by cases h
    | cons r b p=>
     intro i b m;obtain⟨k,o⟩:=lF.1 i;obtain i|i:=bB.1 b
     ·obtain b|b:=bB.1 m
      ·rw[i,b]
      have:=k f b;rw[<- i]at this;omega
     obtain b|b:=bB.1 m;·have:=k t i;rw[<- b]at this;omega
     exact p o i b
   exact n (h.ok.ids x d) ht l
  subst this;exact g
 intro g;exact⟨⟨x,d,t,ht,g⟩,(aAI j j (h.ok.fit x d t ht).1 (h.ok.fit x d t ht).1 g).2 ⟨rfl,rfl⟩⟩
theorem Rep.none(h:Rep E c){x:Ky×Tx}(g:x∈c){n:Nat}(j:n<4294967296)(ht:∀t∈x.2,t.1≠n):eD (E 0) (zB x.1 [n])=[]:=by refine List.filter_eq_nil_iff.2 λe l i=>?_;obtain⟨d,b,t,f,k⟩:=(h.e0 e).1 l;rw[oV]at i;obtain⟨l,m⟩:=(aAI (mG (h.ok.name x g)).1 (mG (h.ok.name d b)).1 j (h.ok.fit d b t f).1 k).1 i;obtain rfl:=h.ok.one g b l;exact ht t f m.symm
def aIt (E:En) (k:Ky):En:=(eD E k).foldl (fun E x=>zH E x.1) E
theorem aKn{E:En}{k:Ky}{e:Ky×List UInt8}:e∈aIt E k↔e∈E/\¬ k <+: e.1:=by
 unfold aIt;rw[aTp];constructor;·rintro⟨b,c⟩;exact⟨b,λd=>c e (yS.2 ⟨b,d⟩) rfl⟩
 rintro⟨b,c⟩;exact⟨b,λf b d=>c (by rw[d];exact(yS.1 b).2)⟩
theorem aGq{E:En}(h:sI E)(k:Ky):sI (zH E k):=h.filter _
theorem aGr:∀(L:En) {E:En},sI E->sI (L.foldl (λE b=>zH E b.1) E)
 | [],_,h=>h
 | b::L,_,h=>aGr L (aGq h b.1)
theorem aBT{E:En}(h:sI E)(k:Ky):sI (aIt E k):=aGr _ h
def aPw (s:Ky) (n:Nat) (b:List UInt8):Nat->Nat->En->En
 | _,0,E=>E
 | j,m+1,E=>aPw s n b (j+1) m (tI E (zB s [n,j]) (pc b j))
theorem aGs(s:Ky)(n:Nat)(b:List UInt8):∀(m j:Nat) {E:En},sI E->sI (aPw s n b j m E)
 | 0,_,_,h=>h
 | m+1,j,_,h=>aGs s n b m (j+1) (aBQ h)
theorem aKo{s:Ky}(d:NoZ s){n:Nat}(f:n<4294967296)(b:List UInt8):∀(m j:Nat) {E:En} {e:Ky×List UInt8},j+m<4294967296 ->(e∈aPw s n b j m E↔(∃i,j<=i/\i<j+m/\e=(zB s [n,i],pc b i))∨(e∈E/\∀i,j<=i->i<j+m->e.1≠zB s [n,i]))
 | 0,j,E,e,_=>⟨λh=>Ij ⟨h,λi c g=>by omega⟩,λh=>by
   obtain⟨i,c,g,_⟩|⟨h,_⟩:=h;·omega
   exact h⟩
 | m+1,j,E,e,hj=>by
  unfold aPw;rw[aKo d f b m (j+1) (by omega),aER];constructor
  ·rintro(⟨i,c,g,h⟩|⟨c|⟨c,g⟩,h⟩)
   ·exact Ii ⟨i,by omega,by omega,h⟩
   ·exact Ii ⟨j,by omega,by omega,c⟩
   refine Ij ⟨c,λi l o=>?_⟩;by_cases k:i=j;·rw[k];exact g
   exact h i (by omega) (by omega)
  rintro(⟨i,c,g,rfl⟩|⟨c,g⟩)
  ·by_cases k:i=j
   ·subst k;exact Ij ⟨Ii rfl,λk p q h=>by have:=(aPv d d f f (by omega) (by omega) h).2.2;omega⟩
   exact Ii ⟨i,by omega,by omega,rfl⟩
  exact Ij ⟨Ij ⟨c,g j (by omega) (by omega)⟩,λi l o=>g i (by omega) (by omega)⟩
theorem Rep.made(h:Rep E c)(d:nmB s=true)(f:pK c s=false){E':Nat->En}(h0:E' 0=E 0)(h1:E' 1=tI (E 1) (nmK s) []):Rep E' (aAG c s):=by
 refine⟨by rw[h0];exact h.r0,by rw[h1];exact aBQ h.r1,λe=>?_,λe=>?_,h.ok.made d f⟩
 ·rw[h0,h.e0];constructor
  ·rintro⟨g,b,i⟩;exact⟨g,vM.2 (Ij b),i⟩
  rintro⟨g,b,k,j,i⟩;obtain rfl|b:=vM.1 b;·cases j
  exact⟨g,b,k,j,i⟩
 rw[h1,aER,h.e1];constructor
 ·rintro(rfl|⟨⟨g,b,rfl⟩,_⟩)
  ·exact⟨(s,[]),vM.2 (Ii rfl),rfl⟩
  exact⟨g,vM.2 (Ij b),rfl⟩
 rintro⟨g,b,rfl⟩;obtain rfl|b:=vM.1 b;·exact Ii rfl
 refine Ij ⟨⟨g,b,rfl⟩,λe=>?_⟩;have i:=h.has d;rw[f]at i;have:dU (E 1) (nmK s)=true:=(aEP _ _).2 ⟨_,(h.e1 _).2 ⟨g,b,rfl⟩,e⟩;rw[i]at this;cases this
theorem Rep.kill(h:Rep E c)(i:nmB s=true){E':Nat->En}(h0:E' 0=aIt (E 0) (nmK s))(h1:E' 1=zH (E 1) (nmK s)):Rep E' (bY c s):=by
 have m:=(mG i).1;refine⟨by rw[h0];exact aBT h.r0 _,by rw[h1];exact aGq h.r1 _,λe=>?_,λe=>?_,h.ok.kill⟩
 ·rw[h0,aKn,h.e0];have n:∀ {b:Ky×Tx},b∈c->∀ {f:Nat×List UInt8},e∈wM b.1 f.1 f.2->(nmK s <+: e.1↔s=b.1):=λ{b} d {f} g=>by
   obtain⟨o,_,rfl⟩:=eO.1 g;exact aFa m (mG (h.ok.name b d)).1 _
  constructor;·rintro⟨⟨b,d,f,k,g⟩,l⟩;exact⟨b,dO.2 ⟨d,λe=>l ((n d g).2 e.symm)⟩,f,k,g⟩
  rintro⟨b,d,f,k,g⟩;obtain⟨d,j⟩:=dO.1 d;exact⟨⟨b,d,f,k,g⟩,λl=>j ((n d g).1 l).symm⟩
 rw[h1,aKl,h.e1];constructor;·rintro⟨⟨b,d,rfl⟩,j⟩;exact⟨b,dO.2 ⟨d,λe=>j (by show nmK b.1=_;rw[e])⟩,rfl⟩
 rintro⟨b,d,rfl⟩;obtain⟨d,j⟩:=dO.1 d;refine⟨⟨b,d,rfl⟩,λe=>j ?_⟩;have f:nmK b.1 <+: zB s []:=(by rw[<- uM];exact⟨[],by rw[jH];exact e⟩);exact(aFa (mG (h.ok.name b d)).1 m _).1 f
theorem Z55{P:Prop} (h:P:=by
 rintro⟨x,hx,rfl⟩;rcases yF.1 hx with ⟨hx,_⟩ | ⟨y,hy,hyz,rfl⟩
 ·exact⟨x,hx,rfl⟩
 ·exact⟨y,hy,by rw[hyz]⟩):P:=h
theorem Rep.drop(h:Rep E c)(m:pK c s=true){n:Nat}(l:n<4294967296){E':Nat->En}(h0:E' 0=aIt (E 0) (zB s [n]))(h1:E' 1=E 1):Rep E' (iW c s λf=>lU f n):=by
 obtain⟨i,b,rfl⟩:=sJ.1 m;have j:=(mG (h.ok.name i b)).1;refine⟨by rw[h0];exact aBT h.r0 _,by rw[h1];exact h.r1,λe=>?_,λe=>?_,h.ok.set (λf g=>aIs n g) λf g b d=>g b (cO.1 d).1⟩
 ·rw[h0,aKn,h.e0];have k:∀ {x:Ky×Tx},x∈c->∀ {b:Nat×List UInt8},b∈x.2->e∈wM x.1 b.1 b.2->(zB i.1 [n] <+: e.1↔i.1=x.1/\n=b.1):=λ{x} hx {b} d f=>aAI j (mG (h.ok.name x hx)).1 l (h.ok.fit x hx b d).1 f;constructor
  ·rintro⟨⟨x,hx,b,d,f⟩,j⟩;by_cases g:x.1=i.1
   ·exact⟨(i.1,lU x.2 n),yF.2 (Ij ⟨x,hx,g,rfl⟩),b,cO.2 ⟨d,λe=>j ((k hx d f).2 ⟨g.symm,e.symm⟩)⟩,by rw[<- g];exact f⟩
   exact⟨x,yF.2 (Ii ⟨hx,g⟩),b,d,f⟩
  rintro⟨x,hx,b,d,f⟩;obtain⟨hx,l⟩|⟨y,hy,hyz,rfl⟩:=yF.1 hx;·exact⟨⟨x,hx,b,d,f⟩,λj=>l ((k hx d f).1 j).1.symm⟩
  obtain⟨d,l⟩:=cO.1 d;have o:e∈wM y.1 b.1 b.2:=(by rw[hyz];exact f);exact⟨⟨y,hy,b,d,o⟩,λj=>l ((k hy d o).1 j).2.symm⟩
 rw[h1,h.e1];constructor
 ·rintro⟨x,hx,rfl⟩;by_cases g:x.1=i.1
  ·exact⟨(i.1,lU x.2 n),yF.2 (Ij ⟨x,hx,g,rfl⟩),by rw[g]⟩
  exact⟨x,yF.2 (Ii ⟨hx,g⟩),rfl⟩
 exact Z55
theorem aGt(l:Tx)(n:Nat)(b:List UInt8)(t:Nat×List UInt8):t∈with_ l n b↔t=(n,b)∨t∈lU l n:=by rw[aAH,cO]
theorem Rep.put(h:Rep E c)(q:pK c s=true){n:Nat}(m:n<4294967296){b:List UInt8}(l:li b<=65536){E':Nat->En}(h0:E' 0=aPw s n b 0 (np b) (aIt (E 0) (zB s [n])))(h1:E' 1=E 1):Rep E' (iW c s λi=>with_ i n b):=by
 have p:=h.drop q m (E':=λd=>if d=0 then aIt (E 0) (zB s [n]) else E d) rfl rfl;obtain⟨f,k,rfl⟩:=sJ.1 q;have o:=(mG (h.ok.name f k)).1;have u:=aRM l;have r:∀i:Tx,(∀d∈i,d.1<4294967296/\li d.2<=65536)->∀d∈with_ i n b,d.1<4294967296/\li d.2<=65536:=λi j d g=>by
  obtain rfl|⟨g,_⟩:=aAH.1 g;·exact⟨m,l⟩
  exact j d g
 refine⟨by rw[h0];exact aGs _ _ _ _ _ (aBT h.r0 _),by rw[h1];exact h.r1,λe=>?_,λe=>?_,h.ok.set (λi j=>aKm n b j) r⟩
 ·have j:∀e,e∈aIt (E 0) (zB f.1 [n])↔∃x∈iW c f.1 λi=>lU i n,∃d∈x.2,e∈wM x.1 d.1 d.2:=p.e0;rw[h0,aKo o m b (np b) 0 (by omega),j];constructor
  ·rintro(⟨j,_,v,rfl⟩|⟨⟨x,hx,d,g,i⟩,_⟩)
   ·refine⟨(f.1,with_ f.2 n b),yF.2 (Ij ⟨f,k,rfl,rfl⟩),(n,b),aAH.2 (Ii rfl),eO.2 ⟨j,by show j<np b;omega,rfl⟩⟩
   obtain⟨hx,k⟩|⟨y,hy,hyz,rfl⟩:=yF.1 hx;·exact⟨x,yF.2 (Ii ⟨hx,k⟩),d,g,i⟩
   exact⟨(f.1,with_ y.2 n b),yF.2 (Ij ⟨y,hy,hyz,rfl⟩),d,(aGt _ _ _ _).2 (Ij g),i⟩
  rintro⟨x,hx,d,g,i⟩;have p:∀ {y:Ky} {l:Nat×List UInt8},NoZ y->l.1<4294967296->e∈wM y l.1 l.2->¬ (f.1=y/\n=l.1)->∀j,0<=j->j<0+np b->e.1≠zB f.1 [n,j]:=λ{y l} hy r i k j _ _ t=>by have l:zB f.1 [n] <+: e.1:=(by rw[t,show[n,j]=[n]++[j] from rfl,fM];exact aLr ..);exact k ((aAI o hy m r i).1 l)
  obtain⟨hx,k⟩|⟨y,hy,hyz,rfl⟩:=yF.1 hx;·exact Ij ⟨⟨x,yF.2 (Ii ⟨hx,k⟩),d,g,i⟩,p (mG (h.ok.name x hx)).1 (h.ok.fit x hx d g).1 i λh=>k h.1.symm⟩
  obtain rfl|g:=(aGt _ _ _ _).1 g;·obtain⟨j,k,rfl⟩:=eO.1 i;exact Ii ⟨j,by omega,by simpa using k,rfl⟩
  have j:=cO.1 g;exact Ij ⟨⟨(f.1,lU y.2 n),yF.2 (Ij ⟨y,hy,hyz,rfl⟩),d,g,i⟩,p o (h.ok.fit y hy d j.1).1 i λh=>j.2 h.2.symm⟩
 rw[h1,h.e1];constructor
 ·rintro⟨x,hx,rfl⟩;by_cases d:x.1=f.1
  ·exact⟨(f.1,with_ x.2 n b),yF.2 (Ij ⟨x,hx,d,rfl⟩),by rw[d]⟩
  exact⟨x,yF.2 (Ii ⟨hx,d⟩),rfl⟩
 exact Z55
end
noncomputable def cutL (L:En) (r:SE×Int):SE×Int:=L.foldl (fun r e=>if r.2=0 then delS r.1 0 e.1 else r) r
noncomputable def cutS (x:SE) (k:Ky):SE×Int:=cutL (eD (x.E 0) k) (x,0)
noncomputable def layS (s:Ky) (n:Nat) (b:List UInt8):Nat->Nat->SE->SE×Int
 | _,0,x=>(x,0)
 | j,m+1,x=>if (putS x 0 (zB s [n,j]) (pc b j)).2=0 then layS s n b (j+1) m (putS x 0 (zB s [n,j]) (pc b j)).1 else putS x 0 (zB s [n,j]) (pc b j)
noncomputable def isS (x:SE) (s:Ky):Bool:=nmB s&&dU (x.E 1) (nmK s)
noncomputable def aGu (x:SE) (s:Ky):SE×Int:=if (cutS x (nmK s)).2=0 then delS (cutS x (nmK s)).1 1 (nmK s) else cutS x (nmK s)
noncomputable def aCv (x:SE) (s:Ky) (id:Int) (b:List UInt8):SE×Int:=
 if idB id=false then (x,1) else if 65536<b.length then (x,4)
 else if (cutS x (zB s [id.toNat])).2=0 then layS s id.toNat b 0 (np b) (cutS x (zB s [id.toNat])).1 else cutS x (zB s [id.toNat])
noncomputable def aAJ (x:SE) (s:Ky) (id:Int):SE×Int:=
 if idB id=false then (x,6)
 else if (cutS x (zB s [id.toNat])).2=0/\eD (x.E 0) (zB s [id.toNat])=[] then ((cutS x (zB s [id.toNat])).1,6) else cutS x (zB s [id.toNat])
noncomputable def aAK (x:SE) (s:Ky):SE×Int:=if nmB s=false then (x,1) else if dU (x.E 1) (nmK s)=true then (x,7) else putS x 1 (nmK s) []
noncomputable def oneS (x:SE) (o:OpC):SE×Int:=
 if o.what=1 then aAK x o.coll
 else if o.what=2∨o.what=3∨o.what=4 then
  if isS x o.coll=false then (x,6)
  else if o.what=2 then aGu x o.coll
  else if o.what=3 then aCv x o.coll o.id o.text
  else aAJ x o.coll o.id
 else (x,1)
noncomputable def allS:SE->List OpC->SE×Int
 | x,[]=>(x,0)
 | x,o::l=>if (oneS x o).2=0 then allS (oneS x o).1 l else oneS x o
noncomputable def doS (x:SE) (l:List OpC):SE×Int:=
 if (allS x l).2≠0 then (⟨{ (allS x l).1.s with late:=[] },x.E⟩,(allS x l).2)
 else if (allS x l).1.s.commit.2≠0 then (⟨{ (allS x l).1.s.commit.1 with late:=[] },x.E⟩,(allS x l).1.s.commit.2)
 else (⟨(allS x l).1.s.commit.1,(allS x l).1.E⟩,0)
theorem aIu(x:SE)(t:Nat)(k v:Ky):((putS x t k v).2=0/\(putS x t k v).1.E=oE x.E t (tI (x.E t) k v))∨putS x t k v=(x,5):=by
 unfold putS;split
 ·split
  ·exact Ii ⟨rfl,rfl⟩
  exact Ij rfl
 exact Ij rfl
theorem aIv(x:SE)(t:Nat)(k:Ky):((delS x t k).2=0/\(delS x t k).1.E=oE x.E t (zH (x.E t) k))∨delS x t k=(x,5):=by
 unfold delS;split;·exact Ii ⟨rfl,rfl⟩
 split
 ·split
  ·exact Ii ⟨rfl,rfl⟩
  exact Ij rfl
 exact Ij rfl
theorem aBU(e:Ky×List UInt8)(L:En)(r:SE×Int):cutL (e::L) r=cutL L (if r.2=0 then delS r.1 0 e.1 else r):=rfl
theorem aKp:∀(L:En) {r:SE×Int},r.2≠0->cutL L r=r
 | [],_,_=>rfl
 | e::L,r,h=>by rw[aBU,eA h,aKp L h]
theorem aNV:∀(L:En) (x:SE),((cutL L (x,0)).2=0/\(cutL L (x,0)).1.E 0=L.foldl (λb e=>zH b e.1) (x.E 0)/\∀t,t≠0->(cutL L (x,0)).1.E t=x.E t)∨(cutL L (x,0)).2=5
 | [],x=>Ii ⟨rfl,rfl,λ_ _=>rfl⟩
 | e::L,x=>by
  rw[aBU,iA rfl];obtain⟨d,b⟩|f:=aIv x 0 e.1
  ·have c:delS x 0 e.1=((delS x 0 e.1).1,0):=(by rw[<- d]);rw[c];obtain⟨a,d,g⟩|a:=aNV L (delS x 0 e.1).1
   ·refine Ii ⟨a,?_,λt c=>?_⟩
    ·rw[d,b];rfl
    rw[g t c,b];exact eA c
   exact Ij a
  rw[f,aKp L (by simp)];exact Ij rfl
theorem aIw(x:SE)(k:Ky):((cutS x k).2=0/\(cutS x k).1.E 0=aIt (x.E 0) k/\∀t,t≠0->(cutS x k).1.E t=x.E t)∨(cutS x k).2=5:=aNV _ _
theorem aNW(s:Ky)(n:Nat)(b:List UInt8):∀(m j:Nat) (x:SE),((layS s n b j m x).2=0/\(layS s n b j m x).1.E 0=aPw s n b j m (x.E 0)/\∀t,t≠0->(layS s n b j m x).1.E t=x.E t)∨(layS s n b j m x).2=5
 | 0,_,_=>Ii ⟨rfl,rfl,λ_ _=>rfl⟩
 | m+1,j,x=>by
  unfold layS;obtain⟨f,c⟩|d:=aIu x 0 (zB s [n,j]) (pc b j)
  ·rw[iA f];obtain⟨a,g,h⟩|a:=aNW s n b m (j+1) (putS x 0 (zB s [n,j]) (pc b j)).1
   ·refine Ii ⟨a,?_,λt f=>?_⟩
    ·rw[g,c];rfl
    rw[h t f,c];exact eA f
   exact Ij a
  rw[eA (by rw[d];show ¬ (5:Int)=0;decide),d];exact Ij rfl
theorem aFe{l:Tx}{n:Int}:aBS l n=true↔∃t∈l,(t.1:Int)=n:=by unfold aBS;rw[aAV];simp
theorem aTr{x:SE}{c:Ct}(h:Rep x.E c)(b:OpC):((oneS x b).2=(pQ c b).2/\((pQ c b).2=0->Rep (oneS x b).1.E (pQ c b).1))∨(oneS x b).2=5:=by
 unfold oneS pQ;by_cases f:b.what=1
 ·rw[iA f,iA f];unfold aAK;cases d:nmB b.coll with
  | false=>exact Ii ⟨rfl,λh=>absurd h (by simp)⟩
  | true=>
   simp only[yR,eF];rw[h.has d];cases i:pK c b.coll with
   | true=>exact Ii ⟨rfl,λh=>absurd h (by simp)⟩
   | false=>
    simp only[nH,eF];rcases aIu x 1 (nmK b.coll) []with ⟨a,g⟩|a;·exact Ii ⟨a,λ_=>h.made d i (by rw[g];rfl) (by rw[g];rfl)⟩
    rw[a];exact Ij rfl
 rw[eA f,eA f];by_cases o:b.what=2∨b.what=3∨b.what=4
 ·rw[iA o,iA o];have f:isS x b.coll=pK c b.coll:=by
   unfold isS;cases d:nmB b.coll with
   | false=>rw[h.no d];rfl
   | true=>rw[h.has d];rfl
  rw[f];cases i:pK c b.coll with
  | false=>exact Ii ⟨rfl,λh=>absurd h (by simp)⟩
  | true=>
   have d:nmB b.coll=true:=by
    cases d:nmB b.coll with
    | true=>rfl
    | false=>rw[h.no d]at i;cases i
   obtain⟨f,n,m⟩:=sJ.1 i;simp only[yR,eF];by_cases k:b.what=2
   ·rw[iA k,iA k];unfold aGu;obtain⟨a,g,l⟩|a:=aIw x (nmK b.coll)
    ·rw[iA a];obtain⟨e,j⟩|e:=aIv (cutS x (nmK b.coll)).1 1 (nmK b.coll)
     ·exact Ii ⟨e,λ_=>h.kill d (by rw[j];exact g) (by rw[j];show zH _ _=_;rw[l 1 (by omega)])⟩
     rw[e];exact Ij rfl
    rw[eA (by rw[a];decide)];exact Ij a
   rw[eA k,eA k];by_cases d:b.what=3
   ·rw[iA d,iA d];unfold aCv;cases p:idB b.id with
    | false=>exact Ii ⟨rfl,λh=>absurd h (by simp)⟩
    | true=>
     simp only[yR,eF];have r:=cK.1 p;by_cases k:65536<li b.text;·rw[iA k,iA k];exact Ii ⟨rfl,λh=>absurd h (by simp)⟩
     rw[eA k,eA k];obtain⟨a,g,l⟩|a:=aIw x (zB b.coll [b.id.toNat])
     ·rw[iA a];obtain⟨e,j,k⟩|e:=aNW b.coll b.id.toNat b.text (np b.text) 0 (cutS x (zB b.coll [b.id.toNat])).1
      ·exact Ii ⟨e,λ_=>h.put i (by omega) (by omega) (by rw[j,g]) (by rw[k 1 (by omega),l 1 (by omega)])⟩
      exact Ij e
     rw[eA (by rw[a];decide)];exact Ij a
   rw[eA d,eA d];unfold aAJ;rw[<- m]at i⊢;have q:=h.ok.tx n;cases p:idB b.id with
   | false=>
    have k:aBS (txC c f.1) b.id=false:=by
     cases j:aBS (txC c f.1) b.id with
     | false=>rfl
     | true=>rw[q]at j;obtain⟨d,m,e⟩:=aFe.1 j;have:=(h.ok.fit f n d m).1;have:idB b.id=true:=cK.2 ⟨by omega,by omega⟩;rw[p]at this;cases this
    rw[iA rfl,k];exact Ii ⟨rfl,λh=>absurd h (by simp)⟩
   | true=>
    simp only[yR,eF];have r:=cK.1 p;cases j:aBS (txC c f.1) b.id with
    | false=>have k:eD (x.E 0) (zB f.1 [b.id.toNat])=[]:=h.none n (by omega) λd m e=>(by have:aBS (txC c f.1) b.id=true:=(by rw[q];exact aFe.2 ⟨d,m,by omega⟩);rw[j]at this;cases this);have p:cutS x (zB f.1 [b.id.toNat])=(x,0):=(by unfold cutS;rw[k];rfl);rw[p,iA ⟨rfl,k⟩];exact Ii ⟨rfl,λh=>absurd h (by simp)⟩
    | true=>
     rw[q]at j;obtain⟨d,m,e⟩:=aFe.1 j;have p:¬ eD (x.E 0) (zB f.1 [b.id.toNat])=[]:=λk=>(by have j:b.id.toNat=d.1:=(by omega);rw[j,h.text n m]at k;have j:=congrArg List.length k;unfold wM at j;rw[cH,List.length_range]at j;have:=aFc d.2;simp at j;omega);rw[eA λh=>p h.2];obtain⟨a,g,l⟩|a:=aIw x (zB f.1 [b.id.toNat]);·exact Ii ⟨a,λ_=>h.drop i (by omega) g (l 1 (by omega))⟩
     exact Ij a
 rw[eA o,eA o];exact Ii ⟨rfl,λh=>absurd h (by simp)⟩
theorem aMF(f:Ct):∀(l:List OpC) {x:SE} {c:Ct},Rep x.E c->((allS x l).2=(doC f c l).2/\((doC f c l).2=0->Rep (allS x l).1.E (doC f c l).1))∨(allS x l).2=5
 | [],_,_,d=>Ii ⟨rfl,λ_=>d⟩
 | o::l,x,c,d=>by
  unfold allS doC;obtain⟨a,g⟩|a:=aTr d o
  ·by_cases b:(pQ c o).2=0
   ·rw[iA (by rw[a];exact b),iA b];exact aMF f l (g b)
   rw[eA (by rw[a];exact b),eA b];exact Ii ⟨a,λd=>absurd d b⟩
  rw[eA (by rw[a];decide)];exact Ij a
theorem mE.cut1{N:Nat}{E:Nat->En}(h:mE N E)(t:Nat)(key:Ky):mE N (oE E t (zH (E t) key)):=h.set t ((h.rise t).filter _) (by have:=aRq (E t) key;have:=h.few t;omega) λe b=>h.keys t e (cL.1 b).1
theorem mE.putS{N:Nat}{x:SE}(h:mE N x.E)(t:Nat){k:Ky}(c:li k<=600)(v:Ky):mE (N+1) (putS x t k v).1.E:=by
 obtain⟨_,b⟩|b:=aIu x t k v;·rw[b];exact h.put t c v
 rw[b];exact h.mono (by omega)
theorem mE.delS{N:Nat}{x:SE}(h:mE N x.E)(t:Nat)(k:Ky):mE N (delS x t k).1.E:=by
 obtain⟨_,b⟩|b:=aIv x t k;·rw[b];exact h.cut1 t k
 rw[b];exact h
theorem mE.cutL{N:Nat}:∀(L:En) {r:SE×Int},mE N r.1.E->mE N (cutL L r).1.E
 | [],_,h=>h
 | e::L,r,h=>by
  rw[aBU];refine mE.cutL L ?_;split;·exact h.delS 0 e.1
  exact h
theorem mE.cutS{N:Nat}{x:SE}(h:mE N x.E)(k:Ky):mE N (cutS x k).1.E:=mE.cutL _ h
theorem mE.layS(s:Ky)(c:li s<=100)(n:Nat)(b:List UInt8):∀(m j:Nat) {N:Nat} {x:SE},mE N x.E->mE (N+m) (layS s n b j m x).1.E
 | 0,_,_,_,h=>h
 | m+1,j,N,x,h=>by
  unfold Go.Proofs.YtebjhcjbfaaejaaGreatDoor.layS;have d:=h.putS 0 (k:=zB s [n,j]) (by rw[qI];simp;omega) (pc b j);split;·exact(mE.layS s c n b m (j+1) d).mono (by omega)
  exact d.mono (by omega)
theorem mE.oneS{N:Nat}{x:SE}(h:mE N x.E){b:OpC}(c:li b.coll<=100)(ht:li b.text<=1500):mE (N+25) (oneS x b).1.E:=by
 have f:np b.text<=24:=by unfold np;omega
 have d:li (nmK b.coll)<=600:=by rw[uM,qI];simp;omega
 have b:=h.mono (M:=N+25) (by omega);unfold Go.Proofs.YtebjhcjbfaaejaaGreatDoor.oneS;split
 ·unfold aAK;split
  ·exact b
  split;·exact b
  exact(h.putS 1 d []).mono (by omega)
 split
 ·split
  ·exact b
  split
  ·unfold aGu;split
   ·exact((h.cutS _).delS 1 _).mono (by omega)
   exact(h.cutS _).mono (by omega)
  split
  ·unfold aCv;split
   ·exact b
   split;·exact b
   split;·exact((mE.layS _ c _ _ _ _ (h.cutS _))).mono (by omega)
   exact(h.cutS _).mono (by omega)
  unfold aAJ;split;·exact b
  split;·exact(h.cutS _).mono (by omega)
  exact(h.cutS _).mono (by omega)
 exact b
def OkO (o:OpC):Prop:=o.coll.length<=100/\o.text.length<=1500
theorem mE.allS:∀(l:List OpC) {N:Nat} {x:SE},mE N x.E->(∀o∈l,OkO o)->mE (N+25*li l) (allS x l).1.E
 | [],_,_,h,_=>h
 | o::l,N,x,h,ho=>by
  unfold Go.Proofs.YtebjhcjbfaaejaaGreatDoor.allS;have b:=h.oneS (ho o (eC ..)).1 (ho o (eC ..)).2;rw[bD];split;·exact(mE.allS l b λc d=>ho c (jD _ d)).mono (by omega)
  exact b.mono (by omega)
section
variable {c:Nat}{s:PS}{C:Nat->List UInt8}
theorem fG.app4(h:fG c s C)(f:c+1<4294967296){b:List UInt8}(i:nL s.n b s.held=some O)(d:O≠[])(g:rA (li b)<=65535):rD s.D s.l b≠4:=by
 obtain⟨a,_⟩|⟨_,_,a,_⟩|⟨a,_⟩|⟨a,_⟩:=h.app f i d;·omega
 ·rw[a];decide
 ·rw[a];decide
 rw[a];decide
theorem fG.not4(h:fG c s C)(A:c+4<4294967296)(B:s.n<=100):s.commit.2≠4:=by
 have g:¬s.br=true:=by rw[h.br];decide
 by_cases b:s.late=[];·unfold PS.commit;rw[eA g,iA b];show(0:Int)≠4;decide
 have i:rA (li (nE s.late))<=65535:=by have d:=gS h.late.mem;have p:=h.late.few;unfold rA;split<;>omega
 have q:=h.n2;have j:nL s.n (nE s.late) s.held=some (rI s.held s.late):=aAa (by omega) s.late s.held h.late.mem;have m:(s.append (nE s.late)).2≠4:=by
  have d:=h.app4 (by omega) j (iQ h.late b) i;unfold PS.append;by_cases f:rD s.D s.l (nE s.late)≠5∨s.held=[];·rw[iA f];exact d
  rw[eA f];have d:rD s.D s.l (nE s.late)=5:=by
   by_cases k:rD s.D s.l (nE s.late)=5;·exact k
   exact absurd (Ii k) f
  have f:s.laid (nE s.late)=s:=by
   obtain⟨_,a,_⟩|⟨_,_,_,a⟩|⟨a,_⟩|⟨a,_⟩:=h.app (by omega) j (iQ h.late b);·rw[d]at a;cases a
   ·exact a
   ·rw[d]at a;cases a
   rw[d]at a;cases a
  rw[f];obtain⟨d,o,r,t,f,u,v⟩|⟨d,_⟩:=h.checked (by omega);·rw[eA (by rw[d];decide)];have j:nL s.check.1.n (nE s.late) s.check.1.held=some (rI s.check.1.held s.late):=aAa (by omega) s.late _ (by rw[f];exact h.late.mem);have k:tH s.check.1.n s.late:=(by rw[f];exact h.late);exact o.app4 (by omega) j (iQ k b) i
  rw[iA (by rw[d];decide),d];decide
 unfold PS.commit;rw[eA g,eA b];split;·exact m
 show(0:Int)≠4;decide
end
structure vL (c:Nat) (s:PS) (K:Nat->En):Prop where
 inv:∃C,fG c s C/\kK C s.n K
 done:s.D.done<=300000*c
def aFf (c n log:Nat) (D:DM) (K:Nat->En):Prop:=∃C,zL c n log D C/\kK C n K
section
variable {c:Nat}{s s':PS}{K E:Nat->En}
theorem vL.mono{c':Nat}(h:vL c s K)(b:c<=c'):vL c' s K:=by obtain⟨d,f,g⟩:=h.inv;exact⟨⟨d,f.mono b,g⟩,by have:=h.done;omega⟩
theorem Wr.comL(h:Wr s s')(b:vL c s K):vL c s' K:=by obtain⟨d,f,g⟩:=b.inv;exact⟨⟨d,h.inv f,by rw[h.same.n];exact g⟩,by rw[h.same.D];exact b.done⟩
theorem vL.br(h:vL c s K):s.br=false:=by obtain⟨d,b,_⟩:=h.inv;exact b.br
theorem vL.calm(h:vL c s K):aCA s:=by obtain⟨d,b,_⟩:=h.inv;exact b.calm
theorem vL.held(h:vL c s K):li s.held<=s.n:=by obtain⟨d,b,_⟩:=h.inv;exact b.held.few
theorem vL.n2(h:vL c s K):s.n<=4096:=by obtain⟨d,b,_⟩:=h.inv;exact b.n2
theorem vL.store(h:vL c s K)(b:s.late=[]):kK s.page s.n K:=by obtain⟨g,d,f⟩:=h.inv;exact f.congr λi f=>by rw[d.page_eq f,b];rfl
theorem vL.rolled(h:vL c s K):vL c { s with late:=[] } K:=by obtain⟨b,d,f⟩:=h.inv;exact⟨⟨b,d.rolled,f⟩,h.done⟩
theorem aFf.open_{n log:Nat}{D:DM}(h:aFf c n log D K)(g:c+1<4294967296)(i:D.done<=300000*(c+1)): ∃H,qG n ((vA log none (D.S.take log)).map (·.2)) []=some H/\vL (c+1) (qH n log D H) K/\(lC (D.S.take log)).1<4294967295/\D.dead=false/\D.P=[]/\log+8*n<=li D.S/\1<=n/\n<=4096/\1<=log:=by obtain⟨d,b,f⟩:=h;obtain⟨H,j,k,l⟩:=b.open_ g;exact⟨H,j,⟨⟨d,k,f⟩,i⟩,l,b.dead,b.pend,b.fit,b.n1,b.n2,b.log1⟩
theorem vL.commit(h:vL c s K)(q:c+4<4294967296)(r:s.n<=100)(p:kK s.page s.n E): (s.commit.2=0/\vL (c+3) s.commit.1 E/\s.commit.1.late=[]/\s.commit.1.n=s.n/\s.commit.1.l.n=s.l.n/\(s.D.limit = -1->s.commit.1.D.limit = -1)) ∨(s.commit.2=5/\vL (c+3) s.commit.1 K/\s.commit.1.n=s.n/\s.commit.1.l.n=s.l.n/\(s.D.limit = -1->s.commit.1.D.limit = -1)) ∨(s.commit.2=10/\s.commit.1.D.dead=true/\s.D.limit≠-1/\s.commit.1.D.done<=300000*(c+3)/\∀Q,aFf (c+3) s.n s.l.n (s.commit.1.D.reopen Q) K∨aFf (c+3) s.n s.l.n (s.commit.1.D.reopen Q) E):=by
 have u:s.commit.2≠4:=by obtain⟨m,d,_⟩:=h.inv;exact d.not4 q r
 have v:=aJY s h.held h.n2;have k:s.commit.1.D.done<=300000*(c+3):=by have:=h.done;omega
 obtain⟨m,d,t⟩:=h.inv;obtain⟨f,g,j,b,i,o⟩|⟨f,g,j,b,i,o,_⟩|⟨f,g,j,b⟩:=d.committed q;·refine Ii ⟨f,⟨⟨_,g,?_⟩,k⟩,j,b,i,o⟩;rw[b];exact p.congr λi q=>(d.page_eq q).symm
 ·exact Ij (Ii ⟨f.resolve_left u,⟨⟨m,g,by rw[b];exact t⟩,k⟩,b,i,o⟩)
 refine Ij (Ij ⟨f,g,j,k,λQ=>?_⟩);obtain f|f:=b Q;·exact Ii ⟨m,f,t⟩
 exact Ij ⟨_,f,p.congr λi q=>(d.page_eq q).symm⟩
theorem vL.check(h:vL c s K)(r:c+1<4294967296): (s.check.2=0/\vL (c+1) s.check.1 K/\s.check.1.late=s.late/\s.check.1.n=s.n/\s.check.1.l.n=s.l.n/\(s.D.limit = -1->s.check.1.D.limit = -1)) ∨(s.check.2=10/\s.check.1.D.dead=true/\s.D.limit≠-1/\s.check.1.D.done<=300000*(c+1)/\∀Q,aFf (c+1) s.n s.l.n (s.check.1.D.reopen Q) K):=by
 have t:=xY s h.held h.n2;have g:s.check.1.D.done<=300000*(c+1):=by have:=h.done;omega
 obtain⟨i,m,j⟩:=h.inv;obtain⟨b,d,_,f,k,o,p⟩|⟨b,d,q,f⟩:=m.checked r;·exact Ii ⟨b,⟨⟨i,d,by rw[k];exact j⟩,g⟩,f,k,o,p⟩
 exact Ij ⟨b,d,q,g,λQ=>⟨i,f Q,j⟩⟩
end
theorem aGv(b:Ct):∀(l:List OpC) (c:Ct),(doC b c l).2≠10
 | [],_=>by show(0:Int)≠10;decide
 | o::l,c=>by
  unfold doC;split;·exact aGv b l _
  show(pQ c o).2≠10;unfold pQ;repeat' split
  all_goals simp
structure Liv (cc N:Nat) (x:SE) (c:Ct):Prop where
 com:vL cc x.s x.E
 late:x.s.late=[]
 few:mE N x.E
 rep:Rep x.E c
theorem Liv.mono{N cc' N':Nat}{x:SE}{c:Ct}(h:Liv n N x c)(h1:n<=cc')(h2:N<=N'):Liv cc' N' x c:=⟨h.com.mono h1,h.late,h.few.mono h2,h.rep⟩
def aCF (cc N n log:Nat) (D:DM) (c:Ct):Prop:=∃E,aFf cc n log D E/\mE N E/\Rep E c
theorem aNX{N:Nat}{x:SE}{c:Ct}(h:Liv i N x c){l:List OpC}(A:∀o∈l,OkO o)(j:Wr x.s (allS x l).1.s)(B:kK (allS x l).1.s.page x.s.n (allS x l).1.E)(y:i+4<4294967296)(C:x.s.n<=100): ((doS x l).2=10/\(doS x l).1.s.D.dead=true/\x.s.D.limit≠-1/\(doS x l).1.s.D.done<=300000*(i+3)/\(doC c c l).2=0/\∀Q,aCF (i+3) (N+25*li l) x.s.n x.s.l.n ((doS x l).1.s.D.reopen Q) c∨aCF (i+3) (N+25*li l) x.s.n x.s.l.n ((doS x l).1.s.D.reopen Q) (doC c c l).1) ∨(((doS x l).2=(doC c c l).2∨(doS x l).2=5)/\(doS x l).2≠10/\(doS x l).1.s.n=x.s.n/\(doS x l).1.s.l.n=x.s.l.n/\(x.s.D.limit = -1->(doS x l).1.s.D.limit = -1)/\Liv (i+3) (N+25*li l) (doS x l).1 (if (doS x l).2=0 then (doC c c l).1 else c)):=by
 have r:=mE.allS l h.few A;have q:mE (N+25*li l) x.E:=h.few.mono (by omega);have b:=j.same;have t:=aMF c l h.rep;have u:=j.comL h.com;have v:=aGv c l c;unfold doS;by_cases k:(allS x l).2=0
 ·have j:¬ (allS x l).2≠0:=λh=>h k;rw[eA j];have p:(doC c c l).2=0/\Rep (allS x l).1.E (doC c c l).1:=by
   obtain⟨a,j⟩|a:=t;·exact⟨by rw[<- a];exact k,j (by rw[<- a];exact k)⟩
   rw[k]at a;cases a
  rcases u.commit y (by rw[b.n];exact C) (E:=(allS x l).1.E) (by rw[b.n];exact B) with ⟨a,j,d,e,f,g⟩|⟨a,j,e,f,g⟩|⟨a,j,d,e,f⟩;·rw[eA (by rw[a];decide)];refine Ij ⟨Ii p.1.symm,by show(0:Int)≠10;decide,by rw[<- b.n];exact e,by rw[<- b.l];exact f,λm=>g (by rw[b.D];exact m),?_⟩;rw[iA rfl];exact⟨j,d,r,p.2⟩
  ·rw[iA (by rw[a];decide)];refine Ij ⟨Ij a,by show(allS x l).1.s.commit.2≠10;rw[a];decide,by rw[<- b.n];exact e,by rw[<- b.l];exact f,λm=>g (by rw[b.D];exact m),?_⟩;rw[eA (by show ¬ (allS x l).1.s.commit.2=0;rw[a];decide)];exact⟨(j.rolled),rfl,q,h.rep⟩
  rw[iA (by rw[a];decide)];refine Ii ⟨a,j,by rw[<- b.D];exact d,e,p.1,λQ=>?_⟩;rw[<- b.n,<- b.l];obtain j|j:=f Q;·exact Ii ⟨x.E,j,q,h.rep⟩
  exact Ij ⟨_,j,r,p.2⟩
 rw[iA k];have j:((allS x l).2=(doC c c l).2∨(allS x l).2=5)/\(allS x l).2≠10:=by
  obtain⟨a,_⟩|a:=t;·exact⟨Ii a,by rw[a];exact v⟩
  exact⟨Ij a,by rw[a];decide⟩
 refine Ij ⟨j.1,j.2,b.n,by rw[<- b.l],λm=>by show(allS x l).1.s.D.limit = -1;rw[b.D];exact m,?_⟩;rw[eA k];exact⟨(u.mono (by omega)).rolled,rfl,q,h.rep⟩
section
open Go.RowKit Go.ChangeMaps Go.MapKept Go.Maps Go.Sort Go.Shelf
def aFg:Nat->CD->Nat->Ky->Nd->Prop
 | 0,_,_,_,_=>False
 | f+1,c,k,key,nf=>∃n,c.N k=some n/\aCp n.l/\((n.lf=true/\nf=n)∨(n.lf=false/\aFg f c (n.child (n.way key)) key nf))
theorem aKq:∀(h:Nat) {f:Nat} {c:CD} {k:Nat} {lo hi:Option Ky} {E:En} {P:List Nat} {key:Ky},h<f->Sub c.N 1 h k lo hi E P->wT lo key->kS hi key ->∃n,aFg f c k key n/\n.lf=true/\n.ok/\aCp n.l/\li n.l<=509/\sI (mC n.l)/\rR (mC n.l) key=rR E key
 | 0,f,c,k,lo,hi,E,P,key,hf,hs,h1,h2=>by obtain⟨f,rfl⟩:∃g,f=g+1:=⟨f-1,by omega⟩;obtain⟨n,o,d,j,m,p,rfl,b,rfl,rfl,i,B⟩:=hs;exact⟨n,⟨n,d,aX i,Ii ⟨b,rfl⟩⟩,b,j,aX i,pF m,i,rfl⟩
 | h+1,f,c,k,lo,hi,E,P,key,hf,hs,h1,h2=>by
  obtain⟨f,rfl⟩:∃g,f=g+1:=⟨f-1,by omega⟩;obtain⟨n,o,d,j,m,p,rfl,b,hK⟩:=hs;obtain⟨q,C,p,D,r,F,m,o⟩:=oS (n:=n) h1 h2;have i:=(fE.keys Sub.fine hK).1;have j:=i;rw[p]at hK j;have p:=(wQ.1 j).1;obtain⟨G,H,j,I,J,L,s,t,u,rfl,rfl⟩:=fE.focus.1 hK;obtain⟨v,x⟩:=zY Sub.fine s u (_E0:=j) p m o;have j:n.child (n.way key)=qO n.first q:=by unfold Nd.child;rw[r]
  obtain⟨p,q,r,s,u,y,z,A⟩:=aKq h (f:=f) (by omega) t m o;refine⟨p,⟨n,d,i,Ij ⟨b,by rw[j];exact q⟩⟩,r,s,u,y,z,?_⟩;rw[A,aCl (λe b d=>bC key (by have:=v e b;rwa [d]at this)),aPe (λe b d=>bC key (by have:=x e b;rwa [d]at this))]
theorem aGw(b:Array Value)(w:World):(callFunc 101 b).run prog w=.ok (.enter 101 b) w:=by kernel_rfl
section
variable {w0 wS w:World}{dk g bc bn bs:Nat}{s:PS}{X D:Nat->Prop}{c:CD}
theorem aTs{t:Nat}{kv:Value}{key:Ky}{Q:Nd}(u:PgC w0 wS dk g s X c)(h:jF wS w g bc bn bs D c)(N:∃q,dA w kv key q/\D q)(v:∀q,w.heap.size<=q->D q)(ht:t<8)(x:aFg 40 c (c.roots t) key Q): Calls prog 108 #[pi (some ⟨bc,0,none⟩),ii ip (t:Int),kv] w λe f=>∃nv,e=iz (tl #[nv,ii ip 0])/\NdV D f 0 nv Q/\jF wS f g bc bn bs D c/\Fr [bc,bn,bs] w f:=by
 obtain⟨i,f⟩:=nm (w.alloc (iy znd.toArray 184));have k:Fr [] w i:=by rw[f];exact(jj [] w).alloc _
 have m:Blk i w.heap.size 184 znd:=by rw[f];exact jl w _ znd
 have p:∀q,D q->Off D [] [] q:=λq i=>⟨i,λ_ h=>by simp at h,λ_ h=>by simp at h⟩;have r:=lh (((Sx.start h v).key (N.imp λq i=>⟨i.1,p q i.2⟩)).new1 k m (tA _));have S:((t:Nat):Int)<8:=by omega
 have⟨HP,b0⟩:=hh2 u x;clear h N v u x k m p;have m:=(r.o.ch.blk).at_ (bH c g bn bs ht);refine cA λY M=>?_;go_enter func108,ntmps108;go_upto_region 1 with (with_reducible refine qA rfl 184 rfl (il #[ii ip 0,ii ip 0,si none 0 0]) znd.toArray zD rfl ?_);rw[<- f];clear f;go_wp2_with fail;go_loopw [8,18] (λv8 v18 wr=>∃f x:Nat,f<=40/\v8=ii ip (x:Int)/\v18=ii ip (f:Int)/\aFg (40-f) c x key Q/\Sx wS w g bc bn bs D [(w.heap.size,184,znd)] [] [.by_ kv key] c wr) (λ_ i _=>40-(intOf i).toNat);·exact⟨0,c.roots t,by omega,rfl,rfl,b0.o,r.o⟩
 obtain⟨f,x,N,rfl,rfl,F,k⟩:=hrel;have i:=lh k;clear k m;by_cases O:f<40
 ·obtain⟨B,k⟩:∃B,40-f=B+1:=⟨40-f-1,by omega⟩;rw[k]at F;obtain⟨n,m,r,u⟩:=F;obtain⟨z,A,v⟩:=i.o.ch.wf.N_ok m;have p:=pF v;have⟨V,b1,y,HW,b2⟩:=hh5 (jP HP.o i.o.ch m i.o.offD) r p u k;clear m r u A v p z k;go_wp2_with fail;refine V.o.mono ?_;rintro e r ⟨nv,rfl,k,u⟩;obtain⟨m,z,rfl,v⟩:=i.o.node_r u k;have p:=lh v;clear k u v i V;go_wp2_with (first
   | (with_reducible refine qA rfl 184 rfl (il #[ii ip 0,ii ip 0,si none 0 0]) znd.toArray zD rfl ?_)
   | (refine zA (W:=r) rfl 184 (.tmp 9) (.tmp 24) rfl [ii ip (fA n),ii ip (n.first:Int),si m (li n.l) z] rfl rfl rfl xB rfl aC ?_))
  intro T k v A;obtain⟨G,u⟩:=nm (r.heap.size);rw[<- u]at k⊢;have i:=lh (p.o.new1 v k (by omega));clear v k A u p;have p:=(i.o.loc _ (Hi _)).1.a 0;have r:=(i.o.loc _ (Hi _)).1.a 1;have u:=(i.o.loc _ (Hi _)).1.a 2;go_wp2_with fail;refine(aAv n).mono ?_;rintro e I ⟨rfl,v⟩;have k:=lh (i.o.quiet v);clear v i p r u;have p:=(k.o.loc _ (Hi _)).1.a 0;have r:=(k.o.loc _ (Hi _)).1.a 1;have u:=(k.o.loc _ (Hi _)).1.a 2;cases C:n.lf with
  | true=>
   have A:Q=n:=by
    obtain⟨_,h⟩|⟨h,_⟩:=HW.o;·exact h
    rw[C]at h;cases h
   have E:=lh A;clear C A;have i:=lh (k.o.perm (List.Perm.swap _ _ _));have v:=lh (i.o.loc _ (Hi _)).1;go_wp2_with (refine gE rfl 184 (.tmp 6) (.tmp 32) rfl [ii ip (fA n),ii ip (n.first:Int),si m (li n.l) z] rfl rfl v.o xB rfl aC ?_);intro U H J L;have⟨v,b4⟩:=hh2 (i.o.set_ J H) H;have HX:=lh (M.o _ _ ⟨_,rfl,by rw[E.o];exact(v.o.kn (n:=n) (Hi _)).weak Off.d,v.o.fin⟩);clear H J L k i p r u;go_wp2_with fail;exact qD (vC (g:=w.heap.size) (t':=184) (cs:=[ii ip (fA n),ii ip (n.first:Int),si m (li n.l) z]) (d:=_) rfl rfl b4.o Go.Proofs.Tryz.underlying184 rfl xB) rfl HX.o
  | false=>
   have A:aFg B c (n.child (n.way key)) key Q:=by
    obtain⟨h,_⟩|⟨_,h⟩:=HW.o;·rw[C]at h;cases h
    exact h
   have E:=lh A;clear C A;obtain⟨H,A,_⟩:=k.o.kb (b:=key) (.tail _ (Hi _));have C:=lh A;clear A;go_upto_region 7 with fail;have i:=lh (k.o.quiet ((jj [] I).drew));have p:=(i.o.loc _ (Hi _)).1.a 0;have r:=(i.o.loc _ (Hi _)).1.a 1;have u:=(i.o.loc _ (Hi _)).1.a 2;refine aj (λW=>W.cell? ⟨G,0,none⟩=some (ii ip (fA n))/\W.cell? ⟨G,1,none⟩=some (ii ip (n.first:Int))/\W.cell? ⟨G,2,none⟩=some (si m (li n.l) z)) [0,1,2] ?_;refine tks [0,1,2] ?_;iterate 3 (refine ac ⟨p,r,u⟩ ?_)
   refine tke ?_;refine ag 3 λK hK=>kA (l:=[.tmp 35,.tmp 36]) rfl [il #[ii ip (fA n),ii ip (n.first:Int),si m (li n.l) z],kv] rfl (aGw _) ((aIa (i.o.kn (n:=n) (Hi _)) (C.o.fr ((jj [] I).drew)) b1.o (by have:=y.o;omega)).mono ?_);rintro e C ⟨rfl,A⟩;refine⟨_,rfl,hK _ _ (λ_=>⟨aA A p,aA A r,aA A u⟩) ?_⟩;simp only[nrm];have v:=lh (i.o.quiet A);clear hK A;refine ag 4 λK hK=>kA (l:=[.tmp 34,.tmp 37]) rfl [il #[ii ip (fA n),ii ip (n.first:Int),si m (li n.l) z],ii ip ((n.way key:Nat):Int)] rfl (aO _) ((zN (v.o.kn (n:=n) (Hi _)) (cZ n key) (by have:=y.o;omega)).mono ?_);rintro e A ⟨rfl,z⟩;have m:=lh (v.o.quiet z);refine⟨_,rfl,hK _ _ (λ_=>⟨(m.o.loc _ (Hi _)).1.a 0,(m.o.loc _ (Hi _)).1.a 1,(m.o.loc _ (Hi _)).1.a 2⟩) ?_⟩;simp only[nrm];clear hK z;refine af 5 (λ_=>⟨(m.o.loc _ (Hi _)).1.a 0,(m.o.loc _ (Hi _)).1.a 1,(m.o.loc _ (Hi _)).1.a 2⟩) ?_;refine wd ?_ _;have HX:Hid (∃j x:Nat,j<=40/\ii ip ((n.child (n.way key):Nat):Int)=ii ip (x:Int)/\ii ip ((f:Int)+1)=ii ip (j:Int)/\aFg (40-j) c x key Q/\Sx wS w g bc bn bs D [(w.heap.size,184,znd)] [] [.by_ kv key] c A):=lh ⟨f+1,n.child (n.way key),O,rfl,rfl,by rw[show 40-(f+1)=B by have:=b2.o;omega];exact E.o,m.o.less (.cons _ (oC _)) (oC _) λf N=>by simp only[bB,kC,dC]at N⊢;simp[N]⟩;clear k i v m p r u;have i:=wi f (by omega);exact Z7
 obtain rfl:f=40:=(by omega);exact F.elim
end
theorem jW{P:Program}{b:Func}{tmps:Array Value}{w:World}{k c d:Tmp}(f:b.results=#[.tmp k,.tmp c,.tmp d]):(results b tmps).run P w=.ok (tl #[tmps.getD k undef,tmps.getD c undef,tmps.getD d undef]) w:=by simp[results,f,go_sem]
def aUI (E:Nat->En) (t:Nat) (key:Ky) (w:World) (e:Ending) (w':World):Prop:=
 ∃v,e=.returned (.tuple #[v,.bool (rR (E t) key).isSome,.int .i64 0])/\(∃q,dA w' v ((rR (E t) key).getD []) q/\w.heap.size<=q)/\Fr [] w w'
theorem aMG{c:CD}{E:Nat->En}{P:Nat->List Nat}{F:List Nat}{t:Nat}(key:Ky)(h:uI c E P F)(ht:t<8)(g:li (E t)<1099511627776)(i:c.roots t≠0): ∃n,aFg 40 c (c.roots t) key n/\n.lf=true/\n.ok/\aCp n.l/\li n.l<=509/\sI (mC n.l)/\rR (mC n.l) key=rR (E t) key:=by
 obtain⟨d,_,_⟩|⟨_,j,b⟩:=h.tree t ht;·exact absurd d i
 exact aKq j (f:=40) (cM b g) b (λ_ h=>by cases h) (λ_ h=>by cases h)
section
variable {w0 w:World}{dk g st:Nat}{s:PS}{X:Nat->Prop}{E:Nat->En}
theorem Get_X(h:StX w0 w dk g st s X E){t:Nat}(ht:t<8){kv:Value}{key:Ky}(j:dA w kv key k)(p:X k)(h1:1<=li key)(h2:li key<=96)(q:li (E t)<1099511627776): Calls prog 76 #[pi (some ⟨st,0,none⟩),ii ip (t:Int),kv] w (aUI E t key w):=by
 obtain⟨_,_,P,T,d⟩:=h.store;obtain⟨i,b⟩:=nm (oD s.page s.n);rw[<- b]at d;have c:=h.pgc;rw[<- b]at c;have m:eW (t:Int) key=true:=by exact Z73
 have⟨H,HC,b8,HF,f⟩:=hh5 h b c d (aIk (t:Int) j);rw[m]at f;have⟨HK,b9,b',V⟩:=hh4 j p q h.begin;clear h b c d j p h1 h2 q m;have N:((t:Nat):Int)<8:=by omega
 refine cA λb1 u=>?_;go_enter func76,ntmps76;go_wp2_with fail;refine f.o.mono ?_;rintro e c ⟨rfl,rfl⟩;go_wp2_with fail;refine V.o.mono ?_;rintro e c ⟨r,j,m,rfl,b⟩;rw[<- HC.o]at b;have⟨U,Y⟩:=hh2 (Sx.start b b.top) (H.o.key HK.o b9.o b.l1 b.l2 b.l3 b.fr);clear b V f;have q:=(U.o.ch.blk).at_ (bH i g j m ht);by_cases hr:i.roots t=0
 ·rw[hr]at q;have b:E t=[]:=by
   exact Z87
  have⟨d,c0⟩:=hh2 (u.o (iz (tl #[si none 0 0,ij false,ii ip 0])) c ⟨si none 0 0,by rw[b];rfl,⟨c.heap.size,by rw[b];exact dA.nil _ _,U.o.fin.1.fr.size⟩,U.o.fin.1.fr⟩) hr;clear hr b;go_wp2_with fail;exact qD (jW rfl) rfl d.o
 obtain⟨n,b,A,c,p,x,y,z⟩:=aMG key HF.o ht b'.o hr;have Q:¬ ((i.roots t:Nat):Int)=0:=by omega
 have⟨c1,a0,c3⟩:=hh3 p x c;have B:Hid (rR (E t) key=if gP n.l key then (n.l[lB n.l key]?).map (·.v) else none):=lh (by rw[<- z];exact aQS y);have⟨a3,c0⟩:=hh2 (aTs b8.o U.o.fin.1 Y.o U.o.fin.1.top ht b) hr;clear b A p x y z hr c;go_wp2_with fail;refine a3.o.mono ?_;rintro e x ⟨Z,rfl,c,i,y⟩;have b:∀p,Dm_ X w r j m p->Off (Dm_ X w r j m) [] [] p:=λp j=>⟨j,λ_ h=>by simp at h,λ_ h=>by simp at h⟩;obtain⟨z,A,_,rfl,_⟩:=c.open_;obtain⟨r,p,j⟩:=Y.o;have m:=lh (((Sx.start i i.top).nd (c.weak b)).key ⟨r,p.fr y (λr=>by have:=j.2;simp only[bB,kC,dC]at r;omega),b _ j⟩);clear c i y b p j a3 U q;go_wp2_with (first
  | (with_reducible refine qA rfl 184 rfl (il #[ii ip 0,ii ip 0,si none 0 0]) znd.toArray zD rfl ?_)
  | (refine zA (W:=x) rfl 184 (.tmp 11) (.tmp 45) rfl [ii ip (fA n),ii ip (n.first:Int),si z (li n.l) A] rfl rfl rfl xB rfl aC ?_))
 intro b0 c p q;obtain⟨R,j⟩:=nm (x.heap.size);rw[<- j]at c⊢;have b:=lh (m.o.new1 p c (by omega));clear p c q j m;have p:=(b.o.loc _ (Hi _)).1.a 0;have r:=(b.o.loc _ (Hi _)).1.a 1;have q:=(b.o.loc _ (Hi _)).1.a 2;obtain⟨a4,c,_⟩:=b.o.kb (Hi _);have j:=lh (aEC (b.o.kn (n:=n) (.tail _ (Hi _))) c c1.o (by have:=a0.o;omega));clear c;go_wp2_with fail;refine j.o.mono ?_;rintro e y ⟨rfl,m⟩;have c:=lh (b.o.quiet m);clear m j b p r q;have q:=(c.o.loc _ (Hi _)).1.a 2;have b:=B.o;cases j:gP n.l key with
 | true=>rw[j,iA rfl]at b;have r:=aIe j;obtain⟨m,p⟩:∃m,n.l[lB n.l key]? = some m:=⟨_,kE r⟩;rw[p]at b;obtain⟨x,F,a5,B,i,J,C,D⟩:=(c.o.kn (n:=n) (.tail _ (Hi _))).parts;obtain⟨rfl,rfl⟩:z=x/\A=F:=(by injection B with h;simp at h;exact h);obtain⟨a6,a7,a8,L,z,M,A⟩:=C.at_ p;obtain⟨a9,rfl,F⟩:=D (by omega);have I:=F _ _ z;obtain⟨a',G,_⟩:=A.2.1;have S:((lB n.l key:Nat):Int)<((li n.l:Nat):Int):=(by omega);have x:li m.v<=1099511627776:=(by have:=(c3.o.item m (kF p)).v;omega);have⟨c4,O,d4⟩:=hh3 (rH G x) b r;clear b r p B i J C D L z M A F G x j;go_wp2_with fail;refine c4.o.mono ?_;rintro e r ⟨v5,rfl,⟨x,m,z⟩,p⟩;have i:=lh (c.o.quiet p);have d:=lh (u.o (iz (tl #[v5,ij true,ii ip 0])) r ⟨v5,by rw[O.o];rfl,⟨x,by rw[O.o];exact m,by have:=c.o.fin.1.fr.size;omega⟩,i.o.fin.1.fr⟩);clear m z p c i I q;go_wp2_with fail;exact qD (jW rfl) rfl d.o
 | false=>rw[j,eA (by decide)]at b;have⟨d,O⟩:=hh2 (u.o (iz (tl #[si none 0 0,ij false,ii ip 0])) y ⟨si none 0 0,by rw[b];rfl,⟨y.heap.size,by rw[b];exact dA.nil _ _,c.o.fin.1.fr.size⟩,c.o.fin.1.fr⟩) b;clear b j;go_wp2_with fail;exact qD (jW rfl) rfl d.o
end
theorem aGx{S:aW}(i:aHS S){hi:Option Ky}{B:List It}:∀ {A:List It} {lo:Option Ky} {c:Nat} {E:En} {P:List Nat},fE S lo c (A++B) hi E P ->∃b EA f PA g,E=EA++f/\P=PA++g/\fE S b (qO c A) B hi f g/\∀e∈EA,∃x∈A,klt e.1 x.key
 | [],lo,c,E,P,h=>⟨lo,[],E,[],P,rfl,rfl,h,λe d=>(by cases d)⟩
 | x::A,lo,c,_,_,⟨E1,P1,E2,P2,h1,h2,rfl,rfl⟩=>by
  obtain⟨b,EA,f,PA,g,rfl,rfl,j,k⟩:=aGx i (A:=A) h2;refine⟨b,E1++EA,f,P1++PA,g,by rw[uF],by rw[uF],j,λe d=>?_⟩;obtain d|d:=sD.1 d;·exact⟨x,eC ..,((i.all _ _ _ _ _ h1).2.1 e d).2 _ rfl⟩
  obtain⟨j,l,m⟩:=k e d;exact⟨j,jD _ l,m⟩
theorem aIx{a b d:Ky}(h1:klt a b)(h2:¬ klt d b):klt a d:=by
 by_cases c:klt a d;·exact c
 by_cases f:klt d a;·exact absurd (qE f h1) h2
 rw[zQ c f]at h1;exact absurd h1 h2
theorem aRN{n:Nd}(low:Ky):∃A B,n.l=A++B/\li A=n.way low/\n.l.take (n.way low)=A/\n.l.drop (n.way low)=B/\∀x∈A,¬ klt low x.key:=by
 obtain⟨A,d⟩:=nm (n.l.takeWhile λx=>!decide (klt low x.key));obtain⟨B,c⟩:=nm (n.l.dropWhile λx=>!decide (klt low x.key));have b:n.l=A++B:=by rw[d,c,xR]
 have c:li A=n.way low:=by rw[d];rfl
 refine⟨A,B,b,c,by rw[<- c,b,List.take_left' rfl],by rw[<- c,b,List.drop_left' rfl],λx b=>?_⟩;rw[d]at b;simpa using vJ x b
theorem aIy(low:Ky)(up:Option Ky)(most:Nat):∀(E out:En),(goE low up most out E).1.length<=li out+li E
 | [],out=>by simp[goE]
 | e::E,out=>by
  rw[pL];have c:=aIy low up most E out;have b:=aIy low up most E (out++[e]);rw[iB,aBb]at b;simp only[bD];split;·omega
  split;·show li out<=_;omega
  omega
def aPx (D:Nat->Prop) (w:World) (e:Ky×List UInt8) (kv vv:Value):Prop:=(∃g,dA w kv e.1 g/\D g)/\∃g,dA w vv e.2 g/\D g
def fH (D:Nat->Prop) (w:World):En->List Value->Prop
 | [],[]=>True
 | e::E,kv::vv::cs=>aPx D w e kv vv/\fH D w E cs
 | _,_=>False
theorem fH.len{D:Nat->Prop}{w:World}:∀ {E:En} {cs:List Value},fH D w E cs->li cs=2*li E
 | [],[],_=>rfl
 | _::E,_::_::cs,h=>by have:=fH.len h.2;simp only[bD];omega
theorem fH.fr{D:Nat->Prop}{w w':World}{S:List Nat}(b:Fr S w w')(c:∀q,D q->q∈S->w<=q:=by simp):∀ {E:En} {cs:List Value},fH D w E cs->fH D w' E cs
 | [],[],_=>trivial
 | _::_E,_::_::_cs,⟨⟨⟨g1,a1,b1⟩,⟨g2,a2,b2⟩⟩,h⟩=>⟨⟨⟨g1,a1.frD b (c _ b1),b1⟩,⟨g2,a2.frD b (c _ b2),b2⟩⟩,fH.fr b c h⟩
theorem fH.re{D D':Nat->Prop}{w:World}(b:∀q,D q->q<w.heap.size->D' q)(h0:∃q,D' q):∀ {E:En} {cs:List Value},fH D w E cs->fH D' w E cs
 | [],[],_=>trivial
 | _::_E,_::_::_cs,h=>⟨⟨dA.re h.1.1 b h0,dA.re h.1.2 b h0⟩,fH.re b h0 h.2⟩
theorem fH.snoc{D:Nat->Prop}{w:World}{e:Ky×List UInt8}{kv vv:Value}(b:aPx D w e kv vv):∀ {E:En} {cs:List Value},fH D w E cs->fH D w (E++[e]) (cs++[kv,vv])
 | [],[],_=>⟨b,trivial⟩
 | _::_E,_::_::_cs,h=>⟨h.1,fH.snoc b h.2⟩
theorem fH.at_{D:Nat->Prop}{w:World}:∀ {E:En} {cs:List Value} {i:Nat} {e:Ky×List UInt8},fH D w E cs->E[i]? = some e->∃kv vv,cs[i*2]? = some kv/\cs[i*2+1]? = some vv/\aPx D w e kv vv
 | [],[],i,e,_,h=>by simp at h
 | a::E,kv::vv::cs,0,e,h,he=>by simp only[zP,yG]at he;subst he;exact⟨kv,vv,rfl,rfl,h.1⟩
 | a::E,kv::vv::cs,i+1,e,h,he=>by
  simp only[List.getElem?_cons_succ]at he;obtain⟨b,v1,c,d,f⟩:=fH.at_ h.2 he;refine⟨b,v1,?_,?_,f⟩;·rw[show(i+1)*2=i*2+1+1 by omega];simpa using c
  rw[show(i+1)*2+1=i*2+1+1+1 by omega];simpa using d
def Dv (D:Nat->Prop) (ov:Value):Nat->Prop:=fun q=>D q/\ov.ownBlock≠some q
def UpK (D:Nat->Prop) (w:World) (tv:Value):Option Ky->Prop
 | none=>tv=.slice none 0 0
 | some b=>∃a n c q,tv=.slice (some a) n c/\dA w tv b q/\D q
def aFh (bc:Nat) (fv tv ov:Value) (most:Nat):List Value:=[.pointer (some ⟨bc,0,none⟩),fv,tv,.int .i64 (most:Int),ov]
structure Wst (H:Nat) (wS:World) (g bc bn bs bw:Nat) (D:Nat->Prop) (c:CD) (fv tv:Value) (low:Ky) (up:Option Ky) (most:Nat) (out:En) (ov:Value) (w:World):Prop where
 ch:jF wS w g bc bn bs (Dv D ov) c
 bwk:Blk w bw 145 (aFh bc fv tv ov most)
 low:∃q,dA w fv low q/\Dv D ov q
 up:UpK (Dv D ov) w tv up
 row:∃cs,w.ownsRow H 100 2 ov out.length cs/\fH (Dv D ov) w out cs
 nb:∀q,D q->q≠bw/\q≠bc/\q≠bn/\q≠bs
 top:∀q,w.heap.size<=q->D q
 own:∀q,ov.ownBlock=some q->q≠bw/\q≠bc/\q≠bn/\q≠bs
 hb:bw≠bc/\bw≠bn/\bw≠bs
 hH:wS.heap.size<=H
 hw:wS.heap.size<=bw
 hz:H<=w.heap.size
structure WFr (bc bw:Nat) (ov:Value) (w:World) (ov':Value) (w':World):Prop where
 fr:Fr (bc::bw::ov.ownBlock.toList) w w'
 own:∀q,ov'.ownBlock=some q->ov.ownBlock=some q∨w.heap.size<=q
section
variable {H g bc bn bs bw most:Nat}{wS w w1 w2:World}{D:Nat->Prop}{c c':CD}{fv tv ov ov' ov1 ov2:Value}{low:Ky}{up:Option Ky}{out:En}
theorem WFr.refl:WFr bc bw ov w ov w:=⟨jj _ _,λ_ b=>Ii b⟩
theorem WFr.trans(h:WFr bc bw ov w ov1 w1)(d:WFr bc bw ov1 w1 ov2 w2):WFr bc bw ov w ov2 w2:=by
 have g:=h.fr.size;refine⟨h.fr.trans d.fr λf b=>?_,λf b=>?_⟩
 ·simp only[bB]at b⊢;obtain rfl|rfl|b:=b
  ·exact Ii (Ii rfl)
  ·exact Ii (Ij (Ii rfl))
  obtain c|c:=h.own f (by simpa using b);·exact Ii (Ij (Ij (by simpa using c)))
  exact Ij c
 obtain c|c:=d.own f b;·exact h.own f c
 exact Ij (by omega)
theorem WFr.quiet(h:WFr bc bw ov w ov1 w1)(b:Fr [] w1 w2):WFr bc bw ov w ov1 w2:=⟨h.fr.trans b,h.own⟩
theorem WFr.pre(b:Fr [] w w1)(h:WFr bc bw ov w1 ov1 w2):WFr bc bw ov w ov1 w2:=⟨(b.mono (by simp)).trans h.fr (λf c=>Ii c),λf c=>by
 obtain d|d:=h.own f c;·exact Ii d
 exact Ij (by have:=b.size;omega)⟩
theorem WFr.keep(h:WFr bc bw ov w ov1 w1){p:Nat}{t:TypeId}{cs:List Value}(b:Blk w p t cs)(h1:p≠bc)(h2:p≠bw)(h3:ov.ownBlock≠some p):Blk w1 p t cs:=b.fr h.fr (by simp only[bB,Option.mem_toList];rintro(h|h|h);exact h1 h;exact h2 h;exact h3 h)
theorem Wst.shape(h:Wst H wS g bc bn bs bw D c fv tv low up most out ov w):∃A b,ov=si A (li out) b:=by obtain⟨f,d,_⟩:=h.row;obtain⟨A,b,e,_⟩:=jA d;exact⟨A,b,e⟩
theorem Wst.lt(h:Wst H wS g bc bn bs bw D c fv tv low up most out ov w):∀q,ov.ownBlock=some q->H<=q/\q<w:=by obtain⟨f,b,_⟩:=h.row;exact λq d=>⟨(b.lt q d).1,aG b q d⟩
theorem Wst.topv(h:Wst H wS g bc bn bs bw D c fv tv low up most out ov w):∀q,w.heap.size<=q->Dv D ov q:=λq b=>⟨h.top q b,λe=>by have:=(h.lt q e).2;omega⟩
theorem UpK.fr{S:List Nat}(h:UpK D w tv up)(f:Fr S w w1)(i:∀q,D q->q∈S->w<=q:=by simp):UpK D w1 tv up:=by
 cases up with
 | none=>exact h
 | some k=>obtain⟨a,c,d,q,g,j,b⟩:=h;exact⟨a,c,d,q,g,j.frD f (i _ b),b⟩
theorem UpK.re{D':Nat->Prop}(h:UpK D w tv up)(k:∀q,D q->q<w.heap.size->D' q)(h0:∃q,D' q):UpK D' w tv up:=by
 cases up with
 | none=>exact h
 | some m=>obtain⟨a,b,c,q,d,f,g⟩:=h;obtain⟨i,j,l⟩:=dA.re ⟨q,f,g⟩ k h0;exact⟨a,b,c,i,d,j,l⟩
theorem Wst.quiet(h:Wst H wS g bc bn bs bw D c fv tv low up most out ov w1)(b:Fr [] w1 w2):Wst H wS g bc bn bs bw D c fv tv low up most out ov w2:=by have m:=b.size;have n:=h.hz;obtain⟨d,f,i⟩:=h.low;obtain⟨j,k,l⟩:=h.row;exact⟨h.ch.frame b,h.bwk.fr b,⟨d,f.fr b,i⟩,h.up.fr b,⟨j,fB k b (by simp),l.fr b⟩,h.nb,λd f=>h.top d (by omega),h.own,h.hb,h.hH,h.hw,by omega⟩
theorem Wst.failed(h:Wst H wS g bc bn bs bw D c fv tv low up most out ov w1)(b:Fr [bc] w1 w2)(k:jF wS w2 g bc bn bs (Dv D ov) c'):Wst H wS g bc bn bs bw D c' fv tv low up most out ov w2:=by have q:=b.size;have r:=h.hz;obtain⟨d,m,l⟩:=h.low;obtain⟨n,o,p⟩:=h.row;have i:∀d,Dv D ov d->d∈[bc]->w1<=d:=λd f j=>absurd (xA.1 j) (h.nb d f.1).2.1;exact⟨k,h.bwk.fr b (by simpa using h.hb.1),⟨d,m.frD b (i _ l),l⟩,h.up.fr b i,⟨n,fB o b (λd f j=>(h.own d f).2.1 (xA.1 j)),p.fr b i⟩,h.nb,λd f=>h.top d (by omega),h.own,h.hb,h.hH,h.hw,by omega⟩
theorem Wst.push(h:Wst H wS g bc bn bs bw D c fv tv low up most out ov w1){cs:List Value}(t:fH (Dv D ov) w1 out cs){e:Ky×List UInt8}{kv vv:Value}(U:aPx (Dv D ov) w1 e kv vv)(u:Fr ov.ownBlock.toList w1 w2) (x:w2.ownsRow 0 100 2 ov' (li out+1) (cs++[kv,vv]))(s:∀q,ov'.ownBlock=some q->ov.ownBlock=some q∨q=w1.heap.size): Wst H wS g bc bn bs bw D c fv tv low up most (out++[e]) ov' (w2.setCell ⟨bw,4,none⟩ ov')/\WFr bc bw ov w1 ov' (w2.setCell ⟨bw,4,none⟩ ov'):=by
 have L:=u.size;have M:=h.hz;have o:=h.lt;have N:=h.bwk.lt;have O:=h.ch.lts;have j:Fr [bw] w2 (w2.setCell ⟨bw,4,none⟩ ov'):=(jj [bw] w2).setCell (Ii (by simp)) _;have P:=j.size;obtain⟨i,l⟩:∃i:Nat->Prop,i=λq=>Dv D ov q/\ov'.ownBlock≠some q:=⟨_,rfl⟩;have m:∀q,Dv D ov q->q<w1.heap.size->i q:=λq b z=>by
  rw[l];refine⟨b,λe=>?_⟩;obtain f|f:=s _ e;·exact b.2 f
  omega
 have v:∃q,i q/\w1.heap.size<=q:=⟨w1.heap.size+1,by
  rw[l];refine⟨h.topv _ (by omega),λe=>?_⟩;obtain f|f:=s _ e;·have:=(o _ f).2;omega
  omega,by omega⟩
 have n:∃q,i q:=v.imp λq s=>s.1;have p:∀q,i q->q∈ov.ownBlock.toList->w1.heap.size<=q:=λq b d=>by rw[l]at b;exact absurd (by simpa using d) b.1.2
 have k:∀q,i q->Dv D ov' q:=λq b=>by rw[l]at b;exact⟨b.1.1,b.2⟩
 have r:∀q,Dv D ov' q->q∈[bw]->w2.heap.size<=q:=λq b d=>absurd (xA.1 d) (h.nb q b.1).1;have A:∀q,i q->q≠bc/\q≠bn/\q≠bs:=λq b=>(h.nb q (k q b).1).2;have y:∀q,ov'.ownBlock=some q->q≠bw/\q≠bc/\q≠bn/\q≠bs:=λq e=>by
  obtain f|f:=s _ e;·exact h.own q f
  omega
 have B:jF wS w2 g bc bn bs i c:=(h.ch.re m v A).frS u λq d=>by
  have v:ov.ownBlock=some q:=by simpa using d
  have:=(o q v).1;have A:=h.own q v;refine Ij ⟨by have:=h.hH;omega,λb=>?_,A.2⟩;rw[l]at b;exact b.1.2 v
 have v:jF wS (w2.setCell ⟨bw,4,none⟩ ov') g bc bn bs (Dv D ov') c:=(B.weak k λq b=>(h.nb q b.1).2).frS j λq d=>by obtain rfl:=xA.1 d;exact Ij ⟨h.hw,λb=>(h.nb _ b.1).1 rfl,h.hb⟩
 obtain⟨B,C,l⟩:=dA.re h.low m n;have u2:UpK (Dv D ov') (w2.setCell ⟨bw,4,none⟩ ov') tv up:=by
  have u1:=((h.up.re m n).fr u p);have A:UpK (Dv D ov') w2 tv up:=by
   cases up with
   | none=>exact u1
   | some Q=>obtain⟨a,E,F,q,G,I,J⟩:=u1;exact⟨a,E,F,q,G,I,k q J⟩
  exact A.fr j r
 have A:fH i w1 (out++[e]) (cs++[kv,vv]):=(t.snoc U).re m n;have i:fH (Dv D ov') w2 (out++[e]) (cs++[kv,vv]):=by have:=A.fr u p;exact this.re (λq b _=>k q b) (n.imp λq b=>k q b)
 refine⟨⟨v,?_,⟨B,(C.frD u (p _ l)).frD j (r _ (k _ l)),k _ l⟩,u2,⟨cs++[kv,vv],?_,i.fr j r⟩,h.nb,λq b=>h.top q (by omega),y,h.hb,h.hH,h.hw,by omega⟩,?_⟩;·have i:=(h.bwk.fr u (λd=>(h.own bw (by simpa using d)).1 rfl)).set_ 4 ov';exact i
 ·have z:li (out++[e])=li out+1:=by simp
  rw[z];refine fB (kD x λq b=>?_) j λq b d=>(y q b).1 (xA.1 d);obtain f|f:=s _ b;·exact(o q f).1
  omega
 refine⟨(u.mono λq d=>Ii (by simp only[bB];exact Ij (Ij d))).trans j λq d=>Ii (by simp only[bB];exact Ij (Ii (xA.1 d))),λq b=>?_⟩;obtain f|f:=s _ b;·exact Ii f
 exact Ij (by omega)
end
end
end Go.Proofs.YtebjhcjbfaaejaaGreatDoor
