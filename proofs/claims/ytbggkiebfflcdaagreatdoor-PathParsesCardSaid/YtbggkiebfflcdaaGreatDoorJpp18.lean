/-
  Joined by join.py: Ac Ah Ma Mb Mc Md Me
-/
import Derived.Test.YtbggkiebfflcdaaGreatDoorJpp17
set_option maxRecDepth 100000
set_option maxHeartbeats 32000000
namespace Go.Proofs.YtbggkiebfflcdaaGreatDoor
section
open Go.RowKit
def Vlu.okT (v:Vlu):Bool:=v.n.sane && decide (v.s.length<=100000000) && (v.l.isR 8 && v.m.isR 9)
mutual
def Qry.okT:Qry -> Bool
 | .mk _ l=>aX l
 termination_by structural q=>q
def aX:List Sgm -> Bool
 | []=>true
 | x :: l=>x.okT && aX l
 termination_by structural l=>l
def Sgm.okT:Sgm -> Bool
 | .mk _ l=>bX l
 termination_by structural q=>q
def bX:List Slr -> Bool
 | []=>true
 | x :: l=>x.okT && bX l
 termination_by structural l=>l
def Slr.okT:Slr -> Bool
 | .mk _ _ _ _ _ f=>xL f
 termination_by structural q=>q
def Xpr.okT:Xpr -> Bool
 | .mk what l _ q v=>(decide (1<=what) && v.okT) && (q.okT && xL l)
 termination_by structural e=>e
def xL:List Xpr -> Bool
 | []=>true
 | x :: l=>x.okT && xL l
 termination_by structural l=>l
end
theorem yL:∀ l:List Xpr,xL l=l.all Xpr.okT
 | []=>rfl
 | x :: l=>by rw[xL,yL l];rfl
theorem bP:∀ l:List Slr,bX l=l.all Slr.okT
 | []=>rfl
 | x :: l=>by rw[bX,bP l];rfl
theorem cP:∀ l:List Sgm,aX l=l.all Sgm.okT
 | []=>rfl
 | x :: l=>by rw[aX,cP l];rfl
theorem Xpr.okT_parts {x:Xpr} (h:x.okT=true):1<=x.what/\x.v.okT=true/\x.q.okT=true/\∀ y ∈ x.l,y.okT=true:=by
 obtain⟨what,l,op,q,v⟩:=x;rw[Xpr.okT,yL,Bool.and_eq_true,Bool.and_eq_true,Bool.and_eq_true,decide_eq_true_eq] at h;exact⟨h.1.1,h.1.2,h.2.1,fun y hy=>List.all_eq_true.1 h.2.2 y hy⟩
theorem aGS {q:Qry} {x:Sgm} {y:Slr} {e:Xpr} (h:q.okT=true) (hx:x ∈ q.l) (hy:y ∈ x.l) (he:e ∈ y.f):e.okT=true:=by
 obtain⟨rel,l⟩:=q;rw[Qry.okT,cP] at h;have h1:=List.all_eq_true.1 h x hx;obtain⟨dp,sl⟩:=x;rw[Sgm.okT,bP] at h1;have h2:=List.all_eq_true.1 h1 y hy;obtain⟨what,name,at_,has,s,f⟩:=y;rw[Slr.okT,yL] at h2;exact List.all_eq_true.1 h2 e he
def Tkn.fine (t:Tkn):Prop:=t.n.sane=true/\t.s.length<=100000000
structure QS.fine (s:QS):Prop where
 all:∀ t ∈ s.l,t.fine
theorem QS.fine.fine_on {s s':QS} (h:s.fine) (ho:s'.l <:+ s.l):s'.fine:=⟨fun t ht=>h.all t (ho.subset ht)⟩
def Rd.okR {α:Type} (P:α -> Bool) (R:Rd α):Prop:=∀ s y s',s.fine -> R s=some (y,s') -> P y=true
theorem dL:Dcm.zero.sane=true:=by decide
theorem aEr:Qry.zero.okT=true:=rfl
theorem bU:Vlu.null.okT=true:=by decide
theorem iR {k:Int} {l:List Xpr} {x:List UInt8} (hk:1<=k) (h:l.all Xpr.okT=true):(Xpr.of k l x).okT=true:=by
 unfold Xpr.of;rw[Xpr.okT,bU,aEr,yL,h,decide_eq_true hk]
 rfl
theorem mZ {k:Int} {l:List Xpr} (hk:1<=k) (h:l.all Xpr.okT=true):(Xpr.many k l).okT=true:=by
 unfold Xpr.many
 split
 ·simpa using h
 ·exact iR hk h
theorem nS {v:Vlu} (h:v.okT=true):(Xpr.lit v).okT=true:=by
 unfold Xpr.lit;rw[Xpr.okT,h,aEr,xL]
 rfl
theorem aEs {q:Qry} (h:q.okT=true):(Xpr.path q).okT=true:=by
 unfold Xpr.path;rw[Xpr.okT,bU,h,xL]
 rfl
section
variable {txt : List UInt8} {E S : Int -> Rd Xpr} {α : Type}
theorem cU {P:α -> Bool} {x:List UInt8} {item:Rd α} (ho:item.on) (hi:item.okR P):∀ n,(rB x item n).okR fun l=>l.all P
 | 0=>fun s y s' _ h=>by simp[rB] at h
 | n+1=>fun s y s' hf h=>by
  unfold rB at h
  split at h
  ·cases h
  ·rename_i a s1 h1
   have h2:=hi _ _ _ hf h1;have h3:=hf.fine_on (ho _ _ _ h1)
   split at h
   ·split at h
    ·cases h
    ·rename_i l s2 h4
     have h5:=cU ho hi n _ _ _ (h3.fine_on (nD s1)) h4;obtain⟨rfl,_⟩:=eA h;simp only[List.all_cons,h2,Bool.true_and];exact h5
   ·obtain⟨rfl,_⟩:=eA h
    simp[h2]
theorem vN {P:α -> Bool} {x:List UInt8} {item:Rd α} (ho:item.on) (hi:item.okR P) {s:QS} {l:List α} {s':QS} (hf:s.fine) (h:eC x item s=some (l,s')):l.all P=true:=cU ho hi _ s l s' hf h
theorem jR {x:List UInt8} {a b:α} {s s':QS} (h:gF x a s=some (b,s')):b=a:=by
 unfold gF at h
 split at h
 ·exact(eA h).1.symm
 ·cases h
theorem aAW {n:Int} {b:Bool} {s s':QS} {y:Slr} (h:kE txt n b s=some (y,s')):y.okT=true:=by
 unfold kE at h
 split at h
 ·simp only at h
  split at h
  ·obtain⟨rfl,_⟩:=eA h;rfl
  ·obtain⟨rfl,_⟩:=eA h;rfl
 ·cases h
theorem aEt (hE:∀ d,(E d).okR Xpr.okT) (d:Int):Rd.okR Slr.okT (uG txt E d):=fun s y s' hf h=>by
 unfold uG at h
 split at h
 ·obtain⟨rfl,_⟩:=eA h;rfl
 ·split at h
  ·obtain⟨rfl,_⟩:=eA h;rfl
  ·split at h
   ·split at h
    ·cases h
    ·rename_i e s1 h1
     obtain⟨rfl,_⟩:=eA h;have h2:=hE _ _ _ _ (QS.fine.fine_on hf (s':=⟨s.go.l,max s.most (d+1)⟩) (nD s)) h1
     show(Slr.okT (.mk 5 [] 0 (false,false,false) (0,0,0) [e]))=true
     rw[Slr.okT,xL,h2,xL]
     rfl
   ·simp only at h
    split at h
    ·exact aAW h
    ·split at h
     ·obtain⟨rfl,_⟩:=eA h;rfl
     ·cases h
theorem dU {s s':QS} {x:Slr} (h:xB s=some (x,s')):x.okT=true:=by
 unfold xB at h
 split at h
 ·obtain⟨rfl,_⟩:=eA h;rfl
 ·split at h
  ·cases h
  ·split at h
   ·obtain⟨rfl,_⟩:=eA h;rfl
   ·cases h
theorem yU (hEo:∀ d,(E d).on) (hE:∀ d,(E d).okR Xpr.okT) (d:Int) {s s':QS} {l:List Slr} (hf:s.fine) (h:kB txt E d s=some (l,s')):l.all Slr.okT=true:=by
 unfold kB at h
 split at h
 ·cases h
 ·rename_i m s1 h1
  rw[jR h];exact vN (wP hEo d) (aEt hE d) hf h1
theorem eU (hEo:∀ d,(E d).on) (hE:∀ d,(E d).okR Xpr.okT) (d:Int):∀ n,Rd.okR (fun l=>l.all Sgm.okT) (dD txt E d n)
 | 0=>fun s y s' _ h=>by simp[dD] at h
 | n+1=>fun s y s' hf h=>by
  unfold dD at h
  simp only at h
  have h0:(if s.next [46,46]=true then s.go else s).l <:+ s.l:=by
   split
   ·exact nD s
   ·exact List.suffix_refl _
  generalize (if s.next [46,46]=true then s.go else s)=s1 at *;have hf1:=hf.fine_on h0
  have key:∀ {dp:Bool} {l:List Slr} {m:List Sgm} {s2 s3:QS},l.all Slr.okT=true -> s2.fine -> dD txt E d n s2=some (m,s3) -> (Sgm.mk dp l :: m).all Sgm.okT=true:=fun {dp l m s2 s3} hl h2 h3=>by
   have h5:=eU hEo hE d n _ _ _ h2 h3;rw[List.all_cons,Sgm.okT,bP,hl,Bool.true_and];exact h5
  split at h
  ·split at h
   ·cases h
   ·rename_i l s2 h1
    split at h
    ·cases h
    ·rename_i m s3 h3
     obtain⟨rfl,_⟩:=eA h;exact key (yU hEo hE d (hf1.fine_on (nD s1)) h1) ((hf1.fine_on (nD s1)).fine_on (vG hEo d _ _ _ h1)) h3
  ·split at h
   ·split at h
    ·cases h
    ·rename_i l s2 h1
     split at h1
     ·cases h1
     ·rename_i x s4 h5
      obtain⟨rfl,rfl⟩:=eA h1
      split at h
      ·cases h
      ·rename_i m s3 h3
       obtain⟨rfl,_⟩:=eA h;exact key (by simp[dU h5]) (hf1.fine_on (aI _ _ _ h5)) h3
   ·split at h
    ·split at h
     ·cases h
     ·rename_i l s2 h1
      split at h1
      ·cases h1
      ·rename_i x s4 h5
       obtain⟨rfl,rfl⟩:=eA h1
       split at h
       ·cases h
       ·rename_i m s3 h3
        obtain⟨rfl,_⟩:=eA h;exact key (by simp[dU h5]) ((hf1.fine_on (nD s1)).fine_on (aI _ _ _ h5)) h3
    ·obtain⟨rfl,_⟩:=eA h
     rfl
theorem dP (hEo:∀ d,(E d).on) (hE:∀ d,(E d).okR Xpr.okT) (d:Int) (rel:Bool):Rd.okR Qry.okT (pD txt E d rel):=fun s y s' hf h=>by
 unfold pD at h
 split at h
 ·cases h
 ·rename_i l s1 h1
  obtain⟨rfl,_⟩:=eA h;rw[Qry.okT,cP];exact eU hEo hE d _ _ _ _ hf h1
theorem aCD (hSo:∀ d,(S d).on) (hS:∀ d,(S d).okR Xpr.okT) (d:Int) {x:List UInt8} {s s':QS} {e:Xpr} (hf:s.fine) (h:wE S d x s=some (e,s')):e.okT=true:=by
 unfold wE at h
 split at h
 ·obtain⟨rfl,_⟩:=eA h;exact nS bU
 ·split at h
  ·obtain⟨rfl,_⟩:=eA h;exact nS rfl
  ·split at h
   ·simp only at h
    split at h
    ·obtain⟨rfl,_⟩:=eA h;exact iR (by decide) rfl
    ·split at h
     ·cases h
     ·rename_i l s1 h1
      rw[jR h];exact iR (by decide) (vN (hSo _) (hS _) (QS.fine.fine_on hf (s':=⟨s.go.l,max s.most (d+1)⟩) (nD s)) h1)
   ·cases h
theorem gK (hEo:∀ d,(E d).on) (hE:∀ d,(E d).okR Xpr.okT) (hSo:∀ d,(S d).on) (hS:∀ d,(S d).okR Xpr.okT) (d:Int):Rd.okR Xpr.okT (qA txt E S d):=fun s y s' hf h=>by
 unfold qA at h
 split at h
 ·cases h
 ·rename_i t l hl
  have ht:t.fine:=hf.all t (by rw[hl];simp)
  split at h
  ·obtain⟨rfl,_⟩:=eA h;refine nS ?_;unfold Vlu.okT;rw[show({ Vlu.null with kind:=2,n:=t.n }:Vlu).n=t.n from rfl,ht.1]
   rfl
  ·split at h
   ·obtain⟨rfl,_⟩:=eA h;refine nS ?_;unfold Vlu.okT;rw[show({ Vlu.null with kind:=3,s:=t.s }:Vlu).s=t.s from rfl,decide_eq_true ht.2]
    rfl
   ·split at h
    ·exact aCD hSo hS d (hf.fine_on (nD s)) h
    ·split at h
     ·split at h
      ·cases h
      ·rename_i q s1 h1
       obtain⟨rfl,_⟩:=eA h;exact aEs (dP hEo hE d _ _ _ _ (hf.fine_on (nD s)) h1)
     ·cases h
theorem wR (hE:∀ d,(E d).okR Xpr.okT) (d:Int):Rd.okR Xpr.okT (bD E d):=fun s y s' hf h=>by
 unfold bD at h
 split at h
 ·cases h
 ·rename_i e s1 h1
  rw[jR h];exact hE _ _ _ _ (QS.fine.fine_on hf (s':=⟨s.l,max s.most (d+1)⟩) (List.suffix_refl _)) h1
theorem aCE (hEo:∀ d,(E d).on) (hE:∀ d,(E d).okR Xpr.okT) (hSo:∀ d,(S d).on) (hS:∀ d,(S d).okR Xpr.okT) (d:Int):Rd.okR Xpr.okT (yC txt E S d):=fun s y s' hf h=>by
 unfold yC at h
 split at h
 ·unfold lK at h
  split at h
  ·split at h
   ·cases h
   ·rename_i e s1 h1
    obtain⟨rfl,_⟩:=eA h;exact iR (by decide) (by simp[wR hE d _ _ _ ((hf.fine_on (nD s)).fine_on (nD _)) h1])
  ·split at h
   ·cases h
   ·rename_i e s1 h1
    split at h
    ·obtain⟨rfl,_⟩:=eA h;exact iR (by decide) (by simp[gK hEo hE hSo hS d _ _ _ (hf.fine_on (nD s)) h1])
    ·cases h
 ·split at h
  ·exact wR hE d _ _ _ (hf.fine_on (nD s)) h
  ·split at h
   ·cases h
   ·rename_i e s1 h1
    have h2:=gK hEo hE hSo hS d _ _ _ hf h1;have h3:=hf.fine_on (fH hEo hSo d _ _ _ h1)
    split at h
    ·split at h
     ·cases h
     ·rename_i f s2 h4
      obtain⟨rfl,_⟩:=eA h;exact iR (by decide) (by simp[h2,gK hEo hE hSo hS d _ _ _ (h3.fine_on (nD s1)) h4])
    ·obtain⟨rfl,_⟩:=eA h;exact h2
theorem aCF (hEo:∀ d,(E d).on) (hE:∀ d,(E d).okR Xpr.okT) (hSo:∀ d,(S d).on) (hS:∀ d,(S d).okR Xpr.okT) (d:Int):Rd.okR Xpr.okT (mI txt E S d):=fun s y s' hf h=>by
 unfold mI at h
 split at h
 ·cases h
 ·rename_i l s1 h1
  obtain⟨rfl,_⟩:=eA h;exact mZ (by decide) (vN (pM hEo hSo d) (aCE hEo hE hSo hS d) hf h1)
theorem nZ (hEo:∀ d,(E d).on) (hE:∀ d,(E d).okR Xpr.okT) (hSo:∀ d,(S d).on) (hS:∀ d,(S d).okR Xpr.okT) (d:Int):Rd.okR Xpr.okT (tH txt E S d):=fun s y s' hf h=>by
 unfold tH at h
 split at h
 ·cases h
 ·rename_i l s1 h1
  obtain⟨rfl,_⟩:=eA h;exact mZ (by decide) (vN (xP hEo hSo d) (aCF hEo hE hSo hS d) hf h1)
theorem eL:∀ n,(∀ d,((eG txt n).1 d).okR Xpr.okT)/\(∀ d,((eG txt n).2 d).okR Xpr.okT)
 | 0=>⟨fun d s x s' _ h=>by simp[eG] at h,fun d s x s' _ h=>by simp[eG] at h⟩
 | n+1=>⟨fun d=>nZ (iG n).1 (eL n).1 (iG n).2 (eL n).2 d,fun d=>gK (iG n).1 (eL n).1 (iG n).2 (eL n).2 d⟩
theorem aCG {ts:List Tkn} {q:Qry} {most:Int} (ht:∀ t ∈ ts,t.fine) (h:fS txt ts=some (q,most)):q.okT=true:=by
 unfold fS at h
 simp only at h
 split at h
 ·split at h
  ·cases h
  ·rename_i q2 s h1
   split at h
   ·obtain⟨rfl,_⟩:=eA h;exact dP (iG _).1 (eL _).1 0 false _ _ _ (QS.fine.fine_on (s:=⟨ts,0⟩) ⟨ht⟩ (nD _)) h1
   ·cases h
 ·cases h
end
theorem aEu (r:Nat):(vC r).length<=4:=by
 unfold vC
 repeat' split
 all_goals simp
theorem cW {q:UInt8}:∀ {n:Nat} {l o:List UInt8} {m:Nat},uD n q l=some (o,m) -> o.length<=4 * n
 | 0,l,o,m,h=>by simp[uD] at h
 | n+1,l,o,m,h=>by
  unfold uD at h
  split at h
  ·cases h
  ·split at h
   ·obtain⟨rfl,_⟩:=eA h;simp
   ·split at h
    ·cases h
    ·rename_i r k _
     split at h
     ·cases h
     ·rename_i o2 m2 h2
      obtain⟨rfl,_⟩:=eA h;have h3:=cW h2;have h4:=aEu r;rw[List.length_append];omega
theorem aAX {neg:Bool} {l:List UInt8} {e:Int} {d:Dcm} (h:mG neg l e=.ok d):d.sane=true:=by
 unfold mG at h
 simp only at h
 by_cases h1:uC qC (l.dropWhile qC)=[]
 ·rw[if_pos h1] at h;injection h with h;subst h;exact dL
 ·rw[if_neg h1] at h
  split at h
  ·rename_i hs
   injection h with h;subst h;exact hs
  ·cases h
theorem if_ok {α:Type} {c:Bool} {e:Int} {x:Except Int α} {d:α} (h:(if c=true then .error e else x)=.ok d):x=.ok d:=by
 cases c with
 | true=>cases h
 | false=>exact h
theorem oZ {s:List UInt8} {d:Dcm} (h:fE s=.ok d):d.sane=true:=by
 unfold fE at h
 by_cases h1:1000 < s.length
 ·rw[if_pos h1] at h
  cases h
 ·rw[if_neg h1] at h;exact aAX (if_ok h)
theorem aAY {l s:List UInt8} {k m:Nat} {n:Dcm} (h:zB l=.ok (k,s,n,m)):n.sane=true/\s.length<=4 * l.length:=by
 match l,h with
 | [],h=>simp[zB] at h
 | c :: cs,h=>
  unfold zB at h
  simp only at h
  split at h
  ·split at h
   ·simp only[Except.ok.injEq,Prod.mk.injEq] at h;obtain⟨rfl,rfl,rfl,rfl⟩:=h;have:=mC nB (c :: cs);exact⟨dL,by omega⟩
   ·cases h
  ·split at h
   ·split at h
    ·cases h
    ·rename_i d hd
     simp only[Except.ok.injEq,Prod.mk.injEq] at h;obtain⟨rfl,rfl,rfl,rfl⟩:=h;exact⟨oZ hd,by simp⟩
   ·split at h
    ·split at h
     ·cases h
     ·rename_i o m2 ht
      simp only[Except.ok.injEq,Prod.mk.injEq] at h;obtain⟨rfl,rfl,rfl,rfl⟩:=h;unfold rH at ht
      simp only at ht
      split at ht
      ·cases ht
      ·rename_i o3 m3 h3
       obtain⟨rfl,_⟩:=eA ht;have:=cW h3;exact⟨dL,by simp;omega⟩
    ·split at h
     ·cases h
     ·simp only[Except.ok.injEq,Prod.mk.injEq] at h;obtain⟨rfl,rfl,rfl,rfl⟩:=h;exact⟨dL,by rw[List.length_take];omega⟩
theorem aAZ {a:Nat} {l:List UInt8} {t:Tkn} (h:vE a l=.ok t) (hl:l.length<=8192):t.fine:=by
 unfold vE at h
 simp only at h
 have hd:=cE lD l
 split at h
 ·injection h with h;subst h;exact⟨dL,by simp⟩
 ·rename_i c cs he
  split at h
  ·cases h
  ·rename_i k s n m h1
   injection h with h;subst h;obtain⟨h2,h3⟩:=aAY h1;exact⟨h2,by show s.length<=_;omega⟩
theorem jQ:∀ {n a:Nat} {l:List UInt8} {ts:List Tkn},l.length<=8192 -> aC n a l=.ok ts -> ∀ t ∈ ts,t.fine
 | 0,_,_,_,_,h=>by simp[aC] at h
 | n+1,a,l,ts,hl,h=>by
  unfold aC at h
  split at h
  ·cases h
  ·rename_i t h1
   split at h
   ·injection h with h;subst h;simp
   ·split at h
    ·cases h
    ·rename_i us h2
     injection h with h;subst h;intro u hu;rw[List.mem_cons] at hu;rcases hu with rfl | hu
     ·exact aAZ h1 hl
     ·exact jQ (by rw[List.length_drop];omega) h2 u hu
theorem xR {s:List UInt8} {ts:List Tkn} (h:rC s=.ok ts):∀ t ∈ ts,t.fine:=by
 unfold rC at h
 split at h
 ·cases h
 ·exact jQ (by omega) h
theorem aBa {txt:List UInt8} {q:Qry} (h:fC txt=.ok q):q.okT=true:=by
 unfold fC at h
 split at h
 ·cases h
 ·rename_i ts ht
  split at h
  ·cases h
  ·rename_i q2 most hw
   split at h
   ·cases h
   ·split at h
    ·cases h
    ·split at h
     ·cases h
     ·injection h with h;subst h;exact aCG (xR ht) hw
end
section
open Go.RowKit Go.Shelf
theorem aFK {v:Vlu} (h:v.okT=true):LitV v:=by
 unfold Vlu.okT at h;simp only[Bool.and_eq_true,decide_eq_true_eq] at h;exact⟨fun _=>h.1.1,h.1.2,h.2.1,h.2.2⟩
theorem aFL:∀ n:Nat,n<=1000000 -> (∀ q:Qry,q.okT=true -> q.wt<=n -> SmQ q)/\(∀ f:List Xpr,f.all Xpr.okT=true -> eD f<=n -> SmX f):=by
 have hQ:∀ n:Nat,n<=1000000 -> (∀ f:List Xpr,f.all Xpr.okT=true -> eD f < n -> SmX f) -> ∀ q:Qry,q.okT=true -> q.wt<=n -> SmQ q:=fun n hn ih q ho hq w N M cs ds h1 h2=>by
  refine aCC h1 h2 (by omega) fun x hx y hy=>?_;have a1:=lE hx;have a2:=tJ hy;have a3:=q.wt_eq;have a4:=x.wt_eq;have a5:=y.wt_eq;exact ih y.f (List.all_eq_true.2 fun e he=>aGS ho hx hy he) (by omega)
 intro n
 induction n with
 | zero=>
  intro _;refine⟨hQ 0 (by decide) fun f _ hf=>absurd hf (Nat.not_lt_zero _),fun f _ hf=>?_⟩;have:=bE f;obtain rfl:f=[]:=List.length_eq_zero_iff.1 (by omega);exact aFJ
 | succ n ih=>
  intro hn;have ih:=ih (by omega);refine⟨hQ (n+1) hn fun f ho hf=>ih.2 f ho (by omega),fun f ho hf=>aEq (by have:=bE f;omega) fun x hx=>?_⟩;have a1:=mE hx;have a2:=x.wt_eq;obtain⟨h1,h2,h3,h4⟩:=Xpr.okT_parts (List.all_eq_true.1 ho x hx);exact⟨ih.2 x.l (List.all_eq_true.2 h4) (by omega),ih.1 x.q h3 (by omega),aFK h2⟩
theorem Qry.same_ok {q:Qry} (ho:q.okT=true) (hw:q.wt<=1000000):SmQ q:=(aFL _ (Nat.le_refl _)).1 q ho hw
def qOf (txt:List UInt8):Qry:=match fC txt with | .ok q=>q | .error _=>.zero
theorem aHg (txt:List UInt8):(qOf txt).okT=true/\(qOf txt).wt<=65536:=by
 unfold qOf
 cases h:fC txt with
 | ok q=>exact⟨aBa h,aCx h⟩
 | error e=>exact⟨rfl,show Qry.zero.wt<=65536 by decide⟩
theorem par_q {w w':World} {txt:List UInt8} {e:Ending} (h:uM w txt e w'):∃ A c,e=.returned (.tuple #[.agg #[.bool (qOf txt).rel,.slice A (qOf txt).l.length c],.int .i64 (xX txt)])/\gA w' (fun g=>w.heap.size<=g) (qOf txt).cells [.bool (qOf txt).rel,.slice A (qOf txt).l.length c]/\Fr [] w w':=by
 unfold uM at h;unfold qOf xX
 cases hp:fC txt with
 | ok q=>
  rw[hp] at h;obtain⟨cs,rfl,hr,hf⟩:=h;obtain⟨A,c,rfl,-⟩:=gD hr;exact⟨A,c,rfl,hr,hf⟩
 | error er=>
  rw[hp] at h;obtain⟨rfl,hf⟩:=h;exact⟨none,0,rfl,.tl rfl (.cons (CAt.nil _ _ (by decide) none 0) (.nil _ _)),hf⟩
end
section
open Go.RowKit
def jG (b:UInt8):Nat × Nat:=if 240<=b.toNat then (b.toNat % 8,4) else if 224<=b.toNat then (b.toNat % 16,3) else if 192<=b.toNat then (b.toNat % 32,2) else (b.toNat,1)
def oH (r:Nat) (l:List UInt8):Nat:=l.foldl (fun r c=>r * 64+c.toNat % 64) r
theorem fU:∀ {cs:List UInt8} {r r':Nat},fD r cs=some r' -> oH r cs=r'
 | [],r,r',h=>by simpa[fD,oH] using h
 | c :: cs,r,r',h=>by
  unfold fD at h
  split at h
  ·have:=fU h
   simpa[oH] using this
  ·cases h
theorem pZ {b0:UInt8} {bs:List UInt8} {r k:Nat} (h:mB (b0 :: bs)=some (r,k)):∃ j,j < 4/\k=j+1/\xC j b0=true/\j<=bs.length/\fD (vB j b0) (bs.take j)=some r/\lB r=true:=by
 have hK:∀ j,tD j b0 bs=some (r,k) -> k=j+1/\fD (vB j b0) (bs.take j)=some r/\lB r=true:=fun j h=>by
  unfold tD at h
  split at h
  ·cases h
  ·rename_i r1 h1
   split at h
   ·cases h
   ·rename_i h2
    simp only[Option.some.injEq,Prod.mk.injEq] at h;obtain⟨rfl,rfl⟩:=h;refine⟨rfl,h1,?_⟩
    cases hs:lB r1
    ·exact absurd (.inr hs) h2
    ·rfl
 rw[mB] at h
 split at h
 ·rename_i g;obtain⟨a,b,c⟩:=hK _ h;exact⟨0,by decide,a,g,Nat.zero_le _,b,c⟩
 split at h
 ·rename_i g;obtain⟨a,b,c⟩:=hK _ h;exact⟨1,by decide,a,g.2,g.1,b,c⟩
 split at h
 ·rename_i g;obtain⟨a,b,c⟩:=hK _ h;exact⟨2,by decide,a,g.2,g.1,b,c⟩
 split at h
 ·rename_i g;obtain⟨a,b,c⟩:=hK _ h;exact⟨3,by decide,a,g.2,g.1,b,c⟩
 ·cases h
theorem aEv {j:Nat} (hj:j < 4) {b:UInt8} (h:xC j b=true):jG b=(vB j b,j+1):=by
 have:=qD (fun b=>(List.range 4).all fun j=>!xC j b || decide (jG b=(vB j b,j+1))) (by decide +kernel) b;have:=List.all_eq_true.1 this j (List.mem_range.2 hj)
 simpa[h] using this
theorem cX (b:UInt8):(192<=b.toNat/\b.toNat < 224 -> xC 0 b=false/\xC 1 b=true)/\(224<=b.toNat/\b.toNat < 240 -> xC 0 b=false/\xC 1 b=false/\xC 2 b=true)/\(240<=b.toNat/\b.toNat < 248 -> xC 0 b=false/\xC 1 b=false/\xC 2 b=false/\xC 3 b=true):=by
 have:=qD (fun b=>(!decide (192<=b.toNat/\b.toNat < 224) || (!xC 0 b && xC 1 b)) && (!decide (224<=b.toNat/\b.toNat < 240) || (!xC 0 b && !xC 1 b && xC 2 b)) && (!decide (240<=b.toNat/\b.toNat < 248) || (!xC 0 b && !xC 1 b && !xC 2 b && xC 3 b))) (by decide +kernel) b;simp only[Bool.and_eq_true,Bool.or_eq_true,Bool.not_eq_true',decide_eq_false_iff_not] at this;obtain⟨⟨a,b'⟩,c⟩:=this;exact⟨fun h=>a.resolve_left (not_not_intro h),fun h=>by have:=b'.resolve_left (not_not_intro h);exact⟨this.1.1,this.1.2,this.2⟩,fun h=>by have:=c.resolve_left (not_not_intro h);exact⟨this.1.1.1,this.1.1.2,this.1.2,this.2⟩⟩
theorem fF {n:Nat} (h:n < 256):(UInt8.ofNat n).toNat=n:=by simp;omega
theorem xN {n:Nat} (h:n < 64):jP (UInt8.ofNat (128+n))=true/\(UInt8.ofNat (128+n)).toNat % 64=n:=by
 have e:=fF (n:=128+n) (by omega);refine⟨?_,by rw[e];omega⟩;unfold jP;rw[e,decide_eq_true_eq];omega
theorem aEw {r:Nat} (hs:lB (r:Int)=true) (more:List UInt8):mB (vC r ++ more)=some (r,(vC r).length):=by
 have hb:r<=1114111:=by unfold lB at hs;rw[decide_eq_true_eq] at hs;omega
 unfold vC
 split
 ·rename_i h
  have e:=fF (n:=r) (by omega);have:=zT (c:=UInt8.ofNat r) (by rw[e];exact h) more;rw[e] at this;exact this
 split
 ·rename_i h0 h
  have e:=fF (n:=192+r / 64) (by omega);obtain⟨c1,c2⟩:=xN (n:=r % 64) (by omega);obtain⟨a1,a2⟩:=(cX (UInt8.ofNat (192+r / 64))).1 (by rw[e];omega);generalize UInt8.ofNat (192+r / 64)=b0 at *;generalize UInt8.ofNat (128+r % 64)=x0 at *;simp only[List.cons_append,List.nil_append];rw[mB,if_neg (by rw[a1];simp),if_pos ⟨by simp,a2⟩];unfold tD
  have ht:fD (vB 1 b0) ((x0 :: more).take 1)=some r:=by
   simp only[List.take_succ_cons,List.take_zero,fD,c1,if_true,c2,vB,oF,e];rw[Option.some.injEq];omega
  rw[ht]
  dsimp only
  rw[hs,if_neg (by simp[yB];omega)]
  rfl
 split
 ·rename_i h0 h1 h
  have e:=fF (n:=224+r / 4096) (by omega);obtain⟨c1,c2⟩:=xN (n:=r / 64 % 64) (by omega);obtain⟨c3,c4⟩:=xN (n:=r % 64) (by omega);obtain⟨a1,a2,a3⟩:=(cX (UInt8.ofNat (224+r / 4096))).2.1 (by rw[e];omega);generalize UInt8.ofNat (224+r / 4096)=b0 at *;generalize UInt8.ofNat (128+r / 64 % 64)=x0 at *;generalize UInt8.ofNat (128+r % 64)=x1 at *;simp only[List.cons_append,List.nil_append];rw[mB,if_neg (by rw[a1];simp),if_neg (by rw[a2];simp),if_pos ⟨by simp,a3⟩];unfold tD
  have ht:fD (vB 2 b0) ((x0 :: x1 :: more).take 2)=some r:=by
   simp only[List.take_succ_cons,List.take_zero,fD,c1,c3,if_true,c2,c4,vB,oF,e];rw[Option.some.injEq];omega
  rw[ht]
  dsimp only
  rw[hs,if_neg (by simp[yB];omega)]
  rfl
 ·rename_i h0 h1 h
  have e:=fF (n:=240+r / 262144) (by omega);obtain⟨c1,c2⟩:=xN (n:=r / 4096 % 64) (by omega);obtain⟨c3,c4⟩:=xN (n:=r / 64 % 64) (by omega);obtain⟨c5,c6⟩:=xN (n:=r % 64) (by omega);obtain⟨a1,a2,a3,a4⟩:=(cX (UInt8.ofNat (240+r / 262144))).2.2 (by rw[e];omega);generalize UInt8.ofNat (240+r / 262144)=b0 at *;generalize UInt8.ofNat (128+r / 4096 % 64)=x0 at *;generalize UInt8.ofNat (128+r / 64 % 64)=x1 at *;generalize UInt8.ofNat (128+r % 64)=x2 at *;simp only[List.cons_append,List.nil_append];rw[mB,if_neg (by rw[a1];simp),if_neg (by rw[a2];simp),if_neg (by rw[a3];simp),if_pos ⟨by simp,a4⟩];unfold tD
  have ht:fD (vB 3 b0) ((x0 :: x1 :: x2 :: more).take 3)=some r:=by
   simp only[List.take_succ_cons,List.take_zero,fD,c1,c3,c5,if_true,c2,c4,c6,vB,oF,e];rw[Option.some.injEq];omega
  rw[ht]
  dsimp only
  rw[hs,if_neg (by simp[yB];omega)]
  rfl
theorem aEx (b0:UInt8) (bs:List UInt8):mB (b0 :: bs) =
  if bs.length+1 < (jG b0).2 then none
  else if lB (oH (jG b0).1 (bs.take ((jG b0).2 - 1)):Nat)=true/\(vC (oH (jG b0).1 (bs.take ((jG b0).2 - 1)))).isPrefixOf (b0 :: bs)=true/\(vC (oH (jG b0).1 (bs.take ((jG b0).2 - 1)))).length=(jG b0).2
   then some (oH (jG b0).1 (bs.take ((jG b0).2 - 1)),(jG b0).2) else none:=by
 cases hN:mB (b0 :: bs) with
 | some p=>
  obtain⟨r,k⟩:=p;obtain⟨j,h1,h2,h3,h4,h5,h6⟩:=pZ hN;obtain⟨g1,_⟩:=yM hN
  have q1:(vC r).isPrefixOf (b0 :: bs)=true:=by
   rw[g1,List.isPrefixOf_iff_prefix];exact List.take_prefix _ _
  have q2:(vC r).length=j+1:=by
   rw[g1,h2,List.length_take,List.length_cons];omega
  rw[aEv h1 h3]
  dsimp only
  rw[Nat.add_sub_cancel,fU h5,if_neg (by omega),if_pos ⟨h6,q1,q2⟩,h2]
 | none=>
  by_cases h1:bs.length+1 < (jG b0).2
  ·rw[if_pos h1]
  ·rw[if_neg h1,if_neg];rintro⟨h2,h3,h4⟩;generalize oH (jG b0).1 (bs.take ((jG b0).2 - 1))=r at h2 h3 h4;rw[List.isPrefixOf_iff_prefix] at h3;obtain⟨more,hm⟩:=h3;have:=aEw h2 more;rw[hm,hN] at this
   cases this
theorem aBb {c:UInt8} (h:128<=c.toNat):nB c=true:=by
 unfold nB zI;rw[show decide (127 < c.toNat)=true by rw[decide_eq_true_eq];omega]
 simp
theorem aCH {l:List UInt8} {r k:Nat} (h:mB l=some (r,k)) (hc:∃ c r,l=c :: r/\nB c=true):k<=(l.takeWhile nB).length/\mB (l.takeWhile nB)=some (r,k):=by
 obtain⟨g1,g2,g3,g4⟩:=yM h;obtain⟨p1,p2,_⟩:=uF h
 have hall:(l.take k).all nB=true:=by
  rw[List.all_eq_true];intro c hcm
  by_cases hk:1 < k
  ·exact aBb ((g3 hk).2 c hcm)
  ·obtain⟨c0,r0,rfl,hc0⟩:=hc;have hk1:k=1:=by omega
   subst hk1
   simp at hcm
   subst hcm;exact hc0
 have hsp:l=l.take k ++ l.drop k:=(List.take_append_drop k l).symm
 have htw:l.takeWhile nB=l.take k ++ (l.drop k).takeWhile nB:=by
  conv=>lhs;rw[hsp]
  rw[List.takeWhile_append_of_pos (List.all_eq_true.1 hall)]
 refine⟨by rw[htw,List.length_append,List.length_take];omega,?_⟩;rw[htw];exact g2 _
theorem aCI {w rest:List UInt8} {r k:Nat} (h:mB w=some (r,k)):mB (w ++ rest)=some (r,k):=by
 obtain⟨g1,g2,_⟩:=yM h;have:=g2 (w.drop k ++ rest)
 rwa [<- List.append_assoc,List.take_append_drop] at this
def xH:Nat -> List UInt8 -> Option Nat
 | 0,_=>some 0
 | n+1,l=>match l with
  | []=>some 0
  | c :: cs=>if nB c=true then match mB (c :: cs) with
    | none=>none
    | some (_,k)=>(xH n ((c :: cs).drop k)).map (· + k)
   else some 0
theorem dX {n:Nat} {l:List UInt8} (h:mB l=none) (hl:l ≠ []):jE n l=false:=by
 match l,hl with
 | c :: cs,_=>
  cases n with
  | zero=>rfl
  | succ n=>unfold jE;simp only[h]
theorem qZ:∀ (n:Nat) (l:List UInt8),l.length<=n -> xH n l=if jE n (l.takeWhile nB)=true then some (l.takeWhile nB).length else none
 | 0,l,h=>by
  have:l=[]:=List.length_eq_zero_iff.mp (by omega);subst this
  rfl
 | n+1,[],_=>rfl
 | n+1,c :: cs,h=>by
  unfold xH
  dsimp only
  cases hc:nB c with
  | false=>
   rw[if_neg (by simp),List.takeWhile_cons,hc]
   rfl
  | true=>
   rw[if_pos rfl];have htc:(c :: cs).takeWhile nB=c :: cs.takeWhile nB:=by rw[List.takeWhile_cons,hc,if_pos rfl]
   cases hN:mB (c :: cs) with
   | none=>
    have hn2:mB ((c :: cs).takeWhile nB)=none:=by
     cases hx:mB ((c :: cs).takeWhile nB) with
     | none=>rfl
     | some p=>
      obtain⟨r,k⟩:=p;have:=aCI (rest:=(c :: cs).dropWhile nB) hx;rw[List.takeWhile_append_dropWhile,hN] at this
      cases this
    rw[dX hn2 (by rw[htc];simp)]
    rfl
   | some p=>
    obtain⟨r,k⟩:=p;obtain⟨a1,a2⟩:=aCH hN ⟨c,cs,rfl,hc⟩;obtain⟨p1,p2,_⟩:=uF hN
    have hd:((c :: cs).drop k).takeWhile nB=((c :: cs).takeWhile nB).drop k:=by
     have hsp:(c :: cs).takeWhile nB ++ (c :: cs).dropWhile nB=c :: cs:=List.takeWhile_append_dropWhile
     conv=>lhs;rw[<- hsp]
     rw[List.drop_append_of_le_length a1,List.takeWhile_append_of_pos (fun x hx=>by
      have:=List.mem_of_mem_drop hx;exact List.all_eq_true.1 (List.all_takeWhile) x this)]
     have:((c :: cs).dropWhile nB).takeWhile nB=[]:=by
      cases hdw:(c :: cs).dropWhile nB with
      | nil=>rfl
      | cons x xs=>
       have:=List.head?_dropWhile_not nB (c :: cs);rw[hdw] at this;have hx:nB x=false:=by simpa using this
       rw[List.takeWhile_cons,hx]
       rfl
     rw[this,List.append_nil]
    have ih:=qZ n ((c :: cs).drop k) (by rw[List.length_drop];simp only[List.length_cons] at h ⊢;omega);rw[hd] at ih
    have hck:jE (n+1) ((c :: cs).takeWhile nB)=jE n (((c :: cs).takeWhile nB).drop k):=by
     rw[htc] at a2 ⊢;rw[jE];simp only[a2]
    rw[hck]
    dsimp only
    rw[ih]
    split
    ·rw[Option.map_some,List.length_drop]
     congr 1
     omega
    ·rfl
theorem eX (r:Nat) (w:World):Calls Tryz.prog 170 #[.int .i64 (r:Int)] w fun e w'=>e=.returned (.bool (lB (r:Int)))/\w=w':=by
 refine bA fun R HQ=>?_;have d0:decide (0<=(r:Int))=true:=dT (by omega)
 have HSB:Hid (lB (r:Int)=decide ((0<=(r:Int)/\(r:Int) < 55296) ∨ (57343 < (r:Int)/\(r:Int)<=1114111))):=lh rfl
 by_cases h1:r < 55296
 ·have d1:decide ((r:Int) < 55296)=true:=dT (by omega)
  have HB:Hid (lB (r:Int)=true):=lh (by rw[HSB.o,decide_eq_true_eq];omega)
  go_enter Tryz.func170,Tryz.ntmps170
  go_wp2_with fail;exact HQ.o _ _ ⟨by rw[HB.o];rfl,rfl⟩
 ·have d1:decide ((r:Int) < 55296)=false:=dF (by omega)
  by_cases h2:57343 < r
  ·have d2:decide (57343 < (r:Int))=true:=dT (by omega)
   by_cases h3:r<=1114111
   ·have d3:decide ((r:Int)<=1114111)=true:=dT (by omega)
    have HB:Hid (lB (r:Int)=true):=lh (by rw[HSB.o,decide_eq_true_eq];omega)
    go_enter Tryz.func170,Tryz.ntmps170
    go_wp2_with fail;exact HQ.o _ _ ⟨by rw[HB.o];rfl,rfl⟩
   ·have d3:decide ((r:Int)<=1114111)=false:=dF (by omega)
    have HB:Hid (lB (r:Int)=false):=lh (by rw[HSB.o,decide_eq_false_iff_not];omega)
    go_enter Tryz.func170,Tryz.ntmps170
    go_wp2_with fail;exact HQ.o _ _ ⟨by rw[HB.o];rfl,rfl⟩
  ·have d2:decide (57343 < (r:Int))=false:=dF (by omega)
   have HB:Hid (lB (r:Int)=false):=lh (by rw[HSB.o,decide_eq_false_iff_not];omega)
   go_enter Tryz.func170,Tryz.ntmps170
   go_wp2_with fail;exact HQ.o _ _ ⟨by rw[HB.o];rfl,rfl⟩
theorem fX (r:Nat) (hr:r<=1114111) (w:World):Calls Tryz.prog 172 #[.int .i64 (r:Int)] w fun e w'=>∃ c,e=.returned (.slice (some ⟨w.heap.size,0,none⟩) (vC r).length c)/\pB w' (.slice (some ⟨w.heap.size,0,none⟩) (vC r).length c) (vC r) w.heap.size/\c<=4/\Fr [] w w':=by
 refine bA fun R HQ=>?_
 by_cases h1:r < 128
 ·have HP:Hid (vC r=[UInt8.ofNat r]):=lh (by unfold vC;rw[if_pos h1]);have e0:=fF (n:=r) (by omega);generalize UInt8.ofNat r=x0 at *;have hw0:IntKind.u8.wrap (r:Int)=(x0.toNat:Int):=by rw[IntKind.wrap_u8,e0];omega
  have d1:decide ((r:Int) < 128)=true:=dT (by omega)
  rw[HP.o] at HQ;clear HP e0 h1 hr
  go_enter Tryz.func172,Tryz.ntmps172
  go_wp2_with fail;exact HQ.o _ _ ⟨1,rfl,.of_blk (Blk.new w 5 (iB [x0])) 1 (Nat.le_refl _),by decide,(Fr.refl [] w).alloc _⟩
 ·have d1:decide ((r:Int) < 128)=false:=dF (by omega)
  by_cases h2:r < 2048
  ·have HP:Hid (vC r=[UInt8.ofNat (192+r / 64),UInt8.ofNat (128+r % 64)]):=lh (by unfold vC;rw[if_neg h1,if_pos h2]);have q0:(r:Int).tdiv 64=((r / 64:Nat):Int):=rfl;have q1:(r:Int).tmod 64=((r % 64:Nat):Int):=rfl;have d2:decide ((r:Int) < 2048)=true:=dT (by omega)
   have e0:=fF (n:=192+r / 64) (by omega);have e1:=fF (n:=128+r % 64) (by omega);have l0:r / 64 < 64:=by omega
   have l1:r % 64 < 64:=by omega
   generalize r / 64=a at *;generalize r % 64=b at *;generalize UInt8.ofNat (192+a)=x0 at *;generalize UInt8.ofNat (128+b)=x1 at *;have hw0:IntKind.u8.wrap (192+(a:Int))=(x0.toNat:Int):=by rw[IntKind.wrap_u8,e0];omega
   have hv0:IntKind.i64.wrap (192+(a:Int))=192+(a:Int):=by rw[IntKind.wrap_i64];omega
   have hu0:IntKind.i64.wrap (a:Int)=(a:Int):=by rw[IntKind.wrap_i64];omega
   have hw1:IntKind.u8.wrap (128+(b:Int))=(x1.toNat:Int):=by rw[IntKind.wrap_u8,e1];omega
   have hv1:IntKind.i64.wrap (128+(b:Int))=128+(b:Int):=by rw[IntKind.wrap_i64];omega
   have hu1:IntKind.i64.wrap (b:Int)=(b:Int):=by rw[IntKind.wrap_i64];omega
   rw[HP.o] at HQ;clear HP e0 l0 e1 l1
   go_enter Tryz.func172,Tryz.ntmps172
   go_wp2_with fail;exact HQ.o _ _ ⟨2,rfl,.of_blk (Blk.new w 5 (iB [x0,x1])) 2 (Nat.le_refl _),by decide,(Fr.refl [] w).alloc _⟩
  ·have d2:decide ((r:Int) < 2048)=false:=dF (by omega)
   by_cases h3:r < 65536
   ·have HP:Hid (vC r=[UInt8.ofNat (224+r / 4096),UInt8.ofNat (128+r / 64 % 64),UInt8.ofNat (128+r % 64)]):=lh (by unfold vC;rw[if_neg h1,if_neg h2,if_pos h3]);have q0:(r:Int).tdiv 4096=((r / 4096:Nat):Int):=rfl;have q1:(r:Int).tmod 64=((r % 64:Nat):Int):=rfl;have q2:(r:Int).tdiv 64=((r / 64:Nat):Int):=rfl;have q3:((r / 64:Nat):Int).tmod 64=((r / 64 % 64:Nat):Int):=rfl;have q4:IntKind.i64.wrap ((r / 64:Nat):Int)=((r / 64:Nat):Int):=by rw[IntKind.wrap_i64];omega
    have d3:decide ((r:Int) < 65536)=true:=dT (by omega)
    have e0:=fF (n:=224+r / 4096) (by omega);have e1:=fF (n:=128+r / 64 % 64) (by omega);have e2:=fF (n:=128+r % 64) (by omega);have l0:r / 4096 < 32:=by omega
    have l1:r / 64 % 64 < 64:=by omega
    have l2:r % 64 < 64:=by omega
    generalize r / 64 % 64=b at *;generalize r / 64=y at *;generalize r / 4096=a at *;generalize r % 64=d at *;generalize UInt8.ofNat (224+a)=x0 at *;generalize UInt8.ofNat (128+b)=x1 at *;generalize UInt8.ofNat (128+d)=x2 at *;have hw0:IntKind.u8.wrap (224+(a:Int))=(x0.toNat:Int):=by rw[IntKind.wrap_u8,e0];omega
    have hv0:IntKind.i64.wrap (224+(a:Int))=224+(a:Int):=by rw[IntKind.wrap_i64];omega
    have hu0:IntKind.i64.wrap (a:Int)=(a:Int):=by rw[IntKind.wrap_i64];omega
    have hw1:IntKind.u8.wrap (128+(b:Int))=(x1.toNat:Int):=by rw[IntKind.wrap_u8,e1];omega
    have hv1:IntKind.i64.wrap (128+(b:Int))=128+(b:Int):=by rw[IntKind.wrap_i64];omega
    have hu1:IntKind.i64.wrap (b:Int)=(b:Int):=by rw[IntKind.wrap_i64];omega
    have hw2:IntKind.u8.wrap (128+(d:Int))=(x2.toNat:Int):=by rw[IntKind.wrap_u8,e2];omega
    have hv2:IntKind.i64.wrap (128+(d:Int))=128+(d:Int):=by rw[IntKind.wrap_i64];omega
    have hu2:IntKind.i64.wrap (d:Int)=(d:Int):=by rw[IntKind.wrap_i64];omega
    rw[HP.o] at HQ;clear HP e0 l0 e1 l1 e2 l2
    go_enter Tryz.func172,Tryz.ntmps172
    go_wp2_with fail;exact HQ.o _ _ ⟨3,rfl,.of_blk (Blk.new w 5 (iB [x0,x1,x2])) 3 (Nat.le_refl _),by decide,(Fr.refl [] w).alloc _⟩
   ·have HP:Hid (vC r=[UInt8.ofNat (240+r / 262144),UInt8.ofNat (128+r / 4096 % 64),UInt8.ofNat (128+r / 64 % 64),UInt8.ofNat (128+r % 64)]):=lh (by unfold vC;rw[if_neg h1,if_neg h2,if_neg h3]);have q0:(r:Int).tdiv 262144=((r / 262144:Nat):Int):=rfl;have q1:(r:Int).tmod 64=((r % 64:Nat):Int):=rfl;have q2:(r:Int).tdiv 64=((r / 64:Nat):Int):=rfl;have q3:((r / 64:Nat):Int).tmod 64=((r / 64 % 64:Nat):Int):=rfl;have q4:IntKind.i64.wrap ((r / 64:Nat):Int)=((r / 64:Nat):Int):=by rw[IntKind.wrap_i64];omega
    have q5:(r:Int).tdiv 4096=((r / 4096:Nat):Int):=rfl;have q6:((r / 4096:Nat):Int).tmod 64=((r / 4096 % 64:Nat):Int):=rfl;have q7:IntKind.i64.wrap ((r / 4096:Nat):Int)=((r / 4096:Nat):Int):=by rw[IntKind.wrap_i64];omega
    have d3:decide ((r:Int) < 65536)=false:=dF (by omega)
    have e0:=fF (n:=240+r / 262144) (by omega);have e1:=fF (n:=128+r / 4096 % 64) (by omega);have e2:=fF (n:=128+r / 64 % 64) (by omega);have e3:=fF (n:=128+r % 64) (by omega);have l0:r / 262144 < 16:=by omega
    have l1:r / 4096 % 64 < 64:=by omega
    have l2:r / 64 % 64 < 64:=by omega
    have l3:r % 64 < 64:=by omega
    generalize r / 4096 % 64=b at *;generalize r / 4096=z at *;generalize r / 64 % 64=d at *;generalize r / 64=y at *;generalize r / 262144=a at *;generalize r % 64=f at *;generalize UInt8.ofNat (240+a)=x0 at *;generalize UInt8.ofNat (128+b)=x1 at *;generalize UInt8.ofNat (128+d)=x2 at *;generalize UInt8.ofNat (128+f)=x3 at *;have hw0:IntKind.u8.wrap (240+(a:Int))=(x0.toNat:Int):=by rw[IntKind.wrap_u8,e0];omega
    have hv0:IntKind.i64.wrap (240+(a:Int))=240+(a:Int):=by rw[IntKind.wrap_i64];omega
    have hu0:IntKind.i64.wrap (a:Int)=(a:Int):=by rw[IntKind.wrap_i64];omega
    have hw1:IntKind.u8.wrap (128+(b:Int))=(x1.toNat:Int):=by rw[IntKind.wrap_u8,e1];omega
    have hv1:IntKind.i64.wrap (128+(b:Int))=128+(b:Int):=by rw[IntKind.wrap_i64];omega
    have hu1:IntKind.i64.wrap (b:Int)=(b:Int):=by rw[IntKind.wrap_i64];omega
    have hw2:IntKind.u8.wrap (128+(d:Int))=(x2.toNat:Int):=by rw[IntKind.wrap_u8,e2];omega
    have hv2:IntKind.i64.wrap (128+(d:Int))=128+(d:Int):=by rw[IntKind.wrap_i64];omega
    have hu2:IntKind.i64.wrap (d:Int)=(d:Int):=by rw[IntKind.wrap_i64];omega
    have hw3:IntKind.u8.wrap (128+(f:Int))=(x3.toNat:Int):=by rw[IntKind.wrap_u8,e3];omega
    have hv3:IntKind.i64.wrap (128+(f:Int))=128+(f:Int):=by rw[IntKind.wrap_i64];omega
    have hu3:IntKind.i64.wrap (f:Int)=(f:Int):=by rw[IntKind.wrap_i64];omega
    rw[HP.o] at HQ;clear HP e0 l0 e1 l1 e2 l2 e3 l3
    go_enter Tryz.func172,Tryz.ntmps172
    go_wp2_with fail;exact HQ.o _ _ ⟨4,rfl,.of_blk (Blk.new w 5 (iB [x0,x1,x2,x3])) 4 (Nat.le_refl _),by decide,(Fr.refl [] w).alloc _⟩
def BgRel (w:World) (bs cs:List UInt8) (m:Nat) (j:Nat) (v:Value) (wr:World):Prop:=∃ k:Nat,k+j=m/\v=.int .i64 (k:Int)/\bs.take k=cs.take k/\Fr [] w wr
theorem aHh {bs cs:List UInt8} (h:bs.take cs.length=cs):cs.isPrefixOf bs=true:=by
 rw[List.isPrefixOf_iff_prefix,List.prefix_iff_eq_take];exact h.symm
theorem aFM {bs cs:List UInt8} {k:Nat} {x y:UInt8} (hx:bs[k]? = some x) (hy:cs[k]? = some y) (h:x ≠ y):cs.isPrefixOf bs=false:=by
 rw[Bool.eq_false_iff];intro hp;rw[List.isPrefixOf_iff_prefix] at hp;obtain⟨t,rfl⟩:=hp;have hk:=(List.getElem?_eq_some_iff.1 hy).1;rw[List.getElem?_append_left hk,hy] at hx;exact h (Option.some.inj hx).symm
theorem aCJ {bs cs:List UInt8} (h:bs.length < cs.length):cs.isPrefixOf bs=false:=by
 rw[Bool.eq_false_iff];intro hp;rw[List.isPrefixOf_iff_prefix] at hp;have:=hp.length_le;omega
theorem aEy {w:World} {A B:Option Addr} {n m c d g g':Nat} {bs cs:List UInt8} (h1:pB w (.slice A n c) bs g) (h2:pB w (.slice B m d) cs g') (hz:bs.length<=9223372036854775806):
  RV 171 #[.slice A n c,.slice B m d] w (.bool (cs.isPrefixOf bs)):=by
 refine bA fun R HQ=>?_;obtain⟨hn,hnc⟩:=h1.len;obtain⟨hm,hmd⟩:=h2.len;have HA:=lh h1.get;have HB:=lh h2.get;have HN:=lh hn;have HM:=lh hm
 by_cases hl:n < m
 ·have d1:decide ((n:Int) < (m:Int))=true:=dT (by omega)
  have HE:Hid (cs.isPrefixOf bs=false):=lh (aCJ (by omega));rw[HE.o] at HQ;clear h1 h2 hn hm hnc hmd
  go_enter Tryz.func171,Tryz.ntmps171
  go_wp2_with fail;exact HQ.o _ _ ⟨rfl,Fr.refl _ _⟩
 ·have d1:decide ((n:Int) < (m:Int))=false:=dF (by omega)
  have hmn:m<=n:=by omega
  have hzn:n<=9223372036854775806:=by omega
  clear h1 h2 hn hm hnc hmd hz
  go_enter Tryz.func171,Tryz.ntmps171
  go_wp2_with fail
  go_loopg [5] m (fun j v wr=>BgRel w bs cs m j v wr)
  case atStart=>exact⟨0,by omega,rfl,rfl,Fr.refl _ _⟩
  case round=>
   obtain⟨k,hk,rfl,ht,hF⟩:=hrel;have HF:=lh hF;have HT:=lh ht;clear hF ht
   by_cases hkm:k < m
   ·obtain⟨x,hx⟩:∃ x,bs[k]? = some x:=gx (by have:=HN.o;omega);obtain⟨y,hy⟩:∃ y,cs[k]? = some y:=gx (by have:=HM.o;omega);obtain⟨off,rfl,hc1⟩:=HA.o (by have:=HN.o;omega);obtain⟨off',rfl,hc2⟩:=HB.o (by have:=HM.o;omega);have z1:=dA HF.o (hc1 k x hx);have z2:=dA HF.o (hc2 k y hy);have hki:(k:Int) < (m:Int):=by omega
    have hkn:k < n:=by omega
    have HX:=lh hx;have HY:=lh hy;clear hx hy hc1 hc2
    by_cases hxy:x=y
    ·have d2:((x.toNat:Int) != (y.toNat:Int))=false:=by rw[hxy];simp
     have HTT:Hid (bs.take (k+1)=cs.take (k+1)):=lh (by rw[List.take_add_one,List.take_add_one,HX.o,HY.o,HT.o,hxy]);clear hxy;go_upto_region 6 with fail
     go_quiet (fail)
     have hfq:Fr [] wr (wr.drewN nq):=(Fr.refl [] wr).drewN nq;have HF2:=lh (HF.o.trans hfq);generalize wr.drewN nq=w2 at *;clear hfq z1 z2;go_wp2_with fail
     go_roundg (m - (k+1))
     case measure=>omega
     case rel=>exact⟨k+1,by omega,by go_num,HTT.o,HF2.o⟩
    ·have d2:((x.toNat:Int) != (y.toNat:Int))=true:=by rw[bne_iff_ne];intro h;exact hxy (UInt8.toNat_inj.1 (by omega))
     have HE:Hid (cs.isPrefixOf bs=false):=lh (aFM HX.o HY.o hxy);rw[HE.o] at HQ;clear hxy;go_upto_region 6 with fail
     go_quiet (fail)
     have hfq:Fr [] wr (wr.drewN nq):=(Fr.refl [] wr).drewN nq;have HF2:=lh (HF.o.trans hfq);generalize wr.drewN nq=w2 at *;clear hfq z1 z2;go_wp2_with fail;exact HQ.o _ _ ⟨rfl,HF2.o⟩
   ·have HE:Hid (cs.isPrefixOf bs=true):=lh (aHh (by have h1:=HT.o;have h2:=HM.o;rw[show k=cs.length by omega,List.take_length] at h1;exact h1));have hki:¬ (k:Int) < (m:Int):=by omega
    rw[HE.o] at HQ;go_wp2_with fail;exact HQ.o _ _ ⟨rfl,HF.o⟩
def NdRel (w:World) (r0:Nat) (bs:List UInt8) (n:Nat) (j:Nat) (v4 v6:Value) (wr:World):Prop:=∃ k:Nat,k+j=n - 1/\v4=.int .i64 ((oH r0 (bs.take k):Nat):Int)/\v6=.int .i64 ((k+1:Nat):Int)/\w=wr
theorem rZ:∀ (l:List UInt8) (r:Nat),oH r l < (r+1) * 64 ^ l.length
 | [],r=>by simp[oH]
 | c :: l,r=>by
  have h:=rZ l (r * 64+c.toNat % 64);have e:oH r (c :: l)=oH (r * 64+c.toNat % 64) l:=rfl;rw[e,List.length_cons,Nat.pow_succ];have h2:(r * 64+c.toNat % 64+1) * 64 ^ l.length<=((r+1) * 64) * 64 ^ l.length:=Nat.mul_le_mul_right _ (by omega);have h3:(r+1) * (64 ^ l.length * 64)=((r+1) * 64) * 64 ^ l.length:=by rw[Nat.mul_comm (64 ^ l.length) 64,Nat.mul_assoc]
  omega
theorem aBc {l:List UInt8} {k:Nat} {c:UInt8} (h:l[k]? = some c) (r:Nat):oH r (l.take (k+1))=oH r (l.take k) * 64+c.toNat % 64:=by
 rw[List.take_add_one,h]
 simp[oH]
theorem sZ {l:List UInt8} {r:Nat} (hr:r<=255) (hl:l.length<=3):oH r l<=67108864:=by
 have h:=rZ l r;have h2:64 ^ l.length<=64 ^ 3:=Nat.pow_le_pow_right (by decide) hl;have h3:(r+1) * 64 ^ l.length<=256 * 64 ^ 3:=Nat.mul_le_mul (by omega) h2;omega
theorem tZ (b:UInt8):1<=(jG b).2/\(jG b).2<=4/\(jG b).1<=255:=by
 have:=qD (fun b=>decide (1<=(jG b).2/\(jG b).2<=4/\(jG b).1<=255)) (by decide +kernel) b;exact of_decide_eq_true this
theorem aBd {w:World} {A:Option Addr} {n c g:Nat} {bs:List UInt8} (hv:pB w (.slice A n c) bs g) (hz:bs.length<=9223372036854775000):RV 120 #[.slice A n c] w (tC bs):=by
 refine bA fun R HQ=>?_;obtain⟨hn,hnc⟩:=hv.len
 match bs with
 | []=>
  have hn0:n=0:=hn;subst hn0;clear hv hn
  go_enter Tryz.func120,Tryz.ntmps120
  go_wp2_with fail;exact HQ.o _ _ ⟨rfl,Fr.refl _ _⟩
 | b0 :: l=>
  have hn1:n=l.length+1:=by simpa using hn
  obtain⟨off,rfl,hcell⟩:=hv.get (by simp);have c0:=hcell 0 b0 rfl;rw[Nat.add_zero] at c0;have HC:=lh (fun(i:Nat) (x:UInt8) (h:l[i]? = some x)=>hcell (i+1) x (by simpa using h));have HV:=lh hv;have HN:=lh hn1;have HDN:=lh (aEx b0 l);obtain⟨hl1,hl2,hl3⟩:=tZ b0;have hlx:jG b0=if 240<=b0.toNat then (b0.toNat % 8,4) else if 224<=b0.toNat then (b0.toNat % 16,3) else if 192<=b0.toNat then (b0.toNat % 32,2) else (b0.toNat,1):=rfl
  obtain⟨⟨r0,N⟩,hld⟩:∃ p,jG b0=p:=⟨_,rfl⟩;rw[hld] at hlx HDN hl1 hl2 hl3;have HLD:=lh hlx;clear hlx
  simp only at HDN hl1 hl2 hl3
  have hn0:0 < n:=by omega
  have hnz:n<=9223372036854775001:=by simp at hz;omega
  have hne:¬ n=0:=by omega
  have hbt:=b0.toNat_lt;have t8:(b0.toNat:Int).tmod 8=((b0.toNat % 8:Nat):Int):=rfl;have t16:(b0.toNat:Int).tmod 16=((b0.toNat % 16:Nat):Int):=rfl;have t32:(b0.toNat:Int).tmod 32=((b0.toNat % 32:Nat):Int):=rfl;have hwb:IntKind.i64.wrap (b0.toNat:Int)=(b0.toNat:Int):=by rw[IntKind.wrap_i64];omega
  clear hv hn hcell hz hld hn1
  go_enter Tryz.func120,Tryz.ntmps120
  go_upto_block 0 with fail
  go_cut [4,5] (fun v4 v5 wc=>v4=.int .i64 (r0:Int)/\v5=.int .i64 (N:Int)/\w=wc)
  case first=>
   by_cases h1:240<=b0.toNat
   ·have d1:decide (240<=(b0.toNat:Int))=true:=dT (by omega)
    have e:(r0,N)=(b0.toNat % 8,4):=by rw[HLD.o,if_pos h1]
    injection e with e1 e2;subst e1 e2;clear HLD HDN hl1 hl2 hl3;go_wp2_with fail
    go_meet
    exact⟨rfl,rfl,rfl⟩
   ·have d1:decide (240<=(b0.toNat:Int))=false:=dF (by omega)
    by_cases h2:224<=b0.toNat
    ·have d2:decide (224<=(b0.toNat:Int))=true:=dT (by omega)
     have e:(r0,N)=(b0.toNat % 16,3):=by rw[HLD.o,if_neg h1,if_pos h2]
     injection e with e1 e2;subst e1 e2;clear HLD HDN hl1 hl2 hl3;go_wp2_with fail
     go_meet
     exact⟨rfl,rfl,rfl⟩
    ·have d2:decide (224<=(b0.toNat:Int))=false:=dF (by omega)
     by_cases h3:192<=b0.toNat
     ·have d3:decide (192<=(b0.toNat:Int))=true:=dT (by omega)
      have e:(r0,N)=(b0.toNat % 32,2):=by rw[HLD.o,if_neg h1,if_neg h2,if_pos h3]
      injection e with e1 e2;subst e1 e2;clear HLD HDN hl1 hl2 hl3;go_wp2_with fail
      go_meet
      exact⟨rfl,rfl,rfl⟩
     ·have d3:decide (192<=(b0.toNat:Int))=false:=dF (by omega)
      have e:(r0,N)=(b0.toNat,1):=by rw[HLD.o,if_neg h1,if_neg h2,if_neg h3]
      injection e with e1 e2;subst e1 e2;clear HLD HDN hl1 hl2 hl3;go_wp2_with fail
      go_meet
      exact⟨rfl,rfl,rfl⟩
  case rest=>
   obtain⟨rfl,rfl,rfl⟩:=hcut;clear t8 t16 t32 hwb c0 HLD
   by_cases hs:l.length+1 < N
   ·have hs':n < N:=by have:=HN.o;omega
    have HE:Hid (tC (b0 :: l)=.tuple #[.int .i32 0,.int .i64 0]):=lh (by unfold tC;rw[HDN.o,if_pos hs]);clear HDN hs;go_wp2_with fail;exact HQ.o _ _ ⟨by rw[HE.o];rfl,Fr.refl _ _⟩
   ·have hs':¬ n < N:=by have:=HN.o;omega
    have hdn:=HDN.o;rw[if_neg hs] at hdn;have HDM:=lh hdn;have HSL:Hid (N<=l.length+1):=lh (by omega);clear HDN hdn hs;go_wp2_with fail
    go_loopg [4,6] (N - 1) (fun j v4 v6 wr=>NdRel w r0 l N j v4 v6 wr)
    case atStart=>exact⟨0,by omega,rfl,rfl,rfl⟩
    case round=>
     obtain⟨k,hk,rfl,rfl,rfl⟩:=hrel;have HFS:Hid (oH r0 (l.take k)<=67108864):=lh (sZ hl3 (by rw[List.length_take];omega))
     by_cases hkn:k+1 < N
     ·obtain⟨x,hx⟩:∃ x,l[k]? = some x:=gx (by have:=HSL.o;omega);have c1:=HC.o k x hx;have HNX:=lh (aBc hx r0);have tx:(x.toNat:Int).tmod 64=((x.toNat % 64:Nat):Int):=rfl;have hxt:=x.toNat_lt;have hwx:IntKind.i64.wrap (x.toNat:Int)=(x.toNat:Int):=by rw[IntKind.wrap_i64];omega
      have hfs:=HFS.o;obtain⟨fr,hfr⟩:∃ fr,oH r0 (l.take k)=fr:=⟨_,rfl⟩;rw[hfr] at HNX hfs ⊢;obtain⟨m,hm⟩:∃ m,x.toNat % 64=m:=⟨_,rfl⟩;have hm64:m < 64:=by omega
      rw[hm] at tx HNX;have hw1:IntKind.i64.wrap ((fr:Int) * 64)=(fr:Int) * 64:=by rw[IntKind.wrap_i64];omega
      have hw2:IntKind.i64.wrap ((fr:Int) * 64+(m:Int))=(fr:Int) * 64+(m:Int):=by rw[IntKind.wrap_i64];omega
      have hkn':k+1 < n:=by have:=HN.o;have:=HSL.o;omega
      clear hx hfr hm HFS;go_wp2_with fail
      go_roundg (N - 1 - (k+1))
      case measure=>omega
      case rel=>exact⟨k+1,by omega,by rw[HNX.o];go_num,by go_num,rfl⟩
     ·obtain rfl:k=N - 1:=by omega
      have hfs:=HFS.o;obtain⟨v,hv9⟩:∃ v,oH r0 (l.take (N - 1))=v:=⟨_,rfl⟩;rw[hv9] at HDM hfs ⊢;have hkn':¬ N - 1+1 < N:=hkn;clear hv9 HFS;go_wp2_with fail;refine(eX v _).mono ?_;rintro e w2 ⟨rfl,rfl⟩
      cases hsv:lB (v:Int) with
      | false=>
       have HE:Hid (tC (b0 :: l)=.tuple #[.int .i32 0,.int .i64 0]):=lh (by unfold tC;rw[HDM.o,if_neg (by rw[hsv];simp)]);clear hsv HDM;go_wp2_with fail;exact HQ.o _ _ ⟨by rw[HE.o];rfl,Fr.refl _ _⟩
      | true=>
       have hvb:v<=1114111:=by unfold lB at hsv;rw[decide_eq_true_eq] at hsv;omega
       have HSV:=lh hsv;clear hsv;go_wp2_with fail;refine(fX v hvb _).mono ?_;rintro e w3 ⟨c3,rfl,hb3,hc3,hf3⟩;have HB3:=lh hb3;have HF3:=lh hf3;have HPL:=lh (rfl:(vC v).length=(vC v).length);clear hb3 hf3;go_wp2_with fail;refine(aEy (HV.o.fr HF3.o) HB3.o (by simp;have:=HN.o;omega)).mono ?_;rintro e w4 ⟨rfl,hf4⟩;have HF4:=lh (HF3.o.trans hf4);clear hf4
       cases hpx:(vC v).isPrefixOf (b0 :: l) with
       | false=>
        have HE:Hid (tC (b0 :: l)=.tuple #[.int .i32 0,.int .i64 0]):=lh (by unfold tC;rw[HDM.o,if_neg (by rw[hpx];simp)]);clear hpx HDM;go_wp2_with fail;exact HQ.o _ _ ⟨by rw[HE.o];rfl,HF4.o⟩
       | true=>
        have HPX:=lh hpx;clear hpx;go_wp2_with fail;refine(fX v hvb _).mono ?_;rintro e w5 ⟨c5,rfl,hb5,hc5,hf5⟩;have HF5:=lh (HF4.o.trans hf5);clear hb5 hf5;obtain⟨pl,hpl⟩:∃ pl,(vC v).length=pl:=⟨_,rfl⟩;rw[hpl]
        by_cases hN:pl=N
        ·have dn:((pl:Int) != (N:Int))=false:=by rw[hN];simp
         have hw9:IntKind.i32.wrap (v:Int)=(v:Int):=by rw[IntKind.wrap_i32];omega
         have HE:Hid (tC (b0 :: l)=.tuple #[.int .i32 (v:Int),.int .i64 (N:Int)]):=lh (by unfold tC;rw[HDM.o,if_pos ⟨HSV.o,HPX.o,hpl.trans hN⟩]);clear hN hpl HDM;go_wp2_with fail;exact HQ.o _ _ ⟨by rw[HE.o];rfl,HF5.o⟩
        ·have dn:((pl:Int) != (N:Int))=true:=by rw[bne_iff_ne];intro h;exact hN (by omega)
         have HE:Hid (tC (b0 :: l)=.tuple #[.int .i32 0,.int .i64 0]):=lh (by unfold tC;rw[HDM.o,if_neg (by rw[hpl];simp[hN])]);clear hN hpl HDM;go_wp2_with fail;exact HQ.o _ _ ⟨by rw[HE.o];rfl,HF5.o⟩
def aBK:List UInt8:=[48,49,50,51,52,53,54,55,56,57,97,98,99,100,101,102]
def aBL:List UInt8:=[48,49,50,51,52,53,54,55,56,57,65,66,67,68,69,70]
theorem aFN (c:UInt8):∀ k,k < 16 -> (aJ c=some k ↔ (c=aBK.getD k 0 ∨ c=aBL.getD k 0)):=by
 have:=qD (fun c=>(List.range 16).all fun k=>decide (aJ c=some k ↔ (c=aBK.getD k 0 ∨ c=aBL.getD k 0))) (by decide +kernel) c;intro k hk;exact of_decide_eq_true (List.all_eq_true.1 this k (List.mem_range.2 hk))
def dI (c:UInt8) (k:Nat):Int:=match aJ c with | none=>-1 | some m=>if m < k then (m:Int) else -1
theorem gU {c:UInt8} {k:Nat} (h:aJ c=some k):dI c (k+1)=k:=by
 unfold dI;rw[h];simp
theorem uZ {c:UInt8} {k:Nat} (h:aJ c ≠ some k):dI c (k+1)=dI c k:=by
 unfold dI
 cases hc:aJ c with
 | none=>rfl
 | some m=>
  have:m ≠ k:=fun e=>h (by rw[hc,e])
  dsimp only
  by_cases hm:m < k
  ·rw[if_pos hm,if_pos (by omega)]
  ·rw[if_neg hm,if_neg (by omega)]
def eS (o:Option Nat):Int:=match o with | none=>-1 | some v=>(v:Int)
theorem aBe (c:UInt8):dI c 16=eS (aJ c):=by
 unfold dI eS
 cases hc:aJ c with
 | none=>rfl
 | some m=>exact if_pos (oP hc)
theorem hU:∀ (l m:List UInt8) (v:Nat),yG v (l ++ m)=match yG v l with | none=>none | some x=>yG x m
 | [],m,v=>rfl
 | c :: l,m,v=>by
  rw[List.cons_append];simp only[yG]
  cases aJ c with
  | none=>rfl
  | some d=>exact hU l m _
def HxRel (w:World) (l:List UInt8) (j:Nat) (v3 v4:Value) (wr:World):Prop:=∃ i x:Nat,i+j=4/\yG 0 (l.take i)=some x/\x < 16 ^ i/\v3=.int .i64 (x:Int)/\v4=.int .i64 (i:Int)/\Fr [] w wr
def HdRel (w:World) (c:UInt8) (j:Nat) (v5 v6:Value) (wr:World):Prop:=∃ k:Nat,k+j=16/\v5=.int .i64 (dI c k)/\v6=.int .i64 (k:Int)/\Fr [] w wr
theorem aGT {w:World} {A:Option Addr} {n c g:Nat} {l:List UInt8} (hv:pB w (.slice A n c) l g) (hz:l.length<=9223372036854775000):RV 174 #[.slice A n c] w (.int .i64 (eS (if 4<=l.length then yG 0 (l.take 4) else none))):=by
 refine bA fun R HQ=>?_;obtain⟨hn,hnc⟩:=hv.len;have HG:=lh hv.get;have HN:=lh hn
 by_cases h4:n < 4
 ·have HE:Hid ((if 4<=l.length then yG 0 (l.take 4) else none)=none):=lh (if_neg (by omega));rw[HE.o] at HQ;clear hv hn hnc hz
  go_enter Tryz.func174,Tryz.ntmps174
  go_wp2_with fail;exact HQ.o _ _ ⟨rfl,Fr.refl _ _⟩
 ·have HE:Hid ((if 4<=l.length then yG 0 (l.take 4) else none)=yG 0 (l.take 4)):=lh (if_pos (by omega));rw[HE.o] at HQ;have hnz:n<=9223372036854775000:=by omega
  obtain⟨off,rfl,hcell⟩:=HG.o (by omega);have HC:=lh hcell;have hn4:4<=n:=by omega
  clear hv hn hnc hz HG hcell
  go_enter Tryz.func174,Tryz.ntmps174
  go_wp2_with fail
  go_loopg [3,4] 4 (fun j v3 v4 wr=>HxRel w l j v3 v4 wr)
  case atStart=>exact⟨0,0,by omega,rfl,by decide,rfl,rfl,Fr.refl _ _⟩
  case round=>
   obtain⟨wo,rfl⟩:=nm (wr);obtain⟨i,x,hi,hx,hx16,rfl,rfl,hF⟩:=hrel;have HF:=lh hF;have HX:=lh hx;have HX16:=lh hx16;clear hF hx hx16
   by_cases hi4:i < 4
   ·obtain⟨b,hb⟩:∃ b,l[i]? = some b:=gx (by have:=HN.o;omega);have HB:=lh hb;have hii:(i:Int) < 4:=by omega
    clear hb;go_wp2_with fail
    go_loopg [5,6] 16 (fun j v5 v6 wr=>HdRel wo b j v5 v6 wr)
    case atStart=>exact⟨0,by omega,by unfold dI;cases aJ b <;> rfl,rfl,Fr.refl _ _⟩
    case round=>
     obtain⟨k,hk,rfl,rfl,hF2⟩:=hrel;have HF2:=lh hF2;clear hF2
     by_cases hk16:k < 16
     ·have hki:(k:Int) < 16:=by omega
      have HH:=lh (aFN b k hk16);obtain⟨lo,hlo⟩:=gx (l:=aBK) hk16;obtain⟨up,hup⟩:=gx (l:=aBL) hk16;have hl1:=fun W=>rA (s:=⟨#[48,49,50,51,52,53,54,55,56,57,97,98,99,100,101,102]⟩) (i:=k) (c:=lo) hlo .i64 W;have hl2:=fun W=>rA (s:=⟨#[48,49,50,51,52,53,54,55,56,57,65,66,67,68,69,70]⟩) (i:=k) (c:=up) hup .i64 W;have e1:aBK.getD k 0=lo:=by rw[List.getD_eq_getElem?_getD,hlo];rfl
      have e2:aBL.getD k 0=up:=by rw[List.getD_eq_getElem?_getD,hup];rfl
      rw[e1,e2] at HH;have z1:=dA HF2.o (dA HF.o (HC.o i b HB.o));have hin:i < n:=by omega
      clear hlo hup e1 e2
      by_cases q1:b=lo
      ·have d1:((b.toNat:Int) == (lo.toNat:Int))=true:=by rw[q1];simp
       have HDK:Hid (dI b (k+1)=(k:Int)):=lh (gU (HH.o.2 (.inl q1)));clear q1;go_upto_region 11 with fail
       go_quiet (fail)
       have hfq:Fr [] wr (wr.drewN nq):=(Fr.refl [] wr).drewN nq;have HF3:=lh (HF2.o.trans hfq);generalize wr.drewN nq=w3 at *;clear hfq z1;go_wp2_with fail
       go_roundg (16 - (k+1))
       case measure=>omega
       case rel=>exact⟨k+1,by omega,by rw[HDK.o],by go_num,HF3.o⟩
      ·have d1:((b.toNat:Int) == (lo.toNat:Int))=false:=by rw[beq_eq_false_iff_ne];intro h;exact q1 (UInt8.toNat_inj.1 (by omega))
       by_cases q2:b=up
       case' pos=>
        have d2:((b.toNat:Int) == (up.toNat:Int))=true:=by rw[q2];simp
        have HDK:Hid (dI b (k+1)=(k:Int)):=lh (gU (HH.o.2 (.inr q2)))
       case' neg=>
        have d2:((b.toNat:Int) == (up.toNat:Int))=false:=by rw[beq_eq_false_iff_ne];intro h;exact q2 (UInt8.toNat_inj.1 (by omega))
        have HDK:Hid (dI b (k+1)=dI b k):=lh (uZ fun h=>(HH.o.1 h).elim q1 q2)
       all_goals
        clear q1 q2;go_upto_region 11 with fail
        go_quiet (fail)
        have hfq:Fr [] wr (wr.drewN nq):=(Fr.refl [] wr).drewN nq;have HF3:=lh (HF2.o.trans hfq);generalize wr.drewN nq=w3 at *;clear hfq z1;go_wp2_with fail
        go_roundg (16 - (k+1))
        case measure=>omega
        case rel=>exact⟨k+1,by omega,by rw[HDK.o],by go_num,HF3.o⟩
     ·obtain rfl:k=16:=by omega
      rw[aBe]
      cases hd:aJ b with
      | none=>
       have HNO:Hid (eS (yG 0 (l.take 4)) = -1):=lh (by
        have hsp:l.take 4=l.take i ++ (b :: (l.drop (i+1)).take (4 - (i+1))):=by
         have h1:l.take 4=l.take i ++ (l.drop i).take (4 - i):=by rw[<- List.take_add];congr 1;omega
         rw[h1,xA HB.o,show 4 - i=(4 - (i+1))+1 by omega,List.take_succ_cons]
        rw[hsp,hU,HX.o];simp only[yG,hd]
        rfl)
       rw[HNO.o] at HQ;clear hd;unfold eS
       dsimp only
       go_wp2_with fail;exact HQ.o _ _ ⟨rfl,HF.o.trans HF2.o⟩
      | some m=>
       have hm16:=oP hd;have hxm:x * 16+m < 16 ^ (i+1):=by have:=HX16.o;rw[Nat.pow_succ];omega
       have hxs:x < 65536:=by have h1:=HX16.o;have h2:16 ^ i<=16 ^ 4:=Nat.pow_le_pow_right (by decide) (by omega);omega
       have HXN:Hid (yG 0 (l.take (i+1))=some (x * 16+m)):=lh (by rw[List.take_add_one,HB.o,hU,HX.o];simp[yG,hd]);have HXM:=lh hxm;have hw1:IntKind.i64.wrap ((x:Int) * 16)=(x:Int) * 16:=by rw[IntKind.wrap_i64];omega
       have hw2:IntKind.i64.wrap ((x:Int) * 16+(m:Int))=(x:Int) * 16+(m:Int):=by rw[IntKind.wrap_i64];omega
       have hm0:¬ (m:Int) < 0:=by omega
       clear hd hxm;unfold eS
       dsimp only
       go_wp2_with fail
       go_roundg (4 - (i+1))
       case measure=>omega
       case rel=>exact⟨i+1,x * 16+m,by omega,HXN.o,HXM.o,by go_num,by go_num,HF.o.trans HF2.o⟩
   ·obtain rfl:i=4:=by omega
    rw[HX.o] at HQ;go_wp2_with fail;exact HQ.o _ _ ⟨rfl,HF.o⟩
end
end Go.Proofs.YtbggkiebfflcdaaGreatDoor
