/-
  Joined by join.py: Nd Ne Nf
-/
import Derived.Test.YtpjbdpepofnleaaGreatJpl11
set_option maxRecDepth 100000
set_option maxHeartbeats 32000000
namespace Go.Proofs.YtpjbdpepofnleaaGreat
section
def placeOf (l : List It) (key : Ky) : Nat := (l.takeWhile fun y => decide (klt y.key key)).length
def headIs (l : List It) (key : Ky) : Bool := match l with | y :: _ => decide (y.key = key) | [] => false
def isAt (l : List It) (key : Ky) : Bool := headIs (l.dropWhile fun y => decide (klt y.key key)) key
def delAt (l : List It) (k : Nat) : List It := l.take k ++ l.drop (k + 1)
def reKey (l : List It) (k : Nat) (key : Ky) : List It := l.take k ++ match l.drop k with | y :: B => { y with key := key } :: B | [] => []
noncomputable def joinF (c : CD) (at_ : Nat) (n : Nd) (k : Nat) : Option (CD × (Ky × Nat)) :=
 match c.N (n.child k), c.N (n.child (k + 1)), n.l[k]? with
 | some a, some b, some y =>
  if (a.with_ y.key b).size <= 512 then some (((c.write (n.child k) (a.with_ y.key b)).free (n.child (k + 1))).lay at_ { n with l := delAt n.l k })
  else some (((c.write (n.child k) (a.with_ y.key b).left).write (n.child (k + 1)) (a.with_ y.key b).right).lay at_ { n with l := reKey n.l k (a.with_ y.key b).key })
 | _, _, _ => none
noncomputable def mendF (c : CD) (at_ : Nat) (n : Nd) (k : Nat) (u : Ky × Nat) : Option (CD × (Ky × Nat)) :=
 if u.2 ≠ 0 then some (c.lay at_ { n with l := insAt n.l k ⟨u.1, [], u.2⟩ })
 else match c.N (n.child k) with
  | none => none
  | some x => if c.e ≠ 0 ∨ 170 <= x.size ∨ n.l = [] then some (c, ([], 0)) else joinF c at_ n (k - 1)
noncomputable def cutF : Nat -> CD -> Nat -> Ky -> Option (CD × Bool × (Ky × Nat))
 | 0, _, _, _ => none
 | f + 1, c, k, key =>
  match c.N k with
  | none => none
  | some n =>
   if n.lf then if isAt n.l key then some (c.write k { n with l := delAt n.l (placeOf n.l key) }, true, ([], 0)) else some (c, false, ([], 0))
   else match cutF f c (n.child (n.way key)) key with
    | none => none
    | some (c', is, u) => if is then (mendF c' k n (n.way key) u).map fun r => (r.1, true, r.2) else some (c', false, ([], 0))
section
variable {c c' : CD} {U F R P : List Nat} {k h : Nat} {n : Nd} {lo hi : Option Ky} {E : En}
theorem KidsL.snoc {S : SubT} {y : It} : ∀ {A : List It} {lo : Option Ky} {c : Nat} {E : En} {P : List Nat}, KidsL S lo c (A ++ [y]) E P ↔ ∃ E' P' E1 P1, KidsL S lo c A E' P' /\ S (chOf c A) (loOf lo A) (some y.key) E1 P1 /\ E = E' ++ E1 /\ P = P' ++ P1
 | [], lo, c, E, P => by
  constructor
  ·rintro ⟨E1, P1, E2, P2, h1, ⟨rfl, rfl⟩, rfl, rfl⟩; exact ⟨[], [], E1, P1, ⟨rfl, rfl⟩, h1, by simp, by simp⟩
  ·rintro ⟨_, _, E1, P1, ⟨rfl, rfl⟩, h1, eE, eP⟩; rw [List.nil_append] at eE eP; subst eE; subst eP; exact ⟨E, P, [], [], h1, ⟨rfl, rfl⟩, by simp, by simp⟩
 | x :: A, lo, c, E, P => by
  constructor
  ·rintro ⟨E1, P1, E2, P2, h1, h2, rfl, rfl⟩; obtain ⟨E3, P3, E4, P4, a1, a2, rfl, rfl⟩ := KidsL.snoc.1 h2; exact ⟨E1 ++ E3, P1 ++ P3, E4, P4, ⟨E1, P1, E3, P3, h1, a1, rfl, rfl⟩, a2, by rw [List.append_assoc], by rw [List.append_assoc]⟩
  ·rintro ⟨_, _, E4, P4, ⟨E1, P1, E3, P3, h1, a1, rfl, rfl⟩, a2, rfl, rfl⟩; exact ⟨E1, P1, E3 ++ E4, P3 ++ P4, h1, KidsL.snoc.2 ⟨E3, P3, E4, P4, a1, a2, rfl, rfl⟩, by rw [List.append_assoc], by rw [List.append_assoc]⟩
theorem chOf_snoc (c : Nat) (y : It) : ∀ A : List It, chOf c (A ++ [y]) = y.at_
 | [] => rfl
 | x :: A => chOf_snoc x.at_ y A
theorem loOf_snoc (lo : Option Ky) (y : It) : ∀ A : List It, loOf lo (A ++ [y]) = some y.key
 | [] => rfl
 | x :: A => loOf_snoc (some x.key) y A
theorem loOf_lt {y : It} : ∀ {A : List It} {lo : Option Ky}, (A ++ [y]).Pairwise (fun x z => klt x.key z.key) -> (∀ a, lo = some a -> klt a y.key) -> ∀ a, loOf lo A = some a -> klt a y.key
 | [], _, _, h, a, ha => h a ha
 | x :: A, lo, hp, _, a, ha => by
  have hp' := List.pairwise_cons.1 hp; refine loOf_lt (lo := some x.key) hp'.2 (fun b hb => ?_) a ha; injection hb with hb; rw [<- hb]; exact hp'.1 y (List.mem_append_right _ (List.mem_singleton.2 rfl))
theorem items_few {n : Nd} (hs : n.size <= 512) : n.l.length <= 509 := by
 have : ∀ l : List It, l.length <= sumB n.lf l := fun l => by
  induction l with
  | nil => exact Nat.zero_le _
  | cons y l ih => rw [sumB_cons, List.length_cons]; unfold ibn; split <;> omega
 have := this n.l; rw [size_eq] at hs
 split at hs <;> omega
theorem mid_key {S : SubT} (hS : Fine S) {A B : List It} {y : It} {ch : Nat} (hK : Kids S lo ch (A ++ y :: B) hi E P) : geLo (loOf lo A) y.key /\ ltHi (hiOf hi B) y.key := by
 obtain ⟨h1, h2⟩ := Kids.keys hS hK; refine ⟨fun a ha => klt_asymm (loOf_lt (A := A) (y := y) ?_ (h2 y (List.mem_append_right _ (List.mem_cons_self ..))).1 a ha), ?_⟩
 ·have e : A ++ y :: B = (A ++ [y]) ++ B := by simp
  rw [e] at h1; exact (List.pairwise_append.1 h1).1
 ·cases B with
  | nil => exact (h2 y (List.mem_append_right _ (List.mem_cons_self ..))).2
  | cons z B =>
   intro b hb; injection hb with hb; rw [<- hb]; exact (List.pairwise_cons.1 (List.pairwise_append.1 h1).2.1).1 z (List.mem_cons_self ..)
theorem sub_mono {Q : List Nat} (hN : ∀ p ∈ Q, c'.N p = c.N p) : ∀ cc lo hi E P', (∀ p ∈ P', p ∈ Q) -> Sub c.N 1 h cc lo hi E P' -> Sub c'.N 1 h cc lo hi E P' := fun _ _ _ _ _ hP hs => hs.congr fun p hp => hN p (hP p hp)
theorem join_ok {A B : List It} {y : It} {EA E1 E2 EB : En} {PA P1 P2 PB : List Nat} {a b : Nd} (hl : n.l = A ++ y :: B) (hlf : n.lf = false) (hok : n.ok) (hsz : n.size <= 512)
  (kL : KidsL (Sub c.N 1 h) lo n.first A EA PA) (na : c.N (chOf n.first A) = some a) (aok : a.ok) (asz : a.size <= 512) (fa : NF c.N h a (loOf lo A) (some y.key) E1 P1)
  (nb : c.N y.at_ = some b) (bok : b.ok) (bsz : b.size <= 512) (fb : NF c.N h b (some y.key) (hiOf hi B) E2 P2) (kR : KidsR (Sub c.N 1 h) B hi EB PB)
  (hne : 1 <= a.l.length + b.l.length) (hss : a.size + b.size <= 512 + 169) (g1 : geLo (loOf lo A) y.key) (g2 : ltHi (hiOf hi B) y.key)
  (ha : Acc c (k :: (PA ++ ((chOf n.first A :: P1) ++ (y.at_ :: P2)) ++ PB) ++ R) F) (he : c.e = 0) :
  ∃ c' u, joinF c k n A.length = some (c', u) /\ Left c c' 0 (h + 1) k lo hi (EA ++ ((E1 ++ E2) ++ EB)) u R := by
 have hc1 : n.child A.length = chOf n.first A := by unfold Nd.child; rw [hl, List.take_left]
 have hc2 : n.child (A.length + 1) = y.at_ := by
  unfold Nd.child; rw [hl, show A ++ y :: B = (A ++ [y]) ++ B by simp, show A.length + 1 = (A ++ [y]).length by simp, List.take_left, chOf_snoc]
 have hy : n.l[A.length]? = some y := by rw [hl, List.getElem?_append_right (Nat.le_refl _), Nat.sub_self]; rfl
 have hyok := hok.item y (by rw [hl]; exact List.mem_append_right _ (List.mem_cons_self ..)); have hab : a.lf = b.lf := by rw [fa.kind, fb.kind]
 obtain ⟨m, hm⟩ := nm (a.with_ y.key b); have mok : m.ok := by rw [hm]; exact with_ok aok bok hab ⟨hyok.k1, hyok.k2⟩ (by have := items_few asz; have := items_few bsz; omega)
 have msz : m.size = if a.lf then a.size + b.size - 3 else a.size + b.size + y.key.length - 2 := by rw [hm]; exact with_size hab _
 have mlf : m.lf = a.lf := by rw [hm]; rfl
 have mf : NF c.N h m (loOf lo A) (hiOf hi B) (E1 ++ E2) (P1 ++ P2) := by rw [hm]; exact fa.with_ fb g2 g1
 have ml : 1 <= m.l.length := by
  rw [hm]
  show 1 <= ((if a.lf then a.l else a.l ++ [⟨y.key, [], b.first⟩]) ++ b.l).length
  rw [List.length_append]
  split
  ·omega
  ·rw [List.length_append]; simp only [List.length_cons, List.length_nil]; omega
 have hyk := hyok.k2; obtain ⟨p, hp⟩ := nm (chOf n.first A); obtain ⟨q, hq⟩ := nm (y.at_); rw [<- hp] at hc1 ha na; rw [<- hq] at hc2 ha nb; have hnd := ha.nodup; have hcnt : ∀ z, (k :: (PA ++ ((p :: P1) ++ (q :: P2)) ++ PB) ++ R ++ F).count z <= 1 := fun z => List.nodup_iff_count.1 hnd z
 have ne : ∀ z, z ∈ k :: (PA ++ (P1 ++ P2) ++ PB) ++ R -> z ≠ p /\ z ≠ q := fun z hz => by
  have h1 := hcnt z; have h2 : 1 <= (k :: (PA ++ (P1 ++ P2) ++ PB) ++ R).count z := List.count_pos_iff.2 hz; simp only [List.count_append, List.count_cons] at h1 h2
  constructor
  ·intro e; rw [if_pos (show (p == z) = true by simp [e])] at h1; omega
  ·intro e; rw [if_pos (show (q == z) = true by simp [e])] at h1; omega
 have hpq : p ≠ q := fun e => by
  have h1 := hcnt p; simp only [List.count_append, List.count_cons] at h1; rw [if_pos (show (p == p) = true by simp), if_pos (show (q == p) = true by simp [e])] at h1; omega
 have hpF : p ∉ F := ha.apart (k := p) (by simp); have hqF : q ∉ F := ha.apart (k := q) (by simp); unfold joinF; rw [hc1, hc2, na, nb, hy]
 simp only
 rw [<- hm]
 by_cases hs : m.size <= 512
 case' pos =>
  rw [if_pos hs]; obtain ⟨d, hd⟩ := nm ((c.write p m).free q); have hdN : ∀ z, z ≠ q -> d.N z = if z = p then some m else c.N z := fun z hz => by rw [hd, N_free hz, N_write]
  have hN : ∀ z, z ∈ k :: (PA ++ (P1 ++ P2) ++ PB) ++ R -> d.N z = c.N z := fun z hz => by rw [hdN z (ne z hz).2, if_neg (ne z hz).1]
  have had : Acc d (k :: (PA ++ (p :: (P1 ++ P2)) ++ PB) ++ R) (q :: F) := by
   rw [hd]; refine Acc.free ((ha.write (k := p) (by simp) mok hs).swap ?_); rw [List.perm_iff_count]; intro z; simp only [List.count_append, List.count_cons]; omega
  have sm : Same c d := by rw [hd]; exact ⟨rfl, rfl, rfl⟩
  have ed : d.e = 0 := by rw [hd]; exact he
  have hsub : Sub d.N 1 h p (loOf lo A) (hiOf hi B) (E1 ++ E2) (p :: (P1 ++ P2)) := ⟨m, P1 ++ P2, by rw [hdN p hpq, if_pos rfl], mok, hs, ml, rfl, mf.congr fun z hz => hN z (by simp at hz ⊢; rcases hz with hz | hz <;> simp [hz])⟩
  have hnf : NF d.N (h + 1) { n with l := A ++ B } lo hi (EA ++ ((E1 ++ E2) ++ EB)) (PA ++ ((p :: (P1 ++ P2)) ++ PB)) := by
   refine ⟨hlf, Kids.focus.2 ⟨EA, PA, E1 ++ E2, p :: (P1 ++ P2), EB, PB, KidsL.mono (P := PA) (sub_mono fun z hz => hN z (by simp [hz])) (fun _ h => h) kL, by rw [hp] at hsub ⊢; exact hsub, KidsR.mono (P := PB) (sub_mono fun z hz => hN z (by simp [hz])) (fun _ h => h) kR, rfl, rfl⟩⟩
  have hdel : delAt n.l A.length = A ++ B := by
   unfold delAt; rw [hl, List.take_left, show A ++ y :: B = (A ++ [y]) ++ B by simp, show A.length + 1 = (A ++ [y]).length by simp, List.drop_left]
  rw [hdel]
  have hsz' : Nd.size { n with l := A ++ B } <= 512 := by
   rw [size_eq, hl, sumB_append, sumB_cons] at hsz; rw [size_eq, sumB_append]
   simp only
   omega
  have hlay := lay_ok (m := 0) hnf (R := R) (F := q :: F) (k := k) (had.swap (by
   rw [List.perm_iff_count]; intro z; simp only [List.count_append, List.count_cons]
   omega)) ed ⟨by
    show (A ++ B).length < 65536
    have := hok.few; rw [hl, List.length_append, List.length_cons] at this; rw [List.length_append]; omega, fun z hz => hok.item z (by rw [hl]; rcases List.mem_append.1 hz with hz | hz; exact List.mem_append_left _ hz; exact List.mem_append_right _ (List.mem_cons_of_mem _ hz)), hok.first, hok.bare⟩ (by show _ <= if n.lf = true then 680 else 780; rw [if_neg (by rw [hlf]; decide)]; omega) (Nat.zero_le _)
 case' neg =>
  rw [if_neg hs]; have hms : m.size <= if m.lf then 680 else 780 := by rw [mlf, msz]; split <;> omega
  obtain ⟨s1, s2, s3, s4, s5, s6, s7, s8⟩ := Nd.split_ok mok (by omega) hms; obtain ⟨x, hx⟩ : ∃ x, m.l[m.cutAt]? = some x := ⟨_, List.getElem?_eq_getElem s1⟩; have hkey : m.key = x.key := by unfold Nd.key; rw [hx]; rfl
  have hxo := mok.item x (List.mem_of_getElem? hx); obtain ⟨E3, P3, E4, P4, n1, n2, eE, eP, hh, hll⟩ := mf.split s1 s2; obtain ⟨d, hd⟩ := nm ((c.write p m.left).write q m.right); have hdN : ∀ z, d.N z = if z = q then some m.right else if z = p then some m.left else c.N z := fun z => by rw [hd, N_write, N_write]
  have hN : ∀ z, z ∈ k :: (PA ++ (P1 ++ P2) ++ PB) ++ R -> d.N z = c.N z := fun z hz => by rw [hdN z, if_neg (ne z hz).2, if_neg (ne z hz).1]
  have had : Acc d (k :: (PA ++ ((p :: P1) ++ (q :: P2)) ++ PB) ++ R) F := by rw [hd]; exact (ha.write (by simp) s7 s3).write (by simp) s8 s4
  have sm : Same c d := by rw [hd]; exact ⟨rfl, rfl, rfl⟩
  have ed : d.e = 0 := by rw [hd]; exact he
  have hsubL : Sub d.N 1 h p (loOf lo A) (some m.key) E3 (p :: P3) := ⟨m.left, P3, by rw [hdN, if_neg hpq, if_pos rfl], s7, s3, s5, rfl, n1.congr fun z hz => hN z (by
   have : z ∈ P1 ++ P2 := by rw [eP]; exact List.mem_append_left _ hz
   simp at this ⊢; rcases this with h | h <;> simp [h])⟩
  have hsubR : Sub d.N 1 h q (some m.key) (hiOf hi B) E4 (q :: P4) := ⟨m.right, P4, by rw [hdN, if_pos rfl], s8, s4, s6, rfl, n2.congr fun z hz => hN z (by
   have : z ∈ P1 ++ P2 := by rw [eP]; exact List.mem_append_right _ hz
   simp at this ⊢; rcases this with h | h <;> simp [h])⟩
  have hre : reKey n.l A.length m.key = A ++ { y with key := m.key } :: B := by
   unfold reKey; rw [hl, List.take_left, List.drop_left]
  rw [hre]
  have hnf : NF d.N (h + 1) { n with l := A ++ { y with key := m.key } :: B } lo hi (EA ++ ((E1 ++ E2) ++ EB)) (PA ++ (((p :: P3) ++ (q :: P4)) ++ PB)) := by
   refine ⟨hlf, ?_⟩; rw [eE]; exact Kids.focus2.2 ⟨EA, PA, E3, p :: P3, E4, q :: P4, EB, PB, KidsL.mono (P := PA) (sub_mono fun z hz => hN z (by simp [hz])) (fun _ h => h) kL, by rw [hp] at hsubL ⊢; exact hsubL, by rw [hq] at hsubR ⊢; exact hsubR, KidsR.mono (P := PB) (sub_mono fun z hz => hN z (by simp [hz])) (fun _ h => h) kR, rfl, rfl⟩
  have hk96 : m.key.length <= 96 := by rw [hkey]; exact hxo.k2
  have hk1 : 1 <= m.key.length := by rw [hkey]; exact hxo.k1
  have hsz' : Nd.size { n with l := A ++ { y with key := m.key } :: B } <= 620 := by
   rw [size_eq, hl, sumB_append, sumB_cons] at hsz; rw [size_eq, sumB_append, sumB_cons]; simp only [hlf, ibn, if_false, Bool.false_eq_true] at hsz ⊢; omega
  have hcP : ∀ z, P1.count z + P2.count z = P3.count z + P4.count z := fun z => by
   have := congrArg (List.count z) eP
   simpa only [List.count_append] using this
  have hlay := lay_ok (m := 0) hnf (R := R) (F := F) (k := k) (had.swap (by
   rw [List.perm_iff_count]; intro z; have := hcP z; simp only [List.count_append, List.count_cons]
   omega)) ed ⟨by
    show (A ++ { y with key := m.key } :: B).length < 65536
    have := hok.few; rw [hl, List.length_append, List.length_cons] at this; rw [List.length_append, List.length_cons]; exact this, fun z hz => by
    show z.ok n.lf
    rcases List.mem_append.1 hz with hz | hz
    ·exact hok.item z (by rw [hl]; exact List.mem_append_left _ hz)
    ·rcases List.mem_cons.1 hz with rfl | hz
     ·exact ⟨hk1, hk96, hyok.v, hyok.at_, hyok.bare⟩
     ·exact hok.item z (by rw [hl]; exact List.mem_append_right _ (List.mem_cons_of_mem _ hz)), hok.first, hok.bare⟩ (by show _ <= if n.lf = true then 680 else 780; rw [if_neg (by rw [hlf]; decide)]; omega) (Nat.zero_le _)
 all_goals
  rw [<- hd]; obtain ⟨sm2, hlay⟩ := hlay; have hRR : ∀ z ∈ R, d.N z = c.N z := fun z hz => hN z (by simp [hz]); refine ⟨_, _, rfl, sm.trans sm2, ?_⟩; rcases hlay with ⟨z0, Pz, Fz, z1, z2, z3⟩ | z
  ·exact .inl ⟨z0, Pz, Fz, z1, fun w hw => (z2 w hw).trans (hRR w hw), z3⟩
  ·exact .inr ⟨z.1, z.2.1, fun w hw => (z.2.2.1 w hw).trans (hRR w hw), z.2.2.2.1, by rw [<- sm.n]; exact z.2.2.2.2⟩
end
end
section
section
variable {c c' : CD} {U F R P : List Nat} {k h : Nat} {n : Nd} {lo hi : Option Ky} {E : En}
theorem leafCut {l : List It} {key : Ky} (hr : Rise (entOf l)) : (isAt l key = true ↔ ∃ e ∈ entOf l, e.1 = key) /\ (isAt l key = true -> entOf (delAt l (placeOf l key)) = delE (entOf l) key /\ (delAt l (placeOf l key)).length + 1 = l.length /\ sumB true (delAt l (placeOf l key)) <= sumB true l /\ ∀ x ∈ delAt l (placeOf l key), x ∈ l) := by
 obtain ⟨A, hA⟩ := nm (l.takeWhile fun y => decide (klt y.key key)); obtain ⟨D, hD⟩ := nm (l.dropWhile fun y => decide (klt y.key key)); have hl : l = A ++ D := by rw [hA, hD, List.takeWhile_append_dropWhile]
 have hp : placeOf l key = A.length := by rw [hA]; rfl
 have h1 : ∀ e ∈ entOf A, klt e.1 key := fun e he => by
  obtain ⟨y, hy, rfl⟩ := List.mem_map.1 he; rw [hA] at hy
  simpa using takeWhile_all y hy
 have hi' : isAt l key = headIs D key := by rw [hD]; rfl
 rw [hp, hi']; rw [hl, entOf_append] at hr; obtain ⟨_, r2, _⟩ := List.pairwise_append.1 hr
 cases hDc : D with
 | nil =>
  refine ⟨⟨(fun h => by cases h), fun ⟨e, he, hk⟩ => ?_⟩, fun h => by cases h⟩
  exfalso
  rw [hl, hDc, List.append_nil] at he; have := h1 e he; rw [hk] at this; exact klt_irrefl _ this
 | cons y B =>
  have hy : ¬ klt y.key key := by
   rw [hD] at hDc
   simpa using dropWhile_head hDc
  rw [hDc] at r2 hl; have r2' := (List.pairwise_cons.1 r2).1; unfold headIs
  simp only
  by_cases hk : y.key = key
  ·have h2 : ∀ e ∈ entOf B, klt key e.1 := fun e he => by rw [<- hk]; exact r2' e he
   have hdel : delAt l A.length = A ++ B := by
    unfold delAt; rw [hl, List.take_left, show A ++ y :: B = (A ++ [y]) ++ B by simp, show A.length + 1 = (A ++ [y]).length by simp, List.drop_left]
   refine ⟨⟨fun _ => ⟨(y.key, y.v), by rw [hl, entOf_append]; exact List.mem_append_right _ (List.mem_cons_self ..), hk⟩, fun _ => by simpa using hk⟩, fun _ => ?_⟩; rw [hdel]; refine ⟨?_, by rw [hl, List.length_append, List.length_append, List.length_cons]; omega, by rw [hl, sumB_append, sumB_append, sumB_cons]; omega, fun x hx => ?_⟩
   ·have := delE_mid (EA := entOf A) (E0 := [(y.key, y.v)]) (EB := entOf B) (k := key) h1 h2; rw [hl, entOf_append, entOf_append]
    show entOf A ++ entOf B = delE (entOf A ++ ((y.key, y.v) :: entOf B)) key
    rw [List.singleton_append] at this; rw [this]
    simp [delE, hk]
   ·rw [hl]; rcases List.mem_append.1 hx with hx | hx
    ·exact List.mem_append_left _ hx
    ·exact List.mem_append_right _ (List.mem_cons_of_mem _ hx)
  ·have hxy : klt key y.key := by
    by_cases h : klt key y.key
    ·exact h
    ·exact absurd (klt_tri hy h) hk
   refine ⟨⟨fun h => absurd (of_decide_eq_true h) hk, fun ⟨e, he, hek⟩ => ?_⟩, fun h => absurd (of_decide_eq_true h) hk⟩
   exfalso
   rw [hl, entOf_append] at he; rcases List.mem_append.1 he with he | he
   ·have := h1 e he; rw [hek] at this; exact klt_irrefl _ this
   ·rcases List.mem_cons.1 he with rfl | he
    ·exact hk hek
    ·have := klt_trans hxy (r2' e he); rw [hek] at this; exact klt_irrefl _ this
theorem small_some {x : Nd} (h : 170 <= x.size) : 1 <= x.l.length := by
 cases hl : x.l with
 | nil =>
  exfalso
  rw [size_eq, hl] at h; have : sumB x.lf [] = 0 := rfl
  split at h <;> omega
 | cons y l => simp
theorem cut_ok : ∀ (h : Nat) {f : Nat} {c : CD} {k : Nat} {lo hi : Option Ky} {E : En} {P R F : List Nat} {key : Ky}, h < f -> Sub c.N 1 h k lo hi E P -> Acc c (P ++ R) F -> c.e = 0 -> geLo lo key -> ltHi hi key ->
  ∃ c' is u, cutF f c k key = some (c', is, u) /\ (is = true ↔ ∃ e ∈ E, e.1 = key) /\ (is = false -> c' = c /\ u.2 = 0) /\ (is = true -> Left c c' 0 h k lo hi (delE E key) u R)
 | 0, f, c, k, lo, hi, E, P, R, F, key, hf, hs, ha, he, h1, h2 => by
  obtain ⟨f, rfl⟩ : ∃ g, f = g + 1 := ⟨f - 1, by omega⟩; obtain ⟨n, P', e1, hok, hsz, hm, rfl, hlf, rfl, rfl, hr, hw⟩ := hs; obtain ⟨q1, q2⟩ := leafCut (key := key) hr; have hkF : k ∉ F := ha.apart (k := k) (by simp)
  have hkR : k ∉ R := fun hk => by
   have := (List.nodup_append.1 (List.nodup_append.1 ha.nodup).1).2.2 k (by simp) k hk; exact this rfl
  cases his : isAt n.l key with
  | false =>
   have q3 := q1; rw [his] at q3; refine ⟨c, false, ([], 0), ?_, q3, fun _ => ⟨rfl, rfl⟩, fun h => by cases h⟩; unfold cutF; rw [e1]
   simp only
   rw [if_pos hlf, if_neg (by rw [his]; decide)]
  | true =>
   obtain ⟨d1, d2, d3, d4⟩ := q2 his; have q3 := q1; rw [his] at q3
   have hok' : Nd.ok { n with l := delAt n.l (placeOf n.l key) } := ⟨by
    show (delAt n.l (placeOf n.l key)).length < 65536
    have := hok.few; omega, fun x hx => hok.item x (d4 x hx), hok.first, hok.bare⟩
   have hsz' : Nd.size { n with l := delAt n.l (placeOf n.l key) } <= 512 := by
    rw [size_eq] at hsz ⊢; simp only [hlf, if_true] at hsz ⊢; omega
   refine ⟨c.write k { n with l := delAt n.l (placeOf n.l key) }, true, ([], 0), ?_, q3, (fun h => by cases h), fun _ => ⟨⟨rfl, rfl, rfl⟩, .inl ⟨he, [k], F, ha.write (by simp) hok' hsz', fun p hp => ?_, .inl ⟨rfl, { n with l := delAt n.l (placeOf n.l key) }, [], by rw [N_write, if_pos rfl], hok', hsz', Nat.zero_le _, rfl, hlf, d1.symm, rfl, ?_, ?_⟩⟩⟩⟩
   ·unfold cutF; rw [e1]
    simp only
    rw [if_pos hlf, if_pos his]
   ·rw [N_write, if_neg fun (e : p = k) => hkR (e ▸ hp)]
   ·exact hr.filter _
   ·exact fun e he => hw e (List.mem_filter.1 he).1
 | h + 1, f, c, k, lo, hi, E, P, R, F, key, hf, hs, ha, he, h1, h2 => by
  obtain ⟨f, rfl⟩ : ∃ g, f = g + 1 := ⟨f - 1, by omega⟩; obtain ⟨n, P', e1, hok, hsz, hm, rfl, hlf, hK⟩ := hs; obtain ⟨A, B, hl, hAl, hAt, hBd, g1, g2⟩ := way_split (n := n) h1 h2; have hkeys := (Kids.keys Sub.fine hK).1
  have hmid : ∀ {A' B' : List It} {y : It}, n.l = A' ++ y :: B' -> geLo (loOf lo A') y.key /\ ltHi (hiOf hi B') y.key := fun e => by
   rw [e] at hK; exact mid_key Sub.fine hK
  rw [hl] at hK hkeys; have hpA := (List.pairwise_append.1 hkeys).1; obtain ⟨EA, PA, E0, P0, EB, PB, kL, k0, kR, rfl, rfl⟩ := Kids.focus.1 hK; obtain ⟨q1, q2⟩ := putE_focus Sub.fine kL kR (_E0 := E0) hpA g1 g2; have hch : n.child (n.way key) = chOf n.first A := by unfold Nd.child; rw [hAt]
  have haI : Acc c (P0 ++ (k :: (PA ++ PB) ++ R)) F := ha.swap (by
   rw [List.perm_iff_count]; intro a; simp only [List.count_append, List.count_cons]; omega)
  obtain ⟨c', is, u, ep, his, hno, hyes⟩ := cut_ok h (f := f) (by omega) k0 haI he g1 g2
  have his' : is = true ↔ ∃ e ∈ EA ++ (E0 ++ EB), e.1 = key := by
   rw [his]
   constructor
   ·rintro ⟨e, he, hk⟩; exact ⟨e, List.mem_append_right _ (List.mem_append_left _ he), hk⟩
   ·rintro ⟨e, he, hk⟩; rcases List.mem_append.1 he with he | he
    ·have := q1 e he; rw [hk] at this; exact absurd this (klt_irrefl _)
    ·rcases List.mem_append.1 he with he | he
     ·exact ⟨e, he, hk⟩
     ·have := q2 e he; rw [hk] at this; exact absurd this (klt_irrefl _)
  have epf : cutF (f + 1) c k key = if is then (mendF c' k n (n.way key) u).map fun r => (r.1, true, r.2) else some (c', false, ([], 0)) := by
   unfold cutF; rw [e1]
   simp only
   rw [if_neg (by rw [hlf]; decide), hch, ep]
  rw [epf]
  cases is with
  | false => exact ⟨c', false, ([], 0), rfl, his', fun _ => ⟨(hno rfl).1, rfl⟩, fun h => by cases h⟩
  | true =>
   rw [if_pos rfl, delE_mid q1 q2]
   suffices hs : ∃ c2 u2, mendF c' k n (n.way key) u = some (c2, u2) /\ Left c c2 0 (h + 1) k lo hi (EA ++ (delE E0 key ++ EB)) u2 R by
    obtain ⟨c2, u2, hm2, hL⟩ := hs; exact ⟨c2, true, u2, by rw [hm2]; rfl, his', (fun h => by cases h), fun _ => hL⟩
   obtain ⟨sm, hres⟩ := hyes rfl; clear ep epf his his' hno hyes; unfold mendF; rw [hch]; rcases hres with ⟨e0, Pn, Fn, ha', hR, hres⟩ | ⟨e5, u0, hR, ⟨n0, hn0⟩, hful⟩
   ·have hNk : c'.N k = some n := by rw [hR k (List.mem_append_left _ (List.mem_cons_self ..))]; exact e1
    have mono : ∀ {Q : List Nat}, (∀ p ∈ Q, p ∈ PA ∨ p ∈ PB) -> ∀ cc lo hi E P', (∀ p ∈ P', p ∈ Q) -> Sub c.N 1 h cc lo hi E P' -> Sub c'.N 1 h cc lo hi E P' := fun hQ cc lo hi E P' hP hsub =>
     hsub.congr fun p hp => hR p (List.mem_append_left _ (List.mem_cons_of_mem _ (List.mem_append.2 (hQ p (hP p hp)))))
    have kL' := KidsL.mono (mono (Q := PA) (fun p hp => .inl hp)) (fun p hp => hp) kL; have kR' := KidsR.mono (mono (Q := PB) (fun p hp => .inr hp)) (fun p hp => hp) kR; have hRR : ∀ p ∈ R, c'.N p = c.N p := fun p hp => hR p (List.mem_append_right _ hp)
    have fin : ∀ {c2 : CD} {E2 : En} {u2 : Ky × Nat}, Left c' c2 0 (h + 1) k lo hi E2 u2 R -> Left c c2 0 (h + 1) k lo hi E2 u2 R := fun hL => by
     obtain ⟨sm2, hL⟩ := hL; refine ⟨sm.trans sm2, ?_⟩; rcases hL with ⟨z0, Pz, Fz, z1, z2, z3⟩ | z
     ·exact .inl ⟨z0, Pz, Fz, z1, fun w hw => (z2 w hw).trans (hRR w hw), z3⟩
     ·exact .inr ⟨z.1, z.2.1, fun w hw => (z.2.2.1 w hw).trans (hRR w hw), z.2.2.2.1, by rw [<- sm.n]; exact z.2.2.2.2⟩
    rcases hres with ⟨u0, hsub⟩ | ⟨u0, u1, u2, u3, u4, E1, P1, E2, P2, s1, s2, eE, rfl⟩
    ·rw [if_neg (fun h => h u0)]; obtain ⟨x, Px, x1, x2, x3, _, rfl, x6⟩ := id hsub; rw [x1]
     simp only
     by_cases hx : 170 <= x.size
     ·rw [if_pos (.inr (.inl hx))]; refine ⟨c', ([], 0), rfl, sm, .inl ⟨e0, k :: (PA ++ ((chOf n.first A :: Px) ++ PB)), Fn, ha'.swap ?_, hRR, .inl ⟨rfl, n, PA ++ ((chOf n.first A :: Px) ++ PB), hNk, hok, hsz, Nat.zero_le _, rfl, hlf, ?_⟩⟩⟩
      ·rw [List.perm_iff_count]; intro a; simp only [List.count_append, List.count_cons]; omega
      ·rw [hl]; exact Kids.focus.2 ⟨EA, PA, _, _, EB, PB, kL', ⟨x, Px, x1, x2, x3, small_some hx, rfl, x6⟩, kR', rfl, rfl⟩
     ·have hnl : n.l ≠ [] := fun e => by rw [e] at hm; cases hm
      rw [if_neg (by rintro (h | h | h); exact h e0; exact hx h; exact hnl h), <- hAl]; rcases List.eq_nil_or_concat A with hA0 | ⟨A', y, hA'⟩
      ·subst hA0; obtain ⟨rfl, rfl⟩ := kL'
       cases B with
       | nil => exact absurd hl hnl
       | cons y B =>
        obtain ⟨_, _, E2, P2, EB', PB', ⟨rfl, rfl⟩, b2, b3, rfl, rfl⟩ := (Kids.focus (A := [])).1 (show Kids (Sub c'.N 1 h) (some y.key) y.at_ ([] ++ B) hi EB PB from kR'); obtain ⟨z, Pz, z1, z2, z3, z4, rfl, z6⟩ := b2; obtain ⟨m1, m2⟩ := hmid hl
        obtain ⟨c2, u2, j1, j2⟩ := join_ok (A := []) (B := B) (k := k) (F := Fn) (R := R) (P1 := Px) (P2 := Pz) (PA := []) (PB := PB') (EA := []) (EB := EB') (E1 := delE E0 key) (E2 := E2) (lo := lo) (hi := hi) (a := x) (b := z) hl hlf hok hsz ⟨rfl, rfl⟩ x1 x2 x3 x6 z1 z2 z3 z6 b3 (by omega) (by omega) m1 m2 (ha'.swap (by
         rw [List.perm_iff_count]; intro a; simp only [List.count_append, List.count_cons, chOf, List.nil_append]; omega)) e0
        refine ⟨c2, u2, j1, fin ?_⟩; have e : ([] : En) ++ (delE E0 key ++ ([] ++ (E2 ++ EB'))) = [] ++ ((delE E0 key ++ E2) ++ EB') := by simp
        rw [e]; exact j2
      ·rw [List.concat_eq_append] at hA'; subst hA'; obtain ⟨EA', PA', E1, P1, l1, l2, rfl, rfl⟩ := KidsL.snoc.1 kL'; obtain ⟨z, Pz, z1, z2, z3, z4, rfl, z6⟩ := l2; rw [chOf_snoc] at x1 ha'; rw [loOf_snoc] at x6; have hl' : n.l = A' ++ y :: B := by rw [hl]; simp
       obtain ⟨m1, m2⟩ := hmid hl'
       obtain ⟨c2, u2, j1, j2⟩ := join_ok (A := A') (B := B) (y := y) (k := k) (F := Fn) (R := R) (P1 := Pz) (P2 := Px) (PA := PA') (PB := PB) (EA := EA') (EB := EB) (E1 := E1) (E2 := delE E0 key) (lo := lo) (hi := hi) (a := z) (b := x) hl' hlf hok hsz l1 z1 z2 z3 z6 x1 x2 x3 x6 kR' (by omega) (by omega) m1 m2 (ha'.swap (by
        rw [List.perm_iff_count]; intro a; simp only [List.count_append, List.count_cons]; omega)) e0
       refine ⟨c2, u2, by rw [show (A' ++ [y]).length - 1 = A'.length by simp]; exact j1, fin ?_⟩; have e : (EA' ++ E1) ++ (delE E0 key ++ EB) = EA' ++ ((E1 ++ delE E0 key) ++ EB) := by simp
       rw [e]; exact j2
    ·rw [if_pos u0]
     have hu : u.2 < 65536 := by
      have := (ha'.mem (k := u.2) (.inl (List.mem_append_left _ (List.mem_append_right _ s2.head)))).2; have := ha'.next2; have := ha'.few; omega
     have hins : insAt n.l (n.way key) ⟨u.1, [], u.2⟩ = A ++ ⟨u.1, [], u.2⟩ :: B := by unfold insAt; rw [hAt, hBd]
     rw [hins]
     have hnf : NF c'.N (h + 1) { n with l := A ++ ⟨u.1, [], u.2⟩ :: B } lo hi (EA ++ (delE E0 key ++ EB)) (PA ++ ((P1 ++ P2) ++ PB)) := by
      refine ⟨hlf, ?_⟩; rw [eE]; exact Kids.focus2.2 ⟨EA, PA, E1, P1, E2, P2, EB, PB, kL', s1, s2, kR', rfl, rfl⟩
     have hsz' : Nd.size { n with l := A ++ ⟨u.1, [], u.2⟩ :: B } = n.size + (3 + u.1.length) := by
      rw [size_eq, size_eq, hl, sumB_append, sumB_append, sumB_cons]; simp only [ibn, hlf, if_false, Bool.false_eq_true]; omega
     have hlen := items_few hsz
     have hl2 := lay_ok (m := 0) hnf (R := R) (F := Fn) (k := k) (ha'.swap (by
      rw [List.perm_iff_count]; intro a; simp only [List.count_append, List.count_cons]
      omega)) e0 ⟨by
       show (A ++ ⟨u.1, [], u.2⟩ :: B).length < 65536
       have : n.l.length = A.length + B.length := by rw [hl, List.length_append]
       rw [List.length_append, List.length_cons]; omega, fun y hy => by
       show y.ok n.lf
       rcases List.mem_append.1 hy with hy | hy
       ·exact hok.item y (by rw [hl]; exact List.mem_append_left _ hy)
       ·rcases List.mem_cons.1 hy with rfl | hy
        ·exact ⟨u1, u2, Nat.zero_le _, hu, by rw [hlf]; rfl⟩
        ·exact hok.item y (by rw [hl]; exact List.mem_append_right _ hy), hok.first, hok.bare⟩
      (by show _ <= if n.lf = true then 680 else 780; rw [if_neg (by rw [hlf]; decide), hsz']; omega) (Nat.zero_le _)
     exact ⟨_, _, rfl, fin hl2⟩
   ·rw [if_neg (fun h => h u0), hn0]
    simp only
    rw [if_pos (.inl (by rw [e5]; decide))]
    exact ⟨c', ([], 0), rfl, sm, .inr ⟨e5, rfl, fun p hp => hR p (List.mem_append_right _ hp), ⟨n, by rw [hR k (List.mem_append_left _ (List.mem_cons_self ..))]; exact e1⟩, by
     have a1 := KidsL.count (fun c lo hi E P h => (Sub.count h).1) kL; have a2 := KidsR.count (fun c lo hi E P h => (Sub.count h).1) kR; have a3 : n.l.length = A.length + B.length := by rw [hl, List.length_append]
     simp only [List.length_append, List.length_cons] at hful ⊢; omega⟩⟩
end
end
section
def setR {α : Type} (r : Nat -> α) (t : Nat) (v : α) : Nat -> α := fun k => if k = t then v else r k
def CD.root (c : CD) (t v : Nat) : CD := { c with roots := setR c.roots t v }
def growC (c : CD) (t : Nat) (u : Ky × Nat) : CD := if u.2 = 0 then c else (c.alloc.1.root t c.alloc.2).write c.alloc.2 ⟨false, c.roots t, [⟨u.1, [], u.2⟩]⟩
noncomputable def lowerC (c : CD) (t : Nat) : Option CD := match c.N (c.roots t) with | none => none | some n => if c.e ≠ 0 ∨ n.l ≠ [] then some c else some ((c.free (c.roots t)).root t n.first)
noncomputable def putC (c : CD) (t : Nat) (x : It) : Option CD := if c.roots t = 0 then some ((c.alloc.1.root t c.alloc.2).write c.alloc.2 ⟨true, 0, [x]⟩) else (putF 40 c (c.roots t) x).map fun r => growC r.1 t r.2
noncomputable def delC (c : CD) (t : Nat) (key : Ky) : Option (CD × Bool) :=
 if c.roots t = 0 then some (c, false)
 else match cutF 40 c (c.roots t) key with
  | none => none
  | some (c', is, u) => if is then (lowerC (growC c' t u) t).map fun d => (d, true) else some (c', false)
def Tree (N : Nat -> Option Nd) (root : Nat) (E : En) (P : List Nat) : Prop := (root = 0 /\ E = [] /\ P = []) ∨ (root ≠ 0 /\ ∃ h, Sub N 1 h root none none E P)
def allP (P : Nat -> List Nat) : List Nat := (List.range 8).flatMap P
def restP (P : Nat -> List Nat) (t : Nat) : List Nat := ((List.range 8).erase t).flatMap P
structure Forest (c : CD) (E : Nat -> En) (P : Nat -> List Nat) (F : List Nat) : Prop where
 e : c.e = 0
 tree : ∀ t, t < 8 -> Tree c.N (c.roots t) (E t) (P t)
 acc : Acc c (allP P) F
structure SameP (c c' : CD) : Prop where
 pg : c'.pg = c.pg
 n : c'.n = c.n
section
variable {c c' : CD} {E : Nat -> En} {P : Nat -> List Nat} {F : List Nat} {t : Nat}
theorem restP_set (Q : List Nat) : restP (setR P t Q) t = restP P t := by
 unfold restP
 have hn : ∀ k ∈ (List.range 8).erase t, setR P t Q k = P k := fun k hk => by
  unfold setR; rw [if_neg]; rintro rfl; exact (List.Nodup.not_mem_erase List.nodup_range) hk
 generalize (List.range 8).erase t = l at hn
 induction l with
 | nil => rfl
 | cons a l ih => rw [List.flatMap_cons, List.flatMap_cons, hn a (List.mem_cons_self ..), ih (fun k hk => hn k (List.mem_cons_of_mem _ hk))]
theorem allP_perm (ht : t < 8) : (allP P).Perm (P t ++ restP P t) := by
 unfold allP restP; have h := List.perm_cons_erase (List.mem_range.2 ht); have h2 := h.flatMap_right P
 rwa [List.flatMap_cons] at h2
theorem restP_mem {k s : Nat} (hs : s < 8) (hst : s ≠ t) (hk : k ∈ P s) : k ∈ restP P t := by
 unfold restP; rw [List.mem_flatMap]; exact ⟨s, (List.mem_erase_of_ne hst).2 (List.mem_range.2 hs), hk⟩
theorem Tree.congr {N N' : Nat -> Option Nd} {root : Nat} {E : En} {P : List Nat} (h : Tree N root E P) (hN : ∀ p ∈ P, N' p = N p) : Tree N' root E P := by
 rcases h with h | ⟨h0, h, hs⟩
 ·exact .inl h
 ·exact .inr ⟨h0, h, hs.congr hN⟩
theorem Forest.turn {Et : En} {Pt F' : List Nat} (h : Forest c E P F) (ht : t < 8) (he : c'.e = 0) (hr : ∀ s, s ≠ t -> c'.roots s = c.roots s) (hT : Tree c'.N (c'.roots t) Et Pt) (ha : Acc c' (Pt ++ restP P t) F') (hN : ∀ p ∈ restP P t, c'.N p = c.N p) :
  Forest c' (setR E t Et) (setR P t Pt) F' := by
 refine ⟨he, fun s hs => ?_, ha.swap ?_⟩
 ·by_cases hst : s = t
  ·subst hst; unfold setR; rw [if_pos rfl, if_pos rfl]; exact hT
  ·have e1 : setR E t Et s = E s := if_neg hst; have e2 : setR P t Pt s = P s := if_neg hst; rw [e1, e2, hr s hst]; exact (h.tree s hs).congr fun p hp => hN p (restP_mem hs hst hp)
 ·have := allP_perm (P := setR P t Pt) ht; rw [restP_set] at this; have e : setR P t Pt t = Pt := if_pos rfl; rw [e] at this; exact this
theorem height_lt {N : Nat -> Option Nd} {h at_ : Nat} {lo hi : Option Ky} {E : En} {P : List Nat} (hs : Sub N 1 h at_ lo hi E P) (hE : E.length < 1099511627776) : h < 40 := by
 have h1 := hs.count.2
 by_cases hh : h < 40
 ·exact hh
 ·exfalso
  have : 2 ^ 40 <= 2 ^ h := Nat.pow_le_pow_right (by omega) (by omega); have e : (2 : Nat) ^ 40 = 1099511627776 := by decide
  omega
theorem root_N (c : CD) (t v : Nat) : (c.root t v).N = c.N := rfl
theorem Acc.root {U F : List Nat} (h : Acc c U F) (t v : Nat) : Acc (c.root t v) U F := ⟨h.perm, h.next1, h.next2, h.few, h.chain, h.wf.rM, h.wf.rS, h.wf.mM, h.wf.mS⟩
theorem one_ok {x : It} (hx : x.ok true) : Nd.ok ⟨true, 0, [x]⟩ /\ Nd.size ⟨true, 0, [x]⟩ <= 512 := by
 refine ⟨⟨by show 1 < 65536; omega, fun y hy => ?_, Nat.zero_lt_succ _, fun _ => rfl⟩, ?_⟩
 ·rw [List.mem_singleton.1 hy]; exact hx
 ·have := ibn_le hx; rw [if_pos rfl] at this
  show 3 + (ibn true x + 0) <= 512
  omega
theorem grow_ok {h m : Nat} {Et : En} {u : Ky × Nat} {R Pt : List Nat} (ht0 : c.roots t ≠ 0) (hres : Res c.N m h (c.roots t) none none Et u Pt) (ha : Acc c (Pt ++ R) F) (he : c.e = 0) :
  SameP c (growC c t u) /\ (∀ s, s ≠ t -> (growC c t u).roots s = c.roots s) /\
  ((growC c t u).e = 0 /\ (∃ Pt' F', Acc (growC c t u) (Pt' ++ R) F' /\ (∀ p ∈ R, (growC c t u).N p = c.N p) /\ (growC c t u).roots t ≠ 0 /\ ((u.2 = 0 /\ Sub (growC c t u).N m h ((growC c t u).roots t) none none Et Pt') ∨ Sub (growC c t u).N 1 (h + 1) ((growC c t u).roots t) none none Et Pt')) ∨
   (growC c t u).e = 5 /\ (∃ n, (growC c t u).N ((growC c t u).roots t) = some n) /\ c.n <= 2 * Et.length + R.length) := by
 unfold growC; rcases hres with ⟨u0, hs⟩ | ⟨u0, u1, u2, _, _, E1, P1, E2, P2, s1, s2, rfl, rfl⟩
 ·rw [if_pos u0]; exact ⟨⟨rfl, rfl⟩, fun _ _ => rfl, .inl ⟨he, Pt, F, ha, fun _ _ => rfl, ht0, .inl ⟨u0, hs⟩⟩⟩
 ·rw [if_neg u0]; have hroot : ∀ (d : CD) (v : Nat) (nd : Nd), ((d.root t v).write v nd).roots = setR d.roots t v := fun _ _ _ => rfl; rcases alloc_ok ha he with ⟨b1, b2, b3, b4, b5, F', b6⟩ | ⟨b1, b2, b3, b4⟩
  ·obtain ⟨a, hA⟩ := nm (c.alloc.2); obtain ⟨d, hd⟩ := nm (c.alloc.1); rw [<- hA, <- hd]; rw [<- hA] at b1 b6; rw [<- hd] at b2 b3 b4 b5 b6; have hdN : ∀ p, d.N p = c.N p := fun p => by unfold CD.N; rw [b4, b5, b3.n, b3.pg]
   have hnU : a ∉ (P1 ++ P2) ++ R := (List.nodup_cons.1 (List.nodup_append.1 b6.nodup).1).1
   have hN : ∀ p ∈ (P1 ++ P2) ++ R, ((d.root t a).write a ⟨false, c.roots t, [⟨u.1, [], u.2⟩]⟩).N p = c.N p := fun p hp => by
    rw [N_write, if_neg (fun (e : p = a) => hnU (e ▸ hp)), root_N, hdN]
   have hm1 := (ha.mem (k := c.roots t) (.inl (List.mem_append_left _ (List.mem_append_left _ s1.head)))).2; have hm2 := (ha.mem (k := u.2) (.inl (List.mem_append_left _ (List.mem_append_right _ s2.head)))).2; have hn2 := ha.next2; have hfew := ha.few; have nok : Nd.ok ⟨false, c.roots t, [⟨u.1, [], u.2⟩]⟩ := ⟨by show 1 < 65536; omega, fun y hy => by rw [List.mem_singleton.1 hy]; exact ⟨u1, u2, Nat.zero_le _, by show u.2 < 65536; omega, rfl⟩, by show c.roots t < 65536; omega, fun h => by cases h⟩; have nsz : Nd.size ⟨false, c.roots t, [⟨u.1, [], u.2⟩]⟩ <= 512 := by show 5 + (3 + u.1.length + 0) <= 512; omega
   refine ⟨⟨b3.pg, b3.n⟩, fun s hs => ?_, .inl ⟨b2, a :: (P1 ++ P2), F', ?_, fun p hp => hN p (List.mem_append_right _ hp), ?_, .inr ?_⟩⟩
   ·rw [hroot, b3.roots]; exact if_neg hs
   ·exact (b6.root t a).write (by simp) nok nsz
   ·rw [hroot]; show setR d.roots t a t ≠ 0; unfold setR; rw [if_pos rfl]; exact b1
   ·rw [hroot, show setR d.roots t a t = a from if_pos rfl]; refine ⟨⟨false, c.roots t, [⟨u.1, [], u.2⟩]⟩, P1 ++ P2, by rw [N_write, if_pos rfl], nok, nsz, Nat.le_refl _, rfl, rfl, E1, P1, E2, P2, ?_, ?_, rfl, rfl⟩
    ·exact s1.congr fun p hp => hN p (List.mem_append_left _ (List.mem_append_left _ hp))
    ·exact s2.congr fun p hp => hN p (List.mem_append_left _ (List.mem_append_right _ hp))
  ·have hp := ha.perm.length_eq; rw [b3, b4, List.length_range', List.append_nil, List.length_append, List.length_append] at hp; have c1 := s1.count.1; have c2 := s2.count.1; rw [b1, b2]; refine ⟨⟨rfl, rfl⟩, fun s hs => if_neg hs, .inr ⟨rfl, ⟨⟨false, c.roots t, [⟨u.1, [], u.2⟩]⟩, ?_⟩, ?_⟩⟩
   ·rw [hroot, show setR _ t 0 t = 0 from if_pos rfl, N_write, if_pos rfl]
   ·rw [List.length_append]; omega
theorem put_forest {x : It} (h : Forest c E P F) (ht : t < 8) (hx : x.ok true) (hE : (E t).length < 1099511627776) :
  ∃ c', putC c t x = some c' /\ SameP c c' /\ ((∃ P' F', Forest c' (setR E t (putE (E t) x.key x.v)) P' F') ∨ c'.e = 5 /\ c.n <= 2 * (putE (E t) x.key x.v).length + (restP P t).length) := by
 have ha := h.acc.swap (allP_perm ht).symm; unfold putC; rcases h.tree t ht with ⟨r0, hE0, hP0⟩ | ⟨r0, ht', hs⟩
 ·rw [if_pos r0]; rw [hP0, List.nil_append] at ha; rw [hE0]; obtain ⟨ok1, sz1⟩ := one_ok hx; refine ⟨_, rfl, ?_⟩; rcases alloc_ok ha h.e with ⟨b1, b2, b3, b4, b5, F', b6⟩ | ⟨b1, b2, b3, b4⟩
  ·obtain ⟨a, hA⟩ := nm (c.alloc.2); obtain ⟨d, hd⟩ := nm (c.alloc.1); rw [<- hA, <- hd]; rw [<- hA] at b1 b6; rw [<- hd] at b2 b3 b4 b5 b6; have hdN : ∀ p, d.N p = c.N p := fun p => by unfold CD.N; rw [b4, b5, b3.n, b3.pg]
   have hnU : a ∉ restP P t := (List.nodup_cons.1 (List.nodup_append.1 b6.nodup).1).1; refine ⟨⟨b3.pg, b3.n⟩, .inl ⟨_, F', h.turn ht b2 (fun s hs => ?_) (Et := putE [] x.key x.v) (Pt := [a]) (.inr ⟨?_, 0, ⟨true, 0, [x]⟩, [], ?_, ok1, sz1, Nat.le_refl _, ?_, rfl, rfl, rfl, ?_, ?_⟩) ?_ (fun p hp => ?_)⟩⟩
   ·show setR d.roots t a s = _
    rw [b3.roots]; exact if_neg hs
   ·show setR d.roots t a t ≠ 0
    rw [show setR d.roots t a t = a from if_pos rfl]; exact b1
   ·show ((d.root t a).write a _).N (setR d.roots t a t) = _
    rw [show setR d.roots t a t = a from if_pos rfl, N_write, if_pos rfl]
   ·show [a] = [setR d.roots t a t]
    rw [show setR d.roots t a t = a from if_pos rfl]
   ·exact List.pairwise_singleton _ _
   ·exact fun e _ => ⟨fun a ha => (by cases ha), fun b hb => (by cases hb)⟩
   ·exact (b6.root t a).write (by simp) ok1 sz1
   ·rw [N_write, if_neg (fun (e : p = a) => hnU (e ▸ hp)), root_N, hdN]
  ·have hp := ha.perm.length_eq; rw [b3, b4, List.length_range', List.append_nil] at hp; rw [b1, b2]; refine ⟨⟨rfl, rfl⟩, .inr ⟨rfl, ?_⟩⟩
   show c.n <= 2 * 1 + _
   omega
 ·rw [if_neg r0]; obtain ⟨c', u, ep, sm, hres⟩ := put_ok ht' (f := 40) (height_lt hs hE) hs ha h.e hx (fun _ h => by cases h) (fun _ h => by cases h); rw [ep]; refine ⟨_, rfl, ?_⟩; rcases hres with ⟨e0, Pn, Fn, ha', hR, hres⟩ | ⟨e5, u0, hR, _, hful⟩
  ·have hr : c'.roots t = c.roots t := by rw [sm.roots]
   rw [<- hr] at hres r0; obtain ⟨g1, g2, g3⟩ := grow_ok r0 hres ha' e0; refine ⟨⟨by rw [g1.pg, sm.pg], by rw [g1.n, sm.n]⟩, ?_⟩; rcases g3 with ⟨z0, Pz, Fz, z1, z2, z3, z4⟩ | ⟨z5, _, z6⟩
   ·refine .inl ⟨_, Fz, h.turn ht z0 (fun s hs => by rw [g2 s hs, sm.roots]) (.inr ⟨z3, ?_⟩) z1 (fun p hp => (z2 p hp).trans (hR p hp))⟩; rcases z4 with ⟨_, z4⟩ | z4
    ·exact ⟨_, z4⟩
    ·exact ⟨_, z4⟩
   ·exact .inr ⟨z5, by rw [<- sm.n]; exact z6⟩
  ·have hg : growC c' t u = c' := by unfold growC; rw [if_pos u0]
   simp only
   rw [hg]; exact ⟨⟨sm.pg, sm.n⟩, .inr ⟨e5, hful⟩⟩
theorem del_forest {key : Ky} (h : Forest c E P F) (ht : t < 8) (hE : (E t).length < 1099511627776) :
  ∃ c' is, delC c t key = some (c', is) /\ SameP c c' /\ (is = true ↔ ∃ e ∈ E t, e.1 = key) /\ (is = false -> c' = c) /\
   ((∃ P' F', Forest c' (setR E t (delE (E t) key)) P' F') ∨ c'.e = 5 /\ is = true /\ c.n <= 2 * (delE (E t) key).length + (restP P t).length) := by
 have ha := h.acc.swap (allP_perm ht).symm
 have hsame : (¬ ∃ e ∈ E t, e.1 = key) -> setR E t (delE (E t) key) = E := fun hno => by
  funext s
  unfold setR
  by_cases hs : s = t
  ·rw [if_pos hs, hs]
   exact List.filter_eq_self.2 fun e he => by
    simp only [Bool.not_eq_true', decide_eq_false_iff_not]; exact fun hk => hno ⟨e, he, hk⟩
  ·rw [if_neg hs]
 unfold delC; rcases h.tree t ht with ⟨r0, hE0, hP0⟩ | ⟨r0, ht', hs⟩
 ·rw [if_pos r0]; have hno : ¬ ∃ e ∈ E t, e.1 = key := by rw [hE0]; rintro ⟨e, he, _⟩; cases he
  exact ⟨c, false, rfl, ⟨rfl, rfl⟩, ⟨(fun h => by cases h), fun h => absurd h hno⟩, fun _ => rfl, .inl ⟨P, F, by rw [hsame hno]; exact h⟩⟩
 ·rw [if_neg r0]; obtain ⟨c', is, u, ep, his, hno, hyes⟩ := cut_ok ht' (f := 40) (key := key) (height_lt hs hE) hs ha h.e (fun _ h => by cases h) (fun _ h => by cases h); rw [ep]
  simp only
  cases is with
  | false =>
   obtain ⟨rfl, _⟩ := hno rfl; have hn : ¬ ∃ e ∈ E t, e.1 = key := fun hx => by have := his.2 hx; cases this
   exact ⟨c', false, rfl, ⟨rfl, rfl⟩, his, fun _ => rfl, .inl ⟨P, F, by rw [hsame hn]; exact h⟩⟩
  | true =>
   rw [if_pos rfl]
   suffices hgo : ∃ d, lowerC (growC c' t u) t = some d /\ SameP c d /\ ((∃ P' F', Forest d (setR E t (delE (E t) key)) P' F') ∨ d.e = 5 /\ c.n <= 2 * (delE (E t) key).length + (restP P t).length) by
    obtain ⟨d, d1, d2, d3⟩ := hgo; refine ⟨d, true, by rw [d1]; rfl, d2, his, (fun h => by cases h), ?_⟩; rcases d3 with d3 | d3
    ·exact .inl d3
    ·exact .inr ⟨d3.1, rfl, d3.2⟩
   obtain ⟨sm, hres⟩ := hyes rfl; rcases hres with ⟨e0, Pn, Fn, ha', hR, hres⟩ | ⟨e5, u0, hR, ⟨n0, hn0⟩, hful⟩
   ·have hr : c'.roots t = c.roots t := by rw [sm.roots]
    rw [<- hr] at hres r0; obtain ⟨g1, g2, g3⟩ := grow_ok r0 hres ha' e0; obtain ⟨d, hd⟩ := nm (growC c' t u); rw [<- hd] at g1 g2 g3 ⊢; have smd : SameP c d := ⟨by rw [g1.pg, sm.pg], by rw [g1.n, sm.n]⟩; unfold lowerC; rcases g3 with ⟨z0, Pz, Fz, z1, z2, z3, z4⟩ | ⟨z5, ⟨nz, z6⟩, z7⟩
    ·have hNR : ∀ p ∈ restP P t, d.N p = c.N p := fun p hp => (z2 p hp).trans (hR p hp); have hrs : ∀ s, s ≠ t -> d.roots s = c.roots s := fun s hs => by rw [g2 s hs, sm.roots]
     have full1 : ∀ hh, Sub d.N 1 hh (d.roots t) none none (delE (E t) key) Pz -> ∃ d2, (match d.N (d.roots t) with | none => none | some n => if d.e ≠ 0 ∨ n.l ≠ [] then some d else some ((d.free (d.roots t)).root t n.first)) = some d2 /\ SameP c d2 /\ ((∃ P' F', Forest d2 (setR E t (delE (E t) key)) P' F') ∨ d2.e = 5 /\ c.n <= 2 * (delE (E t) key).length + (restP P t).length) := fun hh hsub => by
      obtain ⟨n, P', n1, n2, n3, n4, n5, n6⟩ := id hsub; rw [n1]
      simp only
      rw [if_pos (.inr fun e => by rw [e] at n4; cases n4)]; exact ⟨d, rfl, smd, .inl ⟨_, Fz, h.turn ht z0 hrs (.inr ⟨z3, hh, hsub⟩) z1 hNR⟩⟩
     rcases z4 with ⟨u0, z4⟩ | z4
     ·obtain ⟨n, P', n1, n2, n3, n4, rfl, n6⟩ := id z4
      by_cases hl : n.l = []
      ·rw [n1]
       simp only
       rw [if_neg (by rintro (h | h); exact h z0; exact h hl)]; have hz1 : Acc d (d.roots t :: (P' ++ restP P t)) Fz := z1; have hfree := (hz1.free).root t n.first; have hno : d.roots t ∉ P' ++ restP P t := (List.nodup_cons.1 (List.nodup_append.1 hz1.nodup).1).1; have hN2 : ∀ p ∈ P' ++ restP P t, ((d.free (d.roots t)).root t n.first).N p = d.N p := fun p hp => by rw [root_N, N_free (fun (e : p = d.roots t) => hno (e ▸ hp))]
       have hroots : ((d.free (d.roots t)).root t n.first).roots t = n.first := if_pos rfl; refine ⟨_, rfl, ⟨smd.pg, smd.n⟩, .inl ⟨_, _, h.turn (c' := (d.free (d.roots t)).root t n.first) ht z0 (fun s hs => ?_) (Et := delE (E t) key) (Pt := P') ?_ hfree (fun p hp => (hN2 p (List.mem_append_right _ hp)).trans (hNR p hp))⟩⟩
       ·show setR d.roots t n.first s = _
        rw [show setR d.roots t n.first s = d.roots s from if_neg hs, hrs s hs]
       ·rw [hroots]
        cases hh : ht' with
        | zero =>
         rw [hh] at n6; obtain ⟨k1, k2, k3, _, _⟩ := n6; exact .inl ⟨n2.bare k1, by rw [k2, hl]; rfl, k3⟩
        | succ h' =>
         rw [hh] at n6; obtain ⟨k1, k2⟩ := n6; rw [hl] at k2; have k2' : Sub d.N 1 h' n.first none none (delE (E t) key) P' := k2; have := (hz1.mem (k := n.first) (.inl (List.mem_cons_of_mem _ (List.mem_append_left _ k2'.head)))).1; exact .inr ⟨by omega, h', k2'.congr fun p hp => hN2 p (List.mem_append_left _ hp)⟩
      ·have hl1 : 1 <= n.l.length := by cases hq : n.l with | nil => exact absurd hq hl | cons y l => simp
       exact full1 _ ⟨n, P', n1, n2, n3, hl1, rfl, n6⟩
     ·exact full1 _ z4
    ·rw [z6]
     simp only
     rw [if_pos (.inl (by rw [z5]; decide))]; exact ⟨d, rfl, smd, .inr ⟨z5, by rw [<- sm.n]; exact z7⟩⟩
   ·have hg : growC c' t u = c' := by unfold growC; rw [if_pos u0]
    rw [hg]; unfold lowerC; rw [sm.roots, hn0]
    simp only
    rw [if_pos (.inl (by rw [e5]; decide))]; exact ⟨c', rfl, ⟨sm.pg, sm.n⟩, .inr ⟨e5, hful⟩⟩
end
end
end Go.Proofs.YtpjbdpepofnleaaGreat
