/-
  Joined by join.py: Nf Ng LayB Oa
-/
import Derived.Shelf.SlIterI.Nil
import Derived.Shelf.SlSorted.Search
import Derived.Test.YtpjbdpepofnleaaGreatProg
import Derived.Lib.Bytealg
import Derived.Lib.BytesEntry
import Derived.Laws.Externs
import Derived.Lib.LazyBuf
import Derived.Test.YtpjbdpepofnleaaGreatJla9
section
namespace Go.Proofs.YtpjbdpepofnleaaGreat
def setR {α : Type} (r : Nat → α) (t : Nat) (v : α) : Nat → α := fun k => if k = t then v else r k
def CD.root (c : CD) (t v : Nat) : CD := { c with roots := setR c.roots t v }
def growC (c : CD) (t : Nat) (u : Ky × Nat) : CD := if u.2 = 0 then c else (c.alloc.1.root t c.alloc.2).write c.alloc.2 ⟨false, c.roots t, [⟨u.1, [], u.2⟩]⟩
noncomputable def lowerC (c : CD) (t : Nat) : Option CD := match c.N (c.roots t) with | none => none | some n => if c.e ≠ 0 ∨ n.l ≠ [] then some c else some ((c.free (c.roots t)).root t n.first)
noncomputable def putC (c : CD) (t : Nat) (x : It) : Option CD := if c.roots t = 0 then some ((c.alloc.1.root t c.alloc.2).write c.alloc.2 ⟨true, 0, [x]⟩) else (putF 40 c (c.roots t) x).map fun r => growC r.1 t r.2
noncomputable def delC (c : CD) (t : Nat) (key : Ky) : Option (CD × Bool) :=
  if c.roots t = 0 then some (c, false)
  else match cutF 40 c (c.roots t) key with
    | none => none
    | some (c', is, u) => if is then (lowerC (growC c' t u) t).map fun d => (d, true) else some (c', false)
def Tree (N : Nat → Option Nd) (root : Nat) (E : En) (P : List Nat) : Prop := (root = 0 ∧ E = [] ∧ P = []) ∨ (root ≠ 0 ∧ ∃ h, Sub N 1 h root none none E P)
def allP (P : Nat → List Nat) : List Nat := (List.range 8).flatMap P
def restP (P : Nat → List Nat) (t : Nat) : List Nat := ((List.range 8).erase t).flatMap P
def sumE (E : Nat → En) : Nat := ((List.range 8).map fun t => (E t).length).sum
structure Forest (c : CD) (E : Nat → En) (P : Nat → List Nat) (F : List Nat) : Prop where
  e : c.e = 0
  tree : ∀ t, t < 8 → Tree c.N (c.roots t) (E t) (P t)
  acc : Acc c (allP P) F
structure SameP (c c' : CD) : Prop where
  pg : c'.pg = c.pg
  n : c'.n = c.n
section
variable {c c' : CD} {E : Nat → En} {P : Nat → List Nat} {F : List Nat} {t : Nat}
theorem restP_set (Q : List Nat) : restP (setR P t Q) t = restP P t := by
  unfold restP
  have hn : ∀ k ∈ (List.range 8).erase t, setR P t Q k = P k := fun k hk => by
    unfold setR
    rw [if_neg]
    rintro rfl
    exact (List.Nodup.not_mem_erase List.nodup_range) hk
  generalize (List.range 8).erase t = l at hn
  induction l with
  | nil => rfl
  | cons a l ih => rw [List.flatMap_cons, List.flatMap_cons, hn a (List.mem_cons_self ..), ih (fun k hk => hn k (List.mem_cons_of_mem _ hk))]
theorem allP_perm (ht : t < 8) : (allP P).Perm (P t ++ restP P t) := by
  unfold allP restP
  have h := List.perm_cons_erase (List.mem_range.2 ht)
  have h2 := h.flatMap_right P
  rwa [List.flatMap_cons] at h2
theorem restP_mem {k s : Nat} (hs : s < 8) (hst : s ≠ t) (hk : k ∈ P s) : k ∈ restP P t := by
  unfold restP
  rw [List.mem_flatMap]
  exact ⟨s, (List.mem_erase_of_ne hst).2 (List.mem_range.2 hs), hk⟩
theorem sum_rest (f : Nat → Nat) (ht : t < 8) : ((List.range 8).map f).sum = f t + (((List.range 8).erase t).map f).sum := by
  have h := (List.perm_cons_erase (List.mem_range.2 ht)).map f
  rw [h.sum_nat, List.map_cons, List.sum_cons]
theorem Tree.count {N : Nat → Option Nd} {root : Nat} {E : En} {P : List Nat} (h : Tree N root E P) : P.length ≤ 2 * E.length := by
  rcases h with ⟨_, rfl, rfl⟩ | ⟨_, h, hs⟩
  · simp
  · have := hs.count.1; omega
theorem Tree.congr {N N' : Nat → Option Nd} {root : Nat} {E : En} {P : List Nat} (h : Tree N root E P) (hN : ∀ p ∈ P, N' p = N p) : Tree N' root E P := by
  rcases h with h | ⟨h0, h, hs⟩
  · exact .inl h
  · exact .inr ⟨h0, h, hs.congr hN⟩
theorem Forest.rest (h : Forest c E P F) (ht : t < 8) : (restP P t).length + 2 * (E t).length ≤ 2 * sumE E := by
  unfold sumE
  rw [sum_rest (fun s => (E s).length) ht]
  have : ∀ l : List Nat, (∀ s ∈ l, s < 8) → (l.flatMap P).length ≤ 2 * (l.map fun s => (E s).length).sum := fun l hl => by
    induction l with
    | nil => simp
    | cons a l ih =>
      have h1 := (h.tree a (hl a (List.mem_cons_self ..))).count
      have h2 := ih (fun s hs => hl s (List.mem_cons_of_mem _ hs))
      rw [List.flatMap_cons, List.length_append, List.map_cons, List.sum_cons]
      omega
  have := this ((List.range 8).erase t) (fun s hs => List.mem_range.1 (List.mem_of_mem_erase hs))
  unfold restP
  omega
theorem Forest.turn {Et : En} {Pt F' : List Nat} (h : Forest c E P F) (ht : t < 8) (he : c'.e = 0) (hr : ∀ s, s ≠ t → c'.roots s = c.roots s) (hT : Tree c'.N (c'.roots t) Et Pt) (ha : Acc c' (Pt ++ restP P t) F') (hN : ∀ p ∈ restP P t, c'.N p = c.N p) :
    Forest c' (setR E t Et) (setR P t Pt) F' := by
  refine ⟨he, fun s hs => ?_, ha.swap ?_⟩
  · by_cases hst : s = t
    · subst hst
      unfold setR
      rw [if_pos rfl, if_pos rfl]
      exact hT
    · have e1 : setR E t Et s = E s := if_neg hst
      have e2 : setR P t Pt s = P s := if_neg hst
      rw [e1, e2, hr s hst]
      exact (h.tree s hs).congr fun p hp => hN p (restP_mem hs hst hp)
  · have := allP_perm (P := setR P t Pt) ht
    rw [restP_set] at this
    have e : setR P t Pt t = Pt := if_pos rfl
    rw [e] at this
    exact this
theorem height_lt {N : Nat → Option Nd} {h at_ : Nat} {lo hi : Option Ky} {E : En} {P : List Nat} (hs : Sub N 1 h at_ lo hi E P) (hE : E.length < 1099511627776) : h < 40 := by
  have h1 := hs.count.2
  by_cases hh : h < 40
  · exact hh
  · exfalso
    have : 2 ^ 40 ≤ 2 ^ h := Nat.pow_le_pow_right (by omega) (by omega)
    have e : (2 : Nat) ^ 40 = 1099511627776 := by decide
    omega
theorem root_N (c : CD) (t v : Nat) : (c.root t v).N = c.N := rfl
theorem Acc.root {U F : List Nat} (h : Acc c U F) (t v : Nat) : Acc (c.root t v) U F := ⟨h.perm, h.next1, h.next2, h.few, h.chain, h.wf.rM, h.wf.rS, h.wf.mM, h.wf.mS⟩
theorem one_ok {x : It} (hx : x.ok true) : Nd.ok ⟨true, 0, [x]⟩ ∧ Nd.size ⟨true, 0, [x]⟩ ≤ 512 := by
  refine ⟨⟨by show 1 < 65536; omega, fun y hy => ?_, Nat.zero_lt_succ _, fun _ => rfl⟩, ?_⟩
  · rw [List.mem_singleton.1 hy]; exact hx
  · have := ibn_le hx
    rw [if_pos rfl] at this
    show 3 + (ibn true x + 0) ≤ 512
    omega
theorem grow_ok {h m : Nat} {Et : En} {u : Ky × Nat} {R Pt : List Nat} (ht0 : c.roots t ≠ 0) (hres : Res c.N m h (c.roots t) none none Et u Pt) (ha : Acc c (Pt ++ R) F) (he : c.e = 0) :
    SameP c (growC c t u) ∧ (∀ s, s ≠ t → (growC c t u).roots s = c.roots s) ∧
    ((growC c t u).e = 0 ∧ (∃ Pt' F', Acc (growC c t u) (Pt' ++ R) F' ∧ (∀ p ∈ R, (growC c t u).N p = c.N p) ∧ (growC c t u).roots t ≠ 0 ∧ ((u.2 = 0 ∧ Sub (growC c t u).N m h ((growC c t u).roots t) none none Et Pt') ∨ Sub (growC c t u).N 1 (h + 1) ((growC c t u).roots t) none none Et Pt')) ∨
     (growC c t u).e = 5 ∧ (∃ n, (growC c t u).N ((growC c t u).roots t) = some n) ∧ c.n ≤ 2 * Et.length + R.length) := by
  unfold growC
  rcases hres with ⟨u0, hs⟩ | ⟨u0, u1, u2, _, _, E1, P1, E2, P2, s1, s2, rfl, rfl⟩
  · rw [if_pos u0]
    exact ⟨⟨rfl, rfl⟩, fun _ _ => rfl, .inl ⟨he, Pt, F, ha, fun _ _ => rfl, ht0, .inl ⟨u0, hs⟩⟩⟩
  · rw [if_neg u0]
    have hroot : ∀ (d : CD) (v : Nat) (nd : Nd), ((d.root t v).write v nd).roots = setR d.roots t v := fun _ _ _ => rfl
    rcases alloc_ok ha he with ⟨b1, b2, b3, b4, b5, F', b6⟩ | ⟨b1, b2, b3, b4⟩
    · obtain ⟨a, hA⟩ : ∃ a, a = c.alloc.2 := ⟨_, rfl⟩
      obtain ⟨d, hd⟩ : ∃ d, d = c.alloc.1 := ⟨_, rfl⟩
      rw [← hA, ← hd]
      rw [← hA] at b1 b6
      rw [← hd] at b2 b3 b4 b5 b6
      have hdN : ∀ p, d.N p = c.N p := fun p => by unfold CD.N; rw [b4, b5, b3.n, b3.pg]
      have hnU : a ∉ (P1 ++ P2) ++ R := (List.nodup_cons.1 (List.nodup_append.1 b6.nodup).1).1
      have hN : ∀ p ∈ (P1 ++ P2) ++ R, ((d.root t a).write a ⟨false, c.roots t, [⟨u.1, [], u.2⟩]⟩).N p = c.N p := fun p hp => by
        rw [N_write, if_neg (fun (e : p = a) => hnU (e ▸ hp)), root_N, hdN]
      have hm1 := (ha.mem (k := c.roots t) (.inl (List.mem_append_left _ (List.mem_append_left _ s1.head)))).2
      have hm2 := (ha.mem (k := u.2) (.inl (List.mem_append_left _ (List.mem_append_right _ s2.head)))).2
      have hn2 := ha.next2
      have hfew := ha.few
      have nok : Nd.ok ⟨false, c.roots t, [⟨u.1, [], u.2⟩]⟩ := ⟨by show 1 < 65536; omega, fun y hy => by rw [List.mem_singleton.1 hy]; exact ⟨u1, u2, Nat.zero_le _, by show u.2 < 65536; omega, rfl⟩, by show c.roots t < 65536; omega, fun h => by cases h⟩
      have nsz : Nd.size ⟨false, c.roots t, [⟨u.1, [], u.2⟩]⟩ ≤ 512 := by show 5 + (3 + u.1.length + 0) ≤ 512; omega
      refine ⟨⟨b3.pg, b3.n⟩, fun s hs => ?_, .inl ⟨b2, a :: (P1 ++ P2), F', ?_, fun p hp => hN p (List.mem_append_right _ hp), ?_, .inr ?_⟩⟩
      · rw [hroot, b3.roots]; exact if_neg hs
      · exact (b6.root t a).write (by simp) nok nsz
      · rw [hroot]; show setR d.roots t a t ≠ 0; unfold setR; rw [if_pos rfl]; exact b1
      · rw [hroot, show setR d.roots t a t = a from if_pos rfl]
        refine ⟨⟨false, c.roots t, [⟨u.1, [], u.2⟩]⟩, P1 ++ P2, by rw [N_write, if_pos rfl], nok, nsz, Nat.le_refl _, rfl, rfl, E1, P1, E2, P2, ?_, ?_, rfl, rfl⟩
        · exact s1.congr fun p hp => hN p (List.mem_append_left _ (List.mem_append_left _ hp))
        · exact s2.congr fun p hp => hN p (List.mem_append_left _ (List.mem_append_right _ hp))
    · have hp := ha.perm.length_eq
      rw [b3, b4, List.length_range', List.append_nil, List.length_append, List.length_append] at hp
      have c1 := s1.count.1
      have c2 := s2.count.1
      rw [b1, b2]
      refine ⟨⟨rfl, rfl⟩, fun s hs => if_neg hs, .inr ⟨rfl, ⟨⟨false, c.roots t, [⟨u.1, [], u.2⟩]⟩, ?_⟩, ?_⟩⟩
      · rw [hroot, show setR _ t 0 t = 0 from if_pos rfl, N_write, if_pos rfl]
      · rw [List.length_append]; omega
theorem put_forest {x : It} (h : Forest c E P F) (ht : t < 8) (hx : x.ok true) (hE : (E t).length < 1099511627776) :
    ∃ c', putC c t x = some c' ∧ SameP c c' ∧ ((∃ P' F', Forest c' (setR E t (putE (E t) x.key x.v)) P' F') ∨ c'.e = 5 ∧ c.n ≤ 2 * (putE (E t) x.key x.v).length + (restP P t).length) := by
  have ha := h.acc.swap (allP_perm ht).symm
  unfold putC
  rcases h.tree t ht with ⟨r0, hE0, hP0⟩ | ⟨r0, ht', hs⟩
  · rw [if_pos r0]
    rw [hP0, List.nil_append] at ha
    rw [hE0]
    obtain ⟨ok1, sz1⟩ := one_ok hx
    refine ⟨_, rfl, ?_⟩
    rcases alloc_ok ha h.e with ⟨b1, b2, b3, b4, b5, F', b6⟩ | ⟨b1, b2, b3, b4⟩
    · obtain ⟨a, hA⟩ : ∃ a, a = c.alloc.2 := ⟨_, rfl⟩
      obtain ⟨d, hd⟩ : ∃ d, d = c.alloc.1 := ⟨_, rfl⟩
      rw [← hA, ← hd]
      rw [← hA] at b1 b6
      rw [← hd] at b2 b3 b4 b5 b6
      have hdN : ∀ p, d.N p = c.N p := fun p => by unfold CD.N; rw [b4, b5, b3.n, b3.pg]
      have hnU : a ∉ restP P t := (List.nodup_cons.1 (List.nodup_append.1 b6.nodup).1).1
      refine ⟨⟨b3.pg, b3.n⟩, .inl ⟨_, F', h.turn ht b2 (fun s hs => ?_) (Et := putE [] x.key x.v) (Pt := [a]) (.inr ⟨?_, 0, ⟨true, 0, [x]⟩, [], ?_, ok1, sz1, Nat.le_refl _, ?_, rfl, rfl, rfl, ?_, ?_⟩) ?_ (fun p hp => ?_)⟩⟩
      · show setR d.roots t a s = _
        rw [b3.roots]; exact if_neg hs
      · show setR d.roots t a t ≠ 0
        rw [show setR d.roots t a t = a from if_pos rfl]; exact b1
      · show ((d.root t a).write a _).N (setR d.roots t a t) = _
        rw [show setR d.roots t a t = a from if_pos rfl, N_write, if_pos rfl]
      · show [a] = [setR d.roots t a t]
        rw [show setR d.roots t a t = a from if_pos rfl]
      · exact List.pairwise_singleton _ _
      · exact fun e _ => ⟨fun a ha => (by cases ha), fun b hb => (by cases hb)⟩
      · exact (b6.root t a).write (by simp) ok1 sz1
      · rw [N_write, if_neg (fun (e : p = a) => hnU (e ▸ hp)), root_N, hdN]
    · have hp := ha.perm.length_eq
      rw [b3, b4, List.length_range', List.append_nil] at hp
      rw [b1, b2]
      refine ⟨⟨rfl, rfl⟩, .inr ⟨rfl, ?_⟩⟩
      show c.n ≤ 2 * 1 + _
      omega
  · rw [if_neg r0]
    obtain ⟨c', u, ep, sm, hres⟩ := put_ok ht' (f := 40) (height_lt hs hE) hs ha h.e hx (fun _ h => by cases h) (fun _ h => by cases h)
    rw [ep]
    refine ⟨_, rfl, ?_⟩
    rcases hres with ⟨e0, Pn, Fn, ha', hR, hres⟩ | ⟨e5, u0, hR, _, hful⟩
    · have hr : c'.roots t = c.roots t := by rw [sm.roots]
      rw [← hr] at hres r0
      obtain ⟨g1, g2, g3⟩ := grow_ok r0 hres ha' e0
      refine ⟨⟨by rw [g1.pg, sm.pg], by rw [g1.n, sm.n]⟩, ?_⟩
      rcases g3 with ⟨z0, Pz, Fz, z1, z2, z3, z4⟩ | ⟨z5, _, z6⟩
      · refine .inl ⟨_, Fz, h.turn ht z0 (fun s hs => by rw [g2 s hs, sm.roots]) (.inr ⟨z3, ?_⟩) z1 (fun p hp => (z2 p hp).trans (hR p hp))⟩
        rcases z4 with ⟨_, z4⟩ | z4
        · exact ⟨_, z4⟩
        · exact ⟨_, z4⟩
      · exact .inr ⟨z5, by rw [← sm.n]; exact z6⟩
    · have hg : growC c' t u = c' := by unfold growC; rw [if_pos u0]
      simp only
      rw [hg]
      exact ⟨⟨sm.pg, sm.n⟩, .inr ⟨e5, hful⟩⟩
theorem del_forest {key : Ky} (h : Forest c E P F) (ht : t < 8) (hE : (E t).length < 1099511627776) :
    ∃ c' is, delC c t key = some (c', is) ∧ SameP c c' ∧ (is = true ↔ ∃ e ∈ E t, e.1 = key) ∧ (is = false → c' = c) ∧
      ((∃ P' F', Forest c' (setR E t (delE (E t) key)) P' F') ∨ c'.e = 5 ∧ is = true ∧ c.n ≤ 2 * (delE (E t) key).length + (restP P t).length) := by
  have ha := h.acc.swap (allP_perm ht).symm
  have hsame : (¬ ∃ e ∈ E t, e.1 = key) → setR E t (delE (E t) key) = E := fun hno => by
    funext s
    unfold setR
    by_cases hs : s = t
    · rw [if_pos hs, hs]
      exact List.filter_eq_self.2 fun e he => by
        simp only [Bool.not_eq_true', decide_eq_false_iff_not]
        exact fun hk => hno ⟨e, he, hk⟩
    · rw [if_neg hs]
  unfold delC
  rcases h.tree t ht with ⟨r0, hE0, hP0⟩ | ⟨r0, ht', hs⟩
  · rw [if_pos r0]
    have hno : ¬ ∃ e ∈ E t, e.1 = key := by rw [hE0]; rintro ⟨e, he, _⟩; cases he
    exact ⟨c, false, rfl, ⟨rfl, rfl⟩, ⟨(fun h => by cases h), fun h => absurd h hno⟩, fun _ => rfl, .inl ⟨P, F, by rw [hsame hno]; exact h⟩⟩
  · rw [if_neg r0]
    obtain ⟨c', is, u, ep, his, hno, hyes⟩ := cut_ok ht' (f := 40) (key := key) (height_lt hs hE) hs ha h.e (fun _ h => by cases h) (fun _ h => by cases h)
    rw [ep]
    simp only
    cases is with
    | false =>
      obtain ⟨rfl, _⟩ := hno rfl
      have hn : ¬ ∃ e ∈ E t, e.1 = key := fun hx => by have := his.2 hx; cases this
      exact ⟨c', false, rfl, ⟨rfl, rfl⟩, his, fun _ => rfl, .inl ⟨P, F, by rw [hsame hn]; exact h⟩⟩
    | true =>
      rw [if_pos rfl]
      suffices hgo : ∃ d, lowerC (growC c' t u) t = some d ∧ SameP c d ∧ ((∃ P' F', Forest d (setR E t (delE (E t) key)) P' F') ∨ d.e = 5 ∧ c.n ≤ 2 * (delE (E t) key).length + (restP P t).length) by
        obtain ⟨d, d1, d2, d3⟩ := hgo
        refine ⟨d, true, by rw [d1]; rfl, d2, his, (fun h => by cases h), ?_⟩
        rcases d3 with d3 | d3
        · exact .inl d3
        · exact .inr ⟨d3.1, rfl, d3.2⟩
      obtain ⟨sm, hres⟩ := hyes rfl
      rcases hres with ⟨e0, Pn, Fn, ha', hR, hres⟩ | ⟨e5, u0, hR, ⟨n0, hn0⟩, hful⟩
      · have hr : c'.roots t = c.roots t := by rw [sm.roots]
        rw [← hr] at hres r0
        obtain ⟨g1, g2, g3⟩ := grow_ok r0 hres ha' e0
        obtain ⟨d, hd⟩ : ∃ d, d = growC c' t u := ⟨_, rfl⟩
        rw [← hd] at g1 g2 g3 ⊢
        have smd : SameP c d := ⟨by rw [g1.pg, sm.pg], by rw [g1.n, sm.n]⟩
        unfold lowerC
        rcases g3 with ⟨z0, Pz, Fz, z1, z2, z3, z4⟩ | ⟨z5, ⟨nz, z6⟩, z7⟩
        · have hNR : ∀ p ∈ restP P t, d.N p = c.N p := fun p hp => (z2 p hp).trans (hR p hp)
          have hrs : ∀ s, s ≠ t → d.roots s = c.roots s := fun s hs => by rw [g2 s hs, sm.roots]
          have full1 : ∀ hh, Sub d.N 1 hh (d.roots t) none none (delE (E t) key) Pz → ∃ d2, (match d.N (d.roots t) with | none => none | some n => if d.e ≠ 0 ∨ n.l ≠ [] then some d else some ((d.free (d.roots t)).root t n.first)) = some d2 ∧ SameP c d2 ∧ ((∃ P' F', Forest d2 (setR E t (delE (E t) key)) P' F') ∨ d2.e = 5 ∧ c.n ≤ 2 * (delE (E t) key).length + (restP P t).length) := fun hh hsub => by
            obtain ⟨n, P', n1, n2, n3, n4, n5, n6⟩ := id hsub
            rw [n1]
            simp only
            rw [if_pos (.inr fun e => by rw [e] at n4; cases n4)]
            exact ⟨d, rfl, smd, .inl ⟨_, Fz, h.turn ht z0 hrs (.inr ⟨z3, hh, hsub⟩) z1 hNR⟩⟩
          rcases z4 with ⟨u0, z4⟩ | z4
          · obtain ⟨n, P', n1, n2, n3, n4, rfl, n6⟩ := id z4
            by_cases hl : n.l = []
            · rw [n1]
              simp only
              rw [if_neg (by rintro (h | h); exact h z0; exact h hl)]
              have hz1 : Acc d (d.roots t :: (P' ++ restP P t)) Fz := z1
              have hfree := (hz1.free).root t n.first
              have hno : d.roots t ∉ P' ++ restP P t := (List.nodup_cons.1 (List.nodup_append.1 hz1.nodup).1).1
              have hN2 : ∀ p ∈ P' ++ restP P t, ((d.free (d.roots t)).root t n.first).N p = d.N p := fun p hp => by rw [root_N, N_free (fun (e : p = d.roots t) => hno (e ▸ hp))]
              have hroots : ((d.free (d.roots t)).root t n.first).roots t = n.first := if_pos rfl
              refine ⟨_, rfl, ⟨smd.pg, smd.n⟩, .inl ⟨_, _, h.turn (c' := (d.free (d.roots t)).root t n.first) ht z0 (fun s hs => ?_) (Et := delE (E t) key) (Pt := P') ?_ hfree (fun p hp => (hN2 p (List.mem_append_right _ hp)).trans (hNR p hp))⟩⟩
              · show setR d.roots t n.first s = _
                rw [show setR d.roots t n.first s = d.roots s from if_neg hs, hrs s hs]
              · rw [hroots]
                cases hh : ht' with
                | zero =>
                  rw [hh] at n6
                  obtain ⟨k1, k2, k3, _, _⟩ := n6
                  exact .inl ⟨n2.bare k1, by rw [k2, hl]; rfl, k3⟩
                | succ h' =>
                  rw [hh] at n6
                  obtain ⟨k1, k2⟩ := n6
                  rw [hl] at k2
                  have k2' : Sub d.N 1 h' n.first none none (delE (E t) key) P' := k2
                  have := (hz1.mem (k := n.first) (.inl (List.mem_cons_of_mem _ (List.mem_append_left _ k2'.head)))).1
                  exact .inr ⟨by omega, h', k2'.congr fun p hp => hN2 p (List.mem_append_left _ hp)⟩
            · have hl1 : 1 ≤ n.l.length := by cases hq : n.l with | nil => exact absurd hq hl | cons y l => simp
              exact full1 _ ⟨n, P', n1, n2, n3, hl1, rfl, n6⟩
          · exact full1 _ z4
        · rw [z6]
          simp only
          rw [if_pos (.inl (by rw [z5]; decide))]
          exact ⟨d, rfl, smd, .inr ⟨z5, by rw [← sm.n]; exact z7⟩⟩
      · have hg : growC c' t u = c' := by unfold growC; rw [if_pos u0]
        rw [hg]
        unfold lowerC
        rw [sm.roots, hn0]
        simp only
        rw [if_pos (.inl (by rw [e5]; decide))]
        exact ⟨c', rfl, ⟨sm.pg, sm.n⟩, .inr ⟨e5, hful⟩⟩
end
end Go.Proofs.YtpjbdpepofnleaaGreat
end
section
namespace Go.Proofs.YtpjbdpepofnleaaGreat
def spaceB (c : CD) : List UInt8 := [79, 82] ++ b16 c.next ++ b16 c.head ++ b16 (c.roots 0) ++ b16 (c.roots 1) ++ b16 (c.roots 2) ++ b16 (c.roots 3) ++ b16 (c.roots 4) ++ b16 (c.roots 5) ++ b16 (c.roots 6) ++ b16 (c.roots 7)
theorem spaceB_len (c : CD) : (spaceB c).length = 22 := rfl
def endPg (c : CD) (k : Nat) : List UInt8 :=
  if k = 0 then pad512 (spaceB c) else match getA c.S k with | some j => pad512 (b16 j) | none => match getA c.M k with | some n => pad512 n.written | none => c.pg k
def beginC (pg : Nat → List UInt8) (n : Nat) : CD :=
  if pg 0 = zpage then { pg := pg, n := n, next := 1, head := 0, roots := fun _ => 0, M := [], S := [], e := 0 }
  else { pg := pg, n := n, next := r16 ((pg 0).drop 2), head := r16 ((pg 0).drop 4), roots := fun t => r16 ((pg 0).drop (6 + 2 * t)), M := [], S := [], e := 0 }
def Marked (pg : Nat → List UInt8) : Prop := pg 0 = zpage ∨ (pg 0 ≠ zpage ∧ (pg 0).getD 0 0 = 79 ∧ (pg 0).getD 1 0 = 82)
def Store (pg : Nat → List UInt8) (n : Nat) (E : Nat → En) : Prop := Marked pg ∧ (∀ k, k < n → (pg k).length = 512) ∧ ∃ P F, Forest (beginC pg n) E P F
theorem begin_pg (pg : Nat → List UInt8) (n : Nat) : (beginC pg n).pg = pg ∧ (beginC pg n).n = n ∧ (beginC pg n).M = [] ∧ (beginC pg n).S = [] ∧ (beginC pg n).e = 0 := by
  unfold beginC
  split <;> exact ⟨rfl, rfl, rfl, rfl, rfl⟩
theorem Sub.nodes {N : Nat → Option Nd} : ∀ {h m at_ : Nat} {lo hi : Option Ky} {E : En} {P : List Nat}, Sub N m h at_ lo hi E P → ∀ p ∈ P, ∃ n, N p = some n ∧ n.ok ∧ n.size ≤ 512
  | h, m, at_, lo, hi, E, P, ⟨n, P', h1, h2, h3, _, hP, h6⟩, p, hp => by
    subst hP
    rcases List.mem_cons.1 hp with rfl | hp
    · exact ⟨n, h1, h2, h3⟩
    · cases h with
      | zero => obtain ⟨_, _, rfl, _⟩ := h6; cases hp
      | succ h =>
        have key : ∀ {l : List It} {lo : Option Ky} {c : Nat} {E : En} {P : List Nat}, Kids (Sub N 1 h) lo c l hi E P → ∀ p ∈ P, ∃ n, N p = some n ∧ n.ok ∧ n.size ≤ 512 := fun {l} => by
          induction l with
          | nil => exact fun hk p hp => Sub.nodes hk p hp
          | cons x l ih =>
            rintro lo c E P ⟨E1, P1, E2, P2, k1, k2, rfl, rfl⟩ p hp
            rcases List.mem_append.1 hp with hp | hp
            · exact Sub.nodes k1 p hp
            · exact ih k2 p hp
        exact key h6.2 p hp
theorem Chain.bound {nx : Nat → Option Nat} {q : Nat} : ∀ {F : List Nat} {h : Nat}, Chain nx h F → (∀ k ∈ F, k < q) → 0 < q → h < q
  | [], _, h, _, hq => by have : _ = 0 := h; omega
  | a :: F, _, ⟨h1, _⟩, hF, _ => by rw [h1]; exact hF a (List.mem_cons_self ..)
theorem Chain.same {nx nx' : Nat → Option Nat} {q : Nat} : ∀ {F : List Nat} {h : Nat}, Chain nx h F → (∀ k ∈ F, k < q) → 0 < q → (∀ k ∈ F, ∀ j, nx k = some j → j < q → nx' k = some j) → Chain nx' h F
  | [], _, h, _, _, _ => h
  | a :: F, _, ⟨h1, j, h2, h3⟩, hF, hq, hn => by
    have hb := h3.bound (fun k hk => hF k (List.mem_cons_of_mem _ hk)) hq
    exact ⟨h1, j, hn a (List.mem_cons_self ..) j h2 hb, h3.same (fun k hk => hF k (List.mem_cons_of_mem _ hk)) hq (fun k hk => hn k (List.mem_cons_of_mem _ hk))⟩
section
variable {c : CD} {E : Nat → En} {P : Nat → List Nat} {F : List Nat}
theorem space_not_zero (c : CD) : pad512 (spaceB c) ≠ zpage := fun e => by
  have this : (pad512 (spaceB c)).getD 0 0 = zpage.getD 0 0 := by rw [e]
  have h1 : (pad512 (spaceB c)).getD 0 0 = 79 := rfl
  have h2 : zpage.getD 0 0 = 0 := by unfold zpage; rw [List.getD_eq_getElem?_getD, List.getElem?_replicate, if_pos (by omega)]; rfl
  rw [h1, h2] at this
  exact absurd this (by decide)
theorem root_small (h : Forest c E P F) {t : Nat} (ht : t < 8) : c.roots t < 65536 := by
  have h2 := h.acc.next2; have h3 := h.acc.few
  rcases h.tree t ht with ⟨h0, _, _⟩ | ⟨_, hh, hs⟩
  · omega
  · have hm : c.roots t ∈ allP P := by unfold allP; rw [List.mem_flatMap]; exact ⟨t, List.mem_range.2 ht, hs.head⟩
    have := (h.acc.mem (.inl hm)).2
    omega
theorem store_end (h : Forest c E P F) (hp : ∀ k, k < c.n → (c.pg k).length = 512) : Store (endPg c) c.n E := by
  have hn1 := h.acc.next1; have hn2 := h.acc.next2; have hf := h.acc.few; have hh := h.acc.head
  have e0 : endPg c 0 = pad512 (spaceB c) := if_pos rfl
  have hne : ¬ endPg c 0 = zpage := by rw [e0]; exact space_not_zero c
  have hb : beginC (endPg c) c.n = { pg := endPg c, n := c.n, next := c.next, head := c.head, roots := fun t => r16 ((endPg c 0).drop (6 + 2 * t)), M := [], S := [], e := 0 } := by
    unfold beginC
    rw [if_neg hne, e0]
    have e1 : r16 ((pad512 (spaceB c)).drop 2) = c.next := r16_b16 (by omega) _
    have e2 : r16 ((pad512 (spaceB c)).drop 4) = c.head := r16_b16 hh _
    rw [e1, e2]
  have hr : ∀ t, t < 8 → r16 ((endPg c 0).drop (6 + 2 * t)) = c.roots t := fun t ht => by
    rw [e0]
    have h0 := root_small h (t := 0) (by omega); have h1 := root_small h (t := 1) (by omega); have h2 := root_small h (t := 2) (by omega); have h3 := root_small h (t := 3) (by omega)
    have h4 := root_small h (t := 4) (by omega); have h5 := root_small h (t := 5) (by omega); have h6 := root_small h (t := 6) (by omega); have h7 := root_small h (t := 7) (by omega)
    match t, ht with
    | 0, _ => exact r16_b16 h0 _
    | 1, _ => exact r16_b16 h1 _
    | 2, _ => exact r16_b16 h2 _
    | 3, _ => exact r16_b16 h3 _
    | 4, _ => exact r16_b16 h4 _
    | 5, _ => exact r16_b16 h5 _
    | 6, _ => exact r16_b16 h6 _
    | 7, _ => exact r16_b16 h7 _
  have hN : ∀ p, 1 ≤ p → p < c.n → ∀ n, c.N p = some n → n.ok → n.size ≤ 512 → (beginC (endPg c) c.n).N p = some n := fun p h1 h2 n hcn hok hs => by
    rw [hb]
    unfold CD.N at hcn ⊢
    simp only [getA_nil, Option.isSome_none, Bool.false_eq_true, if_false]
    rw [if_pos ⟨h1, h2⟩]
    cases hS : getA c.S p with
    | some j => rw [hS] at hcn; simp at hcn
    | none =>
      rw [hS] at hcn
      simp only [Option.isSome_none, Bool.false_eq_true, if_false] at hcn
      unfold endPg
      rw [if_neg (by omega), hS]
      simp only
      cases hM : getA c.M p with
      | some n' =>
        rw [hM] at hcn
        simp only at hcn ⊢
        injection hcn with hcn
        rw [hcn]
        exact decP_of hok hs
      | none =>
        rw [hM] at hcn
        simp only at hcn ⊢
        rw [if_pos ⟨h1, h2⟩] at hcn
        exact hcn
  refine ⟨.inr ⟨hne, by rw [e0]; rfl, by rw [e0]; rfl⟩, fun k hk => ?_, P, F, by rw [hb], fun t ht => ?_, ⟨?_, ?_, ?_, ?_, ?_, ?_⟩⟩
  · unfold endPg
    split
    · exact pad512_len (by rw [spaceB_len]; omega)
    · split
      · exact pad512_len (by show 2 ≤ 512; omega)
      · split
        · rename_i n hM
          have := h.acc.wf.mM _ (getA_mem hM)
          exact pad512_len (by rw [Nd.written_len]; exact this.2.2.2)
        · exact hp k hk
  · have hrt : (beginC (endPg c) c.n).roots t = c.roots t := by rw [hb]; exact hr t ht
    rw [hrt]
    rcases h.tree t ht with h1 | ⟨h1, hh, hs⟩
    · exact .inl h1
    · refine .inr ⟨h1, hh, ?_⟩
      refine hs.congr fun p hpP => ?_
      obtain ⟨n, n1, n2, n3⟩ := hs.nodes p hpP
      have hm : p ∈ allP P := by unfold allP; rw [List.mem_flatMap]; exact ⟨t, List.mem_range.2 ht, hpP⟩
      have := h.acc.mem (.inl hm)
      rw [n1]
      exact hN p this.1 (by omega) n n1 n2 n3
  · rw [hb]; exact h.acc.perm
  · rw [hb]; exact hn1
  · rw [hb]; exact hn2
  · rw [hb]; exact hf
  · have hhead : (beginC (endPg c) c.n).head = c.head := by rw [hb]
    rw [hhead]
    refine h.acc.chain.same (q := 65536) (fun k hk => by have := (h.acc.mem (.inr hk)).2; omega) (by omega) fun k hk j hj hjq => ?_
    have hk1 := (h.acc.mem (.inr hk)).1
    rw [hb]
    unfold CD.nx at hj ⊢
    simp only [getA_nil, Option.isSome_none, Bool.false_eq_true, if_false]
    unfold endPg
    rw [if_neg (by omega)]
    cases hS : getA c.S k with
    | some i =>
      rw [hS] at hj
      simp only at hj ⊢
      injection hj with hj
      rw [hj]
      exact congrArg some (r16_b16 hjq _)
    | none =>
      rw [hS] at hj
      simp only at hj ⊢
      cases hM : getA c.M k with
      | some n => rw [hM] at hj; simp at hj
      | none => rw [hM] at hj; simpa using hj
  · rw [hb]; exact ⟨List.Pairwise.nil, List.Pairwise.nil, fun p hp => (by cases hp), fun p hp => (by cases hp)⟩
theorem store_new {pg : Nat → List UInt8} {n : Nat} (h0 : pg 0 = zpage) (hp : ∀ k, k < n → (pg k).length = 512) (h1 : 1 ≤ n) (h2 : n ≤ 4096) : Store pg n fun _ => [] := by
  have hb : beginC pg n = { pg := pg, n := n, next := 1, head := 0, roots := fun _ => 0, M := [], S := [], e := 0 } := if_pos h0
  refine ⟨.inl h0, hp, fun _ => [], [], by rw [hb], fun t _ => .inl ⟨by rw [hb], rfl, rfl⟩, ?_⟩
  rw [hb]
  refine ⟨?_, Nat.le_refl _, h1, h2, rfl, ⟨List.Pairwise.nil, List.Pairwise.nil, fun p hp => (by cases hp), fun p hp => (by cases hp)⟩⟩
  have e : allP (fun _ => []) = [] := rfl
  rw [e]
  exact List.Perm.refl _
end
def pastB (up : Option Ky) (k : Ky) : Bool := match up with | some b => !decide (klt k b) | none => false
def goE (low : Ky) (up : Option Ky) (most : Nat) : En → En → En × Bool
  | out, [] => (out, true)
  | out, e :: E => if klt e.1 low then goE low up most out E else if out.length = most ∨ pastB up e.1 = true then (out, false) else goE low up most (out ++ [e]) E
section
variable {low : Ky} {up : Option Ky} {most : Nat}
theorem goE_cons (out : En) (e : Ky × List UInt8) (E : En) : goE low up most out (e :: E) = if klt e.1 low then goE low up most out E else if out.length = most ∨ pastB up e.1 = true then (out, false) else goE low up most (out ++ [e]) E := rfl
theorem goE_append : ∀ (E1 E2 out : En), goE low up most out (E1 ++ E2) = if (goE low up most out E1).2 then goE low up most (goE low up most out E1).1 E2 else goE low up most out E1
  | [], _, _ => rfl
  | e :: E1, E2, out => by
    have ih := goE_append E1 E2
    rw [List.cons_append, goE_cons, goE_cons out e E1]
    split
    · exact ih out
    · split
      · rfl
      · exact ih _
theorem goE_skip : ∀ {E1 : En} (E2 out : En), (∀ e ∈ E1, klt e.1 low) → goE low up most out (E1 ++ E2) = goE low up most out E2
  | [], _, _, _ => rfl
  | e :: E1, E2, out, h => by
    show goE low up most out (e :: (E1 ++ E2)) = _
    conv => lhs; unfold goE
    rw [if_pos (h e (List.mem_cons_self ..))]
    exact goE_skip E2 out fun e he => h e (List.mem_cons_of_mem _ he)
def inB (low : Ky) (up : Option Ky) (e : Ky × List UInt8) : Bool := !decide (klt e.1 low) && !pastB up e.1
theorem past_more {a b : Ky} (h : pastB up a = true) (hab : klt a b) : pastB up b = true := by
  unfold pastB at h ⊢
  cases up with
  | none => cases h
  | some u =>
    simp only [Bool.not_eq_true', decide_eq_false_iff_not] at h ⊢
    exact fun hb => h (klt_trans hab hb)
theorem goE_take : ∀ {E out : En}, Rise E → out.length ≤ most → (goE low up most out E).1 = out ++ (E.filter (inB low up)).take (most - out.length)
  | [], out, _, _ => by simp [goE]
  | e :: E, out, hr, hl => by
    obtain ⟨r1, r2⟩ := List.pairwise_cons.1 hr
    unfold goE
    by_cases h1 : klt e.1 low
    · rw [if_pos h1, goE_take r2 hl, List.filter_cons_of_neg (by unfold inB; simp [h1])]
    · rw [if_neg h1]
      by_cases h2 : out.length = most ∨ pastB up e.1 = true
      · rw [if_pos h2]
        rcases h2 with h2 | h2
        · simp [h2]
        · have : (e :: E).filter (inB low up) = [] := List.filter_eq_nil_iff.2 fun x hx => by
            have hp : pastB up x.1 = true := by
              rcases List.mem_cons.1 hx with rfl | hx
              · exact h2
              · exact past_more h2 (r1 x hx)
            unfold inB
            simp [hp]
          rw [this]; simp
      · rw [if_neg h2]
        have h3 : out.length < most := by
          have : out.length ≠ most := fun e => h2 (.inl e)
          omega
        rw [goE_take r2 (by rw [List.length_append, List.length_singleton]; omega), List.filter_cons_of_pos (by unfold inB; simp only [Bool.and_eq_true, Bool.not_eq_true']; exact ⟨by simpa using h1, by simpa using fun h => h2 (.inr h)⟩), List.length_append, List.length_singleton, List.append_assoc]
        obtain ⟨j, hj⟩ : ∃ j, most - out.length = j + 1 := ⟨most - out.length - 1, by omega⟩
        rw [hj, List.take_succ_cons, show most - (out.length + 1) = j by omega]
        rfl
end
end Go.Proofs.YtpjbdpepofnleaaGreat
end
section
namespace Go.Proofs
open Go.Shelf
def Tryz.keysN_ren : Go.Shelf.Ren := ⟨fun | 7 => 65 | 10 => 98 | n => n, fun | 23 => 81 | 26 => 3 | 3 => 88 | 28 => 139 | 0 => 0 | 27 => 138 | 33 => 150 | 4 => 4 | n => n, fun | n => n⟩
theorem Tryz.keysN : Go.Proofs.SlLaysZI.n7 Tryz.prog Tryz.keysN_ren := {
  mixed := by kernel_rfl
  f7 := ⟨Tryz.f65.name, by decide, Tryz.func65.trans (congrArg some (by kernel_rfl))⟩
  f10 := ⟨Tryz.f98.name, by decide, Tryz.func98.trans (congrArg some (by kernel_rfl))⟩
  t0 := Tryz.underlying0
  a0 := Tryz.isAgg0
  z0 := Tryz.sizeOf0
  v0 := Tryz.zeroValue0
  t4 := Tryz.underlying4
  a4 := Tryz.isAgg4
  z4 := Tryz.sizeOf4
  v4 := Tryz.zeroValue4
  t23 := Tryz.underlying81
  a23 := Tryz.isAgg81
  z23 := Tryz.sizeOf81
  v23 := Tryz.zeroValue81
  t26 := Tryz.underlying3
  a26 := Tryz.isAgg3
  z26 := Tryz.sizeOf3
  v26 := Tryz.zeroValue3
  t27 := Tryz.underlying138
  a27 := Tryz.isAgg138
  z27 := Tryz.sizeOf138
  v27 := Tryz.zeroValue138
  t28 := Tryz.underlying139
  a28 := Tryz.isAgg139
  z28 := Tryz.sizeOf139
  v28 := Tryz.zeroValue139
  t33 := Tryz.underlying150
  a33 := Tryz.isAgg150
  z33 := Tryz.sizeOf150
  v33 := Tryz.zeroValue150 }
def Tryz.keysI_ren : Go.Shelf.Ren := ⟨fun | 7 => 68 | 10 => 99 | n => n, fun | 23 => 82 | 26 => 3 | 3 => 3 | 28 => 139 | 0 => 0 | 27 => 138 | 33 => 150 | 4 => 4 | n => n, fun | n => n⟩
theorem Tryz.keysI : Go.Proofs.SlLaysZI.n7 Tryz.prog Tryz.keysI_ren := {
  mixed := by kernel_rfl
  f7 := ⟨Tryz.f68.name, by decide, Tryz.func68.trans (congrArg some (by kernel_rfl))⟩
  f10 := ⟨Tryz.f99.name, by decide, Tryz.func99.trans (congrArg some (by kernel_rfl))⟩
  t0 := Tryz.underlying0
  a0 := Tryz.isAgg0
  z0 := Tryz.sizeOf0
  v0 := Tryz.zeroValue0
  t4 := Tryz.underlying4
  a4 := Tryz.isAgg4
  z4 := Tryz.sizeOf4
  v4 := Tryz.zeroValue4
  t23 := Tryz.underlying82
  a23 := Tryz.isAgg82
  z23 := Tryz.sizeOf82
  v23 := Tryz.zeroValue82
  t26 := Tryz.underlying3
  a26 := Tryz.isAgg3
  z26 := Tryz.sizeOf3
  v26 := Tryz.zeroValue3
  t27 := Tryz.underlying138
  a27 := Tryz.isAgg138
  z27 := Tryz.sizeOf138
  v27 := Tryz.zeroValue138
  t28 := Tryz.underlying139
  a28 := Tryz.isAgg139
  z28 := Tryz.sizeOf139
  v28 := Tryz.zeroValue139
  t33 := Tryz.underlying150
  a33 := Tryz.isAgg150
  z33 := Tryz.sizeOf150
  v33 := Tryz.zeroValue150 }
def Tryz.searchA_ren : Go.Shelf.Ren := ⟨fun | 16 => 76 | n => n, fun | 3 => 3 | 35 => 150 | 4 => 4 | 38 => 111 | n => n, fun | n => n⟩
theorem Tryz.searchA : Go.Proofs.SlLaysO.n16 Tryz.prog Tryz.searchA_ren := {
  mixed := by kernel_rfl
  f16 := Tryz.func76.trans (congrArg some (by kernel_rfl))
  t3 := Tryz.underlying3
  a3 := Tryz.isAgg3
  z3 := Tryz.sizeOf3
  v3 := Tryz.zeroValue3
  t4 := Tryz.underlying4
  a4 := Tryz.isAgg4
  z4 := Tryz.sizeOf4
  v4 := Tryz.zeroValue4
  t35 := Tryz.underlying150
  a35 := Tryz.isAgg150
  z35 := Tryz.sizeOf150
  v35 := Tryz.zeroValue150
  t38 := Tryz.underlying111
  a38 := Tryz.isAgg111
  z38 := Tryz.sizeOf111
  v38 := Tryz.zeroValue111 }
end Go.Proofs
end
section
namespace Go.Proofs.YtpjbdpepofnleaaGreat
open Go.RowKit Go.Sort Go.Shelf
theorem bytesOf_at {w : World} {v : Value} {bs : List UInt8} {g : Nat} (h : BytesAt w v bs g) : (Extern.Bytes.bytesOf v).run Tryz.prog w = .ok ⟨bs.toArray⟩ w := by
  obtain ⟨A, c, off, rfl, hc, hb⟩ := h
  have load : ∀ (l : List UInt8) (a : Addr) (acc : ByteArray), (∀ j x, l[j]? = some x → w.cell? (a.add j) = some (B8 x)) → (Extern.Bytes.loadBytes a l.length acc).run Tryz.prog w = .ok ⟨acc.data ++ l.toArray⟩ w := by
    intro l
    induction l with
    | nil => intro a acc _; simp [Extern.Bytes.loadBytes, Sem.run_pure]
    | cons x l ih =>
      intro a acc h
      have h0 := h 0 x rfl
      rw [show a.add 0 = a from by cases a; simp [Addr.add]] at h0
      have hx : (UInt8.ofNat x.toNat) = x := by simp
      have ih' := ih (a.add 1) (acc.push x) (fun j y hj => by
        have := h (j + 1) y (by simpa using hj)
        rwa [show a.add (j + 1) = (a.add 1).add j by rw [Addr.add_add, Nat.add_comm]] at this)
      unfold B8 at h0
      simp only [List.length_cons, Extern.Bytes.loadBytes, Sem.run_bind, run_load, h0, Result.andThen, Int.toNat_natCast]
      rw [show x.toNat.toUInt8 = x from hx, ih']
      simp [ByteArray.push]
  cases A with
  | none =>
    have h0 : bs = [] := by
      cases bs with
      | nil => rfl
      | cons x xs => have := (hb (by simp)).1; cases this
    subst h0
    rfl
  | some a =>
    have := load bs a .empty (fun j x hj => by
      have h0 : 0 < bs.length := by have := (List.getElem?_eq_some_iff.1 hj).1; omega
      obtain ⟨ha, hcell⟩ := hb h0
      injection ha with ha
      subst ha
      rw [Addr.add_mid]
      exact hcell j (B8 x) (by rw [bcells_at, hj]; rfl))
    show (Extern.Bytes.loadBytes a bs.length .empty).run Tryz.prog w = _
    rw [this]
    have e : ByteArray.empty.data = #[] := rfl
    rw [e, Array.empty_append]
theorem run_compare {w : World} {va vb : Value} {a b : List UInt8} {ga gb : Nat} (ha : BytesAt w va a ga) (hb : BytesAt w vb b gb) :
    (Extern.BytealgCompare.compare #[va, vb]).run Tryz.prog w = .ok (.int .i64 (Lib.compareBytes a b)) w := by
  change Sem.run Tryz.prog (do pure (goInt (Extern.BytealgCompare.cmp (← Extern.Bytes.bytesOf va) (← Extern.Bytes.bytesOf vb)))) w = _
  simp only [Sem.run_bind, bytesOf_at ha, bytesOf_at hb, Sem.run_pure, Result.andThen]
  rw [Lib.cmp_eq]
  rfl
set_option maxRecDepth 100000 in
theorem bytes_equal {w : World} {va vb : Value} {a b : List UInt8} {ga gb : Nat} (ha : BytesAt w va a ga) (hb : BytesAt w vb b gb) :
    Calls Tryz.prog 79 #[va, vb] w fun e w' => e = .returned (.bool (decide (a = b))) ∧ w = w' := by
  have c1 := run_string_of (P := Tryz.prog) (src := 23) (dst := 9) Tryz.underlying23 Tryz.underlying5 Tryz.underlying9 ha
  have c2 := run_string_of (P := Tryz.prog) (src := 23) (dst := 9) Tryz.underlying23 Tryz.underlying5 Tryz.underlying9 hb
  have e : decide (a = b) = (a == b) := by rw [Bool.eq_iff_iff]; simp
  clear ha hb
  go_enter Tryz.func79, Tryz.ntmps79
  go_wp2
  go_ret
  exact ⟨by rw [e]; rfl, rfl⟩
set_option maxRecDepth 100000 in
theorem bytes_compare {w : World} {va vb : Value} {a b : List UInt8} {ga gb : Nat} (ha : BytesAt w va a ga) (hb : BytesAt w vb b gb) :
    Calls Tryz.prog 78 #[va, vb] w fun e w' => e = .returned (.int .i64 (Lib.compareBytes a b)) ∧ w = w' := by
  have HA := Lib.hid ha; have HB := Lib.hid hb
  clear ha hb
  go_enter Tryz.func78, Tryz.ntmps78
  go_wp2
  rw [run_callFunc_extern Tryz.func105 (by kernel_rfl) (by kernel_rfl) (by kernel_rfl) (e := Extern.BytealgCompare.compare) (by kernel_rfl), run_compare HA.out HB.out]
  simp only [Result.andThen]
  rw [Oper.upon_value]
  go_wp2
  go_ret
  exact ⟨rfl, rfl⟩
theorem fr_keep {w w' : World} (h : Fr [] w w') {p : Addr} {v : Value} (hc : w.cell? p = some v) : w'.cell? p = some v := by
  rw [h.cell (World.block_lt_of_cell? w _ hc) (by simp)]
  exact hc
theorem BytesAt.of_row {w : World} {b : Nat} {e : TypeId} {v : Value} {bs : List UInt8} {n : Nat} (hn : n = bs.length) (h : w.ownsRow b e 1 v n (bcells bs)) (hb : b ≤ w.heap.size) : ∃ g, BytesAt w v bs g ∧ b ≤ g := by
  subst hn
  rcases h.2 with ⟨rfl, h0⟩ | ⟨g, cap, cur, rfl, hg, hh, hn, hc, hs, ht⟩
  · have : bs = [] := List.length_eq_zero_iff.1 h0
    subst this
    exact ⟨w.heap.size, BytesAt.nil _ _, hb⟩
  · refine ⟨g, ⟨_, cap, 0, rfl, hn, fun _ => ⟨rfl, fun j u hj => ?_⟩⟩, hg⟩
    rw [Nat.zero_add]
    have := World.ownsRow.cells h (g := g) rfl j u hj
    rwa [Addr.add_mid, Nat.zero_add] at this
theorem info_u8z : (Tryz.prog.info? 5).map (fun i => (i.zero, i.size, i.bytes)) = some (some (.int .u8 0), 1, 1) := by kernel_rfl
theorem info_it : (Tryz.prog.info? 77).map (fun i => (i.zero, i.size, i.bytes)) = some (some (.agg #[.slice none 0 0, .slice none 0 0, .int .i64 0]), 3, 56) := by kernel_rfl
theorem info_get {i : Option TypeInfo} {z : Option Value} {s b : Nat} (h : i.map (fun i => (i.zero, i.size, i.bytes)) = some (z, s, b)) : ∃ t, i = some t ∧ t.zero = z ∧ t.size = s ∧ t.bytes = b := by
  obtain ⟨t, h1, h2⟩ := Option.map_eq_some_iff.1 h
  simp only [Prod.mk.injEq] at h2
  exact ⟨t, h1, h2.1, h2.2.1, h2.2.2⟩
set_option maxRecDepth 100000 in
set_option maxHeartbeats 1000000 in
/-- bytes.Clone: the same bytes in a new block. -/
theorem bytes_clone {w : World} {v : Value} {bs : List UInt8} {g : Nat} (h : BytesAt w v bs g) (hbig : bs.length ≤ 1099511627776) :
    Calls Tryz.prog 32 #[v] w fun e w' => ∃ v', e = .returned v' ∧ (∃ g', BytesAt w' v' bs g' ∧ w.heap.size ≤ g') ∧ Fr [] w w' := by
  have hn : ∀ (w : World) (a : Option Addr) (n c : Nat), (binOp .eql 23 (.slice a n c) (.slice none 0 0)).run Tryz.prog w = .ok (.bool a.isNone) w := fun w a n c => Lib.run_eql_slice_nil w _ _ a n c 0 0 Tryz.underlying23
  obtain ⟨A, c, off, rfl, hc, hb⟩ := h
  have HB := Lib.hid hb; clear hb
  obtain ⟨ti, hti, hz, hs, hby⟩ := info_get info_u8z
  cases A with
  | none =>
    have h0 : bs = [] := by
      cases bs with
      | nil => rfl
      | cons x xs => have := (HB.out (by simp)).1; cases this
    subst h0
    go_enter Tryz.func32, Tryz.ntmps32
    go_wp2
    go_ret
    exact ⟨_, rfl, ⟨w.heap.size, BytesAt.nil _ _, Nat.le_refl _⟩, Fr.refl _ _⟩
  | some ad =>
    have hcells : ∀ j u, (bcells bs)[j]? = some u → w.cell? (ad.add j) = some u := fun j u hj => by
      have h0 : 0 < bs.length := by have := (List.getElem?_eq_some_iff.1 hj).1; rw [bcells_len] at this; omega
      obtain ⟨ha, hcell⟩ := HB.out h0
      injection ha with ha
      subst ha
      rw [Addr.add_mid]
      exact hcell j u hj
    have hlt : ∀ j u, (bcells bs)[j]? = some u → (ad.add j).block < w.heap.size := fun j u hj => World.block_lt_of_cell? w _ (hcells j u hj)
    have HC := Lib.hid hcells; have HL := Lib.hid hlt
    clear hcells hlt
    go_enter Tryz.func32, Tryz.ntmps32
    go_wp2_with ((at_builtin; refine wpList_append_own _ rfl _ _ 23 rfl w.heap.size 5 ti (.int .u8 0) 1 1 Tryz.underlying23 hti hz hs hby rfl (by omega) _ 0 [] rfl ?own ad bs.length c (bcells bs) rfl (by rw [bcells_len]; omega) (fun j u hj => fr_keep ((Fr.refl [] w).alloc _) (HC.out j u hj)) (fun u hu => bcells_one _ u hu) (by unfold maxLen; omega) (by omega) (by simp) ?_))
    case own => exact World.ownsRow_made w #[] 0 (Nat.le_refl _) (by unfold maxLen; omega) rfl
    intro v' w' h1 h2 h3
    have hf : Fr [] w w' := ((Fr.refl [] w).alloc _).grown h2 (fun g hg => .inr (by simp [Value.ownBlock] at hg; omega))
    have HR := Lib.hid (BytesAt.of_row (n := bs.length) (bs := bs) rfl h1 hf.size)
    have HF := Lib.hid hf
    clear h1 h2 h3 hf
    go_wp2
    go_ret
    exact ⟨_, rfl, HR.out, HF.out⟩
def Three (cs : List Value) : Prop := ∀ u ∈ cs, u.oneCell' = true
set_option maxRecDepth 100000 in
set_option maxHeartbeats 1000000 in
/-- slices.Clone of items: the same cells in a new block. -/
theorem items_clone {w : World} {n g : Nat} {v : Value} {cs : List Value} (h : SlAt w v n cs g) (hl : cs.length = n * 3) (h1 : Three cs) (hn : n ≤ 65536) :
    Calls Tryz.prog 83 #[v] w fun e w' => ∃ v', e = .returned v' ∧ w'.ownsRow w.heap.size 77 3 v' n cs ∧ Fr [] w w' := by
  have hq : ∀ (w : World) (a : Option Addr) (n c : Nat), (binOp .eql 86 (.slice a n c) (.slice none 0 0)).run Tryz.prog w = .ok (.bool a.isNone) w := fun w a n c => Lib.run_eql_slice_nil w _ _ a n c 0 0 Tryz.underlying86
  obtain ⟨ti, hti, hz, hs, hby⟩ := info_get info_it
  obtain ⟨A, c, off, rfl, hc, hcell⟩ := h
  have H1 := Lib.hid h1
  cases A with
  | none =>
    obtain rfl : n = 0 := by
      rcases Nat.eq_zero_or_pos n with h0 | h0
      · exact h0
      · have := (hcell h0).1; cases this
    have hcs0 : cs = [] := List.length_eq_zero_iff.1 (by omega)
    subst hcs0
    clear h1 hcell
    go_enter Tryz.func83, Tryz.ntmps83
    go_wp2
    go_ret
    exact ⟨_, rfl, own_nil _ _ _ _, Fr.refl _ _⟩
  | some ad =>
    have HC : Hid (∀ (j : Nat) (u : Value), cs[j]? = some u → w.cell? (ad.add j) = some u) := Lib.hid fun j u hj => by
      have h0 : 0 < n := by have := (List.getElem?_eq_some_iff.1 hj).1; omega
      obtain ⟨ha, hc2⟩ := hcell h0
      injection ha with ha
      subst ha
      rw [Addr.add_mid]
      exact hc2 j u hj
    clear h1 hcell
    go_enter Tryz.func83, Tryz.ntmps83
    go_wp2_with (at_builtin; refine wpList_append_own _ rfl _ _ 86 rfl w.heap.size 77 ti (.agg #[.slice none 0 0, .slice none 0 0, .int .i64 0]) 3 56 Tryz.underlying86 hti hz hs hby rfl (by omega) _ 0 [] rfl ?own ad n c cs rfl (by omega) (fun j u hj => fr_keep ((Fr.refl [] w).alloc _) (HC.out j u hj)) H1.out (by unfold maxLen; omega) (by omega) (by simp) ?_)
    case own => exact World.ownsRow_made w #[] 0 (Nat.le_refl _) (by unfold maxLen; omega) rfl
    intro v' w' h1 h2 h3
    have hf : Fr [] w w' := ((Fr.refl [] w).alloc _).grown h2 (fun g hg => .inr (by simp [Value.ownBlock] at hg; omega))
    have HR : Hid (w'.ownsRow w.heap.size 77 3 v' n cs) := Lib.hid (by simpa using h1)
    have HF := Lib.hid hf
    clear h1 h2 h3 hf
    go_wp2
    go_ret
    exact ⟨_, rfl, HR.out, HF.out⟩
theorem Fr.grow {S : List Nat} {w w' : World} (h : Fr S w w') (os : Array Obj) : Fr S w (grow w' os) :=
  ⟨h.os, h.tape, h.output, by show w.heap.size ≤ (w'.heap ++ os).size; rw [Array.size_append]; have := h.size; omega, fun k hk hn => by
    show (w'.heap ++ os)[k]? = _
    rw [Array.getElem?_append_left (by have := h.size; omega)]
    exact h.block k hk hn⟩
theorem search_fr {w : World} {g : Nat} {cb : Array Value} {n : Nat} (p : Nat → Bool) (eg : ∀ args w, (callFunc g args).run Tryz.prog w = .ok (.enter g args) w) (hn : n ≤ 65536)
    (hf : ∀ w' : World, Fr [] w w' → ∀ i, i < n → Calls Tryz.prog g (#[.int .i64 i] ++ cb) w' fun e w'' => e = .returned (.bool (p i)) ∧ ∃ q, w'' = w'.drewN q)
    (hm : ∀ a b, a ≤ b → b < n → p a = true → p b = true) :
    Calls Tryz.prog 76 #[.int .i64 n, .func (.func g) #[] cb] w fun e w' => e = .returned (.int .i64 ((List.range n).countP (fun i => !p i) : Nat)) ∧ Fr [] w w' := by
  have h := Any.sort_Search Tryz.searchA g cb n p w eg (by omega) (fun m os i hi => (hf _ (((Fr.refl [] w).drewN m).grow os) i hi).mono fun e w' ⟨he, q, hq⟩ => ⟨he, q, #[], by rw [hq, grow_empty]⟩) hm
  exact Calls.mono h fun e w' ⟨he, q, os, hq⟩ => ⟨he, by rw [hq]; exact ((Fr.refl [] w).drewN q).grow os⟩
end Go.Proofs.YtpjbdpepofnleaaGreat
end
