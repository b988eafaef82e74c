/-
  Joined by join.py: Nc Nd Ne
-/
import Derived.Test.YtpjbdpepofnleaaGreatJla8
section
namespace Go.Proofs.YtpjbdpepofnleaaGreat
structure CD where
  pg : Nat → List UInt8
  n : Nat
  next : Nat
  head : Nat
  roots : Nat → Nat
  M : List (Nat × Nd)
  S : List (Nat × Nat)
  e : Nat
noncomputable def CD.N (c : CD) (k : Nat) : Option Nd := if (getA c.S k).isSome then none else match getA c.M k with | some n => some n | none => if 1 ≤ k ∧ k < c.n then decP (c.pg k) else none
def CD.nx (c : CD) (k : Nat) : Option Nat := match getA c.S k with | some j => some j | none => if (getA c.M k).isSome then none else some (r16 (c.pg k))
def CD.write (c : CD) (k : Nat) (n : Nd) : CD := { c with M := putA c.M k n, S := delA c.S k }
def CD.free (c : CD) (k : Nat) : CD := { c with M := delA c.M k, S := putA c.S k c.head, head := k }
def CD.full (c : CD) : CD := if c.e = 0 then { c with e := 5 } else c
def CD.alloc (c : CD) : CD × Nat := if c.head ≠ 0 then ({ c with head := (c.nx c.head).getD 0 }, c.head) else if c.next < c.n then ({ c with next := c.next + 1 }, c.next) else (c.full, 0)
def CD.lay (c : CD) (k : Nat) (n : Nd) : CD × (Ky × Nat) :=
  if n.size ≤ 512 then (c.write k n, ([], 0)) else ((c.alloc.1.write k n.left).write c.alloc.2 n.right, (n.key, c.alloc.2))
def Nd.way (n : Nd) (key : Ky) : Nat := (n.l.takeWhile fun x => !decide (klt key x.key)).length
def Nd.child (n : Nd) (k : Nat) : Nat := chOf n.first (n.l.take k)
def insAt (l : List It) (k : Nat) (x : It) : List It := l.take k ++ x :: l.drop k
def leafPut (l : List It) (x : It) : List It :=
  l.takeWhile (fun y => decide (klt y.key x.key)) ++
    match l.dropWhile (fun y => decide (klt y.key x.key)) with
    | y :: B => if y.key = x.key then { y with v := x.v } :: B else x :: y :: B
    | [] => [x]
noncomputable def putF : Nat → CD → Nat → It → Option (CD × (Ky × Nat))
  | 0, _, _, _ => none
  | f + 1, c, k, x =>
    match c.N k with
    | none => none
    | some n =>
      if n.lf then some (c.lay k { n with l := leafPut n.l x })
      else match putF f c (n.child (n.way x.key)) x with
        | none => none
        | some (c', u) => if u.2 = 0 then some (c', ([], 0)) else some (c'.lay k { n with l := insAt n.l (n.way x.key) ⟨u.1, [], u.2⟩ })
def Chain (nx : Nat → Option Nat) : Nat → List Nat → Prop
  | h, [] => h = 0
  | h, a :: F => h = a ∧ ∃ j, nx a = some j ∧ Chain nx j F
structure Wf (c : CD) : Prop where
  rM : RiseA c.M
  rS : RiseA c.S
  mM : ∀ p ∈ c.M, 1 ≤ p.1 ∧ p.1 < c.n ∧ p.2.ok ∧ p.2.size ≤ 512
  mS : ∀ p ∈ c.S, 1 ≤ p.1 ∧ p.1 < c.n ∧ p.2 < 65536
theorem mem_delA {α : Type} {m : List (Nat × α)} {k : Nat} {p : Nat × α} (h : p ∈ delA m k) : p ∈ m := (List.mem_filter.1 h).1
theorem mem_putA {α : Type} {m : List (Nat × α)} {k : Nat} {b : α} {p : Nat × α} (h : p ∈ putA m k b) : p = (k, b) ∨ p ∈ m := by
  unfold putA at h
  rcases mem_insA.1 h with h | h
  · exact .inl h
  · exact .inr (List.mem_filter.1 h).1
theorem Wf.write {c : CD} (h : Wf c) {k : Nat} {n : Nd} (h1 : 1 ≤ k ∧ k < c.n) (h2 : n.ok) (h3 : n.size ≤ 512) : Wf (c.write k n) := ⟨h.rM.put k n, h.rS.del k, fun p hp => by
  rcases mem_putA hp with rfl | hp
  · exact ⟨h1.1, h1.2, h2, h3⟩
  · exact h.mM p hp, fun p hp => h.mS p (mem_delA hp)⟩
theorem Wf.free {c : CD} (h : Wf c) {k : Nat} (h1 : 1 ≤ k ∧ k < c.n) (h2 : c.head < 65536) : Wf (c.free k) := ⟨h.rM.del k, h.rS.put k _, fun p hp => h.mM p (mem_delA hp), fun p hp => by
  rcases mem_putA hp with rfl | hp
  · exact ⟨h1.1, h1.2, h2⟩
  · exact h.mS p hp⟩
structure Acc (c : CD) (U F : List Nat) : Prop where
  perm : (U ++ F).Perm (List.range' 1 (c.next - 1))
  next1 : 1 ≤ c.next
  next2 : c.next ≤ c.n
  few : c.n ≤ 4096
  chain : Chain c.nx c.head F
  wf : Wf c
structure Same (c c' : CD) : Prop where
  pg : c'.pg = c.pg
  n : c'.n = c.n
  roots : c'.roots = c.roots
theorem Same.refl (c : CD) : Same c c := ⟨rfl, rfl, rfl⟩
theorem Same.trans {c1 c2 c3 : CD} (h : Same c1 c2) (h' : Same c2 c3) : Same c1 c3 := ⟨by rw [h'.pg, h.pg], by rw [h'.n, h.n], by rw [h'.roots, h.roots]⟩
section
variable {c c' : CD} {U U' F R P : List Nat} {k : Nat} {n : Nd}
theorem Acc.swap (h : Acc c U F) (hp : U'.Perm U) : Acc c U' F := ⟨(hp.append_right F).trans h.perm, h.next1, h.next2, h.few, h.chain, h.wf⟩
theorem Acc.nodup (h : Acc c U F) : (U ++ F).Nodup := h.perm.nodup_iff.2 (List.nodup_range' ..)
theorem Acc.mem (h : Acc c U F) (hk : k ∈ U ∨ k ∈ F) : 1 ≤ k ∧ k < c.next := by
  have := (h.perm.mem_iff (a := k)).1 (List.mem_append.2 hk)
  rw [List.mem_range'_1] at this
  have := h.next1
  omega
theorem Acc.apart (h : Acc c U F) (hk : k ∈ U) : k ∉ F := fun hf => (List.nodup_append.1 h.nodup).2.2 k hk k hf rfl
theorem Chain.congr {nx nx' : Nat → Option Nat} : ∀ {F : List Nat} {h : Nat}, Chain nx h F → (∀ k ∈ F, nx' k = nx k) → Chain nx' h F
  | [], _, h, _ => h
  | a :: F, _, ⟨h1, j, h2, h3⟩, hn => ⟨h1, j, by rw [hn a (List.mem_cons_self ..)]; exact h2, Chain.congr h3 (fun k hk => hn k (List.mem_cons_of_mem _ hk))⟩
theorem N_write (j : Nat) : (c.write k n).N j = if j = k then some n else c.N j := by
  unfold CD.N CD.write
  simp only
  rw [getA_put, getA_del]
  by_cases h : j = k
  · rw [if_pos h, if_pos h, if_pos h]; rfl
  · rw [if_neg h, if_neg h, if_neg h]
theorem nx_write {j : Nat} (h : j ≠ k) : (c.write k n).nx j = c.nx j := by
  unfold CD.nx CD.write
  simp only
  rw [getA_del, getA_put, if_neg h, if_neg h]
theorem N_free {j : Nat} (h : j ≠ k) : (c.free k).N j = c.N j := by
  unfold CD.N CD.free
  simp only
  rw [getA_del, getA_put, if_neg h, if_neg h]
theorem nx_free (j : Nat) : (c.free k).nx j = if j = k then some c.head else c.nx j := by
  unfold CD.nx CD.free
  simp only
  rw [getA_put, getA_del]
  by_cases h : j = k
  · simp [h]
  · simp [h]
theorem Acc.head (h : Acc c U F) : c.head < 65536 := by
  cases F with
  | nil => have : c.head = 0 := h.chain; omega
  | cons a F =>
    have h1 := h.chain.1
    have := (h.mem (k := a) (.inr (List.mem_cons_self ..))).2
    have := h.next2; have := h.few
    omega
theorem Acc.write (h : Acc c U F) (hk : k ∈ U) (hok : n.ok) (hs : n.size ≤ 512) : Acc (c.write k n) U F :=
  ⟨h.perm, h.next1, h.next2, h.few, h.chain.congr fun j hj => nx_write fun (e : j = k) => h.apart hk (e ▸ hj), h.wf.write (by have := h.mem (.inl hk); have := h.next2; omega) hok hs⟩
theorem Acc.free (h : Acc c (k :: U) F) : Acc (c.free k) U (k :: F) := by
  refine ⟨?_, h.next1, h.next2, h.few, ⟨rfl, c.head, by rw [nx_free, if_pos rfl], ?_⟩, h.wf.free (by have := h.mem (k := k) (.inl (List.mem_cons_self ..)); have := h.next2; omega) h.head⟩
  · refine List.Perm.trans ?_ h.perm
    exact List.perm_middle
  · refine h.chain.congr fun j hj => ?_
    rw [nx_free, if_neg fun (e : j = k) => h.apart (k := k) (List.mem_cons_self ..) (e ▸ hj)]
theorem alloc_ok (h : Acc c U F) (he : c.e = 0) :
    (c.alloc.2 ≠ 0 ∧ c.alloc.1.e = 0 ∧ Same c c.alloc.1 ∧ c.alloc.1.M = c.M ∧ c.alloc.1.S = c.S ∧ ∃ F', Acc c.alloc.1 (c.alloc.2 :: U) F') ∨
    (c.alloc.2 = 0 ∧ c.alloc.1 = { c with e := 5 } ∧ F = [] ∧ c.next = c.n) := by
  unfold CD.alloc
  by_cases hh : c.head ≠ 0
  · rw [if_pos hh]
    left
    cases F with
    | nil => exact absurd h.chain hh
    | cons a F =>
      obtain ⟨h1, j, h2, h3⟩ := h.chain
      refine ⟨hh, he, ⟨rfl, rfl, rfl⟩, rfl, rfl, F, ?_, h.next1, h.next2, h.few, ?_, ⟨h.wf.rM, h.wf.rS, h.wf.mM, h.wf.mS⟩⟩
      · refine List.Perm.trans ?_ h.perm
        simp only
        rw [h1]
        exact List.perm_middle.symm
      · show Chain c.nx ((c.nx c.head).getD 0) F
        rw [h1, h2]; exact h3
  · rw [if_neg hh]
    have hF : F = [] := by
      cases F with
      | nil => rfl
      | cons a F =>
        exfalso
        have := (h.mem (k := a) (.inr (List.mem_cons_self ..))).1
        have := h.chain.1
        omega
    subst hF
    by_cases hn : c.next < c.n
    · rw [if_pos hn]
      left
      have h1 := h.next1
      refine ⟨by show c.next ≠ 0; omega, he, ⟨rfl, rfl, rfl⟩, rfl, rfl, [], ?_, by show 1 ≤ c.next + 1; omega, hn, h.few, h.chain, ⟨h.wf.rM, h.wf.rS, h.wf.mM, h.wf.mS⟩⟩
      have hp := h.perm
      rw [List.append_nil] at hp ⊢
      show (c.next :: U).Perm (List.range' 1 (c.next + 1 - 1))
      have e : List.range' 1 (c.next + 1 - 1) = List.range' 1 (c.next - 1) ++ [c.next] := by
        rw [show c.next + 1 - 1 = (c.next - 1) + 1 by omega, List.range'_concat, show 1 + 1 * (c.next - 1) = c.next by omega]
      rw [e]
      exact (hp.cons _).trans (List.perm_append_singleton ..).symm
    · rw [if_neg hn]
      right
      have := h.next2
      refine ⟨rfl, ?_, rfl, by omega⟩
      unfold CD.full
      rw [if_pos he]
end
def Res (N : Nat → Option Nd) (m h at_ : Nat) (lo hi : Option Ky) (E : En) (u : Ky × Nat) (P : List Nat) : Prop :=
  (u.2 = 0 ∧ Sub N m h at_ lo hi E P) ∨
  (u.2 ≠ 0 ∧ 1 ≤ u.1.length ∧ u.1.length ≤ 96 ∧ geLo lo u.1 ∧ ltHi hi u.1 ∧ ∃ E1 P1 E2 P2, Sub N 1 h at_ lo (some u.1) E1 P1 ∧ Sub N 1 h u.2 (some u.1) hi E2 P2 ∧ E = E1 ++ E2 ∧ P = P1 ++ P2)
def Left (c c' : CD) (m h at_ : Nat) (lo hi : Option Ky) (E : En) (u : Ky × Nat) (R : List Nat) : Prop :=
  Same c c' ∧ ((c'.e = 0 ∧ ∃ P F, Acc c' (P ++ R) F ∧ (∀ p ∈ R, c'.N p = c.N p) ∧ Res c'.N m h at_ lo hi E u P) ∨ (c'.e = 5 ∧ u.2 = 0 ∧ (∀ p ∈ R, c'.N p = c.N p) ∧ (∃ n, c'.N at_ = some n) ∧ c.n ≤ 2 * E.length + R.length))
section
variable {c c' : CD} {U F R P : List Nat} {k m h : Nat} {n : Nd} {lo hi : Option Ky} {E : En}
theorem lay_ok (hn : NF c.N h n lo hi E P) (ha : Acc c (k :: P ++ R) F) (he : c.e = 0) (hok : n.ok) (hs : n.size ≤ if n.lf then 680 else 780) (hm : m ≤ n.l.length) :
    Left c (c.lay k n).1 m h k lo hi E (c.lay k n).2 R := by
  have hnd := ha.nodup
  have hkF : k ∉ F := ha.apart (k := k) (List.mem_append_left _ (List.mem_cons_self ..))
  have hkP : k ∉ P ∧ k ∉ R := by
    have h1 := (List.nodup_append.1 hnd).1
    rw [List.cons_append, List.nodup_cons, List.mem_append] at h1
    exact ⟨fun h => h1.1 (.inl h), fun h => h1.1 (.inr h)⟩
  unfold CD.lay
  by_cases hsz : n.size ≤ 512
  · rw [if_pos hsz]
    refine ⟨⟨rfl, rfl, rfl⟩, .inl ⟨he, k :: P, F, ha.write (by simp) hok hsz, fun p hp => ?_, .inl ⟨rfl, n, P, ?_, hok, hsz, hm, rfl, hn.congr fun p hp => ?_⟩⟩⟩
    · rw [N_write, if_neg fun (e : p = k) => hkP.2 (e ▸ hp)]
    · rw [N_write, if_pos rfl]
    · rw [N_write, if_neg fun (e : p = k) => hkP.1 (e ▸ hp)]
  · rw [if_neg hsz]
    obtain ⟨s1, s2, s3, s4, s5, s6, s7, s8⟩ := Nd.split_ok hok (by omega) hs
    obtain ⟨x, hx⟩ : ∃ x, n.l[n.cutAt]? = some x := ⟨_, List.getElem?_eq_getElem s1⟩
    have hkey : n.key = x.key := by unfold Nd.key; rw [hx]; rfl
    have hxo := hok.item x (List.mem_of_getElem? hx)
    obtain ⟨E1, P1, E2, P2, n1, n2, rfl, rfl, hh, hl⟩ := hn.split s1 s2
    rcases alloc_ok ha he with ⟨b1, b2, b3, b4, b5, F', b6⟩ | ⟨b1, b2, b3, b4⟩
    · have hnd2 := b6.nodup
      obtain ⟨t, ht⟩ : ∃ t, t = c.alloc.2 := ⟨_, rfl⟩
      obtain ⟨d, hd⟩ : ∃ d, d = c.alloc.1 := ⟨_, rfl⟩
      rw [← ht, ← hd]
      rw [← ht] at b1 b6 hnd2
      rw [← hd] at b2 b3 b4 b5 b6
      have hdN : ∀ p, d.N p = c.N p := fun p => by unfold CD.N; rw [b4, b5, b3.n, b3.pg]
      have htF : t ∉ F' := b6.apart (k := t) (List.mem_cons_self ..)
      have hkF' : k ∉ F' := b6.apart (k := k) (List.mem_cons_of_mem _ (List.mem_append_left _ (List.mem_cons_self ..)))
      have htU : t ∉ k :: (P1 ++ P2) ++ R := by
        have h1 := (List.nodup_append.1 hnd2).1
        exact (List.nodup_cons.1 h1).1
      have htk : t ≠ k := fun e => htU (by rw [e]; exact List.mem_append_left _ (List.mem_cons_self ..))
      have hN : ∀ p, p ∈ P1 ∨ p ∈ P2 ∨ p ∈ R → ((d.write k n.left).write t n.right).N p = c.N p := fun p hp => by
        have h1 : p ≠ t := fun e => htU (by
          rw [← e]
          rcases hp with hp | hp | hp
          · exact List.mem_append_left _ (List.mem_cons_of_mem _ (List.mem_append_left _ hp))
          · exact List.mem_append_left _ (List.mem_cons_of_mem _ (List.mem_append_right _ hp))
          · exact List.mem_append_right _ hp)
        have h2 : p ≠ k := fun e => by
          rw [e] at hp
          rcases hp with hp | hp | hp
          · exact hkP.1 (List.mem_append_left _ hp)
          · exact hkP.1 (List.mem_append_right _ hp)
          · exact hkP.2 hp
        rw [N_write, if_neg h1, N_write, if_neg h2, hdN]
      refine ⟨⟨b3.pg, b3.n, b3.roots⟩, .inl ⟨b2, (k :: P1) ++ (t :: P2), F', ((b6.write (by simp) s7 s3).write (by simp) s8 s4).swap ?_, fun p hp => hN p (.inr (.inr hp)), .inr ⟨b1, by rw [hkey]; exact hxo.k1, by rw [hkey]; exact hxo.k2, hl, hh, E1, k :: P1, E2, t :: P2, ?_, ?_, rfl, rfl⟩⟩⟩
      · rw [List.perm_iff_count]
        intro a
        simp only [List.count_append, List.count_cons]
        omega
      · exact ⟨n.left, P1, by rw [N_write, if_neg (Ne.symm htk), N_write, if_pos rfl], s7, s3, s5, rfl, n1.congr fun p hp => hN p (.inl hp)⟩
      · exact ⟨n.right, P2, by rw [N_write, if_pos rfl], s8, s4, s6, rfl, n2.congr fun p hp => hN p (.inr (.inl hp))⟩
    · have hful : c.n ≤ 2 * (E1 ++ E2).length + R.length := by
        have hq := (hn.count (by omega)).1
        have hp := ha.perm.length_eq
        rw [b3, b4, List.length_range', List.append_nil, List.length_append, List.length_cons] at hp
        have := ha.next1
        omega
      rw [b1, b2]
      have h0 : k ≠ 0 := by
        have := (ha.mem (k := k) (.inl (List.mem_append_left _ (List.mem_cons_self ..)))).1
        omega
      refine ⟨⟨rfl, rfl, rfl⟩, .inr ⟨rfl, rfl, fun p hp => ?_, ⟨n.left, ?_⟩, hful⟩⟩
      · have h1 := (ha.mem (k := p) (.inl (List.mem_append_right _ hp))).1
        have h2 : p ≠ k := fun e => hkP.2 (e ▸ hp)
        rw [N_write, if_neg (by omega), N_write, if_neg h2]
        rfl
      · rw [N_write, if_neg h0, N_write, if_pos rfl]
end
def putE (E : En) (k : Ky) (v : List UInt8) : En := E.filter (fun e => decide (klt e.1 k)) ++ (k, v) :: E.filter (fun e => decide (klt k e.1))
def delE (E : En) (k : Ky) : En := E.filter fun e => !decide (e.1 = k)
theorem putE_mid {EA E0 EB : En} {k : Ky} {v : List UInt8} (h1 : ∀ e ∈ EA, klt e.1 k) (h2 : ∀ e ∈ EB, klt k e.1) : putE (EA ++ (E0 ++ EB)) k v = EA ++ (putE E0 k v ++ EB) := by
  have a1 : EA.filter (fun e => decide (klt e.1 k)) = EA := List.filter_eq_self.2 fun e he => by simpa using h1 e he
  have a2 : EA.filter (fun e => decide (klt k e.1)) = [] := List.filter_eq_nil_iff.2 fun e he => by simpa using klt_asymm (h1 e he)
  have b1 : EB.filter (fun e => decide (klt e.1 k)) = [] := List.filter_eq_nil_iff.2 fun e he => by simpa using klt_asymm (h2 e he)
  have b2 : EB.filter (fun e => decide (klt k e.1)) = EB := List.filter_eq_self.2 fun e he => by simpa using h2 e he
  unfold putE
  rw [List.filter_append, List.filter_append, List.filter_append, List.filter_append, a1, a2, b1, b2]
  simp
theorem delE_mid {EA E0 EB : En} {k : Ky} (h1 : ∀ e ∈ EA, klt e.1 k) (h2 : ∀ e ∈ EB, klt k e.1) : delE (EA ++ (E0 ++ EB)) k = EA ++ (delE E0 k ++ EB) := by
  have a1 : EA.filter (fun e => !decide (e.1 = k)) = EA := List.filter_eq_self.2 fun e he => by
    have := h1 e he
    simp only [Bool.not_eq_true', decide_eq_false_iff_not]
    exact fun hk => klt_irrefl k (by rw [hk] at this; exact this)
  have b1 : EB.filter (fun e => !decide (e.1 = k)) = EB := List.filter_eq_self.2 fun e he => by
    have := h2 e he
    simp only [Bool.not_eq_true', decide_eq_false_iff_not]
    exact fun hk => klt_irrefl k (by rw [hk] at this; exact this)
  unfold delE
  rw [List.filter_append, List.filter_append, a1, b1]
theorem dropWhile_head {α : Type} {p : α → Bool} : ∀ {l : List α} {x : α} {B : List α}, l.dropWhile p = x :: B → p x = false
  | [], _, _, h => by cases h
  | y :: l, x, B, h => by
    by_cases hy : p y
    · rw [List.dropWhile_cons_of_pos hy] at h; exact dropWhile_head h
    · rw [List.dropWhile_cons_of_neg hy] at h
      injection h with h _
      rw [← h]; simpa using hy
theorem takeWhile_all {α : Type} {p : α → Bool} : ∀ {l : List α}, ∀ x ∈ l.takeWhile p, p x = true
  | [], x, h => by cases h
  | y :: l, x, h => by
    by_cases hy : p y
    · rw [List.takeWhile_cons_of_pos hy] at h
      rcases List.mem_cons.1 h with rfl | h
      · exact hy
      · exact takeWhile_all x h
    · rw [List.takeWhile_cons_of_neg hy] at h; cases h
theorem leafPut_ent {l : List It} {x : It} (hr : Rise (entOf l)) : entOf (leafPut l x) = putE (entOf l) x.key x.v := by
  obtain ⟨A, hA⟩ : ∃ A, A = l.takeWhile fun y => decide (klt y.key x.key) := ⟨_, rfl⟩
  obtain ⟨D, hD⟩ : ∃ D, D = l.dropWhile fun y => decide (klt y.key x.key) := ⟨_, rfl⟩
  have hl : l = A ++ D := by rw [hA, hD, List.takeWhile_append_dropWhile]
  have h1 : ∀ e ∈ entOf A, klt e.1 x.key := fun e he => by
    obtain ⟨y, hy, rfl⟩ := List.mem_map.1 he
    rw [hA] at hy
    simpa using takeWhile_all y hy
  unfold leafPut
  rw [← hA, ← hD]
  rw [hl, entOf_append] at hr
  obtain ⟨_, r2, _⟩ := List.pairwise_append.1 hr
  rw [hl, entOf_append, entOf_append]
  have e0 : putE (entOf A ++ entOf D) x.key x.v = entOf A ++ putE (entOf D) x.key x.v := by
    have := putE_mid (EA := entOf A) (E0 := entOf D) (EB := []) (k := x.key) (v := x.v) h1 (fun e he => by cases he)
    simpa using this
  rw [e0]
  congr 1
  cases hDc : D with
  | nil => rfl
  | cons y B =>
    have hy : ¬ klt y.key x.key := by
      rw [hD] at hDc
      simpa using dropWhile_head hDc
    rw [hDc] at r2
    have r2' := (List.pairwise_cons.1 r2).1
    simp only
    by_cases hk : y.key = x.key
    · rw [if_pos hk]
      have h2 : ∀ e ∈ entOf B, klt x.key e.1 := fun e he => by rw [← hk]; exact r2' e he
      show (y.key, x.v) :: entOf B = putE ((y.key, y.v) :: entOf B) x.key x.v
      have := putE_mid (EA := []) (E0 := [(y.key, y.v)]) (EB := entOf B) (k := x.key) (v := x.v) (fun e he => by cases he) h2
      simp only [List.nil_append, List.singleton_append] at this
      rw [this, hk]
      simp [putE, klt_irrefl]
    · rw [if_neg hk]
      have hxy : klt x.key y.key := by
        by_cases h : klt x.key y.key
        · exact h
        · exact absurd (klt_tri hy h) hk
      have h2 : ∀ e ∈ entOf (y :: B), klt x.key e.1 := fun e he => by
        rcases List.mem_cons.1 he with rfl | he
        · exact hxy
        · exact klt_trans hxy (r2' e he)
      have := putE_mid (EA := []) (E0 := []) (EB := entOf (y :: B)) (k := x.key) (v := x.v) (fun e he => by cases he) h2
      simp only [List.nil_append] at this
      rw [this]
      rfl
theorem leafPut_mem {l : List It} {x y : It} (hy : y ∈ leafPut l x) : y = x ∨ y ∈ l ∨ ∃ z ∈ l, y = { z with v := x.v } := by
  unfold leafPut at hy
  rcases List.mem_append.1 hy with hy | hy
  · exact .inr (.inl ((List.takeWhile_sublist _).mem hy))
  · split at hy
    · rename_i z B hz
      have hm : ∀ q, q ∈ z :: B → q ∈ l := fun q hq => by rw [← hz] at hq; exact (List.dropWhile_sublist _).mem hq
      split at hy
      · rcases List.mem_cons.1 hy with rfl | hy
        · exact .inr (.inr ⟨z, hm z (List.mem_cons_self ..), rfl⟩)
        · exact .inr (.inl (hm y (List.mem_cons_of_mem _ hy)))
      · rcases List.mem_cons.1 hy with rfl | hy
        · exact .inl rfl
        · exact .inr (.inl (hm y hy))
    · rw [List.mem_singleton] at hy
      exact .inl hy
theorem leafPut_size {l : List It} {x : It} (hx : x.ok true) (_hl : ∀ y ∈ l, y.ok true) : sumB true (leafPut l x) ≤ sumB true l + 162 ∧ (leafPut l x).length ≤ l.length + 1 ∧ 1 ≤ (leafPut l x).length := by
  have h := ibn_le hx
  rw [if_pos rfl] at h
  have hs : sumB true l = sumB true (l.takeWhile fun y => decide (klt y.key x.key)) + sumB true (l.dropWhile fun y => decide (klt y.key x.key)) := by rw [← sumB_append, List.takeWhile_append_dropWhile]
  have hn : l.length = (l.takeWhile fun y => decide (klt y.key x.key)).length + (l.dropWhile fun y => decide (klt y.key x.key)).length := by rw [← List.length_append, List.takeWhile_append_dropWhile]
  unfold leafPut
  rw [hs, sumB_append, List.length_append, hn]
  cases hD : l.dropWhile fun y => decide (klt y.key x.key) with
  | nil =>
    simp only [sumB_cons, List.length_cons, List.length_nil]
    have : sumB true [] = 0 := rfl
    omega
  | cons y B =>
    simp only
    split
    · simp only [sumB_cons, List.length_cons]
      have hv := hx.v
      have : ibn true { y with v := x.v } ≤ ibn true y + 64 := by unfold ibn; simp only [if_true]; omega
      omega
    · simp only [sumB_cons, List.length_cons]
      omega
theorem way_split {n : Nd} {key : Ky} {lo hi : Option Ky} (h1 : geLo lo key) (h2 : ltHi hi key) :
    ∃ A B, n.l = A ++ B ∧ A.length = n.way key ∧ n.l.take (n.way key) = A ∧ n.l.drop (n.way key) = B ∧ geLo (loOf lo A) key ∧ ltHi (hiOf hi B) key := by
  obtain ⟨A, hA⟩ : ∃ A, A = n.l.takeWhile fun x => !decide (klt key x.key) := ⟨_, rfl⟩
  obtain ⟨B, hB⟩ : ∃ B, B = n.l.dropWhile fun x => !decide (klt key x.key) := ⟨_, rfl⟩
  have hl : n.l = A ++ B := by rw [hA, hB, List.takeWhile_append_dropWhile]
  have hw : n.way key = A.length := by rw [hA]; rfl
  refine ⟨A, B, hl, hw.symm, by rw [hw, hl, List.take_left], by rw [hw, hl, List.drop_left], ?_, ?_⟩
  · have : ∀ x ∈ A, ¬ klt key x.key := fun x hx => by rw [hA] at hx; simpa using takeWhile_all x hx
    clear hA hl hw
    induction A generalizing lo with
    | nil => exact h1
    | cons x A ih =>
      refine ih (lo := some x.key) (fun a ha => ?_) (fun y hy => this y (List.mem_cons_of_mem _ hy))
      injection ha with ha
      rw [← ha]
      exact this x (List.mem_cons_self ..)
  · cases hBc : B with
    | nil => exact h2
    | cons x B' =>
      intro b hb
      injection hb with hb
      rw [← hb]
      rw [hB] at hBc
      simpa using dropWhile_head hBc
theorem putE_focus {S : SubT} (hS : Fine S) {A B : List It} {lo hi : Option Ky} {c : Nat} {EA _E0 EB : En} {PA PB : List Nat} {k : Ky} (hA : KidsL S lo c A EA PA) (hB : KidsR S B hi EB PB) (hp : A.Pairwise fun x y => klt x.key y.key)
    (h1 : geLo (loOf lo A) k) (h2 : ltHi (hiOf hi B) k) : (∀ e ∈ EA, klt e.1 k) ∧ ∀ e ∈ EB, klt k e.1 := by
  refine ⟨fun e he => ?_, fun e he => ?_⟩
  · obtain ⟨a, ha, hl⟩ := KidsL.less hS hA hp e he
    exact klt_lt_le hl (h1 a ha)
  · obtain ⟨b, hb, hl⟩ := KidsR.more hS hB e he
    exact klt_lt_le (h2 b hb) hl
theorem put_ok : ∀ (h : Nat) {f : Nat} {c : CD} {k : Nat} {lo hi : Option Ky} {E : En} {P R F : List Nat} {x : It}, h < f → Sub c.N 1 h k lo hi E P → Acc c (P ++ R) F → c.e = 0 → x.ok true → geLo lo x.key → ltHi hi x.key →
    ∃ c' u, putF f c k x = some (c', u) ∧ Left c c' 1 h k lo hi (putE E x.key x.v) u R
  | 0, f, c, k, lo, hi, E, P, R, F, x, hf, hs, ha, he, hx, h1, h2 => by
    obtain ⟨f, rfl⟩ : ∃ g, f = g + 1 := ⟨f - 1, by omega⟩
    obtain ⟨n, P', e1, hok, hsz, hm, rfl, hlf, rfl, rfl, hr, hw⟩ := hs
    have hi' : ∀ y ∈ n.l, y.ok true := fun y hy => by have := hok.item y hy; rwa [hlf] at this
    obtain ⟨z1, z2, z3⟩ := leafPut_size hx hi'
    have hsE : n.size = 3 + sumB true n.l := by rw [size_eq, hlf]; rfl
    have hsE' : Nd.size { n with l := leafPut n.l x } = 3 + sumB true (leafPut n.l x) := by rw [size_eq]; simp only [hlf]; rfl
    have hfew : n.l.length ≤ 509 := by
      have : ∀ l : List It, (∀ y ∈ l, y.ok true) → l.length ≤ sumB true l := fun l hl => by
        induction l with
        | nil => exact Nat.zero_le _
        | cons y l ih =>
          have := ih (fun q hq => hl q (List.mem_cons_of_mem _ hq))
          rw [sumB_cons, List.length_cons]
          unfold ibn
          simp only [if_true]
          omega
      have := this n.l hi'
      omega
    have key : NF c.N 0 { n with l := leafPut n.l x } lo hi (putE (entOf n.l) x.key x.v) [] := by
      have hE := leafPut_ent (x := x) hr
      refine ⟨hlf, hE.symm, rfl, ?_, fun e he => ?_⟩
      · unfold putE
        refine List.pairwise_append.2 ⟨hr.filter _, List.pairwise_cons.2 ⟨fun e he => by simpa using (List.mem_filter.1 he).2, hr.filter _⟩, fun a ha b hb => ?_⟩
        have a1 : klt a.1 x.key := by simpa using (List.mem_filter.1 ha).2
        rcases List.mem_cons.1 hb with rfl | hb
        · exact a1
        · exact klt_trans a1 (by simpa using (List.mem_filter.1 hb).2)
      · unfold putE at he
        rcases List.mem_append.1 he with he | he
        · exact hw e (List.mem_filter.1 he).1
        · rcases List.mem_cons.1 he with rfl | he
          · exact ⟨h1, h2⟩
          · exact hw e (List.mem_filter.1 he).1
    have hl := lay_ok (m := 1) key (R := R) (F := F) ha he (k := k) ⟨by show (leafPut n.l x).length < 65536; omega, fun y hy => ?_, hok.first, hok.bare⟩ (by rw [hsE']; simp only [hlf, if_true]; omega) z3
    · refine ⟨_, _, ?_, hl⟩
      unfold putF
      rw [e1]
      simp only
      rw [if_pos hlf]
    · show y.ok n.lf
      rw [hlf]
      rcases leafPut_mem hy with rfl | hy | ⟨z, hz, rfl⟩
      · exact hx
      · exact hi' y hy
      · have q := hi' z hz
        exact ⟨q.k1, q.k2, hx.v, q.at_, by simpa using q.bare⟩
  | h + 1, f, c, k, lo, hi, E, P, R, F, x, hf, hs, ha, he, hx, h1, h2 => by
    obtain ⟨f, rfl⟩ : ∃ g, f = g + 1 := ⟨f - 1, by omega⟩
    obtain ⟨n, P', e1, hok, hsz, hm, rfl, hlf, hK⟩ := hs
    obtain ⟨A, B, hl, hAl, hAt, hBd, g1, g2⟩ := way_split (n := n) h1 h2
    have hkeys := (Kids.keys Sub.fine hK).1
    rw [hl] at hK hkeys
    have hpA := (List.pairwise_append.1 hkeys).1
    obtain ⟨EA, PA, E0, P0, EB, PB, kL, k0, kR, rfl, rfl⟩ := Kids.focus.1 hK
    obtain ⟨q1, q2⟩ := putE_focus Sub.fine kL kR (_E0 := E0) hpA g1 g2
    have hch : n.child (n.way x.key) = chOf n.first A := by unfold Nd.child; rw [hAt]
    have haI : Acc c (P0 ++ (k :: (PA ++ PB) ++ R)) F := ha.swap (by
      rw [List.perm_iff_count]
      intro a
      simp only [List.count_append, List.count_cons]
      omega)
    obtain ⟨c', u, ep, sm, hres⟩ := put_ok h (f := f) (by omega) k0 haI he hx g1 g2
    have epf : putF (f + 1) c k x = if u.2 = 0 then some (c', ([], 0)) else some (c'.lay k { n with l := A ++ ⟨u.1, [], u.2⟩ :: B }) := by
      unfold putF
      rw [e1]
      simp only
      rw [if_neg (by rw [hlf]; decide), hch, ep]
      simp only
      unfold insAt
      rw [hAt, hBd]
    rw [epf]
    rcases hres with ⟨e0, Pn, Fn, ha', hR, hres⟩ | ⟨e5, u0, hR, _, hful⟩
    · have hNk : c'.N k = some n := by rw [hR k (List.mem_append_left _ (List.mem_cons_self ..))]; exact e1
      have mono : ∀ {Q : List Nat}, (∀ p ∈ Q, p ∈ PA ∨ p ∈ PB) → ∀ cc lo hi E P', (∀ p ∈ P', p ∈ Q) → Sub c.N 1 h cc lo hi E P' → Sub c'.N 1 h cc lo hi E P' := fun hQ cc lo hi E P' hP hsub =>
        hsub.congr fun p hp => hR p (List.mem_append_left _ (List.mem_cons_of_mem _ (List.mem_append.2 (hQ p (hP p hp)))))
      have kL' := KidsL.mono (mono (Q := PA) (fun p hp => .inl hp)) (fun p hp => hp) kL
      have kR' := KidsR.mono (mono (Q := PB) (fun p hp => .inr hp)) (fun p hp => hp) kR
      have hRR : ∀ p ∈ R, c'.N p = c.N p := fun p hp => hR p (List.mem_append_right _ hp)
      rw [putE_mid q1 q2]
      rcases hres with ⟨u0, hsub⟩ | ⟨u0, u1, u2, u3, u4, E1, P1, E2, P2, s1, s2, eE, rfl⟩
      · rw [if_pos u0]
        refine ⟨c', ([], 0), rfl, sm, .inl ⟨e0, k :: (PA ++ (Pn ++ PB)), Fn, ha'.swap ?_, hRR, .inl ⟨rfl, n, PA ++ (Pn ++ PB), hNk, hok, hsz, hm, rfl, hlf, ?_⟩⟩⟩
        · rw [List.perm_iff_count]
          intro a
          simp only [List.count_append, List.count_cons]
          omega
        · rw [hl]
          exact Kids.focus.2 ⟨EA, PA, _, Pn, EB, PB, kL', hsub, kR', rfl, rfl⟩
      · rw [if_neg u0]
        have hu : u.2 < 65536 := by
          have := (ha'.mem (k := u.2) (.inl (List.mem_append_left _ (List.mem_append_right _ s2.head)))).2
          have := ha'.next2; have := ha'.few
          omega
        have hnf : NF c'.N (h + 1) { n with l := A ++ ⟨u.1, [], u.2⟩ :: B } lo hi (EA ++ (putE E0 x.key x.v ++ EB)) (PA ++ ((P1 ++ P2) ++ PB)) := by
          refine ⟨hlf, ?_⟩
          rw [eE]
          exact Kids.focus2.2 ⟨EA, PA, E1, P1, E2, P2, EB, PB, kL', s1, s2, kR', rfl, rfl⟩
        have hsz' : Nd.size { n with l := A ++ ⟨u.1, [], u.2⟩ :: B } = n.size + (3 + u.1.length) := by
          rw [size_eq, size_eq, hl, sumB_append, sumB_append, sumB_cons]
          simp only [ibn, hlf, if_false, Bool.false_eq_true]
          omega
        have hlen : n.l.length ≤ 507 := by
          have : ∀ l : List It, l.length ≤ sumB false l := fun l => by
            induction l with
            | nil => exact Nat.zero_le _
            | cons y l ih => rw [sumB_cons, List.length_cons]; unfold ibn; simp only [if_false, Bool.false_eq_true]; omega
          have := this n.l
          rw [size_eq, hlf] at hsz
          simp only [if_false, Bool.false_eq_true] at hsz
          omega
        have hl2 := lay_ok (m := 1) hnf (R := R) (F := Fn) (k := k) (ha'.swap (by
          rw [List.perm_iff_count]
          intro a
          simp only [List.count_append, List.count_cons]
          omega)) e0 ⟨by
            show (A ++ ⟨u.1, [], u.2⟩ :: B).length < 65536
            have : n.l.length = A.length + B.length := by rw [hl, List.length_append]
            rw [List.length_append, List.length_cons]
            omega, fun y hy => by
            show y.ok n.lf
            rcases List.mem_append.1 hy with hy | hy
            · exact hok.item y (by rw [hl]; exact List.mem_append_left _ hy)
            · rcases List.mem_cons.1 hy with rfl | hy
              · exact ⟨u1, u2, Nat.zero_le _, hu, by rw [hlf]; rfl⟩
              · exact hok.item y (by rw [hl]; exact List.mem_append_right _ hy), hok.first, hok.bare⟩
          (by rw [hsz']; simp only [hlf, if_false, Bool.false_eq_true]; omega) (by show 1 ≤ (A ++ _ :: B).length; rw [List.length_append, List.length_cons]; omega)
        obtain ⟨sm2, hl2⟩ := hl2
        refine ⟨_, _, rfl, sm.trans sm2, ?_⟩
        rcases hl2 with ⟨z0, Pz, Fz, z1, z2, z3⟩ | z
        · exact .inl ⟨z0, Pz, Fz, z1, fun p hp => (z2 p hp).trans (hRR p hp), z3⟩
        · exact .inr ⟨z.1, z.2.1, fun p hp => (z.2.2.1 p hp).trans (hRR p hp), z.2.2.2.1, by rw [← sm.n]; exact z.2.2.2.2⟩
    · rw [if_pos u0]
      exact ⟨c', ([], 0), rfl, sm, .inr ⟨e5, rfl, fun p hp => hR p (List.mem_append_right _ hp), ⟨n, by rw [hR k (List.mem_append_left _ (List.mem_cons_self ..))]; exact e1⟩, by
        have a1 := KidsL.count (fun c lo hi E P h => (Sub.count h).1) kL
        have a2 := KidsR.count (fun c lo hi E P h => (Sub.count h).1) kR
        have a3 : n.l.length = A.length + B.length := by rw [hl, List.length_append]
        rw [putE_mid q1 q2]
        simp only [List.length_append, List.length_cons] at hful ⊢
        omega⟩⟩
end Go.Proofs.YtpjbdpepofnleaaGreat
end
section
namespace Go.Proofs.YtpjbdpepofnleaaGreat
def placeOf (l : List It) (key : Ky) : Nat := (l.takeWhile fun y => decide (klt y.key key)).length
def headIs (l : List It) (key : Ky) : Bool := match l with | y :: _ => decide (y.key = key) | [] => false
def isAt (l : List It) (key : Ky) : Bool := headIs (l.dropWhile fun y => decide (klt y.key key)) key
def delAt (l : List It) (k : Nat) : List It := l.take k ++ l.drop (k + 1)
def reKey (l : List It) (k : Nat) (key : Ky) : List It := l.take k ++ match l.drop k with | y :: B => { y with key := key } :: B | [] => []
noncomputable def joinF (c : CD) (at_ : Nat) (n : Nd) (k : Nat) : Option (CD × (Ky × Nat)) :=
  match c.N (n.child k), c.N (n.child (k + 1)), n.l[k]? with
  | some a, some b, some y =>
    if (a.with_ y.key b).size ≤ 512 then some (((c.write (n.child k) (a.with_ y.key b)).free (n.child (k + 1))).lay at_ { n with l := delAt n.l k })
    else some (((c.write (n.child k) (a.with_ y.key b).left).write (n.child (k + 1)) (a.with_ y.key b).right).lay at_ { n with l := reKey n.l k (a.with_ y.key b).key })
  | _, _, _ => none
noncomputable def mendF (c : CD) (at_ : Nat) (n : Nd) (k : Nat) (u : Ky × Nat) : Option (CD × (Ky × Nat)) :=
  if u.2 ≠ 0 then some (c.lay at_ { n with l := insAt n.l k ⟨u.1, [], u.2⟩ })
  else match c.N (n.child k) with
    | none => none
    | some x => if c.e ≠ 0 ∨ 170 ≤ x.size ∨ n.l = [] then some (c, ([], 0)) else joinF c at_ n (k - 1)
noncomputable def cutF : Nat → CD → Nat → Ky → Option (CD × Bool × (Ky × Nat))
  | 0, _, _, _ => none
  | f + 1, c, k, key =>
    match c.N k with
    | none => none
    | some n =>
      if n.lf then if isAt n.l key then some (c.write k { n with l := delAt n.l (placeOf n.l key) }, true, ([], 0)) else some (c, false, ([], 0))
      else match cutF f c (n.child (n.way key)) key with
        | none => none
        | some (c', is, u) => if is then (mendF c' k n (n.way key) u).map fun r => (r.1, true, r.2) else some (c', false, ([], 0))
section
variable {c c' : CD} {U F R P : List Nat} {k h : Nat} {n : Nd} {lo hi : Option Ky} {E : En}
theorem KidsL.snoc {S : SubT} {y : It} : ∀ {A : List It} {lo : Option Ky} {c : Nat} {E : En} {P : List Nat}, KidsL S lo c (A ++ [y]) E P ↔ ∃ E' P' E1 P1, KidsL S lo c A E' P' ∧ S (chOf c A) (loOf lo A) (some y.key) E1 P1 ∧ E = E' ++ E1 ∧ P = P' ++ P1
  | [], lo, c, E, P => by
    constructor
    · rintro ⟨E1, P1, E2, P2, h1, ⟨rfl, rfl⟩, rfl, rfl⟩
      exact ⟨[], [], E1, P1, ⟨rfl, rfl⟩, h1, by simp, by simp⟩
    · rintro ⟨_, _, E1, P1, ⟨rfl, rfl⟩, h1, eE, eP⟩
      rw [List.nil_append] at eE eP
      subst eE; subst eP
      exact ⟨E, P, [], [], h1, ⟨rfl, rfl⟩, by simp, by simp⟩
  | x :: A, lo, c, E, P => by
    constructor
    · rintro ⟨E1, P1, E2, P2, h1, h2, rfl, rfl⟩
      obtain ⟨E3, P3, E4, P4, a1, a2, rfl, rfl⟩ := KidsL.snoc.1 h2
      exact ⟨E1 ++ E3, P1 ++ P3, E4, P4, ⟨E1, P1, E3, P3, h1, a1, rfl, rfl⟩, a2, by rw [List.append_assoc], by rw [List.append_assoc]⟩
    · rintro ⟨_, _, E4, P4, ⟨E1, P1, E3, P3, h1, a1, rfl, rfl⟩, a2, rfl, rfl⟩
      exact ⟨E1, P1, E3 ++ E4, P3 ++ P4, h1, KidsL.snoc.2 ⟨E3, P3, E4, P4, a1, a2, rfl, rfl⟩, by rw [List.append_assoc], by rw [List.append_assoc]⟩
theorem chOf_snoc (c : Nat) (y : It) : ∀ A : List It, chOf c (A ++ [y]) = y.at_
  | [] => rfl
  | x :: A => chOf_snoc x.at_ y A
theorem loOf_snoc (lo : Option Ky) (y : It) : ∀ A : List It, loOf lo (A ++ [y]) = some y.key
  | [] => rfl
  | x :: A => loOf_snoc (some x.key) y A
theorem loOf_lt {y : It} : ∀ {A : List It} {lo : Option Ky}, (A ++ [y]).Pairwise (fun x z => klt x.key z.key) → (∀ a, lo = some a → klt a y.key) → ∀ a, loOf lo A = some a → klt a y.key
  | [], _, _, h, a, ha => h a ha
  | x :: A, lo, hp, _, a, ha => by
    have hp' := List.pairwise_cons.1 hp
    refine loOf_lt (lo := some x.key) hp'.2 (fun b hb => ?_) a ha
    injection hb with hb
    rw [← hb]
    exact hp'.1 y (List.mem_append_right _ (List.mem_singleton.2 rfl))
theorem items_few {n : Nd} (hs : n.size ≤ 512) : n.l.length ≤ 509 := by
  have : ∀ l : List It, l.length ≤ sumB n.lf l := fun l => by
    induction l with
    | nil => exact Nat.zero_le _
    | cons y l ih => rw [sumB_cons, List.length_cons]; unfold ibn; split <;> omega
  have := this n.l
  rw [size_eq] at hs
  split at hs <;> omega
theorem mid_key {S : SubT} (hS : Fine S) {A B : List It} {y : It} {ch : Nat} (hK : Kids S lo ch (A ++ y :: B) hi E P) : geLo (loOf lo A) y.key ∧ ltHi (hiOf hi B) y.key := by
  obtain ⟨h1, h2⟩ := Kids.keys hS hK
  refine ⟨fun a ha => klt_asymm (loOf_lt (A := A) (y := y) ?_ (h2 y (List.mem_append_right _ (List.mem_cons_self ..))).1 a ha), ?_⟩
  · have e : A ++ y :: B = (A ++ [y]) ++ B := by simp
    rw [e] at h1
    exact (List.pairwise_append.1 h1).1
  · cases B with
    | nil => exact (h2 y (List.mem_append_right _ (List.mem_cons_self ..))).2
    | cons z B =>
      intro b hb
      injection hb with hb
      rw [← hb]
      exact (List.pairwise_cons.1 (List.pairwise_append.1 h1).2.1).1 z (List.mem_cons_self ..)
theorem sub_mono {Q : List Nat} (hN : ∀ p ∈ Q, c'.N p = c.N p) : ∀ cc lo hi E P', (∀ p ∈ P', p ∈ Q) → Sub c.N 1 h cc lo hi E P' → Sub c'.N 1 h cc lo hi E P' := fun _ _ _ _ _ hP hs => hs.congr fun p hp => hN p (hP p hp)
theorem join_ok {A B : List It} {y : It} {EA E1 E2 EB : En} {PA P1 P2 PB : List Nat} {a b : Nd} (hl : n.l = A ++ y :: B) (hlf : n.lf = false) (hok : n.ok) (hsz : n.size ≤ 512)
    (kL : KidsL (Sub c.N 1 h) lo n.first A EA PA) (na : c.N (chOf n.first A) = some a) (aok : a.ok) (asz : a.size ≤ 512) (fa : NF c.N h a (loOf lo A) (some y.key) E1 P1)
    (nb : c.N y.at_ = some b) (bok : b.ok) (bsz : b.size ≤ 512) (fb : NF c.N h b (some y.key) (hiOf hi B) E2 P2) (kR : KidsR (Sub c.N 1 h) B hi EB PB)
    (hne : 1 ≤ a.l.length + b.l.length) (hss : a.size + b.size ≤ 512 + 169) (g1 : geLo (loOf lo A) y.key) (g2 : ltHi (hiOf hi B) y.key)
    (ha : Acc c (k :: (PA ++ ((chOf n.first A :: P1) ++ (y.at_ :: P2)) ++ PB) ++ R) F) (he : c.e = 0) :
    ∃ c' u, joinF c k n A.length = some (c', u) ∧ Left c c' 0 (h + 1) k lo hi (EA ++ ((E1 ++ E2) ++ EB)) u R := by
  have hc1 : n.child A.length = chOf n.first A := by unfold Nd.child; rw [hl, List.take_left]
  have hc2 : n.child (A.length + 1) = y.at_ := by
    unfold Nd.child
    rw [hl, show A ++ y :: B = (A ++ [y]) ++ B by simp, show A.length + 1 = (A ++ [y]).length by simp, List.take_left, chOf_snoc]
  have hy : n.l[A.length]? = some y := by rw [hl, List.getElem?_append_right (Nat.le_refl _), Nat.sub_self]; rfl
  have hyok := hok.item y (by rw [hl]; exact List.mem_append_right _ (List.mem_cons_self ..))
  have hab : a.lf = b.lf := by rw [fa.kind, fb.kind]
  obtain ⟨m, hm⟩ : ∃ m, m = a.with_ y.key b := ⟨_, rfl⟩
  have mok : m.ok := by rw [hm]; exact with_ok aok bok hab ⟨hyok.k1, hyok.k2⟩ (by have := items_few asz; have := items_few bsz; omega)
  have msz : m.size = if a.lf then a.size + b.size - 3 else a.size + b.size + y.key.length - 2 := by rw [hm]; exact with_size hab _
  have mlf : m.lf = a.lf := by rw [hm]; rfl
  have mf : NF c.N h m (loOf lo A) (hiOf hi B) (E1 ++ E2) (P1 ++ P2) := by rw [hm]; exact fa.with_ fb g2 g1
  have ml : 1 ≤ m.l.length := by
    rw [hm]
    show 1 ≤ ((if a.lf then a.l else a.l ++ [⟨y.key, [], b.first⟩]) ++ b.l).length
    rw [List.length_append]
    split
    · omega
    · rw [List.length_append]; simp only [List.length_cons, List.length_nil]; omega
  have hyk := hyok.k2
  obtain ⟨p, hp⟩ : ∃ p, p = chOf n.first A := ⟨_, rfl⟩
  obtain ⟨q, hq⟩ : ∃ q, q = y.at_ := ⟨_, rfl⟩
  rw [← hp] at hc1 ha na
  rw [← hq] at hc2 ha nb
  have hnd := ha.nodup
  -- which pages are unlike
  have hcnt : ∀ z, (k :: (PA ++ ((p :: P1) ++ (q :: P2)) ++ PB) ++ R ++ F).count z ≤ 1 := fun z => List.nodup_iff_count.1 hnd z
  have ne : ∀ z, z ∈ k :: (PA ++ (P1 ++ P2) ++ PB) ++ R → z ≠ p ∧ z ≠ q := fun z hz => by
    have h1 := hcnt z
    have h2 : 1 ≤ (k :: (PA ++ (P1 ++ P2) ++ PB) ++ R).count z := List.count_pos_iff.2 hz
    simp only [List.count_append, List.count_cons] at h1 h2
    constructor
    · intro e
      rw [if_pos (show (p == z) = true by simp [e])] at h1
      omega
    · intro e
      rw [if_pos (show (q == z) = true by simp [e])] at h1
      omega
  have hpq : p ≠ q := fun e => by
    have h1 := hcnt p
    simp only [List.count_append, List.count_cons] at h1
    rw [if_pos (show (p == p) = true by simp), if_pos (show (q == p) = true by simp [e])] at h1
    omega
  have hpF : p ∉ F := ha.apart (k := p) (by simp)
  have hqF : q ∉ F := ha.apart (k := q) (by simp)
  unfold joinF
  rw [hc1, hc2, na, nb, hy]
  simp only
  rw [← hm]
  by_cases hs : m.size ≤ 512
  · rw [if_pos hs]
    obtain ⟨d, hd⟩ : ∃ d, d = (c.write p m).free q := ⟨_, rfl⟩
    have hdN : ∀ z, z ≠ q → d.N z = if z = p then some m else c.N z := fun z hz => by rw [hd, N_free hz, N_write]
    have hN : ∀ z, z ∈ k :: (PA ++ (P1 ++ P2) ++ PB) ++ R → d.N z = c.N z := fun z hz => by rw [hdN z (ne z hz).2, if_neg (ne z hz).1]
    have had : Acc d (k :: (PA ++ (p :: (P1 ++ P2)) ++ PB) ++ R) (q :: F) := by
      rw [hd]
      refine Acc.free ((ha.write (k := p) (by simp) mok hs).swap ?_)
      rw [List.perm_iff_count]
      intro z
      simp only [List.count_append, List.count_cons]
      omega
    have sm : Same c d := by rw [hd]; exact ⟨rfl, rfl, rfl⟩
    have ed : d.e = 0 := by rw [hd]; exact he
    have hsub : Sub d.N 1 h p (loOf lo A) (hiOf hi B) (E1 ++ E2) (p :: (P1 ++ P2)) := ⟨m, P1 ++ P2, by rw [hdN p hpq, if_pos rfl], mok, hs, ml, rfl, mf.congr fun z hz => hN z (by simp at hz ⊢; rcases hz with hz | hz <;> simp [hz])⟩
    have hnf : NF d.N (h + 1) { n with l := A ++ B } lo hi (EA ++ ((E1 ++ E2) ++ EB)) (PA ++ ((p :: (P1 ++ P2)) ++ PB)) := by
      refine ⟨hlf, Kids.focus.2 ⟨EA, PA, E1 ++ E2, p :: (P1 ++ P2), EB, PB, KidsL.mono (P := PA) (sub_mono fun z hz => hN z (by simp [hz])) (fun _ h => h) kL, by rw [hp] at hsub ⊢; exact hsub, KidsR.mono (P := PB) (sub_mono fun z hz => hN z (by simp [hz])) (fun _ h => h) kR, rfl, rfl⟩⟩
    have hdel : delAt n.l A.length = A ++ B := by
      unfold delAt
      rw [hl, List.take_left, show A ++ y :: B = (A ++ [y]) ++ B by simp, show A.length + 1 = (A ++ [y]).length by simp, List.drop_left]
    rw [hdel]
    have hsz' : Nd.size { n with l := A ++ B } ≤ 512 := by
      rw [size_eq, hl, sumB_append, sumB_cons] at hsz
      rw [size_eq, sumB_append]
      simp only
      omega
    have hlay := lay_ok (m := 0) hnf (R := R) (F := q :: F) (k := k) (had.swap (by
      rw [List.perm_iff_count]
      intro z
      simp only [List.count_append, List.count_cons]
      omega)) ed ⟨by
        show (A ++ B).length < 65536
        have := hok.few
        rw [hl, List.length_append, List.length_cons] at this
        rw [List.length_append]
        omega, fun z hz => hok.item z (by rw [hl]; rcases List.mem_append.1 hz with hz | hz; exact List.mem_append_left _ hz; exact List.mem_append_right _ (List.mem_cons_of_mem _ hz)), hok.first, hok.bare⟩ (by show _ ≤ if n.lf = true then 680 else 780; rw [if_neg (by rw [hlf]; decide)]; omega) (Nat.zero_le _)
    rw [← hd]
    obtain ⟨sm2, hlay⟩ := hlay
    have hRR : ∀ z ∈ R, d.N z = c.N z := fun z hz => hN z (by simp [hz])
    refine ⟨_, _, rfl, sm.trans sm2, ?_⟩
    rcases hlay with ⟨z0, Pz, Fz, z1, z2, z3⟩ | z
    · exact .inl ⟨z0, Pz, Fz, z1, fun w hw => (z2 w hw).trans (hRR w hw), z3⟩
    · exact .inr ⟨z.1, z.2.1, fun w hw => (z.2.2.1 w hw).trans (hRR w hw), z.2.2.2.1, by rw [← sm.n]; exact z.2.2.2.2⟩
  · rw [if_neg hs]
    have hms : m.size ≤ if m.lf then 680 else 780 := by rw [mlf, msz]; split <;> omega
    obtain ⟨s1, s2, s3, s4, s5, s6, s7, s8⟩ := Nd.split_ok mok (by omega) hms
    obtain ⟨x, hx⟩ : ∃ x, m.l[m.cutAt]? = some x := ⟨_, List.getElem?_eq_getElem s1⟩
    have hkey : m.key = x.key := by unfold Nd.key; rw [hx]; rfl
    have hxo := mok.item x (List.mem_of_getElem? hx)
    obtain ⟨E3, P3, E4, P4, n1, n2, eE, eP, hh, hll⟩ := mf.split s1 s2
    obtain ⟨d, hd⟩ : ∃ d, d = (c.write p m.left).write q m.right := ⟨_, rfl⟩
    have hdN : ∀ z, d.N z = if z = q then some m.right else if z = p then some m.left else c.N z := fun z => by rw [hd, N_write, N_write]
    have hN : ∀ z, z ∈ k :: (PA ++ (P1 ++ P2) ++ PB) ++ R → d.N z = c.N z := fun z hz => by rw [hdN z, if_neg (ne z hz).2, if_neg (ne z hz).1]
    have had : Acc d (k :: (PA ++ ((p :: P1) ++ (q :: P2)) ++ PB) ++ R) F := by rw [hd]; exact (ha.write (by simp) s7 s3).write (by simp) s8 s4
    have sm : Same c d := by rw [hd]; exact ⟨rfl, rfl, rfl⟩
    have ed : d.e = 0 := by rw [hd]; exact he
    have hsubL : Sub d.N 1 h p (loOf lo A) (some m.key) E3 (p :: P3) := ⟨m.left, P3, by rw [hdN, if_neg hpq, if_pos rfl], s7, s3, s5, rfl, n1.congr fun z hz => hN z (by
      have : z ∈ P1 ++ P2 := by rw [eP]; exact List.mem_append_left _ hz
      simp at this ⊢; rcases this with h | h <;> simp [h])⟩
    have hsubR : Sub d.N 1 h q (some m.key) (hiOf hi B) E4 (q :: P4) := ⟨m.right, P4, by rw [hdN, if_pos rfl], s8, s4, s6, rfl, n2.congr fun z hz => hN z (by
      have : z ∈ P1 ++ P2 := by rw [eP]; exact List.mem_append_right _ hz
      simp at this ⊢; rcases this with h | h <;> simp [h])⟩
    have hre : reKey n.l A.length m.key = A ++ { y with key := m.key } :: B := by
      unfold reKey
      rw [hl, List.take_left, List.drop_left]
    rw [hre]
    have hnf : NF d.N (h + 1) { n with l := A ++ { y with key := m.key } :: B } lo hi (EA ++ ((E1 ++ E2) ++ EB)) (PA ++ (((p :: P3) ++ (q :: P4)) ++ PB)) := by
      refine ⟨hlf, ?_⟩
      rw [eE]
      exact Kids.focus2.2 ⟨EA, PA, E3, p :: P3, E4, q :: P4, EB, PB, KidsL.mono (P := PA) (sub_mono fun z hz => hN z (by simp [hz])) (fun _ h => h) kL, by rw [hp] at hsubL ⊢; exact hsubL, by rw [hq] at hsubR ⊢; exact hsubR, KidsR.mono (P := PB) (sub_mono fun z hz => hN z (by simp [hz])) (fun _ h => h) kR, rfl, rfl⟩
    have hk96 : m.key.length ≤ 96 := by rw [hkey]; exact hxo.k2
    have hk1 : 1 ≤ m.key.length := by rw [hkey]; exact hxo.k1
    have hsz' : Nd.size { n with l := A ++ { y with key := m.key } :: B } ≤ 620 := by
      rw [size_eq, hl, sumB_append, sumB_cons] at hsz
      rw [size_eq, sumB_append, sumB_cons]
      simp only [hlf, ibn, if_false, Bool.false_eq_true] at hsz ⊢
      omega
    have hcP : ∀ z, P1.count z + P2.count z = P3.count z + P4.count z := fun z => by
      have := congrArg (List.count z) eP
      simpa only [List.count_append] using this
    have hlay := lay_ok (m := 0) hnf (R := R) (F := F) (k := k) (had.swap (by
      rw [List.perm_iff_count]
      intro z
      have := hcP z
      simp only [List.count_append, List.count_cons]
      omega)) ed ⟨by
        show (A ++ { y with key := m.key } :: B).length < 65536
        have := hok.few
        rw [hl, List.length_append, List.length_cons] at this
        rw [List.length_append, List.length_cons]
        exact this, fun z hz => by
        show z.ok n.lf
        rcases List.mem_append.1 hz with hz | hz
        · exact hok.item z (by rw [hl]; exact List.mem_append_left _ hz)
        · rcases List.mem_cons.1 hz with rfl | hz
          · exact ⟨hk1, hk96, hyok.v, hyok.at_, hyok.bare⟩
          · exact hok.item z (by rw [hl]; exact List.mem_append_right _ (List.mem_cons_of_mem _ hz)), hok.first, hok.bare⟩ (by show _ ≤ if n.lf = true then 680 else 780; rw [if_neg (by rw [hlf]; decide)]; omega) (Nat.zero_le _)
    rw [← hd]
    obtain ⟨sm2, hlay⟩ := hlay
    have hRR : ∀ z ∈ R, d.N z = c.N z := fun z hz => hN z (by simp [hz])
    refine ⟨_, _, rfl, sm.trans sm2, ?_⟩
    rcases hlay with ⟨z0, Pz, Fz, z1, z2, z3⟩ | z
    · exact .inl ⟨z0, Pz, Fz, z1, fun w hw => (z2 w hw).trans (hRR w hw), z3⟩
    · exact .inr ⟨z.1, z.2.1, fun w hw => (z.2.2.1 w hw).trans (hRR w hw), z.2.2.2.1, by rw [← sm.n]; exact z.2.2.2.2⟩
end
end Go.Proofs.YtpjbdpepofnleaaGreat
end
section
namespace Go.Proofs.YtpjbdpepofnleaaGreat
section
variable {c c' : CD} {U F R P : List Nat} {k h : Nat} {n : Nd} {lo hi : Option Ky} {E : En}
theorem leafCut {l : List It} {key : Ky} (hr : Rise (entOf l)) : (isAt l key = true ↔ ∃ e ∈ entOf l, e.1 = key) ∧ (isAt l key = true → entOf (delAt l (placeOf l key)) = delE (entOf l) key ∧ (delAt l (placeOf l key)).length + 1 = l.length ∧ sumB true (delAt l (placeOf l key)) ≤ sumB true l ∧ ∀ x ∈ delAt l (placeOf l key), x ∈ l) := by
  obtain ⟨A, hA⟩ : ∃ A, A = l.takeWhile fun y => decide (klt y.key key) := ⟨_, rfl⟩
  obtain ⟨D, hD⟩ : ∃ D, D = l.dropWhile fun y => decide (klt y.key key) := ⟨_, rfl⟩
  have hl : l = A ++ D := by rw [hA, hD, List.takeWhile_append_dropWhile]
  have hp : placeOf l key = A.length := by rw [hA]; rfl
  have h1 : ∀ e ∈ entOf A, klt e.1 key := fun e he => by
    obtain ⟨y, hy, rfl⟩ := List.mem_map.1 he
    rw [hA] at hy
    simpa using takeWhile_all y hy
  have hi' : isAt l key = headIs D key := by rw [hD]; rfl
  rw [hp, hi']
  rw [hl, entOf_append] at hr
  obtain ⟨_, r2, _⟩ := List.pairwise_append.1 hr
  cases hDc : D with
  | nil =>
    refine ⟨⟨(fun h => by cases h), fun ⟨e, he, hk⟩ => ?_⟩, fun h => by cases h⟩
    exfalso
    rw [hl, hDc, List.append_nil] at he
    have := h1 e he
    rw [hk] at this
    exact klt_irrefl _ this
  | cons y B =>
    have hy : ¬ klt y.key key := by
      rw [hD] at hDc
      simpa using dropWhile_head hDc
    rw [hDc] at r2 hl
    have r2' := (List.pairwise_cons.1 r2).1
    unfold headIs
    simp only
    by_cases hk : y.key = key
    · have h2 : ∀ e ∈ entOf B, klt key e.1 := fun e he => by rw [← hk]; exact r2' e he
      have hdel : delAt l A.length = A ++ B := by
        unfold delAt
        rw [hl, List.take_left, show A ++ y :: B = (A ++ [y]) ++ B by simp, show A.length + 1 = (A ++ [y]).length by simp, List.drop_left]
      refine ⟨⟨fun _ => ⟨(y.key, y.v), by rw [hl, entOf_append]; exact List.mem_append_right _ (List.mem_cons_self ..), hk⟩, fun _ => by simpa using hk⟩, fun _ => ?_⟩
      rw [hdel]
      refine ⟨?_, by rw [hl, List.length_append, List.length_append, List.length_cons]; omega, by rw [hl, sumB_append, sumB_append, sumB_cons]; omega, fun x hx => ?_⟩
      · have := delE_mid (EA := entOf A) (E0 := [(y.key, y.v)]) (EB := entOf B) (k := key) h1 h2
        rw [hl, entOf_append, entOf_append]
        show entOf A ++ entOf B = delE (entOf A ++ ((y.key, y.v) :: entOf B)) key
        rw [List.singleton_append] at this
        rw [this]
        simp [delE, hk]
      · rw [hl]
        rcases List.mem_append.1 hx with hx | hx
        · exact List.mem_append_left _ hx
        · exact List.mem_append_right _ (List.mem_cons_of_mem _ hx)
    · have hxy : klt key y.key := by
        by_cases h : klt key y.key
        · exact h
        · exact absurd (klt_tri hy h) hk
      refine ⟨⟨fun h => absurd (of_decide_eq_true h) hk, fun ⟨e, he, hek⟩ => ?_⟩, fun h => absurd (of_decide_eq_true h) hk⟩
      exfalso
      rw [hl, entOf_append] at he
      rcases List.mem_append.1 he with he | he
      · have := h1 e he
        rw [hek] at this
        exact klt_irrefl _ this
      · rcases List.mem_cons.1 he with rfl | he
        · exact hk hek
        · have := klt_trans hxy (r2' e he)
          rw [hek] at this
          exact klt_irrefl _ this
theorem small_some {x : Nd} (h : 170 ≤ x.size) : 1 ≤ x.l.length := by
  cases hl : x.l with
  | nil =>
    exfalso
    rw [size_eq, hl] at h
    have : sumB x.lf [] = 0 := rfl
    split at h <;> omega
  | cons y l => simp
theorem cut_ok : ∀ (h : Nat) {f : Nat} {c : CD} {k : Nat} {lo hi : Option Ky} {E : En} {P R F : List Nat} {key : Ky}, h < f → Sub c.N 1 h k lo hi E P → Acc c (P ++ R) F → c.e = 0 → geLo lo key → ltHi hi key →
    ∃ c' is u, cutF f c k key = some (c', is, u) ∧ (is = true ↔ ∃ e ∈ E, e.1 = key) ∧ (is = false → c' = c ∧ u.2 = 0) ∧ (is = true → Left c c' 0 h k lo hi (delE E key) u R)
  | 0, f, c, k, lo, hi, E, P, R, F, key, hf, hs, ha, he, h1, h2 => by
    obtain ⟨f, rfl⟩ : ∃ g, f = g + 1 := ⟨f - 1, by omega⟩
    obtain ⟨n, P', e1, hok, hsz, hm, rfl, hlf, rfl, rfl, hr, hw⟩ := hs
    obtain ⟨q1, q2⟩ := leafCut (key := key) hr
    have hkF : k ∉ F := ha.apart (k := k) (by simp)
    have hkR : k ∉ R := fun hk => by
      have := (List.nodup_append.1 (List.nodup_append.1 ha.nodup).1).2.2 k (by simp) k hk
      exact this rfl
    cases his : isAt n.l key with
    | false =>
      have q3 := q1
      rw [his] at q3
      refine ⟨c, false, ([], 0), ?_, q3, fun _ => ⟨rfl, rfl⟩, fun h => by cases h⟩
      unfold cutF
      rw [e1]
      simp only
      rw [if_pos hlf, if_neg (by rw [his]; decide)]
    | true =>
      obtain ⟨d1, d2, d3, d4⟩ := q2 his
      have q3 := q1
      rw [his] at q3
      have hok' : Nd.ok { n with l := delAt n.l (placeOf n.l key) } := ⟨by
        show (delAt n.l (placeOf n.l key)).length < 65536
        have := hok.few
        omega, fun x hx => hok.item x (d4 x hx), hok.first, hok.bare⟩
      have hsz' : Nd.size { n with l := delAt n.l (placeOf n.l key) } ≤ 512 := by
        rw [size_eq] at hsz ⊢
        simp only [hlf, if_true] at hsz ⊢
        omega
      refine ⟨c.write k { n with l := delAt n.l (placeOf n.l key) }, true, ([], 0), ?_, q3, (fun h => by cases h), fun _ => ⟨⟨rfl, rfl, rfl⟩, .inl ⟨he, [k], F, ha.write (by simp) hok' hsz', fun p hp => ?_, .inl ⟨rfl, { n with l := delAt n.l (placeOf n.l key) }, [], by rw [N_write, if_pos rfl], hok', hsz', Nat.zero_le _, rfl, hlf, d1.symm, rfl, ?_, ?_⟩⟩⟩⟩
      · unfold cutF
        rw [e1]
        simp only
        rw [if_pos hlf, if_pos his]
      · rw [N_write, if_neg fun (e : p = k) => hkR (e ▸ hp)]
      · exact hr.filter _
      · exact fun e he => hw e (List.mem_filter.1 he).1
  | h + 1, f, c, k, lo, hi, E, P, R, F, key, hf, hs, ha, he, h1, h2 => by
    obtain ⟨f, rfl⟩ : ∃ g, f = g + 1 := ⟨f - 1, by omega⟩
    obtain ⟨n, P', e1, hok, hsz, hm, rfl, hlf, hK⟩ := hs
    obtain ⟨A, B, hl, hAl, hAt, hBd, g1, g2⟩ := way_split (n := n) h1 h2
    have hkeys := (Kids.keys Sub.fine hK).1
    have hmid : ∀ {A' B' : List It} {y : It}, n.l = A' ++ y :: B' → geLo (loOf lo A') y.key ∧ ltHi (hiOf hi B') y.key := fun e => by
      rw [e] at hK
      exact mid_key Sub.fine hK
    rw [hl] at hK hkeys
    have hpA := (List.pairwise_append.1 hkeys).1
    obtain ⟨EA, PA, E0, P0, EB, PB, kL, k0, kR, rfl, rfl⟩ := Kids.focus.1 hK
    obtain ⟨q1, q2⟩ := putE_focus Sub.fine kL kR (_E0 := E0) hpA g1 g2
    have hch : n.child (n.way key) = chOf n.first A := by unfold Nd.child; rw [hAt]
    have haI : Acc c (P0 ++ (k :: (PA ++ PB) ++ R)) F := ha.swap (by
      rw [List.perm_iff_count]
      intro a
      simp only [List.count_append, List.count_cons]
      omega)
    obtain ⟨c', is, u, ep, his, hno, hyes⟩ := cut_ok h (f := f) (by omega) k0 haI he g1 g2
    have his' : is = true ↔ ∃ e ∈ EA ++ (E0 ++ EB), e.1 = key := by
      rw [his]
      constructor
      · rintro ⟨e, he, hk⟩
        exact ⟨e, List.mem_append_right _ (List.mem_append_left _ he), hk⟩
      · rintro ⟨e, he, hk⟩
        rcases List.mem_append.1 he with he | he
        · have := q1 e he
          rw [hk] at this
          exact absurd this (klt_irrefl _)
        · rcases List.mem_append.1 he with he | he
          · exact ⟨e, he, hk⟩
          · have := q2 e he
            rw [hk] at this
            exact absurd this (klt_irrefl _)
    have epf : cutF (f + 1) c k key = if is then (mendF c' k n (n.way key) u).map fun r => (r.1, true, r.2) else some (c', false, ([], 0)) := by
      unfold cutF
      rw [e1]
      simp only
      rw [if_neg (by rw [hlf]; decide), hch, ep]
    rw [epf]
    cases is with
    | false => exact ⟨c', false, ([], 0), rfl, his', fun _ => ⟨(hno rfl).1, rfl⟩, fun h => by cases h⟩
    | true =>
      rw [if_pos rfl, delE_mid q1 q2]
      suffices hs : ∃ c2 u2, mendF c' k n (n.way key) u = some (c2, u2) ∧ Left c c2 0 (h + 1) k lo hi (EA ++ (delE E0 key ++ EB)) u2 R by
        obtain ⟨c2, u2, hm2, hL⟩ := hs
        exact ⟨c2, true, u2, by rw [hm2]; rfl, his', (fun h => by cases h), fun _ => hL⟩
      obtain ⟨sm, hres⟩ := hyes rfl
      clear ep epf his his' hno hyes
      unfold mendF
      rw [hch]
      rcases hres with ⟨e0, Pn, Fn, ha', hR, hres⟩ | ⟨e5, u0, hR, ⟨n0, hn0⟩, hful⟩
      · have hNk : c'.N k = some n := by rw [hR k (List.mem_append_left _ (List.mem_cons_self ..))]; exact e1
        have mono : ∀ {Q : List Nat}, (∀ p ∈ Q, p ∈ PA ∨ p ∈ PB) → ∀ cc lo hi E P', (∀ p ∈ P', p ∈ Q) → Sub c.N 1 h cc lo hi E P' → Sub c'.N 1 h cc lo hi E P' := fun hQ cc lo hi E P' hP hsub =>
          hsub.congr fun p hp => hR p (List.mem_append_left _ (List.mem_cons_of_mem _ (List.mem_append.2 (hQ p (hP p hp)))))
        have kL' := KidsL.mono (mono (Q := PA) (fun p hp => .inl hp)) (fun p hp => hp) kL
        have kR' := KidsR.mono (mono (Q := PB) (fun p hp => .inr hp)) (fun p hp => hp) kR
        have hRR : ∀ p ∈ R, c'.N p = c.N p := fun p hp => hR p (List.mem_append_right _ hp)
        have fin : ∀ {c2 : CD} {E2 : En} {u2 : Ky × Nat}, Left c' c2 0 (h + 1) k lo hi E2 u2 R → Left c c2 0 (h + 1) k lo hi E2 u2 R := fun hL => by
          obtain ⟨sm2, hL⟩ := hL
          refine ⟨sm.trans sm2, ?_⟩
          rcases hL with ⟨z0, Pz, Fz, z1, z2, z3⟩ | z
          · exact .inl ⟨z0, Pz, Fz, z1, fun w hw => (z2 w hw).trans (hRR w hw), z3⟩
          · exact .inr ⟨z.1, z.2.1, fun w hw => (z.2.2.1 w hw).trans (hRR w hw), z.2.2.2.1, by rw [← sm.n]; exact z.2.2.2.2⟩
        rcases hres with ⟨u0, hsub⟩ | ⟨u0, u1, u2, u3, u4, E1, P1, E2, P2, s1, s2, eE, rfl⟩
        · rw [if_neg (fun h => h u0)]
          obtain ⟨x, Px, x1, x2, x3, _, rfl, x6⟩ := id hsub
          rw [x1]
          simp only
          by_cases hx : 170 ≤ x.size
          · rw [if_pos (.inr (.inl hx))]
            refine ⟨c', ([], 0), rfl, sm, .inl ⟨e0, k :: (PA ++ ((chOf n.first A :: Px) ++ PB)), Fn, ha'.swap ?_, hRR, .inl ⟨rfl, n, PA ++ ((chOf n.first A :: Px) ++ PB), hNk, hok, hsz, Nat.zero_le _, rfl, hlf, ?_⟩⟩⟩
            · rw [List.perm_iff_count]
              intro a
              simp only [List.count_append, List.count_cons]
              omega
            · rw [hl]
              exact Kids.focus.2 ⟨EA, PA, _, _, EB, PB, kL', ⟨x, Px, x1, x2, x3, small_some hx, rfl, x6⟩, kR', rfl, rfl⟩
          · have hnl : n.l ≠ [] := fun e => by rw [e] at hm; cases hm
            rw [if_neg (by rintro (h | h | h); exact h e0; exact hx h; exact hnl h), ← hAl]
            rcases List.eq_nil_or_concat A with hA0 | ⟨A', y, hA'⟩
            · subst hA0
              obtain ⟨rfl, rfl⟩ := kL'
              cases B with
              | nil => exact absurd hl hnl
              | cons y B =>
                obtain ⟨_, _, E2, P2, EB', PB', ⟨rfl, rfl⟩, b2, b3, rfl, rfl⟩ := (Kids.focus (A := [])).1 (show Kids (Sub c'.N 1 h) (some y.key) y.at_ ([] ++ B) hi EB PB from kR')
                obtain ⟨z, Pz, z1, z2, z3, z4, rfl, z6⟩ := b2
                obtain ⟨m1, m2⟩ := hmid hl
                obtain ⟨c2, u2, j1, j2⟩ := join_ok (A := []) (B := B) (k := k) (F := Fn) (R := R) (P1 := Px) (P2 := Pz) (PA := []) (PB := PB') (EA := []) (EB := EB') (E1 := delE E0 key) (E2 := E2) (lo := lo) (hi := hi) (a := x) (b := z) hl hlf hok hsz ⟨rfl, rfl⟩ x1 x2 x3 x6 z1 z2 z3 z6 b3 (by omega) (by omega) m1 m2 (ha'.swap (by
                  rw [List.perm_iff_count]
                  intro a
                  simp only [List.count_append, List.count_cons, chOf, List.nil_append]
                  omega)) e0
                refine ⟨c2, u2, j1, fin ?_⟩
                have e : ([] : En) ++ (delE E0 key ++ ([] ++ (E2 ++ EB'))) = [] ++ ((delE E0 key ++ E2) ++ EB') := by simp
                rw [e]
                exact j2
            · rw [List.concat_eq_append] at hA'
              subst hA'
              obtain ⟨EA', PA', E1, P1, l1, l2, rfl, rfl⟩ := KidsL.snoc.1 kL'
              obtain ⟨z, Pz, z1, z2, z3, z4, rfl, z6⟩ := l2
              rw [chOf_snoc] at x1 ha'
              rw [loOf_snoc] at x6
              have hl' : n.l = A' ++ y :: B := by rw [hl]; simp
              obtain ⟨m1, m2⟩ := hmid hl'
              obtain ⟨c2, u2, j1, j2⟩ := join_ok (A := A') (B := B) (y := y) (k := k) (F := Fn) (R := R) (P1 := Pz) (P2 := Px) (PA := PA') (PB := PB) (EA := EA') (EB := EB) (E1 := E1) (E2 := delE E0 key) (lo := lo) (hi := hi) (a := z) (b := x) hl' hlf hok hsz l1 z1 z2 z3 z6 x1 x2 x3 x6 kR' (by omega) (by omega) m1 m2 (ha'.swap (by
                rw [List.perm_iff_count]
                intro a
                simp only [List.count_append, List.count_cons]
                omega)) e0
              refine ⟨c2, u2, by rw [show (A' ++ [y]).length - 1 = A'.length by simp]; exact j1, fin ?_⟩
              have e : (EA' ++ E1) ++ (delE E0 key ++ EB) = EA' ++ ((E1 ++ delE E0 key) ++ EB) := by simp
              rw [e]
              exact j2
        · rw [if_pos u0]
          have hu : u.2 < 65536 := by
            have := (ha'.mem (k := u.2) (.inl (List.mem_append_left _ (List.mem_append_right _ s2.head)))).2
            have := ha'.next2; have := ha'.few
            omega
          have hins : insAt n.l (n.way key) ⟨u.1, [], u.2⟩ = A ++ ⟨u.1, [], u.2⟩ :: B := by unfold insAt; rw [hAt, hBd]
          rw [hins]
          have hnf : NF c'.N (h + 1) { n with l := A ++ ⟨u.1, [], u.2⟩ :: B } lo hi (EA ++ (delE E0 key ++ EB)) (PA ++ ((P1 ++ P2) ++ PB)) := by
            refine ⟨hlf, ?_⟩
            rw [eE]
            exact Kids.focus2.2 ⟨EA, PA, E1, P1, E2, P2, EB, PB, kL', s1, s2, kR', rfl, rfl⟩
          have hsz' : Nd.size { n with l := A ++ ⟨u.1, [], u.2⟩ :: B } = n.size + (3 + u.1.length) := by
            rw [size_eq, size_eq, hl, sumB_append, sumB_append, sumB_cons]
            simp only [ibn, hlf, if_false, Bool.false_eq_true]
            omega
          have hlen := items_few hsz
          have hl2 := lay_ok (m := 0) hnf (R := R) (F := Fn) (k := k) (ha'.swap (by
            rw [List.perm_iff_count]
            intro a
            simp only [List.count_append, List.count_cons]
            omega)) e0 ⟨by
              show (A ++ ⟨u.1, [], u.2⟩ :: B).length < 65536
              have : n.l.length = A.length + B.length := by rw [hl, List.length_append]
              rw [List.length_append, List.length_cons]
              omega, fun y hy => by
              show y.ok n.lf
              rcases List.mem_append.1 hy with hy | hy
              · exact hok.item y (by rw [hl]; exact List.mem_append_left _ hy)
              · rcases List.mem_cons.1 hy with rfl | hy
                · exact ⟨u1, u2, Nat.zero_le _, hu, by rw [hlf]; rfl⟩
                · exact hok.item y (by rw [hl]; exact List.mem_append_right _ hy), hok.first, hok.bare⟩
            (by show _ ≤ if n.lf = true then 680 else 780; rw [if_neg (by rw [hlf]; decide), hsz']; omega) (Nat.zero_le _)
          exact ⟨_, _, rfl, fin hl2⟩
      · rw [if_neg (fun h => h u0), hn0]
        simp only
        rw [if_pos (.inl (by rw [e5]; decide))]
        exact ⟨c', ([], 0), rfl, sm, .inr ⟨e5, rfl, fun p hp => hR p (List.mem_append_right _ hp), ⟨n, by rw [hR k (List.mem_append_left _ (List.mem_cons_self ..))]; exact e1⟩, by
          have a1 := KidsL.count (fun c lo hi E P h => (Sub.count h).1) kL
          have a2 := KidsR.count (fun c lo hi E P h => (Sub.count h).1) kR
          have a3 : n.l.length = A.length + B.length := by rw [hl, List.length_append]
          simp only [List.length_append, List.length_cons] at hful ⊢
          omega⟩⟩
end
end Go.Proofs.YtpjbdpepofnleaaGreat
end
