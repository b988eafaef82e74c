/-
  Texts and their characters: plain. No program in sight.
-/
import Derived.Test.YtnhlgjjdpappkaaUa
namespace Go.Proofs.Ytnhlgjjdpappkaa
open Go.RowKit

theorem nextOf_ascii {b : UInt8} (h : b.toNat < 128) (bs : List UInt8) : nextOf (b :: bs) = some (b.toNat, 1) := by
  have all : ∀ b : Fin 256, b.val < 128 → (b.val &&& 128 == 0) = true := by decide +kernel
  have h0 : leadB 0 b = true := all ⟨b.toNat, b.toNat_lt⟩ h
  rw [nextOf, if_pos h0]
  unfold nextK headOf
  simp only [List.take_zero, tails, leadOf, Nat.sub_zero, leastOf]
  rw [if_neg]
  rintro (h | h)
  · omega
  · unfold soundB at h
    rw [decide_eq_false_iff_not] at h
    omega
theorem nextOf_app {a b : List UInt8} {x : Nat × Nat} (h : nextOf a = some x) : nextOf (a ++ b) = some x := by
  match a with
  | [] => cases h
  | b0 :: bs =>
    have hk : ∀ j, j ≤ bs.length → nextK j b0 (bs ++ b) = nextK j b0 bs := fun j hj => by unfold nextK; rw [List.take_append_of_le_length hj]
    have hl : bs.length ≤ (bs ++ b).length := by simp
    rw [List.cons_append]
    rw [nextOf] at h ⊢
    by_cases h0 : leadB 0 b0 = true
    · rw [if_pos h0] at h ⊢; rw [hk 0 (by omega)]; exact h
    · rw [if_neg h0] at h ⊢
      by_cases h1 : 1 ≤ bs.length ∧ leadB 1 b0 = true
      · rw [if_pos h1] at h; rw [if_pos ⟨by omega, h1.2⟩, hk 1 h1.1]; exact h
      · rw [if_neg h1] at h
        by_cases h2 : 2 ≤ bs.length ∧ leadB 2 b0 = true
        · rw [if_pos h2] at h
          rw [if_neg (fun hh => h1 ⟨by omega, hh.2⟩), if_pos ⟨by omega, h2.2⟩, hk 2 h2.1]; exact h
        · rw [if_neg h2] at h
          by_cases h3 : 3 ≤ bs.length ∧ leadB 3 b0 = true
          · rw [if_pos h3] at h
            rw [if_neg (fun hh => h1 ⟨by omega, hh.2⟩), if_neg (fun hh => h2 ⟨by omega, hh.2⟩), if_pos ⟨by omega, h3.2⟩, hk 3 h3.1]; exact h
          · rw [if_neg h3] at h; cases h
theorem tails_none : ∀ (l : List UInt8) (r : Nat) (c : UInt8), c ∈ l → contB c = false → tails r l = none
  | [], _, _, h, _ => by cases h
  | d :: l, r, c, h, hc => by
    unfold tails
    split
    · rename_i hd
      rcases List.mem_cons.1 h with rfl | h
      · rw [hc] at hd; cases hd
      · exact tails_none l _ c h hc
    · rfl
theorem nextOf_cut {a b : List UInt8} {c : UInt8} (h : nextOf a = none) (ha : a ≠ []) (hc : c.toNat < 128) : nextOf (a ++ c :: b) = none := by
  match a with
  | [] => exact absurd rfl ha
  | b0 :: bs =>
    have hcc : contB c = false := by unfold contB; rw [decide_eq_false_iff_not]; omega
    have h0 : ¬leadB 0 b0 = true := fun h0 => by
      have : b0.toNat < 128 := by
        have all : ∀ b : Fin 256, (b.val &&& 128 == 0) = true → b.val < 128 := by decide +kernel
        exact all ⟨b0.toNat, b0.toNat_lt⟩ h0
      rw [nextOf_ascii this] at h
      cases h
    have hk : ∀ j, (1 ≤ j ∧ j ≤ 3) → leadB j b0 = true → (j ≤ bs.length → nextK j b0 bs = none) → nextK j b0 (bs ++ c :: b) = none := fun j hj hl hn => by
      by_cases hb : j ≤ bs.length
      · have := hn hb
        unfold nextK at this ⊢
        rw [List.take_append_of_le_length hb]; exact this
      · unfold nextK
        rw [tails_none _ _ c ?_ hcc]
        rw [List.take_append, List.mem_append]
        right
        obtain ⟨m, hm⟩ : ∃ m, j - bs.length = m + 1 := ⟨j - bs.length - 1, by omega⟩
        rw [hm, List.take_succ_cons]; simp
    rw [List.cons_append]
    rw [nextOf] at h ⊢
    rw [if_neg h0] at h ⊢
    by_cases h1 : leadB 1 b0 = true
    · rw [if_pos ⟨by simp; omega, h1⟩]
      exact hk 1 (by omega) h1 fun hb => by rw [if_pos ⟨hb, h1⟩] at h; exact h
    · rw [if_neg (fun hh => h1 hh.2)] at h ⊢
      by_cases h2 : leadB 2 b0 = true
      · by_cases hl : 2 ≤ (bs ++ c :: b).length
        · rw [if_pos ⟨hl, h2⟩]
          exact hk 2 (by omega) h2 fun hb => by rw [if_pos ⟨hb, h2⟩] at h; exact h
        · rw [if_neg (fun hh => hl hh.1), if_neg (fun hh => by omega)]
      · rw [if_neg (fun hh => h2 hh.2)] at h ⊢
        by_cases h3 : leadB 3 b0 = true
        · by_cases hl : 3 ≤ (bs ++ c :: b).length
          · rw [if_pos ⟨hl, h3⟩]
            exact hk 3 (by omega) h3 fun hb => by rw [if_pos ⟨hb, h3⟩] at h; exact h
          · rw [if_neg (fun hh => hl hh.1)]
        · rw [if_neg (fun hh => h3 hh.2)]
theorem least_ge (j : Nat) (h : 1 ≤ j) : 128 ≤ leastOf j := by
  unfold leastOf
  split <;> omega
theorem nextOf_small {b : UInt8} {bs : List UInt8} {r k : Nat} (h : nextOf (b :: bs) = some (r, k)) (hr : r < 128) : k = 1 ∧ b.toNat = r := by
  have hK : ∀ j, 1 ≤ j → nextK j b bs ≠ some (r, k) := fun j hj he => by
    have hl := least_ge j hj
    unfold nextK at he
    split at he
    · cases he
    · split at he
      · cases he
      · rename_i h1
        simp only [Option.some.injEq, Prod.mk.injEq] at he
        obtain ⟨rfl, _⟩ := he
        exact h1 (.inl (by omega))
  by_cases hb : b.toNat < 128
  · rw [nextOf_ascii hb] at h
    simp only [Option.some.injEq, Prod.mk.injEq] at h
    exact ⟨h.2.symm, h.1⟩
  · have h0 : ¬leadB 0 b = true := fun h0 => by
      have all : ∀ b : Fin 256, (b.val &&& 128 == 0) = true → b.val < 128 := by decide +kernel
      exact hb (all ⟨b.toNat, b.toNat_lt⟩ h0)
    rw [nextOf, if_neg h0] at h
    split at h
    · exact absurd h (hK 1 (by omega))
    · split at h
      · exact absurd h (hK 2 (by omega))
      · split at h
        · exact absurd h (hK 3 (by omega))
        · cases h

theorem runesF_fuel : ∀ (n m : Nat) (l : List UInt8), l.length ≤ n → l.length ≤ m → runesF n l = runesF m l
  | 0, 0, _, _, _ => rfl
  | 0, m + 1, l, h, _ => by
    obtain rfl : l = [] := List.length_eq_zero_iff.1 (by omega)
    rfl
  | n + 1, 0, l, _, h => by
    obtain rfl : l = [] := List.length_eq_zero_iff.1 (by omega)
    rfl
  | n + 1, m + 1, [], _, _ => rfl
  | n + 1, m + 1, b :: bs, h1, h2 => by
    simp only [List.length_cons] at h1 h2
    unfold runesF
    split
    · rw [runesF_fuel n m bs (by omega) (by omega)]
    · rename_i r k hk
      have := (nextOf_pos hk).1
      rw [runesF_fuel n m _ (by simp; omega) (by simp; omega)]
theorem runesOf_nil : runesOf [] = [] := rfl
theorem runesOf_none {b : UInt8} {bs : List UInt8} (h : nextOf (b :: bs) = none) : runesOf (b :: bs) = ((2097152 + b.toNat : Nat) : Int) :: runesOf bs := by
  unfold runesOf
  rw [List.length_cons, runesF, h]
theorem runesOf_some {b : UInt8} {bs : List UInt8} {r k : Nat} (h : nextOf (b :: bs) = some (r, k)) : runesOf (b :: bs) = (r : Int) :: runesOf ((b :: bs).drop k) := by
  have := (nextOf_pos h).1
  unfold runesOf
  rw [List.length_cons, runesF, h]
  simp only
  rw [runesF_fuel _ _ _ (by simp; omega) (Nat.le_refl _)]
theorem runesOf_valid : ∀ (n : Nat) (a b : List UInt8), a.length ≤ n → (∀ c ∈ runesOf a, c < 2097152) → runesOf (a ++ b) = runesOf a ++ runesOf b
  | _, [], b, _, _ => rfl
  | 0, _ :: _, _, h, _ => by simp at h
  | n + 1, x :: a, b, h, hv => by
    cases hx : nextOf (x :: a) with
    | none => rw [runesOf_none hx] at hv; have := hv _ (List.mem_cons_self ..); omega
    | some y =>
      obtain ⟨r, k⟩ := y
      have hp := nextOf_pos hx
      rw [runesOf_some hx] at hv ⊢
      have h2 := nextOf_app (b := b) hx
      rw [List.cons_append] at h2 ⊢
      rw [runesOf_some h2, ← List.cons_append, List.drop_append_of_le_length hp.2.1, runesOf_valid n _ b (by simp at h ⊢; omega) (fun c hc => hv c (List.mem_cons_of_mem _ hc))]
      rfl
theorem runesOf_ahead : ∀ (n : Nat) (a b : List UInt8) (c : UInt8), a.length ≤ n → c.toNat < 128 → runesOf (a ++ c :: b) = runesOf a ++ runesOf (c :: b)
  | _, [], b, c, _, _ => rfl
  | 0, _ :: _, _, _, h, _ => by simp at h
  | n + 1, x :: a, b, c, h, hc => by
    cases hx : nextOf (x :: a) with
    | none =>
      have h2 := nextOf_cut (b := b) hx (by simp) hc
      rw [List.cons_append] at h2 ⊢
      rw [runesOf_none hx, runesOf_none h2, runesOf_ahead n a b c (by simp at h; omega) hc]
      rfl
    | some y =>
      obtain ⟨r, k⟩ := y
      have hp := nextOf_pos hx
      rw [runesOf_some hx]
      have h2 := nextOf_app (b := c :: b) hx
      rw [List.cons_append] at h2 ⊢
      rw [runesOf_some h2, ← List.cons_append, List.drop_append_of_le_length hp.2.1, runesOf_ahead n _ b c (by simp at h ⊢; omega) hc]
      rfl
/-- The characters of signs. -/
def asc (l : List UInt8) : List Int := l.map fun c => (c.toNat : Int)
theorem runesOf_cons {b : UInt8} (h : b.toNat < 128) (bs : List UInt8) : runesOf (b :: bs) = (b.toNat : Int) :: runesOf bs := by
  rw [runesOf_some (nextOf_ascii h bs)]; rfl
theorem runesOf_asc : ∀ (a b : List UInt8), (∀ c ∈ a, c.toNat < 128) → runesOf (a ++ b) = asc a ++ runesOf b
  | [], b, _ => rfl
  | x :: a, b, h => by
    rw [List.cons_append, runesOf_cons (h x (List.mem_cons_self ..)), runesOf_asc a b (fun c hc => h c (List.mem_cons_of_mem _ hc))]
    rfl
theorem runesOf_asc0 (a : List UInt8) (h : ∀ c ∈ a, c.toNat < 128) : runesOf a = asc a := by
  have := runesOf_asc a [] h
  simpa [runesOf_nil] using this
theorem runesOf_inj : ∀ (t u : List UInt8), (∀ c ∈ t, c.toNat < 128) → runesOf u = asc t → u = t
  | [], u, _, h => by
    cases u with
    | nil => rfl
    | cons b bs =>
      exfalso
      cases hx : nextOf (b :: bs) with
      | none => rw [runesOf_none hx] at h; cases h
      | some y => rw [runesOf_some hx] at h; cases h
  | c :: t, u, ht, h => by
    have hc := ht c (List.mem_cons_self ..)
    have h : runesOf u = (c.toNat : Int) :: asc t := h
    cases u with
    | nil => cases h
    | cons b bs =>
      cases hx : nextOf (b :: bs) with
      | none =>
        rw [runesOf_none hx] at h
        injection h with h1 _
        omega
      | some y =>
        obtain ⟨r, k⟩ := y
        rw [runesOf_some hx] at h
        injection h with h1 h2
        have h3 : r = c.toNat := by omega
        obtain ⟨rfl, h4⟩ := nextOf_small hx (by omega)
        have h5 : b = c := UInt8.toNat.inj (by omega)
        subst h5
        rw [runesOf_inj t bs (fun c hc => ht c (List.mem_cons_of_mem _ hc)) h2]
theorem runesOf_back (u t : List UInt8) (ht : ∀ c ∈ t, c.toNat < 128) (h0 : t ≠ []) : runesOf (u ++ t ++ u) = runesOf u ++ asc t ++ runesOf u := by
  cases t with
  | nil => exact absurd rfl h0
  | cons c t =>
    rw [List.append_assoc, List.cons_append, runesOf_ahead _ u _ c (Nat.le_refl _) (ht c (List.mem_cons_self ..)), ← List.cons_append, runesOf_asc _ _ ht, List.append_assoc]

end Go.Proofs.Ytnhlgjjdpappkaa
