/-
  Parts that the parser makes: their numbers are small; how long their programs are. No program in sight.
-/
import Derived.Test.YtnhlgjjdpappkaaRn
namespace Go.Proofs.Ytnhlgjjdpappkaa
open Go.RowKit

mutual
def Pt.ok : Pt → Prop
  | .char _ set => set.length ≤ 1000
  | .row l => l.length ≤ 1000 ∧ allOk l
  | .pick l => 1 ≤ l.length ∧ l.length ≤ 1001 ∧ allOk l
  | .star p => p.ok ∧ 1 ≤ p.size
  | .plus p => p.ok ∧ 1 ≤ p.size
  | .maybe p => p.ok ∧ 1 ≤ p.size
  | .times p n none => p.ok ∧ 1 ≤ p.size ∧ n ≤ 99
  | .times p n (some m) => p.ok ∧ 1 ≤ p.size ∧ n ≤ m ∧ m ≤ 99
def allOk : List Pt → Prop
  | [] => True
  | p :: l => p.ok ∧ allOk l
end
theorem allOk_append : ∀ {a b : List Pt}, allOk a → allOk b → allOk (a ++ b)
  | [], _, _, hb => hb
  | _ :: _, _, ha, hb => ⟨ha.1, allOk_append ha.2 hb⟩
theorem allOk_get : ∀ {l : List Pt} {i : Nat} {p : Pt}, allOk l → l[i]? = some p → p.ok
  | [], _, _, _, h => by simp at h
  | q :: l, 0, p, ho, h => by simp at h; exact h ▸ ho.1
  | q :: l, i + 1, p, ho, h => allOk_get (i := i) ho.2 (by simpa using h)

theorem RS.items_few : ∀ (n : Nat) {b : Bool} {s : RS} {x : List Sp} {s' : RS}, RS.items n b s = some (x, s') → x.length ≤ n
  | 0, _, _, _, _, h => by cases h
  | n + 1, b, s, x, s', h => by
    unfold RS.items at h
    split at h
    · simp only [Option.some.injEq, Prod.mk.injEq] at h; obtain ⟨rfl, _⟩ := h; simp
    · split at h
      · cases h
      · obtain ⟨⟨xs, s2⟩, h2, h3⟩ := Option.map_eq_some_iff.1 h
        simp only [Prod.mk.injEq] at h3
        obtain ⟨rfl, _⟩ := h3
        have := RS.items_few n h2
        simp only [List.length_cons]
        omega
/-- An atom: a set or a pattern in parentheses. -/
def Pt.atomic : Pt → Prop
  | .char _ _ => True
  | .pick _ => True
  | _ => False
theorem Pt.atomic_size {p : Pt} (h : p.atomic) (ho : p.ok) : 1 ≤ p.size := by
  cases p with
  | char b s => simp [Pt.size]
  | pick l => unfold Pt.ok at ho; rw [Pt.size]; omega
  | row l => exact h.elim
  | star p => exact h.elim
  | plus p => exact h.elim
  | maybe p => exact h.elim
  | times p n m => exact h.elim
theorem RS.times_ok {a : Pt} {s s' : RS} {p : Pt} (h : s.times a = some (p, s')) (ha : a.ok) (h1 : 1 ≤ a.size) : p.ok := by
  unfold RS.times at h
  split at h
  · cases h
  · rename_i n s1 hn
    have h99 := (RS.number_len hn).2
    split at h
    · cases h
    · rename_i hi s2 hu
      have hu' := (RS.upper_len hu).2 h99
      split at h
      · simp only [Option.some.injEq, Prod.mk.injEq] at h
        obtain ⟨rfl, _⟩ := h
        cases hi with
        | none => exact ⟨ha, h1, h99⟩
        | some m => have := hu' m rfl; exact ⟨ha, h1, this.2, this.1⟩
      · cases h

section
variable {pat : RS → Option (Pt × RS)} (hext : ∀ s p s', pat s = some (p, s') → Ext s s') (hpat : ∀ s p s', s.ok → pat s = some (p, s') → p.ok ∧ p.atomic)
include hext hpat
omit hext in
theorem RS.atom_ok {s : RS} {p : Pt} {s' : RS} (hs : s.ok) (h : s.atom pat = some (p, s')) : p.ok ∧ p.atomic := by
  unfold RS.atom at h
  split at h
  · cases h
  · rename_i c s1 h1
    have e := Ext.take h1
    have hl := (RS.take_len h1).1
    split at h
    · simp only [Option.some.injEq, Prod.mk.injEq] at h; obtain ⟨rfl, _⟩ := h; exact ⟨by unfold dotPt Pt.ok; decide, trivial⟩
    · split at h
      · obtain ⟨⟨x, s2⟩, h2, h3⟩ := Option.map_eq_some_iff.1 h
        simp only [Prod.mk.injEq] at h3
        obtain ⟨rfl, _⟩ := h3
        exact ⟨by unfold charPt Pt.ok; simp, trivial⟩
      · split at h
        · unfold RS.class_ at h
          obtain ⟨⟨x, s2⟩, h2, h3⟩ := Option.map_eq_some_iff.1 h
          simp only [Prod.mk.injEq] at h3
          obtain ⟨rfl, _⟩ := h3
          have h4 := RS.items_few _ h2
          have h5 := hs.room
          exact ⟨by unfold Pt.ok; omega, trivial⟩
        · split at h
          · unfold RS.group at h
            split at h
            · cases h
            · rename_i p1 s2 h2
              split at h
              · simp only [Option.some.injEq, Prod.mk.injEq] at h
                obtain ⟨rfl, _⟩ := h
                have hok1 := e.ok hs
                refine hpat s1.down _ _ (RS.ok.mk hok1.pos ?_ ?_) h2
                · have := hs.room; have := e.deep; simp only [RS.down]; omega
                · have := hs.room; have := hok1.most; have := e.deep; simp only [RS.down]; omega
              · cases h
          · split at h
            · cases h
            · simp only [Option.some.injEq, Prod.mk.injEq] at h; obtain ⟨rfl, _⟩ := h; exact ⟨by unfold charPt Pt.ok; simp, trivial⟩
omit hext in
theorem RS.piece_ok {s : RS} {p : Pt} {s' : RS} (hs : s.ok) (h : s.piece pat = some (p, s')) : p.ok := by
  unfold RS.piece at h
  split at h
  · cases h
  · rename_i a s1 h1
    obtain ⟨h2, h3⟩ := RS.atom_ok hpat hs h1
    have h4 := Pt.atomic_size h3 h2
    split at h
    · simp only [Option.some.injEq, Prod.mk.injEq] at h; obtain ⟨rfl, _⟩ := h; exact ⟨h2, h4⟩
    · split at h
      · simp only [Option.some.injEq, Prod.mk.injEq] at h; obtain ⟨rfl, _⟩ := h; exact ⟨h2, h4⟩
      · split at h
        · simp only [Option.some.injEq, Prod.mk.injEq] at h; obtain ⟨rfl, _⟩ := h; exact ⟨h2, h4⟩
        · split at h
          · exact RS.times_ok h h2 h4
          · simp only [Option.some.injEq, Prod.mk.injEq] at h; obtain ⟨rfl, _⟩ := h; exact h2
theorem RS.pieces_ok : ∀ (n : Nat) {s : RS} {x : List Pt} {s' : RS}, s.ok → RS.pieces pat n s = some (x, s') → allOk x ∧ x.length + s'.l.length ≤ s.l.length
  | 0, _, _, _, _, h => by cases h
  | n + 1, s, x, s', hs, h => by
    unfold RS.pieces at h
    split at h
    · split at h
      · cases h
      · rename_i y s1 h1
        obtain ⟨⟨xs, s2⟩, h2, h3⟩ := Option.map_eq_some_iff.1 h
        simp only [Prod.mk.injEq] at h3
        obtain ⟨rfl, rfl⟩ := h3
        obtain ⟨e1, e2⟩ := Ext.piece hext h1
        obtain ⟨h4, h5⟩ := RS.pieces_ok n (e1.ok hs) h2
        exact ⟨⟨RS.piece_ok hpat hs h1, h4⟩, by simp only [List.length_cons]; omega⟩
    · simp only [Option.some.injEq, Prod.mk.injEq] at h; obtain ⟨rfl, rfl⟩ := h
      exact ⟨trivial, by simp⟩
theorem RS.branches_ok : ∀ (n : Nat) {s : RS} {x : List Pt} {s' : RS}, s.ok → RS.branches pat n s = some (x, s') → allOk x ∧ 1 ≤ x.length ∧ x.length ≤ s.l.length + 1
  | 0, _, _, _, _, h => by cases h
  | n + 1, s, x, s', hs, h => by
    unfold RS.branches at h
    split at h
    · cases h
    · rename_i y s1 h1
      have e := Ext.pieces hext _ h1
      obtain ⟨h4, h5⟩ := RS.pieces_ok hext hpat _ hs h1
      have hrow : (Pt.row y).ok := ⟨by have := hs.room; omega, h4⟩
      split at h
      · rename_i hb
        obtain ⟨⟨xs, s2⟩, h2, h3⟩ := Option.map_eq_some_iff.1 h
        simp only [Prod.mk.injEq] at h3
        obtain ⟨rfl, rfl⟩ := h3
        have hp := RS.peek_pos hb (by omega)
        obtain ⟨h6, h7, h8⟩ := RS.branches_ok n ((Ext.next s1).ok (e.ok hs)) h2
        rw [RS.next_len] at h8
        have := e.len
        exact ⟨⟨hrow, h6⟩, by simp, by simp only [List.length_cons]; omega⟩
      · simp only [Option.some.injEq, Prod.mk.injEq] at h; obtain ⟨rfl, rfl⟩ := h
        exact ⟨⟨hrow, trivial⟩, by simp, by simp⟩
end
theorem RS.pattern_ok : ∀ (n : Nat) (s : RS) (p : Pt) (s' : RS), s.ok → RS.pattern n s = some (p, s') → p.ok ∧ p.atomic
  | 0, _, _, _, _, h => by cases h
  | n + 1, s, p, s', hs, h => by
    unfold RS.pattern at h
    obtain ⟨⟨xs, s2⟩, h2, h3⟩ := Option.map_eq_some_iff.1 h
    simp only [Prod.mk.injEq] at h3
    obtain ⟨rfl, rfl⟩ := h3
    obtain ⟨h4, h5, h6⟩ := RS.branches_ok (Ext.pattern n) (RS.pattern_ok n) _ hs h2
    have := hs.room
    exact ⟨⟨h5, by omega, h4⟩, trivial⟩

/-! ### Sizes and lengths -/
theorem sizes_le : ∀ (l : List Pt) (n : Nat), n ≤ 1000000 → sizes l n ≤ 1000000
  | [], n, h => h
  | p :: l, n, h => by rw [sizes]; exact sizes_le l _ (by omega)
theorem sizes_ge : ∀ (l : List Pt) (n : Nat), n ≤ 1000000 → n ≤ sizes l n
  | [], n, _ => Nat.le_refl _
  | p :: l, n, h => by rw [sizes]; exact Nat.le_trans (by omega) (sizes_ge l _ (by omega))
theorem sizes_append : ∀ (a b : List Pt) (n : Nat), sizes (a ++ b) n = sizes b (sizes a n)
  | [], _, _ => rfl
  | p :: a, b, n => by rw [List.cons_append, sizes, sizes, sizes_append a b]
mutual
theorem Pt.len_le : ∀ (p : Pt), p.ok → p.size < 1000000 → p.len ≤ 2 * p.size ∧ (1 ≤ p.size → p.len + 1 ≤ 2 * p.size)
  | .char b s, _, _ => by simp [Pt.len, Pt.size]
  | .row l, ho, hs => by
    rw [Pt.size] at hs ⊢
    rw [Pt.len]
    unfold Pt.ok at ho
    have := rowLen_le l 0 ho.2 (by omega) hs
    omega
  | .pick l, ho, hs => by
    rw [Pt.size] at hs ⊢
    rw [Pt.len]
    unfold Pt.ok at ho
    have := pickLen_le l 0 ho.2.2 (by omega) (by omega)
    omega
  | .star p, ho, hs => by
    rw [Pt.size] at hs ⊢
    rw [Pt.len]
    have := Pt.len_le p ho.1 (by omega)
    have := ho.2
    omega
  | .plus p, ho, hs => by
    rw [Pt.size] at hs ⊢
    rw [Pt.len]
    have := Pt.len_le p ho.1 (by omega)
    have := ho.2
    omega
  | .maybe p, ho, hs => by
    rw [Pt.size] at hs ⊢
    rw [Pt.len]
    have := Pt.len_le p ho.1 (by omega)
    have := ho.2
    omega
  | .times p n none, ho, hs => by
    rw [Pt.size] at hs ⊢
    rw [Pt.len]
    have h1 := ho.2.1
    have hsm : min (0 + p.size) 1000000 * 1 ≤ min (0 + p.size) 1000000 * (n + 1) := Nat.mul_le_mul_left _ (by omega)
    have hp : p.size < 1000000 := by omega
    have := Pt.len_le p ho.1 hp
    have e : min (0 + p.size) 1000000 = p.size := by omega
    rw [e] at hs ⊢
    have h2 : n * p.len ≤ n * (2 * p.size) := Nat.mul_le_mul_left _ this.1
    have h3 : p.size * (n + 1) = n * p.size + p.size := by rw [Nat.mul_succ, Nat.mul_comm]
    have h4 : n * (2 * p.size) = 2 * (n * p.size) := by rw [← Nat.mul_assoc, Nat.mul_comm n 2, Nat.mul_assoc]
    omega
  | .times p n (some m), ho, hs => by
    rw [Pt.size] at hs ⊢
    rw [Pt.len]
    have h1 := ho.2.1
    have hnm := ho.2.2.1
    by_cases hm0 : m = 0
    · subst hm0
      have : n = 0 := by omega
      subst this
      simp
    · have hsm : min (0 + p.size) 1000000 * 1 ≤ min (0 + p.size) 1000000 * m := Nat.mul_le_mul_left _ (by omega)
      have hp : p.size < 1000000 := by omega
      have hl := Pt.len_le p ho.1 hp
      have e : min (0 + p.size) 1000000 = p.size := by omega
      rw [e] at hs ⊢
      have h2 : n * p.len ≤ n * (2 * p.size) := Nat.mul_le_mul_left _ hl.1
      have h3 : (m - n) * (1 + p.len) ≤ (m - n) * (2 * p.size) := Nat.mul_le_mul_left _ (by have := hl.2 h1; omega)
      have h5 : n * (2 * p.size) + (m - n) * (2 * p.size) = m * (2 * p.size) := by rw [← Nat.add_mul]; congr 1; omega
      have h4 : m * (2 * p.size) = 2 * (p.size * m) := by rw [← Nat.mul_assoc, Nat.mul_comm m 2, Nat.mul_assoc, Nat.mul_comm m]
      omega
theorem rowLen_le : ∀ (l : List Pt) (n : Nat), allOk l → n ≤ 1000000 → sizes l n < 1000000 → rowLen l + 2 * n ≤ 2 * sizes l n ∧ (1 ≤ sizes l n → n = 0 → rowLen l + 1 ≤ 2 * sizes l n)
  | [], n, _, _, _ => by rw [rowLen, sizes]; omega
  | p :: l, n, ho, hn, hs => by
    rw [sizes] at hs ⊢
    rw [rowLen]
    have hg := sizes_ge l (min (n + p.size) 1000000) (by omega)
    have h1 := Pt.len_le p ho.1 (by omega)
    have h2 := rowLen_le l _ ho.2 (by omega) hs
    have e : min (n + p.size) 1000000 = n + p.size := by omega
    rw [e] at h2 hg ⊢
    refine ⟨by omega, fun a b => ?_⟩
    by_cases hp : 1 ≤ p.size
    · have := h1.2 hp; omega
    · have h3 := h2.2 a (by omega); omega
theorem pickLen_le : ∀ (l : List Pt) (n : Nat), allOk l → n ≤ 1000000 → sizes l n < 1000000 → pickLen l + 2 * n ≤ 2 * sizes l n + 2 * (l.length - 1)
  | [], n, _, _, _ => by rw [pickLen, sizes]; omega
  | p :: l, n, ho, hn, hs => by
    rw [sizes] at hs ⊢
    rw [pickLen]
    have hg := sizes_ge l (min (n + p.size) 1000000) (by omega)
    have h1 := Pt.len_le p ho.1 (by omega)
    have h2 := pickLen_le l _ ho.2 (by omega) hs
    have e : min (n + p.size) 1000000 = n + p.size := by omega
    rw [e] at h2 hg ⊢
    split
    · rename_i hl
      omega
    · rename_i hl
      have : l ≠ [] := by intro h; subst h; simp at hl
      have : 0 < l.length := List.length_pos_iff.2 this
      simp only [List.length_cons]
      omega
end

end Go.Proofs.Ytnhlgjjdpappkaa
