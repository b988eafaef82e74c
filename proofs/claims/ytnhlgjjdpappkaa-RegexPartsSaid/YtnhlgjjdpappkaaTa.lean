/-
  What a pattern's program takes is the pattern's language: plain. No program in sight.
-/
import Derived.Test.YtnhlgjjdpappkaaSc
import Derived.Test.YtnhlgjjdpappkaaSa
namespace Go.Proofs.Ytnhlgjjdpappkaa
open Go.RowKit

def TakesAt (ops : List Rop) (i : Nat) (c : Int) : Prop := ∃ neg set, ops[i]? = some (.take neg set) ∧ hasB neg set c = true
/-- A run of so many steps over a text. -/
inductive RunN (ops : List Rop) : Nat → Nat → List Int → Nat → Prop
  | nil (i : Nat) : RunN ops 0 i [] i
  | eps {n i j k : Nat} {l : List Int} (h : Succ ops i j) (h' : RunN ops n j l k) : RunN ops (n + 1) i l k
  | char {n i k : Nat} {c : Int} {l : List Int} (h : TakesAt ops i c) (h' : RunN ops n (i + 1) l k) : RunN ops (n + 1) i (c :: l) k
def Run (ops : List Rop) (i : Nat) (l : List Int) (k : Nat) : Prop := ∃ n, RunN ops n i l k
theorem Run.nil {ops : List Rop} (i : Nat) : Run ops i [] i := ⟨0, .nil i⟩
theorem Run.eps {ops : List Rop} {i j k : Nat} {l : List Int} (h : Succ ops i j) (h' : Run ops j l k) : Run ops i l k := h'.elim fun n h1 => ⟨n + 1, .eps h h1⟩
theorem Run.char {ops : List Rop} {i k : Nat} {c : Int} {l : List Int} (h : TakesAt ops i c) (h' : Run ops (i + 1) l k) : Run ops i (c :: l) k := h'.elim fun n h1 => ⟨n + 1, .char h h1⟩
theorem RunN.append {ops : List Rop} {n i j k : Nat} {a b : List Int} (h : RunN ops n i a j) (h' : Run ops j b k) : Run ops i (a ++ b) k := by
  induction h with
  | nil => exact h'
  | eps h1 _ ih => exact .eps h1 (ih h')
  | char h1 _ ih => exact .char h1 (ih h')
theorem Run.append {ops : List Rop} {i j k : Nat} {a b : List Int} (h : Run ops i a j) (h' : Run ops j b k) : Run ops i (a ++ b) k := h.elim fun _ h1 => h1.append h'
theorem Eps.run {ops : List Rop} {i j k : Nat} {l : List Int} (h : Eps ops i j) (h' : Run ops j l k) : Run ops i l k := by
  induction h with
  | refl => exact h'
  | step h1 _ ih => exact .eps h1 (ih h')

/-! ### Languages -/
def Cat (A B : List Int → Prop) (l : List Int) : Prop := ∃ a b, l = a ++ b ∧ A a ∧ B b
inductive Star (A : List Int → Prop) : List Int → Prop
  | nil : Star A []
  | cons {a b : List Int} (h : A a) (h' : Star A b) : Star A (a ++ b)
def Pow (A : List Int → Prop) : Nat → List Int → Prop
  | 0, l => l = []
  | n + 1, l => Cat A (Pow A n) l
def Upto (A : List Int → Prop) : Nat → List Int → Prop
  | 0, l => l = []
  | n + 1, l => l = [] ∨ Cat A (Upto A n) l
mutual
def Lang : Pt → List Int → Prop
  | .char neg set, l => ∃ c, l = [c] ∧ hasB neg set c = true
  | .row x, l => LangRow x l
  | .pick x, l => LangPick x l
  | .star p, l => Star (Lang p) l
  | .plus p, l => Cat (Lang p) (Star (Lang p)) l
  | .maybe p, l => Upto (Lang p) 1 l
  | .times p n none, l => Cat (Pow (Lang p) n) (Star (Lang p)) l
  | .times p n (some m), l => Cat (Pow (Lang p) n) (Upto (Lang p) (m - n)) l
def LangRow : List Pt → List Int → Prop
  | [], l => l = []
  | p :: x, l => Cat (Lang p) (LangRow x) l
def LangPick : List Pt → List Int → Prop
  | [], _ => False
  | p :: x, l => Lang p l ∨ LangPick x l
end

/-! ### Pieces of a program -/
structure Frag (ops : List Rop) (M b e : Nat) (L : List Int → Prop) : Prop where
  le : b ≤ e
  comp : ∀ l, L l → Run ops b l e
  sound : ∀ n k l, ¬(b ≤ k ∧ k < e) → RunN ops n b l k → ∃ l1 l2 m, m ≤ n ∧ l = l1 ++ l2 ∧ L l1 ∧ RunN ops m e l2 k
  jump : ∀ i j, b ≤ i → i < e → Succ ops i j → j ≤ e
  few : ∀ i neg set, b ≤ i → i < e → ops[i]? = some (.take neg set) → set.length ≤ M

theorem Frag.nil {ops : List Rop} {M b : Nat} : Frag ops M b b (fun l => l = []) :=
  ⟨Nat.le_refl _, fun l h => h ▸ .nil b, fun n k l _ h => ⟨[], l, n, Nat.le_refl _, rfl, rfl, h⟩, fun i j h1 h2 => by omega, fun i _ _ h1 h2 => by omega⟩
theorem Frag.cong {ops : List Rop} {M b e : Nat} {L L' : List Int → Prop} (h : Frag ops M b e L) (hl : ∀ l, L' l ↔ L l) : Frag ops M b e L' :=
  ⟨h.le, fun l hx => h.comp l ((hl l).1 hx), fun n k l hk hr => by
    obtain ⟨l1, l2, m, h1, h2, h3, h4⟩ := h.sound n k l hk hr
    exact ⟨l1, l2, m, h1, h2, (hl l1).2 h3, h4⟩, h.jump, h.few⟩
theorem succ_fork {ops : List Rop} {i t : Nat} (h : ops[i]? = some (.fork t)) (j : Nat) : Succ ops i j ↔ j = t ∨ j = i + 1 := by unfold Succ; rw [h]
theorem succ_leap {ops : List Rop} {i t : Nat} (h : ops[i]? = some (.leap t)) (j : Nat) : Succ ops i j ↔ j = t := by unfold Succ; rw [h]
theorem succ_take {ops : List Rop} {i : Nat} {neg : Bool} {set : List Sp} (h : ops[i]? = some (.take neg set)) (j : Nat) : ¬Succ ops i j := by unfold Succ; rw [h]; exact id
theorem succ_done {ops : List Rop} {i : Nat} (h : ops[i]? = some .done) (j : Nat) : ¬Succ ops i j := by unfold Succ; rw [h]; exact id
theorem takes_not {ops : List Rop} {i : Nat} {o : Rop} (h : ops[i]? = some o) (ho : ∀ neg set, o ≠ .take neg set) (c : Int) : ¬TakesAt ops i c := by
  rintro ⟨neg, set, h1, _⟩
  rw [h] at h1
  exact ho neg set (Option.some.inj h1)
/-- A step off a fork, off a leap, off a character. -/
theorem RunN.fork {ops : List Rop} {n i t k : Nat} {l : List Int} (h : ops[i]? = some (.fork t)) (hk : k ≠ i) (hr : RunN ops n i l k) : ∃ m, n = m + 1 ∧ (RunN ops m t l k ∨ RunN ops m (i + 1) l k) := by
  cases hr with
  | nil => exact absurd rfl hk
  | eps h1 h2 =>
    rcases (succ_fork h _).1 h1 with rfl | rfl
    · exact ⟨_, rfl, .inl h2⟩
    · exact ⟨_, rfl, .inr h2⟩
  | char h1 _ => exact absurd h1 (takes_not h (by intro _ _ h; cases h) _)
theorem RunN.leap {ops : List Rop} {n i t k : Nat} {l : List Int} (h : ops[i]? = some (.leap t)) (hk : k ≠ i) (hr : RunN ops n i l k) : ∃ m, n = m + 1 ∧ RunN ops m t l k := by
  cases hr with
  | nil => exact absurd rfl hk
  | eps h1 h2 => have := (succ_leap h _).1 h1; subst this; exact ⟨_, rfl, h2⟩
  | char h1 _ => exact absurd h1 (takes_not h (by intro _ _ h; cases h) _)
theorem RunN.done {ops : List Rop} {n i k : Nat} {l : List Int} (h : ops[i]? = some .done) (hr : RunN ops n i l k) : l = [] ∧ k = i := by
  cases hr with
  | nil => exact ⟨rfl, rfl⟩
  | eps h1 _ => exact absurd h1 (succ_done h _)
  | char h1 _ => exact absurd h1 (takes_not h (by intro _ _ h; cases h) _)

theorem Frag.char {ops : List Rop} {M b : Nat} {neg : Bool} {set : List Sp} (h : ops[b]? = some (.take neg set)) (hm : set.length ≤ M) : Frag ops M b (b + 1) (fun l => ∃ c, l = [c] ∧ hasB neg set c = true) := by
  refine ⟨by omega, ?_, fun n k l hk hr => ?_, fun i j h1 h2 h3 => ?_, fun i neg' set' h1 h2 h3 => ?_⟩
  · rintro l ⟨c, rfl, hc⟩
    exact .char ⟨neg, set, h, hc⟩ (.nil _)
  · cases hr with
    | nil => omega
    | eps h1 _ => exact absurd h1 (succ_take h _)
    | char h1 h2 =>
      rename_i m c l
      obtain ⟨neg', set', h3, h4⟩ := h1
      rw [h] at h3
      cases h3
      exact ⟨[c], l, m, by omega, rfl, ⟨c, rfl, h4⟩, h2⟩
  · have : i = b := by omega
    subst this
    exact absurd h3 (succ_take h _)
  · have : i = b := by omega
    subst this
    rw [h] at h3
    cases h3
    exact hm
theorem Frag.seq {ops : List Rop} {M b m e : Nat} {A B : List Int → Prop} (ha : Frag ops M b m A) (hb : Frag ops M m e B) : Frag ops M b e (Cat A B) := by
  have h1 := ha.le; have h2 := hb.le
  refine ⟨by omega, ?_, fun n k l hk hr => ?_, fun i j hi hi' hs => ?_, fun i neg set hi hi' hs => ?_⟩
  · rintro l ⟨x, y, rfl, hx, hy⟩
    exact (ha.comp x hx).append (hb.comp y hy)
  · obtain ⟨l1, l2, n1, hn1, rfl, hl1, hr1⟩ := ha.sound n k l (by omega) hr
    obtain ⟨l3, l4, n2, hn2, rfl, hl3, hr2⟩ := hb.sound n1 k l2 (by omega) hr1
    exact ⟨l1 ++ l3, l4, n2, by omega, by simp, ⟨l1, l3, rfl, hl1, hl3⟩, hr2⟩
  · by_cases h : i < m
    · have := ha.jump i j hi h hs; omega
    · exact hb.jump i j (by omega) hi' hs
  · by_cases h : i < m
    · exact ha.few i neg set hi h hs
    · exact hb.few i neg set (by omega) hi' hs
theorem Frag.star {ops : List Rop} {M b m : Nat} {A : List Int → Prop} (hf : ops[b]? = some (.fork (m + 1))) (ha : Frag ops M (b + 1) m A) (hl : ops[m]? = some (.leap b)) : Frag ops M b (m + 1) (Star A) := by
  have h1 := ha.le
  refine ⟨by omega, ?_, ?_, fun i j hi hi' hs => ?_, fun i neg set hi hi' hs => ?_⟩
  · intro l h
    induction h with
    | nil => exact .eps ((succ_fork hf _).2 (.inl rfl)) (.nil _)
    | cons h _ ih => exact .eps ((succ_fork hf _).2 (.inr rfl)) ((ha.comp _ h).append (.eps ((succ_leap hl _).2 rfl) ih))
  · intro n
    induction n using Nat.strongRecOn with
    | _ n ih =>
      intro k l hk hr
      obtain ⟨n1, rfl, hr1 | hr1⟩ := hr.fork hf (by omega)
      · exact ⟨[], l, n1, by omega, rfl, .nil, hr1⟩
      · obtain ⟨l1, l2, n2, hn2, rfl, hl1, hr2⟩ := ha.sound _ _ _ (by omega) hr1
        obtain ⟨n3, rfl, hr3⟩ := hr2.leap hl (by omega)
        obtain ⟨l3, l4, n4, hn4, rfl, hl3, hr4⟩ := ih n3 (by omega) k l2 hk hr3
        exact ⟨l1 ++ l3, l4, n4, by omega, by simp, .cons hl1 hl3, hr4⟩
  · by_cases hb : i = b
    · subst hb; have := (succ_fork hf _).1 hs; omega
    · by_cases hm : i = m
      · subst hm; have := (succ_leap hl _).1 hs; omega
      · have := ha.jump i j (by omega) (by omega) hs; omega
  · by_cases hb : i = b
    · subst hb; rw [hf] at hs; cases hs
    · by_cases hm : i = m
      · subst hm; rw [hl] at hs; cases hs
      · exact ha.few i neg set (by omega) (by omega) hs
theorem Frag.plus {ops : List Rop} {M b m : Nat} {A : List Int → Prop} (ha : Frag ops M b m A) (hf : ops[m]? = some (.fork b)) : Frag ops M b (m + 1) (Cat A (Star A)) := by
  have h1 := ha.le
  refine ⟨by omega, ?_, ?_, fun i j hi hi' hs => ?_, fun i neg set hi hi' hs => ?_⟩
  · rintro l ⟨x, y, rfl, hx, hy⟩
    have : ∀ y, Star A y → Run ops m y (m + 1) := fun y hy => by
      induction hy with
      | nil => exact .eps ((succ_fork hf _).2 (.inr rfl)) (.nil _)
      | cons h _ ih => exact .eps ((succ_fork hf _).2 (.inl rfl)) ((ha.comp _ h).append ih)
    exact (ha.comp x hx).append (this y hy)
  · intro n
    induction n using Nat.strongRecOn with
    | _ n ih =>
      intro k l hk hr
      obtain ⟨l1, l2, n1, hn1, rfl, hl1, hr1⟩ := ha.sound _ _ _ (by omega) hr
      obtain ⟨n2, rfl, hr2 | hr2⟩ := hr1.fork hf (by omega)
      · obtain ⟨l3, l4, n3, hn3, rfl, ⟨x, y, rfl, hx, hy⟩, hr3⟩ := ih n2 (by omega) k l2 hk hr2
        exact ⟨l1 ++ (x ++ y), l4, n3, by omega, by simp, ⟨l1, _, rfl, hl1, .cons hx hy⟩, hr3⟩
      · exact ⟨l1, l2, n2, by omega, rfl, ⟨l1, [], by simp, hl1, .nil⟩, hr2⟩
  · by_cases hm : i = m
    · subst hm; have := (succ_fork hf _).1 hs; omega
    · have := ha.jump i j (by omega) (by omega) hs; omega
  · by_cases hm : i = m
    · subst hm; rw [hf] at hs; cases hs
    · exact ha.few i neg set (by omega) (by omega) hs
theorem Frag.may {ops : List Rop} {M b m e : Nat} {A B : List Int → Prop} (hf : ops[b]? = some (.fork e)) (ha : Frag ops M (b + 1) m A) (hb : Frag ops M m e B) : Frag ops M b e (fun l => l = [] ∨ Cat A B l) := by
  have hs := ha.seq hb
  have h1 := hs.le
  refine ⟨by omega, ?_, fun n k l hk hr => ?_, fun i j hi hi' hs' => ?_, fun i neg set hi hi' hs' => ?_⟩
  · rintro l (rfl | h)
    · exact .eps ((succ_fork hf _).2 (.inl rfl)) (.nil _)
    · exact .eps ((succ_fork hf _).2 (.inr rfl)) (hs.comp l h)
  · obtain ⟨n1, rfl, hr1 | hr1⟩ := hr.fork hf (by omega)
    · exact ⟨[], l, n1, by omega, rfl, .inl rfl, hr1⟩
    · obtain ⟨l1, l2, n2, hn2, rfl, hl1, hr2⟩ := hs.sound _ _ _ (by omega) hr1
      exact ⟨l1, l2, n2, by omega, rfl, .inr hl1, hr2⟩
  · by_cases hb' : i = b
    · subst hb'; have := (succ_fork hf _).1 hs'; omega
    · exact hs.jump i j (by omega) hi' hs'
  · by_cases hb' : i = b
    · subst hb'; rw [hf] at hs'; cases hs'
    · exact hs.few i neg set (by omega) hi' hs'
theorem Frag.pick {ops : List Rop} {M b m e : Nat} {A B : List Int → Prop} (hf : ops[b]? = some (.fork (m + 1))) (ha : Frag ops M (b + 1) m A) (hl : ops[m]? = some (.leap e)) (hb : Frag ops M (m + 1) e B) : Frag ops M b e (fun l => A l ∨ B l) := by
  have h1 := ha.le; have h2 := hb.le
  refine ⟨by omega, ?_, fun n k l hk hr => ?_, fun i j hi hi' hs => ?_, fun i neg set hi hi' hs => ?_⟩
  · rintro l (h | h)
    · have := (ha.comp l h).append (.eps ((succ_leap hl _).2 rfl) (.nil e))
      rw [List.append_nil] at this
      exact .eps ((succ_fork hf _).2 (.inr rfl)) this
    · exact .eps ((succ_fork hf _).2 (.inl rfl)) (hb.comp l h)
  · obtain ⟨n1, rfl, hr1 | hr1⟩ := hr.fork hf (by omega)
    · obtain ⟨l1, l2, n2, hn2, rfl, hl1, hr2⟩ := hb.sound _ _ _ (by omega) hr1
      exact ⟨l1, l2, n2, by omega, rfl, .inr hl1, hr2⟩
    · obtain ⟨l1, l2, n2, hn2, rfl, hl1, hr2⟩ := ha.sound _ _ _ (by omega) hr1
      obtain ⟨n3, rfl, hr3⟩ := hr2.leap hl (by omega)
      exact ⟨l1, l2, n3, by omega, rfl, .inl hl1, hr3⟩
  · by_cases hb' : i = b
    · subst hb'; have := (succ_fork hf _).1 hs; omega
    · by_cases hm : i = m
      · subst hm; have := (succ_leap hl _).1 hs; omega
      · by_cases h : i < m
        · have := ha.jump i j (by omega) h hs; omega
        · exact hb.jump i j (by omega) hi' hs
  · by_cases hb' : i = b
    · subst hb'; rw [hf] at hs; cases hs
    · by_cases hm : i = m
      · subst hm; rw [hl] at hs; cases hs
      · by_cases h : i < m
        · exact ha.few i neg set (by omega) h hs
        · exact hb.few i neg set (by omega) hi' hs

end Go.Proofs.Ytnhlgjjdpappkaa
