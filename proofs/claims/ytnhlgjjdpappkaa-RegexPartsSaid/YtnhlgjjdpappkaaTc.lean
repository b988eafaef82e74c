/-
  Match and Search answer by the pattern's language. No program in sight.
-/
import Derived.Test.YtnhlgjjdpappkaaTb
import Derived.Test.YtnhlgjjdpappkaaSi
namespace Go.Proofs.Ytnhlgjjdpappkaa
open Go.RowKit

theorem run_nil {ops : List Rop} {n i k : Nat} {l : List Int} (h : RunN ops n i l k) (hl : l = []) : Eps ops i k := by
  induction h with
  | nil => exact .refl _
  | eps h1 _ ih => exact .step h1 (ih hl)
  | char => cases hl
theorem run_cons {ops : List Rop} {n i k : Nat} {l l' : List Int} {c : Int} (h : RunN ops n i l k) (hl : l = c :: l') : ∃ a, Eps ops i a ∧ Takes ops a c ∧ Run ops (a + 1) l' k := by
  induction h with
  | nil => cases hl
  | eps h1 _ ih => obtain ⟨a, h2, h3, h4⟩ := ih hl; exact ⟨a, .step h1 h2, h3, h4⟩
  | char h1 h2 ih => cases hl; exact ⟨_, .refl _, h1, ⟨_, h2⟩⟩
def EClosed (ops : List Rop) (S : Nat → Prop) : Prop := ∀ i j, S i → Eps ops i j → S j
theorem stepSet_run {ops : List Rop} {S : Nat → Prop} (hs : EClosed ops S) {c : Int} {l : List Int} {k : Nat} : (∃ a, stepSet ops S c a ∧ Run ops a l k) ↔ ∃ a, S a ∧ Run ops a (c :: l) k := by
  constructor
  · rintro ⟨a, ⟨a0, h1, h2, h3⟩, h4⟩
    exact ⟨a0, h1, .char h2 (h3.run h4)⟩
  · rintro ⟨a, h1, n, h2⟩
    obtain ⟨a', h3, h4, h5⟩ := run_cons h2 rfl
    exact ⟨a' + 1, ⟨a', hs _ _ h1 h3, h4, .refl _⟩, h5⟩
theorem stepSet_closed {ops : List Rop} (S : Nat → Prop) (c : Int) : EClosed ops (stepSet ops S c) := by
  rintro i j ⟨a, h1, h2, h3⟩ h4
  exact ⟨a, h1, h2, h3.trans h4⟩
theorem fold_run {ops : List Rop} : ∀ (l : List Int) (S : Nat → Prop), EClosed ops S → ∀ k, (l.foldl (stepSet ops) S) k ↔ ∃ a, S a ∧ Run ops a l k
  | [], S, hs, k => ⟨fun h => ⟨k, h, .nil k⟩, fun ⟨a, h, _, h'⟩ => hs _ _ h (run_nil h' rfl)⟩
  | c :: l, S, hs, k => by
    rw [List.foldl_cons, fold_run l _ (stepSet_closed S c), stepSet_run hs]
theorem eps_closed {ops : List Rop} (i : Nat) : EClosed ops (Eps ops i) := fun _ _ h h' => h.trans h'
theorem accepts_run {ops : List Rop} {l : List Int} : accepts ops l ↔ Run ops 0 l (ops.length - 1) := by
  unfold accepts
  rw [fold_run l _ (eps_closed 0)]
  exact ⟨fun ⟨a, h, h'⟩ => h.run h', fun h => ⟨0, .refl 0, h⟩⟩
theorem srch_closed {ops : List Rop} (S : Nat → Prop) (c : Int) : EClosed ops (srchSet ops S c) := by
  rintro i j (h | h) h'
  · exact .inl (stepSet_closed S c i j h h')
  · exact .inr (h.trans h')
theorem srch_run {ops : List Rop} : ∀ (l : List Int) (S : Nat → Prop), EClosed ops S → (∀ a, Eps ops 0 a → S a) → ∀ k, (l.foldl (srchSet ops) S) k ↔ (∃ a, S a ∧ Run ops a l k) ∨ ∃ x t, l = x ++ t ∧ Run ops 0 t k
  | [], S, hs, h0, k => by
    refine ⟨fun h => .inl ⟨k, h, .nil k⟩, ?_⟩
    rintro (⟨a, h, _, h'⟩ | ⟨x, t, h, n, h'⟩)
    · exact hs _ _ h (run_nil h' rfl)
    · have : t = [] := by
        have := congrArg List.length h
        simp at this
        exact List.length_eq_zero_iff.1 (by omega)
      exact h0 _ (run_nil h' this)
  | c :: l, S, hs, h0, k => by
    rw [List.foldl_cons, srch_run l _ (srch_closed S c) (fun a h => .inr h)]
    constructor
    · rintro (⟨a, h | h, h'⟩ | ⟨x, t, rfl, h⟩)
      · exact .inl ((stepSet_run hs).1 ⟨a, h, h'⟩)
      · exact .inr ⟨[c], l, rfl, h.run h'⟩
      · exact .inr ⟨c :: x, t, rfl, h⟩
    · rintro (h | ⟨x, t, h, h'⟩)
      · obtain ⟨a, h1, h2⟩ := (stepSet_run hs).2 h
        exact .inl ⟨a, .inl h1, h2⟩
      · cases x with
        | nil =>
          have h : c :: l = t := by simpa using h
          subst h
          obtain ⟨a, h1, h2⟩ := (stepSet_run hs).2 ⟨0, h0 0 (.refl 0), h'⟩
          exact .inl ⟨a, .inl h1, h2⟩
        | cons y x =>
          simp only [List.cons_append, List.cons.injEq] at h
          obtain ⟨rfl, rfl⟩ := h
          exact .inr ⟨x, t, rfl, h'⟩
theorem finds_run {ops : List Rop} {l : List Int} : finds ops l ↔ ∃ x t y, l = x ++ t ++ y ∧ Run ops 0 t (ops.length - 1) := by
  unfold finds
  constructor
  · rintro ⟨k, hk, h⟩
    rw [srch_run _ _ (eps_closed 0) (fun _ h => h)] at h
    rcases h with ⟨a, h1, h2⟩ | ⟨x, t, h1, h2⟩
    · exact ⟨[], l.take k, l.drop k, by simp, h1.run h2⟩
    · exact ⟨x, t, l.drop k, by rw [← h1, List.take_append_drop], h2⟩
  · rintro ⟨x, t, y, rfl, h⟩
    refine ⟨(x ++ t).length, by simp, ?_⟩
    rw [List.take_left' rfl, srch_run _ _ (eps_closed 0) (fun _ h => h)]
    exact .inr ⟨x, t, rfl, h⟩

theorem prog_frag {p : Pt} (ho : p.ok) : Frag (progOf p) 1000 0 p.len (Lang p) := by
  have := p.frag (ops := progOf p) 0 ho (fun i o h => by
    have hi : i < (p.code 0).length := (List.getElem?_eq_some_iff.1 h).1
    unfold progOf
    rw [Nat.zero_add, List.getElem?_append_left hi]; exact h)
  rwa [Nat.zero_add] at this
theorem prog_len (p : Pt) : (progOf p).length = p.len + 1 := by unfold progOf; rw [List.length_append, p.code_len]; rfl
theorem prog_done (p : Pt) : (progOf p)[p.len]? = some .done := by
  unfold progOf
  rw [List.getElem?_append_right (by rw [p.code_len]; omega), p.code_len, Nat.sub_self]; rfl
theorem prog_run {p : Pt} (ho : p.ok) (l : List Int) : Run (progOf p) 0 l ((progOf p).length - 1) ↔ Lang p l := by
  rw [prog_len, Nat.add_sub_cancel]
  have hf := prog_frag ho
  refine ⟨fun ⟨n, h⟩ => ?_, hf.comp l⟩
  obtain ⟨l1, l2, m, _, rfl, h1, h2⟩ := hf.sound n _ l (by omega) h
  have := (h2.done (prog_done p)).1
  subst this
  rw [List.append_nil]; exact h1
theorem accepts_lang {p : Pt} (ho : p.ok) (l : List Int) : accepts (progOf p) l ↔ Lang p l := accepts_run.trans (prog_run ho l)
theorem finds_lang {p : Pt} (ho : p.ok) (l : List Int) : finds (progOf p) l ↔ ∃ x t y, l = x ++ t ++ y ∧ Lang p t := by
  rw [finds_run]
  simp only [prog_run ho]
theorem prog_good {p : Pt} (ho : p.ok) (hn : (progOf p).length ≤ 4001) : Good (progOf p) := by
  have hf := prog_frag ho
  have hl := prog_len p
  have key : ∀ i j, Succ (progOf p) i j → i < p.len := fun i j h => by
    have h1 : i < (progOf p).length := by
      refine Nat.lt_of_not_le fun h2 => ?_
      unfold Succ at h
      rw [List.getElem?_eq_none h2] at h
      exact h
    by_cases h3 : i = p.len
    · subst h3; exact absurd h (succ_done (prog_done p) _)
    · omega
  refine ⟨fun i j h => ?_, fun i neg set h => ?_, by omega, by omega⟩
  · have := hf.jump i j (by omega) (key i j h) h
    omega
  · have h1 : i < (progOf p).length := (List.getElem?_eq_some_iff.1 h).1
    have h3 : i ≠ p.len := fun h3 => by subst h3; rw [prog_done] at h; cases h
    have := hf.few i neg set (by omega) (by omega) h
    omega
theorem parsed_ok {n : Nat} {l : List Int} {er : Int} {p : Pt} (hl : l.length ≤ n) (hpos : ∀ c ∈ l, 0 ≤ c) (h : parsedOf n l = (er, some p)) : p.ok := by
  unfold parsedOf at h
  split at h
  · cases h
  · split at h
    · cases h
    · rename_i p' s hp
      split at h
      · cases h
      · split at h
        · cases h
        · split at h
          · cases h
          · cases h
            exact (RS.pattern_ok _ _ _ _ (by constructor <;> first | exact hpos | (simp <;> omega)) hp).1

end Go.Proofs.Ytnhlgjjdpappkaa
