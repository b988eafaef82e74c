/-
  A slice of parts that is appended to.
-/
import Derived.Test.YtnhlgjjdpappkaaRg
namespace Go.Proofs.Ytnhlgjjdpappkaa
open Go.RowKit

/-- A slice of parts of the call's own: its block and all that its parts lead to lie from lo on, apart. -/
def POwn (w : World) (lo : Nat) (v : Value) (l : List Pt) : Prop :=
  ∃ css : List (List Value), css.length = l.length ∧ w.ownsRow 0 43 6 v l.length css.flatten ∧ (∀ x, v.ownBlock = some x → lo ≤ x) ∧
    ∀ (i : Nat) (q : Pt) (cs : List Value), l[i]? = some q → css[i]? = some cs → PartAt w (fun g => lo ≤ g ∧ v.ownBlock ≠ some g ∧ g < w.heap.size) q cs
theorem POwn.nil (w : World) (lo : Nat) : POwn w lo (.slice none 0 0) [] := ⟨[], rfl, own_nil _ _ _ _, by simp [Value.ownBlock], fun i q cs h => by simp at h⟩
theorem POwn.fr {S : List Nat} {w w' : World} {lo : Nat} {v : Value} {l : List Pt} (h : POwn w lo v l) (hf : Fr S w w') (hS : ∀ x ∈ S, x < lo ∨ w.heap.size ≤ x) : POwn w' lo v l := by
  obtain ⟨css, h1, h2, h3, h4⟩ := h
  refine ⟨css, h1, own_fr h2 hf (fun g hg hm => ?_), h3, fun i q cs hq hc => ((h4 i q cs hq hc).fr hf (fun g hg hm => ?_)).mono (fun g hg => ⟨hg.1, hg.2.1, by have := hf.size; omega⟩)⟩
  · have := h3 g hg; have := own_lt h2 g hg; rcases hS g hm with h | h <;> omega
  · rcases hS g hm with h | h <;> omega
theorem POwn.lt {w : World} {lo : Nat} {v : Value} {l : List Pt} (h : POwn w lo v l) : ∀ g, v.ownBlock = some g → g < w.heap.size := by
  obtain ⟨css, h1, h2, h3, h4⟩ := h
  exact own_lt h2
theorem POwn.slice {w : World} {lo : Nat} {v : Value} {l : List Pt} (h : POwn w lo v l) : ∃ A c, v = .slice A l.length c := by
  obtain ⟨css, h1, h2, h3, h4⟩ := h
  obtain ⟨A, c, hv, _⟩ := own_shape h2
  exact ⟨A, c, hv⟩
theorem flat_get {α : Type} {k : Nat} : ∀ (css : List (List α)), (∀ cs ∈ css, cs.length = k) → ∀ (i : Nat) (cs : List α), css[i]? = some cs → ∀ (j : Nat), j < k → css.flatten[k * i + j]? = cs[j]?
  | [], _, i, cs, h, _, _ => by simp at h
  | c :: css, hk, 0, cs, h, j, hj => by
    simp only [List.getElem?_cons_zero, Option.some.injEq] at h
    subst h
    have hc := hk c (by simp)
    rw [List.flatten_cons, Nat.mul_zero, Nat.zero_add, List.getElem?_append_left (by omega)]
  | c :: css, hk, i + 1, cs, h, j, hj => by
    have hc := hk c (by simp)
    rw [List.getElem?_cons_succ] at h
    have := flat_get css (fun x hx => hk x (List.mem_cons_of_mem _ hx)) i cs h j hj
    rw [List.flatten_cons, List.getElem?_append_right (by rw [hc, Nat.mul_succ]; omega), hc, show k * (i + 1) + j - k = k * i + j by rw [Nat.mul_succ]; omega]
    exact this
theorem POwn.parts {w : World} {lo : Nat} {v : Value} {l : List Pt} (h : POwn w lo v l) : PartsAt w (fun g => lo ≤ g) l v := by
  obtain ⟨css, h1, h2, h3, h4⟩ := h
  obtain ⟨A, c, rfl, hc, _⟩ := own_shape h2
  have h6 : ∀ cs ∈ css, cs.length = 6 := fun cs hcs => by
    obtain ⟨i, hi, rfl⟩ := List.mem_iff_getElem.1 hcs
    exact (h4 i _ _ (List.getElem?_eq_getElem (by omega)) (List.getElem?_eq_getElem hi)).len
  by_cases h0 : 0 < l.length
  · obtain ⟨g, rfl, hg⟩ := own_cell h2 h0
    refine ⟨_, c, g, 0, fun i => css.getD i [], rfl, hc, fun _ => ⟨rfl, h3 g rfl⟩, fun i hi => ?_, fun i q hq => ?_⟩
    · have hci : css[i]? = some (css.getD i []) := by rw [List.getD_eq_getElem?_getD, List.getElem?_eq_getElem (by omega)]; rfl
      refine ⟨h6 _ (List.mem_of_getElem? hci), fun j u hj => ?_⟩
      have hl : (css.getD i []).length = 6 := h6 _ (List.mem_of_getElem? hci)
      have hj6 : j < 6 := by
        rcases Nat.lt_or_ge j 6 with h | h
        · exact h
        · have hj' : (css.getD i [])[j]? = some u := hj
          rw [List.getElem?_eq_none (by omega)] at hj'; cases hj'
      refine hg _ u ?_
      rw [Nat.zero_add, flat_get css h6 i _ hci j hj6]
      exact hj
    · have hi : i < l.length := (List.getElem?_eq_some_iff.1 hq).1
      have hci : css[i]? = some (css.getD i []) := by rw [List.getD_eq_getElem?_getD, List.getElem?_eq_getElem (by omega)]; rfl
      exact (h4 i q _ hq hci).mono (fun g hg => hg.1)
  · refine ⟨A, c, 0, 0, fun _ => [], rfl, hc, fun h => absurd h h0, fun i hi => absurd hi (by omega), fun i q hq => ?_⟩
    have := (List.getElem?_eq_some_iff.1 hq).1
    omega
theorem POwn.push {w w3 w7 : World} {lo : Nat} {v : Value} {l : List Pt} {p : Pt} {cs : List Value} {g7 cap H : Nat} (h : POwn w lo v l) (hf3 : Fr [] w w3) (hH : w3.heap.size = H) (hlo : lo ≤ H) (hp : PartAt w3 (fun g => lo ≤ g ∧ v.ownBlock ≠ some g) p cs)
    (hf7 : Fr v.ownBlock.toList w3 w7) (xs : List Value) (ho7 : w7.ownsRow 0 43 6 (.slice (some ⟨g7, 0, none⟩) (l.length + 1) cap) (l.length + 1) (xs ++ cs)) (hxs : w.ownsRow 0 43 6 v l.length xs) (hat : v.ownBlock = some g7 ∨ g7 = H) : POwn w7 lo (.slice (some ⟨g7, 0, none⟩) (l.length + 1) cap) (l ++ [p]) := by
  obtain ⟨css, h1, h2, h3, h4⟩ := h
  have hx : xs = css.flatten := by
    rcases h2.2 with ⟨hv, hz⟩ | ⟨g, c, cur, hv, _, hh, hn, hc, hs, ht⟩
    · rcases hxs.2 with ⟨_, hz'⟩ | ⟨g', c', cur', hv', _, _, _, _, _, ht'⟩
      · have e1 := hxs.1; have e2 := h2.1
        rw [hz] at e1 e2
        exact (List.eq_nil_of_length_eq_zero (by simpa using e1)).trans (List.eq_nil_of_length_eq_zero (by simpa using e2)).symm
      · rw [hv] at hv'; cases hv'
    · rcases hxs.2 with ⟨hv', _⟩ | ⟨g', c', cur', hv', _, hh', _, _, _, ht'⟩
      · rw [hv] at hv'; cases hv'
      · rw [hv] at hv'
        injection hv' with e1 e2 e3
        simp only [Option.some.injEq, Addr.mk.injEq] at e1
        obtain ⟨rfl, _⟩ := e1
        rw [hh] at hh'
        injection hh' with hh'
        injection hh' with e4
        rw [← ht, ← ht', e4]
  have hpb := hp.bound
  have hz7 := hf7.size
  have hz3 := hf3.size
  have hg7 : lo ≤ g7 := by rcases hat with h | h
                           · exact h3 _ h
                           · omega
  refine ⟨css ++ [cs], by simp [h1], ?_, fun x hx => ?_, fun i q cs' hq hc => ?_⟩
  · rw [show (l ++ [p]).length = l.length + 1 by simp, List.flatten_append, ← hx]
    simpa using ho7
  · simp [Value.ownBlock] at hx; omega
  · have hne : ∀ g, v.ownBlock ≠ some g → g < w3.heap.size → (Value.slice (some ⟨g7, 0, none⟩) (l.length + 1) cap).ownBlock ≠ some g := fun g hg hlt e => by
      have e' : g7 = g := by simpa [Value.ownBlock] using e
      rcases hat with h | h
      · exact hg (e' ▸ h)
      · omega
    by_cases hi : i < l.length
    · rw [List.getElem?_append_left hi] at hq
      rw [List.getElem?_append_left (by omega)] at hc
      refine (((h4 i q cs' hq hc).fr hf3 (by simp)).fr hf7 (fun g hg => by simpa using hg.2.1)).mono (fun g hg => ⟨hg.1, hne g hg.2.1 (by omega), by omega⟩)
    · have hil : i = l.length := by
        have := (List.getElem?_eq_some_iff.1 hq).1
        simp at this; omega
      subst hil
      simp at hq
      rw [← h1] at hc
      simp at hc
      subst hq hc
      exact (hpb.fr hf7 (fun g hg => by simpa using hg.1.2)).mono (fun g hg => ⟨hg.1.1, hne g hg.1.2 hg.2, by omega⟩)

end Go.Proofs.Ytnhlgjjdpappkaa
