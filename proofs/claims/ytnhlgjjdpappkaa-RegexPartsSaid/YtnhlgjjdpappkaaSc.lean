/-
  What a program comes to without a character: plain. No program in sight.
-/
import Derived.Test.YtnhlgjjdpappkaaRm
namespace Go.Proofs.Ytnhlgjjdpappkaa
open Go.RowKit

/-- From one place to another one without a character. -/
def Succ (ops : List Rop) (i j : Nat) : Prop := match ops[i]? with
  | some (.fork t) => j = t ∨ j = i + 1
  | some (.leap t) => j = t
  | _ => False
inductive Eps (ops : List Rop) : Nat → Nat → Prop
  | refl (i : Nat) : Eps ops i i
  | step {i j k : Nat} (h : Succ ops i j) (h' : Eps ops j k) : Eps ops i k
theorem Eps.trans {ops : List Rop} {i j k : Nat} (h : Eps ops i j) (h' : Eps ops j k) : Eps ops i k := by
  induction h with
  | refl => exact h'
  | step h1 _ ih => exact .step h1 (ih h')
/-- All that is come to is a place. -/
def WF (ops : List Rop) : Prop := ∀ i j, Succ ops i j → j < ops.length
def marked (m : List Bool) (i : Nat) : Prop := m[i]? = some true
def Closed (ops : List Rop) (m : List Bool) : Prop := ∀ i j, marked m i → Succ ops i j → marked m j
theorem Closed.eps {ops : List Rop} {m : List Bool} (h : Closed ops m) {i j : Nat} (hi : marked m i) (he : Eps ops i j) : marked m j := by
  induction he with
  | refl => exact hi
  | step h1 _ ih => exact ih (h _ _ hi h1)
theorem Eps.lt {ops : List Rop} (hw : WF ops) {i j : Nat} (h : Eps ops i j) (hi : i < ops.length) : j < ops.length := by
  induction h with
  | refl => exact hi
  | step h1 _ ih => exact ih (hw _ _ h1)
/-- The state of the search: m0 the marks at the start, at_ the place that was added. -/
structure RInv (ops : List Rop) (m0 : List Bool) (at_ : Nat) (m : List Bool) (wl : List Nat) : Prop where
  len : m.length = m0.length
  from_ : ∀ i, marked m i → marked m0 i ∨ Eps ops at_ i
  wait : ∀ x ∈ wl, Eps ops at_ x
  more : ∀ i, marked m0 i → marked m i
  open_ : ∀ i j, marked m i → Succ ops i j → marked m j ∨ j ∈ wl
  here : marked m at_ ∨ at_ ∈ wl
theorem RInv.start {ops : List Rop} {m0 : List Bool} {at_ : Nat} (hc : Closed ops m0) : RInv ops m0 at_ m0 [at_] :=
  ⟨rfl, fun _ h => .inl h, fun x hx => by simp at hx; subst hx; exact .refl _, fun _ h => h, fun i j h hs => .inl (hc i j h hs), .inr (by simp)⟩
theorem RInv.final {ops : List Rop} {m0 m : List Bool} {at_ : Nat} (h : RInv ops m0 at_ m []) : Closed ops m ∧ ∀ i, marked m i ↔ marked m0 i ∨ Eps ops at_ i := by
  have hc : Closed ops m := fun i j hi hs => by
    rcases h.open_ i j hi hs with h | h
    · exact h
    · cases h
  refine ⟨hc, fun i => ⟨h.from_ i, fun hi => ?_⟩⟩
  rcases hi with hi | hi
  · exact h.more i hi
  · refine hc.eps ?_ hi
    rcases h.here with h | h
    · exact h
    · cases h
theorem RInv.skip {ops : List Rop} {m0 m : List Bool} {at_ x : Nat} {wl : List Nat} (h : RInv ops m0 at_ m (wl ++ [x])) (hx : marked m x) : RInv ops m0 at_ m wl := by
  refine ⟨h.len, h.from_, fun y hy => h.wait y (by simp [hy]), h.more, fun i j hi hs => ?_, ?_⟩
  · rcases h.open_ i j hi hs with h1 | h1
    · exact .inl h1
    · rcases List.mem_append.1 h1 with h1 | h1
      · exact .inr h1
      · simp at h1; subst h1; exact .inl hx
  · rcases h.here with h1 | h1
    · exact .inl h1
    · rcases List.mem_append.1 h1 with h1 | h1
      · exact .inr h1
      · simp at h1; subst h1; exact .inl hx
theorem marked_set {m : List Bool} {x i : Nat} (hx : x < m.length) : marked (m.set x true) i ↔ i = x ∨ marked m i := by
  unfold marked
  by_cases h : i = x
  · subst h; simp [List.getElem?_set_self hx]
  · rw [List.getElem?_set_ne (Ne.symm h)]; simp [h]
theorem RInv.mark {ops : List Rop} {m0 m : List Bool} {at_ x : Nat} {wl new : List Nat} (h : RInv ops m0 at_ m (wl ++ [x])) (hx : x < m.length) (hn : ∀ j, Succ ops x j ↔ j ∈ new) : RInv ops m0 at_ (m.set x true) (wl ++ new) := by
  have hex : Eps ops at_ x := h.wait x (by simp)
  refine ⟨by rw [List.length_set]; exact h.len, fun i hi => ?_, fun y hy => ?_, fun i hi => (marked_set hx).2 (.inr (h.more i hi)), fun i j hi hs => ?_, ?_⟩
  · rcases (marked_set hx).1 hi with rfl | hi
    · exact .inr hex
    · exact h.from_ i hi
  · rcases List.mem_append.1 hy with hy | hy
    · exact h.wait y (by simp [hy])
    · exact hex.trans (.step ((hn y).2 hy) (.refl _))
  · rcases (marked_set hx).1 hi with rfl | hi
    · exact .inr (by simp [(hn j).1 hs])
    · rcases h.open_ i j hi hs with h1 | h1
      · exact .inl ((marked_set hx).2 (.inr h1))
      · rcases List.mem_append.1 h1 with h1 | h1
        · exact .inr (by simp [h1])
        · simp at h1; exact .inl ((marked_set hx).2 (.inl h1))
  · rcases h.here with h1 | h1
    · exact .inl ((marked_set hx).2 (.inr h1))
    · rcases List.mem_append.1 h1 with h1 | h1
      · exact .inr (by simp [h1])
      · simp at h1; exact .inl ((marked_set hx).2 (.inl h1))
theorem count_set {m : List Bool} {x : Nat} (hx : m[x]? = some false) : (m.set x true).count true = m.count true + 1 := by
  induction m generalizing x with
  | nil => simp at hx
  | cons b m ih =>
    cases x with
    | zero => simp at hx; subst hx; simp
    | succ x =>
      have := ih (x := x) (by simpa using hx)
      simp only [List.set_cons_succ, List.count_cons, this]
      omega

end Go.Proofs.Ytnhlgjjdpappkaa
