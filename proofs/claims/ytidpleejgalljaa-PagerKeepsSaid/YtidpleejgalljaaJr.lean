/-
  The journal over the disk as plain data: what Open tells. No program in sight.
-/
import Derived.Test.YtidpleejgalljaaJq
namespace Go.Proofs.Ytidpleejgalljaa

theorem newestOf_eq (L : List (List UInt8)) : newestOf L = newFrom (0, 0) L := newFrom_eq L
theorem newest_zero {L : List (List UInt8)} (h : ∀ s ∈ L, s = zsec) : newestOf L = (0, 0) := by
  rw [newestOf_eq]
  have := newFold_le L 0 0 (fun s hs q hq => by rw [h s hs, piece_zero] at hq; cases hq) (0, 0) (Nat.le_refl _) (Nat.le_refl _)
  exact Prod.ext (by show _ = 0; omega) (by show _ = 0; omega)
theorem rep_zero (n : Nat) : ∀ s ∈ List.replicate n zsec, s = zsec := fun _ hs => (List.mem_replicate.1 hs).2
theorem open_zero {D : DM} {f n : Nat} {V : List (List UInt8)} (hS : St D f V) (hn : V.length = n) (hz : ∀ s ∈ V, s = zsec) : openR D f n = [] ∧ openL D f n = ⟨f, n, 0, 1, 1, false⟩ ∧ (newestOf (D.part f n)).1 = 0 := by
  have hv := hS.view hn
  have hr : openR D f n = [] := by unfold openR; rw [hv, recs_none (zero_none hz)]
  refine ⟨hr, ?_, by rw [hv, newest_zero hz]⟩
  unfold openL
  rw [hr, hv, newest_zero hz]
  rfl
theorem recs_cons {ses num : Nat} {b : List UInt8} (h : Fits ses num b) (T : List (List UInt8)) (k : Nat) (last : Option Stamp) (hs : stops last (stampAt ses num b) = false) :
    recordsOf (k + 1) last (secsP ses num b ++ T) = (stampAt ses num b, b) :: recordsOf k (some (stampAt ses num b)) T := by
  rw [recs_on (recordOf_laid h T) hs]
  congr 2
  show List.drop (needOf b.length) _ = T
  rw [← secsP_len ses num b, List.drop_left]
theorem open_one {D : DM} {f n ses num : Nat} {b : List UInt8} {T : List (List UInt8)} (hS : St D f (secsP ses num b ++ T)) (hn : (secsP ses num b ++ T).length = n) (hF : Fits ses num b) (hT : recordOf T = none) :
    openR D f n = [(stampAt ses num b, b)] ∧ (openL D f n).at_ = needOf b.length ∧ (openL D f n).num = (num + 1) % 4294967296 := by
  have hv := hS.view hn
  have hp := need_pos b.length
  have hl : 1 ≤ n := by rw [← hn, List.length_append, secsP_len]; omega
  have hr : openR D f n = [(stampAt ses num b, b)] := by
    unfold openR
    rw [hv, show n = n - 1 + 1 by omega, recs_cons hF T _ none rfl, recs_none hT]
  refine ⟨hr, ?_, ?_⟩
  · unfold openL; rw [hr]; simp [stampAt]
  · unfold openL; rw [hr]; simp [lastOf, numAfter, stampAt]
/-- All pieces' sessions are at most c. -/
def SesLe (L : List (List UInt8)) (c : Nat) : Prop := ∀ s ∈ L, ∀ q, pieceOf s = some q → q.st.session ≤ c
theorem newFrom_le {c : Nat} : ∀ (L : List (List UInt8)) (a : Nat × Nat), SesLe L c → a.1 ≤ c → (newFrom a L).1 ≤ c
  | [], a, _, ha => ha
  | s :: L, a, h, ha => by
    refine newFrom_le L (newStep a s) (fun x hx => h x (List.mem_cons_of_mem _ hx)) ?_
    unfold newStep
    cases hp : pieceOf s with
    | none => exact ha
    | some p => have := h s (List.mem_cons_self ..) p hp; show max _ _ ≤ c; omega
theorem newest_le {L : List (List UInt8)} {c : Nat} (h : SesLe L c) : (newestOf L).1 ≤ c := by
  rw [newestOf_eq]
  exact newFrom_le L _ h (Nat.zero_le _)
theorem SesLe.zero {L : List (List UInt8)} (h : ∀ s ∈ L, s = zsec) (c : Nat) : SesLe L c := by
  intro s hs q hq
  rw [h s hs, piece_zero] at hq
  cases hq
theorem SesLe.append {A B : List (List UInt8)} {c : Nat} (h1 : SesLe A c) (h2 : SesLe B c) : SesLe (A ++ B) c := by
  intro s hs q hq
  rcases List.mem_append.1 hs with h | h
  · exact h1 s h q hq
  · exact h2 s h q hq
theorem SesLe.drop {A : List (List UInt8)} {c : Nat} (h : SesLe A c) (k : Nat) : SesLe (A.drop k) c := fun s hs => h s (List.mem_of_mem_drop hs)
theorem SesLe.secs {ses num c : Nat} {b : List UInt8} (hF : Fits ses num b) (h : ses ≤ c) : SesLe (secsP ses num b) c := by
  intro s hs q hq
  unfold secsP at hs
  obtain ⟨k, hk, rfl⟩ := List.mem_map.1 hs
  rw [piece_secP hF (by simpa using hk)] at hq
  injection hq with hq
  subst hq
  exact h
theorem SesLe.torn {L L' : List (List UInt8)} {ses num c : Nat} {b : List UInt8} (h : SesLe L c) (hF : Fits ses num b) (hT : Torn L L' ses num b) (hc : ses ≤ c) : SesLe L' c := by
  intro s hs q hq
  obtain ⟨j, hj⟩ := List.getElem?_of_mem hs
  rcases hT.2 j with h5 | ⟨h5, h6⟩
  · rw [hj] at h5; exact h s (List.mem_of_getElem? h5.symm) q hq
  · rw [hj] at h6
    injection h6 with h6
    subst h6
    rw [piece_secP hF h5] at hq
    injection hq with hq
    subst hq
    exact hc
theorem need_le {n k : Nat} (h : n ≤ 48 * k) (hk : 1 ≤ k) : needOf n ≤ k := by unfold needOf; split <;> omega

end Go.Proofs.Ytidpleejgalljaa
