/-
  Rounds of writes of whole pages of one byte, as plain data. No program in sight.
-/
import Derived.Test.YtidpleejgalljaaPg
namespace Go.Proofs.Ytidpleejgalljaa

def putsL (m : PgM) (l : List (Nat × UInt8)) : PgM := l.foldl (fun m p => putP m p.1 (List.replicate 512 p.2)) m
def PS.puts (s : PS) (l : List (Nat × UInt8)) : PS := l.foldl (fun s p => s.write p.1 (List.replicate 512 p.2)) s
def setF (f : Nat → UInt8) (l : List (Nat × UInt8)) : Nat → UInt8 := l.foldl (fun f p => fun k => if k = p.1 then p.2 else f k) f
theorem pad_full (c : UInt8) : pad512 (List.replicate 512 c) = List.replicate 512 c := by unfold pad512; rw [List.length_replicate, Nat.sub_self]; exact List.append_nil _
theorem puts_eq (l : List (Nat × UInt8)) : ∀ s : PS, s.puts l = { s with late := putsL s.late l } := by
  induction l with
  | nil => intro s; rfl
  | cons p l ih =>
    intro s
    show (s.write p.1 (List.replicate 512 p.2)).puts l = _
    rw [ih]
    show ({ s with late := putsL (putP s.late p.1 (pad512 (List.replicate 512 p.2))) l } : PS) = _
    rw [pad_full]
    rfl
theorem puts_snoc (s : PS) (l : List (Nat × UInt8)) (p : Nat × UInt8) : s.puts (l ++ [p]) = (s.puts l).write p.1 (List.replicate 512 p.2) := by unfold PS.puts; rw [List.foldl_append]; rfl
theorem PInv.puts {c : Nat} {C : Nat → List UInt8} (l : List (Nat × UInt8)) : ∀ {s : PS}, PInv c s C → (∀ p ∈ l, p.1 < s.n) → PInv c (s.puts l) C := by
  induction l with
  | nil => intro s h _; exact h
  | cons p l ih =>
    intro s h hl
    have h1 : PInv c (s.write p.1 (List.replicate 512 p.2)) C := h.wrote (hl p (List.mem_cons_self ..)) (pad512_len (by rw [List.length_replicate]; exact Nat.le_refl _))
    exact ih h1 (fun q hq => hl q (List.mem_cons_of_mem _ hq))
/-- All four pages are of one byte each. -/
def Uni (C : Nat → List UInt8) (m : PgM) (f : Nat → UInt8) : Prop := ∀ k, k < 4 → over C m k = List.replicate 512 (f k)
theorem Uni.put {C : Nat → List UInt8} {m : PgM} {f : Nat → UInt8} (h : Uni C m f) (a : Nat) (c : UInt8) : Uni C (putP m a (List.replicate 512 c)) (fun k => if k = a then c else f k) := by
  intro k hk
  unfold over
  rw [getP_put]
  by_cases ha : k = a
  · rw [if_pos ha]
    show List.replicate 512 c = List.replicate 512 (if k = a then c else f k)
    rw [if_pos ha]
  · rw [if_neg ha]
    show _ = List.replicate 512 (if k = a then c else f k)
    rw [if_neg ha]
    exact h k hk
theorem Uni.puts {C : Nat → List UInt8} (l : List (Nat × UInt8)) : ∀ {m : PgM} {f : Nat → UInt8}, Uni C m f → Uni C (putsL m l) (setF f l) := by
  induction l with
  | nil => intro m f h; exact h
  | cons p l ih => intro m f h; exact ih (h.put p.1 p.2)
theorem setF_snoc (f : Nat → UInt8) (l : List (Nat × UInt8)) (p : Nat × UInt8) : setF f (l ++ [p]) = fun k => if k = p.1 then p.2 else setF f l k := by unfold setF; rw [List.foldl_append]; rfl
theorem Uni.over {C : Nat → List UInt8} {m : PgM} {f : Nat → UInt8} (h : Uni C m f) : Uni (over C m) [] f := fun k hk => h k hk
/-- A pager between rounds, on a disk without a limit. -/
structure RSt (c : Nat) (s : PS) (f : Nat → UInt8) : Prop where
  inv : ∃ C, PInv c s C ∧ Uni C s.late f
  n : s.n = 4
  log : s.l.n = 60
  limit : s.D.limit = -1
  few : s.late.length ≤ 4
theorem RSt.page {c : Nat} {s : PS} {f : Nat → UInt8} (h : RSt c s f) {k : Nat} (hk : k < 4) : s.page k = List.replicate 512 (f k) := by
  obtain ⟨C, h1, h2⟩ := h.inv
  rw [h1.page_eq (by rw [h.n]; exact hk)]
  exact h2 k hk
theorem RSt.calm {c : Nat} {s : PS} {f : Nat → UInt8} (h : RSt c s f) : Calm s := by obtain ⟨C, h1, _⟩ := h.inv; exact h1.calm
theorem RSt.br {c : Nat} {s : PS} {f : Nat → UInt8} (h : RSt c s f) : s.br = false := by obtain ⟨C, h1, _⟩ := h.inv; exact h1.br
theorem RSt.puts {c : Nat} {s : PS} {f : Nat → UInt8} (h : RSt c s f) {l : List (Nat × UInt8)} (hl : ∀ p ∈ l, p.1 < 4) : RSt c (s.puts l) (setF f l) := by
  obtain ⟨C, h1, h2⟩ := h.inv
  have h3 := h1.puts l (fun p hp => by rw [h.n]; exact hl p hp)
  have e := puts_eq l s
  have h4 := h3.late.few
  refine ⟨⟨C, h3, by rw [e]; exact h2.puts l⟩, by rw [e]; exact h.n, by rw [e]; exact h.log, by rw [e]; exact h.limit, ?_⟩
  rw [e] at h4 ⊢
  have := h.n
  exact Nat.le_trans h4 (by show s.n ≤ 4; omega)
theorem RSt.commit {c : Nat} {s : PS} {f : Nat → UInt8} (h : RSt c s f) (hc : c + 4 < 4294967296) : s.commit.2 = 0 ∧ RSt (c + 3) s.commit.1 f ∧ s.commit.1.late = [] := by
  obtain ⟨C, h1, h2⟩ := h.inv
  have hf := h.few; have hl := h.log
  obtain ⟨a1, a2, a3, a4, a5, a6⟩ := h1.free hc h.limit (by omega) (by omega)
  exact ⟨a1, ⟨⟨_, a2, by rw [a3]; exact h2.over⟩, by rw [a4]; exact h.n, by rw [a5]; exact h.log, a6, by rw [a3]; exact Nat.zero_le _⟩, a3⟩
theorem RSt.rolled {c : Nat} {s : PS} {f f0 : Nat → UInt8} {l : List (Nat × UInt8)} (h : RSt c s f0) (h0 : s.late = []) : ({ s.puts l with late := [] } : PS) = s := by
  rw [puts_eq]
  cases s
  simp only at h0
  subst h0
  rfl
theorem RSt.check {c : Nat} {s : PS} {f : Nat → UInt8} (h : RSt c s f) (hc : c + 1 < 4294967296) : s.check.2 = 0 ∧ RSt (c + 1) s.check.1 f ∧ s.check.1.held = [] ∧ s.check.1.late = s.late := by
  obtain ⟨C, h1, h2⟩ := h.inv
  rcases h1.checked hc with ⟨a1, a2, a3, a4, a5, a6, a7⟩ | ⟨_, _, a3, _⟩
  · exact ⟨a1, ⟨⟨C, a2, by rw [a4]; exact h2⟩, by rw [a5]; exact h.n, by rw [a6]; exact h.log, a7 h.limit, by rw [a4]; exact h.few⟩, a3, a4⟩
  · exact absurd h.limit a3
theorem commit_done (s : PS) (h : s.held.length ≤ s.n) (hn : s.n ≤ 4096) : s.commit.1.D.done ≤ s.D.done + 300000 := by
  have h0 : ∀ b, (s.append b).1.D.done ≤ s.D.done + 300000 := fun b => by
    have h1 := appendD_done s.D s.l b
    have h2 := check_done (s.laid b) h hn
    have h2' : (s.laid b).D.done = (appendD s.D s.l b).done := rfl
    have h3 := appendD_done (s.laid b).check.1.D (s.laid b).check.1.l b
    unfold PS.append
    split
    · show (appendD s.D s.l b).done ≤ _; omega
    · split
      · omega
      · show (appendD (s.laid b).check.1.D (s.laid b).check.1.l b).done ≤ _; omega
  unfold PS.commit
  split
  · exact Nat.le_add_right _ _
  · split
    · exact Nat.le_add_right _ _
    · split
      · exact h0 _
      · exact h0 _
/-- A checkpoint where nothing is held writes nothing. -/
theorem check_none {s : PS} (h : s.held = []) (hbr : s.br = false) : s.check = (s, 0) := by unfold PS.check; rw [if_neg (by rw [hbr]; decide), if_pos h]
theorem commit_none {s : PS} (h : s.late = []) (hbr : s.br = false) : s.commit = (s, 0) := by unfold PS.commit; rw [if_neg (by rw [hbr]; decide), if_pos h]
/-- Opened on a disk that was just made. -/
theorem RSt.first {H : PgM} (h : PInv 1 (openP 4 60 (DM.new 100) H) fun _ => List.replicate 512 0) : RSt 1 (openP 4 60 (DM.new 100) H) fun _ => 0 :=
  ⟨⟨_, h, fun _ _ => rfl⟩, rfl, rfl, rfl, Nat.zero_le _⟩

end Go.Proofs.Ytidpleejgalljaa
