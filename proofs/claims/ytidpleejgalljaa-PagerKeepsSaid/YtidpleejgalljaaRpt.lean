/-
  Rounds of writes on a disk with a limit, as plain data: alive, or dead and as the last commit left it, or as the one that was being done. No program in sight.
-/
import Derived.Test.YtidpleejgalljaaRpl
namespace Go.Proofs.Ytidpleejgalljaa

/-- A pager between rounds: f0 is committed, f is read. -/
structure Lv (c : Nat) (s : PS) (f0 f : Nat → UInt8) : Prop where
  inv : ∃ C, PInv c s C ∧ Uni C [] f0 ∧ Uni C s.late f
  n : s.n = 4
  log : s.l.n = 60
/-- A disk as it lies behind a crash. -/
def Off (c : Nat) (D : DM) (f : Nat → UInt8) : Prop := ∃ C, PDisk c 4 60 D C ∧ Uni C [] f
section
variable {c : Nat} {s : PS} {f0 f : Nat → UInt8} {D : DM}
theorem Off.mono {c' : Nat} (h : Off c D f) (hc : c ≤ c') : Off c' D f := by
  obtain ⟨C, h1, h2⟩ := h
  exact ⟨C, h1.mono hc, h2⟩
theorem Lv.mono {c' : Nat} (h : Lv c s f0 f) (hc : c ≤ c') : Lv c' s f0 f := by
  obtain ⟨C, h1, h2, h3⟩ := h.inv
  exact ⟨⟨C, h1.mono hc, h2, h3⟩, h.n, h.log⟩
theorem Lv.live (h : Lv c s f0 f) : s.D.dead = false := by obtain ⟨C, h1, _⟩ := h.inv; exact h1.dead
theorem Lv.br (h : Lv c s f0 f) : s.br = false := by obtain ⟨C, h1, _⟩ := h.inv; exact h1.br
theorem Lv.calm (h : Lv c s f0 f) : Calm s := by obtain ⟨C, h1, _⟩ := h.inv; exact h1.calm
theorem Lv.held (h : Lv c s f0 f) : s.held.length ≤ s.n := by obtain ⟨C, h1, _⟩ := h.inv; exact h1.held.few
theorem Lv.page (h : Lv c s f0 f) {k : Nat} (hk : k < 4) : s.page k = List.replicate 512 (f k) := by
  obtain ⟨C, h1, _, h2⟩ := h.inv
  rw [h1.page_eq (by rw [h.n]; exact hk)]
  exact h2 k hk
theorem Lv.puts (h : Lv c s f0 f) {l : List (Nat × UInt8)} (hl : ∀ p ∈ l, p.1 < 4) : Lv c (s.puts l) f0 (setF f l) := by
  obtain ⟨C, h1, h0, h2⟩ := h.inv
  have h3 := h1.puts l (fun p hp => by rw [h.n]; exact hl p hp)
  have e := puts_eq l s
  exact ⟨⟨C, h3, h0, by rw [e]; exact h2.puts l⟩, by rw [e]; exact h.n, by rw [e]; exact h.log⟩
theorem Lv.rolled (h : Lv c s f0 f) : Lv c { s with late := [] } f0 f0 := by
  obtain ⟨C, h1, h0, _⟩ := h.inv
  exact ⟨⟨C, h1.rolled, h0, h0⟩, h.n, h.log⟩
theorem Lv.limited (h : Lv c s f0 f) (k : Int) (hk : k ≤ 9223372036854775807) : Lv c { s with D := s.D.limited k } f0 f := by
  obtain ⟨C, h1, h0, h2⟩ := h.inv
  exact ⟨⟨C, h1.limited k hk, h0, h2⟩, h.n, h.log⟩
theorem Lv.closed (h : Lv c s f0 f) (K : List Bool) : Off c (s.D.reopen K) f0 := by
  obtain ⟨C, h1, h0, _⟩ := h.inv
  have h3 := h1.closed K
  rw [h.n, h.log] at h3
  exact ⟨C, h3, h0⟩
theorem Lv.commit (h : Lv c s f0 f) (hc : c + 4 < 4294967296) :
    (s.commit.2 = 0 ∧ Lv (c + 3) s.commit.1 f f ∧ s.commit.1.late = []) ∨
    (s.commit.2 = 10 ∧ s.commit.1.D.dead = true ∧ ∀ K, Off (c + 3) (s.commit.1.D.reopen K) f0 ∨ Off (c + 3) (s.commit.1.D.reopen K) f) := by
  obtain ⟨C, h1, h0, h2⟩ := h.inv
  rcases h1.committed hc with ⟨a1, a2, a3, a4, a5, _⟩ | ⟨_, _, _, _, _, _, a7⟩ | ⟨a1, a2, _, a4⟩
  · exact .inl ⟨a1, ⟨⟨_, a2, h2.over, by rw [a3]; exact h2.over⟩, by rw [a4]; exact h.n, by rw [a5]; exact h.log⟩, a3⟩
  · have k1 := h1.late.few
    have k2 := recP_len h1.late.mem
    have k3 := h.n
    have k4 := h.log
    unfold needOf at a7
    split at a7 <;> omega
  · refine .inr ⟨a1, a2, fun K => ?_⟩
    rw [h.n, h.log] at a4
    rcases a4 K with d | d
    · exact .inl ⟨C, d, h0⟩
    · exact .inr ⟨_, d, h2.over⟩
theorem Lv.check (h : Lv c s f0 f) (hc : c + 1 < 4294967296) :
    (s.check.2 = 0 ∧ Lv (c + 1) s.check.1 f0 f ∧ s.check.1.late = s.late) ∨
    (s.check.2 = 10 ∧ s.check.1.D.dead = true ∧ ∀ K, Off (c + 1) (s.check.1.D.reopen K) f0) := by
  obtain ⟨C, h1, h0, h2⟩ := h.inv
  rcases h1.checked hc with ⟨a1, a2, _, a4, a5, a6, _⟩ | ⟨a1, a2, _, a4⟩
  · exact .inl ⟨a1, ⟨⟨C, a2, h0, by rw [a4]; exact h2⟩, by rw [a5]; exact h.n, by rw [a6]; exact h.log⟩, a4⟩
  · rw [h.n, h.log] at a4
    exact .inr ⟨a1, a2, fun K => ⟨C, a4 K, h0⟩⟩
theorem Off.open_ (h : Off c D f) (hc : c + 1 < 4294967296) :
    ∃ H, takeAll 4 ((recordsOf 60 none (D.S.take 60)).map (·.2)) [] = some H ∧ Lv (c + 1) (openP 4 60 D H) f f ∧ (newestOf (D.S.take 60)).1 < 4294967295 ∧ D.dead = false ∧ D.P = [] ∧ 60 + 8 * 4 ≤ D.S.length := by
  obtain ⟨C, h1, h2⟩ := h
  obtain ⟨H, k1, k2, k3⟩ := h1.open_ hc
  exact ⟨H, k1, ⟨⟨C, k2, h2, h2⟩, rfl, rfl⟩, k3, h1.dead, h1.pend, h1.fit⟩
/-- A checkpoint, and what then lies on the disk: in each case the same. -/
theorem Lv.checked (h : Lv c s f f) (hc : c + 1 < 4294967296) : (s.check.2 = 0 ∨ s.check.2 = 10) ∧ ∀ K, Off (c + 1) (s.check.1.D.reopen K) f := by
  rcases h.check hc with ⟨a1, a2, _⟩ | ⟨a1, _, a3⟩
  · exact ⟨.inl a1, a2.closed⟩
  · exact ⟨.inr a1, a3⟩
end
theorem off_new : Off 0 (DM.new 100) fun _ => 0 := ⟨_, PDisk.new (by omega) (by omega) (by omega) (by omega) (by omega), fun _ _ => rfl⟩

end Go.Proofs.Ytidpleejgalljaa
