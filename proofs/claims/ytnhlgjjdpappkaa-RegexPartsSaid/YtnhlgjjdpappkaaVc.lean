/-
  RegexParts, plain: a pattern reads the same in parentheses. No program in sight.
-/
import Derived.Test.YtnhlgjjdpappkaaVb
namespace Go.Proofs.Ytnhlgjjdpappkaa
open Go.RowKit

/-- The same state with a parenthesis and more behind it. -/
def RS.emb (r : List Int) (d M : Nat) (s : RS) : RS := ⟨s.l ++ 41 :: r, s.deep + d, max M (s.most + d)⟩
section
variable {r : List Int} {d M : Nat}
theorem peek_ne {s : RS} {k : Int} (h : s.peek = k) (hk : k ≠ -1) : s.l ≠ [] := fun e => hk (by rw [← h, RS.peek_nil e])
theorem emb_some {s : RS} (h : s.l ≠ []) : (s.emb r d M).peek = s.peek := by
  cases hs : s.l with
  | nil => exact absurd hs h
  | cons c l => simp [RS.emb, RS.peek, hs]
theorem emb_none {s : RS} (h : s.l = []) : (s.emb r d M).peek = 41 := by simp [RS.emb, RS.peek, h]
theorem emb_peek {s : RS} {k : Int} (h1 : k ≠ -1) (h2 : k ≠ 41) : (s.emb r d M).peek = k ↔ s.peek = k := by
  by_cases h : s.l = []
  · rw [emb_none h, RS.peek_nil h]
    exact ⟨fun e => absurd e.symm h2, fun e => absurd e.symm h1⟩
  · rw [emb_some h]
theorem emb_dig {s : RS} : isDig (s.emb r d M).peek ↔ isDig s.peek := by
  by_cases h : s.l = []
  · rw [emb_none h, RS.peek_nil h]; decide
  · rw [emb_some h]
theorem emb_on {s : RS} : (s.emb r d M).on ↔ s.on := by
  unfold RS.on
  by_cases h : s.l = []
  · rw [emb_none h, RS.peek_nil h]; decide
  · rw [emb_some h]
theorem emb_next {s : RS} (h : s.l ≠ []) : (s.emb r d M).next = s.next.emb r d M := by
  cases hs : s.l with
  | nil => exact absurd hs h
  | cons c l => simp [RS.emb, RS.next, hs]
theorem emb_last {s : RS} (h : s.l ≠ []) : (s.emb r d M).last = s.last := by
  unfold RS.last
  cases hs : s.l with
  | nil => exact absurd hs h
  | cons c l =>
    cases l with
    | nil => simp [RS.emb, hs]
    | cons e l => simp [RS.emb, hs]
theorem emb_take {s s' : RS} {c : Int} (h : s.take = some (c, s')) : (s.emb r d M).take = some (c, s'.emb r d M) := by
  obtain ⟨h1, rfl, h3⟩ := RS.take_len h
  have h0 : s.l ≠ [] := fun e => by rw [e] at h1; simp at h1
  rw [← emb_next h0]
  rw [← h3, ← emb_some (r := r) (d := d) (M := M) h0]
  unfold RS.take RS.peek
  split
  · rename_i h2
    simp [RS.emb] at h2
  · rfl
theorem emb_escape {s s' : RS} {c : Int} (h : s.escape = some (c, s')) : (s.emb r d M).escape = some (c, s'.emb r d M) := by
  unfold RS.escape at h ⊢
  split at h
  · cases h
  · rename_i c1 s1 h1
    rw [emb_take h1]
    simp only
    repeat' split at h
    all_goals first | cases h | skip
    all_goals simp_all
theorem emb_end {s s' : RS} {c : Int} (h : s.end_ = some (c, s')) : (s.emb r d M).end_ = some (c, s'.emb r d M) := by
  unfold RS.end_ at h ⊢
  split at h
  · cases h
  · rename_i c1 s1 h1
    rw [emb_take h1]
    simp only
    split at h
    · rename_i h2; rw [if_pos h2]; exact emb_escape h
    · rename_i h2
      rw [if_neg h2]
      split at h
      · cases h
      · rename_i h3
        rw [if_neg h3]
        simp only [Option.some.injEq, Prod.mk.injEq] at h
        obtain ⟨rfl, rfl⟩ := h
        rfl
theorem emb_item {s s' : RS} {b : Bool} {x : Sp} (h : s.item b = some (x, s')) : (s.emb r d M).item b = some (x, s'.emb r d M) := by
  unfold RS.item at h ⊢
  have hp : ∀ s : RS, (s.emb r d M).peek = 45 ↔ s.peek = 45 := fun s => emb_peek (by decide) (by decide)
  by_cases hc : s.peek = 45 ∧ (b = true ∨ s.last = true)
  · have h0 := peek_ne hc.1 (by decide)
    rw [if_pos hc] at h
    rw [if_pos ⟨(hp s).2 hc.1, by rw [emb_last h0]; exact hc.2⟩, emb_next h0]
    simp only [Option.some.injEq, Prod.mk.injEq] at h
    obtain ⟨rfl, rfl⟩ := h
    rfl
  · rw [if_neg hc] at h
    rw [if_neg (fun hc' => hc ⟨(hp s).1 hc'.1, by have := hc'.2; rwa [emb_last (peek_ne ((hp s).1 hc'.1) (by decide))] at this⟩)]
    split at h
    · cases h
    · rename_i a s1 h1
      rw [emb_end h1]
      simp only
      by_cases hc2 : s1.peek = 45 ∧ s1.last = false
      · have h0 := peek_ne hc2.1 (by decide)
        rw [if_pos hc2] at h
        rw [if_pos ⟨(hp s1).2 hc2.1, by rw [emb_last h0]; exact hc2.2⟩, emb_next h0]
        split at h
        · cases h
        · rename_i b1 s2 h2
          rw [emb_end h2]
          simp only
          split at h
          · rename_i hab
            rw [if_pos hab]
            simp only [Option.some.injEq, Prod.mk.injEq] at h
            obtain ⟨rfl, rfl⟩ := h
            rfl
          · cases h
      · rw [if_neg hc2] at h
        rw [if_neg (fun hc' => hc2 ⟨(hp s1).1 hc'.1, by have := hc'.2; rwa [emb_last (peek_ne ((hp s1).1 hc'.1) (by decide))] at this⟩)]
        simp only [Option.some.injEq, Prod.mk.injEq] at h
        obtain ⟨rfl, rfl⟩ := h
        rfl
theorem emb_items : ∀ (n m : Nat) {b : Bool} {s s' : RS} {x : List Sp}, RS.items n b s = some (x, s') → n ≤ m → RS.items m b (s.emb r d M) = some (x, s'.emb r d M)
  | 0, _, _, _, _, _, h, _ => by cases h
  | n + 1, 0, _, _, _, _, _, hm => by omega
  | n + 1, m + 1, b, s, s', x, h, hm => by
    unfold RS.items at h ⊢
    have hp : (s.emb r d M).peek = 93 ↔ s.peek = 93 := emb_peek (by decide) (by decide)
    by_cases hc : b = false ∧ s.peek = 93
    · rw [if_pos hc] at h
      rw [if_pos ⟨hc.1, hp.2 hc.2⟩, emb_next (peek_ne hc.2 (by decide))]
      simp only [Option.some.injEq, Prod.mk.injEq] at h
      obtain ⟨rfl, rfl⟩ := h
      rfl
    · rw [if_neg hc] at h
      rw [if_neg (fun h => hc ⟨h.1, hp.1 h.2⟩)]
      split at h
      · cases h
      · rename_i y s1 h1
        rw [emb_item h1]
        simp only
        obtain ⟨⟨xs, s2⟩, h2, h3⟩ := Option.map_eq_some_iff.1 h
        simp only [Prod.mk.injEq] at h3
        obtain ⟨rfl, rfl⟩ := h3
        rw [emb_items n m h2 (by omega)]
        rfl
theorem emb_len {s : RS} : s.l.length ≤ (s.emb r d M).l.length := by simp [RS.emb]
theorem emb_class {s s' : RS} {p : Pt} (h : s.class_ = some (p, s')) : (s.emb r d M).class_ = some (p, s'.emb r d M) := by
  unfold RS.class_ at h ⊢
  have hp : (s.emb r d M).peek = 94 ↔ s.peek = 94 := emb_peek (by decide) (by decide)
  have hs : (s.emb r d M).isS 94 = (s.isS 94).emb r d M := by
    unfold RS.isS
    by_cases hc : s.peek = 94
    · rw [if_pos hc, if_pos (hp.2 hc), emb_next (peek_ne hc (by decide))]
    · rw [if_neg hc, if_neg (fun h => hc (hp.1 h))]
  have hb : (s.emb r d M).isB 94 = s.isB 94 := by unfold RS.isB; rw [Bool.eq_iff_iff, decide_eq_true_iff, decide_eq_true_iff]; exact hp
  obtain ⟨⟨xs, s2⟩, h2, h3⟩ := Option.map_eq_some_iff.1 h
  simp only [Prod.mk.injEq] at h3
  obtain ⟨rfl, rfl⟩ := h3
  rw [hs, hb, emb_items _ _ h2 (by have := emb_len (r := r) (d := d) (M := M) (s := s); omega)]
  rfl
theorem emb_number {s s' : RS} {n : Nat} (h : s.number = some (n, s')) : (s.emb r d M).number = some (n, s'.emb r d M) := by
  unfold RS.number at h ⊢
  by_cases h1 : isDig s.peek
  · have h0 : s.l ≠ [] := peek_ne rfl (by unfold isDig at h1; omega)
    rw [if_pos h1] at h
    rw [if_pos (emb_dig.2 h1), emb_next h0]
    by_cases h2 : isDig s.next.peek
    · have h3 : s.next.l ≠ [] := peek_ne rfl (by unfold isDig at h2; omega)
      rw [if_pos h2] at h
      rw [if_pos (emb_dig.2 h2), emb_next h3, emb_some h0, emb_some h3]
      simp only [Option.some.injEq, Prod.mk.injEq] at h
      obtain ⟨rfl, rfl⟩ := h
      rfl
    · rw [if_neg h2] at h
      rw [if_neg (fun h => h2 (emb_dig.1 h)), emb_some h0]
      simp only [Option.some.injEq, Prod.mk.injEq] at h
      obtain ⟨rfl, rfl⟩ := h
      rfl
  · rw [if_neg h1] at h
    cases h
theorem emb_upper {s s' : RS} {n : Nat} {m : Option Nat} (h : s.upper n = some (m, s')) : (s.emb r d M).upper n = some (m, s'.emb r d M) := by
  unfold RS.upper at h ⊢
  have hp : ∀ (s : RS) (k : Int), k ≠ -1 → k ≠ 41 → ((s.emb r d M).peek = k ↔ s.peek = k) := fun s k h1 h2 => emb_peek h1 h2
  by_cases h1 : s.peek = 44
  · have h0 := peek_ne h1 (by decide)
    rw [if_pos h1] at h
    rw [if_pos ((hp s 44 (by decide) (by decide)).2 h1), emb_next h0]
    by_cases h2 : s.next.peek = 125
    · rw [if_pos h2] at h
      rw [if_pos ((hp _ 125 (by decide) (by decide)).2 h2)]
      simp only [Option.some.injEq, Prod.mk.injEq] at h
      obtain ⟨rfl, rfl⟩ := h
      rfl
    · rw [if_neg h2] at h
      rw [if_neg (fun h => h2 ((hp _ 125 (by decide) (by decide)).1 h))]
      split at h
      · cases h
      · rename_i k s1 h3
        rw [emb_number h3]
        simp only
        split at h
        · rename_i h4
          rw [if_pos h4]
          simp only [Option.some.injEq, Prod.mk.injEq] at h
          obtain ⟨rfl, rfl⟩ := h
          rfl
        · cases h
  · rw [if_neg h1] at h
    rw [if_neg (fun h => h1 ((hp s 44 (by decide) (by decide)).1 h))]
    simp only [Option.some.injEq, Prod.mk.injEq] at h
    obtain ⟨rfl, rfl⟩ := h
    rfl
theorem emb_times {s s' : RS} {a p : Pt} (h : s.times a = some (p, s')) : (s.emb r d M).times a = some (p, s'.emb r d M) := by
  unfold RS.times at h ⊢
  split at h
  · cases h
  · rename_i n s1 h1
    rw [emb_number h1]
    simp only
    split at h
    · cases h
    · rename_i hi s2 h2
      rw [emb_upper h2]
      simp only
      by_cases h3 : s2.peek = 125
      · rw [if_pos h3] at h
        rw [if_pos ((emb_peek (by decide) (by decide)).2 h3), emb_next (peek_ne h3 (by decide))]
        simp only [Option.some.injEq, Prod.mk.injEq] at h
        obtain ⟨rfl, rfl⟩ := h
        rfl
      · rw [if_neg h3] at h
        cases h
section
variable {pat pat' : RS → Option (Pt × RS)} (hpat : ∀ s p s', pat s = some (p, s') → pat' (s.emb r d M) = some (p, s'.emb r d M)) (hdeep : ∀ s p s', pat s = some (p, s') → Ext s s')
include hpat hdeep
theorem emb_group {s s' : RS} {p : Pt} (h : s.group pat = some (p, s')) : (s.emb r d M).group pat' = some (p, s'.emb r d M) := by
  unfold RS.group at h ⊢
  have hd : (s.emb r d M).down = s.down.emb r d M := by
    unfold RS.down RS.emb
    simp only [RS.mk.injEq, true_and]
    omega
  rw [hd]
  split at h
  · cases h
  · rename_i p1 s1 h1
    rw [hpat _ _ _ h1]
    have h4 := (hdeep _ _ _ h1).deep
    simp only
    by_cases h2 : s1.peek = 41
    · have h0 := peek_ne h2 (by decide)
      rw [if_pos h2] at h
      rw [if_pos (by rw [emb_some h0]; exact h2)]
      simp only [Option.some.injEq, Prod.mk.injEq] at h
      obtain ⟨rfl, rfl⟩ := h
      have hu : (s1.emb r d M).up = s1.up.emb r d M := by
        unfold RS.up RS.emb
        simp only [RS.mk.injEq, true_and, and_true]
        rw [h4]
        simp only [RS.down]
        omega
      rw [hu, emb_next (s := s1.up) h0]
    · rw [if_neg h2] at h
      cases h
theorem emb_atom {s s' : RS} {p : Pt} (h : s.atom pat = some (p, s')) : (s.emb r d M).atom pat' = some (p, s'.emb r d M) := by
  unfold RS.atom at h ⊢
  split at h
  · cases h
  · rename_i c s1 h1
    rw [emb_take h1]
    simp only
    split at h
    · rename_i h2
      rw [if_pos h2]
      simp only [Option.some.injEq, Prod.mk.injEq] at h
      obtain ⟨rfl, rfl⟩ := h
      rfl
    · rename_i h2
      rw [if_neg h2]
      split at h
      · rename_i h3
        rw [if_pos h3]
        obtain ⟨⟨x, s2⟩, h4, h5⟩ := Option.map_eq_some_iff.1 h
        simp only [Prod.mk.injEq] at h5
        obtain ⟨rfl, rfl⟩ := h5
        rw [emb_escape h4]
        rfl
      · rename_i h3
        rw [if_neg h3]
        split at h
        · rename_i h4
          rw [if_pos h4]
          exact emb_class h
        · rename_i h4
          rw [if_neg h4]
          split at h
          · rename_i h5
            rw [if_pos h5]
            exact emb_group hpat hdeep h
          · rename_i h5
            rw [if_neg h5]
            split at h
            · cases h
            · rename_i h6
              rw [if_neg h6]
              simp only [Option.some.injEq, Prod.mk.injEq] at h
              obtain ⟨rfl, rfl⟩ := h
              rfl
theorem emb_piece {s s' : RS} {p : Pt} (h : s.piece pat = some (p, s')) : (s.emb r d M).piece pat' = some (p, s'.emb r d M) := by
  unfold RS.piece at h ⊢
  split at h
  · cases h
  · rename_i a s1 h1
    rw [emb_atom hpat hdeep h1]
    simp only
    have hp : ∀ (k : Int), k ≠ -1 → k ≠ 41 → ((s1.emb r d M).peek = k ↔ s1.peek = k) := fun k h1 h2 => emb_peek h1 h2
    by_cases h2 : s1.peek = 42
    · rw [if_pos h2] at h
      rw [if_pos ((hp 42 (by decide) (by decide)).2 h2), emb_next (peek_ne h2 (by decide))]
      simp only [Option.some.injEq, Prod.mk.injEq] at h
      obtain ⟨rfl, rfl⟩ := h
      rfl
    · rw [if_neg h2] at h
      rw [if_neg (fun h => h2 ((hp 42 (by decide) (by decide)).1 h))]
      by_cases h3 : s1.peek = 43
      · rw [if_pos h3] at h
        rw [if_pos ((hp 43 (by decide) (by decide)).2 h3), emb_next (peek_ne h3 (by decide))]
        simp only [Option.some.injEq, Prod.mk.injEq] at h
        obtain ⟨rfl, rfl⟩ := h
        rfl
      · rw [if_neg h3] at h
        rw [if_neg (fun h => h3 ((hp 43 (by decide) (by decide)).1 h))]
        by_cases h4 : s1.peek = 63
        · rw [if_pos h4] at h
          rw [if_pos ((hp 63 (by decide) (by decide)).2 h4), emb_next (peek_ne h4 (by decide))]
          simp only [Option.some.injEq, Prod.mk.injEq] at h
          obtain ⟨rfl, rfl⟩ := h
          rfl
        · rw [if_neg h4] at h
          rw [if_neg (fun h => h4 ((hp 63 (by decide) (by decide)).1 h))]
          by_cases h5 : s1.peek = 123
          · rw [if_pos h5] at h
            rw [if_pos ((hp 123 (by decide) (by decide)).2 h5), emb_next (peek_ne h5 (by decide))]
            exact emb_times h
          · rw [if_neg h5] at h
            rw [if_neg (fun h => h5 ((hp 123 (by decide) (by decide)).1 h))]
            simp only [Option.some.injEq, Prod.mk.injEq] at h
            obtain ⟨rfl, rfl⟩ := h
            rfl
theorem emb_pieces : ∀ (n m : Nat) {s s' : RS} {x : List Pt}, RS.pieces pat n s = some (x, s') → n ≤ m → RS.pieces pat' m (s.emb r d M) = some (x, s'.emb r d M)
  | 0, _, _, _, _, h, _ => by cases h
  | n + 1, 0, _, _, _, _, hm => by omega
  | n + 1, m + 1, s, s', x, h, hm => by
    unfold RS.pieces at h ⊢
    by_cases ho : s.on
    · rw [if_pos ho] at h
      rw [if_pos (emb_on.2 ho)]
      split at h
      · cases h
      · rename_i y s1 h1
        rw [emb_piece hpat hdeep h1]
        simp only
        obtain ⟨⟨xs, s2⟩, h2, h3⟩ := Option.map_eq_some_iff.1 h
        simp only [Prod.mk.injEq] at h3
        obtain ⟨rfl, rfl⟩ := h3
        rw [emb_pieces n m h2 (by omega)]
        rfl
    · rw [if_neg ho] at h
      rw [if_neg (fun h => ho (emb_on.1 h))]
      simp only [Option.some.injEq, Prod.mk.injEq] at h
      obtain ⟨rfl, rfl⟩ := h
      rfl
theorem emb_branches : ∀ (n m : Nat) {s s' : RS} {x : List Pt}, RS.branches pat n s = some (x, s') → n ≤ m → RS.branches pat' m (s.emb r d M) = some (x, s'.emb r d M)
  | 0, _, _, _, _, h, _ => by cases h
  | n + 1, 0, _, _, _, _, hm => by omega
  | n + 1, m + 1, s, s', x, h, hm => by
    unfold RS.branches at h ⊢
    split at h
    · cases h
    · rename_i y s1 h1
      rw [emb_pieces hpat hdeep _ ((s.emb r d M).l.length + 1) h1 (by have := emb_len (r := r) (d := d) (M := M) (s := s); omega)]
      simp only
      by_cases h2 : s1.peek = 124
      · rw [if_pos h2] at h
        rw [if_pos ((emb_peek (by decide) (by decide)).2 h2), emb_next (peek_ne h2 (by decide))]
        obtain ⟨⟨xs, s2⟩, h3, h4⟩ := Option.map_eq_some_iff.1 h
        simp only [Prod.mk.injEq] at h4
        obtain ⟨rfl, rfl⟩ := h4
        rw [emb_branches n m h3 (by omega)]
        rfl
      · rw [if_neg h2] at h
        rw [if_neg (fun h => h2 ((emb_peek (by decide) (by decide)).1 h))]
        simp only [Option.some.injEq, Prod.mk.injEq] at h
        obtain ⟨rfl, rfl⟩ := h
        rfl
end
theorem emb_pattern : ∀ (n m : Nat) (s : RS) (p : Pt) (s' : RS), RS.pattern n s = some (p, s') → n ≤ m → RS.pattern m (s.emb r d M) = some (p, s'.emb r d M)
  | 0, _, _, _, _, h, _ => by cases h
  | n + 1, 0, _, _, _, _, hm => by omega
  | n + 1, m + 1, s, p, s', h, hm => by
    unfold RS.pattern at h ⊢
    obtain ⟨⟨xs, s2⟩, h2, h3⟩ := Option.map_eq_some_iff.1 h
    simp only [Prod.mk.injEq] at h3
    obtain ⟨rfl, rfl⟩ := h3
    rw [emb_branches (fun s p s' h => emb_pattern n m s p s' h (by omega)) (Ext.pattern n) _ ((s.emb r d M).l.length + 1) h2 (by have := emb_len (r := r) (d := d) (M := M) (s := s); omega)]
    rfl
end

/-- What reads whole alone reads whole in parentheses. -/
theorem atom_paren {la : List Int} {p : Pt} {s' : RS} {n : Nat} (h : RS.pattern (la.length + 1) ⟨la, 0, 0⟩ = some (p, s')) (hs : s'.l = []) (hn : la.length + 1 ≤ n) (r : List Int) (d m : Nat) : ∃ m', RS.atom (RS.pattern n) ⟨40 :: (la ++ 41 :: r), d, m⟩ = some (p, ⟨r, d, m'⟩) := by
  have h1 := emb_pattern (r := r) (d := d + 1) (M := max m (d + 1)) _ n _ _ _ h hn
  have hd := (Ext.pattern _ _ _ _ h).deep
  have he : RS.down ⟨la ++ 41 :: r, d, m⟩ = (RS.mk la 0 0).emb r (d + 1) (max m (d + 1)) := by
    unfold RS.down RS.emb
    simp only [RS.mk.injEq, true_and]
    omega
  refine ⟨max (max m (d + 1)) (s'.most + (d + 1)), ?_⟩
  unfold RS.atom RS.take RS.next
  simp only [List.drop_succ_cons, List.drop_zero]
  rw [if_neg (by decide), if_neg (by decide), if_neg (by decide), if_pos trivial]
  unfold RS.group
  rw [he, h1]
  simp only
  rw [if_pos (emb_none hs)]
  unfold RS.emb RS.up RS.next
  rw [hs, hd]
  simp
/-- A text as a pattern: it reads whole. -/
theorem parsedL_some {l : List UInt8} {e : Int} {p : Pt} (h : parsedL l = (e, some p)) : ∃ s', RS.pattern ((runesOf l).length + 1) ⟨runesOf l, 0, 0⟩ = some (p, s') ∧ s'.l = [] ∧ (∀ c ∈ runesOf l, c < 2097152) ∧ e = 0 := by
  unfold parsedL parsedOf at h
  split at h
  · cases h
  · split at h
    · cases h
    · rename_i p' s hp
      split at h
      · cases h
      · rename_i h1
        split at h
        · cases h
        · split at h
          · cases h
          · cases h
            refine ⟨s, hp, Classical.byContradiction fun hn => h1 (.inl hn), fun c hc => ?_, rfl⟩
            refine Int.not_le.1 fun hn => h1 (.inr ?_)
            rw [List.any_eq_true]
            exact ⟨c, hc, by simpa using hn⟩
theorem runes_paren {l : List UInt8} (hv : ∀ c ∈ runesOf l, c < 2097152) (r : List UInt8) : runesOf (40 :: (l ++ 41 :: r)) = 40 :: (runesOf l ++ 41 :: runesOf r) := by
  rw [runesOf_cons (by decide), runesOf_valid _ l _ (Nat.le_refl _) hv, runesOf_cons (by decide)]
  rfl
/-- One part in parentheses, then what stands behind it. -/
theorem piece_plain {pat : RS → Option (Pt × RS)} {s : RS} {a : Pt} {l : List Int} {d m : Nat} (h : s.atom pat = some (a, ⟨l, d, m⟩)) (hl : RS.peek ⟨l, d, m⟩ ≠ 42 ∧ RS.peek ⟨l, d, m⟩ ≠ 43 ∧ RS.peek ⟨l, d, m⟩ ≠ 63 ∧ RS.peek ⟨l, d, m⟩ ≠ 123) : s.piece pat = some (a, ⟨l, d, m⟩) := by
  unfold RS.piece
  rw [h]
  simp only
  rw [if_neg hl.1, if_neg hl.2.1, if_neg hl.2.2.1, if_neg hl.2.2.2]
theorem on_paren (l : List Int) (d m : Nat) : (RS.mk (40 :: l) d m).on := by unfold RS.on; simp [RS.peek]
theorem pieces_end (pat : RS → Option (Pt × RS)) (n : Nat) (s : RS) (h : ¬s.on) : RS.pieces pat (n + 1) s = some ([], s) := by
  unfold RS.pieces
  rw [if_neg h]
theorem pieces_on {pat : RS → Option (Pt × RS)} {n : Nat} {s s' : RS} {a : Pt} (h : s.on) (hp : s.piece pat = some (a, s')) : RS.pieces pat (n + 1) s = (RS.pieces pat n s').map fun r => (a :: r.1, r.2) := by
  rw [RS.pieces, if_pos h, hp]
section
variable {la lb : List UInt8} {ea eb : Int} {pa pb : Pt} (ha : parsedL la = (ea, some pa)) (hb : parsedL lb = (eb, some pb))
include ha hb
theorem read_row : ∃ m, RS.pattern ((runesOf (40 :: (la ++ 41 :: (40 :: (lb ++ [41]))))).length + 1) ⟨runesOf (40 :: (la ++ 41 :: (40 :: (lb ++ [41])))), 0, 0⟩ = some (.pick [.row [pa, pb]], ⟨[], 0, m⟩) := by
  obtain ⟨sa, ha1, ha2, ha3, _⟩ := parsedL_some ha
  obtain ⟨sb, hb1, hb2, hb3, _⟩ := parsedL_some hb
  rw [runes_paren ha3, runes_paren hb3, runesOf_nil]
  obtain ⟨n, hn⟩ : ∃ n, n = (40 :: (runesOf la ++ 41 :: 40 :: (runesOf lb ++ [41]))).length := ⟨_, rfl⟩
  rw [← hn]
  simp only [List.length_cons, List.length_append, List.length_nil] at hn
  obtain ⟨m1, h1⟩ := atom_paren (n := n) ha1 ha2 (by omega) (40 :: (runesOf lb ++ [41])) 0 0
  obtain ⟨m2, h2⟩ := atom_paren (n := n) hb1 hb2 (by omega) [] 0 m1
  refine ⟨m2, pattern_row ?_⟩
  simp only [List.length_cons, List.length_append, List.length_nil]
  have e : ∃ k, (runesOf la).length + ((runesOf lb).length + (0 + 1) + 1 + 1) + 1 + 1 = k + 3 := ⟨(runesOf la).length + (runesOf lb).length + 2, by omega⟩
  obtain ⟨k, hk⟩ := e
  rw [hk, pieces_on (on_paren _ _ _) (piece_plain h1 (by simp [RS.peek])), pieces_on (on_paren _ _ _) (piece_plain h2 (by simp [RS.peek])), pieces_end _ _ _ (by unfold RS.on; simp [RS.peek])]
  rfl
theorem read_pick : ∃ m, RS.pattern ((runesOf (40 :: (la ++ 41 :: (124 :: 40 :: (lb ++ [41]))))).length + 1) ⟨runesOf (40 :: (la ++ 41 :: (124 :: 40 :: (lb ++ [41])))), 0, 0⟩ = some (.pick [.row [pa], .row [pb]], ⟨[], 0, m⟩) := by
  obtain ⟨sa, ha1, ha2, ha3, _⟩ := parsedL_some ha
  obtain ⟨sb, hb1, hb2, hb3, _⟩ := parsedL_some hb
  rw [runes_paren ha3, runesOf_cons (by decide), runes_paren hb3, runesOf_nil]
  rw [show ((124 : UInt8).toNat : Int) = 124 from rfl]
  obtain ⟨n, hn⟩ : ∃ n, n = (40 :: (runesOf la ++ 41 :: 124 :: 40 :: (runesOf lb ++ [41]))).length := ⟨_, rfl⟩
  rw [← hn]
  simp only [List.length_cons, List.length_append, List.length_nil] at hn
  obtain ⟨m1, h1⟩ := atom_paren (n := n) ha1 ha2 (by omega) (124 :: 40 :: (runesOf lb ++ [41])) 0 0
  obtain ⟨m2, h2⟩ := atom_paren (n := n) hb1 hb2 (by omega) [] 0 m1
  refine ⟨m2, ?_⟩
  have hb3 : ∀ k, RS.branches (RS.pattern n) (k + 1) ⟨40 :: (runesOf lb ++ [41]), 0, m1⟩ = some ([.row [pb]], ⟨[], 0, m2⟩) := fun k => by
    rw [RS.branches]
    have e : ∃ k, (RS.mk (40 :: (runesOf lb ++ [41])) 0 m1).l.length + 1 = k + 2 := ⟨(runesOf lb).length + 1, by simp⟩
    obtain ⟨k, hk⟩ := e
    rw [hk, pieces_on (on_paren _ _ _) (piece_plain h2 (by simp [RS.peek])), pieces_end _ _ _ (by unfold RS.on; simp [RS.peek])]
    simp [RS.peek]
  unfold RS.pattern
  have e2 : ∃ k, (RS.mk (40 :: (runesOf la ++ 41 :: 124 :: 40 :: (runesOf lb ++ [41]))) 0 0).l.length + 1 = k + 2 := ⟨(runesOf la).length + (runesOf lb).length + 4, by simp; omega⟩
  obtain ⟨k, hk⟩ := e2
  rw [hk, RS.branches, hk, pieces_on (on_paren _ _ _) (piece_plain h1 (by simp [RS.peek])), pieces_end _ _ _ (by unfold RS.on; simp [RS.peek])]
  simp only [Option.map_some]
  have hp124 : RS.peek ⟨124 :: 40 :: (runesOf lb ++ [41]), 0, m1⟩ = 124 := rfl
  rw [if_pos hp124]
  unfold RS.next
  simp only [List.drop_succ_cons, List.drop_zero]
  rw [hb3]
  rfl
omit hb in
theorem read_star : ∃ m, RS.pattern ((runesOf (40 :: (la ++ 41 :: [42]))).length + 1) ⟨runesOf (40 :: (la ++ 41 :: [42])), 0, 0⟩ = some (.pick [.row [.star pa]], ⟨[], 0, m⟩) := by
  obtain ⟨sa, ha1, ha2, ha3, _⟩ := parsedL_some ha
  rw [runes_paren ha3, runesOf_cons (by decide), runesOf_nil]
  rw [show ((42 : UInt8).toNat : Int) = 42 from rfl]
  obtain ⟨n, hn⟩ : ∃ n, n = (40 :: (runesOf la ++ 41 :: [42])).length := ⟨_, rfl⟩
  rw [← hn]
  simp only [List.length_cons, List.length_append, List.length_nil] at hn
  obtain ⟨m1, h1⟩ := atom_paren (n := n) ha1 ha2 (by omega) [42] 0 0
  refine ⟨m1, pattern_row ?_⟩
  have hp : RS.piece (RS.pattern n) ⟨40 :: (runesOf la ++ 41 :: [42]), 0, 0⟩ = some (.star pa, ⟨[], 0, m1⟩) := by
    unfold RS.piece
    rw [h1]
    simp [RS.peek, RS.next]
  have e : ∃ k, (RS.mk (40 :: (runesOf la ++ 41 :: [42])) 0 0).l.length + 1 = k + 2 := ⟨(runesOf la).length + 2, by simp⟩
  obtain ⟨k, hk⟩ := e
  rw [hk, pieces_on (on_paren _ _ _) hp, pieces_end _ _ _ (by unfold RS.on; simp [RS.peek])]
  rfl
end
/-- Whatever reads so and is a pattern at all is that one. -/
theorem parsed_is {l : List UInt8} {p q : Pt} {e : Int} {s' : RS} (h : parsedL l = (e, some q)) (hr : RS.pattern ((runesOf l).length + 1) ⟨runesOf l, 0, 0⟩ = some (p, s')) : q = p := by
  obtain ⟨s1, h1, _⟩ := parsedL_some h
  rw [h1] at hr
  simp only [Option.some.injEq, Prod.mk.injEq] at hr
  exact hr.1
theorem lang_two (a b : Pt) (l : List Int) : Lang (.pick [.row [a, b]]) l ↔ Cat (Lang a) (Lang b) l := by
  have h1 : ∀ t, LangRow [b] t ↔ Lang b t := fun t => by
    rw [LangRow]
    constructor
    · rintro ⟨x, y, rfl, hx, hy⟩; rw [LangRow] at hy; subst hy; rwa [List.append_nil]
    · intro h; exact ⟨t, [], by simp, h, by rw [LangRow]⟩
  rw [Lang, LangPick, LangPick, Lang, or_false, LangRow]
  constructor
  · rintro ⟨x, y, rfl, hx, hy⟩; exact ⟨x, y, rfl, hx, (h1 y).1 hy⟩
  · rintro ⟨x, y, rfl, hx, hy⟩; exact ⟨x, y, rfl, hx, (h1 y).2 hy⟩
theorem lang_either (a b : Pt) (l : List Int) : Lang (.pick [.row [a], .row [b]]) l ↔ Lang a l ∨ Lang b l := by
  rw [← lang_one a, ← lang_one b]
  simp only [Lang, LangPick, or_false]
theorem lang_star (a : Pt) (l : List Int) : Lang (.pick [.row [.star a]]) l ↔ Star (Lang a) l := by rw [lang_one, Lang]
theorem chars_app {t u : ByteArray} (h : ∀ c ∈ chars t, c < 2097152) : chars (t ++ u) = chars t ++ chars u := by
  unfold chars
  rw [strBytes_app, runesOf_valid _ _ _ (Nat.le_refl _) h]

end Go.Proofs.Ytnhlgjjdpappkaa
