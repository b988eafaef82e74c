/-
  The reader's states: what parsing does to them. No program in sight.
-/
import Derived.Test.YtnhlgjjdpappkaaRm
namespace Go.Proofs.Ytnhlgjjdpappkaa
open Go.RowKit

/-- A state that is come to from another one. -/
structure Ext (s s' : RS) : Prop where
  deep : s'.deep = s.deep
  len : s'.l.length ≤ s.l.length
  mem : ∀ c ∈ s'.l, c ∈ s.l
  most : s'.most ≤ max s.most (s.deep + s.l.length)
theorem Ext.refl (s : RS) : Ext s s := ⟨rfl, Nat.le_refl _, fun _ h => h, by omega⟩
theorem Ext.trans {a b c : RS} (h : Ext a b) (k : Ext b c) : Ext a c :=
  ⟨k.deep.trans h.deep, Nat.le_trans k.len h.len, fun x hx => h.mem x (k.mem x hx), by have := k.most; have := h.most; have := h.deep; have := h.len; omega⟩
theorem Ext.next (s : RS) : Ext s s.next := ⟨rfl, by rw [RS.next_len]; omega, fun c hc => List.mem_of_mem_drop hc, by show s.most ≤ _; omega⟩
theorem Ext.isS (s : RS) (c : Int) : Ext s (s.isS c) := by
  unfold RS.isS
  split
  · exact Ext.next s
  · exact Ext.refl s
theorem Ext.take {s s1 : RS} {c : Int} (h : s.take = some (c, s1)) : Ext s s1 := by
  obtain ⟨_, rfl, _⟩ := RS.take_len h
  exact Ext.next s
theorem Ext.escape {s s1 : RS} {c : Int} (h : s.escape = some (c, s1)) : Ext s s1 := by
  unfold RS.escape at h
  split at h
  · cases h
  · rename_i c1 s2 h1
    have := Ext.take h1
    repeat' split at h
    all_goals first | (simp only [Option.some.injEq, Prod.mk.injEq] at h; obtain ⟨_, rfl⟩ := h; exact this) | cases h
theorem Ext.end_ {s s1 : RS} {c : Int} (h : s.end_ = some (c, s1)) : Ext s s1 := by
  unfold RS.end_ at h
  split at h
  · cases h
  · rename_i c1 s2 h1
    have h2 := Ext.take h1
    split at h
    · exact h2.trans (Ext.escape h)
    · split at h
      · cases h
      · simp only [Option.some.injEq, Prod.mk.injEq] at h; obtain ⟨_, rfl⟩ := h; exact h2
theorem Ext.item {b : Bool} {s s1 : RS} {x : Sp} (h : s.item b = some (x, s1)) : Ext s s1 := by
  unfold RS.item at h
  split at h
  · simp only [Option.some.injEq, Prod.mk.injEq] at h; obtain ⟨_, rfl⟩ := h; exact Ext.next s
  · split at h
    · cases h
    · rename_i a s2 h1
      have h2 := Ext.end_ h1
      split at h
      · split at h
        · cases h
        · rename_i b1 s3 h3
          have h4 := (Ext.next s2).trans (Ext.end_ h3)
          split at h
          · simp only [Option.some.injEq, Prod.mk.injEq] at h; obtain ⟨_, rfl⟩ := h; exact h2.trans h4
          · cases h
      · simp only [Option.some.injEq, Prod.mk.injEq] at h; obtain ⟨_, rfl⟩ := h; exact h2
theorem Ext.items : ∀ (n : Nat) {b : Bool} {s : RS} {x : List Sp} {s' : RS}, RS.items n b s = some (x, s') → Ext s s'
  | 0, _, _, _, _, h => by cases h
  | n + 1, b, s, x, s', h => by
    unfold RS.items at h
    split at h
    · simp only [Option.some.injEq, Prod.mk.injEq] at h; obtain ⟨_, rfl⟩ := h
      exact Ext.next s
    · split at h
      · cases h
      · rename_i y s1 h1
        obtain ⟨⟨xs, s2⟩, h2, h3⟩ := Option.map_eq_some_iff.1 h
        simp only [Prod.mk.injEq] at h3
        obtain ⟨_, rfl⟩ := h3
        exact (Ext.item h1).trans (Ext.items n h2)
theorem Ext.class_ {s : RS} {p : Pt} {s' : RS} (h : s.class_ = some (p, s')) : Ext s s' := by
  unfold RS.class_ at h
  obtain ⟨⟨xs, s2⟩, h2, h3⟩ := Option.map_eq_some_iff.1 h
  simp only [Prod.mk.injEq] at h3
  obtain ⟨_, rfl⟩ := h3
  exact (Ext.isS s 94).trans (Ext.items _ h2)
theorem Ext.number {s : RS} {n : Nat} {s' : RS} (h : s.number = some (n, s')) : Ext s s' := by
  unfold RS.number at h
  split at h
  · split at h
    · simp only [Option.some.injEq, Prod.mk.injEq] at h; obtain ⟨rfl, rfl⟩ := h
      exact (Ext.next s).trans (Ext.next _)
    · simp only [Option.some.injEq, Prod.mk.injEq] at h; obtain ⟨rfl, rfl⟩ := h
      exact Ext.next s
  · cases h
theorem Ext.upper {n : Nat} {s : RS} {m : Option Nat} {s' : RS} (h : s.upper n = some (m, s')) : Ext s s' := by
  unfold RS.upper at h
  split at h
  · split at h
    · simp only [Option.some.injEq, Prod.mk.injEq] at h; obtain ⟨rfl, rfl⟩ := h
      exact Ext.next s
    · split at h
      · cases h
      · rename_i k s1 h1
        split at h
        · simp only [Option.some.injEq, Prod.mk.injEq] at h; obtain ⟨rfl, rfl⟩ := h
          exact (Ext.next s).trans (Ext.number h1)
        · cases h
  · simp only [Option.some.injEq, Prod.mk.injEq] at h; obtain ⟨rfl, rfl⟩ := h
    exact Ext.refl s
theorem Ext.times {a : Pt} {s : RS} {p : Pt} {s' : RS} (h : s.times a = some (p, s')) : Ext s s' := by
  unfold RS.times at h
  split at h
  · cases h
  · rename_i n s1 h1
    split at h
    · cases h
    · rename_i hi s2 h2
      split at h
      · simp only [Option.some.injEq, Prod.mk.injEq] at h; obtain ⟨_, rfl⟩ := h
        exact ((Ext.number h1).trans (Ext.upper h2)).trans (Ext.next s2)
      · cases h

section
variable {pat : RS → Option (Pt × RS)} (hpat : ∀ s p s', pat s = some (p, s') → Ext s s')
include hpat
theorem group_ext {s : RS} {p : Pt} {s' : RS} (h : s.group pat = some (p, s')) : s'.deep = s.deep ∧ s'.l.length ≤ s.l.length ∧ (∀ c ∈ s'.l, c ∈ s.l) ∧ s'.most ≤ max s.most (s.deep + 1 + s.l.length) := by
  unfold RS.group at h
  split at h
  · cases h
  · rename_i p1 s1 h1
    have e := hpat _ _ _ h1
    split at h
    · simp only [Option.some.injEq, Prod.mk.injEq] at h; obtain ⟨_, rfl⟩ := h
      have e1 := e.deep; have e2 := e.len; have e3 := e.most
      simp only [RS.down] at e1 e2 e3
      refine ⟨?_, ?_, fun c hc => e.mem c (List.mem_of_mem_drop hc), ?_⟩
      · show s1.deep - 1 = s.deep; omega
      · rw [RS.next_len]; show s1.l.length - 1 ≤ _; omega
      · show s1.most ≤ _; omega
    · cases h
theorem Ext.atom {s : RS} {p : Pt} {s' : RS} (h : s.atom pat = some (p, s')) : Ext s s' ∧ s'.l.length < s.l.length := by
  unfold RS.atom at h
  split at h
  · cases h
  · rename_i c s1 h1
    have e := Ext.take h1
    have hl := (RS.take_len h1).1
    split at h
    · simp only [Option.some.injEq, Prod.mk.injEq] at h; obtain ⟨_, rfl⟩ := h; exact ⟨e, by omega⟩
    · split at h
      · obtain ⟨⟨x, s2⟩, h2, h3⟩ := Option.map_eq_some_iff.1 h
        simp only [Prod.mk.injEq] at h3
        obtain ⟨_, rfl⟩ := h3
        have e2 := Ext.escape h2
        exact ⟨e.trans e2, by have := e2.len; omega⟩
      · split at h
        · have e2 := Ext.class_ h
          exact ⟨e.trans e2, by have := e2.len; omega⟩
        · split at h
          · obtain ⟨g1, g2, g3, g4⟩ := group_ext hpat h
            have e1 := e.deep; have e2 := e.most
            exact ⟨⟨g1.trans e1, by omega, fun c hc => e.mem c (g3 c hc), by omega⟩, by omega⟩
          · split at h
            · cases h
            · simp only [Option.some.injEq, Prod.mk.injEq] at h; obtain ⟨_, rfl⟩ := h; exact ⟨e, by omega⟩
theorem Ext.piece {s : RS} {p : Pt} {s' : RS} (h : s.piece pat = some (p, s')) : Ext s s' ∧ s'.l.length < s.l.length := by
  unfold RS.piece at h
  split at h
  · cases h
  · rename_i a s1 h1
    obtain ⟨e, hl⟩ := Ext.atom hpat h1
    have hn := (Ext.next s1).len
    split at h
    · simp only [Option.some.injEq, Prod.mk.injEq] at h; obtain ⟨_, rfl⟩ := h; exact ⟨e.trans (Ext.next s1), by omega⟩
    · split at h
      · simp only [Option.some.injEq, Prod.mk.injEq] at h; obtain ⟨_, rfl⟩ := h; exact ⟨e.trans (Ext.next s1), by omega⟩
      · split at h
        · simp only [Option.some.injEq, Prod.mk.injEq] at h; obtain ⟨_, rfl⟩ := h; exact ⟨e.trans (Ext.next s1), by omega⟩
        · split at h
          · have e2 := Ext.times h
            exact ⟨e.trans ((Ext.next s1).trans e2), by have := e2.len; omega⟩
          · simp only [Option.some.injEq, Prod.mk.injEq] at h; obtain ⟨_, rfl⟩ := h; exact ⟨e, by omega⟩
theorem Ext.pieces : ∀ (n : Nat) {s : RS} {x : List Pt} {s' : RS}, RS.pieces pat n s = some (x, s') → Ext s s'
  | 0, _, _, _, h => by cases h
  | n + 1, s, x, s', h => by
    unfold RS.pieces at h
    split at h
    · split at h
      · cases h
      · rename_i y s1 h1
        obtain ⟨⟨xs, s2⟩, h2, h3⟩ := Option.map_eq_some_iff.1 h
        simp only [Prod.mk.injEq] at h3
        obtain ⟨_, rfl⟩ := h3
        exact (Ext.piece hpat h1).1.trans (Ext.pieces n h2)
    · simp only [Option.some.injEq, Prod.mk.injEq] at h; obtain ⟨_, rfl⟩ := h
      exact Ext.refl s
theorem Ext.branches : ∀ (n : Nat) {s : RS} {x : List Pt} {s' : RS}, RS.branches pat n s = some (x, s') → Ext s s'
  | 0, _, _, _, h => by cases h
  | n + 1, s, x, s', h => by
    unfold RS.branches at h
    split at h
    · cases h
    · rename_i y s1 h1
      have e := Ext.pieces hpat _ h1
      split at h
      · obtain ⟨⟨xs, s2⟩, h2, h3⟩ := Option.map_eq_some_iff.1 h
        simp only [Prod.mk.injEq] at h3
        obtain ⟨_, rfl⟩ := h3
        exact e.trans ((Ext.next s1).trans (Ext.branches n h2))
      · simp only [Option.some.injEq, Prod.mk.injEq] at h; obtain ⟨_, rfl⟩ := h
        exact e
end
theorem Ext.pattern : ∀ (n : Nat) (s : RS) (p : Pt) (s' : RS), RS.pattern n s = some (p, s') → Ext s s'
  | 0, _, _, _, h => by cases h
  | n + 1, s, p, s', h => by
    unfold RS.pattern at h
    obtain ⟨⟨xs, s2⟩, h2, h3⟩ := Option.map_eq_some_iff.1 h
    simp only [Prod.mk.injEq] at h3
    obtain ⟨_, rfl⟩ := h3
    exact Ext.branches (Ext.pattern n) _ h2

/-- A state within the bounds. -/
structure RS.ok (s : RS) : Prop where
  pos : ∀ c ∈ s.l, 0 ≤ c
  room : s.deep + s.l.length ≤ 1000
  most : s.most ≤ 1000
theorem Ext.ok {s s' : RS} (h : Ext s s') (k : s.ok) : s'.ok :=
  ⟨fun c hc => k.pos c (h.mem c hc), by have := h.deep; have := h.len; have := k.room; omega, by have := h.most; have := k.most; have := k.room; omega⟩

end Go.Proofs.Ytnhlgjjdpappkaa
