/-
  RegexClass and RegexQuotes, plain: which patterns these texts are. No program in sight.
-/
import Derived.Test.YtnhlgjjdpappkaaVa
namespace Go.Proofs.Ytnhlgjjdpappkaa
open Go.RowKit

/-- A pattern of one atom alone. -/
theorem single_atom {pat : RS → Option (Pt × RS)} {s : RS} {a : Pt} {d m : Nat} (hon : s.on) (h : s.atom pat = some (a, ⟨[], d, m⟩)) (k j : Nat) (hk : 2 ≤ k) : s.pieces pat k = some ([a], ⟨[], d, m⟩) := by
  obtain ⟨k, rfl⟩ : ∃ i, k = i + 2 := ⟨k - 2, by omega⟩
  have hp : s.piece pat = some (a, ⟨[], d, m⟩) := by
    unfold RS.piece
    rw [h]
    simp [RS.peek]
  unfold RS.pieces
  rw [if_pos hon, hp]
  simp only
  unfold RS.pieces
  rw [if_neg (by unfold RS.on; simp [RS.peek])]
  rfl
theorem pattern_row {n : Nat} {s : RS} {x : List Pt} {d m : Nat} (h : s.pieces (RS.pattern n) (s.l.length + 1) = some (x, ⟨[], d, m⟩)) : RS.pattern (n + 1) s = some (.pick [.row x], ⟨[], d, m⟩) := by
  unfold RS.pattern RS.branches
  rw [h]
  simp [RS.peek]
theorem parsed_of {l : List UInt8} {p : Pt} {m : Nat} (hl : l.length ≤ 300) (ha : ∀ c ∈ l, c.toNat < 128) (h : RS.pattern (l.length + 1) ⟨asc l, 0, 0⟩ = some (p, ⟨[], 0, m⟩)) (hm : m ≤ 20) (hs : p.size ≤ 2000) : parsedL l = (0, some p) := by
  unfold parsedL parsedOf
  rw [if_neg (by omega), runesOf_asc0 l ha]
  have hlen : (asc l).length = l.length := by simp [asc]
  rw [hlen, h]
  simp only
  rw [if_neg, if_neg (by omega), if_neg (by omega)]
  rintro (h | h)
  · exact h rfl
  · rw [List.any_eq_true] at h
    obtain ⟨c, hc, h⟩ := h
    simp only [asc, List.mem_map] at hc
    obtain ⟨b, hb, rfl⟩ := hc
    have := ha b hb
    simp at h
    omega
theorem parsed_bad {l : List UInt8} (hl : l.length ≤ 300) (ha : ∀ c ∈ l, c.toNat < 128) (h : RS.pattern (l.length + 1) ⟨asc l, 0, 0⟩ = none) : parsedL l = (2, none) := by
  unfold parsedL parsedOf
  rw [if_neg (by omega), runesOf_asc0 l ha]
  have hlen : (asc l).length = l.length := by simp [asc]
  rw [hlen, h]

/-! ### Classes -/
def isLet (c : Int) : Prop := 97 ≤ c ∧ c ≤ 122
def one (c : Int) : Sp := ⟨c, c⟩
theorem end_letter {c : Int} (h : isLet c) (l : List Int) (d m : Nat) : RS.end_ ⟨c :: l, d, m⟩ = some (c, ⟨l, d, m⟩) := by
  unfold isLet at h
  unfold RS.end_ RS.take RS.next
  simp only [List.drop_succ_cons, List.drop_zero]
  rw [if_neg (by omega), if_neg]
  unfold amongB closers
  simp
  omega
theorem item_letter {c : Int} (h : isLet c) (b : Bool) (l : List Int) (d m : Nat) (hl : RS.peek ⟨l, d, m⟩ ≠ 45) : RS.item b ⟨c :: l, d, m⟩ = some (one c, ⟨l, d, m⟩) := by
  unfold RS.item
  rw [if_neg (by unfold isLet at h; simp only [RS.peek]; omega), end_letter h]
  simp only
  rw [if_neg (fun h => hl h.1)]
  rfl
theorem items_letters (r : List Int) (d m : Nat) : ∀ (l : List Int) (n : Nat) (b : Bool), (∀ c ∈ l, isLet c) → (b = false ∨ l ≠ []) → l.length < n → RS.items n b ⟨l ++ 93 :: r, d, m⟩ = some (l.map one, ⟨r, d, m⟩)
  | [], n, b, _, hb, hn => by
    obtain ⟨n, rfl⟩ : ∃ k, n = k + 1 := ⟨n - 1, by omega⟩
    have hb' : b = false := hb.resolve_right (fun h => h rfl)
    subst hb'
    unfold RS.items
    rw [if_pos ⟨rfl, rfl⟩]
    rfl
  | c :: l, n, b, h, _, hn => by
    obtain ⟨n, rfl⟩ : ∃ k, n = k + 1 := ⟨n - 1, by omega⟩
    have hc := h c (List.mem_cons_self ..)
    have hc' := hc
    unfold isLet at hc'
    unfold RS.items
    rw [List.cons_append, if_neg (fun h => by have := h.2; simp only [RS.peek] at this; omega), item_letter hc]
    · simp only
      rw [items_letters r d m l n false (fun c hc => h c (List.mem_cons_of_mem _ hc)) (.inl rfl) (by simp at hn; omega)]
      rfl
    · cases l with
      | nil => simp [RS.peek]
      | cons e l =>
        have := h e (by simp)
        unfold isLet at this
        simp only [List.cons_append, RS.peek]
        omega
theorem class_on {l : List Int} {d m : Nat} : (RS.mk (91 :: l) d m).on := by unfold RS.on; simp [RS.peek]
theorem atom_class {pat : RS → Option (Pt × RS)} (l : List Int) (d m : Nat) : RS.atom pat ⟨91 :: l, d, m⟩ = RS.class_ ⟨l, d, m⟩ := by
  unfold RS.atom RS.take RS.next
  simp
theorem class_just {l : List Int} (h : ∀ c ∈ l, isLet c) (h0 : l ≠ []) (d m : Nat) : RS.class_ ⟨l ++ [93], d, m⟩ = some (.char false (l.map one), ⟨[], d, m⟩) := by
  have hp : RS.peek ⟨l ++ [93], d, m⟩ ≠ 94 := by
    cases l with
    | nil => exact absurd rfl h0
    | cons c l =>
      have := h c (List.mem_cons_self ..)
      unfold isLet at this
      simp only [List.cons_append, RS.peek]
      omega
  unfold RS.class_ RS.isS RS.isB
  rw [if_neg hp, items_letters [] d m l _ true h (.inr h0) (by simp only [List.length_append, List.length_cons, List.length_nil]; omega)]
  simp [hp]
theorem class_not {l : List Int} (h : ∀ c ∈ l, isLet c) (h0 : l ≠ []) (d m : Nat) : RS.class_ ⟨94 :: (l ++ [93]), d, m⟩ = some (.char true (l.map one), ⟨[], d, m⟩) := by
  have hp : RS.peek ⟨94 :: (l ++ [93]), d, m⟩ = 94 := rfl
  unfold RS.class_ RS.isS RS.isB
  rw [if_pos hp]
  unfold RS.next
  simp only [List.drop_succ_cons, List.drop_zero]
  rw [items_letters [] d m l _ true h (.inr h0) (by simp only [List.length_append, List.length_cons, List.length_nil]; omega)]
  simp [hp]
theorem class_range {a b : Int} (ha : isLet a) (hb : isLet b) (d m : Nat) : RS.class_ ⟨[a, 45, b, 93], d, m⟩ = if a ≤ b then some (.char false [⟨a, b⟩], ⟨[], d, m⟩) else none := by
  have ha' := ha
  have hb' := hb
  unfold isLet at ha' hb'
  have hp : RS.peek ⟨[a, 45, b, 93], d, m⟩ ≠ 94 := by simp only [RS.peek]; omega
  have hi : RS.item true ⟨[a, 45, b, 93], d, m⟩ = if a ≤ b then some (⟨a, b⟩, ⟨[93], d, m⟩) else none := by
    unfold RS.item
    rw [if_neg (by simp only [RS.peek]; omega), end_letter ha]
    simp only
    have hlast : RS.last ⟨[45, b, 93], d, m⟩ = false := by
      unfold RS.last
      simp
      omega
    rw [if_pos ⟨rfl, hlast⟩]
    unfold RS.next
    simp only [List.drop_succ_cons, List.drop_zero]
    rw [end_letter hb]
  unfold RS.class_ RS.isS RS.isB
  rw [if_neg hp]
  unfold RS.items
  rw [if_neg (by simp), hi]
  by_cases hab : a ≤ b
  · rw [if_pos hab, if_pos hab]
    simp only [List.length_cons, List.length_nil]
    unfold RS.items
    rw [if_pos ⟨rfl, rfl⟩]
    simp [hp, RS.next]
  · rw [if_neg hab, if_neg hab]
    rfl
theorem one_any (l : List Int) (c : Int) : (l.map one).any (inSp c) = decide (c ∈ l) := by
  rw [Bool.eq_iff_iff, List.any_eq_true, decide_eq_true_iff]
  constructor
  · rintro ⟨x, hx, h⟩
    obtain ⟨d, hd, rfl⟩ := List.mem_map.1 hx
    unfold inSp one at h
    simp at h
    have : c = d := by omega
    exact this ▸ hd
  · intro h
    exact ⟨one c, List.mem_map_of_mem h, by unfold inSp one; simp⟩
theorem lang_class (neg : Bool) (set : List Sp) (l : List Int) : Lang (.pick [.row [.char neg set]]) l ↔ ∃ c, l = [c] ∧ hasB neg set c = true := by rw [lang_one, Lang]
theorem asc_app (a b : List UInt8) : asc (a ++ b) = asc a ++ asc b := by simp [asc]
def letU (l : List UInt8) : Prop := ∀ c ∈ l, 97 ≤ c.toNat ∧ c.toNat ≤ 122
theorem letU_asc {l : List UInt8} (h : letU l) : ∀ c ∈ asc l, isLet c := by
  intro c hc
  simp only [asc, List.mem_map] at hc
  obtain ⟨b, hb, rfl⟩ := hc
  have := h b hb
  unfold isLet
  omega
theorem parsed_just {l : List UInt8} (h : letU l) (h0 : l ≠ []) (hl : l.length ≤ 50) : parsedL ([91] ++ l ++ [93]) = (0, some (.pick [.row [.char false ((asc l).map one)]])) := by
  have ha : ∀ c ∈ [91] ++ l ++ [93], c.toNat < 128 := by
    intro c hc
    simp only [List.mem_append, List.mem_cons, List.not_mem_nil, or_false] at hc
    rcases hc with (rfl | hc) | rfl
    · decide
    · have := h c hc; omega
    · decide
  refine parsed_of (m := 0) (by simp; omega) ha ?_ (by omega) (by simp [Pt.size, sizes])
  rw [show asc ([91] ++ l ++ [93]) = 91 :: (asc l ++ [93]) by simp [asc]]
  refine pattern_row (single_atom class_on ?_ _ 0 (by simp))
  rw [atom_class]
  exact class_just (letU_asc h) (by intro e; exact h0 (List.map_eq_nil_iff.1 e)) 0 0
theorem parsed_not {l : List UInt8} (h : letU l) (h0 : l ≠ []) (hl : l.length ≤ 50) : parsedL ([91, 94] ++ l ++ [93]) = (0, some (.pick [.row [.char true ((asc l).map one)]])) := by
  have ha : ∀ c ∈ [91, 94] ++ l ++ [93], c.toNat < 128 := by
    intro c hc
    simp only [List.mem_append, List.mem_cons, List.not_mem_nil, or_false] at hc
    rcases hc with ((rfl | rfl) | hc) | rfl
    · decide
    · decide
    · have := h c hc; omega
    · decide
  refine parsed_of (m := 0) (by simp; omega) ha ?_ (by omega) (by simp [Pt.size, sizes])
  rw [show asc ([91, 94] ++ l ++ [93]) = 91 :: 94 :: (asc l ++ [93]) by simp [asc]]
  refine pattern_row (single_atom class_on ?_ _ 0 (by simp))
  rw [atom_class]
  exact class_not (letU_asc h) (by intro e; exact h0 (List.map_eq_nil_iff.1 e)) 0 0
theorem parsed_range {a b : UInt8} (ha : 97 ≤ a.toNat ∧ a.toNat ≤ 122) (hb : 97 ≤ b.toNat ∧ b.toNat ≤ 122) : parsedL [91, a, 45, b, 93] = if a.toNat ≤ b.toNat then (0, some (.pick [.row [.char false [⟨a.toNat, b.toNat⟩]]])) else (2, none) := by
  have hasc : ∀ c ∈ [91, a, 45, b, 93], c.toNat < 128 := by
    intro c hc
    simp only [List.mem_cons, List.not_mem_nil, or_false] at hc
    rcases hc with rfl | rfl | rfl | rfl | rfl
    · decide
    · omega
    · decide
    · omega
    · decide
  have ha' : isLet (a.toNat : Int) := by unfold isLet; omega
  have hb' : isLet (b.toNat : Int) := by unfold isLet; omega
  have hat : ∀ pat, RS.atom pat ⟨asc [91, a, 45, b, 93], 0, 0⟩ = if (a.toNat : Int) ≤ (b.toNat : Int) then some (.char false [⟨a.toNat, b.toNat⟩], ⟨[], 0, 0⟩) else none := fun pat => by
    rw [show asc [91, a, 45, b, 93] = 91 :: [(a.toNat : Int), 45, (b.toNat : Int), 93] by rfl, atom_class, class_range ha' hb']
  by_cases hab : a.toNat ≤ b.toNat
  · rw [if_pos hab]
    refine parsed_of (m := 0) (by simp) hasc ?_ (by omega) (by simp [Pt.size, sizes])
    refine pattern_row (single_atom class_on ?_ _ 0 (by simp [asc]))
    exact (hat _).trans (if_pos (by omega))
  · rw [if_neg hab]
    refine parsed_bad (by simp) hasc ?_
    have hpc : ∀ pat k, RS.pieces pat (k + 1) ⟨asc [91, a, 45, b, 93], 0, 0⟩ = none := fun pat k => by
      unfold RS.pieces
      have hon : (RS.mk (asc [91, a, 45, b, 93]) 0 0).on := class_on (l := [(a.toNat : Int), 45, (b.toNat : Int), 93])
      rw [if_pos hon]
      unfold RS.piece
      rw [hat, if_neg (by omega)]
    unfold RS.pattern RS.branches
    rw [hpc]
    rfl

/-! ### Quoted texts -/
def spU (c : UInt8) : Bool := decide ((c.toNat : Int) ∈ special)
def quoteL : List UInt8 → List UInt8
  | [] => []
  | c :: l => (if spU c = true then [92, c] else [c]) ++ quoteL l
theorem quoteL_app : ∀ (a b : List UInt8), quoteL (a ++ b) = quoteL a ++ quoteL b
  | [], b => rfl
  | c :: a, b => by rw [List.cons_append, quoteL, quoteL, quoteL_app a b, List.append_assoc]
theorem quoteL_len : ∀ (l : List UInt8), l.length ≤ (quoteL l).length
  | [] => by simp
  | c :: l => by
    have := quoteL_len l
    rw [quoteL]
    split <;> simp <;> omega
/-- What a quoted text begins with says nothing. -/
theorem quote_peek (l : List UInt8) (d m : Nat) : RS.peek ⟨asc (quoteL l), d, m⟩ = -1 ∧ l = [] ∨ 0 ≤ RS.peek ⟨asc (quoteL l), d, m⟩ ∧ (RS.peek ⟨asc (quoteL l), d, m⟩ = 92 ∨ RS.peek ⟨asc (quoteL l), d, m⟩ ∉ special) := by
  cases l with
  | nil => exact .inl ⟨rfl, rfl⟩
  | cons c l =>
    right
    rw [quoteL]
    by_cases h : spU c = true
    · rw [if_pos h]
      exact ⟨by simp [asc, RS.peek], .inl (by simp [asc, RS.peek])⟩
    · rw [if_neg h]
      unfold spU at h
      rw [decide_eq_true_eq] at h
      exact ⟨by simp [asc, RS.peek], .inr (by simpa [asc, RS.peek] using h)⟩
theorem barred_special {c : Int} (h : c ∈ barred) : c ∈ special := by
  unfold barred at h
  simp only [List.mem_cons, List.not_mem_nil, or_false] at h
  rcases h with rfl | rfl | rfl | rfl | rfl | rfl <;> decide
theorem escape_special {c : Int} (h : c ∈ special) (l : List Int) (d m : Nat) : RS.escape ⟨c :: l, d, m⟩ = some (c, ⟨l, d, m⟩) := by
  have h1 : c ≠ 110 ∧ c ≠ 114 ∧ c ≠ 116 := by
    refine ⟨?_, ?_, ?_⟩ <;> rintro rfl <;> exact absurd h (by decide)
  unfold RS.escape RS.take RS.next amongB
  simp [h1, h]
theorem quote_atom {pat : RS → Option (Pt × RS)} (c : UInt8) (l : List UInt8) (d m : Nat) : RS.atom pat ⟨asc (quoteL (c :: l)), d, m⟩ = some (charPt c.toNat, ⟨asc (quoteL l), d, m⟩) := by
  rw [quoteL]
  by_cases h : spU c = true
  · rw [if_pos h]
    unfold spU at h
    rw [decide_eq_true_eq] at h
    rw [show asc ([92, c] ++ quoteL l) = 92 :: (c.toNat : Int) :: asc (quoteL l) by simp [asc]]
    unfold RS.atom RS.take RS.next
    simp only [List.drop_succ_cons, List.drop_zero]
    rw [if_neg (by decide), if_pos trivial, escape_special h]
    rfl
  · rw [if_neg h]
    unfold spU at h
    rw [decide_eq_true_eq] at h
    rw [show asc ([c] ++ quoteL l) = (c.toNat : Int) :: asc (quoteL l) by simp [asc]]
    unfold RS.atom RS.take RS.next
    simp only [List.drop_succ_cons, List.drop_zero]
    have hb : amongB barred (c.toNat : Int) = false := by
      unfold amongB
      rw [decide_eq_false_iff_not]
      exact fun hb => h (barred_special hb)
    rw [if_neg (fun e => h (by rw [e]; decide)), if_neg (fun e => h (by rw [e]; decide)), if_neg (fun e => h (by rw [e]; decide)), if_neg (fun e => h (by rw [e]; decide)), if_neg (by rw [hb]; decide)]
theorem quote_piece {pat : RS → Option (Pt × RS)} (c : UInt8) (l : List UInt8) (d m : Nat) : RS.piece pat ⟨asc (quoteL (c :: l)), d, m⟩ = some (charPt c.toNat, ⟨asc (quoteL l), d, m⟩) := by
  unfold RS.piece
  rw [quote_atom]
  simp only
  have hp := quote_peek l d m
  have hne : ∀ k : Int, 0 ≤ k → k ≠ 92 → k ∈ special → RS.peek ⟨asc (quoteL l), d, m⟩ ≠ k := fun k hk h92 hs e => by
    rcases hp with hp | hp
    · omega
    · rcases hp.2 with h | h
      · omega
      · exact h (e ▸ hs)
  rw [if_neg (hne 42 (by decide) (by decide) (by decide)), if_neg (hne 43 (by decide) (by decide) (by decide)), if_neg (hne 63 (by decide) (by decide) (by decide)), if_neg (hne 123 (by decide) (by decide) (by decide))]
theorem quote_pieces {pat : RS → Option (Pt × RS)} (d m : Nat) : ∀ (l : List UInt8) (n : Nat), l.length < n → RS.pieces pat n ⟨asc (quoteL l), d, m⟩ = some (l.map (fun c => charPt c.toNat), ⟨[], d, m⟩)
  | [], n, hn => by
    obtain ⟨n, rfl⟩ : ∃ k, n = k + 1 := ⟨n - 1, by omega⟩
    unfold RS.pieces
    rw [if_neg (by unfold RS.on; simp [quoteL, asc, RS.peek])]
    rfl
  | c :: l, n, hn => by
    obtain ⟨n, rfl⟩ : ∃ k, n = k + 1 := ⟨n - 1, by omega⟩
    unfold RS.pieces
    have hp := quote_peek (c :: l) d m
    rw [if_pos, quote_piece]
    · simp only
      rw [quote_pieces d m l n (by simp at hn; omega)]
      rfl
    · rcases hp with hp | hp
      · cases hp.2
      · refine ⟨hp.1, ?_, ?_⟩ <;> intro e <;> rcases hp.2 with h | h
        · omega
        · exact h (by rw [e]; decide)
        · omega
        · exact h (by rw [e]; decide)
theorem sizes_chars : ∀ (l : List UInt8) (n : Nat), n + l.length ≤ 1000 → sizes (l.map (fun c => charPt (c.toNat : Int))) n = n + l.length
  | [], n, _ => rfl
  | c :: l, n, h => by
    simp only [List.length_cons] at h
    rw [List.map_cons, sizes, show (charPt (c.toNat : Int)).size = 1 from rfl, Nat.min_eq_left (by omega), sizes_chars l _ (by omega), List.length_cons]
    omega
def rowOf (l : List UInt8) : Pt := .pick [.row (l.map fun c => charPt (c.toNat : Int))]
theorem quote_asc {l : List UInt8} (ha : ∀ c ∈ l, c.toNat < 128) : ∀ c ∈ quoteL l, c.toNat < 128 := by
  induction l with
  | nil => intro c hc; cases hc
  | cons x l ih =>
    intro c hc
    rw [quoteL, List.mem_append] at hc
    rcases hc with hc | hc
    · split at hc
      · simp only [List.mem_cons, List.not_mem_nil, or_false] at hc
        rcases hc with rfl | rfl
        · decide
        · exact ha _ (List.mem_cons_self ..)
      · simp only [List.mem_cons, List.not_mem_nil, or_false] at hc
        subst hc
        exact ha _ (List.mem_cons_self ..)
    · exact ih (fun c hc => ha c (List.mem_cons_of_mem _ hc)) c hc
theorem parsed_quote {l : List UInt8} (ha : ∀ c ∈ l, c.toNat < 128) (hl : (quoteL l).length ≤ 200) : parsedL (quoteL l) = (0, some (rowOf l)) := by
  have := quoteL_len l
  refine parsed_of (m := 0) (by omega) (quote_asc ha) ?_ (by omega) ?_
  · exact pattern_row (quote_pieces 0 0 l _ (by simp [asc]; omega))
  · unfold rowOf
    rw [Pt.size, sizes, Pt.size, sizes_chars l 0 (by omega)]
    simp [sizes]
    omega
theorem lang_rowOf (l : List UInt8) (x : List Int) : Lang (rowOf l) x ↔ x = asc l := by
  unfold rowOf
  rw [Lang, LangPick, LangPick, Lang, or_false]
  induction l generalizing x with
  | nil => rw [List.map_nil, LangRow]; rfl
  | cons c l ih =>
    rw [List.map_cons, LangRow, cat_char]
    constructor
    · rintro ⟨t, rfl, h⟩; rw [(ih t).1 h]; rfl
    · rintro rfl; exact ⟨asc l, rfl, (ih _).2 rfl⟩
theorem quote_match (t u : List UInt8) (ht : ∀ c ∈ t, c.toNat < 128) : langB (rowOf t) (runesOf u) = decide (u = t) := by
  rw [Bool.eq_iff_iff, langB_iff, lang_rowOf, decide_eq_true_iff]
  exact ⟨runesOf_inj t u ht, fun h => by rw [h, runesOf_asc0 t ht]⟩
theorem quote_found (t u : List UInt8) (ht : ∀ c ∈ t, c.toNat < 128) : findB (rowOf t) (runesOf (u ++ t ++ u)) = true := by
  rw [findB_iff]
  by_cases h0 : t = []
  · subst h0
    exact ⟨[], [], _, rfl, (lang_rowOf _ _).2 rfl⟩
  · exact ⟨_, _, _, runesOf_back u t ht h0, (lang_rowOf _ _).2 rfl⟩

end Go.Proofs.Ytnhlgjjdpappkaa
