/-
  RegexSearch and RegexTimes, plain. No program in sight.
-/
import Derived.Test.YtnhlgjjdpappkaaWb
namespace Go.Proofs.Ytnhlgjjdpappkaa
open Go.RowKit

/-! ### Parts of a text of signs -/
def ascB (t : ByteArray) : Prop := ∀ c ∈ strBytes t, c.toNat < 128
theorem strBytes_sub (t : ByteArray) (a b : Nat) : strBytes (t.extract a b) = ((strBytes t).drop a).take (b - a) := Lib.extract_data t a b
theorem strBytes_app (a b : ByteArray) : strBytes (a ++ b) = strBytes a ++ strBytes b := by simp [strBytes]
theorem size_bytes {s : ByteArray} {l : List UInt8} (h : strBytes s = l) : s.size = l.length := by rw [← h, strBytes_len]
theorem chars_asc {t : ByteArray} (h : ascB t) : chars t = asc (strBytes t) := runesOf_asc0 _ h
theorem chars_sub {t : ByteArray} (h : ascB t) (a b : Nat) : chars (t.extract a b) = ((chars t).drop a).take (b - a) := by
  have h1 : ascB (t.extract a b) := fun c hc => by
    rw [strBytes_sub] at hc
    exact h c (List.mem_of_mem_drop (List.mem_of_mem_take hc))
  rw [chars_asc h1, chars_asc h, strBytes_sub]
  simp [asc]
theorem sub_match {t : ByteArray} {p : Pt} (h : ascB t) (a b : Nat) (hm : langB p (chars (t.extract a b)) = true) : findB p (chars t) = true := by
  rw [langB_iff, chars_sub h] at hm
  rw [findB_iff]
  exact ⟨(chars t).take a, _, ((chars t).drop a).drop (b - a), by rw [List.append_assoc, List.take_append_drop, List.take_append_drop], hm⟩
theorem sub_search {t : ByteArray} {p : Pt} (h : ascB t) (a b : Nat) (hm : findB p (chars (t.extract a b)) = true) : findB p (chars t) = true := by
  rw [findB_iff, chars_sub h] at hm
  obtain ⟨x, y, z, he, hm⟩ := hm
  rw [findB_iff]
  refine ⟨(chars t).take a ++ x, y, z ++ ((chars t).drop a).drop (b - a), ?_, hm⟩
  have h1 : chars t = (chars t).take a ++ (((chars t).drop a).take (b - a) ++ ((chars t).drop a).drop (b - a)) := by rw [List.take_append_drop, List.take_append_drop]
  rw [he] at h1
  simpa [List.append_assoc] using h1

/-! ### So many of one sign -/
theorem pow_char (c : Int) : ∀ (n : Nat) (l : List Int), Pow (Lang (charPt c)) n l ↔ l = List.replicate n c
  | 0, l => Iff.rfl
  | n + 1, l => by
    rw [Pow, cat_char, List.replicate_succ]
    constructor
    · rintro ⟨t, rfl, h⟩; rw [(pow_char c n t).1 h]
    · rintro rfl; exact ⟨_, rfl, (pow_char c n _).2 rfl⟩
theorem upto_char (c : Int) : ∀ (n : Nat) (l : List Int), Upto (Lang (charPt c)) n l ↔ ∃ k, k ≤ n ∧ l = List.replicate k c
  | 0, l => by
    constructor
    · intro h; exact ⟨0, Nat.le_refl _, h⟩
    · rintro ⟨k, hk, h⟩
      obtain rfl : k = 0 := Nat.le_zero.1 hk
      exact h
  | n + 1, l => by
    rw [Upto, cat_char]
    constructor
    · rintro (rfl | ⟨t, rfl, h⟩)
      · exact ⟨0, by omega, rfl⟩
      · obtain ⟨k, hk, rfl⟩ := (upto_char c n t).1 h
        exact ⟨k + 1, by omega, rfl⟩
    · rintro ⟨k, hk, rfl⟩
      cases k with
      | zero => exact .inl rfl
      | succ k => exact .inr ⟨List.replicate k c, rfl, (upto_char c n _).2 ⟨k, by omega, rfl⟩⟩
theorem star_char (c : Int) (l : List Int) : Star (Lang (charPt c)) l ↔ ∃ k, l = List.replicate k c := by
  constructor
  · intro h
    induction h with
    | nil => exact ⟨0, rfl⟩
    | cons h1 _ ih =>
      obtain ⟨k, rfl⟩ := ih
      rw [lang_char] at h1
      subst h1
      exact ⟨k + 1, rfl⟩
  · rintro ⟨k, rfl⟩
    induction k with
    | zero => exact .nil
    | succ k ih => exact .cons (a := [c]) ((lang_char c _).2 rfl) ih
theorem cat_rep (c : Int) (n k : Nat) (B : List Int → Prop) : Cat (Pow (Lang (charPt c)) n) B (List.replicate k c) ↔ n ≤ k ∧ B (List.replicate (k - n) c) := by
  constructor
  · rintro ⟨a, b, h, ha, hb⟩
    rw [pow_char] at ha
    subst ha
    have h1 := congrArg List.length h
    simp at h1
    have h2 := congrArg (List.drop n) h
    rw [List.drop_left' (by simp), List.drop_replicate] at h2
    exact ⟨by omega, by rw [h2]; exact hb⟩
  · rintro ⟨h, hb⟩
    exact ⟨List.replicate n c, _, by rw [List.replicate_append_replicate, Nat.add_sub_cancel' h], (pow_char c n _).2 rfl, hb⟩
theorem rep_inj {c : Int} {a b : Nat} (h : List.replicate a c = List.replicate b c) : a = b := by simpa using congrArg List.length h
theorem lang_some (c : Int) (n m k : Nat) (hm : n ≤ m) : Lang (.times (charPt c) n (some m)) (List.replicate k c) ↔ n ≤ k ∧ k ≤ m := by
  rw [Lang, cat_rep, upto_char]
  constructor
  · rintro ⟨h1, j, h2, h3⟩; have := rep_inj h3; omega
  · rintro ⟨h1, h2⟩; exact ⟨h1, k - n, by omega, rfl⟩
theorem lang_many (c : Int) (n k : Nat) : Lang (.times (charPt c) n none) (List.replicate k c) ↔ n ≤ k := by
  rw [Lang, cat_rep, star_char]
  exact ⟨fun h => h.1, fun h => ⟨h, _, rfl⟩⟩

/-! ### Patterns of numbers -/
def parsedL (l : List UInt8) : Int × Option Pt := parsedOf l.length (runesOf l)
theorem parsedT_L (s : ByteArray) : parsedT s = parsedL (strBytes s) := by unfold parsedT parsedL; rw [strBytes_len]
def digL (n : Nat) : List UInt8 := if n < 10 then [UInt8.ofNat (48 + n)] else [UInt8.ofNat (48 + n / 10), UInt8.ofNat (48 + n % 10)]
def isT : Int × Option Pt → Nat → Option Nat → Bool
  | (e, some (.pick [.row [.times (.char false [x]) n' m']])), n, m => decide (e = 0) && decide (x = ⟨120, 120⟩) && decide (n' = n) && decide (m' = m)
  | _, _, _ => false
theorem isT_eq {x : Int × Option Pt} {n : Nat} {m : Option Nat} (h : isT x n m = true) : x = (0, some (.pick [.row [.times (charPt 120) n m]])) := by
  unfold isT at h
  split at h
  · simp only [Bool.and_eq_true, decide_eq_true_eq] at h
    obtain ⟨⟨⟨rfl, rfl⟩, rfl⟩, rfl⟩ := h
    rfl
  · cases h
theorem times_one : ∀ a : Fin 16, isT (parsedL ([120, 123] ++ digL a.val ++ [125])) a.val (some a.val) = true := by decide +kernel
theorem times_many : ∀ a : Fin 16, isT (parsedL ([120, 123] ++ digL a.val ++ [44, 125])) a.val none = true := by decide +kernel
theorem times_two : ∀ a d : Fin 16, isT (parsedL ([120, 123] ++ digL a.val ++ [44] ++ digL (a.val + d.val) ++ [125])) a.val (some (a.val + d.val)) = true := by decide +kernel
theorem parsed_star : parsedL [120, 42] = (0, some (.pick [.row [.star (charPt 120)]])) := by kernel_rfl
theorem parsed_plus : parsedL [120, 43] = (0, some (.pick [.row [.plus (charPt 120)]])) := by kernel_rfl
theorem parsed_maybe : parsedL [120, 63] = (0, some (.pick [.row [.maybe (charPt 120)]])) := by kernel_rfl
theorem match_one {s t : ByteArray} {p : Pt} {P : Prop} [Decidable P] {k : Nat} (hs : parsedT s = (0, some (.pick [.row [p]]))) (ht : chars t = List.replicate k 120) (h : Lang p (List.replicate k 120) ↔ P) : matchB s t = decide P := by
  rw [matchB_some hs, Bool.eq_iff_iff, langB_iff, lang_one, ht, h, decide_eq_true_iff]
/-- So many x. -/
def xs (k : Nat) : ByteArray := { data := (List.replicate k (120 : UInt8)).toArray }
theorem xs_bytes (k : Nat) : strBytes (xs k) = List.replicate k 120 := by simp [strBytes, xs]
theorem xs_chars (k : Nat) : chars (xs k) = List.replicate k 120 := by
  have h : ascB (xs k) := fun c hc => by
    rw [xs_bytes] at hc
    rw [List.eq_of_mem_replicate hc]; decide
  rw [chars_asc h, xs_bytes]
  simp [asc]
theorem match_eq {s : ByteArray} {a : Nat} (k : Nat) (ha : a < 16) (hs : strBytes s = [120, 123] ++ digL a ++ [125]) : matchB s (xs k) = decide (k = a) :=
  match_one (by rw [parsedT_L, hs]; exact isT_eq (times_one ⟨a, ha⟩)) (xs_chars k) (by rw [lang_some _ _ _ _ (Nat.le_refl _)]; show a ≤ k ∧ k ≤ a ↔ k = a; omega)
theorem match_two {s : ByteArray} {a b : Nat} (k : Nat) (ha : a < 16) (hb : a ≤ b ∧ b < a + 16) (hs : strBytes s = [120, 123] ++ digL a ++ [44] ++ digL b ++ [125]) : matchB s (xs k) = decide (a ≤ k ∧ k ≤ b) :=
  match_one (by
    have h := times_two ⟨a, ha⟩ ⟨b - a, by omega⟩
    simp only [show a + (b - a) = b by omega] at h
    rw [parsedT_L, hs]; exact isT_eq h) (xs_chars k) (lang_some _ _ _ _ hb.1)
theorem match_many {s : ByteArray} {a : Nat} (k : Nat) (ha : a < 16) (hs : strBytes s = [120, 123] ++ digL a ++ [44, 125]) : matchB s (xs k) = decide (a ≤ k) :=
  match_one (by rw [parsedT_L, hs]; exact isT_eq (times_many ⟨a, ha⟩)) (xs_chars k) (lang_many _ _ _)
theorem match_star {s : ByteArray} (k : Nat) (hs : strBytes s = [120, 42]) : matchB s (xs k) = true := by
  rw [match_one (P := True) (by rw [parsedT_L, hs]; exact parsed_star) (xs_chars k) (by rw [Lang, star_char]; exact ⟨fun _ => trivial, fun _ => ⟨_, rfl⟩⟩)]
  rfl
theorem match_plus {s : ByteArray} (k : Nat) (hs : strBytes s = [120, 43]) : matchB s (xs k) = decide (0 < k) :=
  match_one (by rw [parsedT_L, hs]; exact parsed_plus) (xs_chars k) (by
    rw [Lang, cat_char]
    constructor
    · rintro ⟨t, h, _⟩
      cases k with
      | zero => cases h
      | succ k => omega
    · intro h
      obtain ⟨j, rfl⟩ : ∃ j, k = j + 1 := ⟨k - 1, by omega⟩
      exact ⟨List.replicate j 120, rfl, (star_char _ _).2 ⟨j, rfl⟩⟩)
theorem match_maybe {s : ByteArray} (k : Nat) (hs : strBytes s = [120, 63]) : matchB s (xs k) = decide (k < 2) :=
  match_one (by rw [parsedT_L, hs]; exact parsed_maybe) (xs_chars k) (by
    rw [Lang, upto_char]
    constructor
    · rintro ⟨j, hj, h⟩; have := rep_inj h; omega
    · intro h; exact ⟨k, by omega, rfl⟩)

end Go.Proofs.Ytnhlgjjdpappkaa
