/-
  The journal as plain data: what was laid is read back; torn records. No program in sight.
-/
import Derived.Test.YtidpleejgalljaaJl
namespace Go.Proofs.Ytidpleejgalljaa

/-! ### One piece, there and back -/
theorem word4 (n : Nat) (h : n < 4294967296) : wordOf [byteAt n 3, byteAt n 2, byteAt n 1, byteAt n 0] = n := by
  simp [wordOf, byteAt]
  omega
theorem word2 (n : Nat) (h : n < 65536) : wordOf [byteAt n 1, byteAt n 0] = n := by
  simp [wordOf, byteAt]
  omega
theorem piece_written (p : Pc) (h1 : p.st.session < 4294967296) (h2 : p.st.number < 4294967296) (h3 : p.st.count < 65536) (h4 : p.place < 65536) (h5 : p.b.length ≤ 48) : pieceOf (pad (writtenOf p)) = some p := by
  have hl : (pad (writtenOf p)).length = 64 := pad_len (by rw [writtenOf_len]; omega)
  obtain ⟨Z, hZ⟩ : ∃ Z, pad (writtenOf p) = 165 :: 90 :: byteAt p.st.session 3 :: byteAt p.st.session 2 :: byteAt p.st.session 1 :: byteAt p.st.session 0 :: byteAt p.st.number 3 :: byteAt p.st.number 2 :: byteAt p.st.number 1 :: byteAt p.st.number 0 ::
      byteAt p.place 1 :: byteAt p.place 0 :: byteAt p.st.count 1 :: byteAt p.st.count 0 :: UInt8.ofNat p.b.length :: 0 :: (p.b ++ Z) := ⟨List.replicate (64 - (writtenOf p).length) 0, by simp [pad, writtenOf]⟩
  have hb : (UInt8.ofNat p.b.length).toNat = p.b.length := by simp; omega
  unfold pieceOf
  rw [if_pos ⟨hl, by rw [hZ]; rfl, by rw [hZ]; rfl, by rw [hZ]; show (UInt8.ofNat p.b.length).toNat ≤ 48; omega⟩, hZ]
  have e1 := word4 _ h1
  have e2 := word4 _ h2
  have e3 := word2 _ h3
  have e4 := word2 _ h4
  simp [e1, e2, e3, e4]
  rw [Nat.mod_eq_of_lt (by omega), List.take_left]

/-! ### A record, there and back -/
def secP (ses num : Nat) (b : List UInt8) (k : Nat) : List UInt8 := pad (writtenOf (pieceAt ses num b k))
def secsP (ses num : Nat) (b : List UInt8) : List (List UInt8) := (List.range (needOf b.length)).map (secP ses num b)
theorem secsP_eq (ses num : Nat) (b : List UInt8) : (sectorsOf ses num b).map pad = secsP ses num b := by simp [sectorsOf, secsP, secP]
theorem secsP_len (ses num : Nat) (b : List UInt8) : (secsP ses num b).length = needOf b.length := by simp [secsP]
theorem secsP_at (ses num : Nat) (b : List UInt8) {k : Nat} (hk : k < needOf b.length) : (secsP ses num b)[k]? = some (secP ses num b k) := by simp [secsP, hk]
theorem need_pos (n : Nat) : 1 ≤ needOf n := by unfold needOf; split <;> omega
theorem need_hi (n : Nat) : n ≤ 48 * needOf n := by unfold needOf; split <;> omega
structure Fits (ses num : Nat) (b : List UInt8) : Prop where
  ses : ses < 4294967296
  num : num < 4294967296
  need : needOf b.length ≤ 65535
theorem pieceAt_len (ses num : Nat) (b : List UInt8) (k : Nat) : (pieceAt ses num b k).b.length = min 48 (b.length - 48 * k) := by simp [pieceAt]
theorem piece_secP {ses num : Nat} {b : List UInt8} (h : Fits ses num b) {k : Nat} (hk : k < needOf b.length) : pieceOf (secP ses num b k) = some (pieceAt ses num b k) := by
  have := h.need
  exact piece_written _ h.ses h.num (by show needOf b.length < 65536; omega) (by show k < 65536; omega) (by rw [pieceAt_len]; omega)
def stampAt (ses num : Nat) (b : List UInt8) : Stamp := ⟨ses, num, needOf b.length⟩
theorem collect_laid {ses num : Nat} {b : List UInt8} (h : Fits ses num b) : ∀ (j k : Nat), k + j = needOf b.length → collect (stampAt ses num b) k ((List.range' k j).map (secP ses num b)) = some (b.drop (48 * k))
  | 0, k, hk => by
    have := need_hi b.length
    rw [List.drop_of_length_le (by omega)]
    rfl
  | j + 1, k, hk => by
    have hkn : k < needOf b.length := by omega
    rw [List.range'_succ, List.map_cons]
    simp only [collect, piece_secP h hkn]
    have hlen : k + 1 < (stampAt ses num b).count → (pieceAt ses num b k).b.length = 48 := fun hc => by
      rw [pieceAt_len]
      have := need_lo (m := b.length) (k := k + 1) hc
      omega
    rw [if_pos ⟨rfl, rfl, hlen⟩, collect_laid h j (k + 1) (by omega)]
    simp only [Option.map_some, Option.some.injEq]
    show (b.drop (48 * k)).take 48 ++ b.drop (48 * (k + 1)) = b.drop (48 * k)
    rw [show 48 * (k + 1) = 48 * k + 48 by omega, ← List.drop_drop, List.take_append_drop]
theorem recordOf_laid {ses num : Nat} {b : List UInt8} (h : Fits ses num b) (T : List (List UInt8)) : recordOf (secsP ses num b ++ T) = some (stampAt ses num b, b) := by
  have hp := need_pos b.length
  have hc := collect_laid h (needOf b.length) 0 (by omega)
  have ht : (secsP ses num b ++ T).take (needOf b.length) = secsP ses num b := by rw [← secsP_len ses num b, List.take_left]
  obtain ⟨r, hr⟩ : ∃ r, secsP ses num b ++ T = secP ses num b 0 :: r := by
    cases hs : secsP ses num b ++ T with
    | nil => have := congrArg List.length hs; rw [List.length_append, secsP_len] at this; simp at this; omega
    | cons x r =>
      have h0 : (secsP ses num b ++ T)[0]? = some (secP ses num b 0) := by rw [List.getElem?_append_left (by rw [secsP_len]; omega), secsP_at ses num b hp]
      rw [hs] at h0
      simp at h0
      exact ⟨r, by rw [h0]⟩
  have hl : needOf b.length ≤ (secsP ses num b ++ T).length := by rw [List.length_append, secsP_len]; omega
  rw [hr] at ht hl ⊢
  simp only [recordOf, piece_secP h hp]
  rw [if_neg (by show ¬ (needOf b.length < 1 ∨ _ < needOf b.length); omega)]
  show (collect (stampAt ses num b) 0 ((secP ses num b 0 :: r).take (needOf b.length))).map _ = _
  rw [ht]
  unfold secsP
  rw [List.range_eq_range', hc]
  rfl

/-! ### What a record is made of -/
theorem collect_at {st : Stamp} : ∀ (L : List (List UInt8)) (k : Nat) (b : List UInt8), collect st k L = some b → ∀ j s, L[j]? = some s → ∃ q, pieceOf s = some q ∧ q.st = st ∧ q.place = k + j
  | [], k, b, h, j, s, hj => by simp at hj
  | x :: L, k, b, h, j, s, hj => by
    simp only [collect] at h
    cases hp : pieceOf x with
    | none => rw [hp] at h; cases h
    | some q =>
      rw [hp] at h
      simp only at h
      split at h
      · rename_i hq
        obtain ⟨c, hc, _⟩ := Option.map_eq_some_iff.1 h
        cases j with
        | zero => simp at hj; subst hj; exact ⟨q, hp, hq.1, by omega⟩
        | succ j =>
          obtain ⟨q', h1, h2, h3⟩ := collect_at L (k + 1) c hc j s (by simpa using hj)
          exact ⟨q', h1, h2, by omega⟩
      · cases h
theorem record_at {L : List (List UInt8)} {st : Stamp} {b : List UInt8} (h : recordOf L = some (st, b)) {k : Nat} (hk : k < st.count) : ∃ s q, L[k]? = some s ∧ pieceOf s = some q ∧ q.st = st ∧ q.place = k := by
  have hb := recordOf_bd h
  cases L with
  | nil => simp [recordOf] at h
  | cons s L =>
    simp only [recordOf] at h
    cases hp : pieceOf s with
    | none => rw [hp] at h; cases h
    | some p =>
      rw [hp] at h
      simp only at h
      split at h
      · cases h
      · obtain ⟨c, hc2, he⟩ := Option.map_eq_some_iff.1 h
        simp only [Prod.mk.injEq] at he
        obtain ⟨rfl, rfl⟩ := he
        have hk2 : k < (s :: L).length := by omega
        obtain ⟨q, h1, h2, h3⟩ := collect_at _ 0 c hc2 k _ (by rw [List.getElem?_take, if_pos hk]; exact List.getElem?_eq_getElem hk2)
        exact ⟨_, q, List.getElem?_eq_getElem hk2, h1, h2, by omega⟩
theorem record_congr {L L' : List (List UInt8)} {st : Stamp} {b : List UInt8} (h : recordOf L = some (st, b)) (hL : ∀ k, k < st.count → L'[k]? = L[k]?) : recordOf L' = some (st, b) := by
  have hb := recordOf_bd h
  have hl : st.count ≤ L'.length := by
    have h1 := hL (st.count - 1) (by omega)
    rw [List.getElem?_eq_getElem (show st.count - 1 < L.length by omega)] at h1
    have := (List.getElem?_eq_some_iff.1 h1).1
    omega
  have ht : L'.take st.count = L.take st.count := by
    apply List.ext_getElem?
    intro i
    rw [List.getElem?_take, List.getElem?_take]
    split
    · exact hL i (by assumption)
    · rfl
  have h0 := hL 0 (by omega)
  cases L with
  | nil => simp [recordOf] at h
  | cons s L =>
    cases L' with
    | nil => simp at h0
    | cons s' L' =>
      simp at h0
      subst h0
      simp only [recordOf] at h ⊢
      cases hp : pieceOf s' with
      | none => rw [hp] at h; cases h
      | some p =>
        rw [hp] at h
        simp only at h ⊢
        split at h
        · cases h
        · obtain ⟨c, hc2, he⟩ := Option.map_eq_some_iff.1 h
          simp only [Prod.mk.injEq] at he
          obtain ⟨rfl, rfl⟩ := he
          rw [if_neg (by omega), ht, hc2]
          rfl

/-! ### Torn records -/
/-- L' is L with some of the new record's sectors laid over it. -/
def Torn (L L' : List (List UInt8)) (ses num : Nat) (b : List UInt8) : Prop :=
  L'.length = L.length ∧ ∀ j, L'[j]? = L[j]? ∨ (j < needOf b.length ∧ L'[j]? = some (secP ses num b j))
def NoneOf (L : List (List UInt8)) (ses num : Nat) : Prop := ∀ s ∈ L, ∀ q, pieceOf s = some q → ¬ (q.st.session = ses ∧ q.st.number = num)
theorem torn_record {L L' : List (List UInt8)} {ses num : Nat} {b : List UInt8} (hT : Torn L L' ses num b) (hF : Fits ses num b) (hN : NoneOf L ses num) {st : Stamp} {b' : List UInt8} (h : recordOf L' = some (st, b')) :
    (st = stampAt ses num b ∧ b' = b ∧ L' = secsP ses num b ++ L.drop (needOf b.length)) ∨ recordOf L = some (st, b') := by
  have hb := recordOf_bd h
  by_cases hs : st.session = ses ∧ st.number = num
  · left
    have hnew : ∀ k, k < st.count → k < needOf b.length ∧ L'[k]? = some (secP ses num b k) := by
      intro k hk
      obtain ⟨s, q, h1, h2, h3, h4⟩ := record_at h hk
      rcases hT.2 k with h5 | h5
      · rw [h1] at h5
        exact absurd (by rw [h3]; exact hs) (hN s (List.mem_of_getElem? h5.symm) q h2)
      · exact h5
    obtain ⟨h6, h7⟩ := hnew 0 (by omega)
    obtain ⟨s, q, h1, h2, h3, h4⟩ := record_at h (k := 0) (by omega)
    rw [h1] at h7
    injection h7 with h7
    subst h7
    rw [piece_secP hF h6] at h2
    injection h2 with h2
    subst h2
    have hst : st = stampAt ses num b := h3.symm
    subst hst
    have e : L' = secsP ses num b ++ L'.drop (needOf b.length) := by
      conv => lhs; rw [← List.take_append_drop (needOf b.length) L']
      congr 1
      apply List.ext_getElem?
      intro i
      rw [List.getElem?_take]
      split
      · rw [(hnew i (by assumption)).2, secsP_at ses num b (by assumption)]
      · rw [List.getElem?_eq_none (by rw [secsP_len]; omega)]
    refine ⟨rfl, ?_, ?_⟩
    · rw [e, recordOf_laid hF] at h
      simp at h
      exact h.symm
    · rw [e]
      congr 1
      apply List.ext_getElem?
      intro i
      rw [List.getElem?_drop, List.getElem?_drop]
      rcases hT.2 (needOf b.length + i) with h5 | h5
      · rw [h5]
      · omega
  · right
    refine record_congr h fun k hk => ?_
    obtain ⟨s, q, h1, h2, h3, h4⟩ := record_at h hk
    rcases hT.2 k with h5 | ⟨h5, h6⟩
    · exact h5.symm
    · rw [h1] at h6
      injection h6 with h6
      subst h6
      rw [piece_secP hF h5] at h2
      injection h2 with h2
      subst h2
      exact absurd (by rw [← h3]; exact ⟨rfl, rfl⟩) hs
theorem torn_keep {L L' : List (List UInt8)} {ses num : Nat} {b : List UInt8} (hT : Torn L L' ses num b) (h : ∀ k, k < needOf b.length → k < L.length → L'[k]? = some (secP ses num b k)) (hl : needOf b.length ≤ L.length) : L' = secsP ses num b ++ L.drop (needOf b.length) := by
  apply List.ext_getElem?
  intro i
  rcases Nat.lt_or_ge i (needOf b.length) with hi | hi
  · rw [List.getElem?_append_left (by rw [secsP_len]; exact hi), secsP_at ses num b hi]
    exact h i hi (by omega)
  · rw [List.getElem?_append_right (by rw [secsP_len]; exact hi), secsP_len, List.getElem?_drop, show needOf b.length + (i - needOf b.length) = i by omega]
    rcases hT.2 i with h5 | h5
    · exact h5
    · omega

/-- Nothing behind the first sector begins a record. -/
def NoHead (L : List (List UInt8)) : Prop := ∀ j s, 1 ≤ j → L[j]? = some s → ∀ q, pieceOf s = some q → q.place ≠ 0
theorem NoHead.drop {L : List (List UInt8)} (h : NoHead L) {m : Nat} (hm : 1 ≤ m) : recordOf (L.drop m) = none := by
  cases hr : recordOf (L.drop m) with
  | none => rfl
  | some x =>
    obtain ⟨st, b⟩ := x
    have hb := recordOf_bd hr
    obtain ⟨s, q, h1, h2, h3, h4⟩ := record_at hr (k := 0) (by omega)
    rw [List.getElem?_drop] at h1
    exact absurd h4 (h _ s (by omega) h1 q h2)
theorem NoHead.torn {L L' : List (List UInt8)} {ses num : Nat} {b : List UInt8} (h : NoHead L) (hF : Fits ses num b) (hT : Torn L L' ses num b) : NoHead L' := by
  intro j s hj hs q hq
  rcases hT.2 j with h5 | ⟨h5, h6⟩
  · rw [hs] at h5; exact h j s hj h5.symm q hq
  · rw [hs] at h6
    injection h6 with h6
    subst h6
    rw [piece_secP hF h5] at hq
    injection hq with hq
    subst hq
    show j ≠ 0
    omega

/-! ### Zeros -/
def zsec : List UInt8 := List.replicate 64 0
theorem piece_zero : pieceOf zsec = none := by decide +kernel
theorem zero_none {L : List (List UInt8)} (h : ∀ s ∈ L, s = zsec) : recordOf L = none := by
  cases L with
  | nil => rfl
  | cons s L =>
    have := h s (List.mem_cons_self ..)
    subst this
    simp only [recordOf, piece_zero]
theorem NoHead.zero {L : List (List UInt8)} (h : ∀ s ∈ L, s = zsec) : NoHead L := by
  intro j s _ hs q hq
  have := h s (List.mem_of_getElem? hs)
  subst this
  rw [piece_zero] at hq
  cases hq
theorem NoneOf.zero {L : List (List UInt8)} (h : ∀ s ∈ L, s = zsec) (ses num : Nat) : NoneOf L ses num := by
  intro s hs q hq
  have := h s hs
  subst this
  rw [piece_zero] at hq
  cases hq

/-! ### The newest -/
theorem newFold_ge (L : List (List UInt8)) : ∀ a : Nat × Nat, a.1 ≤ (newFrom a L).1 ∧ a.2 ≤ (newFrom a L).2 ∧ ∀ s ∈ L, ∀ q, pieceOf s = some q → q.st.session ≤ (newFrom a L).1 ∧ q.st.number ≤ (newFrom a L).2 := by
  induction L with
  | nil => intro a; exact ⟨Nat.le_refl _, Nat.le_refl _, by simp⟩
  | cons s L ih =>
    intro a
    have h := ih (newStep a s)
    have e : newFrom a (s :: L) = newFrom (newStep a s) L := rfl
    rw [e]
    have hs : a.1 ≤ (newStep a s).1 ∧ a.2 ≤ (newStep a s).2 ∧ ∀ q, pieceOf s = some q → q.st.session ≤ (newStep a s).1 ∧ q.st.number ≤ (newStep a s).2 := by
      unfold newStep
      cases hp : pieceOf s with
      | none => exact ⟨Nat.le_refl _, Nat.le_refl _, by simp⟩
      | some p => exact ⟨Nat.le_max_left .., Nat.le_max_left .., fun q hq => by simp at hq; subst hq; exact ⟨Nat.le_max_right .., Nat.le_max_right ..⟩⟩
    refine ⟨by omega, by omega, fun x hx q hq => ?_⟩
    rcases List.mem_cons.1 hx with rfl | hx
    · have := hs.2.2 q hq; omega
    · exact h.2.2 x hx q hq
theorem newFold_le (L : List (List UInt8)) (c e : Nat) (h : ∀ s ∈ L, ∀ q, pieceOf s = some q → q.st.session ≤ c ∧ q.st.number ≤ e) : ∀ a : Nat × Nat, a.1 ≤ c → a.2 ≤ e → (newFrom a L).1 ≤ c ∧ (newFrom a L).2 ≤ e := by
  induction L with
  | nil => intro a h1 h2; exact ⟨h1, h2⟩
  | cons s L ih =>
    intro a h1 h2
    have hs : (newStep a s).1 ≤ c ∧ (newStep a s).2 ≤ e := by
      unfold newStep
      cases hp : pieceOf s with
      | none => exact ⟨h1, h2⟩
      | some p => have := h s (List.mem_cons_self ..) p hp; exact ⟨by show max _ _ ≤ _; omega, by show max _ _ ≤ _; omega⟩
    exact ih (fun x hx => h x (List.mem_cons_of_mem _ hx)) _ hs.1 hs.2

end Go.Proofs.Ytidpleejgalljaa
