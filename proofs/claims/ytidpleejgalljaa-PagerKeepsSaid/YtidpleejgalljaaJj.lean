/-
  The contract of journal.Open where the part lies on the disk: the plain side and the loop's relation.
-/
import Derived.Test.YtidpleejgalljaaJi
namespace Go.Proofs.Ytidpleejgalljaa
open Go.RowKit

/-! ### Bounds of what is read -/
theorem pieceOf_bd {s : List UInt8} {p : Pc} (h : pieceOf s = some p) : p.st.session < 4294967296 ∧ p.st.number < 4294967296 ∧ p.st.count < 65536 ∧ p.place < 65536 ∧ p.b.length ≤ 48 := by
  have hb := piece_len h
  unfold pieceOf at h
  split at h
  · simp only [Option.some.injEq] at h
    subst h
    have e2 : ∀ l : List UInt8, l.length ≤ 2 → wordOf l < 65536 := fun l hl => by
      have h1 := wordOf_lt l
      have h2 : 256 ^ l.length ≤ 256 ^ 2 := Nat.pow_le_pow_right (by omega) hl
      have h3 : 256 ^ 2 = 65536 := by decide
      omega
    exact ⟨wordOf4_lt _ (by simp; omega), wordOf4_lt _ (by simp; omega), e2 _ (by simp; omega), e2 _ (by simp; omega), hb⟩
  · cases h
theorem collect_len {st : Stamp} : ∀ (L : List (List UInt8)) (k : Nat) (b : List UInt8), collect st k L = some b → b.length ≤ 48 * L.length
  | [], k, b, h => by simp [collect] at h; subst h; simp
  | s :: L, k, b, h => by
    simp only [collect] at h
    cases hp : pieceOf s with
    | none => rw [hp] at h; cases h
    | some q =>
      rw [hp] at h
      simp only at h
      split at h
      · obtain ⟨c, hc, rfl⟩ := Option.map_eq_some_iff.1 h
        have h1 := collect_len L (k + 1) c hc
        have h2 := piece_len hp
        simp only [List.length_append, List.length_cons]
        omega
      · cases h
theorem recordOf_bd {L : List (List UInt8)} {st : Stamp} {b : List UInt8} (h : recordOf L = some (st, b)) : 1 ≤ st.count ∧ st.count ≤ L.length ∧ st.session < 4294967296 ∧ st.number < 4294967296 ∧ b.length ≤ 48 * st.count := by
  cases L with
  | nil => simp [recordOf] at h
  | cons s L =>
    simp only [recordOf] at h
    cases hp : pieceOf s with
    | none => rw [hp] at h; cases h
    | some p =>
      rw [hp] at h
      simp only at h
      split at h
      · cases h
      · rename_i hc
        obtain ⟨c, hc2, he⟩ := Option.map_eq_some_iff.1 h
        simp only [Prod.mk.injEq] at he
        obtain ⟨rfl, rfl⟩ := he
        have h1 := pieceOf_bd hp
        have h2 := collect_len _ _ _ hc2
        rw [List.length_take] at h2
        refine ⟨by omega, by omega, h1.1, h1.2.1, ?_⟩
        have : min p.st.count (s :: L).length ≤ p.st.count := Nat.min_le_left _ _
        omega
theorem newStep_bd {a : Nat × Nat} (s : List UInt8) (h : a.1 < 4294967296 ∧ a.2 < 4294967296) : (newStep a s).1 < 4294967296 ∧ (newStep a s).2 < 4294967296 := by
  unfold newStep
  cases hp : pieceOf s with
  | none => exact h
  | some p => have := pieceOf_bd hp; simp only; omega

/-! ### The records one by one -/
def stops (last : Option Stamp) (st : Stamp) : Bool := match last with | none => false | some l => decide (st.number ≠ (l.number + 1) % 4294967296 ∨ st.session < l.session)
theorem recs_none {k : Nat} {last : Option Stamp} {L : List (List UInt8)} (h : recordOf L = none) : recordsOf k last L = [] := by
  cases k with
  | zero => rfl
  | succ k => simp only [recordsOf, h]
theorem recs_stop {k : Nat} {last : Option Stamp} {L : List (List UInt8)} {st : Stamp} {b : List UInt8} (h : recordOf L = some (st, b)) (hs : stops last st = true) : recordsOf k last L = [] := by
  cases k with
  | zero => rfl
  | succ k =>
    simp only [recordsOf, h]
    exact if_pos hs
theorem recs_on {k : Nat} {last : Option Stamp} {L : List (List UInt8)} {st : Stamp} {b : List UInt8} (h : recordOf L = some (st, b)) (hs : stops last st = false) : recordsOf (k + 1) last L = (st, b) :: recordsOf k (some st) (L.drop st.count) := by
  simp only [recordsOf, h]
  exact if_neg (fun h => absurd (hs.symm.trans h) (by decide))

def lastOf (R : List (Stamp × List UInt8)) : Option Stamp := R.getLast?.map (·.1)
theorem lastOf_snoc (R : List (Stamp × List UInt8)) (x : Stamp × List UInt8) : lastOf (R ++ [x]) = some x.1 := by simp [lastOf]
def lastCells (o : Option Stamp) : List Value := match o with | none => [.int .u32 0, .int .u32 0, .int .i64 0] | some st => [.int .u32 (st.session : Int), .int .u32 (st.number : Int), .int .i64 (st.count : Int)]
/-- The number behind the last record. -/
def numAfter (num0 : Nat) (o : Option Stamp) : Nat := match o with | none => num0 | some st => (st.number + 1) % 4294967296

/-- A slice of byte slices. -/
structure RowsIn (w : World) (v : Value) (bss : List (List UInt8)) (vs : List Value) (b0 : Nat) : Prop where
  own : w.ownsRow 0 35 1 v bss.length vs
  len : vs.length = bss.length
  ge : ∀ x, v.ownBlock = some x → b0 ≤ x
  row : ∀ (j : Nat) (u : Value) (bs : List UInt8), vs[j]? = some u → bss[j]? = some bs → ∃ g, BytesAt w u bs g ∧ b0 ≤ g ∧ g < w.heap.size ∧ v.ownBlock ≠ some g
  one : ∀ u ∈ vs, u.oneCell' = true
def RowsAt (w : World) (v : Value) (bss : List (List UInt8)) (b0 : Nat) : Prop := ∃ vs, RowsIn w v bss vs b0
theorem RowsIn.fr {S : List Nat} {w w' : World} {v : Value} {bss : List (List UInt8)} {vs : List Value} {b0 : Nat} (h : RowsIn w v bss vs b0) (hf : Fr S w w') (hS : ∀ x ∈ S, x < b0 ∨ w.heap.size ≤ x) : RowsIn w' v bss vs b0 :=
  ⟨own_fr h.own hf (fun g hg hm => by have := h.ge g hg; have := own_lt h.own g hg; have := hS g hm; omega), h.len, h.ge, fun j u bs h1 h2 => by
    obtain ⟨g, h3, h4, h5, h6⟩ := h.row j u bs h1 h2
    exact ⟨g, h3.fr hf (fun hm => by have := hS g hm; omega), h4, Nat.lt_of_lt_of_le h5 hf.size, h6⟩, h.one⟩
theorem RowsAt.fr {S : List Nat} {w w' : World} {v : Value} {bss : List (List UInt8)} {b0 : Nat} (h : RowsAt w v bss b0) (hf : Fr S w w') (hS : ∀ x ∈ S, x < b0 ∨ w.heap.size ≤ x) : RowsAt w' v bss b0 := by
  obtain ⟨vs, h⟩ := h
  exact ⟨vs, h.fr hf hS⟩
theorem RowsIn.nil (w : World) (b0 : Nat) : RowsIn w (.slice none 0 0) [] [] b0 := ⟨own_nil _ _ _ _, rfl, by simp [Value.ownBlock], by simp, by simp⟩
theorem RowsIn.mono {w : World} {v : Value} {bss : List (List UInt8)} {vs : List Value} {b0 b1 : Nat} (h : RowsIn w v bss vs b0) (hb : b1 ≤ b0) : RowsIn w v bss vs b1 :=
  ⟨h.own, h.len, fun x hx => Nat.le_trans hb (h.ge x hx), fun j u bs h1 h2 => by obtain ⟨g, h3, h4, h5⟩ := h.row j u bs h1 h2; exact ⟨g, h3, by omega, h5⟩, h.one⟩
theorem BytesAt.lt {w : World} {v : Value} {bs : List UInt8} {g b0 : Nat} (h : BytesAt w v bs g) (h0 : b0 ≤ g) (h1 : b0 < w.heap.size) : ∃ g', BytesAt w v bs g' ∧ b0 ≤ g' ∧ g' < w.heap.size := by
  obtain ⟨A, c, off, hv, hc, hb⟩ := h
  rcases Nat.eq_zero_or_pos bs.length with hz | hz
  · exact ⟨b0, ⟨A, c, off, hv, hc, fun h => by omega⟩, Nat.le_refl _, h1⟩
  · obtain ⟨hA, hcell⟩ := hb hz
    obtain ⟨x, xs, rfl⟩ : ∃ x xs, bs = x :: xs := by cases bs with | nil => simp at hz | cons x xs => exact ⟨x, xs, rfl⟩
    have h2 := hcell 0 (B8 x) rfl
    exact ⟨g, ⟨A, c, off, hv, hc, hb⟩, h0, World.block_lt_of_cell? w _ h2⟩
theorem RowsIn.push {w w7 : World} {v : Value} {bss : List (List UInt8)} {vs : List Value} {b0 : Nat} {u : Value} {bs : List UInt8} {g g7 cap : Nat} (h : RowsIn w v bss vs b0) (hu : BytesAt w u bs g) (hb : b0 ≤ g) (hglt : g < w.heap.size) (hgn : v.ownBlock ≠ some g) (h1 : u.oneCell' = true)
    (ho : w7.ownsRow 0 35 1 (.slice (some ⟨g7, 0, none⟩) (bss.length + 1) cap) (bss.length + 1) (vs ++ [u])) (hf : Fr v.ownBlock.toList w w7) (hat : v.ownBlock = some g7 ∨ g7 = w.heap.size) (hH : b0 ≤ w.heap.size) :
    RowsIn w7 (.slice (some ⟨g7, 0, none⟩) (bss.length + 1) cap) (bss ++ [bs]) (vs ++ [u]) b0 := by
  have hn7 : ∀ g', g' < w.heap.size → v.ownBlock ≠ some g' → (Value.slice (some ⟨g7, 0, none⟩) (bss.length + 1) cap).ownBlock ≠ some g' := by
    intro g' h1 h2 h3
    have h4 : g7 = g' := by simpa [Value.ownBlock] using h3
    rcases hat with h5 | h5
    · exact h2 (h4 ▸ h5)
    · omega
  refine ⟨by rw [List.length_append]; exact ho, by simp [h.len], ?_, ?_, ?_⟩
  · intro x hx
    have : g7 = x := by simpa [Value.ownBlock] using hx
    rcases hat with h5 | h5
    · exact h.ge x (this ▸ h5)
    · omega
  · intro j u' bs' hj hj'
    rcases Nat.lt_or_ge j bss.length with hlt | hge
    · rw [List.getElem?_append_left (by rw [h.len]; exact hlt)] at hj
      rw [List.getElem?_append_left hlt] at hj'
      obtain ⟨g', h3, h4, h5, h6⟩ := h.row j u' bs' hj hj'
      exact ⟨g', h3.fr hf (by simpa using h6), h4, Nat.lt_of_lt_of_le h5 hf.size, hn7 g' h5 h6⟩
    · rw [List.getElem?_append_right (by rw [h.len]; exact hge)] at hj
      rw [List.getElem?_append_right hge] at hj'
      have e1 : j - bss.length = 0 := by
        rcases Nat.eq_zero_or_pos (j - bss.length) with h | h
        · exact h
        · rw [List.getElem?_eq_none (by show 1 ≤ _; omega)] at hj'; cases hj'
      rw [h.len, e1] at hj
      rw [e1] at hj'
      simp only [List.getElem?_cons_zero, Option.some.injEq] at hj hj'
      subst hj hj'
      exact ⟨g, hu.fr hf (by simpa using hgn), hb, Nat.lt_of_lt_of_le hglt hf.size, hn7 g hglt hgn⟩
  · intro x hx
    rcases List.mem_append.1 hx with hx | hx
    · exact h.one x hx
    · simp at hx; subst hx; exact h1
theorem SecsAt.lt {w : World} {gl off : Nat} {gs : List Nat} {L : List (List UInt8)} (h : SecsAt w gl off gs L) : ∀ g ∈ gs, g < w.heap.size := by
  intro g hg
  obtain ⟨j, hj, rfl⟩ := List.getElem_of_mem hg
  have hj2 : j < L.length := by rw [← h.len]; exact hj
  exact (h.sec j _ _ (List.getElem?_eq_getElem hj) (List.getElem?_eq_getElem hj2)).1.lt

end Go.Proofs.Ytidpleejgalljaa
