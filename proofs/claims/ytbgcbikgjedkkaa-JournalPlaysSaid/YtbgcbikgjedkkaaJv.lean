/-
  Rows of byte slices among blocks that are none of the disk's; the loop's relation of JournalKeeps.
-/
import Derived.Test.YtbgcbikgjedkkaaJt
import Derived.Test.YtbgcbikgjedkkaaJu
namespace Go.Proofs.Ytbgcbikgjedkkaa
open Go.RowKit

/-- A slice of byte slices; all its blocks are Y's. -/
structure RowsX (w : World) (v : Value) (bss : List (List UInt8)) (vs : List Value) (Y : Nat → Prop) : Prop where
  own : w.ownsRow 0 22 1 v bss.length vs
  len : vs.length = bss.length
  inY : ∀ x, v.ownBlock = some x → Y x
  row : ∀ (j : Nat) (u : Value) (bs : List UInt8), vs[j]? = some u → bss[j]? = some bs → ∃ g, BytesAt w u bs g ∧ Y g ∧ v.ownBlock ≠ some g
  one : ∀ u ∈ vs, u.oneCell' = true
section
variable {w w' : World} {v : Value} {bss : List (List UInt8)} {vs : List Value} {Y Z : Nat → Prop}
theorem RowsX.fr {S : List Nat} (h : RowsX w v bss vs Y) (hf : Fr S w w') (hS : ∀ x ∈ S, ¬ Y x) : RowsX w' v bss vs Y :=
  ⟨own_fr h.own hf (fun g hg hm => hS g hm (h.inY g hg)), h.len, h.inY, fun j u bs h1 h2 => by
    obtain ⟨g, h3, h4, h5⟩ := h.row j u bs h1 h2
    exact ⟨g, h3.fr hf (fun hm => hS g hm h4), h4, h5⟩, h.one⟩
theorem RowsX.kp (h : RowsX w v bss vs Y) (hk : Kp Z w w') (hZ : ∀ x, Y x → Z x) : RowsX w' v bss vs Y := by
  obtain ⟨S, hf, hS⟩ := hk
  exact h.fr hf (fun x hx hy => hS x hx (hZ x hy))
theorem RowsX.weak (h : RowsX w v bss vs Y) (hZ : ∀ x, Y x → Z x) : RowsX w v bss vs Z :=
  ⟨h.own, h.len, fun x hx => hZ x (h.inY x hx), fun j u bs h1 h2 => by obtain ⟨g, h3, h4, h5⟩ := h.row j u bs h1 h2; exact ⟨g, h3, hZ g h4, h5⟩, h.one⟩
theorem RowsX.nil (w : World) (Y : Nat → Prop) : RowsX w (.slice none 0 0) [] [] Y := ⟨own_nil _ _ _ _, rfl, by simp [Value.ownBlock], by simp, by simp⟩
theorem RowsX.in_ (h : RowsX w v bss vs Y) (hlt : ∀ k, Y k → k < w.heap.size) : RowsIn w v bss vs 0 :=
  ⟨h.own, h.len, fun _ _ => Nat.zero_le _, fun j u bs h1 h2 => by obtain ⟨g, h3, h4, h5⟩ := h.row j u bs h1 h2; exact ⟨g, h3, Nat.zero_le _, hlt g h4, h5⟩, h.one⟩
theorem RowsX.push {w7 : World} {u : Value} {bs : List UInt8} {g g7 cap : Nat} (h : RowsX w v bss vs Y) (hlt : ∀ k, Y k → k < w.heap.size) (hu : BytesAt w u bs g) (hg : Y g) (hgn : v.ownBlock ≠ some g) (h1 : u.oneCell' = true)
    (ho : w7.ownsRow 0 22 1 (.slice (some ⟨g7, 0, none⟩) (bss.length + 1) cap) (bss.length + 1) (vs ++ [u])) (hf : Fr v.ownBlock.toList w w7) (hat : v.ownBlock = some g7 ∨ w.heap.size ≤ g7) :
    RowsX w7 (.slice (some ⟨g7, 0, none⟩) (bss.length + 1) cap) (bss ++ [bs]) (vs ++ [u]) (fun k => Y k ∨ k = g7) := by
  have hn7 : ∀ g', Y g' → v.ownBlock ≠ some g' → (Value.slice (some ⟨g7, 0, none⟩) (bss.length + 1) cap).ownBlock ≠ some g' := by
    intro g' h1 h2 h3
    have h4 : g7 = g' := by simpa [Value.ownBlock] using h3
    rcases hat with h5 | h5
    · exact h2 (h4 ▸ h5)
    · have := hlt g' h1; omega
  refine ⟨by rw [List.length_append]; exact ho, by simp [h.len], ?_, ?_, ?_⟩
  · intro x hx
    have : g7 = x := by simpa [Value.ownBlock] using hx
    exact .inr this.symm
  · intro j u' bs' hj hj'
    rcases Nat.lt_or_ge j bss.length with hlt' | hge
    · rw [List.getElem?_append_left (by rw [h.len]; exact hlt')] at hj
      rw [List.getElem?_append_left hlt'] at hj'
      obtain ⟨g', h3, h4, h5⟩ := h.row j u' bs' hj hj'
      exact ⟨g', h3.fr hf (by simpa using h5), .inl h4, hn7 g' h4 h5⟩
    · rw [List.getElem?_append_right (by rw [h.len]; exact hge)] at hj
      rw [List.getElem?_append_right hge] at hj'
      have e1 : j - bss.length = 0 := by
        rcases Nat.eq_zero_or_pos (j - bss.length) with h | h
        · exact h
        · rw [List.getElem?_eq_none (by show 1 ≤ _; omega)] at hj'; cases hj'
      rw [h.len, e1] at hj
      rw [e1] at hj'
      simp only [List.getElem?_cons_zero, Option.some.injEq] at hj hj'
      subst hj hj'
      exact ⟨g, hu.fr hf (by simpa using hgn), .inl hg, hn7 g hg hgn⟩
  · intro x hx
    rcases List.mem_append.1 hx with hx | hx
    · exact h.one x hx
    · simp at hx; subst hx; exact h1
end
theorem RowsRd.take {w : World} {A : Option Addr} {n c : Nat} {R1 R2 : List (List UInt8)} (h : RowsRd w (.slice A n c) (R1 ++ R2)) : RowsRd w (.slice A R1.length c) R1 ∧ R1.length ≤ c ∧ n = (R1 ++ R2).length := by
  obtain ⟨A', c', g, off, hv, hc, hA, hr⟩ := h
  injection hv with h1 h2 h3
  subst h1 h3
  rw [List.length_append] at hc
  refine ⟨⟨A, c, g, off, rfl, by omega, fun h0 => hA (by rw [List.length_append]; omega), fun j bs hj => ?_⟩, by omega, h2⟩
  exact hr j bs (by rw [List.getElem?_append_left (List.getElem?_eq_some_iff.1 hj).1]; exact hj)
/-- The disk stays where blocks that are none of its are written. -/
theorem DkX.frX {w0 w w' : World} {d : Nat} {D : DM} {X : Nat → Prop} {S : List Nat} (h : DkX w0 w d D X) (hf : Fr S w w') (hS : ∀ x ∈ S, (X x ∧ w0.heap.size ≤ x) ∨ w.heap.size ≤ x) : DkX w0 w' d D (fun k => X k ∨ w.heap.size ≤ k ∧ k < w'.heap.size) := by
  obtain ⟨fp, h1, h2, h3, h4⟩ := h
  have hz := hf.size
  have hz0 := h3.size
  refine ⟨fp, h1.fr hf (fun k hk hm => ?_), fun k hk => ⟨(h2 k hk).1, ?_⟩, h3.trans hf (fun x hx => ?_), ?_⟩
  · rcases hS k hm with h | h
    · exact (h2 k hk).2 h.1
    · have := h1.lt k hk; omega
  · rintro (hx | hx)
    · exact (h2 k hk).2 hx
    · have := h1.lt k hk; omega
  · rcases hS x hx with h | h
    · exact .inr h.2
    · right; omega
  · rintro k (hx | hx)
    · have := h4 k hx; omega
    · exact hx.2
theorem DkX.lt {w0 w : World} {d : Nat} {D : DM} {X : Nat → Prop} (h : DkX w0 w d D X) : ∀ k, X k → k < w.heap.size := by
  obtain ⟨_, _, _, _, h⟩ := h; exact h

def KRel (w : World) (d lg n : Nat) (K : List Bool) (want flying i : Value) (wr : World) : Prop :=
  ∃ (k : Nat) (Y : Nat → Prop) (D : DM) (Ws : List (List UInt8)) (vs : List Value),
    k ≤ n ∧ i = .int .i64 k ∧ (∀ x, Y x → w.heap.size ≤ x) ∧ ¬ Y lg ∧ DkX w wr d D (fun x => x = lg ∨ Y x) ∧ RowsX wr want Ws vs Y ∧
    ((∃ l, k = Ws.length ∧ KLive Ws D l ∧ Blk wr lg 84 (l.cells d)) ∨ (∃ b g, KDead Ws b D K ∧ BytesAt wr flying b g ∧ Y g))
theorem byte_small {k : Nat} (h : k < 256) : Value.int .u8 (k : Int) = B8 (UInt8.ofNat k) := by
  unfold B8
  congr 1
  simp
  omega

end Go.Proofs.Ytbgcbikgjedkkaa
