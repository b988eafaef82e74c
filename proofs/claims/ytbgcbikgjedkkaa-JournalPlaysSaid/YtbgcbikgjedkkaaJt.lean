/-
  The contract of orangeryref07.Same: are lists of bytes the same?
-/
import Derived.Test.YtbgcbikgjedkkaaJo
namespace Go.Proofs.Ytbgcbikgjedkkaa
open Go.RowKit

/-- A slice of byte slices that can be read. -/
def RowsRd (w : World) (v : Value) (bss : List (List UInt8)) : Prop :=
  ∃ A c g off, v = .slice A bss.length c ∧ bss.length ≤ c ∧ (0 < bss.length → A = some ⟨g, off, none⟩) ∧
    ∀ (j : Nat) (bs : List UInt8), bss[j]? = some bs → ∃ B x gx, w.cell? ⟨g, off + j, none⟩ = some (.slice B bs.length x) ∧ BytesAt w (.slice B bs.length x) bs gx
theorem RowsRd.drewN {w : World} {v : Value} {bss : List (List UInt8)} (h : RowsRd w v bss) (m : Nat) : RowsRd (w.drewN m) v bss := by
  obtain ⟨A, c, g, off, h1, h2, h3, h4⟩ := h
  refine ⟨A, c, g, off, h1, h2, h3, fun j bs hj => ?_⟩
  obtain ⟨B, x, gx, h5, h6⟩ := h4 j bs hj
  exact ⟨B, x, gx, h5, h6.fr ((Fr.refl [] w).drewN m) (by simp)⟩
theorem RowsIn.rd {w : World} {v : Value} {bss : List (List UInt8)} {vs : List Value} {b0 : Nat} (h : RowsIn w v bss vs b0) : RowsRd w v bss := by
  obtain ⟨a, c, rfl, hc, _⟩ := own_shape h.own
  rcases Nat.eq_zero_or_pos bss.length with h0 | h0
  · have : bss = [] := List.eq_nil_of_length_eq_zero h0
    subst this
    exact ⟨a, c, 0, 0, rfl, hc, fun h => absurd h (by simp), by simp⟩
  · obtain ⟨g, rfl, hcell⟩ := own_cell h.own h0
    refine ⟨_, c, g, 0, rfl, hc, fun _ => rfl, fun j bs hj => ?_⟩
    obtain ⟨g', A', c', x, gx, he, _, h1, h2⟩ := h.bytes hj
    injection he with he _ _
    simp only [Option.some.injEq, Addr.mk.injEq] at he
    obtain ⟨rfl, _⟩ := he
    exact ⟨A', x, gx, by rw [Nat.zero_add]; exact h1, h2⟩

def SameRel (w : World) (va vb : Value) (A B : List (List UInt8)) (i : Value) (wr : World) : Prop :=
  ∃ k : Nat, k ≤ A.length ∧ i = .int .i64 k ∧ (∃ m, wr = w.drewN m) ∧ A.take k = B.take k ∧ RowsRd wr va A ∧ RowsRd wr vb B

set_option maxRecDepth 100000 in
set_option maxHeartbeats 1000000 in
theorem same_any {w : World} {va vb : Value} {A B : List (List UInt8)} (hA : RowsRd w va A) (hB : RowsRd w vb B) (hm : A.length ≤ 1099511627776) (hm2 : B.length ≤ 1099511627776) :
    Calls Try.prog 38 #[va, vb] w fun e w' => e = .returned (.bool (decide (A = B))) ∧ ∃ m, w' = w.drewN m := by
  have HA := Lib.hid hA; have HB := Lib.hid hB
  obtain ⟨Aa, ca, ga, oa, rfl, hca, _, _⟩ := hA
  obtain ⟨Ab, cb, gb, ob, rfl, hcb, _, _⟩ := hB
  by_cases hlen : A.length = B.length
  · have HLEN := Lib.hid hlen
    rw [← hlen] at hcb HB ⊢
    clear hlen
    go_enter Try.func38, Try.ntmps38
    go_wp2
    go_loopw [5] (SameRel w (.slice Aa A.length ca) (.slice Ab A.length cb) A B) (fun i _ => A.length - (intOf i).toNat)
    case atStart => exact ⟨0, Nat.zero_le _, rfl, ⟨0, rfl⟩, by simp, HA.out, HB.out⟩
    case round =>
      obtain ⟨k, hk, rfl, hwm, htk, hra, hrb⟩ := hrel
      have HTK := Lib.hid htk; have HWM := Lib.hid hwm; have HRA := Lib.hid hra; have HRB := Lib.hid hrb
      clear htk hwm hra hrb
      by_cases hkn : k < A.length
      · have hkb : k < B.length := by rw [← HLEN.out]; exact hkn
        obtain ⟨A', c', g1, o1, e1, _, eA, r1⟩ := HRA.out
        obtain ⟨B', c2', g2, o2, e2, _, eB, r2⟩ := HRB.out
        injection e1 with e1 e1l e1'
        injection e2 with e2 e2l e2'
        subst e1 e2 e1' e2'
        clear e1l e2l
        have eA := eA (by omega)
        have eB := eB (by omega)
        subst eA eB
        obtain ⟨B1, x1, y1, c1, b1⟩ := r1 k _ (List.getElem?_eq_getElem hkn)
        obtain ⟨B2, x2, y2, c2, b2⟩ := r2 k _ (List.getElem?_eq_getElem hkb)
        have k1 := fun nq : Nat => run_string_of (P := Try.prog) (dst := 9) Try.underlying22 Try.underlying5 Try.underlying9 (b1.fr ((Fr.refl [] wr).drewN nq) (by simp))
        have k2 := fun nq : Nat => run_string_of (P := Try.prog) (dst := 9) Try.underlying22 Try.underlying5 Try.underlying9 (b2.fr ((Fr.refl [] wr).drewN nq) (by simp))
        clear b1 b2 r1 r2
        have HA1 : Hid (∀ x, A[k] = x → A[k]? = some x) := Lib.hid fun x hx => by rw [List.getElem?_eq_getElem hkn, hx]
        have HB1 : Hid (∀ x, B[k] = x → B[k]? = some x) := Lib.hid fun x hx => by rw [List.getElem?_eq_getElem hkb, hx]
        obtain ⟨sA, hsA⟩ : ∃ sA, A[k] = sA := ⟨_, rfl⟩
        obtain ⟨sB, hsB⟩ : ∃ sB, B[k] = sB := ⟨_, rfl⟩
        rw [hsA] at c1 k1
        rw [hsB] at c2 k2
        have hA1 := Lib.hid (HA1.out sA hsA); have hB1 := Lib.hid (HB1.out sB hsB)
        clear hsA hsB HA1 HB1
        by_cases heq : sA = sB
        · subst heq
          have hbeq : (sA == sA) = true := by simp
          go_wp2_with fail
          go_quiet (fail)
          go_wp2
          go_roundw
          case rel =>
            refine ⟨k + 1, hkn, by go_num, ?_, ?_, HRA.out.drewN _, HRB.out.drewN _⟩
            · obtain ⟨m, hm⟩ := HWM.out
              exact ⟨_, by rw [hm, World.drewN_drewN]⟩
            · rw [List.take_add_one, List.take_add_one, HTK.out, hA1.out, hB1.out]
          case measure => simp [intOf]; omega
        · have hbeq : (sA == sB) = false := by simpa using heq
          have hne : A ≠ B := fun h => by
            subst h
            have h1 := hA1.out
            rw [hB1.out] at h1
            simp at h1
            exact heq h1.symm
          have HNE := Lib.hid hne
          clear hne heq
          go_wp2_with fail
          go_quiet (fail)
          go_wp2
          go_ret
          rw [decide_eq_false HNE.out]
          obtain ⟨m, hm⟩ := HWM.out
          exact ⟨rfl, _, by rw [hm, World.drewN_drewN]⟩
      · have hkk : k = A.length := by omega
        have heq : A = B := by
          have h := HTK.out
          rw [hkk, List.take_length, HLEN.out, List.take_length] at h
          exact h
        have HEQ := Lib.hid heq
        clear heq hkk
        go_wp2
        go_ret
        rw [decide_eq_true HEQ.out]
        exact ⟨rfl, HWM.out⟩
  · have hlen' : ¬ (A.length : Int) = (B.length : Int) := by omega
    have hne : A ≠ B := fun h => hlen (by rw [h])
    rw [decide_eq_false hne]
    go_enter Try.func38, Try.ntmps38
    go_wp2
    go_ret
    exact ⟨rfl, 0, rfl⟩

end Go.Proofs.Ytbgcbikgjedkkaa
