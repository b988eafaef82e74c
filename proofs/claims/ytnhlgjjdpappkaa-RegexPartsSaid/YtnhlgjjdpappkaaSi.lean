/-
  The contract of Search.
-/
import Derived.Test.YtnhlgjjdpappkaaSh
namespace Go.Proofs.Ytnhlgjjdpappkaa
open Go.RowKit

/-- Where a search may be behind a character. -/
def srchSet (ops : List Rop) (S : Nat → Prop) (c : Int) : Nat → Prop := fun i => stepSet ops S c i ∨ Eps ops 0 i
def finds (ops : List Rop) (L : List Int) : Prop := ∃ k, k ≤ L.length ∧ ((L.take k).foldl (srchSet ops) (Eps ops 0)) (ops.length - 1)
def SeRel (w : World) (kb : Nat) (ops : List Rop) (L : List Int) (j : Nat) (v5 v26 : Value) (wr : World) : Prop :=
  ∃ (k gn gb : Nat) (m : List Bool) (l : List Nat) (lv : Value), k + j = L.length ∧ v5 = .pointer (some ⟨gn, 0, none⟩) ∧ v26 = .int .i64 (k : Int) ∧ PlAt wr gn kb ops.length lv gb m l ∧ Fr [] w wr ∧ Closed ops m ∧ marked m = (L.take k).foldl (srchSet ops) (Eps ops 0) ∧ ∀ i, i < k → ¬ ((L.take i).foldl (srchSet ops) (Eps ops 0)) (ops.length - 1)

set_option maxRecDepth 100000 in
set_option maxHeartbeats 800000 in
theorem Search_any {w : World} {gp kb : Nat} {ops : List Rop} (s : ByteArray) (h : PrgAt w gp kb ops) (hk : kb ≤ w.heap.size) (hg : Good ops) (hs : s.size ≤ 1000000) :
    Calls Try.prog 12 #[.pointer (some ⟨gp, 0, none⟩), .string s] w fun e w' => ∃ b, e = .returned (.bool b) ∧ (b = true ↔ finds ops (runesOf (strBytes s))) ∧ Fr [] w w' := by
  refine calls_post fun R HQ => ?_
  have HPG := Lib.hid h; have HG := Lib.hid hg
  have hsome := hg.some_
  have hfew := hg.few
  obtain ⟨hgpk, go, c', hgo, hc', hblk, hops⟩ := h
  have p0 := hblk.at_ (i := 0) rfl
  have d0 : ((ops.length : Int) == 0) = false := by simp; intro e; rw [e] at hsome; simp at hsome
  have hnn : ¬ ops.length = 0 := by omega
  clear hblk hops hg
  go_enter Try.func12, Try.ntmps12
  go_wp2_with fail
  refine (empty_any HPG.out hk hsome hfew).mono ?_
  rintro e w1 ⟨gn, gb, rfl, hP1, hg1, hg2, hf1⟩
  have HP1 := Lib.hid hP1; have HF1 := Lib.hid hf1
  have hz1 := hf1.size
  have hrea := reach_any (at_ := 0) (HPG.out.fr hf1 (by simp)) (by omega) hP1 hfew HG.out.wf hsome (closed_none _ _)
  have HRE := Lib.hid hrea
  clear hP1 hf1 hrea
  go_wp2_with fail
  refine HRE.out.mono ?_
  rintro e w2 ⟨rfl, m2, l2, lv2, hP2, hS2, hC2, hM2⟩
  have hf2 : Fr [] w w2 := HF1.out.trans hS2.1 (fun y hy => .inr (by
    rcases List.mem_cons.1 hy with e | hy
    · omega
    · rcases List.mem_cons.1 hy with e | hy
      · omega
      · simp [Value.ownBlock] at hy))
  have HP2 := Lib.hid hP2; have HF2 := Lib.hid hf2; have HC2 := Lib.hid hC2
  have HM2 : Hid (marked m2 = Eps ops 0) := Lib.hid (by
    funext i
    rw [hM2 i]
    exact propext ⟨fun h => by rcases h with h | h; exact absurd h (marked_none _ _); exact h, fun h => .inr h⟩)
  have hz2 := hf2.size
  clear hP2 hS2 hC2 hM2 hf2 p0
  go_wp2_with fail
  refine (runes_any s hs).mono ?_
  rintro e w3 ⟨v3, g3, rfl, hsl, -, hf3⟩
  have HP3 := Lib.hid (HP2.out.frn hf3); have HF3 := Lib.hid (HF2.out.trans hf3 (by simp))
  have hz3 := hf3.size
  have hrl : (runesOf (strBytes s)).length ≤ 1000000 := by have := runesF_len (strBytes s).length (strBytes s) (Nat.le_refl _); rw [strBytes_len] at this; unfold runesOf; rw [strBytes_len]; omega
  obtain ⟨L, hL⟩ : ∃ L, L = runesOf (strBytes s) := ⟨_, rfl⟩
  rw [← hL] at hsl hrl HQ
  obtain ⟨A, c, off, rfl, hcc, hcells⟩ := hsl
  have HCE := Lib.hid hcells
  obtain ⟨n, hn⟩ : ∃ n, n = L.length := ⟨_, rfl⟩
  have HN := Lib.hid hn
  rw [← hn] at hcc hrl ⊢
  clear hcells hf3 hL hn
  go_wp2_with fail
  go_loopg [5, 26] n (SeRel w3 kb ops L)
  case atStart => exact ⟨0, gn, gb, m2, l2, lv2, by rw [← HN.out]; omega, rfl, rfl, HP3.out, Fr.refl _ _, HC2.out, HM2.out, fun i hi => absurd hi (by omega)⟩
  case round =>
    obtain ⟨k, gn1, gb1, m1, l1, lv1, hkj, rfl, rfl, hP, hF, hC, hM, hno⟩ := hrel
    rw [← HN.out] at hkj
    have HP := Lib.hid hP; have HF := Lib.hid hF; have HC := Lib.hid hC; have HM := Lib.hid hM; have HNO := Lib.hid hno
    have hzr := hF.size
    have HFW := Lib.hid (HF3.out.trans hF (by simp))
    have HPGr := Lib.hid (HPG.out.fr HFW.out (by simp))
    have HD := Lib.hid (done_any HPGr.out hP hsome hfew)
    have HMK := Lib.hid (getD_marked m1 (ops.length - 1))
    clear hP hF hC hM hno
    generalize hb : m1.getD (ops.length - 1) false = b at *
    clear hb
    by_cases hkn : k < n
    · obtain ⟨x, hx⟩ : ∃ x, L[k]? = some x := ⟨_, List.getElem?_eq_getElem (by rw [← HN.out]; exact hkn)⟩
      obtain ⟨rfl, hcell⟩ := HCE.out (by rw [← HN.out]; omega)
      have cx := HF.out.cell_at (by simp) (hcell k (R32 x) (by simp [rcellsR, hx]))
      unfold R32 at cx
      have HAT : Hid (L.take (k + 1) = L.take k ++ [x]) := Lib.hid (by obtain ⟨h1, rfl⟩ := List.getElem?_eq_some_iff.1 hx; exact List.take_succ_eq_append_getElem h1)
      clear hx hcell
      go_wp2_with fail
      refine HD.out.mono ?_
      rintro e w4 ⟨rfl, hf4⟩
      have HF4 := Lib.hid (HF.out.trans hf4 (by simp))
      have HFW4 := Lib.hid (HFW.out.trans hf4 (by simp))
      have HP4 := Lib.hid (HP.out.frn hf4)
      have hz4 := hf4.size
      clear hf4
      cases b with
      | true =>
        have HY : Hid (finds ops L) := Lib.hid ⟨k, by rw [← HN.out]; omega, by rw [← HM.out]; exact HMK.out.1 rfl⟩
        go_wp2_with fail
        exact HQ.out _ _ ⟨true, rfl, ⟨fun _ => HY.out, fun _ => rfl⟩, HFW4.out⟩
      | false =>
        have HNK : Hid (∀ i, i < k + 1 → ¬ ((L.take i).foldl (srchSet ops) (Eps ops 0)) (ops.length - 1)) := Lib.hid fun i hi => by
          by_cases e : i = k
          · subst e
            rw [← HM.out]
            intro hmk
            have := HMK.out.2 hmk
            cases this
          · exact HNO.out i (by omega)
        have HSA := Lib.hid (step_any (ch := x) (HPG.out.fr HFW4.out (by simp)) (by have := HFW4.out.size; omega) HG.out HP4.out)
        go_wp2_with fail
        refine HSA.out.mono ?_
        rintro e w5 ⟨gn5, gb5, m5, l5, lv5, rfl, hP5, hF5, hC5, hM5⟩
        have HF5 := Lib.hid (HF4.out.trans hF5 (by simp)); have HFW5 := Lib.hid (HFW4.out.trans hF5 (by simp)); have HM5 := Lib.hid hM5
        have hz5 := hF5.size
        have hw5 := HFW5.out.size
        have HP5 := Lib.hid hP5
        have hrea := reach_any (at_ := 0) ((HPG.out.fr HFW5.out (by simp)).mono (L := w4.heap.size) (by have := HFW4.out.size; omega)) (by omega) hP5 hfew HG.out.wf hsome hC5
        have HRE := Lib.hid hrea
        have HLO5 := Lib.hid hP5.lo
        have hzw := HF.out.size
        clear hrea hP5 hF5 hC5 hM5
        go_wp2_with fail
        refine HRE.out.mono ?_
        rintro e w6 ⟨rfl, m6, l6, lv6, hP6, hS6, hC6, hM6⟩
        have hf6 : Fr [] w3 w6 := HF5.out.trans hS6.1 (fun y hy => .inr (by
          have h0 := HLO5.out
          rcases List.mem_cons.1 hy with e | hy
          · omega
          · rcases List.mem_cons.1 hy with e | hy
            · omega
            · have := (h0.2.2.2 y (by simpa using hy)).1; omega))
        have HP6 := Lib.hid (hP6.mono (K := kb) (by have := HFW4.out.size; omega)); have HF6 := Lib.hid hf6; have HC6 := Lib.hid hC6
        have HM6 : Hid (marked m6 = (L.take (k + 1)).foldl (srchSet ops) (Eps ops 0)) := Lib.hid (by
          rw [HAT.out, List.foldl_append, ← HM.out]
          funext i
          exact propext (by rw [hM6 i, HM5.out i]; exact Iff.rfl))
        clear hP6 hS6 hC6 hM6 hf6
        go_wp2_with fail
        go_roundg (gk - 1)
        case measure => omega
        case rel => exact ⟨k + 1, gn5, gb5, m6, l6, lv6, by rw [← HN.out]; omega, rfl, by go_num, HP6.out, HF6.out, HC6.out, HM6.out, HNK.out⟩
    · have HMN : Hid (L.take k = L) := Lib.hid (List.take_of_length_le (by rw [← HN.out]; omega))
      go_wp2_with fail
      refine HD.out.mono ?_
      rintro e w4 ⟨rfl, hf4⟩
      have HFW4 := Lib.hid (HFW.out.trans hf4 (by simp))
      clear hf4
      have HFI : Hid (b = true ↔ finds ops L) := Lib.hid (by
        rw [HMK.out, HM.out]
        constructor
        · intro h
          exact ⟨k, by rw [← HN.out]; omega, h⟩
        · rintro ⟨i, hi, h⟩
          by_cases e : i = k
          · subst e; exact h
          · exact absurd h (HNO.out i (by rw [← HN.out] at hi; omega)))
      go_wp2_with fail
      exact HQ.out _ _ ⟨b, rfl, HFI.out, HFW4.out⟩

end Go.Proofs.Ytnhlgjjdpappkaa
