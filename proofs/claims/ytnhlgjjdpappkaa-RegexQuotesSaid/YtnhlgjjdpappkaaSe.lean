/-
  The contract of what step does at a place.
-/
import Derived.Test.YtnhlgjjdpappkaaSd
namespace Go.Proofs.Ytnhlgjjdpappkaa
open Go.RowKit

def Takes (ops : List Rop) (i : Nat) (c : Int) : Prop := ∃ neg set, ops[i]? = some (.take neg set) ∧ hasB neg set c = true
/-- A program that is sound. -/
structure Good (ops : List Rop) : Prop where
  wf : WF ops
  tk : ∀ i neg set, ops[i]? = some (.take neg set) → i + 1 < ops.length ∧ set.length ≤ 1000000
  few : ops.length ≤ 100000
  some_ : 0 < ops.length

set_option maxRecDepth 100000 in
set_option maxHeartbeats 800000 in
theorem step1_any {w : World} {gp kb gn gb at_ bp bc : Nat} {ch : Int} {ops : List Rop} {lv : Value} {m : List Bool} {l : List Nat} (h : PrgAt w gp kb ops) (hk : kb ≤ w.heap.size) (hg : Good ops) (hp : PlAt w gn kb ops.length lv gb m l) (hat : at_ < ops.length) (hc : Closed ops m)
    (hbp : w.cell? ⟨bp, 0, none⟩ = some (.pointer (some ⟨gp, 0, none⟩))) (hbc : w.cell? ⟨bc, 0, none⟩ = some (.int .i32 ch)) :
    Calls Try.prog 36 #[.pointer (some ⟨gn, 0, none⟩), .int .i64 (at_ : Int), .pointer (some ⟨bp, 0, none⟩), .pointer (some ⟨bc, 0, none⟩)] w fun e w' => e = .returned (.pointer (some ⟨gn, 0, none⟩)) ∧ ∃ m' l' lv', PlAt w' gn kb ops.length lv' gb m' l' ∧ PStep w w' gn gb lv lv' ∧ Closed ops m' ∧ ∀ i, marked m' i ↔ marked m i ∨ (Takes ops at_ ch ∧ Eps ops (at_ + 1) i) := by
  refine calls_post fun R HQ => ?_
  have HPG := Lib.hid h; have HP := Lib.hid hp; have HG := Lib.hid hg; have HCL := Lib.hid hc
  have hfew := hg.few
  obtain ⟨hgpk, go, c', hgo, hc', hblk, hops⟩ := h
  have p0 := hblk.at_ (i := 0) rfl
  obtain ⟨o, hox⟩ : ∃ o, ops[at_]? = some o := ⟨_, List.getElem?_eq_getElem hat⟩
  obtain ⟨cs, hoa, hocs⟩ := hops at_ o hox
  have HOX := Lib.hid hox
  have hbpl := World.block_lt_of_cell? w _ hbp
  have hbcl := World.block_lt_of_cell? w _ hbc
  clear hblk hops hox hp hg hc
  cases o with
  | done =>
    unfold OpAt at hoa
    subst hoa
    have o0 := hocs 0 _ rfl
    have o1 := hocs 1 _ rfl
    have o2 := hocs 2 _ rfl
    have o3 := hocs 3 _ rfl
    rw [Nat.add_zero] at o0
    clear hocs
    have HNT : Hid (¬ Takes ops at_ ch) := Lib.hid fun ⟨neg, set, h1, h2⟩ => by rw [HOX.out] at h1; cases h1
    go_enter Try.func36, Try.ntmps36
    go_wp2_with fail
    exact HQ.out _ _ ⟨rfl, m, l, lv, HP.out.frn ((Fr.refl [] _).alloc _), ⟨(Fr.refl _ _).alloc _, fun g hg => .inl hg⟩, HCL.out, fun i => ⟨fun h => .inl h, fun h => by rcases h with h | h; exact h; exact absurd h.1 HNT.out⟩⟩
  | fork t =>
    unfold OpAt at hoa
    subst hoa
    have o0 := hocs 0 _ rfl
    have o1 := hocs 1 _ rfl
    have o2 := hocs 2 _ rfl
    have o3 := hocs 3 _ rfl
    rw [Nat.add_zero] at o0
    clear hocs
    have HNT : Hid (¬ Takes ops at_ ch) := Lib.hid fun ⟨neg, set, h1, h2⟩ => by rw [HOX.out] at h1; cases h1
    go_enter Try.func36, Try.ntmps36
    go_wp2_with fail
    exact HQ.out _ _ ⟨rfl, m, l, lv, HP.out.frn ((Fr.refl [] _).alloc _), ⟨(Fr.refl _ _).alloc _, fun g hg => .inl hg⟩, HCL.out, fun i => ⟨fun h => .inl h, fun h => by rcases h with h | h; exact h; exact absurd h.1 HNT.out⟩⟩
  | leap t =>
    unfold OpAt at hoa
    subst hoa
    have o0 := hocs 0 _ rfl
    have o1 := hocs 1 _ rfl
    have o2 := hocs 2 _ rfl
    have o3 := hocs 3 _ rfl
    rw [Nat.add_zero] at o0
    clear hocs
    have HNT : Hid (¬ Takes ops at_ ch) := Lib.hid fun ⟨neg, set, h1, h2⟩ => by rw [HOX.out] at h1; cases h1
    go_enter Try.func36, Try.ntmps36
    go_wp2_with fail
    exact HQ.out _ _ ⟨rfl, m, l, lv, HP.out.frn ((Fr.refl [] _).alloc _), ⟨(Fr.refl _ _).alloc _, fun g hg => .inl hg⟩, HCL.out, fun i => ⟨fun h => .inl h, fun h => by rcases h with h | h; exact h; exact absurd h.1 HNT.out⟩⟩
  | take neg set =>
    have HOA := Lib.hid hoa
    obtain ⟨sv, rfl, hsv⟩ := hoa
    obtain ⟨sA, sc, rfl⟩ := hsv.slice
    have htk := HG.out.tk at_ neg set HOX.out
    clear hsv
    have o0 := hocs 0 _ rfl
    have o1 := hocs 1 _ rfl
    have o2 := hocs 2 _ rfl
    have o3 := hocs 3 _ rfl
    rw [Nat.add_zero] at o0
    clear hocs
    have HF0 : Hid (Fr [] w (w.alloc (.cells #[.int .i64 0, .bool neg, .slice sA set.length sc, .int .i64 0] 52))) := Lib.hid ((Fr.refl [] w).alloc _)
    go_enter Try.func36, Try.ntmps36
    go_wp2_with fail
    refine (has_any (HOA.out.fr HF0.out (by simp)) htk.2).mono ?_
    rintro e w1 ⟨rfl, hf1⟩
    have HF1 := Lib.hid (HF0.out.trans hf1 (by simp))
    have q1 : w1.cell? ⟨bp, 0, none⟩ = some (.pointer (some ⟨gp, 0, none⟩)) := HF1.out.cell_at (by simp) hbp
    have hz1 := HF1.out.size
    clear hf1 o0 o1 o2 o3 hbp hbc
    cases hb : hasB neg set ch with
    | false =>
      have HNT : Hid (¬ Takes ops at_ ch) := Lib.hid fun ⟨neg', set', h1, h2⟩ => by
        rw [HOX.out] at h1
        cases h1
        rw [hb] at h2
        cases h2
      clear hb
      go_wp2_with fail
      exact HQ.out _ _ ⟨rfl, m, l, lv, HP.out.frn HF1.out, ⟨HF1.out.mono (by simp), fun g hg => .inl hg⟩, HCL.out, fun i => ⟨fun h => .inl h, fun h => by rcases h with h | h; exact h; exact absurd h.1 HNT.out⟩⟩
    | true =>
      have HT : Hid (Takes ops at_ ch) := Lib.hid ⟨neg, set, HOX.out, hb⟩
      clear hb
      have hr := reach_any (at_ := at_ + 1) (HPG.out.fr HF1.out (by simp)) (by omega) (HP.out.frn HF1.out) hfew HG.out.wf htk.1 HCL.out
      rw [show ((at_ + 1 : Nat) : Int) = (at_ : Int) + 1 by omega] at hr
      have HRE := Lib.hid hr
      clear hr
      go_wp2_with fail
      refine HRE.out.mono ?_
      rintro e w2 ⟨rfl, m2, l2, lv2, hP2, hS2, hC2, hM2⟩
      have HP2 := Lib.hid hP2; have HS2 := Lib.hid (PStep.pre HF1.out hS2); have HC2 := Lib.hid hC2; have HM2 := Lib.hid hM2
      clear hP2 hS2 hC2 hM2
      go_wp2_with fail
      exact HQ.out _ _ ⟨rfl, m2, l2, lv2, HP2.out, HS2.out, HC2.out, fun i => by rw [HM2.out i]; exact ⟨fun h => by rcases h with h | h; exact .inl h; exact .inr ⟨HT.out, h⟩, fun h => by rcases h with h | h; exact .inl h; exact .inr h.2⟩⟩

end Go.Proofs.Ytnhlgjjdpappkaa
