/-
  The contracts of fold over places, and of step.
-/
import Derived.Test.YtnhlgjjdpappkaaSe
namespace Go.Proofs.Ytnhlgjjdpappkaa
open Go.RowKit

theorem PrgAt.mono {w : World} {gp K L : Nat} {ops : List Rop} (h : PrgAt w gp K ops) (hL : K ≤ L) : PrgAt w gp L ops := by
  obtain ⟨h1, go, c, h2, h3, h4, h5⟩ := h
  refine ⟨by omega, go, c, by omega, h3, h4, fun i o ho => ?_⟩
  obtain ⟨cs, h6, h7⟩ := h5 i o ho
  refine ⟨cs, ?_, h7⟩
  cases o with
  | take neg set => obtain ⟨sv, a1, a2⟩ := h6; exact ⟨sv, a1, a2.mono (fun g hg => by omega)⟩
  | fork t => exact h6
  | leap t => exact h6
  | done => exact h6
/-- What lies below D stays, where places from D on are turned. -/
theorem PStep.cell {w w' : World} {gn gb D n : Nat} {lv lv' : Value} {m : List Bool} {l : List Nat} (k : PStep w w' gn gb lv lv') (hp : PlAt w gn D n lv gb m l) {g o : Nat} {u : Value} (hg : g < D) (hc : w.cell? ⟨g, o, none⟩ = some u) : w'.cell? ⟨g, o, none⟩ = some u :=
  k.1.cell_at (fun hm => by
    have h0 := hp.lo
    rcases List.mem_cons.1 hm with e | hm
    · omega
    · rcases List.mem_cons.1 hm with e | hm
      · omega
      · have := (h0.2.2.2 g (by simpa using hm)).1; omega) hc
theorem PStep.prg {w w' : World} {gp gn gb D n : Nat} {lv lv' : Value} {m : List Bool} {l : List Nat} {ops : List Rop} (k : PStep w w' gn gb lv lv') (hp : PlAt w gn D n lv gb m l) (h : PrgAt w gp D ops) : PrgAt w' gp D ops :=
  h.fr k.1 (fun y hm => by
    have h0 := hp.lo
    rcases List.mem_cons.1 hm with e | hm
    · omega
    · rcases List.mem_cons.1 hm with e | hm
      · omega
      · exact (h0.2.2.2 y (by simpa using hm)).1)
def FoRel (w : World) (gn D gb : Nat) (lv0 : Value) (ops : List Rop) (m0 : List Bool) (ln : List Nat) (ch : Int) (j : Nat) (v1 v11 : Value) (wr : World) : Prop :=
  ∃ (k : Nat) (m : List Bool) (l : List Nat) (lv : Value), k + j = ln.length ∧ v1 = .pointer (some ⟨gn, 0, none⟩) ∧ v11 = .int .i64 (k : Int) ∧ PlAt wr gn D ops.length lv gb m l ∧ PStep w wr gn gb lv0 lv ∧ Closed ops m ∧ ∀ i, marked m i ↔ marked m0 i ∨ ∃ a ∈ ln.take k, Takes ops a ch ∧ Eps ops (a + 1) i

set_option maxRecDepth 100000 in
set_option maxHeartbeats 800000 in
theorem foldi_any {w : World} {gp D gn gb bp bc g : Nat} {ch : Int} {ops : List Rop} {lv0 lvn : Value} {m0 : List Bool} {l0 ln : List Nat} (h : PrgAt w gp D ops) (hk : D ≤ w.heap.size) (hg : Good ops) (hp : PlAt w gn D ops.length lv0 gb m0 l0) (hc : Closed ops m0)
    (hbp : w.cell? ⟨bp, 0, none⟩ = some (.pointer (some ⟨gp, 0, none⟩))) (hbc : w.cell? ⟨bc, 0, none⟩ = some (.int .i32 ch)) (hbpD : bp < D) (hbcD : bc < D) (hln : SlAt w lvn ln.length (ln.map I64) g) (hgD : 0 < ln.length → g < D) (hll : ∀ a ∈ ln, a < ops.length) (hlm : ln.length ≤ 100000) :
    Calls Try.prog 35 #[lvn, .pointer (some ⟨gn, 0, none⟩), .func (.func 36) #[] #[.pointer (some ⟨bp, 0, none⟩), .pointer (some ⟨bc, 0, none⟩)]] w fun e w' => e = .returned (.pointer (some ⟨gn, 0, none⟩)) ∧ ∃ m l lv, PlAt w' gn D ops.length lv gb m l ∧ PStep w w' gn gb lv0 lv ∧ Closed ops m ∧ ∀ i, marked m i ↔ marked m0 i ∨ ∃ a ∈ ln, Takes ops a ch ∧ Eps ops (a + 1) i := by
  refine calls_post fun R HQ => ?_
  obtain ⟨A, c, off, rfl, hcc, hcells⟩ := hln
  have HPG := Lib.hid h; have HP0 := Lib.hid hp; have HG := Lib.hid hg; have HCL := Lib.hid hc; have HCE := Lib.hid hcells; have HLL := Lib.hid hll; have HBP := Lib.hid hbp; have HBC := Lib.hid hbc; have HGD := Lib.hid hgD
  obtain ⟨n, hn⟩ : ∃ n, n = ln.length := ⟨_, rfl⟩
  have HN := Lib.hid hn
  rw [← hn] at hcc hlm ⊢
  clear h hp hg hc hcells hll hbp hbc hn hgD
  go_enter Try.func35, Try.ntmps35
  go_wp2_with fail
  go_loopg [1, 11] n (FoRel w gn D gb lv0 ops m0 ln ch)
  case atStart => exact ⟨0, m0, l0, lv0, by rw [← HN.out]; omega, rfl, rfl, HP0.out, PStep.refl _ _ _ _, HCL.out, fun i => by simp⟩
  case round =>
    obtain ⟨k, m, l, lv, hkj, rfl, rfl, hP, hS, hC, hM⟩ := hrel
    rw [← HN.out] at hkj
    have HP := Lib.hid hP; have HS := Lib.hid hS; have HC := Lib.hid hC; have HM := Lib.hid hM
    have hzr := hS.1.size
    clear hP hS hC hM
    by_cases hkn : k < n
    · obtain ⟨a, ha⟩ : ∃ a, ln[k]? = some a := ⟨_, List.getElem?_eq_getElem (by rw [← HN.out]; exact hkn)⟩
      obtain ⟨rfl, hcell⟩ := HCE.out (by rw [← HN.out]; omega)
      have ca := HS.out.cell HP0.out (HGD.out (by rw [← HN.out]; omega)) (hcell k (I64 a) (by rw [List.getElem?_map, ha]; rfl))
      unfold I64 at ca
      have HAT : Hid (ln.take (k + 1) = ln.take k ++ [a]) := Lib.hid (by obtain ⟨h1, rfl⟩ := List.getElem?_eq_some_iff.1 ha; exact List.take_succ_eq_append_getElem h1)
      have HCA := Lib.hid (step1_any (HS.out.prg HP0.out HPG.out) (by omega) HG.out HP.out (HLL.out a (List.mem_of_getElem? ha)) HC.out (HS.out.cell HP0.out hbpD HBP.out) (HS.out.cell HP0.out hbcD HBC.out))
      clear ha hcell
      go_wp2_with fail
      refine HCA.out.mono ?_
      rintro e w2 ⟨rfl, m2, l2, lv2, hP2, hS2, hC2, hM2⟩
      have HP2 := Lib.hid hP2; have HS2 := Lib.hid (HS.out.trans hS2); have HC2 := Lib.hid hC2; have HM2 := Lib.hid hM2
      clear hP2 hS2 hC2 hM2
      go_wp2_with fail
      go_roundg (gk - 1)
      case measure => omega
      case rel =>
        refine ⟨k + 1, m2, l2, lv2, by rw [← HN.out]; omega, rfl, by go_num, HP2.out, HS2.out, HC2.out, fun i => ?_⟩
        rw [HM2.out i, HM.out i, HAT.out]
        constructor
        · rintro ((h | ⟨b, hb, h⟩) | h)
          · exact .inl h
          · exact .inr ⟨b, by simp [hb], h⟩
          · exact .inr ⟨a, by simp, h⟩
        · rintro (h | ⟨b, hb, h⟩)
          · exact .inl (.inl h)
          · rcases List.mem_append.1 hb with hb | hb
            · exact .inl (.inr ⟨b, hb, h⟩)
            · simp at hb; subst hb; exact .inr h
    · have HMN : Hid (ln.take k = ln) := Lib.hid (List.take_of_length_le (by rw [← HN.out]; omega))
      go_wp2_with fail
      exact HQ.out _ _ ⟨rfl, m, l, lv, HP.out, HS.out, HC.out, fun i => by rw [HM.out i, HMN.out]⟩

end Go.Proofs.Ytnhlgjjdpappkaa
