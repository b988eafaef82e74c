/-
  The contracts of fold over characters, Match, Search.
-/
import Derived.Test.YtnhlgjjdpappkaaSg
namespace Go.Proofs.Ytnhlgjjdpappkaa
open Go.RowKit

/-- Where a program may be behind a character. -/
def stepSet (ops : List Rop) (S : Nat → Prop) (c : Int) : Nat → Prop := fun i => ∃ a, S a ∧ Takes ops a c ∧ Eps ops (a + 1) i
def FrRel (w : World) (kb : Nat) (ops : List Rop) (S0 : Nat → Prop) (ls : List Int) (j : Nat) (v1 v11 : Value) (wr : World) : Prop :=
  ∃ (k gn gb : Nat) (m : List Bool) (l : List Nat) (lv : Value), k + j = ls.length ∧ v1 = .pointer (some ⟨gn, 0, none⟩) ∧ v11 = .int .i64 (k : Int) ∧ PlAt wr gn kb ops.length lv gb m l ∧ Fr [] w wr ∧ Closed ops m ∧ marked m = (ls.take k).foldl (stepSet ops) S0

set_option maxRecDepth 100000 in
set_option maxHeartbeats 800000 in
theorem foldr_any {w : World} {gp kb gn gb g : Nat} {ops : List Rop} {lv lvs : Value} {m : List Bool} {l : List Nat} {ls : List Int} (h : PrgAt w gp kb ops) (hk : kb ≤ w.heap.size) (hg : Good ops) (hp : PlAt w gn kb ops.length lv gb m l) (hc : Closed ops m) (hls : SlAt w lvs ls.length (rcellsR ls) g) (hlm : ls.length ≤ 1000000) :
    Calls Try.prog 24 #[lvs, .pointer (some ⟨gn, 0, none⟩), .func (.func 26) #[.pointer (some ⟨gp, 0, none⟩)] #[]] w fun e w' => ∃ gn' gb' m' l' lv', e = .returned (.pointer (some ⟨gn', 0, none⟩)) ∧ PlAt w' gn' kb ops.length lv' gb' m' l' ∧ Fr [] w w' ∧ Closed ops m' ∧ marked m' = ls.foldl (stepSet ops) (marked m) := by
  refine calls_post fun R HQ => ?_
  obtain ⟨A, c, off, rfl, hcc, hcells⟩ := hls
  have HPG := Lib.hid h; have HP0 := Lib.hid hp; have HG := Lib.hid hg; have HCL := Lib.hid hc; have HCE := Lib.hid hcells
  obtain ⟨n, hn⟩ : ∃ n, n = ls.length := ⟨_, rfl⟩
  have HN := Lib.hid hn
  rw [← hn] at hcc hlm ⊢
  clear h hp hg hc hcells hn
  go_enter Try.func24, Try.ntmps24
  go_wp2_with fail
  go_loopg [1, 11] n (FrRel w kb ops (marked m) ls)
  case atStart => exact ⟨0, gn, gb, m, l, lv, by rw [← HN.out]; omega, rfl, rfl, HP0.out, Fr.refl _ _, HCL.out, rfl⟩
  case round =>
    obtain ⟨k, gn1, gb1, m1, l1, lv1, hkj, rfl, rfl, hP, hF, hC, hM⟩ := hrel
    rw [← HN.out] at hkj
    have HP := Lib.hid hP; have HF := Lib.hid hF; have HC := Lib.hid hC; have HM := Lib.hid hM
    have hzr := hF.size
    clear hP hF hC hM
    by_cases hkn : k < n
    · obtain ⟨x, hx⟩ : ∃ x, ls[k]? = some x := ⟨_, List.getElem?_eq_getElem (by rw [← HN.out]; exact hkn)⟩
      obtain ⟨rfl, hcell⟩ := HCE.out (by rw [← HN.out]; omega)
      have cx := HF.out.cell_at (by simp) (hcell k (R32 x) (by simp [rcellsR, hx]))
      unfold R32 at cx
      have HAT : Hid (ls.take (k + 1) = ls.take k ++ [x]) := Lib.hid (by obtain ⟨h1, rfl⟩ := List.getElem?_eq_some_iff.1 hx; exact List.take_succ_eq_append_getElem h1)
      have HCA := Lib.hid (step_any (ch := x) (HPG.out.fr HF.out (by simp)) (by omega) HG.out HP.out)
      clear hx hcell
      go_wp2_with fail
      refine HCA.out.mono ?_
      rintro e w2 ⟨gn2, gb2, m2, l2, lv2, rfl, hP2, hF2, hC2, hM2⟩
      have HP2 := Lib.hid (hP2.mono (K := kb) (by omega)); have HF2 := Lib.hid (HF.out.trans hF2 (by simp)); have HC2 := Lib.hid hC2
      have HM2 : Hid (marked m2 = (ls.take (k + 1)).foldl (stepSet ops) (marked m)) := Lib.hid (by
        rw [HAT.out, List.foldl_append, ← HM.out]
        funext i
        exact propext (hM2 i))
      clear hP2 hF2 hC2 hM2
      go_wp2_with fail
      go_roundg (gk - 1)
      case measure => omega
      case rel => exact ⟨k + 1, gn2, gb2, m2, l2, lv2, by rw [← HN.out]; omega, rfl, by go_num, HP2.out, HF2.out, HC2.out, HM2.out⟩
    · have HMN : Hid (ls.take k = ls) := Lib.hid (List.take_of_length_le (by rw [← HN.out]; omega))
      go_wp2_with fail
      exact HQ.out _ _ ⟨gn1, gb1, m1, l1, lv1, rfl, HP.out, HF.out, HC.out, by rw [HM.out, HMN.out]⟩

/-- Is a text one of a program's? -/
def accepts (ops : List Rop) (l : List Int) : Prop := (l.foldl (stepSet ops) (Eps ops 0)) (ops.length - 1)
theorem getD_marked (m : List Bool) (i : Nat) : m.getD i false = true ↔ marked m i := by
  unfold marked
  rw [List.getD_eq_getElem?_getD]
  cases m[i]? with
  | none => simp
  | some b => simp

set_option maxRecDepth 100000 in
set_option maxHeartbeats 800000 in
theorem Match_any {w : World} {gp kb : Nat} {ops : List Rop} (s : ByteArray) (h : PrgAt w gp kb ops) (hk : kb ≤ w.heap.size) (hg : Good ops) (hs : s.size ≤ 1000000) :
    Calls Try.prog 11 #[.pointer (some ⟨gp, 0, none⟩), .string s] w fun e w' => ∃ b, e = .returned (.bool b) ∧ (b = true ↔ accepts ops (runesOf (strBytes s))) ∧ Fr [] w w' := by
  refine calls_post fun R HQ => ?_
  have hmf : ∀ (fn : Fn) (first cap : Array Value) (w : World), (Instr.makeFunc fn first cap).run Try.prog w = .ok (.func fn first cap) w := fun _ _ _ _ => rfl
  have HPG := Lib.hid h; have HG := Lib.hid hg
  have hsome := hg.some_
  have hfew := hg.few
  obtain ⟨hgpk, go, c', hgo, hc', hblk, hops⟩ := h
  have p0 := hblk.at_ (i := 0) rfl
  have d0 : ((ops.length : Int) == 0) = false := by simp; intro e; rw [e] at hsome; simp at hsome
  have hnn : ¬ ops.length = 0 := by omega
  clear hblk hops hg
  go_enter Try.func11, Try.ntmps11
  go_wp2_with fail
  refine (empty_any HPG.out hk hsome hfew).mono ?_
  rintro e w1 ⟨gn, gb, rfl, hP1, hg1, hg2, hf1⟩
  have HP1 := Lib.hid hP1; have HF1 := Lib.hid hf1
  have hz1 := hf1.size
  have hrea := reach_any (at_ := 0) (HPG.out.fr hf1 (by simp)) (by omega) hP1 hfew HG.out.wf hsome (closed_none _ _)
  have HRE := Lib.hid hrea
  clear hP1 hf1 hrea
  go_wp2_with fail
  refine HRE.out.mono ?_
  rintro e w2 ⟨rfl, m2, l2, lv2, hP2, hS2, hC2, hM2⟩
  have hf2 : Fr [] w w2 := HF1.out.trans hS2.1 (fun y hy => .inr (by
    rcases List.mem_cons.1 hy with e | hy
    · omega
    · rcases List.mem_cons.1 hy with e | hy
      · omega
      · simp [Value.ownBlock] at hy))
  have HP2 := Lib.hid hP2; have HF2 := Lib.hid hf2; have HC2 := Lib.hid hC2
  have HM2 : Hid (marked m2 = Eps ops 0) := Lib.hid (by
    funext i
    rw [hM2 i]
    exact propext ⟨fun h => by rcases h with h | h; exact absurd h (marked_none _ _); exact h, fun h => .inr h⟩)
  have hz2 := hf2.size
  clear hP2 hS2 hC2 hM2 hf2 p0
  go_wp2_with fail
  refine (runes_any s hs).mono ?_
  rintro e w3 ⟨v3, g3, rfl, hsl, -, hf3⟩
  have HP3 := Lib.hid (HP2.out.frn hf3); have HF3 := Lib.hid (HF2.out.trans hf3 (by simp)); have HSL := Lib.hid hsl
  have hz3 := hf3.size
  have hrl : (runesOf (strBytes s)).length ≤ 1000000 := by have := runesF_len (strBytes s).length (strBytes s) (Nat.le_refl _); rw [strBytes_len] at this; unfold runesOf; rw [strBytes_len]; omega
  obtain ⟨L, hL⟩ : ∃ L, L = runesOf (strBytes s) := ⟨_, rfl⟩
  rw [← hL] at HSL hrl HQ
  have HCF := Lib.hid (foldr_any (HPG.out.fr HF3.out (by simp)) (by omega) HG.out HP3.out HC2.out HSL.out hrl)
  clear hsl hf3 hL
  go_wp2_with fail
  refine HCF.out.mono ?_
  rintro e w4 ⟨gn4, gb4, m4, l4, lv4, rfl, hP4, hF4, hC4, hM4⟩
  have HD := Lib.hid (done_any (HPG.out.fr (HF3.out.trans hF4 (by simp)) (by simp)) hP4 hsome hfew)
  have HF4 := Lib.hid (HF3.out.trans hF4 (by simp))
  have HACC : Hid (m4.getD (ops.length - 1) false = true ↔ accepts ops L) := Lib.hid (by
    rw [getD_marked]
    unfold accepts
    rw [← HM2.out, ← hM4])
  clear hP4 hF4 hC4 hM4
  go_wp2_with fail
  refine HD.out.mono ?_
  rintro e w5 ⟨rfl, hf5⟩
  have HF5 := Lib.hid (HF4.out.trans hf5 (by simp))
  clear hf5
  go_wp2_with fail
  exact HQ.out _ _ ⟨_, rfl, HACC.out, HF5.out⟩

end Go.Proofs.Ytnhlgjjdpappkaa
