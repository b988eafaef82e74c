/-
  The contract of step.
-/
import Derived.Test.YtnhlgjjdpappkaaSf
namespace Go.Proofs.Ytnhlgjjdpappkaa
open Go.RowKit

theorem enter_empty (vs : Array Value) (w : World) : (callFunc 21 vs).run Try.prog w = .ok (.enter 21 vs) w := by kernel_rfl
theorem enter_foldi (vs : Array Value) (w : World) : (callFunc 35 vs).run Try.prog w = .ok (.enter 35 vs) w := by kernel_rfl
theorem PlAt.mono {w : World} {gn K L n gb : Nat} {lv : Value} {m : List Bool} {l : List Nat} (h : PlAt w gn L n lv gb m l) (hL : K ≤ L) : PlAt w gn K n lv gb m l :=
  ⟨h.blk, h.bools, h.len, h.own, ⟨by have := h.lo.1; omega, by have := h.lo.2.1; omega, h.lo.2.2.1, fun g hg => ⟨by have := (h.lo.2.2.2 g hg).1; omega, (h.lo.2.2.2 g hg).2⟩⟩, h.mem, h.cnt⟩
theorem closed_none (ops : List Rop) (n : Nat) : Closed ops (List.replicate n false) := fun i j h _ => by
  unfold marked at h
  rw [List.getElem?_replicate] at h
  split at h <;> simp at h
theorem marked_none (n i : Nat) : ¬ marked (List.replicate n false) i := fun h => by
  unfold marked at h
  rw [List.getElem?_replicate] at h
  split at h <;> simp at h

set_option maxRecDepth 100000 in
set_option maxHeartbeats 800000 in
theorem step_any {w : World} {gp kb gn gb : Nat} {ch : Int} {ops : List Rop} {lv : Value} {m : List Bool} {l : List Nat} (h : PrgAt w gp kb ops) (hk : kb ≤ w.heap.size) (hg : Good ops) (hp : PlAt w gn kb ops.length lv gb m l) :
    Calls Try.prog 26 #[.pointer (some ⟨gp, 0, none⟩), .pointer (some ⟨gn, 0, none⟩), .int .i32 ch] w fun e w' => ∃ gn' gb' m' l' lv', e = .returned (.pointer (some ⟨gn', 0, none⟩)) ∧ PlAt w' gn' w.heap.size ops.length lv' gb' m' l' ∧ Fr [] w w' ∧ Closed ops m' ∧ ∀ i, marked m' i ↔ ∃ a, marked m a ∧ Takes ops a ch ∧ Eps ops (a + 1) i := by
  refine calls_post fun R HQ => ?_
  have hmf : ∀ (fn : Fn) (first cap : Array Value) (w : World), (Instr.makeFunc fn first cap).run Try.prog w = .ok (.func fn first cap) w := fun _ _ _ _ => rfl
  have hgpl : gp < w.heap.size := by have := h.1; omega
  have hlt := hp.lt
  have hfew := hg.few
  have hsome := hg.some_
  have hlnm : l.length ≤ ops.length := by have := hp.cnt; have := hp.len; have := List.count_le_length (a := true) (l := m); omega
  have HPG := Lib.hid h; have HP := Lib.hid hp; have HG := Lib.hid hg
  obtain ⟨lA, lc, rfl, hlc, _⟩ := own_shape hp.own
  clear h hp hg
  have hf0 : Fr [] w ((w.alloc (.cells #[.pointer (some ⟨gp, 0, none⟩)] 25)).alloc (.cells #[.int .i32 ch] 21)) := ((Fr.refl [] w).alloc _).alloc _
  have hz0 : ((w.alloc (.cells #[.pointer (some ⟨gp, 0, none⟩)] 25)).alloc (.cells #[.int .i32 ch] 21)).heap.size = w.heap.size + 2 := by simp
  have hbp := (Blk.new w 25 [.pointer (some ⟨gp, 0, none⟩)]).alloc (.cells #[.int .i32 ch] 21)
  have hbc := Blk.new (w.alloc (.cells #[.pointer (some ⟨gp, 0, none⟩)] 25)) 21 [.int .i32 ch]
  rw [show (w.alloc (.cells #[.pointer (some ⟨gp, 0, none⟩)] 25)).heap.size = w.heap.size + 1 by simp] at hbc
  have HF0 := Lib.hid hf0; have HBP := Lib.hid hbp; have HBC := Lib.hid hbc
  clear hf0 hbp hbc
  go_enter Try.func26, Try.ntmps26
  go_wp2_with fail
  generalize (w.alloc (.cells #[.pointer (some ⟨gp, 0, none⟩)] 25)).alloc (.cells #[.int .i32 ch] 21) = w0 at *
  have HP0 := Lib.hid (HP.out.frn HF0.out)
  have n0 := HP0.out.blk.at_ (i := 0) rfl
  have p0 := HBP.out.at_ (i := 0) rfl
  refine wp_region_K (fun W => W.cell? ⟨gn, 0, none⟩ = some (.slice lA l.length lc) ∧ W.cell? ⟨w.heap.size, 0, none⟩ = some (.pointer (some ⟨gp, 0, none⟩))) [0, 1, 2, 3, 4, 6] (by kernel_rfl) ?_
  refine wpAnyK_take (i := 0) (some 7) ?vq1_0 rfl rfl (by kernel_rfl) (fun _ _ _ h => h) ⟨n0, p0⟩ (.inl ⟨rfl, fun W hW => ?yq1_0⟩) ?_
  case yq1_0 => (obtain ⟨c1, c2⟩ := hW; go_simp) <;> with_reducible rfl
  simp only [Act.put, List.setIfInBounds_toArray, List.set_cons_zero, List.set_cons_succ]
  refine wpAnyK_take (i := 1) (some 8) ?vq1_1 rfl rfl (by kernel_rfl) (fun _ _ _ h => h) ⟨n0, p0⟩ (.inl ⟨rfl, fun W hW => ?yq1_1⟩) ?_
  case yq1_1 => (obtain ⟨c1, c2⟩ := hW; go_simp) <;> with_reducible rfl
  simp only [Act.put, List.setIfInBounds_toArray, List.set_cons_zero, List.set_cons_succ]
  refine wpAnyK_take (i := 2) (some 9) ?vq1_2 rfl rfl (by kernel_rfl) (fun _ _ _ h => h) ⟨n0, p0⟩ (.inl ⟨rfl, fun W hW => ?yq1_2⟩) ?_
  case yq1_2 => (obtain ⟨c1, c2⟩ := hW; go_simp) <;> with_reducible rfl
  simp only [Act.put, List.setIfInBounds_toArray, List.set_cons_zero, List.set_cons_succ]
  refine wpAnyK_take (i := 3) (some 10) ?vq1_3 rfl rfl (by kernel_rfl) (fun _ _ _ h => h) ⟨n0, p0⟩ (.inl ⟨rfl, fun W hW => ?yq1_3⟩) ?_
  case yq1_3 => (obtain ⟨c1, c2⟩ := hW; go_simp) <;> with_reducible rfl
  simp only [Act.put, List.setIfInBounds_toArray, List.set_cons_zero, List.set_cons_succ]
  refine wpAnyK_take (i := 4) (some 11) ?vq1_4 rfl rfl (by kernel_rfl) (fun _ _ _ h => h) ⟨n0, p0⟩ (.inl ⟨rfl, fun W hW => ?yq1_4⟩) ?_
  case yq1_4 => (obtain ⟨c1, c2⟩ := hW; go_simp) <;> with_reducible rfl
  simp only [Act.put, List.setIfInBounds_toArray, List.set_cons_zero, List.set_cons_succ]
  refine wpAnyK_take (i := 6) (some 13) ?vq1_6 rfl rfl (by kernel_rfl) (fun _ _ _ h => h) ⟨n0, p0⟩ (.inl ⟨rfl, fun W hW => ?yq1_6⟩) ?_
  case yq1_6 => (obtain ⟨c1, c2⟩ := hW; go_simp) <;> with_reducible rfl
  simp only [Act.put, List.setIfInBounds_toArray, List.set_cons_zero, List.set_cons_succ]
  refine wpAnyK_step (j := 5) (some 12) rfl rfl (by kernel_rfl) rfl fun K hK => ?_
  have hpgd : PrgAt w0.drew gp (w.heap.size + 2) ops := ((HPG.out.fr HF0.out (by simp)).fr ((Fr.refl [] w0).drew) (by simp)).mono (by omega)
  refine wp_callp (l := [.tmp 11]) rfl [.pointer (some ⟨gp, 0, none⟩)] rfl (enter_empty _) ((empty_any hpgd (by show w.heap.size + 2 ≤ w0.heap.size; omega) hsome hfew).mono ?_)
  rintro e w1 ⟨gn1, gb1, rfl, hP1, hg1, hg2, hf1⟩
  have hf01 : Fr [] w0 w1 := ((Fr.refl [] w0).drew).trans hf1 (by simp)
  have hz1 := hf01.size
  refine .inl ⟨_, rfl, hK _ _ (fun _ => ⟨(HP0.out.frn hf01).blk.at_ (i := 0) rfl, (HBP.out.fr hf01 (by simp)).at_ (i := 0) rfl⟩) ?_⟩
  simp only [Act.put, List.setIfInBounds_toArray, List.set_cons_zero, List.set_cons_succ]
  clear hK
  refine wpAnyK_step (j := 7) (some 14) rfl rfl (by kernel_rfl) rfl fun K hK => ?_
  obtain ⟨gs, hsl, hsg, _⟩ := SlAt.of_own (HP0.out.frn hf01).own 0
  have hfo := foldi_any (ch := ch) (bp := w.heap.size) (bc := w.heap.size + 1) (((HPG.out.fr HF0.out (by simp)).fr hf01 (by simp)).mono (L := w.heap.size + 2) (by omega)) (by omega) HG.out hP1 (closed_none _ _) ((HBP.out.fr hf01 (by simp)).at_ (i := 0) rfl) ((HBC.out.fr hf01 (by simp)).at_ (i := 0) rfl) (by omega) (by omega) hsl (fun h => by have := hlt.2.2 gs (hsg h); omega) (fun a ha => by
    have := (HP.out.mem a).1 ha
    have := (List.getElem?_eq_some_iff.1 this).1
    rw [HP.out.len] at this; exact this) (by omega)
  refine wp_callp (l := [.tmp 10, .tmp 12, .tmp 13]) rfl [.slice lA l.length lc, .pointer (some ⟨gn1, 0, none⟩), .func (.func 36) #[] #[.pointer (some ⟨w.heap.size, 0, none⟩), .pointer (some ⟨w.heap.size + 1, 0, none⟩)]] rfl (enter_foldi _) (hfo.mono ?_)
  rintro e w2 ⟨rfl, m2, l2, lv2, hP2, hS2, hC2, hM2⟩
  refine .inl ⟨_, rfl, hK _ _ (fun _ => ⟨hS2.cell hP1 (by omega) ((HP0.out.frn hf01).blk.at_ (i := 0) rfl), hS2.cell hP1 (by omega) ((HBP.out.fr hf01 (by simp)).at_ (i := 0) rfl)⟩) ?_⟩
  simp only [Act.put, List.setIfInBounds_toArray, List.set_cons_zero, List.set_cons_succ]
  clear hK
  have hfin : Fr [] w w2 := (HF0.out.trans hf01 (by simp)).trans hS2.1 (fun y hy => .inr (by
    have h0 := hP1.lo
    rcases List.mem_cons.1 hy with e | hy
    · omega
    · rcases List.mem_cons.1 hy with e | hy
      · omega
      · simp [Value.ownBlock] at hy))
  have hfm : ∀ i, marked m2 i ↔ ∃ a, marked m a ∧ Takes ops a ch ∧ Eps ops (a + 1) i := fun i => by
    rw [hM2 i]
    constructor
    · rintro (h | ⟨a, ha, h⟩)
      · exact absurd h (marked_none _ _)
      · exact ⟨a, (HP.out.mem a).1 ha, h⟩
    · rintro ⟨a, ha, h⟩
      exact .inr ⟨a, (HP.out.mem a).2 ha, h⟩
  have HP2 := Lib.hid (hP2.mono (K := w.heap.size) (by omega)); have HC2 := Lib.hid hC2; have HFIN := Lib.hid hfin; have HFM := Lib.hid hfm
  refine wpAnyK_step (j := 8) (some 6) rfl rfl (by kernel_rfl) rfl fun K hK => ?_
  refine wp_run_same (v := ?aq1_8) ?yq1_8 (hK _ _ (fun _ => ⟨hS2.cell hP1 (by omega) ((HP0.out.frn hf01).blk.at_ (i := 0) rfl), hS2.cell hP1 (by omega) ((HBP.out.fr hf01 (by simp)).at_ (i := 0) rfl)⟩) ?_)
  case yq1_8 => go_simp <;> with_reducible rfl
  simp only [Act.put, List.setIfInBounds_toArray, List.set_cons_zero, List.set_cons_succ]
  refine wpAnyK_done (by kernel_rfl) ?_ _
  clear hP2 hC2 hfin hfm hM2 hS2 hfo hsl hsg hP1 hf1 hf01 hpgd
  go_wp2_with fail
  exact HQ.out _ _ ⟨gn1, gb1, m2, l2, lv2, rfl, HP2.out, HFIN.out, HC2.out, HFM.out⟩

end Go.Proofs.Ytnhlgjjdpappkaa
