/-
  Where a program may be: places in memory; the contracts of empty and done.
-/
import Derived.Test.YtnhlgjjdpappkaaSa
namespace Go.Proofs.Ytnhlgjjdpappkaa
open Go.RowKit

/-- Places at block gn: the list l in the slice lv, the marks m in block gb; all of it from K on. -/
structure PlAt (w : World) (gn K n : Nat) (lv : Value) (gb : Nat) (m : List Bool) (l : List Nat) : Prop where
  blk : Blk w gn 76 [lv, .slice (some ⟨gb, 0, none⟩) n n]
  bools : Blk w gb 4 (m.map Value.bool)
  len : m.length = n
  own : w.ownsRow 0 3 1 lv l.length (l.map I64)
  lo : K ≤ gn ∧ K ≤ gb ∧ gn ≠ gb ∧ ∀ g, lv.ownBlock = some g → K ≤ g ∧ g ≠ gn ∧ g ≠ gb
  mem : ∀ i, i ∈ l ↔ m[i]? = some true
  cnt : l.length = m.count true
def PStep (w w' : World) (gn gb : Nat) (lv lv' : Value) : Prop := Fr (gn :: gb :: lv.ownBlock.toList) w w' ∧ ∀ g, lv'.ownBlock = some g → lv.ownBlock = some g ∨ w.heap.size ≤ g
theorem PlAt.fr {S : List Nat} {w w' : World} {gn K n gb : Nat} {lv : Value} {m : List Bool} {l : List Nat} (h : PlAt w gn K n lv gb m l) (hf : Fr S w w') (h1 : gn ∉ S) (h2 : gb ∉ S) (h3 : ∀ g, lv.ownBlock = some g → g ∉ S) : PlAt w' gn K n lv gb m l :=
  ⟨h.blk.fr hf h1, h.bools.fr hf h2, h.len, own_fr h.own hf h3, h.lo, h.mem, h.cnt⟩
theorem PlAt.frn {w w' : World} {gn K n gb : Nat} {lv : Value} {m : List Bool} {l : List Nat} (h : PlAt w gn K n lv gb m l) (hf : Fr [] w w') : PlAt w' gn K n lv gb m l := h.fr hf (by simp) (by simp) (by simp)
theorem PStep.refl (w : World) (gn gb : Nat) (lv : Value) : PStep w w gn gb lv lv := ⟨Fr.refl _ _, fun _ h => .inl h⟩
theorem PStep.trans {a b c : World} {gn gb : Nat} {u v x : Value} (h : PStep a b gn gb u v) (k : PStep b c gn gb v x) : PStep a c gn gb u x := by
  refine ⟨h.1.trans k.1 (fun y hy => ?_), fun g hg => ?_⟩
  · rcases List.mem_cons.1 hy with rfl | hy
    · exact .inl (by simp)
    · rcases List.mem_cons.1 hy with rfl | hy
      · exact .inl (by simp)
      · rcases h.2 y (by simpa using hy) with h1 | h1
        · exact .inl (List.mem_cons_of_mem _ (List.mem_cons_of_mem _ (by simpa using h1)))
        · exact .inr h1
  · rcases k.2 g hg with h1 | h1
    · exact h.2 g h1
    · right; have := h.1.size; omega
theorem PStep.frS {S : List Nat} {a b c : World} {gn gb : Nat} {v x : Value} (k : PStep a b gn gb v x) (h : Fr S b c) (hS : ∀ y ∈ S, a.heap.size ≤ y) : PStep a c gn gb v x := ⟨k.1.trans h (fun y hy => .inr (hS y hy)), k.2⟩
theorem PStep.pre {a b c : World} {gn gb : Nat} {v x : Value} (h : Fr [] a b) (k : PStep b c gn gb v x) : PStep a c gn gb v x :=
  ⟨(h.mono (by simp)).trans k.1 (fun y hy => .inl hy), fun g hg => by rcases k.2 g hg with h1 | h1; exact .inl h1; right; have := h.size; omega⟩
theorem PlAt.lt {w : World} {gn K n gb : Nat} {lv : Value} {m : List Bool} {l : List Nat} (h : PlAt w gn K n lv gb m l) : gn < w.heap.size ∧ gb < w.heap.size ∧ ∀ g, lv.ownBlock = some g → g < w.heap.size := ⟨h.blk.lt, h.bools.lt, own_lt h.own⟩
theorem info_bool : (Try.prog.info? 4).map (fun i => (i.zero, i.size, i.bytes)) = some (some (.bool false), 1, 1) := by kernel_rfl

theorem made_bools (n : Nat) : madeCells #[Value.bool false] n = ((List.replicate n false).map Value.bool).toArray := by
  apply Array.ext
  · simp [madeCells]
  · intro i h1 h2
    simp [madeCells, Nat.mod_one]
set_option maxRecDepth 100000 in
theorem empty_any {w : World} {gp K : Nat} {ops : List Rop} (h : PrgAt w gp K ops) (hK : K ≤ w.heap.size) (h0 : 0 < ops.length) (hn : ops.length ≤ 100000) :
    Calls Try.prog 21 #[.pointer (some ⟨gp, 0, none⟩)] w fun e w' => ∃ gn gb, e = .returned (.pointer (some ⟨gn, 0, none⟩)) ∧ PlAt w' gn K ops.length (.slice none 0 0) gb (List.replicate ops.length false) [] ∧ w.heap.size ≤ gn ∧ w.heap.size ≤ gb ∧ Fr [] w w' := by
  refine calls_post fun R HQ => ?_
  obtain ⟨h1, go, c, h2, h3, h4, h5⟩ := h
  have b0 := h4.at_ (i := 0) rfl
  have hmk := run_make_row' (P := Try.prog) 73 4 (.bool false) 1 Try.underlying73 info_bool rfl .i64 .i64 ops.length (by omega) (by omega)
  clear h4 h5
  go_enter Try.func21, Try.ntmps21
  go_wp2_with fail
  have hmc : madeCells #[Value.bool false] ops.length = ((List.replicate ops.length false).map Value.bool).toArray := made_bools _
  have hb := Blk.new w 4 ((List.replicate ops.length false).map Value.bool)
  have hb2 := hb.alloc (.cells #[.slice none 0 0, .slice (some ⟨w.heap.size, 0, none⟩) ops.length ops.length] 76)
  have hn2 := Blk.new (w.alloc (.cells ((List.replicate ops.length false).map Value.bool).toArray 4)) 76 [.slice none 0 0, .slice (some ⟨w.heap.size, 0, none⟩) ops.length ops.length]
  rw [show (w.alloc (.cells ((List.replicate ops.length false).map Value.bool).toArray 4)).heap.size = w.heap.size + 1 by simp] at hn2
  rw [hmc]
  exact HQ.out _ _ ⟨w.heap.size + 1, w.heap.size, rfl, ⟨hn2, hb2, by simp, own_nil _ _ _ _, ⟨by omega, hK, by omega, by simp [Value.ownBlock]⟩, fun i => by simp [List.getElem?_replicate], by simp [List.count_replicate]⟩, by omega, Nat.le_refl _, ((Fr.refl [] w).alloc _).alloc _⟩

set_option maxRecDepth 100000 in
theorem done_any {w : World} {gp K gn gb : Nat} {ops : List Rop} {lv : Value} {m : List Bool} {l : List Nat} (h : PrgAt w gp K ops) (hp : PlAt w gn K ops.length lv gb m l) (h0 : 0 < ops.length) (hn : ops.length ≤ 100000) :
    Calls Try.prog 23 #[.pointer (some ⟨gp, 0, none⟩), .pointer (some ⟨gn, 0, none⟩)] w fun e w' => e = .returned (.bool (m.getD (ops.length - 1) false)) ∧ Fr [] w w' := by
  refine calls_post fun R HQ => ?_
  obtain ⟨h1, go, c, h2, h3, h4, h5⟩ := h
  have b0 := h4.at_ (i := 0) rfl
  have n1 := hp.blk.at_ (i := 1) rfl
  have hml := hp.len
  have mk := hp.bools.at_ (i := ops.length - 1) (v := .bool (m.getD (ops.length - 1) false)) (by
    rw [List.getElem?_map, List.getD_eq_getElem?_getD, List.getElem?_eq_getElem (by omega)]; rfl)
  generalize m.getD (ops.length - 1) false = b at *
  clear h4 h5 hp hml
  generalize ops.length = n at *
  have x1 : IntKind.i64.wrap ((n : Int) - 1) = (n : Int) - 1 := by rw [IntKind.wrap_i64]; omega
  have x2 : ((n : Int) - 1).toNat = n - 1 := by omega
  have x3 : (0 : Int) ≤ (n : Int) - 1 := by omega
  have x4 : (1 : Int) ≤ (n : Int) := by omega
  have x5 : decide ((n : Int) - 1 < (n : Int)) = true := by rw [decide_eq_true_eq]; omega
  go_enter Try.func23, Try.ntmps23
  go_wp2_with fail
  go_region
  go_wp2_with fail
  exact HQ.out _ _ ⟨rfl, (Fr.refl [] w).drew⟩

end Go.Proofs.Ytnhlgjjdpappkaa
