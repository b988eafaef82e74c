/-
  The contracts of package utf: spans, sound, Next.
-/
import Derived.Test.YtnhlgjjdpappkaaUa
import Derived.Test.YtnhlgjjdpappkaaGen
import Derived.Test.YtnhlgjjdpappkaaChecked
namespace Go.Proofs.Ytnhlgjjdpappkaa
open Go.RowKit

def spanCells : List Value := [.int .u8 128, .int .u8 0, .int .i32 0, .int .u8 224, .int .u8 192, .int .i32 128, .int .u8 240, .int .u8 224, .int .i32 2048, .int .u8 248, .int .u8 240, .int .i32 65536]
theorem spans_any (w : World) : Calls Try.prog 38 #[] w fun e w' => e = .returned (.agg spanCells.toArray) ∧ Fr [] w w' := by
  go_enter Try.func38, Try.ntmps38
  go_wp2
  exact ret_blk (g := w.heap.size) (t' := 81) (d := _) rfl rfl (Blk.new w 81 spanCells) Try.underlying81 rfl (by kernel_rfl) ⟨rfl, (Fr.refl [] w).alloc _⟩
theorem sound_any (w : World) (r : Int) : Calls Try.prog 39 #[.int .i32 r] w fun e w' => e = .returned (.bool (soundB r)) ∧ w = w' := by
  have hs : ∀ b, soundB r = b → Calls Try.prog 39 #[.int .i32 r] w fun e w' => e = .returned (.bool b) ∧ w = w' := by
    intro b hb
    unfold soundB at hb
    by_cases h1 : 0 ≤ r
    · by_cases h2 : r < 55296
      · obtain rfl : b = true := by rw [← hb, decide_eq_true_eq]; exact .inl ⟨h1, h2⟩
        clear hb
        go_enter Try.func39, Try.ntmps39
        go_wp2
        go_ret
        exact ⟨rfl, rfl⟩
      · by_cases h3 : 57343 < r
        · by_cases h4 : r ≤ 1114111
          · obtain rfl : b = true := by rw [← hb, decide_eq_true_eq]; exact .inr ⟨h3, h4⟩
            clear hb
            go_enter Try.func39, Try.ntmps39
            go_wp2
            go_ret
            exact ⟨rfl, rfl⟩
          · obtain rfl : b = false := by rw [← hb, decide_eq_false_iff_not]; omega
            clear hb
            go_enter Try.func39, Try.ntmps39
            go_wp2
            go_ret
            exact ⟨rfl, rfl⟩
        · obtain rfl : b = false := by rw [← hb, decide_eq_false_iff_not]; omega
          clear hb
          go_enter Try.func39, Try.ntmps39
          go_wp2
          go_ret
          exact ⟨rfl, rfl⟩
    · obtain rfl : b = false := by rw [← hb, decide_eq_false_iff_not]; omega
      have h3 : ¬ 57343 < r := by omega
      clear hb
      go_enter Try.func39, Try.ntmps39
      go_wp2
      go_ret
      exact ⟨rfl, rfl⟩
  exact hs _ rfl

/-- What Next answers. -/
def nextV (bs : List UInt8) : Value := match nextOf bs with
  | none => .tuple #[.int .i32 0, .int .i64 0]
  | some (r, k) => .tuple #[.int .i32 (r : Int), .int .i64 (k : Int)]
/-- Does the place k serve? -/
def serves (bs : List UInt8) (k : Nat) : Prop := ∃ b0 l, bs = b0 :: l ∧ k ≤ l.length ∧ leadB k b0 = true
def NxRel (w : World) (bs : List UInt8) (j : Nat) (v : Value) (wr : World) : Prop := ∃ k : Nat, k + j = 4 ∧ v = .int .i64 (k : Int) ∧ Fr [] w wr ∧ ∀ i, i < k → ¬ serves bs i

set_option maxRecDepth 100000 in
theorem next_nil {w : World} {A : Option Addr} {c : Nat} : Calls Try.prog 27 #[.slice A 0 c] w fun e w' => e = .returned (nextV []) ∧ Fr [] w w' := by
  refine calls_post fun R HQ => ?_
  obtain ⟨bs, hbs⟩ : ∃ bs : List UInt8, bs = [] := ⟨_, rfl⟩
  have HBS := Lib.hid hbs
  clear hbs
  go_enter Try.func27, Try.ntmps27
  go_wp2_with fail
  refine (spans_any _).mono ?_
  rintro e w1 ⟨rfl, hf1⟩
  have HF1 := Lib.hid hf1
  clear hf1
  go_wp2_with fail
  go_loopg [10] 4 (NxRel w bs)
  case atStart => exact ⟨0, rfl, rfl, HF1.out, fun i hi => absurd hi (by omega)⟩
  case round =>
    obtain ⟨k, hk, rfl, hf, hno⟩ := hrel
    have HF := Lib.hid hf; have HNO := Lib.hid hno
    clear hf hno HF1
    by_cases hk4 : k = 4
    · subst hk4
      rw [show ((4 : Nat) : Int) = 4 from rfl]
      go_wp2_with fail
      exact HQ.out _ _ ⟨rfl, HF.out⟩
    · have h4 : k = 0 ∨ k = 1 ∨ k = 2 ∨ k = 3 := by omega
      clear hk4
      rcases h4 with rfl | rfl | rfl | rfl
      · skip
        -- the round of place 0
        have ix : ∀ W : World, (Instr.index 81 (.agg spanCells.toArray) (.int .i64 0)).run Try.prog W = .ok (.agg #[.int .u8 128, .int .u8 0, .int .i32 0]) W := fun _ => by kernel_rfl
        unfold spanCells at ix ⊢
        rw [show ((0 : Nat) : Int) = 0 from rfl]
        have HNO2 : Hid (∀ i, i < 0 + 1 → ¬ serves bs i) := Lib.hid fun i hi hs => by
          by_cases hik : i = 0
          · subst hik; obtain ⟨b0', l', hb, h1, _⟩ := hs; exact absurd (HBS.out.symm.trans hb) (by simp)
          · exact HNO.out i (by omega) hs
        go_wp2_with fail
        go_quiet (fail)
        go_wp2_with fail
        go_roundg (3 - 0)
        case measure => omega
        case rel => exact ⟨0 + 1, by omega, by go_num, (HF.out.alloc _).drewN _, HNO2.out⟩
      · skip
        -- the round of place 1
        have ix : ∀ W : World, (Instr.index 81 (.agg spanCells.toArray) (.int .i64 1)).run Try.prog W = .ok (.agg #[.int .u8 224, .int .u8 192, .int .i32 128]) W := fun _ => by kernel_rfl
        unfold spanCells at ix ⊢
        rw [show ((1 : Nat) : Int) = 1 from rfl]
        have HNO2 : Hid (∀ i, i < 1 + 1 → ¬ serves bs i) := Lib.hid fun i hi hs => by
          by_cases hik : i = 1
          · subst hik; obtain ⟨b0', l', hb, h1, _⟩ := hs; exact absurd (HBS.out.symm.trans hb) (by simp)
          · exact HNO.out i (by omega) hs
        go_wp2_with fail
        go_quiet (fail)
        go_wp2_with fail
        go_roundg (3 - 1)
        case measure => omega
        case rel => exact ⟨1 + 1, by omega, by go_num, (HF.out.alloc _).drewN _, HNO2.out⟩
      · skip
        -- the round of place 2
        have ix : ∀ W : World, (Instr.index 81 (.agg spanCells.toArray) (.int .i64 2)).run Try.prog W = .ok (.agg #[.int .u8 240, .int .u8 224, .int .i32 2048]) W := fun _ => by kernel_rfl
        unfold spanCells at ix ⊢
        rw [show ((2 : Nat) : Int) = 2 from rfl]
        have HNO2 : Hid (∀ i, i < 2 + 1 → ¬ serves bs i) := Lib.hid fun i hi hs => by
          by_cases hik : i = 2
          · subst hik; obtain ⟨b0', l', hb, h1, _⟩ := hs; exact absurd (HBS.out.symm.trans hb) (by simp)
          · exact HNO.out i (by omega) hs
        go_wp2_with fail
        go_quiet (fail)
        go_wp2_with fail
        go_roundg (3 - 2)
        case measure => omega
        case rel => exact ⟨2 + 1, by omega, by go_num, (HF.out.alloc _).drewN _, HNO2.out⟩
      · skip
        -- the round of place 3
        have ix : ∀ W : World, (Instr.index 81 (.agg spanCells.toArray) (.int .i64 3)).run Try.prog W = .ok (.agg #[.int .u8 248, .int .u8 240, .int .i32 65536]) W := fun _ => by kernel_rfl
        unfold spanCells at ix ⊢
        rw [show ((3 : Nat) : Int) = 3 from rfl]
        have HNO2 : Hid (∀ i, i < 3 + 1 → ¬ serves bs i) := Lib.hid fun i hi hs => by
          by_cases hik : i = 3
          · subst hik; obtain ⟨b0', l', hb, h1, _⟩ := hs; exact absurd (HBS.out.symm.trans hb) (by simp)
          · exact HNO.out i (by omega) hs
        go_wp2_with fail
        go_quiet (fail)
        go_wp2_with fail
        go_roundg (3 - 3)
        case measure => omega
        case rel => exact ⟨3 + 1, by omega, by go_num, (HF.out.alloc _).drewN _, HNO2.out⟩

end Go.Proofs.Ytnhlgjjdpappkaa
