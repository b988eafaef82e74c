/-
  The contract of utf.Next.
-/
import Derived.Test.YtnhlgjjdpappkaaUb
namespace Go.Proofs.Ytnhlgjjdpappkaa
open Go.RowKit

theorem serves_short {b0 b1 : UInt8} {l l1 : List UInt8} {k : Nat} (hb : b0 :: l = b1 :: l1) (h1 : k ≤ l1.length) (h : l.length < k) : False := by
  injection hb with _ hb
  subst hb
  omega
theorem nextOf_hit {b0 : UInt8} {l : List UInt8} {k : Nat} (hk : k < 4) (hl : k ≤ l.length) (h : leadB k b0 = true) (hno : ∀ i, i < k → ¬ serves (b0 :: l) i) : nextOf (b0 :: l) = nextK k b0 l := by
  have no : ∀ i, i < k → ¬ (i ≤ l.length ∧ leadB i b0 = true) := fun i hi h => hno i hi ⟨b0, l, rfl, h.1, h.2⟩
  rw [nextOf]
  have h4 : k = 0 ∨ k = 1 ∨ k = 2 ∨ k = 3 := by omega
  rcases h4 with rfl | rfl | rfl | rfl
  · rw [if_pos h]
  · rw [if_neg (fun e => no 0 (by omega) ⟨by omega, e⟩), if_pos ⟨hl, h⟩]
  · rw [if_neg (fun e => no 0 (by omega) ⟨by omega, e⟩), if_neg (no 1 (by omega)), if_pos ⟨hl, h⟩]
  · rw [if_neg (fun e => no 0 (by omega) ⟨by omega, e⟩), if_neg (no 1 (by omega)), if_neg (no 2 (by omega)), if_pos ⟨hl, h⟩]
theorem nextOf_miss {b0 : UInt8} {l : List UInt8} (hno : ∀ i, i < 4 → ¬ serves (b0 :: l) i) : nextOf (b0 :: l) = none := by
  have no : ∀ i, i < 4 → ¬ (i ≤ l.length ∧ leadB i b0 = true) := fun i hi h => hno i hi ⟨b0, l, rfl, h.1, h.2⟩
  rw [nextOf, if_neg (fun e => no 0 (by omega) ⟨by omega, e⟩), if_neg (no 1 (by omega)), if_neg (no 2 (by omega)), if_neg (no 3 (by omega))]

theorem drop_of_get {α : Type} {l : List α} {i : Nat} {u : α} (h : l[i]? = some u) : l.drop i = u :: l.drop (i + 1) := by
  obtain ⟨hi, rfl⟩ := List.getElem?_eq_some_iff.1 h
  exact List.drop_eq_getElem_cons hi
theorem bd_step {r m : Nat} (h : (r + 1) * 64 ^ (m + 1) ≤ 2097152) : r < 32768 ∧ ∀ x, x < 64 → (r * 64 + x + 1) * 64 ^ m ≤ 2097152 := by
  have h1 : 1 ≤ 64 ^ m := Nat.one_le_pow _ _ (by omega)
  have e : (r + 1) * 64 ^ (m + 1) = ((r + 1) * 64) * 64 ^ m := by rw [Nat.pow_succ, Nat.mul_comm (64 ^ m) 64, Nat.mul_assoc]
  rw [e] at h
  refine ⟨?_, fun x hx => Nat.le_trans (Nat.mul_le_mul_right _ (by omega)) h⟩
  have h2 : ((r + 1) * 64) * 1 ≤ ((r + 1) * 64) * 64 ^ m := Nat.mul_le_mul_left _ h1
  omega
def NIRel (W0 : World) (h0 kk : Nat) (l : List UInt8) (j : Nat) (v6 v41 : Value) (wr : World) : Prop :=
  ∃ i r : Nat, i + j = kk ∧ v6 = .int .i32 (r : Int) ∧ v41 = .int .i64 (i : Int) ∧ W0 = wr ∧ tails h0 (l.take kk) = tails r ((l.take kk).drop i) ∧ (r + 1) * 64 ^ j ≤ 2097152

set_option maxRecDepth 100000 in
set_option maxHeartbeats 1600000 in
theorem next_cons {w : World} {c n g off : Nat} {b0 : UInt8} {l : List UInt8} (hn : n = l.length + 1) (hc : n ≤ c) (hm : c ≤ 9223372036854775807) (hv : ∀ (j : Nat) (u : UInt8), (b0 :: l)[j]? = some u → w.cell? ⟨g, off + j, none⟩ = some (.int .u8 (u.toNat : Int))) :
    Calls Try.prog 27 #[.slice (some ⟨g, off, none⟩) n c] w fun e w' => e = .returned (nextV (b0 :: l)) ∧ Fr [] w w' := by
  refine calls_post fun R HQ => ?_
  have HB0 : Hid (∀ W, Fr [] w W → W.cell? ⟨g, off, none⟩ = some (.int .u8 (b0.toNat : Int))) := Lib.hid fun W hW => by
    have h1 := hv 0 b0 rfl
    rw [Nat.add_zero] at h1
    rw [hW.cell (World.block_lt_of_cell? w _ h1) (by simp)]; exact h1
  have HBJ : Hid (∀ W, Fr [] w W → ∀ (j : Nat) (u : UInt8), l[j]? = some u → W.cell? ⟨g, off + 1 + j, none⟩ = some (.int .u8 (u.toNat : Int))) := Lib.hid fun W hW j u hu => by
    have h1 := hv (j + 1) u (by simpa using hu)
    rw [show off + (j + 1) = off + 1 + j by omega] at h1
    rw [hW.cell (World.block_lt_of_cell? w _ h1) (by simp)]; exact h1
  have HN := Lib.hid hn
  have hn1 : 1 ≤ n := by omega
  have hnl : l.length + 1 ≤ n ∧ n ≤ l.length + 1 := by omega
  clear hv hn
  go_enter Try.func27, Try.ntmps27
  go_wp2_with fail
  refine (spans_any _).mono ?_
  rintro e w1 ⟨rfl, hf1⟩
  have HF1 := Lib.hid hf1
  clear hf1
  go_wp2_with fail
  go_loopg [10] 4 (NxRel w (b0 :: l))
  case atStart => exact ⟨0, rfl, rfl, HF1.out, fun i hi => absurd hi (by omega)⟩
  case round =>
    obtain ⟨k, hk, rfl, hf, hno⟩ := hrel
    have HF := Lib.hid hf; have HNO := Lib.hid hno
    clear hf hno HF1
    by_cases hk4 : k = 4
    · subst hk4
      rw [show ((4 : Nat) : Int) = 4 from rfl]
      have HM : Hid (nextV (b0 :: l) = .tuple #[.int .i32 0, .int .i64 0]) := Lib.hid (by unfold nextV; rw [nextOf_miss HNO.out])
      go_wp2_with fail
      exact HQ.out _ _ ⟨by rw [HM.out]; rfl, HF.out⟩
    · have h4 : k = 0 ∨ k = 1 ∨ k = 2 ∨ k = 3 := by omega
      clear hk4
      rcases h4 with rfl | rfl | rfl | rfl
      · have hn0 : ¬ n = 0 := by omega
        have hlb : 0 ≤ l.length := by omega
        -- the round of place 0
        have ix : ∀ W : World, (Instr.index 81 (.agg spanCells.toArray) (.int .i64 0)).run Try.prog W = .ok (.agg #[.int .u8 128, .int .u8 0, .int .i32 0]) W := fun _ => by kernel_rfl
        unfold spanCells at ix ⊢
        rw [show ((0 : Nat) : Int) = 0 from rfl]
        -- a byte at least, more than 0 of them
        have a1 : bits .and .u8 (b0.toNat : Int) 128 = ((b0.toNat &&& 128 : Nat) : Int) := and_u8 b0.toNat 128 b0.toNat_lt (by omega)
        have cb : wr.cell? ⟨g, off, none⟩ = some (.int .u8 (b0.toNat : Int)) := HB0.out wr HF.out
        have glt : g < wr.heap.size := World.block_lt_of_cell? wr _ cb
        cases hld : leadB 0 b0 with
        | false =>
          have a2 : (((b0.toNat &&& 128 : Nat) : Int) != 0) = true := by
            have hld' : (b0.toNat &&& 128 == 0) = false := hld
            rw [bne_iff_ne]
            intro e
            have e' : b0.toNat &&& 128 = 0 := by omega
            rw [e'] at hld'
            cases hld'
          have HNO2 : Hid (∀ i, i < 0 + 1 → ¬ serves (b0 :: l) i) := Lib.hid fun i hi hs => by
            by_cases hik : i = 0
            · subst hik; obtain ⟨b0', l', hb, h1, h2⟩ := hs; injection hb with hb1 hb2; subst hb1; rw [hld] at h2; cases h2
            · exact HNO.out i (by omega) hs
          clear hld
          go_wp2_with fail
          go_quiet (fail)
          go_wp2_with fail
          go_roundg (3 - 0)
          case measure => omega
          case rel => exact ⟨0 + 1, by omega, by go_num, (HF.out.alloc _).drewN _, HNO2.out⟩
        | true =>
          have a2 : (((b0.toNat &&& 128 : Nat) : Int) != 0) = false := by
            have hld' : (b0.toNat &&& 128 == 0) = true := hld
            have e' : b0.toNat &&& 128 = 0 := by simpa using hld'
            rw [e']; rfl
          have a3 : bits .andNot .u8 (b0.toNat : Int) 128 = ((headOf 0 b0 : Nat) : Int) := lead_head 0 (by omega) b0 hld
          have hb := lead_bound 0 (by omega) b0 hld
          have HIT : Hid (nextOf (b0 :: l) = nextK 0 b0 l) := Lib.hid (nextOf_hit (by omega) hlb hld HNO.out)
          have hbd : (headOf 0 b0 + 1) * 64 ^ 0 ≤ 2097152 := by
            obtain ⟨q0, q1, q2, q3⟩ := hb
            show (headOf 0 b0 + 1) * 1 ≤ 2097152
            omega
          have HBD := Lib.hid hbd
          have hh : headOf 0 b0 < 128 := hb.1
          clear hld hb hbd
          obtain ⟨h0, hh0⟩ : ∃ h0, headOf 0 b0 = h0 := ⟨_, rfl⟩
          rw [hh0] at a3 hh HBD
          have HH0 := Lib.hid hh0
          clear hh0
          by_cases hc1 : c = 1
          · skip
            go_wp2_with fail
            go_quiet (fail)
            generalize nq = q1 at *
            go_wp2_with fail
            go_quiet (fail)
            have hl0 := HF.out.size
            go_wp2_with fail
            have HFX : Hid (Fr [] w ((wr.alloc (.cells #[.int .u8 128, .int .u8 0, .int .i32 0] 80)).drewN (q1 + nq))) := Lib.hid ((HF.out.alloc _).drewN _)
            have hx2 : ((wr.alloc (.cells #[.int .u8 128, .int .u8 0, .int .i32 0] 80)).drewN (q1 + nq)).cell? ⟨wr.heap.size, 2, none⟩ = some (.int .i32 0) := ((Blk.new wr 80 [.int .u8 128, .int .u8 0, .int .i32 0]).drewN (q1 + nq)).at_ (i := 2) rfl
            generalize hW5 : (wr.alloc (.cells #[.int .u8 128, .int .u8 0, .int .i32 0] 80)).drewN (q1 + nq) = w5 at *
            clear hW5
            obtain ⟨xb, hxb⟩ : ∃ xb, xb = wr.heap.size := ⟨_, rfl⟩
            rw [← hxb] at hx2 ⊢
            clear hxb
            go_loopg [6, 41] 0 (NIRel w5 h0 0 l)
            case atStart => exact ⟨0, h0, by omega, rfl, by go_num, rfl, rfl, HBD.out⟩
            case round =>
              obtain ⟨i, r, hi, rfl, rfl, rfl, ht, hrb⟩ := hrel
              have HT := Lib.hid ht
              clear ht
              clear ix a1 cb glt a2 a3
              by_cases hik : i < 0
              · skip
                exact absurd hik (by omega)
              · obtain rfl : i = 0 := by omega
                obtain rfl : gk = 0 := by omega
                have HTR : Hid (tails h0 (l.take 0) = some r) := Lib.hid (by rw [HT.out, List.drop_eq_nil_of_le (by rw [List.length_take]; omega)]; rfl)
                have hr : r < 2097152 := by rw [Nat.pow_zero] at hrb; omega
                rw [show ((0 : Nat) : Int) = 0 from rfl]
                clear hik hi hrb
                by_cases hle : (r : Int) < 0
                · skip
                  exact absurd hle (by omega)
                · have HLE := Lib.hid hle
                  have d1 : decide ((r : Int) < 0) = false := by rw [decide_eq_false_iff_not]; exact hle
                  go_wp2_with fail
                  refine (sound_any _ _).mono ?_
                  rintro e w6 ⟨rfl, rfl⟩
                  cases hso : soundB (r : Int) with
                  | true =>
                    have HV : Hid (nextV (b0 :: l) = .tuple #[.int .i32 (r : Int), .int .i64 (0 + 1)]) := Lib.hid (by unfold nextV; rw [HIT.out]; unfold nextK; rw [HH0.out, HTR.out]; simp only; rw [if_neg (by rw [hso]; simp only [Bool.true_eq_false, or_false]; exact Int.not_lt.2 HLE.out)]; rfl)
                    clear hso
                    go_wp2_with fail
                    exact HQ.out _ _ ⟨by rw [HV.out]; rfl, HFX.out⟩
                  | false =>
                    have HV : Hid (nextV (b0 :: l) = .tuple #[.int .i32 0, .int .i64 0]) := Lib.hid (by unfold nextV; rw [HIT.out]; unfold nextK; rw [HH0.out, HTR.out]; simp only; rw [if_pos (.inr hso)])
                    clear hso
                    go_wp2_with fail
                    exact HQ.out _ _ ⟨by rw [HV.out]; rfl, HFX.out⟩
          · skip
            go_wp2_with fail
            go_quiet (fail)
            generalize nq = q1 at *
            go_wp2_with fail
            go_quiet (fail)
            have hl0 := HF.out.size
            go_wp2_with fail
            have HFX : Hid (Fr [] w ((wr.alloc (.cells #[.int .u8 128, .int .u8 0, .int .i32 0] 80)).drewN (q1 + nq))) := Lib.hid ((HF.out.alloc _).drewN _)
            have hx2 : ((wr.alloc (.cells #[.int .u8 128, .int .u8 0, .int .i32 0] 80)).drewN (q1 + nq)).cell? ⟨wr.heap.size, 2, none⟩ = some (.int .i32 0) := ((Blk.new wr 80 [.int .u8 128, .int .u8 0, .int .i32 0]).drewN (q1 + nq)).at_ (i := 2) rfl
            generalize hW5 : (wr.alloc (.cells #[.int .u8 128, .int .u8 0, .int .i32 0] 80)).drewN (q1 + nq) = w5 at *
            clear hW5
            obtain ⟨xb, hxb⟩ : ∃ xb, xb = wr.heap.size := ⟨_, rfl⟩
            rw [← hxb] at hx2 ⊢
            clear hxb
            go_loopg [6, 41] 0 (NIRel w5 h0 0 l)
            case atStart => exact ⟨0, h0, by omega, rfl, by go_num, rfl, rfl, HBD.out⟩
            case round =>
              obtain ⟨i, r, hi, rfl, rfl, rfl, ht, hrb⟩ := hrel
              have HT := Lib.hid ht
              clear ht
              clear ix a1 cb glt a2 a3
              by_cases hik : i < 0
              · skip
                exact absurd hik (by omega)
              · obtain rfl : i = 0 := by omega
                obtain rfl : gk = 0 := by omega
                have HTR : Hid (tails h0 (l.take 0) = some r) := Lib.hid (by rw [HT.out, List.drop_eq_nil_of_le (by rw [List.length_take]; omega)]; rfl)
                have hr : r < 2097152 := by rw [Nat.pow_zero] at hrb; omega
                rw [show ((0 : Nat) : Int) = 0 from rfl]
                clear hik hi hrb
                by_cases hle : (r : Int) < 0
                · skip
                  exact absurd hle (by omega)
                · have HLE := Lib.hid hle
                  have d1 : decide ((r : Int) < 0) = false := by rw [decide_eq_false_iff_not]; exact hle
                  go_wp2_with fail
                  refine (sound_any _ _).mono ?_
                  rintro e w6 ⟨rfl, rfl⟩
                  cases hso : soundB (r : Int) with
                  | true =>
                    have HV : Hid (nextV (b0 :: l) = .tuple #[.int .i32 (r : Int), .int .i64 (0 + 1)]) := Lib.hid (by unfold nextV; rw [HIT.out]; unfold nextK; rw [HH0.out, HTR.out]; simp only; rw [if_neg (by rw [hso]; simp only [Bool.true_eq_false, or_false]; exact Int.not_lt.2 HLE.out)]; rfl)
                    clear hso
                    go_wp2_with fail
                    exact HQ.out _ _ ⟨by rw [HV.out]; rfl, HFX.out⟩
                  | false =>
                    have HV : Hid (nextV (b0 :: l) = .tuple #[.int .i32 0, .int .i64 0]) := Lib.hid (by unfold nextV; rw [HIT.out]; unfold nextK; rw [HH0.out, HTR.out]; simp only; rw [if_pos (.inr hso)])
                    clear hso
                    go_wp2_with fail
                    exact HQ.out _ _ ⟨by rw [HV.out]; rfl, HFX.out⟩
      · by_cases hlen : n ≤ 1
        · have t2 : (n : Int) ≤ 1 := by omega
          -- the round of place 1
          have ix : ∀ W : World, (Instr.index 81 (.agg spanCells.toArray) (.int .i64 1)).run Try.prog W = .ok (.agg #[.int .u8 224, .int .u8 192, .int .i32 128]) W := fun _ => by kernel_rfl
          unfold spanCells at ix ⊢
          rw [show ((1 : Nat) : Int) = 1 from rfl]
          have HNO2 : Hid (∀ i, i < 1 + 1 → ¬ serves (b0 :: l) i) := Lib.hid fun i hi hs => by
            by_cases hik : i = 1
            · subst hik; obtain ⟨b0', l', hb, h1, _⟩ := hs; exact serves_short hb h1 (by omega)
            · exact HNO.out i (by omega) hs
          go_wp2_with fail
          go_quiet (fail)
          go_wp2_with fail
          go_roundg (3 - 1)
          case measure => omega
          case rel => exact ⟨1 + 1, by omega, by go_num, (HF.out.alloc _).drewN _, HNO2.out⟩
        · have t1 : decide ((n : Int) ≤ 1) = false := by rw [decide_eq_false_iff_not]; omega
          have t2 : ¬ (n : Int) ≤ 1 := by omega
          have hlb : 1 ≤ l.length := by omega
          -- the round of place 1
          have ix : ∀ W : World, (Instr.index 81 (.agg spanCells.toArray) (.int .i64 1)).run Try.prog W = .ok (.agg #[.int .u8 224, .int .u8 192, .int .i32 128]) W := fun _ => by kernel_rfl
          unfold spanCells at ix ⊢
          rw [show ((1 : Nat) : Int) = 1 from rfl]
          -- a byte at least, more than 1 of them
          have a1 : bits .and .u8 (b0.toNat : Int) 224 = ((b0.toNat &&& 224 : Nat) : Int) := and_u8 b0.toNat 224 b0.toNat_lt (by omega)
          have cb : wr.cell? ⟨g, off, none⟩ = some (.int .u8 (b0.toNat : Int)) := HB0.out wr HF.out
          have glt : g < wr.heap.size := World.block_lt_of_cell? wr _ cb
          cases hld : leadB 1 b0 with
          | false =>
            have a2 : (((b0.toNat &&& 224 : Nat) : Int) != 192) = true := by
              have hld' : (b0.toNat &&& 224 == 192) = false := hld
              rw [bne_iff_ne]
              intro e
              have e' : b0.toNat &&& 224 = 192 := by omega
              rw [e'] at hld'
              cases hld'
            have HNO2 : Hid (∀ i, i < 1 + 1 → ¬ serves (b0 :: l) i) := Lib.hid fun i hi hs => by
              by_cases hik : i = 1
              · subst hik; obtain ⟨b0', l', hb, h1, h2⟩ := hs; injection hb with hb1 hb2; subst hb1; rw [hld] at h2; cases h2
              · exact HNO.out i (by omega) hs
            clear hld
            go_wp2_with fail
            go_quiet (fail)
            go_wp2_with fail
            go_roundg (3 - 1)
            case measure => omega
            case rel => exact ⟨1 + 1, by omega, by go_num, (HF.out.alloc _).drewN _, HNO2.out⟩
          | true =>
            have a2 : (((b0.toNat &&& 224 : Nat) : Int) != 192) = false := by
              have hld' : (b0.toNat &&& 224 == 192) = true := hld
              have e' : b0.toNat &&& 224 = 192 := by simpa using hld'
              rw [e']; rfl
            have a3 : bits .andNot .u8 (b0.toNat : Int) 224 = ((headOf 1 b0 : Nat) : Int) := lead_head 1 (by omega) b0 hld
            have hb := lead_bound 1 (by omega) b0 hld
            have HIT : Hid (nextOf (b0 :: l) = nextK 1 b0 l) := Lib.hid (nextOf_hit (by omega) hlb hld HNO.out)
            have hbd : (headOf 1 b0 + 1) * 64 ^ 1 ≤ 2097152 := by
              obtain ⟨q0, q1, q2, q3⟩ := hb
              show (headOf 1 b0 + 1) * 64 ≤ 2097152
              omega
            have HBD := Lib.hid hbd
            have hh : headOf 1 b0 < 128 := hb.1
            clear hld hb hbd
            obtain ⟨h0, hh0⟩ : ∃ h0, headOf 1 b0 = h0 := ⟨_, rfl⟩
            rw [hh0] at a3 hh HBD
            have HH0 := Lib.hid hh0
            clear hh0
            have hc1 : ¬ c = 1 := by omega
            go_wp2_with fail
            go_quiet (fail)
            generalize nq = q1 at *
            go_wp2_with fail
            go_quiet (fail)
            have hl0 := HF.out.size
            go_wp2_with fail
            have HFX : Hid (Fr [] w ((wr.alloc (.cells #[.int .u8 224, .int .u8 192, .int .i32 128] 80)).drewN (q1 + nq))) := Lib.hid ((HF.out.alloc _).drewN _)
            have hx2 : ((wr.alloc (.cells #[.int .u8 224, .int .u8 192, .int .i32 128] 80)).drewN (q1 + nq)).cell? ⟨wr.heap.size, 2, none⟩ = some (.int .i32 128) := ((Blk.new wr 80 [.int .u8 224, .int .u8 192, .int .i32 128]).drewN (q1 + nq)).at_ (i := 2) rfl
            generalize hW5 : (wr.alloc (.cells #[.int .u8 224, .int .u8 192, .int .i32 128] 80)).drewN (q1 + nq) = w5 at *
            clear hW5
            obtain ⟨xb, hxb⟩ : ∃ xb, xb = wr.heap.size := ⟨_, rfl⟩
            rw [← hxb] at hx2 ⊢
            clear hxb
            go_loopg [6, 41] 1 (NIRel w5 h0 1 l)
            case atStart => exact ⟨0, h0, by omega, rfl, by go_num, rfl, rfl, HBD.out⟩
            case round =>
              obtain ⟨i, r, hi, rfl, rfl, rfl, ht, hrb⟩ := hrel
              have HT := Lib.hid ht
              clear ht
              clear ix a1 cb glt a2 a3
              by_cases hik : i < 1
              · skip
                obtain ⟨gk', rfl⟩ : ∃ gk', gk = gk' + 1 := ⟨gk - 1, by omega⟩
                obtain ⟨u, hu⟩ : ∃ u, l[i]? = some u := ⟨_, List.getElem?_eq_getElem (by omega)⟩
                have HDU : Hid ((l.take 1).drop i = u :: (l.take 1).drop (i + 1)) := Lib.hid (drop_of_get (by rw [List.getElem?_take, if_pos hik]; exact hu))
                have cu := HBJ.out w5 HFX.out i u hu
                obtain ⟨hr, hrs⟩ := bd_step hrb
                have HRS := Lib.hid hrs
                have b1 : bits .and .u8 (u.toNat : Int) 192 = ((u.toNat &&& 192 : Nat) : Int) := and_u8 u.toNat 192 u.toNat_lt (by omega)
                obtain ⟨um, hum0⟩ : ∃ um, um = u.toNat % 64 := ⟨_, rfl⟩
                have b2 : bits .and .u8 (u.toNat : Int) 63 = (um : Int) := by rw [hum0, ← and_63]; exact and_u8 u.toNat 63 u.toNat_lt (by omega)
                have hum : um < 64 := by rw [hum0]; exact Nat.mod_lt _ (by omega)
                have HUM := Lib.hid hum0
                have b3 := or_i32 r um (by omega) hum
                have d0 : decide ((i : Int) < 1) = true := by rw [decide_eq_true_eq]; omega
                clear hu hrs hrb hum0
                cases hcu : contB u with
                | true =>
                  have b4 : (((u.toNat &&& 192 : Nat) : Int) != 128) = false := by
                    rw [cont_and] at hcu
                    have e : u.toNat &&& 192 = 128 := by simpa using hcu
                    rw [e]; rfl
                  have HT2 : Hid (tails h0 (l.take 1) = tails (r * 64 + um) ((l.take 1).drop (i + 1))) := Lib.hid (by rw [HT.out, HDU.out, tails, if_pos hcu, HUM.out])
                  clear hcu
                  go_wp2_with fail
                  go_roundg gk'
                  case measure => omega
                  case rel => exact ⟨i + 1, r * 64 + um, by omega, by go_num, by go_num, rfl, HT2.out, HRS.out um hum⟩
                | false =>
                  have b4 : (((u.toNat &&& 192 : Nat) : Int) != 128) = true := by
                    rw [cont_and] at hcu
                    rw [bne_iff_ne]
                    intro e
                    have e' : u.toNat &&& 192 = 128 := by omega
                    rw [e'] at hcu
                    cases hcu
                  have HT2 : Hid (tails h0 (l.take 1) = none) := Lib.hid (by rw [HT.out, HDU.out, tails, if_neg (by rw [hcu]; simp)])
                  have HV : Hid (nextV (b0 :: l) = .tuple #[.int .i32 0, .int .i64 0]) := Lib.hid (by unfold nextV; rw [HIT.out]; unfold nextK; rw [HH0.out, HT2.out])
                  clear hcu
                  go_wp2_with fail
                  exact HQ.out _ _ ⟨by rw [HV.out]; rfl, HFX.out⟩
              · obtain rfl : i = 1 := by omega
                obtain rfl : gk = 0 := by omega
                have HTR : Hid (tails h0 (l.take 1) = some r) := Lib.hid (by rw [HT.out, List.drop_eq_nil_of_le (by rw [List.length_take]; omega)]; rfl)
                have hr : r < 2097152 := by rw [Nat.pow_zero] at hrb; omega
                rw [show ((1 : Nat) : Int) = 1 from rfl]
                clear hik hi hrb
                by_cases hle : (r : Int) < 128
                · skip
                  have d1 : decide ((r : Int) < 128) = true := by rw [decide_eq_true_eq]; exact hle
                  have HV : Hid (nextV (b0 :: l) = .tuple #[.int .i32 0, .int .i64 0]) := Lib.hid (by unfold nextV; rw [HIT.out]; unfold nextK; rw [HH0.out, HTR.out]; simp only; rw [if_pos (.inl hle)])
                  go_wp2_with fail
                  exact HQ.out _ _ ⟨by rw [HV.out]; rfl, HFX.out⟩
                · have HLE := Lib.hid hle
                  have d1 : decide ((r : Int) < 128) = false := by rw [decide_eq_false_iff_not]; exact hle
                  go_wp2_with fail
                  refine (sound_any _ _).mono ?_
                  rintro e w6 ⟨rfl, rfl⟩
                  cases hso : soundB (r : Int) with
                  | true =>
                    have HV : Hid (nextV (b0 :: l) = .tuple #[.int .i32 (r : Int), .int .i64 (1 + 1)]) := Lib.hid (by unfold nextV; rw [HIT.out]; unfold nextK; rw [HH0.out, HTR.out]; simp only; rw [if_neg (by rw [hso]; simp only [Bool.true_eq_false, or_false]; exact Int.not_lt.2 HLE.out)]; rfl)
                    clear hso
                    go_wp2_with fail
                    exact HQ.out _ _ ⟨by rw [HV.out]; rfl, HFX.out⟩
                  | false =>
                    have HV : Hid (nextV (b0 :: l) = .tuple #[.int .i32 0, .int .i64 0]) := Lib.hid (by unfold nextV; rw [HIT.out]; unfold nextK; rw [HH0.out, HTR.out]; simp only; rw [if_pos (.inr hso)])
                    clear hso
                    go_wp2_with fail
                    exact HQ.out _ _ ⟨by rw [HV.out]; rfl, HFX.out⟩
      · by_cases hlen : n ≤ 2
        · have t2 : (n : Int) ≤ 2 := by omega
          -- the round of place 2
          have ix : ∀ W : World, (Instr.index 81 (.agg spanCells.toArray) (.int .i64 2)).run Try.prog W = .ok (.agg #[.int .u8 240, .int .u8 224, .int .i32 2048]) W := fun _ => by kernel_rfl
          unfold spanCells at ix ⊢
          rw [show ((2 : Nat) : Int) = 2 from rfl]
          have HNO2 : Hid (∀ i, i < 2 + 1 → ¬ serves (b0 :: l) i) := Lib.hid fun i hi hs => by
            by_cases hik : i = 2
            · subst hik; obtain ⟨b0', l', hb, h1, _⟩ := hs; exact serves_short hb h1 (by omega)
            · exact HNO.out i (by omega) hs
          go_wp2_with fail
          go_quiet (fail)
          go_wp2_with fail
          go_roundg (3 - 2)
          case measure => omega
          case rel => exact ⟨2 + 1, by omega, by go_num, (HF.out.alloc _).drewN _, HNO2.out⟩
        · have t1 : decide ((n : Int) ≤ 2) = false := by rw [decide_eq_false_iff_not]; omega
          have t2 : ¬ (n : Int) ≤ 2 := by omega
          have hlb : 2 ≤ l.length := by omega
          -- the round of place 2
          have ix : ∀ W : World, (Instr.index 81 (.agg spanCells.toArray) (.int .i64 2)).run Try.prog W = .ok (.agg #[.int .u8 240, .int .u8 224, .int .i32 2048]) W := fun _ => by kernel_rfl
          unfold spanCells at ix ⊢
          rw [show ((2 : Nat) : Int) = 2 from rfl]
          -- a byte at least, more than 2 of them
          have a1 : bits .and .u8 (b0.toNat : Int) 240 = ((b0.toNat &&& 240 : Nat) : Int) := and_u8 b0.toNat 240 b0.toNat_lt (by omega)
          have cb : wr.cell? ⟨g, off, none⟩ = some (.int .u8 (b0.toNat : Int)) := HB0.out wr HF.out
          have glt : g < wr.heap.size := World.block_lt_of_cell? wr _ cb
          cases hld : leadB 2 b0 with
          | false =>
            have a2 : (((b0.toNat &&& 240 : Nat) : Int) != 224) = true := by
              have hld' : (b0.toNat &&& 240 == 224) = false := hld
              rw [bne_iff_ne]
              intro e
              have e' : b0.toNat &&& 240 = 224 := by omega
              rw [e'] at hld'
              cases hld'
            have HNO2 : Hid (∀ i, i < 2 + 1 → ¬ serves (b0 :: l) i) := Lib.hid fun i hi hs => by
              by_cases hik : i = 2
              · subst hik; obtain ⟨b0', l', hb, h1, h2⟩ := hs; injection hb with hb1 hb2; subst hb1; rw [hld] at h2; cases h2
              · exact HNO.out i (by omega) hs
            clear hld
            go_wp2_with fail
            go_quiet (fail)
            go_wp2_with fail
            go_roundg (3 - 2)
            case measure => omega
            case rel => exact ⟨2 + 1, by omega, by go_num, (HF.out.alloc _).drewN _, HNO2.out⟩
          | true =>
            have a2 : (((b0.toNat &&& 240 : Nat) : Int) != 224) = false := by
              have hld' : (b0.toNat &&& 240 == 224) = true := hld
              have e' : b0.toNat &&& 240 = 224 := by simpa using hld'
              rw [e']; rfl
            have a3 : bits .andNot .u8 (b0.toNat : Int) 240 = ((headOf 2 b0 : Nat) : Int) := lead_head 2 (by omega) b0 hld
            have hb := lead_bound 2 (by omega) b0 hld
            have HIT : Hid (nextOf (b0 :: l) = nextK 2 b0 l) := Lib.hid (nextOf_hit (by omega) hlb hld HNO.out)
            have hbd : (headOf 2 b0 + 1) * 64 ^ 2 ≤ 2097152 := by
              obtain ⟨q0, q1, q2, q3⟩ := hb
              show (headOf 2 b0 + 1) * 4096 ≤ 2097152
              omega
            have HBD := Lib.hid hbd
            have hh : headOf 2 b0 < 128 := hb.1
            clear hld hb hbd
            obtain ⟨h0, hh0⟩ : ∃ h0, headOf 2 b0 = h0 := ⟨_, rfl⟩
            rw [hh0] at a3 hh HBD
            have HH0 := Lib.hid hh0
            clear hh0
            have hc1 : ¬ c = 1 := by omega
            go_wp2_with fail
            go_quiet (fail)
            generalize nq = q1 at *
            go_wp2_with fail
            go_quiet (fail)
            have hl0 := HF.out.size
            go_wp2_with fail
            have HFX : Hid (Fr [] w ((wr.alloc (.cells #[.int .u8 240, .int .u8 224, .int .i32 2048] 80)).drewN (q1 + nq))) := Lib.hid ((HF.out.alloc _).drewN _)
            have hx2 : ((wr.alloc (.cells #[.int .u8 240, .int .u8 224, .int .i32 2048] 80)).drewN (q1 + nq)).cell? ⟨wr.heap.size, 2, none⟩ = some (.int .i32 2048) := ((Blk.new wr 80 [.int .u8 240, .int .u8 224, .int .i32 2048]).drewN (q1 + nq)).at_ (i := 2) rfl
            generalize hW5 : (wr.alloc (.cells #[.int .u8 240, .int .u8 224, .int .i32 2048] 80)).drewN (q1 + nq) = w5 at *
            clear hW5
            obtain ⟨xb, hxb⟩ : ∃ xb, xb = wr.heap.size := ⟨_, rfl⟩
            rw [← hxb] at hx2 ⊢
            clear hxb
            go_loopg [6, 41] 2 (NIRel w5 h0 2 l)
            case atStart => exact ⟨0, h0, by omega, rfl, by go_num, rfl, rfl, HBD.out⟩
            case round =>
              obtain ⟨i, r, hi, rfl, rfl, rfl, ht, hrb⟩ := hrel
              have HT := Lib.hid ht
              clear ht
              clear ix a1 cb glt a2 a3
              by_cases hik : i < 2
              · skip
                obtain ⟨gk', rfl⟩ : ∃ gk', gk = gk' + 1 := ⟨gk - 1, by omega⟩
                obtain ⟨u, hu⟩ : ∃ u, l[i]? = some u := ⟨_, List.getElem?_eq_getElem (by omega)⟩
                have HDU : Hid ((l.take 2).drop i = u :: (l.take 2).drop (i + 1)) := Lib.hid (drop_of_get (by rw [List.getElem?_take, if_pos hik]; exact hu))
                have cu := HBJ.out w5 HFX.out i u hu
                obtain ⟨hr, hrs⟩ := bd_step hrb
                have HRS := Lib.hid hrs
                have b1 : bits .and .u8 (u.toNat : Int) 192 = ((u.toNat &&& 192 : Nat) : Int) := and_u8 u.toNat 192 u.toNat_lt (by omega)
                obtain ⟨um, hum0⟩ : ∃ um, um = u.toNat % 64 := ⟨_, rfl⟩
                have b2 : bits .and .u8 (u.toNat : Int) 63 = (um : Int) := by rw [hum0, ← and_63]; exact and_u8 u.toNat 63 u.toNat_lt (by omega)
                have hum : um < 64 := by rw [hum0]; exact Nat.mod_lt _ (by omega)
                have HUM := Lib.hid hum0
                have b3 := or_i32 r um (by omega) hum
                have d0 : decide ((i : Int) < 2) = true := by rw [decide_eq_true_eq]; omega
                clear hu hrs hrb hum0
                cases hcu : contB u with
                | true =>
                  have b4 : (((u.toNat &&& 192 : Nat) : Int) != 128) = false := by
                    rw [cont_and] at hcu
                    have e : u.toNat &&& 192 = 128 := by simpa using hcu
                    rw [e]; rfl
                  have HT2 : Hid (tails h0 (l.take 2) = tails (r * 64 + um) ((l.take 2).drop (i + 1))) := Lib.hid (by rw [HT.out, HDU.out, tails, if_pos hcu, HUM.out])
                  clear hcu
                  go_wp2_with fail
                  go_roundg gk'
                  case measure => omega
                  case rel => exact ⟨i + 1, r * 64 + um, by omega, by go_num, by go_num, rfl, HT2.out, HRS.out um hum⟩
                | false =>
                  have b4 : (((u.toNat &&& 192 : Nat) : Int) != 128) = true := by
                    rw [cont_and] at hcu
                    rw [bne_iff_ne]
                    intro e
                    have e' : u.toNat &&& 192 = 128 := by omega
                    rw [e'] at hcu
                    cases hcu
                  have HT2 : Hid (tails h0 (l.take 2) = none) := Lib.hid (by rw [HT.out, HDU.out, tails, if_neg (by rw [hcu]; simp)])
                  have HV : Hid (nextV (b0 :: l) = .tuple #[.int .i32 0, .int .i64 0]) := Lib.hid (by unfold nextV; rw [HIT.out]; unfold nextK; rw [HH0.out, HT2.out])
                  clear hcu
                  go_wp2_with fail
                  exact HQ.out _ _ ⟨by rw [HV.out]; rfl, HFX.out⟩
              · obtain rfl : i = 2 := by omega
                obtain rfl : gk = 0 := by omega
                have HTR : Hid (tails h0 (l.take 2) = some r) := Lib.hid (by rw [HT.out, List.drop_eq_nil_of_le (by rw [List.length_take]; omega)]; rfl)
                have hr : r < 2097152 := by rw [Nat.pow_zero] at hrb; omega
                rw [show ((2 : Nat) : Int) = 2 from rfl]
                clear hik hi hrb
                by_cases hle : (r : Int) < 2048
                · skip
                  have d1 : decide ((r : Int) < 2048) = true := by rw [decide_eq_true_eq]; exact hle
                  have HV : Hid (nextV (b0 :: l) = .tuple #[.int .i32 0, .int .i64 0]) := Lib.hid (by unfold nextV; rw [HIT.out]; unfold nextK; rw [HH0.out, HTR.out]; simp only; rw [if_pos (.inl hle)])
                  go_wp2_with fail
                  exact HQ.out _ _ ⟨by rw [HV.out]; rfl, HFX.out⟩
                · have HLE := Lib.hid hle
                  have d1 : decide ((r : Int) < 2048) = false := by rw [decide_eq_false_iff_not]; exact hle
                  go_wp2_with fail
                  refine (sound_any _ _).mono ?_
                  rintro e w6 ⟨rfl, rfl⟩
                  cases hso : soundB (r : Int) with
                  | true =>
                    have HV : Hid (nextV (b0 :: l) = .tuple #[.int .i32 (r : Int), .int .i64 (2 + 1)]) := Lib.hid (by unfold nextV; rw [HIT.out]; unfold nextK; rw [HH0.out, HTR.out]; simp only; rw [if_neg (by rw [hso]; simp only [Bool.true_eq_false, or_false]; exact Int.not_lt.2 HLE.out)]; rfl)
                    clear hso
                    go_wp2_with fail
                    exact HQ.out _ _ ⟨by rw [HV.out]; rfl, HFX.out⟩
                  | false =>
                    have HV : Hid (nextV (b0 :: l) = .tuple #[.int .i32 0, .int .i64 0]) := Lib.hid (by unfold nextV; rw [HIT.out]; unfold nextK; rw [HH0.out, HTR.out]; simp only; rw [if_pos (.inr hso)])
                    clear hso
                    go_wp2_with fail
                    exact HQ.out _ _ ⟨by rw [HV.out]; rfl, HFX.out⟩
      · by_cases hlen : n ≤ 3
        · have t2 : (n : Int) ≤ 3 := by omega
          -- the round of place 3
          have ix : ∀ W : World, (Instr.index 81 (.agg spanCells.toArray) (.int .i64 3)).run Try.prog W = .ok (.agg #[.int .u8 248, .int .u8 240, .int .i32 65536]) W := fun _ => by kernel_rfl
          unfold spanCells at ix ⊢
          rw [show ((3 : Nat) : Int) = 3 from rfl]
          have HNO2 : Hid (∀ i, i < 3 + 1 → ¬ serves (b0 :: l) i) := Lib.hid fun i hi hs => by
            by_cases hik : i = 3
            · subst hik; obtain ⟨b0', l', hb, h1, _⟩ := hs; exact serves_short hb h1 (by omega)
            · exact HNO.out i (by omega) hs
          go_wp2_with fail
          go_quiet (fail)
          go_wp2_with fail
          go_roundg (3 - 3)
          case measure => omega
          case rel => exact ⟨3 + 1, by omega, by go_num, (HF.out.alloc _).drewN _, HNO2.out⟩
        · have t1 : decide ((n : Int) ≤ 3) = false := by rw [decide_eq_false_iff_not]; omega
          have t2 : ¬ (n : Int) ≤ 3 := by omega
          have hlb : 3 ≤ l.length := by omega
          -- the round of place 3
          have ix : ∀ W : World, (Instr.index 81 (.agg spanCells.toArray) (.int .i64 3)).run Try.prog W = .ok (.agg #[.int .u8 248, .int .u8 240, .int .i32 65536]) W := fun _ => by kernel_rfl
          unfold spanCells at ix ⊢
          rw [show ((3 : Nat) : Int) = 3 from rfl]
          -- a byte at least, more than 3 of them
          have a1 : bits .and .u8 (b0.toNat : Int) 248 = ((b0.toNat &&& 248 : Nat) : Int) := and_u8 b0.toNat 248 b0.toNat_lt (by omega)
          have cb : wr.cell? ⟨g, off, none⟩ = some (.int .u8 (b0.toNat : Int)) := HB0.out wr HF.out
          have glt : g < wr.heap.size := World.block_lt_of_cell? wr _ cb
          cases hld : leadB 3 b0 with
          | false =>
            have a2 : (((b0.toNat &&& 248 : Nat) : Int) != 240) = true := by
              have hld' : (b0.toNat &&& 248 == 240) = false := hld
              rw [bne_iff_ne]
              intro e
              have e' : b0.toNat &&& 248 = 240 := by omega
              rw [e'] at hld'
              cases hld'
            have HNO2 : Hid (∀ i, i < 3 + 1 → ¬ serves (b0 :: l) i) := Lib.hid fun i hi hs => by
              by_cases hik : i = 3
              · subst hik; obtain ⟨b0', l', hb, h1, h2⟩ := hs; injection hb with hb1 hb2; subst hb1; rw [hld] at h2; cases h2
              · exact HNO.out i (by omega) hs
            clear hld
            go_wp2_with fail
            go_quiet (fail)
            go_wp2_with fail
            go_roundg (3 - 3)
            case measure => omega
            case rel => exact ⟨3 + 1, by omega, by go_num, (HF.out.alloc _).drewN _, HNO2.out⟩
          | true =>
            have a2 : (((b0.toNat &&& 248 : Nat) : Int) != 240) = false := by
              have hld' : (b0.toNat &&& 248 == 240) = true := hld
              have e' : b0.toNat &&& 248 = 240 := by simpa using hld'
              rw [e']; rfl
            have a3 : bits .andNot .u8 (b0.toNat : Int) 248 = ((headOf 3 b0 : Nat) : Int) := lead_head 3 (by omega) b0 hld
            have hb := lead_bound 3 (by omega) b0 hld
            have HIT : Hid (nextOf (b0 :: l) = nextK 3 b0 l) := Lib.hid (nextOf_hit (by omega) hlb hld HNO.out)
            have hbd : (headOf 3 b0 + 1) * 64 ^ 3 ≤ 2097152 := by
              obtain ⟨q0, q1, q2, q3⟩ := hb
              show (headOf 3 b0 + 1) * 262144 ≤ 2097152
              omega
            have HBD := Lib.hid hbd
            have hh : headOf 3 b0 < 128 := hb.1
            clear hld hb hbd
            obtain ⟨h0, hh0⟩ : ∃ h0, headOf 3 b0 = h0 := ⟨_, rfl⟩
            rw [hh0] at a3 hh HBD
            have HH0 := Lib.hid hh0
            clear hh0
            have hc1 : ¬ c = 1 := by omega
            go_wp2_with fail
            go_quiet (fail)
            generalize nq = q1 at *
            go_wp2_with fail
            go_quiet (fail)
            have hl0 := HF.out.size
            go_wp2_with fail
            have HFX : Hid (Fr [] w ((wr.alloc (.cells #[.int .u8 248, .int .u8 240, .int .i32 65536] 80)).drewN (q1 + nq))) := Lib.hid ((HF.out.alloc _).drewN _)
            have hx2 : ((wr.alloc (.cells #[.int .u8 248, .int .u8 240, .int .i32 65536] 80)).drewN (q1 + nq)).cell? ⟨wr.heap.size, 2, none⟩ = some (.int .i32 65536) := ((Blk.new wr 80 [.int .u8 248, .int .u8 240, .int .i32 65536]).drewN (q1 + nq)).at_ (i := 2) rfl
            generalize hW5 : (wr.alloc (.cells #[.int .u8 248, .int .u8 240, .int .i32 65536] 80)).drewN (q1 + nq) = w5 at *
            clear hW5
            obtain ⟨xb, hxb⟩ : ∃ xb, xb = wr.heap.size := ⟨_, rfl⟩
            rw [← hxb] at hx2 ⊢
            clear hxb
            go_loopg [6, 41] 3 (NIRel w5 h0 3 l)
            case atStart => exact ⟨0, h0, by omega, rfl, by go_num, rfl, rfl, HBD.out⟩
            case round =>
              obtain ⟨i, r, hi, rfl, rfl, rfl, ht, hrb⟩ := hrel
              have HT := Lib.hid ht
              clear ht
              clear ix a1 cb glt a2 a3
              by_cases hik : i < 3
              · skip
                obtain ⟨gk', rfl⟩ : ∃ gk', gk = gk' + 1 := ⟨gk - 1, by omega⟩
                obtain ⟨u, hu⟩ : ∃ u, l[i]? = some u := ⟨_, List.getElem?_eq_getElem (by omega)⟩
                have HDU : Hid ((l.take 3).drop i = u :: (l.take 3).drop (i + 1)) := Lib.hid (drop_of_get (by rw [List.getElem?_take, if_pos hik]; exact hu))
                have cu := HBJ.out w5 HFX.out i u hu
                obtain ⟨hr, hrs⟩ := bd_step hrb
                have HRS := Lib.hid hrs
                have b1 : bits .and .u8 (u.toNat : Int) 192 = ((u.toNat &&& 192 : Nat) : Int) := and_u8 u.toNat 192 u.toNat_lt (by omega)
                obtain ⟨um, hum0⟩ : ∃ um, um = u.toNat % 64 := ⟨_, rfl⟩
                have b2 : bits .and .u8 (u.toNat : Int) 63 = (um : Int) := by rw [hum0, ← and_63]; exact and_u8 u.toNat 63 u.toNat_lt (by omega)
                have hum : um < 64 := by rw [hum0]; exact Nat.mod_lt _ (by omega)
                have HUM := Lib.hid hum0
                have b3 := or_i32 r um (by omega) hum
                have d0 : decide ((i : Int) < 3) = true := by rw [decide_eq_true_eq]; omega
                clear hu hrs hrb hum0
                cases hcu : contB u with
                | true =>
                  have b4 : (((u.toNat &&& 192 : Nat) : Int) != 128) = false := by
                    rw [cont_and] at hcu
                    have e : u.toNat &&& 192 = 128 := by simpa using hcu
                    rw [e]; rfl
                  have HT2 : Hid (tails h0 (l.take 3) = tails (r * 64 + um) ((l.take 3).drop (i + 1))) := Lib.hid (by rw [HT.out, HDU.out, tails, if_pos hcu, HUM.out])
                  clear hcu
                  go_wp2_with fail
                  go_roundg gk'
                  case measure => omega
                  case rel => exact ⟨i + 1, r * 64 + um, by omega, by go_num, by go_num, rfl, HT2.out, HRS.out um hum⟩
                | false =>
                  have b4 : (((u.toNat &&& 192 : Nat) : Int) != 128) = true := by
                    rw [cont_and] at hcu
                    rw [bne_iff_ne]
                    intro e
                    have e' : u.toNat &&& 192 = 128 := by omega
                    rw [e'] at hcu
                    cases hcu
                  have HT2 : Hid (tails h0 (l.take 3) = none) := Lib.hid (by rw [HT.out, HDU.out, tails, if_neg (by rw [hcu]; simp)])
                  have HV : Hid (nextV (b0 :: l) = .tuple #[.int .i32 0, .int .i64 0]) := Lib.hid (by unfold nextV; rw [HIT.out]; unfold nextK; rw [HH0.out, HT2.out])
                  clear hcu
                  go_wp2_with fail
                  exact HQ.out _ _ ⟨by rw [HV.out]; rfl, HFX.out⟩
              · obtain rfl : i = 3 := by omega
                obtain rfl : gk = 0 := by omega
                have HTR : Hid (tails h0 (l.take 3) = some r) := Lib.hid (by rw [HT.out, List.drop_eq_nil_of_le (by rw [List.length_take]; omega)]; rfl)
                have hr : r < 2097152 := by rw [Nat.pow_zero] at hrb; omega
                rw [show ((3 : Nat) : Int) = 3 from rfl]
                clear hik hi hrb
                by_cases hle : (r : Int) < 65536
                · skip
                  have d1 : decide ((r : Int) < 65536) = true := by rw [decide_eq_true_eq]; exact hle
                  have HV : Hid (nextV (b0 :: l) = .tuple #[.int .i32 0, .int .i64 0]) := Lib.hid (by unfold nextV; rw [HIT.out]; unfold nextK; rw [HH0.out, HTR.out]; simp only; rw [if_pos (.inl hle)])
                  go_wp2_with fail
                  exact HQ.out _ _ ⟨by rw [HV.out]; rfl, HFX.out⟩
                · have HLE := Lib.hid hle
                  have d1 : decide ((r : Int) < 65536) = false := by rw [decide_eq_false_iff_not]; exact hle
                  go_wp2_with fail
                  refine (sound_any _ _).mono ?_
                  rintro e w6 ⟨rfl, rfl⟩
                  cases hso : soundB (r : Int) with
                  | true =>
                    have HV : Hid (nextV (b0 :: l) = .tuple #[.int .i32 (r : Int), .int .i64 (3 + 1)]) := Lib.hid (by unfold nextV; rw [HIT.out]; unfold nextK; rw [HH0.out, HTR.out]; simp only; rw [if_neg (by rw [hso]; simp only [Bool.true_eq_false, or_false]; exact Int.not_lt.2 HLE.out)]; rfl)
                    clear hso
                    go_wp2_with fail
                    exact HQ.out _ _ ⟨by rw [HV.out]; rfl, HFX.out⟩
                  | false =>
                    have HV : Hid (nextV (b0 :: l) = .tuple #[.int .i32 0, .int .i64 0]) := Lib.hid (by unfold nextV; rw [HIT.out]; unfold nextK; rw [HH0.out, HTR.out]; simp only; rw [if_pos (.inr hso)])
                    clear hso
                    go_wp2_with fail
                    exact HQ.out _ _ ⟨by rw [HV.out]; rfl, HFX.out⟩

end Go.Proofs.Ytnhlgjjdpappkaa
