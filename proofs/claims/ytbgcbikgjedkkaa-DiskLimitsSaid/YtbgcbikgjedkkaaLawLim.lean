/-
  The walk of DiskLimits: for every n and k it answers true and leaves old memory alone.
-/
import Derived.Test.YtbgcbikgjedkkaaLawA
import Derived.Test.YtbgcbikgjedkkaaBits
namespace Go.Proofs.Ytbgcbikgjedkkaa
open Go.RowKit

def LimSt (m k : Nat) (D : DM) : Prop := D.S.length = 4 ∧ D.limit = (m : Int) - (min k m : Nat) ∧ D.dead = decide (m < k) ∧ D.done = min k m
theorem LimSt.start (m : Nat) : LimSt m 0 ((DM.new 4).limited m) := by
  refine ⟨rfl, ?_, ?_, ?_⟩
  · show max (m : Int) (-1) = _; omega
  · simp [DM.limited, DM.new]
  · simp [DM.limited, DM.new]
theorem LimSt.next {m k : Nat} {D : DM} (h : LimSt m k D) (q : Nat) (hq : q < 4) : LimSt m (k + 1) (D.write q [1]) ∧ D.writeE q [1] = if k < m then 0 else 10 := by
  obtain ⟨h1, h2, h3, h4⟩ := h
  have hk : ¬ ((q : Int) < 0 ∨ (D.S.length : Int) ≤ q ∨ 64 < ([1] : List UInt8).length) := by rw [h1]; simp; omega
  by_cases hd : m < k
  · have hdead : D.dead = true := by rw [h3]; simpa using hd
    have e : min (k + 1) m = min k m := by omega
    refine ⟨?_, ?_⟩
    · simp only [DM.write, hdead, if_true]
      exact ⟨h1, by rw [e]; exact h2, by rw [hdead]; simp; omega, by rw [e]; exact h4⟩
    · simp only [DM.writeE, hdead, if_true]; rw [if_neg (by omega)]
  · have hdead : D.dead = false := by rw [h3]; simpa using hd
    by_cases hl : k = m
    · have hlim : D.limit = 0 := by rw [h2]; omega
      refine ⟨?_, ?_⟩
      · simp only [DM.write, hdead, Bool.false_eq_true, if_false, hk, hlim, if_true]
        exact ⟨h1, by show D.limit = _; rw [h2]; omega, by simp [DM.died]; omega, by show D.done = _; rw [h4]; omega⟩
      · simp only [DM.writeE, hdead, Bool.false_eq_true, if_false, hk, hlim, if_true]; rw [if_neg (by omega)]
    · have hlim : D.limit ≠ 0 := by rw [h2]; omega
      refine ⟨?_, ?_⟩
      · simp only [DM.write, hdead, Bool.false_eq_true, if_false, hk, hlim]
        refine ⟨h1, ?_, ?_, ?_⟩
        · show (if 0 < D.limit then D.limit - 1 else D.limit) = _
          rw [if_pos (by omega), h2]; omega
        · show D.dead = _; rw [hdead]; simp; omega
        · show D.done + 1 = _; rw [h4]; omega
      · simp only [DM.writeE, hdead, Bool.false_eq_true, if_false, hk, hlim]; rw [if_pos (by omega)]

def LimRel (w : World) (d m : Nat) (dn i : Value) (wr : World) : Prop :=
  ∃ (k : Nat) (D : DM), k ≤ 20 ∧ i = .int .i64 k ∧ dn = .int .i64 ((min k m : Nat) : Int) ∧ Disk w wr d D ∧ LimSt m k D

set_option maxRecDepth 100000 in
set_option maxHeartbeats 1000000 in
theorem limits_walk (n k : Int) (w : World) : Calls Try.prog 6 #[.int .i64 n, .int .i64 k] w fun e w' => e = .returned (.bool true) ∧ Fr [] w w' := by
  obtain ⟨m, hm, hmn⟩ := and_mask n 15 (by omega)
  have hmn' : bits .and .i64 n 15 = (m : Int) := hmn
  clear hmn
  go_enter Try.func6, Try.ntmps6
  go_wp2_with fail
  refine (awake06 w).mono ?_
  rintro e w1 ⟨rfl, hf1⟩
  have HF1 := Lib.hid hf1; clear hf1
  go_wp2_with fail
  refine (new_D w w1 4 (by omega) (by omega) HF1.out).mono ?_
  rintro e w2 ⟨d, rfl, hd2⟩
  have HD2 := Lib.hid hd2; clear hd2
  go_wp2_with fail
  refine (limit_D HD2.out m (by omega)).mono ?_
  rintro e w3 ⟨rfl, hd3⟩
  have HD3 := Lib.hid hd3; clear hd3
  go_wp2_with fail
  have HMN := Lib.hid hmn'; clear hmn'
  go_loopw [9, 10] (LimRel w d m) (fun _ i _ => 20 - (intOf i).toNat)
  case atStart => exact ⟨0, _, by omega, rfl, by simp, HD3.out, LimSt.start m⟩
  case round =>
    obtain ⟨i, D, hi, rfl, rfl, hD, hst⟩ := hrel
    by_cases hlt : i < 20
    · obtain ⟨q, hq, hqe⟩ := and_mask (i : Int) 3 (by omega)
      have hqe' : bits .and .i64 (i : Int) 3 = (q : Int) := hqe
      clear hqe
      have hnx := hst.next q (by omega)
      have hdn : D.done < 1099511627776 := by have := hst.2.2.2; omega
      have HNX := Lib.hid hnx; have HD := Lib.hid hD; have HDN := Lib.hid hdn
      clear hnx hst hD hdn
      go_wp2_with fail
      refine (write_D (HD.out.fr ((Fr.refl [] wr).alloc (.cells #[.int .u8 1] 5))) q _ [1] wr.heap.size (bytes_mark (w := wr) (C := [1]) (fz := (0, 0)) _ rfl) (by have := HD.out.lt; omega) HDN.out).mono ?_
      rintro e w4 ⟨rfl, hd4⟩
      rw [HNX.out.2]
      have HD4 := Lib.hid hd4; clear hd4
      by_cases him : i < m
      · rw [if_pos him]
        have emin : ((min i m : Nat) : Int) = (i : Int) := by omega
        rw [emin]
        go_wp2_with fail
        go_roundw
        case rel => exact ⟨i + 1, _, by omega, by go_num, by congr 1; omega, HD4.out, HNX.out.1⟩
        case measure => simp [intOf]; omega
      · rw [if_neg him]
        go_wp2_with fail
        go_roundw
        case rel => exact ⟨i + 1, _, by omega, by go_num, by congr 2; omega, HD4.out, HNX.out.1⟩
        case measure => simp [intOf]; omega
    · have hi20 : i = 20 := by omega
      subst hi20
      have emin : ((min 20 m : Nat) : Int) = (m : Int) := by omega
      rw [emin]
      obtain ⟨s1, s2, s3, s4⟩ := hst
      have s4' : D.done = m := by omega
      have s3' : D.dead = true := by rw [s3]; simp; omega
      have HD := Lib.hid hD; have HS1 := Lib.hid s1; have HS3 := Lib.hid s3'; have HS4 := Lib.hid s4'
      clear s1 s2 s3 s4 s4' s3' hD
      go_wp2_with fail
      refine (read_nil wr k).mono ?_
      rintro e w4 ⟨rfl, rfl⟩
      go_wp2_with fail
      refine (limit_nil wr k).mono ?_
      rintro e w4 ⟨rfl, rfl⟩
      go_wp2_with fail
      refine (reopen_nil wr _).mono ?_
      rintro e w4 ⟨rfl, rfl⟩
      go_wp2_with fail
      refine (dead_D HD.out).mono ?_
      rintro e w4 ⟨rfl, rfl⟩
      rw [HS3.out]
      go_wp2_with fail
      refine (writes_D HD.out).mono ?_
      rintro e w4 ⟨rfl, rfl⟩
      rw [HS4.out]
      go_wp2_with fail
      refine (sync_D HD.out (by rw [HS4.out]; omega)).mono ?_
      rintro e w4 ⟨rfl, hd4⟩
      have esy : D.syncE = 10 := by simp [DM.syncE, HS3.out]
      have esd : D.sync = D := by simp [DM.sync, HS3.out]
      rw [esy]
      rw [esd] at hd4
      have HD4 := Lib.hid hd4; clear hd4 esy esd
      go_wp2_with fail
      refine (reopen_D HD4.out _ [] 0 (BoolsAt.nil _ _) (.inr rfl) (by decide)).mono ?_
      rintro e w5 ⟨rfl, hd5⟩
      have HD5 := Lib.hid hd5; clear hd5
      go_wp2_with fail
      refine (dead_D HD5.out).mono ?_
      rintro e w6 ⟨rfl, rfl⟩
      rw [show (D.reopen []).dead = false from rfl]
      go_wp2_with fail
      refine (write_D HD5.out 0 _ [] (d + 1) (BytesAt.nil _ _) (by omega) (by show D.done < _; rw [HS4.out]; omega)).mono ?_
      rintro e w6 ⟨rfl, hd6⟩
      have ew : (D.reopen []).writeE 0 [] = 0 := by
        have hl : (D.reopen []).S.length = 4 := by simp [DM.reopen, layAll_len, HS1.out]
        simp [DM.writeE, hl, show (D.reopen []).dead = false from rfl, show (D.reopen []).limit = -1 from rfl]
      rw [ew]
      have HD6 := Lib.hid hd6; clear hd6 ew
      go_wp2_with fail
      refine (write_nil w6 k _).mono ?_
      rintro e w7 ⟨rfl, rfl⟩
      go_wp2_with fail
      refine (sync_nil w6).mono ?_
      rintro e w7 ⟨rfl, rfl⟩
      go_wp2_with fail
      refine (dead_nil w6).mono ?_
      rintro e w7 ⟨rfl, rfl⟩
      go_wp2_with fail
      refine (size_nil w6).mono ?_
      rintro e w7 ⟨rfl, rfl⟩
      go_wp2_with fail
      refine (writes_nil w6).mono ?_
      rintro e w7 ⟨rfl, rfl⟩
      go_wp2_with fail
      refine (pending_nil w6).mono ?_
      rintro e w7 ⟨rfl, rfl⟩
      go_wp2_with fail
      go_ret
      exact ⟨rfl, HD6.out.frame⟩

end Go.Proofs.Ytbgcbikgjedkkaa
