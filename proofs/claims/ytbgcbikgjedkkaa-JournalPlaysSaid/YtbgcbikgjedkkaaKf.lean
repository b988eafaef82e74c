/-
  The contract of journal.Open where it fails; a slice of law07's operations that came in; 'small'.
-/
import Derived.Test.YtbgcbikgjedkkaaJl
import Derived.Test.YtbgcbikgjedkkaaArgOps
namespace Go.Proofs.Ytbgcbikgjedkkaa
open Go.RowKit

set_option maxRecDepth 100000 in
set_option maxHeartbeats 400000 in
theorem open_dead {w : World} {d : Nat} {D : DM} {fp : List Nat} (hd : DiskAt w d D fp) (hdead : D.dead = true) (f n : Int) :
    Calls Try.prog 32 #[.pointer (some ⟨d, 0, none⟩), .int .i64 f, .int .i64 n] w fun e w' => e = .returned (.tuple #[.pointer none, .slice none 0 0, .int .i64 10]) ∧ w = w' := by
  have HD := Lib.hid hd; clear hd
  go_enter Try.func32, Try.ntmps32
  go_wp2_with fail
  refine (dead_at HD.out).mono ?_
  rintro e w1 ⟨rfl, rfl⟩
  rw [hdead]
  go_wp2
  go_ret3
  exact ⟨rfl, rfl⟩
set_option maxRecDepth 100000 in
set_option maxHeartbeats 400000 in
theorem open_arg {w : World} {d : Nat} {D : DM} {fp : List Nat} (hd : DiskAt w d D fp) (hdead : D.dead = false) (f n : Int) (hn1 : -1000000 ≤ n) (hn2 : n ≤ 1000000) (hf0 : 0 ≤ f) (hbad : n < 1 ∨ (D.S.length : Int) < n ∨ (D.S.length : Int) - n < f) :
    Calls Try.prog 32 #[.pointer (some ⟨d, 0, none⟩), .int .i64 f, .int .i64 n] w fun e w' => e = .returned (.tuple #[.pointer none, .slice none 0 0, .int .i64 1]) ∧ w = w' := by
  have hmost := (DiskAt.ok hd).most
  have HD := Lib.hid hd; clear hd
  by_cases b1 : n < 1
  · clear hbad
    go_enter Try.func32, Try.ntmps32
    go_wp2_with fail
    refine (dead_at HD.out).mono ?_
    rintro e w1 ⟨rfl, rfl⟩
    rw [hdead]
    go_wp2
    go_ret3
    exact ⟨rfl, rfl⟩
  · have b2 : ¬ f < 0 := by omega
    by_cases b3 : (D.S.length : Int) < n
    · clear hbad
      go_enter Try.func32, Try.ntmps32
      go_wp2_with fail
      refine (dead_at HD.out).mono ?_
      rintro e w1 ⟨rfl, rfl⟩
      rw [hdead]
      go_wp2_with fail
      refine (size_at HD.out).mono ?_
      rintro e w1 ⟨rfl, rfl⟩
      go_wp2
      go_ret3
      exact ⟨rfl, rfl⟩
    · have b4 : (D.S.length : Int) - n < f := by omega
      clear hbad
      go_enter Try.func32, Try.ntmps32
      go_wp2_with fail
      refine (dead_at HD.out).mono ?_
      rintro e w1 ⟨rfl, rfl⟩
      rw [hdead]
      go_wp2_with fail
      refine (size_at HD.out).mono ?_
      rintro e w1 ⟨rfl, rfl⟩
      go_wp2_with fail
      refine (size_at HD.out).mono ?_
      rintro e w1 ⟨rfl, rfl⟩
      go_wp2
      go_ret3
      exact ⟨rfl, rfl⟩
set_option maxRecDepth 100000 in
set_option maxHeartbeats 1000000 in
theorem open_full {w : World} {d f n : Nat} {D : DM} {fp : List Nat} (hd : DiskAt w d D fp) (hdead : D.dead = false) (h1 : 1 ≤ n) (hfit : f + n ≤ D.S.length) (hnew : (newestOf (D.part f n)).1 = 4294967295) :
    Calls Try.prog 32 #[.pointer (some ⟨d, 0, none⟩), .int .i64 (f : Int), .int .i64 (n : Int)] w fun e w' => e = .returned (.tuple #[.pointer none, .slice none 0 0, .int .i64 5]) ∧ Fr [] w w' := by
  have hmost := (DiskAt.ok hd).most
  have HD := Lib.hid hd; have HDEAD := Lib.hid hdead; have HNEW := Lib.hid hnew
  clear hd hdead hnew
  have e1 : decide ((n : Int) < 1) = false := by simp; omega
  have e2 : decide ((f : Int) < 0) = false := by simp
  have e3 : decide (((D.S.length : Nat) : Int) < (n : Int)) = false := by simp; omega
  have e4 : decide (((D.S.length : Nat) : Int) - (n : Int) < (f : Int)) = false := by simp; omega
  go_enter Try.func32, Try.ntmps32
  go_wp2_with fail
  refine (dead_at HD.out).mono ?_
  rintro e w1 ⟨rfl, rfl⟩
  rw [HDEAD.out]
  go_wp2_with fail
  refine (size_at HD.out).mono ?_
  rintro e w1 ⟨rfl, rfl⟩
  go_wp2_with fail
  refine (size_at HD.out).mono ?_
  rintro e w1 ⟨rfl, rfl⟩
  go_wp2_with fail
  have hf1 : Fr [] w (w.alloc (.cells (logCells d f n 0 0 0 false).toArray 84)) := (Fr.refl [] w).alloc _
  refine (load_ok (lg := w.heap.size) (at_ := 0) (num := 0) (ses := 0) (br := false) (Blk.new w _ (logCells d f n 0 0 0 false)) (HD.out.fr hf1 (by simp)) HDEAD.out hfit hmost).mono ?_
  rintro e w2 ⟨A, c, gl, gs, rfl, hnc, hA, hs2, hgl, hgs, hf2⟩
  have hz1 : (w.alloc (.cells (logCells d f n 0 0 0 false).toArray 84)).heap.size = w.heap.size + 1 := by simp
  rw [hz1] at hgl hgs
  have hb2 := (Blk.new w 84 (logCells d f n 0 0 0 false)).fr hf2 (by simp)
  have HS2 := Lib.hid hs2; have HF2 := Lib.hid (hf1.trans hf2 (by simp)); have HB2 := Lib.hid hb2; have HGL := Lib.hid hgl; have HGS := Lib.hid hgs
  clear hs2 hf2 hf1 hb2 hgl hgs hz1
  go_wp2_with fail
  have hLn := D.part_len f n
  have hnw := newest_any (A := A) (c := c) (a := (0, 0)) HB2.out HS2.out (by rw [hLn]; exact hA) (by rw [hLn]; exact hnc) (by rw [hLn]; omega) (by have := HGL.out; omega)
  rw [hLn] at hnw
  refine hnw.mono ?_
  clear hnw
  rintro e w3 ⟨rfl, hb3, hf3⟩
  rw [← newFrom_eq]
  rw [show decide ((newestOf (D.part f n)).1 < 4294967295) = false from decide_eq_false (by rw [HNEW.out]; omega)]
  have hF3 : Fr [] w w3 := HF2.out.trans hf3 (fun x hx => .inr (by simp at hx; omega))
  have HF3 := Lib.hid hF3
  clear hb3 hf3 hF3
  go_wp2
  go_ret3
  exact ⟨rfl, HF3.out⟩

end Go.Proofs.Ytbgcbikgjedkkaa
