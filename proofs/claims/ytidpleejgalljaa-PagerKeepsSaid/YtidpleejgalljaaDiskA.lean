/-
  The disk in memory, and the contracts of its small functions: gone, Size, spend, Limit, Dead, Writes, Pending, New, sector. For every disk.
-/
import Derived.Test.YtidpleejgalljaaProg
import Derived.Test.YtidpleejgalljaaDm
namespace Go.Proofs.Ytidpleejgalljaa
open Go.RowKit

theorem info_u8 : (Try.prog.info? 5).map (fun i => (i.zero, i.size, i.bytes)) = some (some (.int .u8 0), 1, 1) := by kernel_rfl

def pcells (P : List (Nat × List UInt8)) : List Value := P.flatMap fun p => .int .i64 (p.1 : Int) :: bcells p.2

def DiskIn (w : World) (d bb : Nat) (lv : Value) (D : DM) : Prop :=
  Blk w d 55 [.slice (some ⟨bb, 0, none⟩) (D.S.length * 64) (D.S.length * 64), lv, .int .i64 D.limit, .bool D.dead, .int .i64 (D.done : Int)] ∧
  Blk w bb 5 (bcells D.S.flatten) ∧ w.ownsRow 0 71 65 lv D.P.length (pcells D.P) ∧ D.ok

def dfp (d bb : Nat) (lv : Value) : List Nat := d :: bb :: lv.ownBlock.toList
def DiskAt (w : World) (d : Nat) (D : DM) (fp : List Nat) : Prop := ∃ bb lv, fp = dfp d bb lv ∧ DiskIn w d bb lv D
/-- What an operation on a disk leaves: the disk as told; nothing but its own blocks, and new ones, has turned. -/
def DStep (w w' : World) (d : Nat) (D : DM) (fp : List Nat) : Prop := ∃ fp', DiskAt w' d D fp' ∧ Fr fp w w' ∧ ∀ k ∈ fp', k ∈ fp ∨ w.heap.size ≤ k

section
variable {w w' : World} {d bb : Nat} {lv : Value} {D : DM}
theorem DiskIn.c0 (h : DiskIn w d bb lv D) : w.cell? ⟨d, 0, none⟩ = some (.slice (some ⟨bb, 0, none⟩) (D.S.length * 64) (D.S.length * 64)) := h.1.at_ rfl
theorem DiskIn.c1 (h : DiskIn w d bb lv D) : w.cell? ⟨d, 1, none⟩ = some lv := h.1.at_ rfl
theorem DiskIn.c2 (h : DiskIn w d bb lv D) : w.cell? ⟨d, 2, none⟩ = some (.int .i64 D.limit) := h.1.at_ rfl
theorem DiskIn.c3 (h : DiskIn w d bb lv D) : w.cell? ⟨d, 3, none⟩ = some (.bool D.dead) := h.1.at_ rfl
theorem DiskIn.c4 (h : DiskIn w d bb lv D) : w.cell? ⟨d, 4, none⟩ = some (.int .i64 (D.done : Int)) := h.1.at_ rfl
theorem DiskIn.free (h : DiskIn w d bb lv D) (i : Nat) : w.frozen? ⟨d, i, none⟩ = false := h.1.free i
theorem DiskIn.ne1 (h : DiskIn w d bb lv D) : d ≠ bb := h.1.ne_ h.2.1 (by decide)
theorem DiskIn.ne2 (h : DiskIn w d bb lv D) : lv.ownBlock ≠ some d := own_ne h.2.2.1 h.1 (by decide)
theorem DiskIn.ne3 (h : DiskIn w d bb lv D) : lv.ownBlock ≠ some bb := own_ne h.2.2.1 h.2.1 (by decide)
theorem DiskIn.fr {S : List Nat} (h : DiskIn w d bb lv D) (hf : Fr S w w') (hS : ∀ k ∈ dfp d bb lv, k ∉ S) : DiskIn w' d bb lv D :=
  ⟨h.1.fr hf (hS d (by simp [dfp])), h.2.1.fr hf (hS bb (by simp [dfp])), own_fr h.2.2.1 hf (fun g hg => hS g (by simp [dfp, hg])), h.2.2.2⟩
theorem DiskIn.lt (h : DiskIn w d bb lv D) : ∀ k ∈ dfp d bb lv, k < w.heap.size := by
  intro k hk
  simp only [dfp, List.mem_cons, Option.mem_toList] at hk
  rcases hk with rfl | rfl | hk
  · exact h.1.lt
  · exact h.2.1.lt
  · exact own_lt h.2.2.1 k hk
theorem DiskAt.fr {S fp : List Nat} (h : DiskAt w d D fp) (hf : Fr S w w') (hS : ∀ k ∈ fp, k ∉ S) : DiskAt w' d D fp := by
  obtain ⟨bb, lv, rfl, h⟩ := h
  exact ⟨bb, lv, rfl, h.fr hf hS⟩
theorem DiskAt.lt {fp : List Nat} (h : DiskAt w d D fp) : ∀ k ∈ fp, k < w.heap.size := by
  obtain ⟨bb, lv, rfl, h⟩ := h
  exact h.lt
theorem DiskAt.ok {fp : List Nat} (h : DiskAt w d D fp) : D.ok := by
  obtain ⟨bb, lv, rfl, h⟩ := h
  exact h.2.2.2
/-- One cell of the disk's struct has turned: limit, dead or done. -/
theorem DiskIn.turn {D' : DM} (h : DiskIn w d bb lv D) (hS : D'.S = D.S) (hP : D'.P = D.P) (hok : D'.ok)
    (hb : Blk w' d 55 [.slice (some ⟨bb, 0, none⟩) (D.S.length * 64) (D.S.length * 64), lv, .int .i64 D'.limit, .bool D'.dead, .int .i64 (D'.done : Int)]) (hf : Fr [d] w w') : DiskIn w' d bb lv D' := by
  have hn : ∀ g, lv.ownBlock = some g → g ∉ [d] := by
    intro g hg hm
    simp only [List.mem_singleton] at hm
    subst hm
    exact h.ne2 hg
  exact ⟨by rw [hS]; exact hb, by rw [hS]; exact h.2.1.fr hf (by simp [h.ne1.symm]), by rw [hP]; exact own_fr h.2.2.1 hf hn, hok⟩
end

/-! ### gone, Size, Dead, Writes, Pending -/
set_option maxHeartbeats 400000 in
theorem gone_in {w : World} {d bb : Nat} {lv : Value} {D : DM} (h : DiskIn w d bb lv D) :
    Calls Try.prog 28 #[.pointer (some ⟨d, 0, none⟩)] w fun e w' => e = .returned (.bool D.dead) ∧ w = w' := by
  have c0 := h.c0; have c3 := h.c3
  have g1 := h.2.2.2.some_
  have e0 : (((D.S.length : Int) * 64) == 0) = false := beq_eq_false_iff_ne.2 (by omega)
  clear h
  go_enter Try.func28, Try.ntmps28
  go_wp2
  go_ret
  exact ⟨rfl, rfl⟩
theorem gone_nil (w : World) : Calls Try.prog 28 #[.pointer none] w fun e w' => e = .returned (.bool true) ∧ w = w' := by
  go_enter Try.func28, Try.ntmps28
  go_wp2
  go_ret
  exact ⟨rfl, rfl⟩
set_option maxHeartbeats 400000 in
theorem dead_in {w : World} {d bb : Nat} {lv : Value} {D : DM} (h : DiskIn w d bb lv D) :
    Calls Try.prog 13 #[.pointer (some ⟨d, 0, none⟩)] w fun e w' => e = .returned (.bool D.dead) ∧ w = w' := by
  go_enter Try.func13, Try.ntmps13
  go_wp2_with (go_at_call 28; refine (gone_in h).mono ?_; rintro e w' ⟨rfl, rfl⟩)
  go_ret
  exact ⟨rfl, rfl⟩
theorem dead_nil (w : World) : Calls Try.prog 13 #[.pointer none] w fun e w' => e = .returned (.bool true) ∧ w = w' := by
  go_enter Try.func13, Try.ntmps13
  go_wp2_with (go_at_call 28; refine (gone_nil w).mono ?_; rintro e w' ⟨rfl, rfl⟩)
  go_ret
  exact ⟨rfl, rfl⟩
set_option maxHeartbeats 400000 in
theorem size_in {w : World} {d bb : Nat} {lv : Value} {D : DM} (h : DiskIn w d bb lv D) :
    Calls Try.prog 25 #[.pointer (some ⟨d, 0, none⟩)] w fun e w' => e = .returned (.int .i64 (D.S.length : Int)) ∧ w = w' := by
  have c0 := h.c0
  have g1 := h.2.2.2.some_; have g2 := h.2.2.2.most
  clear h
  go_enter Try.func25, Try.ntmps25
  go_wp2
  go_ret
  exact ⟨by simp, rfl⟩
theorem size_nil (w : World) : Calls Try.prog 25 #[.pointer none] w fun e w' => e = .returned (.int .i64 0) ∧ w = w' := by
  go_enter Try.func25, Try.ntmps25
  go_wp2
  go_ret
  exact ⟨rfl, rfl⟩
theorem writes_in {w : World} {d bb : Nat} {lv : Value} {D : DM} (h : DiskIn w d bb lv D) :
    Calls Try.prog 21 #[.pointer (some ⟨d, 0, none⟩)] w fun e w' => e = .returned (.int .i64 (D.done : Int)) ∧ w = w' := by
  have c4 := h.c4
  clear h
  go_enter Try.func21, Try.ntmps21
  go_wp2
  go_ret
  exact ⟨rfl, rfl⟩
theorem writes_nil (w : World) : Calls Try.prog 21 #[.pointer none] w fun e w' => e = .returned (.int .i64 0) ∧ w = w' := by
  go_enter Try.func21, Try.ntmps21
  go_wp2
  go_ret
  exact ⟨rfl, rfl⟩

/-! ### spend -/
set_option maxHeartbeats 400000 in
theorem spend_no {w : World} {d bb : Nat} {lv : Value} {D : DM} (h : DiskIn w d bb lv D) (h0 : D.limit = 0) :
    Calls Try.prog 55 #[.pointer (some ⟨d, 0, none⟩)] w fun e w' => e = .returned (.bool false) ∧ DiskIn w' d bb lv D.died ∧ Fr [d] w w' := by
  have c2 := h.c2; have c3 := h.c3; have f3 := h.free 3
  rw [h0] at c2
  have H := Lib.hid h; clear h
  have H0 := Lib.hid h0; clear h0
  go_enter Try.func55, Try.ntmps55
  go_wp2
  go_ret
  have hf : Fr [d] w (w.setCell ⟨d, 3, none⟩ (.bool true)) := (Fr.refl _ _).setCell (by simp) _
  exact ⟨rfl, H.out.turn rfl rfl (DM.ok_died H.out.2.2.2) (by simpa [DM.died] using H.out.1.set_ 3 (.bool true)) hf, hf⟩

set_option maxHeartbeats 400000 in
theorem spend_yes {w : World} {d bb : Nat} {lv : Value} {D : DM} (h : DiskIn w d bb lv D) (h0 : D.limit ≠ 0) (hd : D.done < 1099511627776) :
    Calls Try.prog 55 #[.pointer (some ⟨d, 0, none⟩)] w fun e w' => e = .returned (.bool true) ∧ DiskIn w' d bb lv D.spent ∧ Fr [d] w w' := by
  have c2 := h.c2; have c4 := h.c4; have f2 := h.free 2; have f4 := h.free 4
  have g1 := h.2.2.2.lim; have g2 := h.2.2.2.lim'
  have e0 : (D.limit == 0) = false := by simpa using h0
  have hok : D.spent.ok := ⟨h.2.2.2.some_, h.2.2.2.most, h.2.2.2.sec, h.2.2.2.pend, by simp only [DM.spent]; split <;> omega, by simp only [DM.spent]; split <;> omega, by have := h.2.2.2.few; simp only [DM.spent]; omega⟩
  have H := Lib.hid h; clear h
  have HOK := Lib.hid hok; clear hok
  by_cases hp : 0 < D.limit
  · have c4' : (w.setCell ⟨d, 2, none⟩ (.int .i64 (D.limit - 1))).cell? ⟨d, 4, none⟩ = some (.int .i64 (D.done : Int)) := by rw [World.cell?_setCell_other _ _ _ _ (by simp)]; exact c4
    clear h0
    go_enter Try.func55, Try.ntmps55
    go_wp2
    go_ret
    have hf : Fr [d] w ((w.setCell ⟨d, 2, none⟩ (.int .i64 (D.limit - 1))).setCell ⟨d, 4, none⟩ (.int .i64 ((D.done : Int) + 1))) := ((Fr.refl _ _).setCell (by simp) _).setCell (by simp) _
    exact ⟨rfl, H.out.turn rfl rfl HOK.out (by simpa [DM.spent, hp] using (H.out.1.set_ 2 (.int .i64 (D.limit - 1))).set_ 4 (.int .i64 ((D.done : Int) + 1))) hf, hf⟩
  · clear h0
    go_enter Try.func55, Try.ntmps55
    go_wp2
    go_ret
    have hf : Fr [d] w (w.setCell ⟨d, 4, none⟩ (.int .i64 ((D.done : Int) + 1))) := (Fr.refl _ _).setCell (by simp) _
    exact ⟨rfl, H.out.turn rfl rfl HOK.out (by simpa [DM.spent, show ¬ (0 < D.limit) from by omega] using H.out.1.set_ 4 (.int .i64 ((D.done : Int) + 1))) hf, hf⟩

/-! ### Limit -/
set_option maxHeartbeats 400000 in
theorem limit_in {w : World} {d bb : Nat} {lv : Value} {D : DM} (h : DiskIn w d bb lv D) (k : Int) (hk : k ≤ 9223372036854775807) :
    Calls Try.prog 12 #[.pointer (some ⟨d, 0, none⟩), .int .i64 k] w fun e w' => e = .returned (.tuple #[]) ∧ DiskIn w' d bb lv (D.limited k) ∧ Fr [d] w w' := by
  have c2 := h.c2; have f2 := h.free 2
  have H := Lib.hid h; clear h
  go_enter Try.func12, Try.ntmps12
  go_wp2
  · go_end0
    have hf : Fr [d] w (w.setCell ⟨d, 2, none⟩ (.int .i64 (-1))) := (Fr.refl _ _).setCell (by simp) _
    have hm : max k (-1) = -1 := by omega
    exact ⟨rfl, H.out.turn rfl rfl (DM.ok_limited H.out.2.2.2 k hk) (by simpa [DM.limited, hm] using H.out.1.set_ 2 (.int .i64 (-1))) hf, hf⟩
  · go_end0
    have hf : Fr [d] w (w.setCell ⟨d, 2, none⟩ (.int .i64 k)) := (Fr.refl _ _).setCell (by simp) _
    have hm : max k (-1) = k := by omega
    exact ⟨rfl, H.out.turn rfl rfl (DM.ok_limited H.out.2.2.2 k hk) (by simpa [DM.limited, hm] using H.out.1.set_ 2 (.int .i64 k)) hf, hf⟩
theorem limit_nil (w : World) (k : Int) : Calls Try.prog 12 #[.pointer none, .int .i64 k] w fun e w' => e = .returned (.tuple #[]) ∧ w = w' := by
  go_enter Try.func12, Try.ntmps12
  go_wp2
  go_end0
  exact ⟨rfl, rfl⟩

end Go.Proofs.Ytidpleejgalljaa
