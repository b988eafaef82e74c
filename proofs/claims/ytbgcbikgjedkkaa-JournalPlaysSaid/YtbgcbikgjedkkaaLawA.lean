/-
  What each statement of layer 6 begins with: 'awake' answers true and leaves old memory alone. And the statement on limits.
-/
import Derived.Test.YtbgcbikgjedkkaaDiskE
import Derived.Lib.SlBytesConst
namespace Go.Proofs.Ytbgcbikgjedkkaa
open Go.RowKit

theorem bytes_mark {w : World} {C : List UInt8} {fz : Nat × Nat} (w1 : World) (hw : w1 = w.alloc (.cells (bcells C).toArray 5 fz)) : BytesAt w1 (.slice (some ⟨w.heap.size, 0, none⟩) C.length C.length) C w.heap.size :=
  ⟨_, _, 0, rfl, Nat.le_refl _, fun _ => ⟨rfl, fun j u hu => by
    subst hw
    have : (w.alloc (.cells (bcells C).toArray 5 fz)).heap[w.heap.size]? = some (.cells (bcells C).toArray 5 fz) := heap_alloc_new w _
    simp only [World.cell?, this, Nat.zero_add]
    simpa using hu⟩⟩

/-- A disk of the call's own, that began in world w0: nothing old has turned. -/
def Disk (w0 w : World) (d : Nat) (D : DM) : Prop := ∃ fp, DiskAt w d D fp ∧ (∀ k ∈ fp, w0.heap.size ≤ k) ∧ Fr [] w0 w
section
variable {w0 w w' : World} {d : Nat} {D D' : DM}
theorem Disk.fr (h : Disk w0 w d D) (hf : Fr [] w w') : Disk w0 w' d D := by
  obtain ⟨fp, h1, h2, h3⟩ := h
  exact ⟨fp, h1.fr hf (by simp), h2, h3.trans hf (by simp)⟩
theorem Disk.frame (h : Disk w0 w d D) : Fr [] w0 w := by
  obtain ⟨fp, h1, h2, h3⟩ := h; exact h3
theorem Disk.lt (h : Disk w0 w d D) : d < w.heap.size := by
  obtain ⟨fp, ⟨bb, lv, rfl, h⟩, _, _⟩ := h; exact h.1.lt
theorem Disk.ge (h : Disk w0 w d D) : w0.heap.size ≤ d := by
  obtain ⟨fp, ⟨bb, lv, rfl, h⟩, h2, _⟩ := h; exact h2 d (by simp [dfp])
theorem Disk.ok (h : Disk w0 w d D) : D.ok := by
  obtain ⟨fp, h1, _, _⟩ := h; exact h1.ok
theorem Disk.step {fp : List Nat} (h2 : ∀ k ∈ fp, w0.heap.size ≤ k) (h3 : Fr [] w0 w) (hs : DStep w w' d D' fp) : Disk w0 w' d D' := by
  obtain ⟨fp', h1, hf, hn⟩ := hs
  have hz := h3.size
  refine ⟨fp', h1, fun k hk => ?_, h3.trans hf (fun x hx => .inr (h2 x hx))⟩
  rcases hn k hk with h | h
  · exact h2 k h
  · omega
theorem write_D (h : Disk w0 w d D) (k : Int) (v : Value) (bs : List UInt8) (gs : Nat) (hv : BytesAt w v bs gs) (hgs : gs ≠ d) (hdone : D.done < 1099511627776) :
    Calls Try.prog 16 #[.pointer (some ⟨d, 0, none⟩), .int .i64 k, v] w fun e w' => e = .returned (.int .i64 (D.writeE k bs)) ∧ Disk w0 w' d (D.write k bs) := by
  obtain ⟨fp, h1, h2, h3⟩ := h
  exact (write_at h1 k v bs gs hv hgs hdone).mono fun e w' ⟨he, hs⟩ => ⟨he, Disk.step h2 h3 hs⟩
theorem sync_D (h : Disk w0 w d D) (hdone : D.done < 1099511627776) :
    Calls Try.prog 17 #[.pointer (some ⟨d, 0, none⟩)] w fun e w' => e = .returned (.int .i64 D.syncE) ∧ Disk w0 w' d D.sync := by
  obtain ⟨fp, h1, h2, h3⟩ := h
  exact (sync_at h1 hdone).mono fun e w' ⟨he, hs⟩ => ⟨he, Disk.step h2 h3 hs⟩
theorem limit_D (h : Disk w0 w d D) (k : Int) (hk : k ≤ 9223372036854775807) :
    Calls Try.prog 18 #[.pointer (some ⟨d, 0, none⟩), .int .i64 k] w fun e w' => e = .returned (.tuple #[]) ∧ Disk w0 w' d (D.limited k) := by
  obtain ⟨fp, h1, h2, h3⟩ := h
  exact (limit_at h1 k hk).mono fun e w' ⟨he, hs⟩ => ⟨he, Disk.step h2 h3 hs⟩
theorem reopen_D (h : Disk w0 w d D) (v : Value) (K : List Bool) (gs : Nat) (hv : BoolsAt w v K gs) (hgs : gs < w0.heap.size ∨ w.heap.size ≤ gs) (hK : K.length ≤ 9223372036854775807) :
    Calls Try.prog 20 #[.pointer (some ⟨d, 0, none⟩), v] w fun e w' => e = .returned (.tuple #[]) ∧ Disk w0 w' d (D.reopen K) := by
  obtain ⟨fp, h1, h2, h3⟩ := h
  refine (reopen_at h1 v K _ hv ?_ hK).mono fun e w' ⟨he, hs⟩ => ⟨he, Disk.step h2 h3 hs⟩
  intro hm
  have h4 := h1.lt _ hm
  have h5 := h2 _ hm
  omega
theorem dead_D (h : Disk w0 w d D) : Calls Try.prog 28 #[.pointer (some ⟨d, 0, none⟩)] w fun e w' => e = .returned (.bool D.dead) ∧ w = w' := by
  obtain ⟨fp, h1, h2, h3⟩ := h; exact dead_at h1
theorem writes_D (h : Disk w0 w d D) : Calls Try.prog 21 #[.pointer (some ⟨d, 0, none⟩)] w fun e w' => e = .returned (.int .i64 (D.done : Int)) ∧ w = w' := by
  obtain ⟨fp, h1, h2, h3⟩ := h; exact writes_at h1
theorem read_D (h : Disk w0 w d D) (k : Int) : Calls Try.prog 19 #[.pointer (some ⟨d, 0, none⟩), .int .i64 k] w (ReadAns w D k) := by
  obtain ⟨fp, h1, h2, h3⟩ := h; exact read_at h1 k
theorem new_D (w0 w : World) (n : Nat) (h1 : 1 ≤ n) (hn : n ≤ 65536) (hf : Fr [] w0 w) :
    Calls Try.prog 15 #[.int .i64 n] w fun e w' => ∃ d, e = .returned (.tuple #[.pointer (some ⟨d, 0, none⟩), .int .i64 0]) ∧ Disk w0 w' d (DM.new n) := by
  refine (new_ok n w h1 hn).mono ?_
  rintro e w' ⟨d, fp, he, hd, hf', hk⟩
  exact ⟨d, he, fp, hd, fun k hm => Nat.le_trans hf.size (hk k hm), hf.trans hf' (by simp)⟩
end

set_option maxRecDepth 100000 in
set_option maxHeartbeats 1000000 in
theorem awake06 (w : World) : Calls Try.prog 13 #[] w fun e w' => e = .returned (.bool true) ∧ Fr [] w w' := by
  have kc := fun (w : World) (C : Array Value) (n c : Nat) => Lib.run_convert_bytes_const (P := Try.prog) w 22 5 C n c Try.underlying22 Try.underlying5
  go_enter Try.func13, Try.ntmps13
  go_wp2_with fail
  refine (new_D w w 4 (by omega) (by omega) (Fr.refl _ _)).mono ?_
  rintro e w1 ⟨d, rfl, hd1⟩
  have HD1 := Lib.hid hd1; clear hd1
  go_wp2_with fail
  refine (write_D (HD1.out.fr ((Fr.refl [] w1).alloc (.cells #[.int .u8 97] 5 (1, 2)))) 1 _ [97] w1.heap.size (bytes_mark (w := w1) (C := [97]) (fz := (1, 2)) _ rfl) (by have := HD1.out.lt; omega) (by decide)).mono ?_
  rintro e w2 ⟨rfl, hd2⟩
  have HD2 := Lib.hid hd2; clear hd2
  rw [show (DM.new 4).writeE 1 [97] = 0 from by decide]
  go_wp2_with fail
  obtain ⟨fp, hd2, hk2, hf2⟩ := HD2.out
  have HK2 := Lib.hid hk2; have HF2 := Lib.hid hf2; have HA2 := Lib.hid hd2; clear hk2 hf2 hd2
  refine (read_at HA2.out 1).mono ?_
  rintro e w3 ⟨v3, g3, rfl, hb3, hg3, hf3, hv3, _⟩
  obtain ⟨rfl, hb3'⟩ := hv3 (by decide)
  have hd3 := HA2.out.fr hf3 (by simp)
  have hg3' : g3 ∉ fp := fun hm => by have := HA2.out.lt _ hm; omega
  have HD3 := Lib.hid hd3; have HB3 := Lib.hid hb3'; have HG3 := Lib.hid hg3'; have HF3 := Lib.hid (HF2.out.trans hf3 (by simp))
  clear hb3 hb3' hv3 hd3 hg3' hg3 hf3
  rw [show ((DM.new 4).write 1 [97]).readE 1 = 0 from by decide]
  go_wp2_with fail
  refine (reopen_at HD3.out _ [] w3.heap.size (BoolsAt.nil _ _) (fun hm => by have := HD3.out.lt _ hm; omega) (by decide)).mono ?_
  rintro e w4 ⟨rfl, fp4, hd4, hf4, hn4⟩
  have hb4 := HB3.out.fr hf4 HG3.out
  have HD4 := Lib.hid hd4; have HB4 := Lib.hid hb4; have HF4 := Lib.hid (HF3.out.trans hf4 (fun x hx => .inr (HK2.out x hx)))
  clear hd4 hb4 hf4 hn4
  go_wp2_with fail
  refine (read_at HD4.out 1).mono ?_
  rintro e w5 ⟨v5, g5, rfl, hb5, hg5, hf5, hv5, _⟩
  obtain ⟨rfl, hb5'⟩ := hv5 (by decide)
  have c3 : w5.cell? ⟨g3, 0, none⟩ = some (.int .u8 97) := (HB4.out.fr hf5 (by simp)).at_ rfl
  have c5 : w5.cell? ⟨g5, 0, none⟩ = some (.int .u8 0) := hb5'.at_ rfl
  have HF5 := Lib.hid (HF4.out.trans hf5 (by simp))
  clear hb5 hb5' hv5 hg5 hf5
  rw [show (((DM.new 4).write 1 [97]).reopen []).readE 1 = 0 from by decide]
  go_wp2
  go_ret
  exact ⟨rfl, HF5.out⟩

end Go.Proofs.Ytbgcbikgjedkkaa
