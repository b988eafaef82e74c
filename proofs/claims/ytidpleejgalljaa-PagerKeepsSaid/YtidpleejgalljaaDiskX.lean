/-
  A disk of the call's own, in a world that began somewhere: its operations. Bytes that were laid.
-/
import Derived.Test.YtidpleejgalljaaDiskE
import Derived.Lib.SlBytesConst
namespace Go.Proofs.Ytidpleejgalljaa
open Go.RowKit

theorem bytes_mark {w : World} {C : List UInt8} {fz : Nat × Nat} (w1 : World) (hw : w1 = w.alloc (.cells (bcells C).toArray 5 fz)) : BytesAt w1 (.slice (some ⟨w.heap.size, 0, none⟩) C.length C.length) C w.heap.size :=
  ⟨_, _, 0, rfl, Nat.le_refl _, fun _ => ⟨rfl, fun j u hu => by
    subst hw
    have : (w.alloc (.cells (bcells C).toArray 5 fz)).heap[w.heap.size]? = some (.cells (bcells C).toArray 5 fz) := heap_alloc_new w _
    simp only [World.cell?, this, Nat.zero_add]
    simpa using hu⟩⟩

/-- A disk of the call's own, that began in world w0: nothing old has turned. -/
def Disk (w0 w : World) (d : Nat) (D : DM) : Prop := ∃ fp, DiskAt w d D fp ∧ (∀ k ∈ fp, w0.heap.size ≤ k) ∧ Fr [] w0 w
section
variable {w0 w w' : World} {d : Nat} {D D' : DM}
theorem Disk.fr (h : Disk w0 w d D) (hf : Fr [] w w') : Disk w0 w' d D := by
  obtain ⟨fp, h1, h2, h3⟩ := h
  exact ⟨fp, h1.fr hf (by simp), h2, h3.trans hf (by simp)⟩
theorem Disk.frame (h : Disk w0 w d D) : Fr [] w0 w := by
  obtain ⟨fp, h1, h2, h3⟩ := h; exact h3
theorem Disk.lt (h : Disk w0 w d D) : d < w.heap.size := by
  obtain ⟨fp, ⟨bb, lv, rfl, h⟩, _, _⟩ := h; exact h.1.lt
theorem Disk.ge (h : Disk w0 w d D) : w0.heap.size ≤ d := by
  obtain ⟨fp, ⟨bb, lv, rfl, h⟩, h2, _⟩ := h; exact h2 d (by simp [dfp])
theorem Disk.ok (h : Disk w0 w d D) : D.ok := by
  obtain ⟨fp, h1, _, _⟩ := h; exact h1.ok
theorem Disk.step {fp : List Nat} (h2 : ∀ k ∈ fp, w0.heap.size ≤ k) (h3 : Fr [] w0 w) (hs : DStep w w' d D' fp) : Disk w0 w' d D' := by
  obtain ⟨fp', h1, hf, hn⟩ := hs
  have hz := h3.size
  refine ⟨fp', h1, fun k hk => ?_, h3.trans hf (fun x hx => .inr (h2 x hx))⟩
  rcases hn k hk with h | h
  · exact h2 k h
  · omega
theorem write_D (h : Disk w0 w d D) (k : Int) (v : Value) (bs : List UInt8) (gs : Nat) (hv : BytesAt w v bs gs) (hgs : gs ≠ d) (hdone : D.done < 1099511627776) :
    Calls Try.prog 43 #[.pointer (some ⟨d, 0, none⟩), .int .i64 k, v] w fun e w' => e = .returned (.int .i64 (D.writeE k bs)) ∧ Disk w0 w' d (D.write k bs) := by
  obtain ⟨fp, h1, h2, h3⟩ := h
  exact (write_at h1 k v bs gs hv hgs hdone).mono fun e w' ⟨he, hs⟩ => ⟨he, Disk.step h2 h3 hs⟩
theorem sync_D (h : Disk w0 w d D) (hdone : D.done < 1099511627776) :
    Calls Try.prog 44 #[.pointer (some ⟨d, 0, none⟩)] w fun e w' => e = .returned (.int .i64 D.syncE) ∧ Disk w0 w' d D.sync := by
  obtain ⟨fp, h1, h2, h3⟩ := h
  exact (sync_at h1 hdone).mono fun e w' ⟨he, hs⟩ => ⟨he, Disk.step h2 h3 hs⟩
theorem limit_D (h : Disk w0 w d D) (k : Int) (hk : k ≤ 9223372036854775807) :
    Calls Try.prog 12 #[.pointer (some ⟨d, 0, none⟩), .int .i64 k] w fun e w' => e = .returned (.tuple #[]) ∧ Disk w0 w' d (D.limited k) := by
  obtain ⟨fp, h1, h2, h3⟩ := h
  exact (limit_at h1 k hk).mono fun e w' ⟨he, hs⟩ => ⟨he, Disk.step h2 h3 hs⟩
theorem reopen_D (h : Disk w0 w d D) (v : Value) (K : List Bool) (gs : Nat) (hv : BoolsAt w v K gs) (hgs : gs < w0.heap.size ∨ w.heap.size ≤ gs) (hK : K.length ≤ 9223372036854775807) :
    Calls Try.prog 17 #[.pointer (some ⟨d, 0, none⟩), v] w fun e w' => e = .returned (.tuple #[]) ∧ Disk w0 w' d (D.reopen K) := by
  obtain ⟨fp, h1, h2, h3⟩ := h
  refine (reopen_at h1 v K _ hv ?_ hK).mono fun e w' ⟨he, hs⟩ => ⟨he, Disk.step h2 h3 hs⟩
  intro hm
  have h4 := h1.lt _ hm
  have h5 := h2 _ hm
  omega
theorem dead_D (h : Disk w0 w d D) : Calls Try.prog 13 #[.pointer (some ⟨d, 0, none⟩)] w fun e w' => e = .returned (.bool D.dead) ∧ w = w' := by
  obtain ⟨fp, h1, h2, h3⟩ := h; exact dead_at h1
theorem writes_D (h : Disk w0 w d D) : Calls Try.prog 21 #[.pointer (some ⟨d, 0, none⟩)] w fun e w' => e = .returned (.int .i64 (D.done : Int)) ∧ w = w' := by
  obtain ⟨fp, h1, h2, h3⟩ := h; exact writes_at h1
theorem read_D (h : Disk w0 w d D) (k : Int) : Calls Try.prog 46 #[.pointer (some ⟨d, 0, none⟩), .int .i64 k] w (ReadAns w D k) := by
  obtain ⟨fp, h1, h2, h3⟩ := h; exact read_at h1 k
theorem new_D (w0 w : World) (n : Nat) (h1 : 1 ≤ n) (hn : n ≤ 65536) (hf : Fr [] w0 w) :
    Calls Try.prog 10 #[.int .i64 n] w fun e w' => ∃ d, e = .returned (.tuple #[.pointer (some ⟨d, 0, none⟩), .int .i64 0]) ∧ Disk w0 w' d (DM.new n) := by
  refine (new_ok n w h1 hn).mono ?_
  rintro e w' ⟨d, fp, he, hd, hf', hk⟩
  exact ⟨d, he, fp, hd, fun k hm => Nat.le_trans hf.size (hk k hm), hf.trans hf' (by simp)⟩
end

end Go.Proofs.Ytidpleejgalljaa
