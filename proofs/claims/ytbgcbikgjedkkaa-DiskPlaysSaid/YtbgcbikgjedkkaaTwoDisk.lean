/-
  The contracts of package disk where a second thing of the call's own stands beside the disk.
-/
import Derived.Test.YtbgcbikgjedkkaaLawA
import Derived.Test.YtbgcbikgjedkkaaPair
namespace Go.Proofs.Ytbgcbikgjedkkaa
open Go.RowKit

def tD (d : Nat) (D : DM) : Thing := fun w f => DiskAt w d D f
theorem locDisk (d : Nat) (D : DM) : Loc (tD d D) := ⟨fun h hf hS => DiskAt.fr h hf hS, fun h => DiskAt.lt h⟩
theorem DiskAt.mem {w : World} {d : Nat} {D : DM} {fp : List Nat} (h : DiskAt w d D fp) : d ∈ fp := by
  obtain ⟨bb, lv, rfl, _⟩ := h; simp [dfp]

section
variable {B : Thing} {W w : World} {d : Nat} {D : DM} {fa fb : List Nat}
theorem Two.d_lt (h : Two (tD d D) B W w fa fb) : d < w.heap.size := DiskAt.lt h.a d (DiskAt.mem h.a)
theorem Two.d_ge (h : Two (tD d D) B W w fa fb) : W.heap.size ≤ d := h.la d (DiskAt.mem h.a)
theorem Two.d_ne {g : Nat} (h : Two (tD d D) B W w fa fb) (hg : g < W.heap.size ∨ w.heap.size ≤ g) : g ≠ d := by
  have h1 := h.d_lt; have h2 := h.d_ge; omega
theorem Two.a_new {g : Nat} (h : Two (tD d D) B W w fa fb) (hg : g < W.heap.size ∨ w.heap.size ≤ g) : g ∉ fa := fun hm => by
  have h1 := DiskAt.lt h.a g hm; have h2 := h.la g hm; omega
theorem two_write (h : Two (tD d D) B W w fa fb) (hB : Loc B) (k : Int) (v : Value) (bs : List UInt8) (gs : Nat) (hv : BytesAt w v bs gs) (hgs : gs ≠ d) (hdone : D.done < 1099511627776) :
    Calls Try.prog 16 #[.pointer (some ⟨d, 0, none⟩), .int .i64 k, v] w fun e w' => e = .returned (.int .i64 (D.writeE k bs)) ∧ ∃ fa', Two (tD d (D.write k bs)) B W w' fa' fb :=
  (write_at h.a k v bs gs hv hgs hdone).mono fun _ _ ⟨he, hs⟩ => ⟨he, h.step1 hB hs⟩
theorem two_sync (h : Two (tD d D) B W w fa fb) (hB : Loc B) (hdone : D.done < 1099511627776) :
    Calls Try.prog 17 #[.pointer (some ⟨d, 0, none⟩)] w fun e w' => e = .returned (.int .i64 D.syncE) ∧ ∃ fa', Two (tD d D.sync) B W w' fa' fb :=
  (sync_at h.a hdone).mono fun _ _ ⟨he, hs⟩ => ⟨he, h.step1 hB hs⟩
theorem two_limit (h : Two (tD d D) B W w fa fb) (hB : Loc B) (k : Int) (hk : k ≤ 9223372036854775807) :
    Calls Try.prog 18 #[.pointer (some ⟨d, 0, none⟩), .int .i64 k] w fun e w' => e = .returned (.tuple #[]) ∧ ∃ fa', Two (tD d (D.limited k)) B W w' fa' fb :=
  (limit_at h.a k hk).mono fun _ _ ⟨he, hs⟩ => ⟨he, h.step1 hB hs⟩
theorem two_reopen (h : Two (tD d D) B W w fa fb) (hB : Loc B) (v : Value) (K : List Bool) (gs : Nat) (hv : BoolsAt w v K gs) (hgs : gs < W.heap.size ∨ w.heap.size ≤ gs) (hK : K.length ≤ 9223372036854775807) :
    Calls Try.prog 20 #[.pointer (some ⟨d, 0, none⟩), v] w fun e w' => e = .returned (.tuple #[]) ∧ ∃ fa', Two (tD d (D.reopen K)) B W w' fa' fb :=
  (reopen_at h.a v K gs hv (h.a_new hgs) hK).mono fun _ _ ⟨he, hs⟩ => ⟨he, h.step1 hB hs⟩
end

end Go.Proofs.Ytbgcbikgjedkkaa
