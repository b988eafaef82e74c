/-
  The contracts of maps.Keys and slices.Sorted at a map of pages: its numbers, rising.
-/
import Derived.Test.YtidpleejgalljaaPt
import Derived.Test.YtidpleejgalljaaLay
namespace Go.Proofs.Ytidpleejgalljaa
open Go.RowKit Go.Maps Go.Sort Go.Shelf

theorem sortsA (m : Nat) : AnyZI.SortsIn Try.prog Try.sortedA_ren Fence.wide m :=
  ⟨fun blk off cap ss W hH hblk hsz => callsIn_wide.2 (AnyM.slices_Sort_int Try.sortA blk off cap ss W hH hblk hsz),
   fun p cap W => callsIn_wide.2 (AnyM.slices_Sort_int_none Try.sortA p cap W)⟩
/-- maps.Keys: a function over a new block that has the map. -/
theorem keys_any (b : Nat) (w : World) : Calls Try.prog 42 #[.map (some b)] w fun e w' => e = .returned (.func (.func 54) #[] #[.pointer (some ⟨w.heap.size, 0, none⟩)]) ∧ w' = w.alloc (.cells #[.map (some b)] 61) :=
  (callsIn_wide (n := 5)).1 (AnyZI.keys_in Try.keysA Fence.wide 5 trivial rfl (some b) w)
/-- Numbers of pages, as cells. -/
def kcells (m : PgM) : List Value := m.map fun p => .int .i64 (p.1 : Int)
theorem kcells_len (m : PgM) : (kcells m).length = m.length := by simp [kcells]
theorem sort_keys {n : Nat} {m : PgM} (hm : PgOk n m) {ss : List Int} (h : ss.Perm (intKeys (toD m))) : (ss.mergeSort fun x y => decide (x ≤ y)).map encZ = kcells m := by
  rw [mergeSort_of_perm_i h, keys_D]
  have e : (m.map fun p => (p.1 : Int)).mergeSort leI = m.map fun p => (p.1 : Int) := by
    refine List.mergeSort_of_pairwise ?_
    rw [List.pairwise_map]
    exact hm.rise.imp fun {a b} hab => by simp only [leI, decide_eq_true_eq]; omega
  rw [e]
  simp [kcells, encZ]
set_option maxHeartbeats 1000000 in
/-- slices.Sorted of what maps.Keys gave. -/
theorem sorted_any {b n : Nat} {m : PgM} {w : World} (h : MapAt w b m) (hm : PgOk n m) (hn : n ≤ 65536) (w1 : World) (hw1 : w1 = w.alloc (.cells #[.map (some b)] 61)) :
    Calls Try.prog 41 #[.func (.func 54) #[] #[.pointer (some ⟨w.heap.size, 0, none⟩)]] w1 fun e w' => ∃ v, e = .returned v ∧ w'.ownsRow w1.heap.size 3 1 v m.length (kcells m) ∧ Fr [] w1 w' := by
  subst hw1
  have hfew := hm.few
  have hbl := h.lt
  have hsz : Maps.size (toD m) = m.length := size_D m
  have hseq : SeqGives Fence.wide 2 Try.prog 54 #[.pointer (some ⟨w.heap.size, 0, none⟩)] encZ (fun ss => ss.Perm (intKeys (toD m))) (Maps.size (toD m)) (w.alloc (.cells #[.map (some b)] 61)) :=
    AnyZI.keys_gives (R := pgR) (nn := m.length) (ρ := Try.keysA_ren) { Try.keysA with } Fence.wide _ trivial rfl (by omega) w.heap.size b (toD m) _ (by simp) (by simp) (h.fr ((Fr.refl [] w).alloc _) (by simp))
  have cS := AnyZI.sorted_in Try.sortedA Fence.wide 5 trivial trivial trivial trivial rfl (by omega) (sortsA _) (enters_of Try.func53 (by kernel_rfl) rfl) 54 #[.pointer (some ⟨w.heap.size, 0, none⟩)] trivial (enters_of Try.func54 (by kernel_rfl) rfl) _ _ (by rw [hsz]; unfold maxLen; omega) (by rw [hsz]; omega) _ hseq
  have cS' := (callsIn_wide (n := 5)).1 cS
  refine Calls.mono (P := Try.prog) (f := 41) cS' ?_
  rintro e w' ⟨v, ss, rfl, hS, hrow, _, hb⟩
  have hl : ss.length = m.length := by
    have := hS.length_eq
    rw [keys_D, List.length_map] at this
    exact this
  rw [sort_keys hm hS, hl] at hrow
  exact ⟨v, rfl, hrow, Fr.of_below hb []⟩

end Go.Proofs.Ytidpleejgalljaa
