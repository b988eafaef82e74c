/-
  The contracts of journal.word and half.
-/
import Derived.Test.YtidpleejgalljaaDiskE
import Derived.Test.YtidpleejgalljaaJm
import Derived.Test.YtidpleejgalljaaBitsB
namespace Go.Proofs.Ytidpleejgalljaa
open Go.RowKit

def WordRel (l : List UInt8) (n i : Value) : Prop := ∃ k : Nat, k ≤ 4 ∧ i = .int .i64 k ∧ n = .int .u32 ((wordOf (l.take k) : Nat) : Int)
theorem word_take {l : List UInt8} {k : Nat} {u : UInt8} (hu : l[k]? = some u) : wordOf (l.take (k + 1)) = wordOf (l.take k) * 256 + u.toNat := by
  have hlt : k < l.length := (List.getElem?_eq_some_iff.1 hu).1
  rw [List.take_succ_eq_append_getElem hlt, wordOf_snoc]
  rw [List.getElem?_eq_getElem hlt] at hu
  simp only [Option.some.injEq] at hu
  rw [hu]
set_option maxRecDepth 100000 in
set_option maxHeartbeats 400000 in
theorem word_any {w : World} {g off n c : Nat} {l : List UInt8} (hl : l.length = 4) (hn : 4 ≤ n) (hnc : n ≤ c) (hc : ∀ (j : Nat) (u : UInt8), l[j]? = some u → w.cell? ⟨g, off + j, none⟩ = some (.int .u8 (u.toNat : Int))) :
    Calls Try.prog 56 #[.slice (some ⟨g, off, none⟩) n c] w fun e w' => e = .returned (.int .u32 ((wordOf l : Nat) : Int)) ∧ w = w' := by
  have HC := Lib.hid hc; have HL := Lib.hid hl; clear hc hl
  go_enter Try.func56, Try.ntmps56
  go_wp2
  go_loop [3, 9] (WordRel l) (fun _ i => 4 - (intOf i).toNat)
  case atStart => exact ⟨0, by omega, rfl, rfl⟩
  case round =>
    obtain ⟨k, hk, rfl, rfl⟩ := hrel
    by_cases hk4 : k < 4
    · obtain ⟨u, hu⟩ : ∃ u, l[k]? = some u := ⟨_, List.getElem?_eq_getElem (by rw [HL.out]; exact hk4)⟩
      have cu := HC.out k u hu
      have hlt := wordOf_lt (l.take k)
      have hle : 256 ^ (l.take k).length ≤ 256 ^ 3 := Nat.pow_le_pow_right (by omega) (by rw [List.length_take]; omega)
      have h3 : 256 ^ 3 = 16777216 := by decide
      have hx : wordOf (l.take k) < 16777216 := by omega
      have hub : u.toNat < 256 := u.toNat_lt
      have hst := word_take hu
      have HST := Lib.hid hst
      clear hst hlt hle h3 hu
      generalize wordOf (l.take k) = x at *
      have hor := or_u32 x u.toNat hx hub
      have HOR := Lib.hid hor; clear hor
      go_wp2
      rw [HOR.out]
      exact ⟨⟨k + 1, by omega, by go_num, by rw [HST.out]⟩, by simp [intOf]; omega⟩
    · have hk4' : k = 4 := by omega
      subst hk4'
      have e : l.take 4 = l := List.take_of_length_le (by rw [HL.out]; omega)
      rw [e]
      go_wp2
      go_ret
      exact ⟨rfl, rfl⟩

set_option maxRecDepth 100000 in
set_option maxHeartbeats 400000 in
theorem half_any {w : World} {g off n c : Nat} {l : List UInt8} (hl : l.length = 2) (hn : 2 ≤ n) (hc : ∀ (j : Nat) (u : UInt8), l[j]? = some u → w.cell? ⟨g, off + j, none⟩ = some (.int .u8 (u.toNat : Int))) :
    Calls Try.prog 57 #[.slice (some ⟨g, off, none⟩) n c] w fun e w' => e = .returned (.int .i64 ((wordOf l : Nat) : Int)) ∧ ∃ m, w' = w.drewN m := by
  match l, hl with
  | [u, v], _ =>
    have c0 : w.cell? ⟨g, off, none⟩ = some (.int .u8 (u.toNat : Int)) := hc 0 u rfl
    have c1 : w.cell? ⟨g, off + 1, none⟩ = some (.int .u8 (v.toNat : Int)) := hc 1 v rfl
    have hub : u.toNat < 256 := u.toNat_lt
    have hvb : v.toNat < 256 := v.toNat_lt
    have hor := or_i64 u.toNat v.toNat hub hvb
    have HOR := Lib.hid hor; clear hor hc
    have hn1 : (1 : Int) < (n : Int) := by omega
    go_enter Try.func57, Try.ntmps57
    go_wp2
    go_quiet (fail)
    go_wp2
    go_ret
    refine ⟨?_, _, rfl⟩
    show Ending.returned (.int .i64 (bits .or .i64 ((u.toNat : Int) * 256) (v.toNat : Int))) = _
    rw [HOR.out]
    simp [wordOf]

end Go.Proofs.Ytidpleejgalljaa
