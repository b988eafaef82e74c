/-
  strings.ContainsFunc by the shelf's contract, laid at this program in plain words (after the kit's lay-plain tool); and the contract of regex.among.
-/
import Derived.Ground.GgwProg
import Derived.Shelf.GgClosure.StringsIndexFuncTop
import Derived.Laws.RangeString
import Derived.Test.YtnhlgjjdpappkaaRa
namespace Go.Proofs.Ytnhlgjjdpappkaa
open Go.RowKit Go.Shelf

def cfRen : Go.Shelf.Ren := ⟨fun | 17 => 58 | 15 => 62 | 20 => 63 | n => n, fun | 9 => 9 | 23 => 70 | 4 => 4 | 3 => 3 | 0 => 0 | 21 => 21 | n => n, fun | n => n⟩
theorem cfLays : Go.Proofs.LaysGw.n17 Try.prog cfRen := {
  mixed := by kernel_rfl
  f15 := Try.func62.trans (congrArg some (by kernel_rfl))
  f17 := Try.func58.trans (congrArg some (by kernel_rfl))
  f20 := Try.func63.trans (congrArg some (by kernel_rfl))
  t0 := Try.underlying0
  a0 := Try.isAgg0
  z0 := Try.sizeOf0
  v0 := Try.zeroValue0
  i0 := by kernel_rfl
  t3 := Try.underlying3
  a3 := Try.isAgg3
  z3 := Try.sizeOf3
  v3 := Try.zeroValue3
  i3 := by kernel_rfl
  t4 := Try.underlying4
  a4 := Try.isAgg4
  z4 := Try.sizeOf4
  v4 := Try.zeroValue4
  i4 := by kernel_rfl
  t9 := Try.underlying9
  a9 := Try.isAgg9
  z9 := Try.sizeOf9
  v9 := Try.zeroValue9
  i9 := by kernel_rfl
  t21 := Try.underlying21
  a21 := Try.isAgg21
  z21 := Try.sizeOf21
  v21 := Try.zeroValue21
  i21 := by kernel_rfl
  t23 := Try.underlying70
  a23 := Try.isAgg70
  z23 := Try.sizeOf70
  v23 := Try.zeroValue70
  i23 := by kernel_rfl }
theorem containsFunc_any (g : Nat) (lb : Array Value) (eg : ∀ args w, (callFunc g args).run Try.prog w = .ok (.enter g args) w) (p : Nat → Bool) (s : ByteArray) (w : World) (hp : PredAt Try.prog g lb encR p w) :
    Calls Try.prog 58 #[.string s, .func (.func g) #[] lb] w fun e w' => e = .returned (.bool (decide (0 ≤ Lib.idxFunc p true s))) ∧ Below w.heap.size w w' := Any.strings_ContainsFunc cfLays g lb eg p s w hp

theorem idxFrom_ascii (p : Nat → Bool) (s : ByteArray) (ha : ∀ k (h : k < s.size), (s[k]'h).toNat < 128) : ∀ (f pos : Nat), s.size ≤ pos + f →
    (0 ≤ Lib.idxFuncFrom p true s f pos ↔ ∃ k, ∃ h : k < s.size, pos ≤ k ∧ p (s[k]'h).toNat = true)
  | 0, pos, hf => by
    simp only [Lib.idxFuncFrom]
    exact ⟨fun h => absurd h (by omega), fun ⟨k, h, h1, _⟩ => by omega⟩
  | f + 1, pos, hf => by
    unfold Lib.idxFuncFrom
    by_cases hlt : pos < s.size
    · rw [if_pos hlt, decode_ascii s pos hlt (ha pos hlt)]
      by_cases hp : p (s[pos]'hlt).toNat = true
      · rw [if_pos hp]
        exact ⟨fun _ => ⟨pos, hlt, Nat.le_refl _, hp⟩, fun _ => by omega⟩
      · rw [if_neg hp, idxFrom_ascii p s ha f (pos + 1) (by omega)]
        constructor
        · rintro ⟨k, h, h1, h2⟩; exact ⟨k, h, by omega, h2⟩
        · rintro ⟨k, h, h1, h2⟩
          by_cases e : k = pos
          · subst e; exact absurd h2 hp
          · exact ⟨k, h, by omega, h2⟩
    · rw [if_neg hlt]
      exact ⟨fun h => absurd h (by omega), fun ⟨k, h, h1, _⟩ => by omega⟩

theorem enter_among1 (vs : Array Value) (w : World) : (callFunc 59 vs).run Try.prog w = .ok (.enter 59 vs) w := by kernel_rfl

theorem among1_any {W : World} {b : Nat} {c : Int} (x : Int) (hc : W.cell? ⟨b, 0, none⟩ = some (.int .i32 c)) : Calls Try.prog 59 #[.int .i32 x, .pointer (some ⟨b, 0, none⟩)] W fun e w' => e = .returned (.bool (x == c)) ∧ ∃ q, w' = W.drewN q := by
  go_enter Try.func59, Try.ntmps59
  go_wp2
  go_ret
  exact ⟨rfl, 0, rfl⟩

/-- A text's bytes as characters. -/
def strInts (s : ByteArray) : List Int := s.data.toList.map fun b => (b.toNat : Int)
theorem among_eq (s : ByteArray) (ha : ∀ k (h : k < s.size), (s[k]'h).toNat < 128) (c : Int) : decide (0 ≤ Lib.idxFunc (fun x : Nat => (x : Int) == c) true s) = amongB (strInts s) c := by
  unfold Lib.idxFunc amongB
  rw [decide_eq_decide, idxFrom_ascii _ s ha _ _ (by omega)]
  unfold strInts
  constructor
  · rintro ⟨k, h, _, h2⟩
    rw [List.mem_map]
    exact ⟨s[k]'h, by simp [ByteArray.getElem_eq_getElem_data], by simpa using h2⟩
  · intro h
    rw [List.mem_map] at h
    obtain ⟨b, hb, rfl⟩ := h
    obtain ⟨k, hk, rfl⟩ := List.mem_iff_getElem.1 hb
    exact ⟨k, by simpa using hk, Nat.zero_le _, by simp [ByteArray.getElem_eq_getElem_data]⟩

theorem among_any {w : World} (s : ByteArray) (ha : ∀ k (h : k < s.size), (s[k]'h).toNat < 128) (c : Int) (hc : 0 ≤ c) : Calls Try.prog 55 #[.string s, .int .i32 c] w fun e w' => e = .returned (.bool (amongB (strInts s) c)) ∧ Fr [] w w' := by
  have e0 : decide (0 ≤ c) = true := by simpa using hc
  have hmf : ∀ (fn : Fn) (first cap : Array Value) (w : World), (Instr.makeFunc fn first cap).run Try.prog w = .ok (.func fn first cap) w := fun _ _ _ _ => rfl
  have HE := Lib.hid (among_eq s ha c)
  clear ha
  go_enter Try.func55, Try.ntmps55
  go_wp2_with fail
  refine (containsFunc_any 59 _ enter_among1 (fun x : Nat => (x : Int) == c) s _ ?_).mono ?_
  · intro W x hW
    have hcell : W.cell? ⟨w.heap.size, 0, none⟩ = some (.int .i32 c) := by
      rw [hW.cell (p := ⟨w.heap.size, 0, none⟩) (by simp)]; go_simp
    exact among1_any (x : Int) hcell
  · rintro e w1 ⟨rfl, hb⟩
    rw [HE.out]
    have HF : Hid (Fr [] w w1) := Lib.hid ((((Fr.refl [] w).alloc _)).trans (Fr.of_below hb []) (by simp))
    clear hb
    go_wp2
    go_ret
    exact ⟨rfl, HF.out⟩

end Go.Proofs.Ytnhlgjjdpappkaa
