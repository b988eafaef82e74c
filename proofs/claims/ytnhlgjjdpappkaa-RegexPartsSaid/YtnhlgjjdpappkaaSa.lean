/-
  The contract of has.
-/
import Derived.Test.YtnhlgjjdpappkaaCi
namespace Go.Proofs.Ytnhlgjjdpappkaa
open Go.RowKit

def inSp (c : Int) (x : Sp) : Bool := decide (x.lo ≤ c ∧ c ≤ x.hi)
def hasB (neg : Bool) (set : List Sp) (c : Int) : Bool := if set.any (inSp c) then !neg else neg
theorem spCells_get {l : List Sp} {k : Nat} {x : Sp} (h : l[k]? = some x) : (spCells l)[k * 2]? = some (R32 x.lo) ∧ (spCells l)[k * 2 + 1]? = some (R32 x.hi) := by
  induction l generalizing k with
  | nil => simp at h
  | cons y l ih =>
    cases k with
    | zero => simp at h; subst h; exact ⟨rfl, rfl⟩
    | succ k =>
      rw [spCells_cons, show (k + 1) * 2 = k * 2 + 1 + 1 by omega, show k * 2 + 1 + 1 + 1 = (k * 2 + 1) + 1 + 1 by omega]
      simp only [List.getElem?_cons_succ]
      exact ih (by simpa using h)
def HsRel (w : World) (bx : List Value) (set : List Sp) (c : Int) (j : Nat) (v10 : Value) (wr : World) : Prop :=
  ∃ k : Nat, k + j = set.length ∧ v10 = .int .i64 (k : Int) ∧ Blk wr w.heap.size 52 bx ∧ Fr [] w wr ∧ ∀ i x, i < k → set[i]? = some x → inSp c x = false
set_option maxRecDepth 100000 in
theorem has_any {w : World} {K : Nat} {neg : Bool} {set : List Sp} {cs : List Value} {c : Int} (h : OpAt w K (.take neg set) cs) (hl : set.length ≤ 1000000) : Calls Try.prog 37 #[.agg cs.toArray, .int .i32 c] w fun e w' => e = .returned (.bool (hasB neg set c)) ∧ Fr [] w w' := by
  refine calls_post fun R HQ => ?_
  obtain ⟨sv, rfl, g, ⟨A, cc, off, rfl, hcc, hb⟩, hg⟩ := h
  have HB := Lib.hid hb
  have HBX := Lib.hid (Blk.new w 52 [.int .i64 0, .bool neg, .slice A set.length cc, .int .i64 0])
  have HFA := Lib.hid ((Fr.refl [] w).alloc (.cells #[.int .i64 0, .bool neg, .slice A set.length cc, .int .i64 0] 52))
  clear hb hg
  obtain ⟨n, hn⟩ : ∃ n, n = set.length := ⟨_, rfl⟩
  rw [← hn] at hcc HBX HFA hl ⊢
  have HN := Lib.hid hn
  clear hn
  go_enter Try.func37, Try.ntmps37
  go_wp2_with fail
  go_loopg [10] n (HsRel w [.int .i64 0, .bool neg, .slice A n cc, .int .i64 0] set c)
  case atStart => exact ⟨0, by rw [← HN.out]; omega, rfl, HBX.out, HFA.out, fun i x h => absurd h (by omega)⟩
  case round =>
    obtain ⟨k, hk, rfl, hbx, hf, hno⟩ := hrel
    rw [← HN.out] at hk
    have HBK := Lib.hid hbx; have HF := Lib.hid hf; have HNO := Lib.hid hno
    have hlw := hbx.lt
    clear hbx hf hno HBX HFA
    have b1 := HBK.out.at_ (i := 1) rfl
    by_cases hkn : k < n
    · obtain ⟨x, hx⟩ : ∃ x, set[k]? = some x := ⟨_, List.getElem?_eq_getElem (by rw [← HN.out]; exact hkn)⟩
      obtain ⟨rfl, hcell⟩ := HB.out (by rw [← HN.out]; omega)
      obtain ⟨g1, g2⟩ := spCells_get hx
      have s0 : wr.cell? ⟨g, off + k * 2, none⟩ = some (.int .i32 x.lo) := HF.out.cell_at (by simp) (hcell _ _ g1)
      have s1 : wr.cell? ⟨g, off + k * 2 + 1, none⟩ = some (.int .i32 x.hi) := HF.out.cell_at (by simp) (by have := hcell _ _ g2; rwa [← Nat.add_assoc] at this)
      have HXX := Lib.hid hx
      clear hx hcell g1 g2
      have HIN : ∀ b, inSp c x = b → Hid (inSp c x = b) := fun b h => Lib.hid h
      by_cases h1 : x.lo ≤ c
      · by_cases h2 : c ≤ x.hi
        · have HY : Hid (hasB neg set c = !neg) := Lib.hid (by unfold hasB; rw [if_pos (by rw [List.any_eq_true]; exact ⟨x, List.mem_of_getElem? HXX.out, by unfold inSp; rw [decide_eq_true_eq]; exact ⟨h1, h2⟩⟩)])
          clear HIN
          go_wp2_with fail
          exact HQ.out _ _ ⟨by rw [HY.out], HF.out.alloc _⟩
        · have HX : Hid (inSp c x = false) := Lib.hid (by unfold inSp; rw [decide_eq_false_iff_not]; omega)
          have HNO2 : Hid (∀ i y, i < k + 1 → set[i]? = some y → inSp c y = false) := Lib.hid fun i y hi hy => by
            by_cases e : i = k
            · subst e
              have := HXX.out
              rw [hy] at this
              injection this with this
              rw [this]; exact HX.out
            · exact HNO.out i y (by omega) hy
          clear HIN
          go_wp2_with fail
          go_roundg (gk - 1)
          case measure => omega
          case rel => exact ⟨k + 1, by rw [← HN.out]; omega, by go_num, HBK.out.alloc _, HF.out.alloc _, HNO2.out⟩
      · have HX : Hid (inSp c x = false) := Lib.hid (by unfold inSp; rw [decide_eq_false_iff_not]; omega)
        have HNO2 : Hid (∀ i y, i < k + 1 → set[i]? = some y → inSp c y = false) := Lib.hid fun i y hi hy => by
          by_cases e : i = k
          · subst e
            have := HXX.out
            rw [hy] at this
            injection this with this
            rw [this]; exact HX.out
          · exact HNO.out i y (by omega) hy
        clear HIN
        go_wp2_with fail
        go_roundg (gk - 1)
        case measure => omega
        case rel => exact ⟨k + 1, by rw [← HN.out]; omega, by go_num, HBK.out.alloc _, HF.out.alloc _, HNO2.out⟩
    · have HY : Hid (hasB neg set c = neg) := Lib.hid (by
        unfold hasB
        rw [if_neg (by
          rw [List.any_eq_true]
          rintro ⟨x, hx, h⟩
          obtain ⟨i, hi, rfl⟩ := List.mem_iff_getElem.1 hx
          rw [HNO.out i _ (by rw [← HN.out] at hi; omega) (List.getElem?_eq_getElem hi)] at h
          cases h)])
      go_wp2_with fail
      exact HQ.out _ _ ⟨by rw [HY.out]; rfl, HF.out⟩

end Go.Proofs.Ytnhlgjjdpappkaa
