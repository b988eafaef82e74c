/-
  A region that draws its order, brought to one order: operations that only read come first, under a condition S on the world; the others follow in the one order that their edges leave. S is asked anew only behind an operation that a reading one does not have to wait for.
-/
import Derived.Test.YtidpleejgalljaaBase
import Derived.OrdersHeld
import Derived.RegionTactic
namespace Go.Proofs.Ytidpleejgalljaa
open Go.RowKit

/-- Is there one of I, other than j, for which j does not wait? -/
def crosses (md : Region.Mode) (ops : Array Oper) (I : List Nat) (j : Nat) : Bool :=
  I.any fun i => i != j && (match ops[j]? with | some o => o.after.all fun e => !(Region.binds md e && e.on == i) | none => false)

section
variable {P : Program} {ops : Array Oper} {Q : Exit → Act → World → Prop} {md : Region.Mode} {S : World → Prop} {I : List Nat}

def wpAnyK (P : Program) (md : Region.Mode) (ops : Array Oper) (Q : Exit → Act → World → Prop) (S : World → Prop) (I : List Nat) : Nat → Array Bool → Act → World → Prop
  | 0, listed, a, w => Region.ready md ops listed = [] ∧ Q .normal a w
  | fuel + 1, listed, a, w =>
    (Region.ready md ops listed = [] → Q .normal a w) ∧
    ∀ i ∈ Region.ready md ops listed, wpOp P ops Q i (fun a' w' => (crosses md ops I i = true → S w') ∧ wpAnyK P md ops Q S I fuel (listed.setIfInBounds i true) a' w') a w

theorem wpAny_of_K : ∀ (fuel : Nat) (listed : Array Bool) (a : Act) (w : World), wpAnyK P md ops Q S I fuel listed a w → wpAny P md ops Q fuel listed a w
  | 0, _, _, _, h => h
  | fuel + 1, _, _, _, h => ⟨h.1, fun i hi => wpOp_mono (fun a' w' h' => wpAny_of_K fuel _ a' w' h'.2) (h.2 i hi)⟩

theorem crosses_of {i j : Nat} {oj : Oper} (hI : i ∈ I) (hij : j ≠ i) (hoj : ops[j]? = some oj) (hnot : ∀ e ∈ oj.after, Region.binds md e = true → e.on ≠ i) : crosses md ops I j = true := by
  unfold crosses
  rw [List.any_eq_true]
  refine ⟨i, hI, ?_⟩
  rw [hoj]
  have h1 : (i != j) = true := by simpa using (Ne.symm hij)
  have h2 : (oj.after.all fun e => !(Region.binds md e && e.on == i)) = true := by
    rw [Array.all_eq_true_iff_forall_mem]
    intro e he
    have := hnot e he
    by_cases hb : Region.binds md e = true
    · simp [hb, this hb]
    · simp [hb]
  show (i != j && _) = true
  rw [h1, Bool.true_and]
  exact h2

theorem wpAnyK_first {i : Nat} {oi : Oper} {v : Value} (hI : i ∈ I) (hi : ops[i]? = some oi) (hsel : ∀ (j : Nat) (o : Oper) cs b, ops[j]? = some o → o.op ≠ .select cs b)
    (hQ : ∀ c a w, Q (.panic c) (a.put oi.dst v) w → Q (.panic c) a w) :
    ∀ (fuel : Nat) (listed : Array Bool) (a : Act) (w : World),
      (∀ j oj, ops[j]? = some oj → j ≠ i → listed.getD j true = false → (∀ e ∈ oj.after, Region.binds md e = true → e.on ≠ i) → oi.apart ops oj = true) →
      i ∈ Region.ready md ops listed → YieldsIf P ops S oi v a → S w →
      wpAnyK P md ops Q S I fuel (listed.setIfInBounds i true) (a.put oi.dst v) w → wpAnyK P md ops Q S I (fuel + 1) listed a w := by
  intro fuel
  induction fuel with
  | zero =>
    intro listed a w _ hr hy hS H
    refine ⟨fun h => (by rw [h] at hr; cases hr), fun j hj => ?_⟩
    by_cases hji : j = i
    · subst hji; exact hy.wpOp hi hS ⟨fun _ => hS, H⟩
    · have := ready_mono hj hji
      rw [H.1] at this
      cases this
  | succ fuel ih =>
    intro listed a w hfree hr hy hS H
    refine ⟨fun h => (by rw [h] at hr; cases hr), fun j hj => ?_⟩
    by_cases hji : j = i
    · subst hji; exact hy.wpOp hi hS ⟨fun _ => hS, H⟩
    · have h1 := H.2 j (ready_mono hj hji)
      obtain ⟨hjun, oj, hoj, hall⟩ := mem_ready.1 hj
      have hnot : ∀ e ∈ oj.after, Region.binds md e = true → e.on ≠ i := fun e he hb heq => by
        have h1 := hall e he hb
        have h0 := (mem_ready.1 hr).1
        rw [heq] at h1
        rcases Nat.lt_or_ge i listed.size with h' | h'
        · simp [h'] at h0 h1; rw [h0] at h1; cases h1
        · simp [Array.getElem?_eq_none h'] at h1
      have hcr : crosses md ops I j = true := crosses_of hI hji hoj hnot
      have h2 := wpOp_putIf hoj (hfree j oj hoj hji hjun hnot) (fun cs b => hsel i oi cs b hi) (fun cs b => hsel j oj cs b hoj) hQ hy h1
      have hfree' : ∀ k ok, ops[k]? = some ok → k ≠ i → (listed.setIfInBounds j true).getD k true = false →
          (∀ e ∈ ok.after, Region.binds md e = true → e.on ≠ i) → oi.apart ops ok = true := fun k ok hk hki hun hno => by
        refine hfree k ok hk hki ?_ hno
        by_cases hjk : j = k
        · subst hjk; exact hjun
        · rw [getD_set_ne true hjk] at hun; exact hun
      refine wpOp_mono (fun a' w' h3 => ⟨fun _ => h3.2.1 hcr, ih (listed.setIfInBounds j true) a' w' hfree' (ready_mono hr (Ne.symm hji)) h3.1 (h3.2.1 hcr) ?_⟩) h2
      rw [Array.setIfInBounds_comm _ _ hji]
      exact h3.2.2

/-- Take number i first. -/
theorem wpAnyK_take {i : Nat} (d : Option Tmp) (v : Value) {oi : Oper} {fuel : Nat} {listed : Array Bool} {a : Act} {w : World} (hi : ops[i]? = some oi) (hd : oi.dst = d)
    (hs : (Region.noSelect ops && Region.free md ops listed i && (Region.ready md ops listed).contains i && I.contains i) = true)
    (hQ : ∀ c a w, Q (.panic c) (a.put d v) w → Q (.panic c) a w) (hS : S w) (hy : YieldsIf P ops S oi v a)
    (h : wpAnyK P md ops Q S I fuel (listed.setIfInBounds i true) (a.put d v) w) : wpAnyK P md ops Q S I (fuel + 1) listed a w := by
  subst hd
  simp only [Bool.and_eq_true] at hs
  obtain ⟨⟨⟨h1, h2⟩, h3⟩, h4⟩ := hs
  exact wpAnyK_first (by simpa using h4) hi (Region.noSelect_spec h1) hQ fuel listed a w (Region.free_spec hi h2) (by simpa using h3) hy hS h

/-- The one operation that may come up: what follows it, and S anew where a reading one may come behind it. -/
theorem wpAnyK_step {j : Nat} (d : Option Tmp) {o : Oper} {fuel : Nat} {listed : Array Bool} {a : Act} {w : World} (ho : ops[j]? = some o) (hd : o.dst = d) (hr : Region.ready md ops listed = [j]) (hg : o.guard = none)
    (h : ∀ K : Act → World → Prop, (∀ v w', (crosses md ops I j = true → S w') → wpAnyK P md ops Q S I fuel (listed.setIfInBounds j true) (a.put d v) w' → K (a.put o.dst v) w') → Oper.wp P o a w K Q) :
    wpAnyK P md ops Q S I (fuel + 1) listed a w := by
  subst hd
  refine ⟨fun h0 => absurd (hr ▸ h0) (by simp), fun i hi => ?_⟩
  rw [hr] at hi
  obtain rfl : i = j := by simpa using hi
  refine wpOp_step ho fun K hK => ?_
  rw [if_pos (by simp [Region.wanted, hg])]
  exact h K (fun v w' h1 h2 => hK _ w' ⟨h1, h2⟩)

theorem wpAnyK_done {listed : Array Bool} {a : Act} {w : World} (hr : Region.ready md ops listed = []) (h : Q .normal a w) : ∀ fuel, wpAnyK P md ops Q S I fuel listed a w
  | 0 => ⟨hr, h⟩
  | _ + 1 => ⟨fun _ => h, by rw [hr]; simp⟩

theorem wp_region_K (S : World → Prop) (I : List Nat) {id : Nat} {a : Act} {w : World} (hm : P.follows .mixedOrders = true)
    (h : wpAnyK P .any ops Q S I ops.size (Array.replicate ops.size false) a w.drew) : (Code.region id ops true).wp P Q a w :=
  wp_region_any hm (wpAny_of_K _ _ _ _ h)
end

end Go.Proofs.Ytidpleejgalljaa
