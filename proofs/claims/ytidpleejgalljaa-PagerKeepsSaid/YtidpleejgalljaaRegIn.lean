/-
  A region that draws its order, inside the round of a loop over a function, and inside the wide fence: by the laws of the plain walk.
-/
import Derived.Test.YtidpleejgalljaaRegion
import Derived.RangeFuncNested
import Derived.RangeFuncBound
import Derived.RangeFuncCalls
import Derived.RangeFuncLeaves
import Derived.RangeFuncBox
import Derived.Shelf.Abstract
import Derived.Shelf.RegionOpen
import Derived.WalkKit
import Derived.OwnWalkIn
import Derived.TacticsInMore
import Derived.LoopNIn
import Derived.LoopIn
import Derived.ControlIn
namespace Go.Proofs.Ytidpleejgalljaa
open Go.RowKit

section
variable {P : Program} {ops : Array Oper} {Q : Exit → Act → World → Prop} {md : Region.Mode} {S : World → Prop} {I : List Nat} {n l : Nat}

theorem rowsIn_round {row : String} {args : Array Value} {w : World} {R : Value → World → Prop} (h : Rows P row args w R) : RowsIn (Fence.wide.inRound l) n P row args w R :=
  fun c cs _ => let ⟨v, w', r, s⟩ := h c cs; ⟨v, w', r, stepsIn_wide.2 s⟩
theorem oper_round {o : Oper} {a : Act} {w : World} {next : Act → World → Prop} (hd : ∀ c, o.op ≠ .defer c) (h : o.wp P a w next Q) : o.wpIn (Fence.wide.inRound l) n P a w next Q := by
  refine ⟨fun _ _ => trivial, ?_⟩
  have e : o.semAt (Fence.wide.inRound l).round a.eval = execOp a.eval o := Oper.semAt_some l a.eval o hd
  rw [e]
  unfold Oper.wp at h
  generalize (execOp a.eval o).run P w = r at *
  cases r with
  | ok x w' =>
    cases x <;> simp only [Oper.upon, Oper.uponIn] at h ⊢ <;>
      first
        | exact h
        | exact ⟨fun hd => (by cases hd), callsIn_wide.2 h⟩
        | exact ⟨fun hd => (by cases hd), rowsIn_round h⟩
  | halt x w' => cases x <;> simp only [Oper.upon, Oper.uponIn] at h ⊢ <;> exact h
/-- No operation is a 'defer'. -/
def noDefer (ops : Array Oper) : Bool := ops.all fun o => match o.op with | .defer _ => false | _ => true
theorem noDefer_spec (h : noDefer ops = true) {i : Nat} {o : Oper} (ho : ops[i]? = some o) : ∀ c, o.op ≠ .defer c := by
  intro c hc
  unfold noDefer at h
  rw [Array.all_eq_true_iff_forall_mem] at h
  have := h o (Array.mem_of_getElem? ho)
  rw [hc] at this
  cases this
theorem wpAnyIn_round (hd : noDefer ops = true) (hq : ∀ a w, ¬Q .outgrown a w) : ∀ (fuel : Nat) (listed : Array Bool) (a : Act) (w : World), wpAny P md ops Q fuel listed a w → wpAnyIn (Fence.wide.inRound l) n P md ops Q fuel listed a w
  | 0, _, _, _, h => h
  | fuel + 1, listed, a, w, h => by
    refine ⟨h.1, fun i hi => ?_⟩
    have h1 := h.2 i hi
    unfold wpOp at h1
    unfold wpOpIn
    cases ho : ops[i]? with
    | none =>
      rw [ho] at h1
      exact wpAnyIn_round hd hq fuel _ _ _ h1
    | some o =>
      rw [ho] at h1
      simp only at h1 ⊢
      split
      · rename_i hw
        rw [if_pos hw] at h1
        rcases h1 with h1 | ⟨_, a', w', h1⟩
        · exact oper_round (noDefer_spec hd ho) (Oper.wp_mono (fun a w h => wpAnyIn_round hd hq fuel _ a w h) h1)
        · exact absurd h1 (hq _ _)
      · rename_i hw
        rw [if_neg hw] at h1
        exact ⟨fun _ _ => trivial, wpAnyIn_round hd hq fuel _ _ _ h1⟩
theorem wpAnyK_stepg {j : Nat} (d : Option Tmp) {o : Oper} {fuel : Nat} {listed : Array Bool} {a : Act} {w : World} (ho : ops[j]? = some o) (hd : o.dst = d) (hr : Region.ready md ops listed = [j]) (hg : Region.wanted o (yielded ops a.tmps) = true)
    (h : ∀ K : Act → World → Prop, (∀ v w', (crosses md ops I j = true → S w') → wpAnyK P md ops Q S I fuel (listed.setIfInBounds j true) (a.put d v) w' → K (a.put o.dst v) w') → Oper.wp P o a w K Q) :
    wpAnyK P md ops Q S I (fuel + 1) listed a w := by
  subst hd
  refine ⟨fun h0 => absurd (hr ▸ h0) (by simp), fun i hi => ?_⟩
  rw [hr] at hi
  obtain rfl : i = j := by simpa using hi
  refine wpOp_step ho fun K hK => ?_
  rw [if_pos hg]
  exact h K (fun v w' h1 h2 => hK _ w' ⟨h1, h2⟩)
theorem wpIn_region_KR (S : World → Prop) (I : List Nat) {id : Nat} {a : Act} {w : World} (hm : P.follows .mixedOrders = true) (hd : noDefer ops = true) (hq : ∀ a w, ¬Q .outgrown a w)
    (h : wpAnyK P .any ops Q S I ops.size (Array.replicate ops.size false) a w.drew) : (Code.region id ops true).wpIn (Fence.wide.inRound l) n P Q a w :=
  wpIn_region_any hm (wpAnyIn_round hd hq _ _ _ _ (wpAny_of_K _ _ _ _ h))
theorem wpIn_region_KW (S : World → Prop) (I : List Nat) {id : Nat} {a : Act} {w : World} (hm : P.follows .mixedOrders = true)
    (h : wpAnyK P .any ops Q S I ops.size (Array.replicate ops.size false) a w.drew) : (Code.region id ops true).wpIn Fence.wide n P Q a w :=
  wpIn_wide.2 (wp_region_K S I hm h)
end

end Go.Proofs.Ytidpleejgalljaa
