/-
  The contract of here.
-/
import Derived.Test.YtnhlgjjdpappkaaCa
namespace Go.Proofs.Ytnhlgjjdpappkaa
open Go.RowKit

def Rop.goto_ : Rop → Nat → Rop
  | .fork _, t => .fork t
  | .leap _, t => .leap t
  | o, _ => o
def Rop.jumps : Rop → Prop
  | .fork _ => True
  | .leap _ => True
  | _ => False
theorem flat_set {α : Type} {k : Nat} : ∀ (css : List (List α)), (∀ cs ∈ css, cs.length = k) → ∀ (i : Nat) (cs : List α), css[i]? = some cs → ∀ (j : Nat) (u : α), j < k → (css.set i (cs.set j u)).flatten = css.flatten.set (i * k + j) u
  | [], _, i, cs, h, _, _, _ => by simp at h
  | c :: css, hk, 0, cs, h, j, u, hj => by
    simp only [List.getElem?_cons_zero, Option.some.injEq] at h
    subst h
    have hc := hk c (by simp)
    rw [List.set_cons_zero, List.flatten_cons, List.flatten_cons, Nat.zero_mul, Nat.zero_add, List.set_append, if_pos (by omega)]
  | c :: css, hk, i + 1, cs, h, j, u, hj => by
    have hc := hk c (by simp)
    rw [List.getElem?_cons_succ] at h
    have := flat_set css (fun x hx => hk x (List.mem_cons_of_mem _ hx)) i cs h j u hj
    rw [List.set_cons_succ, List.flatten_cons, List.flatten_cons, this, List.set_append, if_neg (by rw [hc, Nat.succ_mul]; omega), hc, show (i + 1) * k + j - k = i * k + j by rw [Nat.succ_mul]; omega]
theorem own_set {w : World} {base : Nat} {e : TypeId} {size n : Nat} {g cap : Nat} {xs : List Value} (h : w.ownsRow base e size (.slice (some ⟨g, 0, none⟩) n cap) n xs) (j : Nat) (u : Value) (hj : j < xs.length) :
    (w.setCell ⟨g, j, none⟩ u).ownsRow base e size (.slice (some ⟨g, 0, none⟩) n cap) n (xs.set j u) := by
  refine ⟨by rw [List.length_set]; exact h.1, ?_⟩
  rcases h.2 with ⟨hv, _⟩ | ⟨g', cap', cur, hv, hb, hh, hn, hc, hs, ht⟩
  · cases hv
  · injection hv with h1 h2 h3
    simp only [Option.some.injEq, Addr.mk.injEq] at h1
    obtain ⟨rfl, _⟩ := h1
    subst h3
    refine .inr ⟨g, cap, cur.setIfInBounds j u, rfl, hb, ?_, hn, hc, by simpa using hs, ?_⟩
    · simp [World.setCell, Array.getElem?_modify, hh]
    · rw [← ht, Array.toList_setIfInBounds, List.take_set]
theorem own_free {w : World} {base : Nat} {e : TypeId} {size n : Nat} {g cap : Nat} {xs : List Value} (h : w.ownsRow base e size (.slice (some ⟨g, 0, none⟩) n cap) n xs) (j : Nat) : w.frozen? ⟨g, j, none⟩ = false := by
  rcases h.2 with ⟨hv, _⟩ | ⟨g', cap', cur, hv, hb, hh, hn, hc, hs, ht⟩
  · cases hv
  · injection hv with h1 h2 h3
    simp only [Option.some.injEq, Addr.mk.injEq] at h1
    obtain ⟨rfl, _⟩ := h1
    simp [World.frozen?, hh]

theorem here_any {w : World} {gp B : Nat} {v : Value} {ops : List Rop} {at_ : Nat} {o : Rop} (h : CP w gp B v ops) (ho : ops[at_]? = some o) (hj : o.jumps) (hn : ops.length < 100000) :
    Calls Try.prog 43 #[.pointer (some ⟨gp, 0, none⟩), .int .i64 (at_ : Int)] w fun e w' => e = .returned (.tuple #[]) ∧ CP w' gp B v (ops.set at_ (o.goto_ ops.length)) ∧ CStep w w' gp v v := by
  refine calls_post fun R HQ => ?_
  have HH := Lib.hid h
  obtain ⟨css, hcl, hown, hel⟩ := h.ex
  have hat : at_ < ops.length := (List.getElem?_eq_some_iff.1 ho).1
  obtain ⟨A, c, rfl⟩ := h.slice
  obtain ⟨g, rfl, hcell⟩ := own_cell hown (by omega)
  obtain ⟨cs, hcs⟩ : ∃ cs, css[at_]? = some cs := ⟨_, List.getElem?_eq_getElem (by omega)⟩
  have hoa := hel at_ o cs ho hcs
  have h4 : ∀ x ∈ css, x.length = 4 := fun x hx => by
    obtain ⟨i, hi, rfl⟩ := List.mem_iff_getElem.1 hx
    exact (hel i _ _ (List.getElem?_eq_getElem (by omega)) (List.getElem?_eq_getElem hi)).len
  have b0 := h.blk.at_ (i := 0) rfl
  have hfree := own_free hown (at_ * 4 + 3)
  have hc3 : w.cell? ⟨g, at_ * 4 + 3, none⟩ = cs[3]? := by
    have hl := hoa.len
    obtain ⟨u, hu⟩ : ∃ u, cs[3]? = some u := ⟨_, List.getElem?_eq_getElem (by omega)⟩
    rw [hu]
    refine hcell _ u ?_
    have := flat_get (k := 4) css h4 at_ cs hcs 3 (by omega)
    rw [show at_ * 4 + 3 = 4 * at_ + 3 by omega, this]; exact hu
  obtain ⟨u3, hu3⟩ : ∃ u, cs[3]? = some u := ⟨_, List.getElem?_eq_getElem (by have := hoa.len; omega)⟩
  rw [hu3] at hc3
  have hno := h.own g rfl
  have HFIN : Hid (CP (w.setCell ⟨g, at_ * 4 + 3, none⟩ (.int .i64 (ops.length : Int))) gp B (.slice (some ⟨g, 0, none⟩) ops.length c) (ops.set at_ (o.goto_ ops.length)) ∧ CStep w (w.setCell ⟨g, at_ * 4 + 3, none⟩ (.int .i64 (ops.length : Int))) gp (.slice (some ⟨g, 0, none⟩) ops.length c) (.slice (some ⟨g, 0, none⟩) ops.length c)) := Lib.hid (by
    have hf : Fr [g] w (w.setCell ⟨g, at_ * 4 + 3, none⟩ (.int .i64 (ops.length : Int))) := (Fr.refl _ _).setCell (.inl (by simp)) _
    have hset := own_set hown (at_ * 4 + 3) (.int .i64 (ops.length : Int)) (by rw [hown.1]; omega)
    rw [← flat_set css h4 at_ cs hcs 3 _ (by omega)] at hset
    refine ⟨⟨h.blk.fr hf (by simpa using (Ne.symm hno.2)), h.lo, ⟨css.set at_ (cs.set 3 (.int .i64 (ops.length : Int))), by simp [hcl], by rw [List.length_set]; exact hset, fun i o' cs' h1 h2 => ?_⟩, h.own⟩, ⟨hf.mono (fun x hx => .inl (by simp at hx; simp [hx, Value.ownBlock])), fun g hg => .inl hg⟩⟩
    by_cases hi : i = at_
    · subst hi
      rw [List.getElem?_set_self (by omega)] at h1 h2
      simp only [Option.some.injEq] at h1 h2
      subst h1 h2
      cases o with
      | take neg set => exact hj.elim
      | done => exact hj.elim
      | fork t => unfold OpAt at hoa; subst hoa; rfl
      | leap t => unfold OpAt at hoa; subst hoa; rfl
    · rw [List.getElem?_set_ne (Ne.symm hi)] at h1 h2
      exact (hel i o' cs' h1 h2).fr hf (by simpa using hno.1))
  have d0 : decide ((at_ : Int) < (ops.length : Int)) = true := by rw [decide_eq_true_eq]; omega
  have hne : ¬ g = gp := hno.2
  have hne' : ¬ gp = g := fun e => hno.2 e.symm
  clear hcell hoa h4 hcs hel hown hcl ho hj hno hu3 h
  generalize ops.length = n at *
  go_enter Try.func43, Try.ntmps43
  go_region
  go_wp2_with fail
  exact bodyPost_end (results_none rfl _ _ _) rfl (HQ.out _ _ ⟨rfl, HFIN.out.1.frn ((Fr.refl [] _).drew), HFIN.out.2.fr ((Fr.refl [] _).drew)⟩)

end Go.Proofs.Ytnhlgjjdpappkaa
