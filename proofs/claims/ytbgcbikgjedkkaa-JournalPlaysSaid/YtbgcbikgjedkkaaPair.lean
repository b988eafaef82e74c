/-
  Two things of the call's own side by side: what one of them does leaves the other as it was.
-/
import Derived.Test.YtbgcbikgjedkkaaBase
namespace Go.Proofs.Ytbgcbikgjedkkaa
open Go.RowKit

/-- A thing in memory: said of a world and of the blocks that it lies in. -/
abbrev Thing := World → List Nat → Prop
structure Loc (A : Thing) : Prop where
  fr : ∀ {S f : List Nat} {w w' : World}, A w f → Fr S w w' → (∀ k ∈ f, k ∉ S) → A w' f
  lt : ∀ {f : List Nat} {w : World}, A w f → ∀ k ∈ f, k < w.heap.size
/-- What an operation on a thing leaves. -/
def Step (A : Thing) (w w' : World) (f : List Nat) : Prop := ∃ f', A w' f' ∧ Fr f w w' ∧ ∀ k ∈ f', k ∈ f ∨ w.heap.size ≤ k

structure Two (A B : Thing) (w0 w : World) (fa fb : List Nat) : Prop where
  a : A w fa
  b : B w fb
  dis : ∀ k ∈ fa, k ∉ fb
  la : ∀ k ∈ fa, w0.heap.size ≤ k
  lb : ∀ k ∈ fb, w0.heap.size ≤ k
  f : Fr [] w0 w
section
variable {A B A' B' : Thing} {w0 w w' : World} {fa fb : List Nat}
theorem Two.swap (h : Two A B w0 w fa fb) : Two B A w0 w fb fa := ⟨h.b, h.a, fun k hk hm => h.dis k hm hk, h.lb, h.la, h.f⟩
theorem Two.fr (h : Two A B w0 w fa fb) (ha : Loc A) (hb : Loc B) (hf : Fr [] w w') : Two A B w0 w' fa fb :=
  ⟨ha.fr h.a hf (by simp), hb.fr h.b hf (by simp), h.dis, h.la, h.lb, h.f.trans hf (by simp)⟩
theorem Two.step1 (h : Two A B w0 w fa fb) (hb : Loc B) (hs : Step A' w w' fa) : ∃ fa', Two A' B w0 w' fa' fb := by
  obtain ⟨f', h1, hf, hn⟩ := hs
  have hz := h.f.size
  refine ⟨f', h1, hb.fr h.b hf (fun k hk hm => h.dis k hm hk), fun k hk hm => ?_, fun k hk => ?_, h.lb, h.f.trans hf (fun x hx => .inr (h.la x hx))⟩
  · rcases hn k hk with h' | h'
    · exact h.dis k h' hm
    · have := hb.lt h.b k hm; omega
  · rcases hn k hk with h' | h'
    · exact h.la k h'
    · omega
theorem Two.step2 (h : Two A B w0 w fa fb) (ha : Loc A) (hs : Step B' w w' fb) : ∃ fb', Two A B' w0 w' fa fb' := by
  obtain ⟨f, h'⟩ := h.swap.step1 ha hs
  exact ⟨f, h'.swap⟩
end

end Go.Proofs.Ytbgcbikgjedkkaa
