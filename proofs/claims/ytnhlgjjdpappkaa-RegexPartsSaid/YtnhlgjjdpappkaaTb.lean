/-
  Thompson's theorem: a pattern's program takes the pattern's language. No program in sight.
-/
import Derived.Test.YtnhlgjjdpappkaaTa
import Derived.Test.YtnhlgjjdpappkaaRo
namespace Go.Proofs.Ytnhlgjjdpappkaa
open Go.RowKit

/-- The ops that begin at a place. -/
def Lies (ops : List Rop) (b : Nat) (c : List Rop) : Prop := ∀ i o, c[i]? = some o → ops[b + i]? = some o
theorem Lies.left {ops : List Rop} {b : Nat} {c d : List Rop} (h : Lies ops b (c ++ d)) : Lies ops b c := fun i o ho => by
  refine h i o ?_
  have : i < c.length := (List.getElem?_eq_some_iff.1 ho).1
  rw [List.getElem?_append_left this]; exact ho
theorem Lies.right {ops : List Rop} {b n : Nat} {c d : List Rop} (h : Lies ops b (c ++ d)) (hn : c.length = n) : Lies ops (b + n) d := fun i o ho => by
  subst hn
  have := h (c.length + i) o (by rw [List.getElem?_append_right (by omega)]; simpa using ho)
  rwa [Nat.add_assoc]
theorem Lies.head {ops : List Rop} {b : Nat} {x : Rop} {c : List Rop} (h : Lies ops b (x :: c)) : ops[b]? = some x := h 0 x rfl
theorem Lies.tail {ops : List Rop} {b : Nat} {x : Rop} {c : List Rop} (h : Lies ops b (x :: c)) : Lies ops (b + 1) c := fun i o ho => by
  have := h (i + 1) o (by simpa using ho)
  rwa [show b + 1 + i = b + (i + 1) by omega]

section
variable {ops : List Rop} {M len : Nat} {f : Nat → List Rop} {A : List Int → Prop} (hlen : ∀ b, (f b).length = len) (hf : ∀ b, Lies ops b (f b) → Frag ops M b (b + len) A)
include hlen hf
theorem rep_frag : ∀ (n b : Nat), Lies ops b (repCode f len n b) → Frag ops M b (b + n * len) (Pow A n)
  | 0, b, _ => by rw [Nat.zero_mul]; exact Frag.nil
  | n + 1, b, h => by
    rw [repCode] at h
    have := (hf b h.left).seq (rep_frag n (b + len) (h.right (hlen b)))
    rw [show b + len + n * len = b + (n + 1) * len by rw [Nat.succ_mul]; omega] at this
    exact this
theorem may_frag : ∀ (n b e : Nat), e = b + n * (1 + len) → Lies ops b (mayCode f len n b e) → Frag ops M b e (Upto A n)
  | 0, b, e, he, _ => by rw [Nat.zero_mul] at he; subst he; exact Frag.nil
  | n + 1, b, e, he, h => by
    rw [mayCode] at h
    have := h.tail.right (hlen (b + 1))
    exact Frag.may h.head (hf (b + 1) h.tail.left) (may_frag n (b + 1 + len) e (by rw [he, Nat.succ_mul]; omega) this)
theorem star_frag (b : Nat) (h : Lies ops b (starCode f len b)) : Frag ops M b (b + (len + 2)) (Star A) := by
  unfold starCode at h
  have h1 := h.head
  have h2 := (h.tail.right (hlen (b + 1))).head
  have := Frag.star (m := b + 1 + len) (by rw [h1]; congr 2; omega) (hf (b + 1) h.tail.left) h2
  rwa [show b + 1 + len + 1 = b + (len + 2) by omega] at this
end

mutual
theorem Pt.frag {ops : List Rop} : ∀ (p : Pt) (b : Nat), p.ok → Lies ops b (p.code b) → Frag ops 1000 b (b + p.len) (Lang p)
  | .char neg set, b, ho, h => by
    unfold Pt.ok at ho
    rw [Pt.code] at h
    exact (Frag.char h.head ho).cong fun l => by rw [Lang]
  | .row x, b, ho, h => by
    unfold Pt.ok at ho
    rw [Pt.code] at h
    rw [Pt.len]
    exact (row_frag x b ho.2 h).cong fun l => by rw [Lang]
  | .pick x, b, ho, h => by
    unfold Pt.ok at ho
    rw [Pt.code] at h
    rw [Pt.len]
    exact (pick_frag x b _ ho.1 ho.2.2 rfl h).cong fun l => by rw [Lang]
  | .star p, b, ho, h => by
    unfold Pt.ok at ho
    rw [Pt.code] at h
    rw [Pt.len]
    exact (star_frag p.code_len (fun b hb => p.frag b ho.1 hb) b h).cong fun l => by rw [Lang]
  | .plus p, b, ho, h => by
    unfold Pt.ok at ho
    rw [Pt.code] at h
    rw [Pt.len]
    exact (Frag.plus (p.frag b ho.1 h.left) (h.right (p.code_len b)).head).cong fun l => by rw [Lang]
  | .maybe p, b, ho, h => by
    unfold Pt.ok at ho
    rw [Pt.code] at h
    rw [Pt.len]
    have := may_frag p.code_len (fun b hb => p.frag b ho.1 hb) 1 b _ rfl h
    rw [Nat.one_mul] at this
    exact this.cong fun l => by rw [Lang]
  | .times p n none, b, ho, h => by
    unfold Pt.ok at ho
    rw [Pt.code] at h
    rw [Pt.len]
    have hf : ∀ b, Lies ops b (p.code b) → Frag ops 1000 b (b + p.len) (Lang p) := fun b hb => p.frag b ho.1 hb
    have := (rep_frag p.code_len hf n b h.left).seq (star_frag p.code_len hf _ (h.right (repCode_len p.code_len n b)))
    rw [Nat.add_assoc] at this
    exact this.cong fun l => by rw [Lang]
  | .times p n (some m), b, ho, h => by
    unfold Pt.ok at ho
    rw [Pt.code] at h
    rw [Pt.len]
    have hf : ∀ b, Lies ops b (p.code b) → Frag ops 1000 b (b + p.len) (Lang p) := fun b hb => p.frag b ho.1 hb
    have := (rep_frag p.code_len hf n b h.left).seq (may_frag p.code_len hf _ _ _ rfl (h.right (repCode_len p.code_len n b)))
    rw [Nat.add_assoc] at this
    exact this.cong fun l => by rw [Lang]
theorem row_frag {ops : List Rop} : ∀ (x : List Pt) (b : Nat), allOk x → Lies ops b (rowCode x b) → Frag ops 1000 b (b + rowLen x) (LangRow x)
  | [], b, _, _ => by unfold rowLen; exact Frag.nil.cong fun l => by rw [LangRow]
  | p :: x, b, ho, h => by
    unfold allOk at ho
    unfold rowCode at h
    unfold rowLen
    have := (p.frag b ho.1 h.left).seq (row_frag x (b + p.len) ho.2 (h.right (p.code_len b)))
    rw [Nat.add_assoc] at this
    exact this.cong fun l => by rw [LangRow]
theorem pick_frag {ops : List Rop} : ∀ (x : List Pt) (b e : Nat), 1 ≤ x.length → allOk x → e = b + pickLen x → Lies ops b (pickCode x b e) → Frag ops 1000 b e (LangPick x)
  | [], b, e, h1, _, _, _ => by simp at h1
  | p :: x, b, e, h1, ho, he, h => by
    unfold allOk at ho
    unfold pickCode at h
    unfold pickLen at he
    cases x with
    | nil =>
      simp only [List.isEmpty_nil, if_true] at h he
      subst he
      exact (p.frag b ho.1 h).cong fun l => by simp [LangPick]
    | cons q x =>
      simp only [List.isEmpty_cons, Bool.false_eq_true, if_false] at h he
      have h2 := h.tail.right (p.code_len (b + 1))
      refine (Frag.pick (m := b + 1 + p.len) h.head (p.frag (b + 1) ho.1 h.tail.left) h2.head (pick_frag (q :: x) (b + 1 + p.len + 1) e (by simp) ho.2 (by omega) h2.tail)).cong fun l => by rw [LangPick]
end

end Go.Proofs.Ytnhlgjjdpappkaa
