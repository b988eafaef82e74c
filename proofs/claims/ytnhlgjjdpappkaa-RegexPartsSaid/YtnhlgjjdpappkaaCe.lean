/-
  Branches laid one behind the other: lists of ops. No program in sight.
-/
import Derived.Test.YtnhlgjjdpappkaaRm
namespace Go.Proofs.Ytnhlgjjdpappkaa
open Go.RowKit

/-- The first k branches (none of them the last), their leaps still open. -/
def pickHead : List Pt → Nat → Nat → List Rop
  | _, 0, _ => []
  | [], _ + 1, _ => []
  | p :: l, k + 1, b => .fork (b + 1 + p.len + 1) :: (p.code (b + 1) ++ (.leap 0 :: pickHead l k (b + 1 + p.len + 1)))
def headLen : List Pt → Nat → Nat
  | _, 0 => 0
  | [], _ + 1 => 0
  | p :: l, k + 1 => 1 + p.len + 1 + headLen l k
theorem headLen_succ : ∀ {l : List Pt} {k : Nat} {p : Pt}, l[k]? = some p → headLen l (k + 1) = headLen l k + (1 + p.len + 1)
  | [], _, _, h => by simp at h
  | q :: l, 0, p, h => by simp at h; subst h; simp [headLen]
  | q :: l, k + 1, p, h => by
    rw [headLen, headLen_succ (l := l) (k := k) (by simpa using h), headLen]
    omega
theorem pickHead_len : ∀ (l : List Pt) (k b : Nat), (pickHead l k b).length = headLen l k
  | [], 0, _ => rfl
  | _ :: _, 0, _ => rfl
  | [], _ + 1, _ => rfl
  | p :: l, k + 1, b => by simp [pickHead, headLen, Pt.code_len, pickHead_len l k]; omega
theorem pickHead_snoc : ∀ {l : List Pt} {k : Nat} {p : Pt} (b : Nat), l[k]? = some p → pickHead l (k + 1) b = pickHead l k b ++ (.fork (b + headLen l k + 1 + p.len + 1) :: (p.code (b + headLen l k + 1) ++ [.leap 0]))
  | [], _, _, _, h => by simp at h
  | q :: l, 0, p, b, h => by simp at h; subst h; simp [pickHead, headLen]
  | q :: l, k + 1, p, b, h => by
    rw [pickHead, pickHead_snoc (l := l) (k := k) (b + 1 + q.len + 1) (by simpa using h), pickHead, headLen]
    simp only [List.cons_append, List.append_assoc]
    rw [show b + 1 + q.len + 1 + headLen l k = b + (1 + q.len + 1 + headLen l k) by omega]
/-- Branches; the first k leaps are led to e already. -/
def pickK : List Pt → Nat → Nat → Nat → List Rop
  | [], _, _, _ => []
  | p :: l, k, b, e => if l.isEmpty then p.code b else .fork (b + 1 + p.len + 1) :: (p.code (b + 1) ++ (.leap (if 0 < k then e else 0) :: pickK l (k - 1) (b + 1 + p.len + 1) e))
theorem isEmpty_false {α : Type} {l : List α} (h : 0 < l.length) : l.isEmpty = false := by cases l <;> simp_all
theorem pickK_all : ∀ (l : List Pt) (k b e : Nat), l.length ≤ k + 1 → pickK l k b e = pickCode l b e
  | [], _, _, _, _ => rfl
  | p :: l, k, b, e, h => by
    rw [pickK, pickCode]
    split
    · rfl
    · rename_i hl
      have h0 : 0 < l.length := by cases l <;> simp_all
      rw [if_pos (by simp at h; omega), pickK_all l (k - 1) _ _ (by simp at h; omega)]
theorem pickK_len : ∀ (l : List Pt) (k b e : Nat), (pickK l k b e).length = pickLen l
  | [], _, _, _ => rfl
  | p :: l, k, b, e => by
    rw [pickK, pickLen]
    split
    · exact p.code_len b
    · simp [Pt.code_len, pickK_len l]; omega
theorem pickK_none : ∀ (l : List Pt) (p : Pt) (b e : Nat), l[l.length - 1]? = some p → pickK l 0 b e = pickHead l (l.length - 1) b ++ p.code (b + headLen l (l.length - 1))
  | [], _, _, _, h => by simp at h
  | [q], p, b, e, h => by simp at h; subst h; simp [pickK, pickHead, headLen]
  | q :: r :: l, p, b, e, h => by
    have ih := pickK_none (r :: l) p (b + 1 + q.len + 1) e (by simpa using h)
    rw [pickK, if_neg (by simp), if_neg (by omega), ih]
    rw [show (q :: r :: l).length - 1 = (r :: l).length - 1 + 1 by simp, pickHead, headLen]
    simp only [List.cons_append, List.append_assoc]
    rw [show b + 1 + q.len + 1 + headLen (r :: l) ((r :: l).length - 1) = b + (1 + q.len + 1 + headLen (r :: l) ((r :: l).length - 1)) by omega]
theorem pickK_get : ∀ (l : List Pt) (k b e : Nat), k + 1 < l.length → (pickK l k b e)[headLen l (k + 1) - 1]? = some (.leap 0)
  | [], _, _, _, h => by simp at h
  | p :: l, 0, b, e, h => by
    rw [pickK, if_neg (by rw [isEmpty_false (by simp at h; omega)]; simp), headLen, if_neg (by omega)]
    rw [show 1 + p.len + 1 + headLen l 0 - 1 = p.len + 1 by cases l <;> simp [headLen] <;> omega, List.getElem?_cons_succ, List.getElem?_append_right (by rw [Pt.code_len]; omega), Pt.code_len]
    simp
  | p :: l, k + 1, b, e, h => by
    have hl : 0 < headLen l (k + 1) := by
      match l, h with
      | q :: l, _ => rw [headLen]; omega
      | [], h => simp at h
    rw [pickK, if_neg (by rw [isEmpty_false (by simp at h; omega)]; simp), headLen]
    rw [show 1 + p.len + 1 + headLen l (k + 1) - 1 = (headLen l (k + 1) - 1 + 1 + p.len) + 1 by omega, List.getElem?_cons_succ, List.getElem?_append_right (by rw [Pt.code_len]; omega), Pt.code_len, show headLen l (k + 1) - 1 + 1 + p.len - p.len = headLen l (k + 1) - 1 + 1 by omega, List.getElem?_cons_succ, show k + 1 - 1 = k by omega]
    exact pickK_get l k _ _ (by simp at h; omega)
theorem pickK_cons {p : Pt} {l : List Pt} (hl : l.isEmpty = false) (k b e : Nat) : pickK (p :: l) k b e = .fork (b + 1 + p.len + 1) :: (p.code (b + 1) ++ (.leap (if 0 < k then e else 0) :: pickK l (k - 1) (b + 1 + p.len + 1) e)) := by
  rw [pickK, if_neg (by rw [hl]; simp)]
theorem pickK_set : ∀ (l : List Pt) (k b e : Nat), k + 1 < l.length → (pickK l k b e).set (headLen l (k + 1) - 1) (.leap e) = pickK l (k + 1) b e
  | [], _, _, _, h => by simp at h
  | p :: l, 0, b, e, h => by
    have hl : l.isEmpty = false := isEmpty_false (by simp at h; omega)
    rw [pickK_cons hl, pickK_cons hl, headLen, if_neg (by omega), if_pos (by omega)]
    rw [show 1 + p.len + 1 + headLen l 0 - 1 = p.len + 1 by cases l <;> simp [headLen] <;> omega, List.set_cons_succ, List.set_append, if_neg (by rw [Pt.code_len]; omega), Pt.code_len, Nat.sub_self, List.set_cons_zero]
  | p :: l, k + 1, b, e, h => by
    have hl0 : 0 < headLen l (k + 1) := by
      match l, h with
      | q :: l, _ => rw [headLen]; omega
      | [], h => simp at h
    have hl : l.isEmpty = false := isEmpty_false (by simp at h; omega)
    have ih := pickK_set l k (b + 1 + p.len + 1) e (by simp at h; omega)
    rw [pickK_cons hl, pickK_cons hl, headLen, if_pos (show 0 < k + 1 by omega), if_pos (show 0 < k + 1 + 1 by omega)]
    rw [show 1 + p.len + 1 + headLen l (k + 1) - 1 = (headLen l (k + 1) - 1 + 1 + p.len) + 1 by omega, List.set_cons_succ, List.set_append, if_neg (by rw [Pt.code_len]; omega), Pt.code_len, show headLen l (k + 1) - 1 + 1 + p.len - p.len = headLen l (k + 1) - 1 + 1 by omega, List.set_cons_succ, show k + 1 - 1 = k by omega, show k + 1 + 1 - 1 = k + 1 by omega, ih]
theorem headLen_le : ∀ {l : List Pt} {k : Nat} {p : Pt}, l[k]? = some p → headLen l k + p.len ≤ pickLen l ∧ (k + 1 < l.length → headLen l k + (1 + p.len + 1) ≤ pickLen l)
  | [], _, _, h => by simp at h
  | q :: l, 0, p, h => by
    simp at h
    subst h
    rw [pickLen, headLen]
    split
    · rename_i hl
      have : l = [] := by simpa using hl
      subst this
      simp
    · simp only [List.length_cons]; omega
  | q :: l, k + 1, p, h => by
    have h' : l[k]? = some p := by simpa using h
    have hk := (List.getElem?_eq_some_iff.1 h').1
    have ih := headLen_le h'
    rw [pickLen, headLen, if_neg (by rw [isEmpty_false (by omega)]; simp)]
    simp only [List.length_cons]
    omega

end Go.Proofs.Ytnhlgjjdpappkaa
