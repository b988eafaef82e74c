/-
  Characters as plain data: which one bytes begin with. No program in sight; and the bits of bytes.
-/
import Derived.Test.YtnhlgjjdpappkaaSl
namespace Go.Proofs.Ytnhlgjjdpappkaa
open Go.RowKit

def contB (c : UInt8) : Bool := decide (128 ≤ c.toNat ∧ c.toNat < 192)
def soundB (r : Int) : Bool := decide ((0 ≤ r ∧ r < 55296) ∨ (57343 < r ∧ r ≤ 1114111))
/-- What follows a first byte. -/
def tails (r : Nat) : List UInt8 → Option Nat
  | [] => some r
  | c :: cs => if contB c = true then tails (r * 64 + c.toNat % 64) cs else none
def maskOf : Nat → Nat
  | 0 => 128
  | 1 => 224
  | 2 => 240
  | _ => 248
def leadOf : Nat → Nat
  | 0 => 0
  | 1 => 192
  | 2 => 224
  | _ => 240
def leastOf : Nat → Nat
  | 0 => 0
  | 1 => 128
  | 2 => 2048
  | _ => 65536
/-- Does a byte begin k + 1 of them? -/
def leadB (k : Nat) (b : UInt8) : Bool := b.toNat &&& maskOf k == leadOf k
def headOf (k : Nat) (b : UInt8) : Nat := b.toNat - leadOf k
def nextK (k : Nat) (b0 : UInt8) (bs : List UInt8) : Option (Nat × Nat) :=
  match tails (headOf k b0) (bs.take k) with
  | none => none
  | some r => if (r : Int) < leastOf k ∨ soundB r = false then none else some (r, k + 1)
/-- The character with which bytes begin, and how many they are. -/
def nextOf : List UInt8 → Option (Nat × Nat)
  | [] => none
  | b0 :: bs =>
    if leadB 0 b0 = true then nextK 0 b0 bs
    else if 1 ≤ bs.length ∧ leadB 1 b0 = true then nextK 1 b0 bs
    else if 2 ≤ bs.length ∧ leadB 2 b0 = true then nextK 2 b0 bs
    else if 3 ≤ bs.length ∧ leadB 3 b0 = true then nextK 3 b0 bs
    else none

theorem and_u8 (a c : Nat) (ha : a < 256) (hc : c < 256) : bits .and .u8 (a : Int) (c : Int) = ((a &&& c : Nat) : Int) := by
  show IntKind.u8.wrap ((BitVec.ofInt 8 (a : Int) &&& BitVec.ofInt 8 (c : Int)).toNat : Int) = _
  have hl : a &&& c ≤ c := Nat.and_le_right
  rw [BitVec.toNat_and, BitVec.ofInt_natCast, BitVec.ofInt_natCast, BitVec.toNat_ofNat, BitVec.toNat_ofNat, Nat.mod_eq_of_lt (by omega), Nat.mod_eq_of_lt (by omega), IntKind.wrap_u8]
  omega
theorem lead_head (k : Nat) (hk : k < 4) (b : UInt8) (h : leadB k b = true) : bits .andNot .u8 (b.toNat : Int) (maskOf k : Int) = ((headOf k b : Nat) : Int) := by
  have all : ∀ k : Fin 4, ∀ b : Fin 256, (b.val &&& maskOf k.val == leadOf k.val) = true → bits .andNot .u8 (b.val : Int) (maskOf k.val : Int) = ((b.val - leadOf k.val : Nat) : Int) := by decide +kernel
  exact all ⟨k, hk⟩ ⟨b.toNat, b.toNat_lt⟩ h
theorem lead_bound (k : Nat) (hk : k < 4) (b : UInt8) (h : leadB k b = true) : headOf k b < 128 ∧ (1 ≤ k → headOf k b < 32) ∧ (2 ≤ k → headOf k b < 16) ∧ (3 ≤ k → headOf k b < 8) := by
  have all : ∀ k : Fin 4, ∀ b : Fin 256, (b.val &&& maskOf k.val == leadOf k.val) = true → b.val - leadOf k.val < 128 ∧ (1 ≤ k.val → b.val - leadOf k.val < 32) ∧ (2 ≤ k.val → b.val - leadOf k.val < 16) ∧ (3 ≤ k.val → b.val - leadOf k.val < 8) := by decide +kernel
  exact all ⟨k, hk⟩ ⟨b.toNat, b.toNat_lt⟩ h
theorem cont_and (c : UInt8) : contB c = (c.toNat &&& 192 == 128) := by
  have all : ∀ b : Fin 256, decide (128 ≤ b.val ∧ b.val < 192) = (b.val &&& 192 == 128) := by decide +kernel
  exact all ⟨c.toNat, c.toNat_lt⟩
theorem and_63 (c : UInt8) : c.toNat &&& 63 = c.toNat % 64 := by
  have all : ∀ b : Fin 256, b.val &&& 63 = b.val % 64 := by decide +kernel
  exact all ⟨c.toNat, c.toNat_lt⟩
theorem or_i32 (x u : Nat) (hx : x < 33554432) (hu : u < 64) : bits .or .i32 ((x : Int) * 64) (u : Int) = ((x * 64 + u : Nat) : Int) := by
  have e1 : ((x : Int) * 64) = ((x * 64 : Nat) : Int) := by omega
  have h := Nat.shiftLeft_add_eq_or_of_lt (b := u) (i := 6) (by omega) x
  have e : x <<< 6 = x * 64 := by rw [Nat.shiftLeft_eq]
  rw [e] at h
  rw [e1]
  show IntKind.i32.wrap ((BitVec.ofInt 32 ((x * 64 : Nat) : Int) ||| BitVec.ofInt 32 (u : Int)).toNat : Int) = _
  rw [BitVec.toNat_or, BitVec.ofInt_natCast, BitVec.ofInt_natCast, BitVec.toNat_ofNat, BitVec.toNat_ofNat, Nat.mod_eq_of_lt (by omega), Nat.mod_eq_of_lt (by omega), ← h]
  rw [IntKind.wrap_i32]
  omega
theorem tails_bound : ∀ (cs : List UInt8) (r r' : Nat), tails r cs = some r' → r' < (r + 1) * 64 ^ cs.length
  | [], r, r', h => by
    simp only [tails, Option.some.injEq] at h
    subst h
    simp
  | c :: cs, r, r', h => by
    unfold tails at h
    split at h
    · have := tails_bound cs _ _ h
      have h2 : (r * 64 + c.toNat % 64 + 1) * 64 ^ cs.length ≤ ((r + 1) * 64) * 64 ^ cs.length := Nat.mul_le_mul_right _ (by omega)
      simp only [List.length_cons, Nat.pow_succ]
      have h3 : (r + 1) * (64 ^ cs.length * 64) = ((r + 1) * 64) * 64 ^ cs.length := by rw [Nat.mul_comm (64 ^ cs.length) 64, Nat.mul_assoc]
      omega
    · cases h

/-- A text's characters; a byte that begins none is above all. -/
def runesF : Nat → List UInt8 → List Int
  | 0, _ => []
  | _ + 1, [] => []
  | n + 1, b :: bs => match nextOf (b :: bs) with
    | none => ((2097152 + b.toNat : Nat) : Int) :: runesF n bs
    | some (r, k) => (r : Int) :: runesF n ((b :: bs).drop k)
def runesOf (bs : List UInt8) : List Int := runesF bs.length bs

theorem nextOf_pos {bs : List UInt8} {r k : Nat} (h : nextOf bs = some (r, k)) : 1 ≤ k ∧ k ≤ bs.length ∧ k ≤ 4 ∧ r ≤ 1114111 := by
  have hK : ∀ j b0 bs, nextK j b0 bs = some (r, k) → k = j + 1 ∧ r ≤ 1114111 := fun j b0 bs h => by
    unfold nextK at h
    split at h
    · cases h
    · rename_i r1 h1
      split at h
      · cases h
      · rename_i h2
        simp only [Option.some.injEq, Prod.mk.injEq] at h
        obtain ⟨rfl, rfl⟩ := h
        refine ⟨rfl, ?_⟩
        have h3 : soundB r1 = true := by
          cases hs : soundB r1
          · exact absurd (.inr hs) h2
          · rfl
        unfold soundB at h3
        rw [decide_eq_true_eq] at h3
        omega
  match bs with
  | [] => cases h
  | b0 :: bs =>
    rw [nextOf] at h
    simp only [List.length_cons]
    split at h
    · obtain ⟨rfl, h2⟩ := hK _ _ _ h; omega
    · split at h
      · obtain ⟨rfl, h2⟩ := hK _ _ _ h; omega
      · split at h
        · obtain ⟨rfl, h2⟩ := hK _ _ _ h; omega
        · split at h
          · obtain ⟨rfl, h2⟩ := hK _ _ _ h; omega
          · cases h

end Go.Proofs.Ytnhlgjjdpappkaa
