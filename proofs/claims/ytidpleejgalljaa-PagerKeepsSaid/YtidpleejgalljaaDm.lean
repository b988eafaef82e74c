/-
  The disk as plain data: what each operation of layer 6 does to it. No program in sight.
-/
import Derived.Test.YtidpleejgalljaaBase
namespace Go.Proofs.Ytidpleejgalljaa
open Go.RowKit

/-- A disk: sectors laid down, writes pending, the limit (-1: none), dead, how much was done. -/
structure DM where
  S : List (List UInt8)
  P : List (Nat × List UInt8)
  limit : Int
  dead : Bool
  done : Nat

structure DM.ok (D : DM) : Prop where
  some_ : 1 ≤ D.S.length
  most : D.S.length ≤ 65536
  sec : ∀ s ∈ D.S, s.length = 64
  pend : ∀ p ∈ D.P, p.1 < D.S.length ∧ p.2.length = 64
  lim : -1 ≤ D.limit
  lim' : D.limit ≤ 9223372036854775807
  few : D.P.length ≤ D.done

def pad (b : List UInt8) : List UInt8 := b ++ List.replicate (64 - b.length) 0
theorem pad_len {b : List UInt8} (h : b.length ≤ 64) : (pad b).length = 64 := by simp [pad]; omega

def DM.new (n : Nat) : DM := { S := List.replicate n (List.replicate 64 0), P := [], limit := -1, dead := false, done := 0 }
def DM.spent (D : DM) : DM := { D with limit := if 0 < D.limit then D.limit - 1 else D.limit, done := D.done + 1 }
def DM.died (D : DM) : DM := { D with dead := true }
def DM.writeE (D : DM) (k : Int) (b : List UInt8) : Int :=
  if D.dead then 10 else if k < 0 ∨ (D.S.length : Int) ≤ k ∨ 64 < b.length then 1 else if D.limit = 0 then 10 else 0
def DM.write (D : DM) (k : Int) (b : List UInt8) : DM :=
  if D.dead then D else if k < 0 ∨ (D.S.length : Int) ≤ k ∨ 64 < b.length then D else if D.limit = 0 then D.died else { D.spent with P := D.P ++ [(k.toNat, pad b)] }
def layAll (S : List (List UInt8)) (P : List (Nat × List UInt8)) : List (List UInt8) := P.foldl (fun S p => S.set p.1 p.2) S
def DM.syncE (D : DM) : Int := if D.dead then 10 else if D.limit = 0 then 10 else 0
def DM.sync (D : DM) : DM := if D.dead then D else if D.limit = 0 then D.died else { D.spent with S := layAll D.S D.P, P := [] }
def DM.limited (D : DM) (k : Int) : DM := { D with limit := max k (-1) }
/-- What of the pending is kept. -/
def keptOf : List (Nat × List UInt8) → List Bool → List (Nat × List UInt8)
  | [], _ => []
  | _, [] => []
  | p :: P, b :: K => if b then p :: keptOf P K else keptOf P K
def DM.reopen (D : DM) (keep : List Bool) : DM := { D with S := layAll D.S (keptOf D.P keep), P := [], dead := false, limit := -1 }
/-- A sector as it is read. -/
def lookAll (s : List UInt8) (P : List (Nat × List UInt8)) (k : Nat) : List UInt8 := P.foldl (fun s p => if p.1 = k then p.2 else s) s
def DM.look (D : DM) (k : Nat) : List UInt8 := lookAll (D.S.getD k []) D.P k
def DM.readE (D : DM) (k : Int) : Int := if D.dead then 10 else if k < 0 ∨ (D.S.length : Int) ≤ k then 1 else 0
def DM.read (D : DM) (k : Int) : List UInt8 := if D.readE k = 0 then D.look k.toNat else []

/-! ### It stays well formed -/
theorem layAll_len (P : List (Nat × List UInt8)) : ∀ S, (layAll S P).length = S.length := by
  induction P with
  | nil => intro S; rfl
  | cons p P ih => intro S; show (layAll (S.set p.1 p.2) P).length = _; rw [ih]; simp
theorem layAll_sec (P : List (Nat × List UInt8)) : ∀ S, (∀ s ∈ S, s.length = 64) → (∀ p ∈ P, p.2.length = 64) → ∀ s ∈ layAll S P, s.length = 64 := by
  induction P with
  | nil => intro S h _; exact h
  | cons p P ih =>
    intro S h hp
    refine ih (S.set p.1 p.2) (fun s hs => ?_) (fun q hq => hp q (List.mem_cons_of_mem _ hq))
    rcases List.mem_or_eq_of_mem_set hs with h1 | h1
    · exact h s h1
    · rw [h1]; exact hp p (List.mem_cons_self ..)
theorem keptOf_mem : ∀ (P : List (Nat × List UInt8)) (K : List Bool), ∀ p ∈ keptOf P K, p ∈ P
  | [], _, p, h => by simp [keptOf] at h
  | q :: P, [], p, h => by simp [keptOf] at h
  | q :: P, b :: K, p, h => by
    unfold keptOf at h
    split at h
    · rcases List.mem_cons.1 h with h | h
      · rw [h]; exact List.mem_cons_self ..
      · exact List.mem_cons_of_mem _ (keptOf_mem P K p h)
    · exact List.mem_cons_of_mem _ (keptOf_mem P K p h)
theorem DM.ok_new (n : Nat) (h1 : 1 ≤ n) (h2 : n ≤ 65536) : (DM.new n).ok :=
  ⟨by simpa [DM.new] using h1, by simpa [DM.new] using h2, fun s hs => by simp [DM.new] at hs; rw [hs.2]; simp, fun p hp => by simp [DM.new] at hp, by simp [DM.new], by simp [DM.new], by simp [DM.new]⟩
theorem DM.ok_died {D : DM} (h : D.ok) : D.died.ok := ⟨h.some_, h.most, h.sec, h.pend, h.lim, h.lim', h.few⟩
theorem DM.ok_write {D : DM} (h : D.ok) (k : Int) (b : List UInt8) : (D.write k b).ok := by
  unfold DM.write
  split
  · exact h
  · split
    · exact h
    · rename_i hk
      split
      · exact DM.ok_died h
      · have h1 := h.lim; have h2 := h.lim'; have h3 := h.few
        refine ⟨h.some_, h.most, h.sec, fun p hp => ?_, ?_, ?_, ?_⟩
        · simp only [List.mem_append, List.mem_singleton] at hp
          rcases hp with hp | hp
          · exact h.pend p hp
          · subst hp
            exact ⟨by show k.toNat < D.S.length; omega, pad_len (by omega)⟩
        · show -1 ≤ (if 0 < D.limit then D.limit - 1 else D.limit); split <;> omega
        · show (if 0 < D.limit then D.limit - 1 else D.limit) ≤ _; split <;> omega
        · simp [DM.spent]; omega
theorem DM.ok_sync {D : DM} (h : D.ok) : D.sync.ok := by
  unfold DM.sync
  split
  · exact h
  · split
    · exact DM.ok_died h
    · have h1 := h.lim; have h2 := h.lim'; have h3 := h.few
      refine ⟨?_, ?_, ?_, ?_, ?_, ?_, ?_⟩
      · simpa [layAll_len] using h.some_
      · simpa [layAll_len] using h.most
      · exact layAll_sec _ _ h.sec (fun p hp => (h.pend p hp).2)
      · intro p hp; simp at hp
      · show -1 ≤ (if 0 < D.limit then D.limit - 1 else D.limit); split <;> omega
      · show (if 0 < D.limit then D.limit - 1 else D.limit) ≤ _; split <;> omega
      · simp
theorem DM.ok_limited {D : DM} (h : D.ok) (k : Int) (hk : k ≤ 9223372036854775807) : (D.limited k).ok :=
  ⟨h.some_, h.most, h.sec, h.pend, by simp [DM.limited]; omega, by simp [DM.limited]; omega, h.few⟩
theorem DM.ok_reopen {D : DM} (h : D.ok) (K : List Bool) : (D.reopen K).ok :=
  ⟨by simpa [DM.reopen, layAll_len] using h.some_, by simpa [DM.reopen, layAll_len] using h.most,
    layAll_sec _ _ h.sec (fun p hp => (h.pend p (keptOf_mem _ _ p hp)).2), fun p hp => by simp [DM.reopen] at hp, by simp [DM.reopen], by simp [DM.reopen], by simp [DM.reopen]⟩
theorem lookAll_len (P : List (Nat × List UInt8)) (k : Nat) : ∀ s, s.length = 64 → (∀ p ∈ P, p.2.length = 64) → (lookAll s P k).length = 64 := by
  induction P with
  | nil => intro s h _; exact h
  | cons p P ih =>
    intro s h hp
    refine ih (if p.1 = k then p.2 else s) ?_ (fun q hq => hp q (List.mem_cons_of_mem _ hq))
    split
    · exact hp p (List.mem_cons_self ..)
    · exact h
theorem DM.look_len {D : DM} (h : D.ok) {k : Nat} (hk : k < D.S.length) : (D.look k).length = 64 := by
  refine lookAll_len _ _ _ ?_ (fun p hp => (h.pend p hp).2)
  rw [List.getD_eq_getElem?_getD, List.getElem?_eq_getElem hk]
  exact h.sec _ (List.getElem_mem _)

/-! ### Sectors laid flat -/
theorem flat_len {S : List (List UInt8)} (h : ∀ s ∈ S, s.length = 64) : S.flatten.length = S.length * 64 := by
  induction S with
  | nil => rfl
  | cons s S ih =>
    simp only [List.flatten_cons, List.length_append, List.length_cons]
    rw [ih (fun x hx => h x (List.mem_cons_of_mem _ hx)), h s (List.mem_cons_self ..)]
    omega
theorem flat_at {S : List (List UInt8)} (h : ∀ s ∈ S, s.length = 64) {k : Nat} (hk : k < S.length) : (S.flatten.drop (k * 64)).take 64 = S.getD k [] := by
  induction S generalizing k with
  | nil => simp at hk
  | cons s S ih =>
    have hs := h s (List.mem_cons_self ..)
    cases k with
    | zero => simp [hs]
    | succ k =>
      have e : (k + 1) * 64 = s.length + k * 64 := by omega
      rw [List.flatten_cons, e, List.drop_length_add_append, ih (fun x hx => h x (List.mem_cons_of_mem _ hx)) (by simpa using hk)]
      rfl
theorem flat_set {S : List (List UInt8)} (h : ∀ s ∈ S, s.length = 64) {k : Nat} (hk : k < S.length) {b : List UInt8} :
    S.flatten.take (k * 64) ++ (b ++ S.flatten.drop (k * 64 + 64)) = (S.set k b).flatten := by
  induction S generalizing k with
  | nil => simp at hk
  | cons s S ih =>
    have hs := h s (List.mem_cons_self ..)
    cases k with
    | zero =>
      simp only [List.flatten_cons, Nat.zero_mul, List.take_zero, List.nil_append, Nat.zero_add, List.set_cons_zero]
      rw [← hs, List.drop_left]
    | succ k =>
      have e : (k + 1) * 64 = s.length + k * 64 := by omega
      have e2 : (k + 1) * 64 + 64 = s.length + (k * 64 + 64) := by omega
      have hS : ∀ x ∈ S, x.length = 64 := fun x hx => h x (List.mem_cons_of_mem _ hx)
      rw [List.flatten_cons, e2, List.drop_length_add_append, e, List.take_length_add_append, List.set_cons_succ, List.flatten_cons, List.append_assoc, ih hS (by simpa using hk)]

end Go.Proofs.Ytidpleejgalljaa
