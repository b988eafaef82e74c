/-
  Joined by join.py: Nb Nc
-/
import Derived.Test.YtpjbdpepofnleaaGreatJpl10
set_option maxRecDepth 100000
set_option maxHeartbeats 32000000
namespace Go.Proofs.YtpjbdpepofnleaaGreat
section
abbrev En := List (Ky × List UInt8)
def entOf (l : List It) : En := l.map fun x => (x.key, x.v)
def Rise (E : En) : Prop := E.Pairwise fun a b => klt a.1 b.1
def Within (lo hi : Option Ky) (E : En) : Prop := ∀ e ∈ E, geLo lo e.1 /\ ltHi hi e.1
abbrev SubT := Nat -> Option Ky -> Option Ky -> En -> List Nat -> Prop
def Kids (S : SubT) : Option Ky -> Nat -> List It -> Option Ky -> En -> List Nat -> Prop
 | lo, c, [], hi, E, P => S c lo hi E P
 | lo, c, x :: l, hi, E, P => ∃ E1 P1 E2 P2, S c lo (some x.key) E1 P1 /\ Kids S (some x.key) x.at_ l hi E2 P2 /\ E = E1 ++ E2 /\ P = P1 ++ P2
def NF (N : Nat -> Option Nd) : Nat -> Nd -> Option Ky -> Option Ky -> En -> List Nat -> Prop
 | 0, n, lo, hi, E, P => n.lf = true /\ E = entOf n.l /\ P = [] /\ Rise E /\ Within lo hi E
 | h + 1, n, lo, hi, E, P => n.lf = false /\ Kids (fun at_ lo hi E P => ∃ n P', N at_ = some n /\ n.ok /\ n.size <= 512 /\ 1 <= n.l.length /\ P = at_ :: P' /\ NF N h n lo hi E P') lo n.first n.l hi E P
def Sub (N : Nat -> Option Nd) (m h : Nat) : SubT := fun at_ lo hi E P => ∃ n P', N at_ = some n /\ n.ok /\ n.size <= 512 /\ m <= n.l.length /\ P = at_ :: P' /\ NF N h n lo hi E P'
def chOf (c : Nat) : List It -> Nat
 | [] => c
 | x :: A => chOf x.at_ A
def loOf (lo : Option Ky) : List It -> Option Ky
 | [] => lo
 | x :: A => loOf (some x.key) A
def hiOf (hi : Option Ky) : List It -> Option Ky
 | [] => hi
 | x :: _ => some x.key
def KidsL (S : SubT) : Option Ky -> Nat -> List It -> En -> List Nat -> Prop
 | _, _, [], E, P => E = [] /\ P = []
 | lo, c, x :: A, E, P => ∃ E1 P1 E2 P2, S c lo (some x.key) E1 P1 /\ KidsL S (some x.key) x.at_ A E2 P2 /\ E = E1 ++ E2 /\ P = P1 ++ P2
def KidsR (S : SubT) : List It -> Option Ky -> En -> List Nat -> Prop
 | [], _, E, P => E = [] /\ P = []
 | x :: B, hi, E, P => Kids S (some x.key) x.at_ B hi E P
section
variable {S S' : SubT} {lo hi : Option Ky} {c : Nat} {A B l : List It} {E : En} {P : List Nat}
theorem Kids.mono (hS : ∀ c lo hi E P', (∀ p ∈ P', p ∈ P) -> S c lo hi E P' -> S' c lo hi E P') : ∀ {l : List It} {lo : Option Ky} {c : Nat} {E : En} {P' : List Nat}, (∀ p ∈ P', p ∈ P) -> Kids S lo c l hi E P' -> Kids S' lo c l hi E P'
 | [], _, _, _, _, hP, h => hS _ _ _ _ _ hP h
 | x :: l, lo, c, E, P', hP, h => by
  obtain ⟨E1, P1, E2, P2, h1, h2, rfl, rfl⟩ := h; exact ⟨E1, P1, E2, P2, hS _ _ _ _ _ (fun p hp => hP p (List.mem_append_left _ hp)) h1, Kids.mono hS (fun p hp => hP p (List.mem_append_right _ hp)) h2, rfl, rfl⟩
theorem KidsL.mono (hS : ∀ c lo hi E P', (∀ p ∈ P', p ∈ P) -> S c lo hi E P' -> S' c lo hi E P') : ∀ {l : List It} {lo : Option Ky} {c : Nat} {E : En} {P' : List Nat}, (∀ p ∈ P', p ∈ P) -> KidsL S lo c l E P' -> KidsL S' lo c l E P'
 | [], _, _, _, _, _, h => h
 | x :: l, lo, c, E, P', hP, h => by
  obtain ⟨E1, P1, E2, P2, h1, h2, rfl, rfl⟩ := h; exact ⟨E1, P1, E2, P2, hS _ _ _ _ _ (fun p hp => hP p (List.mem_append_left _ hp)) h1, KidsL.mono hS (fun p hp => hP p (List.mem_append_right _ hp)) h2, rfl, rfl⟩
theorem KidsR.mono (hS : ∀ c lo hi E P', (∀ p ∈ P', p ∈ P) -> S c lo hi E P' -> S' c lo hi E P') {P' : List Nat} (hP : ∀ p ∈ P', p ∈ P) (h : KidsR S B hi E P') : KidsR S' B hi E P' := by
 cases B with
 | nil => exact h
 | cons x B => exact Kids.mono hS hP h
theorem Kids.focus : ∀ {A : List It} {lo : Option Ky} {c : Nat} {E : En} {P : List Nat}, Kids S lo c (A ++ B) hi E P ↔
  ∃ EA PA E0 P0 EB PB, KidsL S lo c A EA PA /\ S (chOf c A) (loOf lo A) (hiOf hi B) E0 P0 /\ KidsR S B hi EB PB /\ E = EA ++ (E0 ++ EB) /\ P = PA ++ (P0 ++ PB)
 | [], lo, c, E, P => by
  cases B with
  | nil =>
   constructor
   ·intro h; exact ⟨[], [], E, P, [], [], ⟨rfl, rfl⟩, h, ⟨rfl, rfl⟩, by simp, by simp⟩
   ·rintro ⟨_, _, E0, P0, _, _, ⟨rfl, rfl⟩, h, ⟨rfl, rfl⟩, rfl, rfl⟩; simp only [List.nil_append, List.append_nil]; exact h
  | cons x B =>
   constructor
   ·rintro ⟨E1, P1, E2, P2, h1, h2, rfl, rfl⟩; exact ⟨[], [], E1, P1, E2, P2, ⟨rfl, rfl⟩, h1, h2, rfl, rfl⟩
   ·rintro ⟨_, _, E0, P0, EB, PB, ⟨rfl, rfl⟩, h1, h2, rfl, rfl⟩; exact ⟨E0, P0, EB, PB, h1, h2, rfl, rfl⟩
 | y :: A, lo, c, E, P => by
  constructor
  ·rintro ⟨E1, P1, E2, P2, h1, h2, rfl, rfl⟩; obtain ⟨EA, PA, E0, P0, EB, PB, a1, a2, a3, rfl, rfl⟩ := Kids.focus.1 h2; exact ⟨E1 ++ EA, P1 ++ PA, E0, P0, EB, PB, ⟨E1, P1, EA, PA, h1, a1, rfl, rfl⟩, a2, a3, by rw [List.append_assoc], by rw [List.append_assoc]⟩
  ·rintro ⟨_, _, E0, P0, EB, PB, ⟨E1, P1, EA, PA, h1, a1, rfl, rfl⟩, a2, a3, rfl, rfl⟩; exact ⟨E1, P1, EA ++ (E0 ++ EB), PA ++ (P0 ++ PB), h1, Kids.focus.2 ⟨EA, PA, E0, P0, EB, PB, a1, a2, a3, rfl, rfl⟩, by rw [List.append_assoc], by rw [List.append_assoc]⟩
theorem Kids.focus2 {x : It} : Kids S lo c (A ++ x :: B) hi E P ↔
  ∃ EA PA E1 P1 E2 P2 EB PB, KidsL S lo c A EA PA /\ S (chOf c A) (loOf lo A) (some x.key) E1 P1 /\ S x.at_ (some x.key) (hiOf hi B) E2 P2 /\ KidsR S B hi EB PB /\ E = EA ++ ((E1 ++ E2) ++ EB) /\ P = PA ++ ((P1 ++ P2) ++ PB) := by
 constructor
 ·intro h; obtain ⟨EA, PA, E1, P1, EX, PX, a1, a2, a3, rfl, rfl⟩ := Kids.focus.1 h; obtain ⟨_, _, E2, P2, EB, PB, ⟨rfl, rfl⟩, b2, b3, rfl, rfl⟩ := (Kids.focus (A := [])).1 (show Kids S (some x.key) x.at_ ([] ++ B) hi EX PX from a3); exact ⟨EA, PA, E1, P1, E2, P2, EB, PB, a1, a2, b2, b3, by simp, by simp⟩
 ·rintro ⟨EA, PA, E1, P1, E2, P2, EB, PB, a1, a2, b2, b3, rfl, rfl⟩; refine Kids.focus.2 ⟨EA, PA, E1, P1, E2 ++ EB, P2 ++ PB, a1, a2, ?_, by simp, by simp⟩; exact (Kids.focus (A := [])).2 ⟨[], [], E2, P2, EB, PB, ⟨rfl, rfl⟩, b2, b3, rfl, rfl⟩
theorem Kids.cut {x : It} : ∀ {A : List It} {lo : Option Ky} {c : Nat} {E : En} {P : List Nat}, Kids S lo c (A ++ x :: B) hi E P ↔ ∃ E1 P1 E2 P2, Kids S lo c A (some x.key) E1 P1 /\ Kids S (some x.key) x.at_ B hi E2 P2 /\ E = E1 ++ E2 /\ P = P1 ++ P2
 | [], _, _, _, _ => Iff.rfl
 | y :: A, lo, c, E, P => by
  constructor
  ·rintro ⟨E1, P1, E2, P2, h1, h2, rfl, rfl⟩; obtain ⟨E3, P3, E4, P4, a1, a2, rfl, rfl⟩ := Kids.cut.1 h2; exact ⟨E1 ++ E3, P1 ++ P3, E4, P4, ⟨E1, P1, E3, P3, h1, a1, rfl, rfl⟩, a2, by rw [List.append_assoc], by rw [List.append_assoc]⟩
  ·rintro ⟨_, _, E4, P4, ⟨E1, P1, E3, P3, h1, a1, rfl, rfl⟩, a2, rfl, rfl⟩; exact ⟨E1, P1, E3 ++ E4, P3 ++ P4, h1, Kids.cut.2 ⟨E3, P3, E4, P4, a1, a2, rfl, rfl⟩, by rw [List.append_assoc], by rw [List.append_assoc]⟩
end
theorem within_hi {lo hi : Option Ky} {E : En} {k : Ky} (h : Within lo (some k) E) (hk : ltHi hi k) : Within lo hi E := fun e he => ⟨(h e he).1, fun b hb => klt_trans ((h e he).2 k rfl) (hk b hb)⟩
theorem within_lo {lo hi : Option Ky} {E : En} {k : Ky} (h : Within (some k) hi E) (hk : geLo lo k) : Within lo hi E := fun e he => ⟨fun a ha => kle_trans (hk a ha) ((h e he).1 k rfl), (h e he).2⟩
theorem Within.mid {lo _hi : Option Ky} {E : En} {k : Ky} (h : Within lo (some k) E) (hE : E ≠ []) : geLo lo k := by
 obtain ⟨e, he⟩ := List.exists_mem_of_ne_nil E hE; exact fun a ha hk => (h e he).1 a ha (klt_trans ((h e he).2 k rfl) hk)
theorem Within.mid2 {lo _hi : Option Ky} {E : En} {k : Ky} (h : Within lo (some k) E) (hE : E ≠ []) : ∀ a, lo = some a -> klt a k := by
 obtain ⟨e, he⟩ := List.exists_mem_of_ne_nil E hE; exact fun a ha => klt_le_lt ((h e he).1 a ha) ((h e he).2 k rfl)
theorem Within.midHi {hi : Option Ky} {E : En} {k : Ky} (h : Within (some k) hi E) (hE : E ≠ []) : ltHi hi k := by
 obtain ⟨e, he⟩ := List.exists_mem_of_ne_nil E hE; exact fun b hb => klt_le_lt ((h e he).1 k rfl) ((h e he).2 b hb)
theorem Rise.append {E1 E2 : En} {k : Ky} {lo hi : Option Ky} (h1 : Rise E1) (h2 : Rise E2) (w1 : Within lo (some k) E1) (w2 : Within (some k) hi E2) : Rise (E1 ++ E2) := by
 refine List.pairwise_append.2 ⟨h1, h2, fun a ha b hb => ?_⟩; exact klt_lt_le ((w1 a ha).2 k rfl) ((w2 b hb).1 k rfl)
structure Fine (S : SubT) : Prop where
 all : ∀ c lo hi E P, S c lo hi E P -> Rise E /\ Within lo hi E /\ E ≠ []
theorem Kids.fine {S : SubT} (hS : Fine S) {hi : Option Ky} : ∀ {l : List It} {lo : Option Ky} {c : Nat} {E : En} {P : List Nat}, Kids S lo c l hi E P -> Rise E /\ Within lo hi E /\ E ≠ []
 | [], _, _, _, _, h => hS.all _ _ _ _ _ h
 | x :: l, lo, _, _, _, ⟨E1, P1, E2, P2, h1, h2, rfl, rfl⟩ => by
  obtain ⟨a1, a2, a3⟩ := hS.all _ _ _ _ _ h1; obtain ⟨b1, b2, b3⟩ := Kids.fine hS h2; refine ⟨a1.append b1 a2 b2, fun e he => ?_, fun e => a3 (List.append_eq_nil_iff.1 e).1⟩; rcases List.mem_append.1 he with he | he
  ·exact within_hi a2 (b2.midHi b3) e he
  ·exact within_lo b2 (a2.mid (_hi := hi) a3) e he
theorem Kids.keys {S : SubT} (hS : Fine S) {hi : Option Ky} : ∀ {l : List It} {lo : Option Ky} {c : Nat} {E : En} {P : List Nat}, Kids S lo c l hi E P -> (l.Pairwise fun x y => klt x.key y.key) /\ ∀ x ∈ l, (∀ a, lo = some a -> klt a x.key) /\ ltHi hi x.key
 | [], _, _, _, _, _ => ⟨List.Pairwise.nil, fun x hx => by cases hx⟩
 | x :: l, lo, _, _, _, ⟨E1, P1, E2, P2, h1, h2, rfl, rfl⟩ => by
  obtain ⟨a1, a2, a3⟩ := hS.all _ _ _ _ _ h1; obtain ⟨b1, b2, b3⟩ := Kids.fine hS h2; obtain ⟨c1, c2⟩ := Kids.keys hS h2; refine ⟨List.pairwise_cons.2 ⟨fun y hy => (c2 y hy).1 _ rfl, c1⟩, fun y hy => ?_⟩; rcases List.mem_cons.1 hy with rfl | hy
  ·exact ⟨a2.mid2 (_hi := hi) a3, b2.midHi b3⟩
  ·exact ⟨fun a ha => klt_trans (a2.mid2 (_hi := hi) a3 a ha) ((c2 y hy).1 _ rfl), (c2 y hy).2⟩
theorem KidsL.less {S : SubT} (hS : Fine S) : ∀ {A : List It} {lo : Option Ky} {c : Nat} {E : En} {P : List Nat}, KidsL S lo c A E P -> (A.Pairwise fun x y => klt x.key y.key) -> ∀ e ∈ E, ∃ a, loOf lo A = some a /\ klt e.1 a
 | [], _, _, _, _, h, _, e, he => by
  obtain ⟨rfl, _⟩ := h
  cases he
 | [x], _, _, _, _, h, _, e, he => by
  obtain ⟨E1, P1, E2, P2, h1, ⟨rfl, _⟩, rfl, _⟩ := h; rw [List.append_nil] at he; exact ⟨x.key, rfl, ((hS.all _ _ _ _ _ h1).2.1 e he).2 _ rfl⟩
 | x :: y :: A, _, _, _, _, h, hp, e, he => by
  obtain ⟨E1, P1, E2, P2, h1, h2, rfl, _⟩ := h; have hp' := (List.pairwise_cons.1 hp); rcases List.mem_append.1 he with he | he
  ·have hx := ((hS.all _ _ _ _ _ h1).2.1 e he).2 _ rfl; obtain ⟨E3, P3, E4, P4, h3, h4, e3, e4⟩ := id h2; obtain ⟨_, b2, b3⟩ := hS.all _ _ _ _ _ h3; obtain ⟨e3', he3⟩ := List.exists_mem_of_ne_nil _ b3; obtain ⟨a, ha, hl⟩ := KidsL.less hS h2 hp'.2 e3' (by rw [e3]; exact List.mem_append_left _ he3); exact ⟨a, ha, klt_trans (klt_lt_le hx ((b2 e3' he3).1 _ rfl)) hl⟩
  ·exact KidsL.less hS h2 hp'.2 e he
theorem KidsR.more {S : SubT} (hS : Fine S) {B : List It} {hi : Option Ky} {E : En} {P : List Nat} (h : KidsR S B hi E P) : ∀ e ∈ E, ∃ b, hiOf hi B = some b /\ ¬ klt e.1 b := by
 cases B with
 | nil => obtain ⟨rfl, _⟩ := h; intro e he; cases he
 | cons x B => exact fun e he => ⟨x.key, rfl, ((Kids.fine hS h).2.1 e he).1 _ rfl⟩
section
variable {N N' : Nat -> Option Nd} {m h : Nat} {n : Nd} {at_ : Nat} {lo hi : Option Ky} {E : En} {P : List Nat}
theorem NF.fine : ∀ {h : Nat} {n : Nd} {lo hi : Option Ky} {E : En} {P : List Nat}, NF N h n lo hi E P -> Rise E /\ Within lo hi E /\ (1 <= n.l.length ∨ 1 <= h -> E ≠ [])
 | 0, n, _, _, _, _, ⟨_, rfl, _, h1, h2⟩ => ⟨h1, h2, fun hh e => by
  have hl : n.l.length = 0 := by have := congrArg List.length e; simpa [entOf] using this
  omega⟩
 | h + 1, n, _, _, _, _, hn => by
  have hS : Fine (Sub N 1 h) := ⟨fun c lo hi E P ⟨n, P', _, _, _, hl, _, hf⟩ => by
   obtain ⟨h1, h2, h3⟩ := NF.fine hf; exact ⟨h1, h2, h3 (.inl hl)⟩⟩
  obtain ⟨h1, h2, h3⟩ := Kids.fine hS hn.2; exact ⟨h1, h2, fun _ => h3⟩
theorem Sub.fine : Fine (Sub N 1 h) := ⟨fun c lo hi E P ⟨n, P', _, _, _, hl, _, hf⟩ => by
 obtain ⟨h1, h2, h3⟩ := NF.fine hf; exact ⟨h1, h2, h3 (.inl hl)⟩⟩
theorem NF.congr : ∀ {h : Nat} {n : Nd} {lo hi : Option Ky} {E : En} {P : List Nat}, NF N h n lo hi E P -> (∀ p ∈ P, N' p = N p) -> NF N' h n lo hi E P
 | 0, _, _, _, _, _, hn, _ => hn
 | h + 1, n, _, _, _, P, hn, hN => by
  refine ⟨hn.1, Kids.mono (P := P) (fun c lo hi E P' hP => ?_) (fun p hp => hp) hn.2⟩; rintro ⟨n, P'', h1, h2, h3, h4, rfl, h6⟩; exact ⟨n, P'', by rw [hN c (hP c (List.mem_cons_self ..))]; exact h1, h2, h3, h4, rfl, NF.congr h6 (fun p hp => hN p (hP p (List.mem_cons_of_mem _ hp)))⟩
theorem Sub.congr (hs : Sub N m h at_ lo hi E P) (hN : ∀ p ∈ P, N' p = N p) : Sub N' m h at_ lo hi E P := by
 obtain ⟨n, P', h1, h2, h3, h4, rfl, h6⟩ := hs; exact ⟨n, P', by rw [hN at_ (List.mem_cons_self ..)]; exact h1, h2, h3, h4, rfl, h6.congr (fun p hp => hN p (List.mem_cons_of_mem _ hp))⟩
theorem Sub.head (hs : Sub N m h at_ lo hi E P) : at_ ∈ P := by obtain ⟨n, P', _, _, _, _, rfl, _⟩ := hs; exact List.mem_cons_self ..
theorem NF.kind (hn : NF N h n lo hi E P) : n.lf = decide (h = 0) := by
 cases h with
 | zero => exact hn.1
 | succ h => rw [hn.1]; rfl
theorem Kids.count {S : SubT} {q : Nat} (hS : ∀ c lo hi E P, S c lo hi E P -> P.length + 1 <= 2 * E.length /\ q <= E.length) {hi : Option Ky} : ∀ {l : List It} {lo : Option Ky} {c : Nat} {E : En} {P : List Nat}, Kids S lo c l hi E P -> P.length + l.length + 1 <= 2 * E.length /\ q * (l.length + 1) <= E.length
 | [], _, _, _, _, hk => by have := hS _ _ _ _ _ hk; simpa using this
 | x :: l, _, _, _, _, ⟨E1, P1, E2, P2, h1, h2, rfl, rfl⟩ => by
  have a := hS _ _ _ _ _ h1; have b := Kids.count hS h2; rw [List.length_append, List.length_append, List.length_cons, Nat.mul_succ]; omega
theorem NF.count : ∀ {h : Nat} {n : Nd} {lo hi : Option Ky} {E : En} {P : List Nat}, NF N h n lo hi E P -> 1 <= n.l.length -> P.length + 2 <= 2 * E.length /\ 2 ^ h <= E.length
 | 0, n, _, _, _, _, ⟨_, rfl, rfl, _, _⟩, hl => by
  have e : (entOf n.l).length = n.l.length := by simp [entOf]
  rw [e]; simp; omega
 | h + 1, n, _, _, _, _, hn, hl => by
  have hS : ∀ c lo hi E P, Sub N 1 h c lo hi E P -> P.length + 1 <= 2 * E.length /\ 2 ^ h <= E.length := by
   rintro c lo hi E P ⟨n, P', _, _, _, hl, rfl, hf⟩; have := NF.count hf hl; rw [List.length_cons]; omega
  have hk := Kids.count hS hn.2; have h2 : 2 ^ h * 2 <= 2 ^ h * (n.l.length + 1) := Nat.mul_le_mul_left _ (by omega); rw [Nat.pow_succ]; omega
theorem Sub.count (hs : Sub N 1 h at_ lo hi E P) : P.length + 1 <= 2 * E.length /\ 2 ^ h <= E.length := by
 obtain ⟨n, P', _, _, _, hl, rfl, hf⟩ := hs; have := NF.count hf hl; rw [List.length_cons]; omega
end
theorem KidsL.count {S : SubT} (hS : ∀ c lo hi E P, S c lo hi E P -> P.length + 1 <= 2 * E.length) : ∀ {A : List It} {lo : Option Ky} {c : Nat} {E : En} {P : List Nat}, KidsL S lo c A E P -> P.length + A.length <= 2 * E.length
 | [], _, _, _, _, h => by
  obtain ⟨rfl, rfl⟩ := h
  simp
 | x :: l, _, _, _, _, h => by
  obtain ⟨E1, P1, E2, P2, h1, h2, rfl, rfl⟩ := h; have a := hS _ _ _ _ _ h1; have b := KidsL.count hS h2; rw [List.length_append, List.length_append, List.length_cons]; omega
theorem KidsR.count {S : SubT} (hS : ∀ c lo hi E P, S c lo hi E P -> P.length + 1 <= 2 * E.length) {B : List It} {hi : Option Ky} {E : En} {P : List Nat} (h : KidsR S B hi E P) : P.length + B.length <= 2 * E.length := by
 cases B with
 | nil =>
  obtain ⟨rfl, rfl⟩ := h
  simp
 | cons x B =>
  have := (Kids.count (q := 0) (fun c lo hi E P h => ⟨hS c lo hi E P h, Nat.zero_le _⟩) (show Kids S (some x.key) x.at_ B hi E P from h)).1; rw [List.length_cons]; omega
def halfGo (lf : Bool) (lim : Nat) : List It -> Nat -> Nat -> Nat
 | x :: y :: l, k, s => if 2 * s < lim then halfGo lf lim (y :: l) (k + 1) (s + ibn lf x) else k
 | _, k, _ => k
def Nd.half (n : Nd) : Nat := max (halfGo n.lf (n.size - 3) n.l 0 0) 1
def Nd.cutAt (n : Nd) : Nat := if n.lf then n.half else min n.half (n.l.length - 2)
def Nd.left (n : Nd) : Nd := ⟨n.lf, n.first, n.l.take n.cutAt⟩
def Nd.key (n : Nd) : Ky := ((n.l[n.cutAt]?).map (·.key)).getD []
def Nd.right (n : Nd) : Nd := if n.lf then ⟨true, 0, n.l.drop n.cutAt⟩ else ⟨false, ((n.l[n.cutAt]?).map (·.at_)).getD 0, n.l.drop (n.cutAt + 1)⟩
def sumB (lf : Bool) (l : List It) : Nat := (l.map (ibn lf)).sum
theorem sumB_cons (lf : Bool) (x : It) (l : List It) : sumB lf (x :: l) = ibn lf x + sumB lf l := rfl
theorem sumB_append (lf : Bool) (a b : List It) : sumB lf (a ++ b) = sumB lf a + sumB lf b := by unfold sumB; rw [List.map_append, List.sum_append]
theorem size_eq (n : Nd) : n.size = (if n.lf then 3 else 5) + sumB n.lf n.l := rfl
theorem halfGo_spec (lf : Bool) (lim : Nat) : ∀ (l : List It) (k s : Nat), ∃ j, halfGo lf lim l k s = k + j /\ (j <= l.length - 1) /\ (j = 0 ∨ ∃ x, l[j - 1]? = some x /\ 2 * (s + sumB lf (l.take (j - 1))) < lim /\ sumB lf (l.take j) = sumB lf (l.take (j - 1)) + ibn lf x) /\ (j = l.length - 1 ∨ lim <= 2 * (s + sumB lf (l.take j)))
 | [], k, s => ⟨0, rfl, by simp, .inl rfl, .inl rfl⟩
 | [x], k, s => ⟨0, rfl, by simp, .inl rfl, .inl rfl⟩
 | x :: y :: l, k, s => by
  unfold halfGo
  by_cases hs : 2 * s < lim
  ·rw [if_pos hs]; obtain ⟨j, h1, h2, h3, h4⟩ := halfGo_spec lf lim (y :: l) (k + 1) (s + ibn lf x); have h1' : halfGo lf lim (y :: l) (k + 1) (s + ibn lf x) = k + (j + 1) := by rw [h1]; clear h3; omega
   have h2' : j + 1 <= (x :: y :: l).length - 1 := by clear h3 h4; simp only [List.length_cons] at h2 ⊢; omega
   refine ⟨j + 1, h1', h2', .inr ?_, ?_⟩
   ·rcases h3 with rfl | ⟨z, g1, g2, g3⟩
    ·exact ⟨x, rfl, by simpa [sumB] using hs, by simp [sumB]⟩
    ·obtain ⟨i, rfl⟩ : ∃ i, j = i + 1 := by
      rcases j with _ | j
      ·exfalso
       simp [sumB] at g3
       unfold ibn at g3
       split at g3 <;> omega
      ·exact ⟨j, rfl⟩
     simp only [Nat.add_sub_cancel] at g1 g2 g3 ⊢; rw [List.take_succ_cons, sumB_cons] at g3; refine ⟨z, by simpa using g1, ?_, ?_⟩
     ·rw [List.take_succ_cons, sumB_cons]; omega
     ·rw [List.take_succ_cons, List.take_succ_cons, sumB_cons, sumB_cons, List.take_succ_cons, sumB_cons]; omega
   ·clear h3; rcases h4 with h4 | h4
    ·left; simp only [List.length_cons] at h4 ⊢; omega
    ·right; rw [List.take_succ_cons, sumB_cons]; omega
  ·rw [if_neg hs]; exact ⟨0, rfl, by simp, .inl rfl, .inr (by simp [sumB]; omega)⟩
theorem sumB_le {lf : Bool} {l : List It} {q : Nat} (h : ∀ x ∈ l, ibn lf x <= q) : sumB lf l <= q * l.length := by
 induction l with
 | nil => simp [sumB]
 | cons y l ih =>
  have := ih (fun x hx => h x (List.mem_cons_of_mem _ hx)); have := h y (List.mem_cons_self ..); rw [sumB_cons, List.length_cons, Nat.mul_succ]; omega
theorem ibn_le {lf : Bool} {x : It} (h : x.ok lf) : ibn lf x <= if lf then 162 else 99 := by
 have := h.k2; have := h.v; unfold ibn
 split <;> omega
theorem sumB_take (lf : Bool) (l : List It) (k : Nat) : sumB lf (l.take k) + sumB lf (l.drop k) = sumB lf l := by rw [<- sumB_append, List.take_append_drop]
theorem sumB_drop {lf : Bool} {l : List It} {k : Nat} {x : It} (hx : l[k]? = some x) : sumB lf (l.drop k) = ibn lf x + sumB lf (l.drop (k + 1)) := by
 obtain ⟨h1, h2⟩ := List.getElem?_eq_some_iff.1 hx; rw [List.drop_eq_getElem_cons h1, h2, sumB_cons]
theorem Nd.split_ok {n : Nd} (h : n.ok) (hbig : 512 < n.size) (hs : n.size <= if n.lf then 680 else 780) :
  n.cutAt < n.l.length /\ 1 <= n.cutAt /\ n.left.size <= 512 /\ n.right.size <= 512 /\ 1 <= n.left.l.length /\ 1 <= n.right.l.length /\ n.left.ok /\ n.right.ok := by
 obtain ⟨lf, first, l⟩ := n; obtain ⟨h1, h2, h3, h4⟩ := h
 simp only at h1 h2 h3 h4
 have hq : ∀ x ∈ l, ibn lf x <= if lf then 162 else 99 := fun x hx => ibn_le (h2 x hx)
 have hsz : Nd.size ⟨lf, first, l⟩ = (if lf then 3 else 5) + sumB lf l := rfl; have hT := sumB_le hq; obtain ⟨j, e1, e2, e3, e4⟩ := halfGo_spec lf (Nd.size ⟨lf, first, l⟩ - 3) l 0 0; rw [Nat.zero_add] at e1; have hhalf : Nd.half ⟨lf, first, l⟩ = max j 1 := by unfold Nd.half; simp only; rw [e1]
 rw [hsz] at hbig hs e3 e4; simp only [Nat.zero_add] at e3 e4
 have hj : 1 <= j := by
  clear e3; rcases e4 with e4 | e4
  ·cases lf <;> simp only [if_true, if_false, Bool.false_eq_true] at hbig hT ⊢ <;> omega
  ·rcases Nat.eq_zero_or_pos j with rfl | hj
   ·exfalso
    simp only [List.take_zero] at e4; have : sumB lf ([] : List It) = 0 := rfl
    cases lf <;> simp only [if_true, if_false, Bool.false_eq_true] at hbig e4 <;> omega
   ·exact hj
 have hmax : max j 1 = j := by clear e3; omega
 rw [hmax] at hhalf
 have e3' : ∃ x, l[j - 1]? = some x /\ 2 * sumB lf (l.take (j - 1)) < (if lf then 3 else 5) + sumB lf l - 3 /\ sumB lf (l.take j) = sumB lf (l.take (j - 1)) + ibn lf x := by
  rcases e3 with e3 | e3
  ·omega
  ·exact e3
 clear e3; obtain ⟨x, x1, x2, x3⟩ := e3'; have hx := hq x (List.mem_of_getElem? x1)
 cases lf with
 | true =>
  simp only [if_true] at hbig hs hT e4 x2 hx hq; have hc : Nd.cutAt ⟨true, first, l⟩ = j := by unfold Nd.cutAt; simp only [if_true]; exact hhalf
  have ht := sumB_take true l j; have hjl : j < l.length := by omega
  have hR : sumB true (l.drop j) <= 400 := by
   rcases e4 with e4 | e4
   ·have hd := sumB_le (l := l.drop j) (fun y hy => hq y (List.mem_of_mem_drop hy)); rw [List.length_drop] at hd; have : l.length - j = 1 := by omega
    rw [this] at hd; omega
   ·omega
  refine ⟨by rw [hc]; exact hjl, by rw [hc]; exact hj, ?_, ?_, ?_, ?_, ⟨?_, ?_, h3, h4⟩, ⟨?_, ?_, ?_, ?_⟩⟩
  ·show (if true then 3 else 5) + sumB true (l.take (Nd.cutAt ⟨true, first, l⟩)) <= 512
   rw [hc, if_pos rfl]; omega
  ·show (if true then 3 else 5) + sumB true (l.drop (Nd.cutAt ⟨true, first, l⟩)) <= 512
   rw [hc, if_pos rfl]; omega
  ·show 1 <= (l.take (Nd.cutAt ⟨true, first, l⟩)).length
   rw [hc, List.length_take]; omega
  ·show 1 <= (l.drop (Nd.cutAt ⟨true, first, l⟩)).length
   rw [hc, List.length_drop]; omega
  ·show (l.take (Nd.cutAt ⟨true, first, l⟩)).length < 65536
   rw [hc, List.length_take]; omega
  ·exact fun y hy => h2 y (List.mem_of_mem_take hy)
  ·show (l.drop (Nd.cutAt ⟨true, first, l⟩)).length < 65536
   rw [hc, List.length_drop]; omega
  ·exact fun y hy => h2 y (List.mem_of_mem_drop hy)
  ·exact Nat.zero_lt_succ _
  ·exact fun _ => rfl
 | false =>
  simp only [if_false, Bool.false_eq_true] at hbig hs hT e4 x2 hx hq; have hlen : 4 <= l.length := by omega
  have hc : Nd.cutAt ⟨false, first, l⟩ = min j (l.length - 2) := by unfold Nd.cutAt; simp only [if_false, Bool.false_eq_true]; rw [hhalf]
  obtain ⟨k, hk⟩ := nm (min j (l.length - 2)); rw [<- hk] at hc; have ht := sumB_take false l k; have hkl : k < l.length := by omega
  obtain ⟨y, hy⟩ := gx hkl; have hd := sumB_drop (lf := false) hy
  have hkj : sumB false (l.take k) <= sumB false (l.take j) := by
   have e : l.take k = (l.take j).take k := by rw [List.take_take, Nat.min_eq_left (by omega)]
   rw [e]; have := sumB_take false (l.take j) k; omega
  have hR : sumB false (l.drop (k + 1)) <= 450 := by
   rcases e4 with e4 | e4
   ·have hd := sumB_le (l := l.drop (k + 1)) (fun y hy => hq y (List.mem_of_mem_drop hy)); rw [List.length_drop] at hd; have : l.length - (k + 1) = 1 := by omega
    rw [this] at hd; omega
   ·by_cases hjk : k = j
    ·rw [hjk] at ht hd ⊢; omega
    ·have hd := sumB_le (l := l.drop (k + 1)) (fun y hy => hq y (List.mem_of_mem_drop hy)); rw [List.length_drop] at hd; have : l.length - (k + 1) = 1 := by omega
     rw [this] at hd; omega
  refine ⟨by rw [hc]; exact hkl, by rw [hc]; omega, ?_, ?_, ?_, ?_, ⟨?_, ?_, h3, h4⟩, ⟨?_, ?_, ?_, ?_⟩⟩
  ·show (if false = true then 3 else 5) + sumB false (l.take (Nd.cutAt ⟨false, first, l⟩)) <= 512
   rw [hc, if_neg (by decide)]; omega
  ·show (if false = true then 3 else 5) + sumB false (l.drop (Nd.cutAt ⟨false, first, l⟩ + 1)) <= 512
   rw [hc, if_neg (by decide)]; omega
  ·show 1 <= (l.take (Nd.cutAt ⟨false, first, l⟩)).length
   rw [hc, List.length_take]; omega
  ·show 1 <= (l.drop (Nd.cutAt ⟨false, first, l⟩ + 1)).length
   rw [hc, List.length_drop]; omega
  ·show (l.take (Nd.cutAt ⟨false, first, l⟩)).length < 65536
   rw [hc, List.length_take]; omega
  ·exact fun y hy => h2 y (List.mem_of_mem_take hy)
  ·show (l.drop (Nd.cutAt ⟨false, first, l⟩ + 1)).length < 65536
   rw [hc, List.length_drop]; omega
  ·exact fun y hy => h2 y (List.mem_of_mem_drop hy)
  ·show ((l[Nd.cutAt ⟨false, first, l⟩]?).map (·.at_)).getD 0 < 65536
   rw [hc, hy]; exact (h2 y (List.mem_of_getElem? hy)).at_
  ·intro h; cases h
def Nd.with_ (n : Nd) (key : Ky) (r : Nd) : Nd := ⟨n.lf, n.first, (if n.lf then n.l else n.l ++ [⟨key, [], r.first⟩]) ++ r.l⟩
section
variable {N : Nat -> Option Nd} {h : Nat} {n a b : Nd} {lo hi : Option Ky} {E E1 E2 : En} {P P1 P2 : List Nat} {k : Ky}
theorem entOf_append (a b : List It) : entOf (a ++ b) = entOf a ++ entOf b := by unfold entOf; rw [List.map_append]
theorem NF.split (hn : NF N h n lo hi E P) (hc : n.cutAt < n.l.length) (h1 : 1 <= n.cutAt) : ∃ E1 P1 E2 P2, NF N h n.left lo (some n.key) E1 P1 /\ NF N h n.right (some n.key) hi E2 P2 /\ E = E1 ++ E2 /\ P = P1 ++ P2 /\ ltHi hi n.key /\ geLo lo n.key := by
 obtain ⟨lf, first, l⟩ := n; obtain ⟨x, hx⟩ : ∃ x, l[Nd.cutAt ⟨lf, first, l⟩]? = some x := ⟨_, List.getElem?_eq_getElem hc⟩; have hk : Nd.key ⟨lf, first, l⟩ = x.key := by unfold Nd.key; rw [hx]; rfl
 have hd : l.drop (Nd.cutAt ⟨lf, first, l⟩) = x :: l.drop (Nd.cutAt ⟨lf, first, l⟩ + 1) := by
  obtain ⟨g1, g2⟩ := List.getElem?_eq_some_iff.1 hx; rw [List.drop_eq_getElem_cons g1, g2]
 have hl : l = l.take (Nd.cutAt ⟨lf, first, l⟩) ++ x :: l.drop (Nd.cutAt ⟨lf, first, l⟩ + 1) := by rw [<- hd, List.take_append_drop]
 rw [hk]
 cases h with
 | zero =>
  obtain ⟨hlf, hE, hP, hr, hw⟩ := hn
  simp only at hlf hE
  subst hlf; obtain ⟨j, hj⟩ := nm (Nd.cutAt ⟨true, first, l⟩); rw [<- hj] at hx hd hl h1; have eL : Nd.left ⟨true, first, l⟩ = ⟨true, first, l.take j⟩ := by unfold Nd.left; rw [<- hj]
  have eR : Nd.right ⟨true, first, l⟩ = ⟨true, 0, l.drop j⟩ := by unfold Nd.right; simp only [if_true]; rw [<- hj]
  rw [eL, eR]; have hEE : E = entOf (l.take j) ++ entOf (l.drop j) := by rw [hE, <- entOf_append, List.take_append_drop]
  have hr' := hr; rw [hEE] at hr'; obtain ⟨r1, r2, r3⟩ := List.pairwise_append.1 hr'; have hxm : (x.key, x.v) ∈ entOf (l.drop j) := by rw [hd]; exact List.mem_cons_self ..
  have hxE : (x.key, x.v) ∈ E := by rw [hEE]; exact List.mem_append_right _ hxm
  refine ⟨entOf (l.take j), [], entOf (l.drop j), [], ⟨rfl, rfl, rfl, r1, fun e he => ⟨(hw e (by rw [hEE]; exact List.mem_append_left _ he)).1, fun b hb => ?_⟩⟩, ⟨rfl, rfl, rfl, r2, fun e he => ⟨fun a ha => ?_, (hw e (by rw [hEE]; exact List.mem_append_right _ he)).2⟩⟩, hEE, hP, (hw _ hxE).2, (hw _ hxE).1⟩
  ·injection hb with hb; rw [<- hb]; exact r3 e he _ hxm
  ·injection ha with ha; rw [<- ha]; rw [hd] at he r2; rcases List.mem_cons.1 he with rfl | he
   ·exact klt_irrefl _
   ·exact klt_asymm ((List.pairwise_cons.1 r2).1 e he)
 | succ h =>
  obtain ⟨hlf, hK⟩ := hn
  simp only at hlf hK
  subst hlf; obtain ⟨j, hj⟩ := nm (Nd.cutAt ⟨false, first, l⟩); rw [<- hj] at hx hd hl; have eL : Nd.left ⟨false, first, l⟩ = ⟨false, first, l.take j⟩ := by unfold Nd.left; rw [<- hj]
  have eR : Nd.right ⟨false, first, l⟩ = ⟨false, x.at_, l.drop (j + 1)⟩ := by unfold Nd.right; simp only [if_false, Bool.false_eq_true]; rw [<- hj, hx]; rfl
  rw [eL, eR]; have hK' : Kids (Sub N 1 h) lo first (l.take j ++ x :: l.drop (j + 1)) hi E P := by rw [<- hl]; exact hK
  obtain ⟨E1, P1, E2, P2, a1, a2, e1, e2⟩ := Kids.cut.1 hK'; obtain ⟨_, b2, b3⟩ := Kids.fine Sub.fine a1; obtain ⟨_, c2, c3⟩ := Kids.fine Sub.fine a2; exact ⟨E1, P1, E2, P2, ⟨rfl, a1⟩, ⟨rfl, a2⟩, e1, e2, c2.midHi c3, b2.mid (_hi := hi) b3⟩
theorem NF.with_ (ha : NF N h a lo (some k) E1 P1) (hb : NF N h b (some k) hi E2 P2) (h1 : ltHi hi k) (h2 : geLo lo k) : NF N h (a.with_ k b) lo hi (E1 ++ E2) (P1 ++ P2) := by
 obtain ⟨lf, first, l⟩ := a
 cases h with
 | zero =>
  obtain ⟨rfl, rfl, rfl, hr, hw⟩ := ha; obtain ⟨hlf, rfl, rfl, hr2, hw2⟩ := hb; refine ⟨rfl, ?_, rfl, hr.append hr2 hw hw2, fun e he => ?_⟩
  ·show _ = entOf (l ++ b.l)
   rw [entOf_append]
  ·rcases List.mem_append.1 he with he | he
   ·exact within_hi hw h1 e he
   ·exact within_lo hw2 h2 e he
 | succ h =>
  obtain ⟨rfl, hK⟩ := ha; obtain ⟨hlf, hK2⟩ := hb; refine ⟨rfl, ?_⟩
  show Kids (Sub N 1 h) lo first ((l ++ [⟨k, [], b.first⟩]) ++ b.l) hi (E1 ++ E2) (P1 ++ P2)
  rw [List.append_assoc]; exact Kids.cut.2 ⟨E1, P1, E2, P2, hK, hK2, rfl, rfl⟩
theorem with_size (hl : a.lf = b.lf) (k : Ky) : (a.with_ k b).size = if a.lf then a.size + b.size - 3 else a.size + b.size + k.length - 2 := by
 obtain ⟨lf, first, l⟩ := a; obtain ⟨lf', first', l'⟩ := b
 simp only at hl
 subst hl
 cases lf with
 | true =>
  show 3 + sumB true (l ++ l') = 3 + sumB true l + (3 + sumB true l') - 3
  rw [sumB_append]; omega
 | false =>
  show 5 + sumB false ((l ++ [⟨k, [], first'⟩]) ++ l') = 5 + sumB false l + (5 + sumB false l') + k.length - 2
  rw [sumB_append, sumB_append, sumB_cons]
  show _ + (_ + (3 + k.length + 0) + _) = _
  omega
theorem with_ok (ha : a.ok) (hb : b.ok) (hl : a.lf = b.lf) (hk : 1 <= k.length /\ k.length <= 96) (hs : a.l.length + b.l.length < 65535) : (a.with_ k b).ok := by
 obtain ⟨lf, first, l⟩ := a; obtain ⟨lf', first', l'⟩ := b
 simp only at hl hs
 subst hl; refine ⟨?_, fun x hx => ?_, ha.first, ha.bare⟩
 ·show ((if lf then l else l ++ [⟨k, [], first'⟩]) ++ l').length < 65536
  rw [List.length_append]
  split
  ·omega
  ·rw [List.length_append]; simp only [List.length_cons, List.length_nil]; omega
 ·have hx' : x ∈ (if lf then l else l ++ [⟨k, [], first'⟩]) ++ l' := hx
  show x.ok lf
  rcases List.mem_append.1 hx' with hx' | hx'
  ·split at hx'
   ·exact ha.item x hx'
   ·rename_i hlf
    rcases List.mem_append.1 hx' with hx' | hx'
    ·exact ha.item x hx'
    ·simp only [List.mem_singleton] at hx'; subst hx'; exact ⟨hk.1, hk.2, Nat.zero_le _, hb.first, by rw [if_neg hlf]⟩
  ·exact hb.item x hx'
end
end
section
structure CD where
 pg : Nat -> List UInt8
 n : Nat
 next : Nat
 head : Nat
 roots : Nat -> Nat
 M : List (Nat × Nd)
 S : List (Nat × Nat)
 e : Nat
noncomputable def CD.N (c : CD) (k : Nat) : Option Nd := if (getA c.S k).isSome then none else match getA c.M k with | some n => some n | none => if 1 <= k /\ k < c.n then decP (c.pg k) else none
def CD.nx (c : CD) (k : Nat) : Option Nat := match getA c.S k with | some j => some j | none => if (getA c.M k).isSome then none else some (r16 (c.pg k))
def CD.write (c : CD) (k : Nat) (n : Nd) : CD := { c with M := putA c.M k n, S := delA c.S k }
def CD.free (c : CD) (k : Nat) : CD := { c with M := delA c.M k, S := putA c.S k c.head, head := k }
def CD.full (c : CD) : CD := if c.e = 0 then { c with e := 5 } else c
def CD.alloc (c : CD) : CD × Nat := if c.head ≠ 0 then ({ c with head := (c.nx c.head).getD 0 }, c.head) else if c.next < c.n then ({ c with next := c.next + 1 }, c.next) else (c.full, 0)
def CD.lay (c : CD) (k : Nat) (n : Nd) : CD × (Ky × Nat) :=
 if n.size <= 512 then (c.write k n, ([], 0)) else ((c.alloc.1.write k n.left).write c.alloc.2 n.right, (n.key, c.alloc.2))
def Nd.way (n : Nd) (key : Ky) : Nat := (n.l.takeWhile fun x => !decide (klt key x.key)).length
def Nd.child (n : Nd) (k : Nat) : Nat := chOf n.first (n.l.take k)
def insAt (l : List It) (k : Nat) (x : It) : List It := l.take k ++ x :: l.drop k
def leafPut (l : List It) (x : It) : List It :=
 l.takeWhile (fun y => decide (klt y.key x.key)) ++
  match l.dropWhile (fun y => decide (klt y.key x.key)) with
  | y :: B => if y.key = x.key then { y with v := x.v } :: B else x :: y :: B
  | [] => [x]
noncomputable def putF : Nat -> CD -> Nat -> It -> Option (CD × (Ky × Nat))
 | 0, _, _, _ => none
 | f + 1, c, k, x =>
  match c.N k with
  | none => none
  | some n =>
   if n.lf then some (c.lay k { n with l := leafPut n.l x })
   else match putF f c (n.child (n.way x.key)) x with
    | none => none
    | some (c', u) => if u.2 = 0 then some (c', ([], 0)) else some (c'.lay k { n with l := insAt n.l (n.way x.key) ⟨u.1, [], u.2⟩ })
def Chain (nx : Nat -> Option Nat) : Nat -> List Nat -> Prop
 | h, [] => h = 0
 | h, a :: F => h = a /\ ∃ j, nx a = some j /\ Chain nx j F
structure Wf (c : CD) : Prop where
 rM : RiseA c.M
 rS : RiseA c.S
 mM : ∀ p ∈ c.M, 1 <= p.1 /\ p.1 < c.n /\ p.2.ok /\ p.2.size <= 512
 mS : ∀ p ∈ c.S, 1 <= p.1 /\ p.1 < c.n /\ p.2 < 65536
theorem mem_delA {α : Type} {m : List (Nat × α)} {k : Nat} {p : Nat × α} (h : p ∈ delA m k) : p ∈ m := (List.mem_filter.1 h).1
theorem mem_putA {α : Type} {m : List (Nat × α)} {k : Nat} {b : α} {p : Nat × α} (h : p ∈ putA m k b) : p = (k, b) ∨ p ∈ m := by
 unfold putA at h; rcases mem_insA.1 h with h | h
 ·exact .inl h
 ·exact .inr (List.mem_filter.1 h).1
theorem Wf.write {c : CD} (h : Wf c) {k : Nat} {n : Nd} (h1 : 1 <= k /\ k < c.n) (h2 : n.ok) (h3 : n.size <= 512) : Wf (c.write k n) := ⟨h.rM.put k n, h.rS.del k, fun p hp => by
 rcases mem_putA hp with rfl | hp
 ·exact ⟨h1.1, h1.2, h2, h3⟩
 ·exact h.mM p hp, fun p hp => h.mS p (mem_delA hp)⟩
theorem Wf.free {c : CD} (h : Wf c) {k : Nat} (h1 : 1 <= k /\ k < c.n) (h2 : c.head < 65536) : Wf (c.free k) := ⟨h.rM.del k, h.rS.put k _, fun p hp => h.mM p (mem_delA hp), fun p hp => by
 rcases mem_putA hp with rfl | hp
 ·exact ⟨h1.1, h1.2, h2⟩
 ·exact h.mS p hp⟩
structure Acc (c : CD) (U F : List Nat) : Prop where
 perm : (U ++ F).Perm (List.range' 1 (c.next - 1))
 next1 : 1 <= c.next
 next2 : c.next <= c.n
 few : c.n <= 4096
 chain : Chain c.nx c.head F
 wf : Wf c
structure Same (c c' : CD) : Prop where
 pg : c'.pg = c.pg
 n : c'.n = c.n
 roots : c'.roots = c.roots
theorem Same.trans {c1 c2 c3 : CD} (h : Same c1 c2) (h' : Same c2 c3) : Same c1 c3 := ⟨by rw [h'.pg, h.pg], by rw [h'.n, h.n], by rw [h'.roots, h.roots]⟩
section
variable {c c' : CD} {U U' F R P : List Nat} {k : Nat} {n : Nd}
theorem Acc.swap (h : Acc c U F) (hp : U'.Perm U) : Acc c U' F := ⟨(hp.append_right F).trans h.perm, h.next1, h.next2, h.few, h.chain, h.wf⟩
theorem Acc.nodup (h : Acc c U F) : (U ++ F).Nodup := h.perm.nodup_iff.2 (List.nodup_range' ..)
theorem Acc.mem (h : Acc c U F) (hk : k ∈ U ∨ k ∈ F) : 1 <= k /\ k < c.next := by
 have := (h.perm.mem_iff (a := k)).1 (List.mem_append.2 hk); rw [List.mem_range'_1] at this; have := h.next1; omega
theorem Acc.apart (h : Acc c U F) (hk : k ∈ U) : k ∉ F := fun hf => (List.nodup_append.1 h.nodup).2.2 k hk k hf rfl
theorem Chain.congr {nx nx' : Nat -> Option Nat} : ∀ {F : List Nat} {h : Nat}, Chain nx h F -> (∀ k ∈ F, nx' k = nx k) -> Chain nx' h F
 | [], _, h, _ => h
 | a :: F, _, ⟨h1, j, h2, h3⟩, hn => ⟨h1, j, by rw [hn a (List.mem_cons_self ..)]; exact h2, Chain.congr h3 (fun k hk => hn k (List.mem_cons_of_mem _ hk))⟩
theorem N_write (j : Nat) : (c.write k n).N j = if j = k then some n else c.N j := by
 unfold CD.N CD.write
 simp only
 rw [getA_put, getA_del]
 by_cases h : j = k
 ·rw [if_pos h, if_pos h, if_pos h]; rfl
 ·rw [if_neg h, if_neg h, if_neg h]
theorem nx_write {j : Nat} (h : j ≠ k) : (c.write k n).nx j = c.nx j := by
 unfold CD.nx CD.write
 simp only
 rw [getA_del, getA_put, if_neg h, if_neg h]
theorem N_free {j : Nat} (h : j ≠ k) : (c.free k).N j = c.N j := by
 unfold CD.N CD.free
 simp only
 rw [getA_del, getA_put, if_neg h, if_neg h]
theorem nx_free (j : Nat) : (c.free k).nx j = if j = k then some c.head else c.nx j := by
 unfold CD.nx CD.free
 simp only
 rw [getA_put, getA_del]
 by_cases h : j = k
 ·simp [h]
 ·simp [h]
theorem Acc.head (h : Acc c U F) : c.head < 65536 := by
 cases F with
 | nil => have : c.head = 0 := h.chain; omega
 | cons a F =>
  have h1 := h.chain.1; have := (h.mem (k := a) (.inr (List.mem_cons_self ..))).2; have := h.next2; have := h.few; omega
theorem Acc.write (h : Acc c U F) (hk : k ∈ U) (hok : n.ok) (hs : n.size <= 512) : Acc (c.write k n) U F :=
 ⟨h.perm, h.next1, h.next2, h.few, h.chain.congr fun j hj => nx_write fun (e : j = k) => h.apart hk (e ▸ hj), h.wf.write (by have := h.mem (.inl hk); have := h.next2; omega) hok hs⟩
theorem Acc.free (h : Acc c (k :: U) F) : Acc (c.free k) U (k :: F) := by
 refine ⟨?_, h.next1, h.next2, h.few, ⟨rfl, c.head, by rw [nx_free, if_pos rfl], ?_⟩, h.wf.free (by have := h.mem (k := k) (.inl (List.mem_cons_self ..)); have := h.next2; omega) h.head⟩
 ·refine List.Perm.trans ?_ h.perm; exact List.perm_middle
 ·refine h.chain.congr fun j hj => ?_; rw [nx_free, if_neg fun (e : j = k) => h.apart (k := k) (List.mem_cons_self ..) (e ▸ hj)]
theorem alloc_ok (h : Acc c U F) (he : c.e = 0) :
  (c.alloc.2 ≠ 0 /\ c.alloc.1.e = 0 /\ Same c c.alloc.1 /\ c.alloc.1.M = c.M /\ c.alloc.1.S = c.S /\ ∃ F', Acc c.alloc.1 (c.alloc.2 :: U) F') ∨
  (c.alloc.2 = 0 /\ c.alloc.1 = { c with e := 5 } /\ F = [] /\ c.next = c.n) := by
 unfold CD.alloc
 by_cases hh : c.head ≠ 0
 ·rw [if_pos hh]
  left
  cases F with
  | nil => exact absurd h.chain hh
  | cons a F =>
   obtain ⟨h1, j, h2, h3⟩ := h.chain; refine ⟨hh, he, ⟨rfl, rfl, rfl⟩, rfl, rfl, F, ?_, h.next1, h.next2, h.few, ?_, ⟨h.wf.rM, h.wf.rS, h.wf.mM, h.wf.mS⟩⟩
   ·refine List.Perm.trans ?_ h.perm
    simp only
    rw [h1]; exact List.perm_middle.symm
   ·show Chain c.nx ((c.nx c.head).getD 0) F
    rw [h1, h2]; exact h3
 ·rw [if_neg hh]
  have hF : F = [] := by
   cases F with
   | nil => rfl
   | cons a F =>
    exfalso
    have := (h.mem (k := a) (.inr (List.mem_cons_self ..))).1; have := h.chain.1; omega
  subst hF
  by_cases hn : c.next < c.n
  ·rw [if_pos hn]
   left
   have h1 := h.next1; refine ⟨by show c.next ≠ 0; omega, he, ⟨rfl, rfl, rfl⟩, rfl, rfl, [], ?_, by show 1 <= c.next + 1; omega, hn, h.few, h.chain, ⟨h.wf.rM, h.wf.rS, h.wf.mM, h.wf.mS⟩⟩; have hp := h.perm; rw [List.append_nil] at hp ⊢
   show (c.next :: U).Perm (List.range' 1 (c.next + 1 - 1))
   have e : List.range' 1 (c.next + 1 - 1) = List.range' 1 (c.next - 1) ++ [c.next] := by
    rw [show c.next + 1 - 1 = (c.next - 1) + 1 by omega, List.range'_concat, show 1 + 1 * (c.next - 1) = c.next by omega]
   rw [e]; exact (hp.cons _).trans (List.perm_append_singleton ..).symm
  ·rw [if_neg hn]
   right
   have := h.next2; refine ⟨rfl, ?_, rfl, by omega⟩; unfold CD.full; rw [if_pos he]
end
def Res (N : Nat -> Option Nd) (m h at_ : Nat) (lo hi : Option Ky) (E : En) (u : Ky × Nat) (P : List Nat) : Prop :=
 (u.2 = 0 /\ Sub N m h at_ lo hi E P) ∨
 (u.2 ≠ 0 /\ 1 <= u.1.length /\ u.1.length <= 96 /\ geLo lo u.1 /\ ltHi hi u.1 /\ ∃ E1 P1 E2 P2, Sub N 1 h at_ lo (some u.1) E1 P1 /\ Sub N 1 h u.2 (some u.1) hi E2 P2 /\ E = E1 ++ E2 /\ P = P1 ++ P2)
def Left (c c' : CD) (m h at_ : Nat) (lo hi : Option Ky) (E : En) (u : Ky × Nat) (R : List Nat) : Prop :=
 Same c c' /\ ((c'.e = 0 /\ ∃ P F, Acc c' (P ++ R) F /\ (∀ p ∈ R, c'.N p = c.N p) /\ Res c'.N m h at_ lo hi E u P) ∨ (c'.e = 5 /\ u.2 = 0 /\ (∀ p ∈ R, c'.N p = c.N p) /\ (∃ n, c'.N at_ = some n) /\ c.n <= 2 * E.length + R.length))
section
variable {c c' : CD} {U F R P : List Nat} {k m h : Nat} {n : Nd} {lo hi : Option Ky} {E : En}
theorem lay_ok (hn : NF c.N h n lo hi E P) (ha : Acc c (k :: P ++ R) F) (he : c.e = 0) (hok : n.ok) (hs : n.size <= if n.lf then 680 else 780) (hm : m <= n.l.length) :
  Left c (c.lay k n).1 m h k lo hi E (c.lay k n).2 R := by
 have hnd := ha.nodup; have hkF : k ∉ F := ha.apart (k := k) (List.mem_append_left _ (List.mem_cons_self ..))
 have hkP : k ∉ P /\ k ∉ R := by
  have h1 := (List.nodup_append.1 hnd).1; rw [List.cons_append, List.nodup_cons, List.mem_append] at h1; exact ⟨fun h => h1.1 (.inl h), fun h => h1.1 (.inr h)⟩
 unfold CD.lay
 by_cases hsz : n.size <= 512
 ·rw [if_pos hsz]; refine ⟨⟨rfl, rfl, rfl⟩, .inl ⟨he, k :: P, F, ha.write (by simp) hok hsz, fun p hp => ?_, .inl ⟨rfl, n, P, ?_, hok, hsz, hm, rfl, hn.congr fun p hp => ?_⟩⟩⟩
  ·rw [N_write, if_neg fun (e : p = k) => hkP.2 (e ▸ hp)]
  ·rw [N_write, if_pos rfl]
  ·rw [N_write, if_neg fun (e : p = k) => hkP.1 (e ▸ hp)]
 ·rw [if_neg hsz]; obtain ⟨s1, s2, s3, s4, s5, s6, s7, s8⟩ := Nd.split_ok hok (by omega) hs; obtain ⟨x, hx⟩ : ∃ x, n.l[n.cutAt]? = some x := ⟨_, List.getElem?_eq_getElem s1⟩; have hkey : n.key = x.key := by unfold Nd.key; rw [hx]; rfl
  have hxo := hok.item x (List.mem_of_getElem? hx); obtain ⟨E1, P1, E2, P2, n1, n2, rfl, rfl, hh, hl⟩ := hn.split s1 s2; rcases alloc_ok ha he with ⟨b1, b2, b3, b4, b5, F', b6⟩ | ⟨b1, b2, b3, b4⟩
  ·have hnd2 := b6.nodup; obtain ⟨t, ht⟩ := nm (c.alloc.2); obtain ⟨d, hd⟩ := nm (c.alloc.1); rw [<- ht, <- hd]; rw [<- ht] at b1 b6 hnd2; rw [<- hd] at b2 b3 b4 b5 b6; have hdN : ∀ p, d.N p = c.N p := fun p => by unfold CD.N; rw [b4, b5, b3.n, b3.pg]
   have htF : t ∉ F' := b6.apart (k := t) (List.mem_cons_self ..); have hkF' : k ∉ F' := b6.apart (k := k) (List.mem_cons_of_mem _ (List.mem_append_left _ (List.mem_cons_self ..)))
   have htU : t ∉ k :: (P1 ++ P2) ++ R := by
    have h1 := (List.nodup_append.1 hnd2).1; exact (List.nodup_cons.1 h1).1
   have htk : t ≠ k := fun e => htU (by rw [e]; exact List.mem_append_left _ (List.mem_cons_self ..))
   have hN : ∀ p, p ∈ P1 ∨ p ∈ P2 ∨ p ∈ R -> ((d.write k n.left).write t n.right).N p = c.N p := fun p hp => by
    have h1 : p ≠ t := fun e => htU (by
     rw [<- e]; rcases hp with hp | hp | hp
     ·exact List.mem_append_left _ (List.mem_cons_of_mem _ (List.mem_append_left _ hp))
     ·exact List.mem_append_left _ (List.mem_cons_of_mem _ (List.mem_append_right _ hp))
     ·exact List.mem_append_right _ hp)
    have h2 : p ≠ k := fun e => by
     rw [e] at hp; rcases hp with hp | hp | hp
     ·exact hkP.1 (List.mem_append_left _ hp)
     ·exact hkP.1 (List.mem_append_right _ hp)
     ·exact hkP.2 hp
    rw [N_write, if_neg h1, N_write, if_neg h2, hdN]
   refine ⟨⟨b3.pg, b3.n, b3.roots⟩, .inl ⟨b2, (k :: P1) ++ (t :: P2), F', ((b6.write (by simp) s7 s3).write (by simp) s8 s4).swap ?_, fun p hp => hN p (.inr (.inr hp)), .inr ⟨b1, by rw [hkey]; exact hxo.k1, by rw [hkey]; exact hxo.k2, hl, hh, E1, k :: P1, E2, t :: P2, ?_, ?_, rfl, rfl⟩⟩⟩
   ·rw [List.perm_iff_count]; intro a; simp only [List.count_append, List.count_cons]; omega
   ·exact ⟨n.left, P1, by rw [N_write, if_neg (Ne.symm htk), N_write, if_pos rfl], s7, s3, s5, rfl, n1.congr fun p hp => hN p (.inl hp)⟩
   ·exact ⟨n.right, P2, by rw [N_write, if_pos rfl], s8, s4, s6, rfl, n2.congr fun p hp => hN p (.inr (.inl hp))⟩
  ·have hful : c.n <= 2 * (E1 ++ E2).length + R.length := by
    have hq := (hn.count (by omega)).1; have hp := ha.perm.length_eq; rw [b3, b4, List.length_range', List.append_nil, List.length_append, List.length_cons] at hp; have := ha.next1; omega
   rw [b1, b2]
   have h0 : k ≠ 0 := by
    have := (ha.mem (k := k) (.inl (List.mem_append_left _ (List.mem_cons_self ..)))).1; omega
   refine ⟨⟨rfl, rfl, rfl⟩, .inr ⟨rfl, rfl, fun p hp => ?_, ⟨n.left, ?_⟩, hful⟩⟩
   ·have h1 := (ha.mem (k := p) (.inl (List.mem_append_right _ hp))).1; have h2 : p ≠ k := fun e => hkP.2 (e ▸ hp); rw [N_write, if_neg (by omega), N_write, if_neg h2]
    rfl
   ·rw [N_write, if_neg h0, N_write, if_pos rfl]
end
def putE (E : En) (k : Ky) (v : List UInt8) : En := E.filter (fun e => decide (klt e.1 k)) ++ (k, v) :: E.filter (fun e => decide (klt k e.1))
def delE (E : En) (k : Ky) : En := E.filter fun e => !decide (e.1 = k)
theorem putE_mid {EA E0 EB : En} {k : Ky} {v : List UInt8} (h1 : ∀ e ∈ EA, klt e.1 k) (h2 : ∀ e ∈ EB, klt k e.1) : putE (EA ++ (E0 ++ EB)) k v = EA ++ (putE E0 k v ++ EB) := by
 have a1 : EA.filter (fun e => decide (klt e.1 k)) = EA := List.filter_eq_self.2 fun e he => by simpa using h1 e he
 have a2 : EA.filter (fun e => decide (klt k e.1)) = [] := List.filter_eq_nil_iff.2 fun e he => by simpa using klt_asymm (h1 e he)
 have b1 : EB.filter (fun e => decide (klt e.1 k)) = [] := List.filter_eq_nil_iff.2 fun e he => by simpa using klt_asymm (h2 e he)
 have b2 : EB.filter (fun e => decide (klt k e.1)) = EB := List.filter_eq_self.2 fun e he => by simpa using h2 e he
 unfold putE; rw [List.filter_append, List.filter_append, List.filter_append, List.filter_append, a1, a2, b1, b2]
 simp
theorem delE_mid {EA E0 EB : En} {k : Ky} (h1 : ∀ e ∈ EA, klt e.1 k) (h2 : ∀ e ∈ EB, klt k e.1) : delE (EA ++ (E0 ++ EB)) k = EA ++ (delE E0 k ++ EB) := by
 have a1 : EA.filter (fun e => !decide (e.1 = k)) = EA := List.filter_eq_self.2 fun e he => by
  have := h1 e he; simp only [Bool.not_eq_true', decide_eq_false_iff_not]; exact fun hk => klt_irrefl k (by rw [hk] at this; exact this)
 have b1 : EB.filter (fun e => !decide (e.1 = k)) = EB := List.filter_eq_self.2 fun e he => by
  have := h2 e he; simp only [Bool.not_eq_true', decide_eq_false_iff_not]; exact fun hk => klt_irrefl k (by rw [hk] at this; exact this)
 unfold delE; rw [List.filter_append, List.filter_append, a1, b1]
theorem dropWhile_head {α : Type} {p : α -> Bool} : ∀ {l : List α} {x : α} {B : List α}, l.dropWhile p = x :: B -> p x = false
 | [], _, _, h => by cases h
 | y :: l, x, B, h => by
  by_cases hy : p y
  ·rw [List.dropWhile_cons_of_pos hy] at h; exact dropWhile_head h
  ·rw [List.dropWhile_cons_of_neg hy] at h; injection h with h _; rw [<- h]; simpa using hy
theorem takeWhile_all {α : Type} {p : α -> Bool} : ∀ {l : List α}, ∀ x ∈ l.takeWhile p, p x = true
 | [], x, h => by cases h
 | y :: l, x, h => by
  by_cases hy : p y
  ·rw [List.takeWhile_cons_of_pos hy] at h; rcases List.mem_cons.1 h with rfl | h
   ·exact hy
   ·exact takeWhile_all x h
  ·rw [List.takeWhile_cons_of_neg hy] at h; cases h
theorem leafPut_ent {l : List It} {x : It} (hr : Rise (entOf l)) : entOf (leafPut l x) = putE (entOf l) x.key x.v := by
 obtain ⟨A, hA⟩ := nm (l.takeWhile fun y => decide (klt y.key x.key)); obtain ⟨D, hD⟩ := nm (l.dropWhile fun y => decide (klt y.key x.key)); have hl : l = A ++ D := by rw [hA, hD, List.takeWhile_append_dropWhile]
 have h1 : ∀ e ∈ entOf A, klt e.1 x.key := fun e he => by
  obtain ⟨y, hy, rfl⟩ := List.mem_map.1 he; rw [hA] at hy
  simpa using takeWhile_all y hy
 unfold leafPut; rw [<- hA, <- hD]; rw [hl, entOf_append] at hr; obtain ⟨_, r2, _⟩ := List.pairwise_append.1 hr; rw [hl, entOf_append, entOf_append]
 have e0 : putE (entOf A ++ entOf D) x.key x.v = entOf A ++ putE (entOf D) x.key x.v := by
  have := putE_mid (EA := entOf A) (E0 := entOf D) (EB := []) (k := x.key) (v := x.v) h1 (fun e he => by cases he)
  simpa using this
 rw [e0]
 congr 1
 cases hDc : D with
 | nil => rfl
 | cons y B =>
  have hy : ¬ klt y.key x.key := by
   rw [hD] at hDc
   simpa using dropWhile_head hDc
  rw [hDc] at r2; have r2' := (List.pairwise_cons.1 r2).1
  simp only
  by_cases hk : y.key = x.key
  ·rw [if_pos hk]; have h2 : ∀ e ∈ entOf B, klt x.key e.1 := fun e he => by rw [<- hk]; exact r2' e he
   show (y.key, x.v) :: entOf B = putE ((y.key, y.v) :: entOf B) x.key x.v
   have := putE_mid (EA := []) (E0 := [(y.key, y.v)]) (EB := entOf B) (k := x.key) (v := x.v) (fun e he => by cases he) h2; simp only [List.nil_append, List.singleton_append] at this; rw [this, hk]
   simp [putE, klt_irrefl]
  ·rw [if_neg hk]
   have hxy : klt x.key y.key := by
    by_cases h : klt x.key y.key
    ·exact h
    ·exact absurd (klt_tri hy h) hk
   have h2 : ∀ e ∈ entOf (y :: B), klt x.key e.1 := fun e he => by
    rcases List.mem_cons.1 he with rfl | he
    ·exact hxy
    ·exact klt_trans hxy (r2' e he)
   have := putE_mid (EA := []) (E0 := []) (EB := entOf (y :: B)) (k := x.key) (v := x.v) (fun e he => by cases he) h2; simp only [List.nil_append] at this; rw [this]
   rfl
theorem leafPut_mem {l : List It} {x y : It} (hy : y ∈ leafPut l x) : y = x ∨ y ∈ l ∨ ∃ z ∈ l, y = { z with v := x.v } := by
 unfold leafPut at hy; rcases List.mem_append.1 hy with hy | hy
 ·exact .inr (.inl ((List.takeWhile_sublist _).mem hy))
 ·split at hy
  ·rename_i z B hz
   have hm : ∀ q, q ∈ z :: B -> q ∈ l := fun q hq => by rw [<- hz] at hq; exact (List.dropWhile_sublist _).mem hq
   split at hy
   ·rcases List.mem_cons.1 hy with rfl | hy
    ·exact .inr (.inr ⟨z, hm z (List.mem_cons_self ..), rfl⟩)
    ·exact .inr (.inl (hm y (List.mem_cons_of_mem _ hy)))
   ·rcases List.mem_cons.1 hy with rfl | hy
    ·exact .inl rfl
    ·exact .inr (.inl (hm y hy))
  ·rw [List.mem_singleton] at hy; exact .inl hy
theorem leafPut_size {l : List It} {x : It} (hx : x.ok true) (_hl : ∀ y ∈ l, y.ok true) : sumB true (leafPut l x) <= sumB true l + 162 /\ (leafPut l x).length <= l.length + 1 /\ 1 <= (leafPut l x).length := by
 have h := ibn_le hx; rw [if_pos rfl] at h; have hs : sumB true l = sumB true (l.takeWhile fun y => decide (klt y.key x.key)) + sumB true (l.dropWhile fun y => decide (klt y.key x.key)) := by rw [<- sumB_append, List.takeWhile_append_dropWhile]
 have hn : l.length = (l.takeWhile fun y => decide (klt y.key x.key)).length + (l.dropWhile fun y => decide (klt y.key x.key)).length := by rw [<- List.length_append, List.takeWhile_append_dropWhile]
 unfold leafPut; rw [hs, sumB_append, List.length_append, hn]
 cases hD : l.dropWhile fun y => decide (klt y.key x.key) with
 | nil =>
  simp only [sumB_cons, List.length_cons, List.length_nil]; have : sumB true [] = 0 := rfl; omega
 | cons y B =>
  simp only
  split
  ·simp only [sumB_cons, List.length_cons]; have hv := hx.v; have : ibn true { y with v := x.v } <= ibn true y + 64 := by unfold ibn; simp only [if_true]; omega
   omega
  ·simp only [sumB_cons, List.length_cons]; omega
theorem way_split {n : Nd} {key : Ky} {lo hi : Option Ky} (h1 : geLo lo key) (h2 : ltHi hi key) :
  ∃ A B, n.l = A ++ B /\ A.length = n.way key /\ n.l.take (n.way key) = A /\ n.l.drop (n.way key) = B /\ geLo (loOf lo A) key /\ ltHi (hiOf hi B) key := by
 obtain ⟨A, hA⟩ := nm (n.l.takeWhile fun x => !decide (klt key x.key)); obtain ⟨B, hB⟩ := nm (n.l.dropWhile fun x => !decide (klt key x.key)); have hl : n.l = A ++ B := by rw [hA, hB, List.takeWhile_append_dropWhile]
 have hw : n.way key = A.length := by rw [hA]; rfl
 refine ⟨A, B, hl, hw.symm, by rw [hw, hl, List.take_left], by rw [hw, hl, List.drop_left], ?_, ?_⟩
 ·have : ∀ x ∈ A, ¬ klt key x.key := fun x hx => by rw [hA] at hx; simpa using takeWhile_all x hx
  clear hA hl hw
  induction A generalizing lo with
  | nil => exact h1
  | cons x A ih =>
   refine ih (lo := some x.key) (fun a ha => ?_) (fun y hy => this y (List.mem_cons_of_mem _ hy)); injection ha with ha; rw [<- ha]; exact this x (List.mem_cons_self ..)
 ·cases hBc : B with
  | nil => exact h2
  | cons x B' =>
   intro b hb; injection hb with hb; rw [<- hb]; rw [hB] at hBc
   simpa using dropWhile_head hBc
theorem putE_focus {S : SubT} (hS : Fine S) {A B : List It} {lo hi : Option Ky} {c : Nat} {EA _E0 EB : En} {PA PB : List Nat} {k : Ky} (hA : KidsL S lo c A EA PA) (hB : KidsR S B hi EB PB) (hp : A.Pairwise fun x y => klt x.key y.key)
  (h1 : geLo (loOf lo A) k) (h2 : ltHi (hiOf hi B) k) : (∀ e ∈ EA, klt e.1 k) /\ ∀ e ∈ EB, klt k e.1 := by
 refine ⟨fun e he => ?_, fun e he => ?_⟩
 ·obtain ⟨a, ha, hl⟩ := KidsL.less hS hA hp e he; exact klt_lt_le hl (h1 a ha)
 ·obtain ⟨b, hb, hl⟩ := KidsR.more hS hB e he; exact klt_lt_le (h2 b hb) hl
theorem put_ok : ∀ (h : Nat) {f : Nat} {c : CD} {k : Nat} {lo hi : Option Ky} {E : En} {P R F : List Nat} {x : It}, h < f -> Sub c.N 1 h k lo hi E P -> Acc c (P ++ R) F -> c.e = 0 -> x.ok true -> geLo lo x.key -> ltHi hi x.key ->
  ∃ c' u, putF f c k x = some (c', u) /\ Left c c' 1 h k lo hi (putE E x.key x.v) u R
 | 0, f, c, k, lo, hi, E, P, R, F, x, hf, hs, ha, he, hx, h1, h2 => by
  obtain ⟨f, rfl⟩ : ∃ g, f = g + 1 := ⟨f - 1, by omega⟩; obtain ⟨n, P', e1, hok, hsz, hm, rfl, hlf, rfl, rfl, hr, hw⟩ := hs; have hi' : ∀ y ∈ n.l, y.ok true := fun y hy => by have := hok.item y hy; rwa [hlf] at this
  obtain ⟨z1, z2, z3⟩ := leafPut_size hx hi'; have hsE : n.size = 3 + sumB true n.l := by rw [size_eq, hlf]; rfl
  have hsE' : Nd.size { n with l := leafPut n.l x } = 3 + sumB true (leafPut n.l x) := by rw [size_eq]; simp only [hlf]; rfl
  have hfew : n.l.length <= 509 := by
   have : ∀ l : List It, (∀ y ∈ l, y.ok true) -> l.length <= sumB true l := fun l hl => by
    induction l with
    | nil => exact Nat.zero_le _
    | cons y l ih =>
     have := ih (fun q hq => hl q (List.mem_cons_of_mem _ hq)); rw [sumB_cons, List.length_cons]; unfold ibn; simp only [if_true]; omega
   have := this n.l hi'; omega
  have key : NF c.N 0 { n with l := leafPut n.l x } lo hi (putE (entOf n.l) x.key x.v) [] := by
   have hE := leafPut_ent (x := x) hr; refine ⟨hlf, hE.symm, rfl, ?_, fun e he => ?_⟩
   ·unfold putE; refine List.pairwise_append.2 ⟨hr.filter _, List.pairwise_cons.2 ⟨fun e he => by simpa using (List.mem_filter.1 he).2, hr.filter _⟩, fun a ha b hb => ?_⟩; have a1 : klt a.1 x.key := by simpa using (List.mem_filter.1 ha).2
    rcases List.mem_cons.1 hb with rfl | hb
    ·exact a1
    ·exact klt_trans a1 (by simpa using (List.mem_filter.1 hb).2)
   ·unfold putE at he; rcases List.mem_append.1 he with he | he
    ·exact hw e (List.mem_filter.1 he).1
    ·rcases List.mem_cons.1 he with rfl | he
     ·exact ⟨h1, h2⟩
     ·exact hw e (List.mem_filter.1 he).1
  have hl := lay_ok (m := 1) key (R := R) (F := F) ha he (k := k) ⟨by show (leafPut n.l x).length < 65536; omega, fun y hy => ?_, hok.first, hok.bare⟩ (by rw [hsE']; simp only [hlf, if_true]; omega) z3
  ·refine ⟨_, _, ?_, hl⟩; unfold putF; rw [e1]
   simp only
   rw [if_pos hlf]
  ·show y.ok n.lf
   rw [hlf]; rcases leafPut_mem hy with rfl | hy | ⟨z, hz, rfl⟩
   ·exact hx
   ·exact hi' y hy
   ·have q := hi' z hz; exact ⟨q.k1, q.k2, hx.v, q.at_, by simpa using q.bare⟩
 | h + 1, f, c, k, lo, hi, E, P, R, F, x, hf, hs, ha, he, hx, h1, h2 => by
  obtain ⟨f, rfl⟩ : ∃ g, f = g + 1 := ⟨f - 1, by omega⟩; obtain ⟨n, P', e1, hok, hsz, hm, rfl, hlf, hK⟩ := hs; obtain ⟨A, B, hl, hAl, hAt, hBd, g1, g2⟩ := way_split (n := n) h1 h2; have hkeys := (Kids.keys Sub.fine hK).1; rw [hl] at hK hkeys; have hpA := (List.pairwise_append.1 hkeys).1; obtain ⟨EA, PA, E0, P0, EB, PB, kL, k0, kR, rfl, rfl⟩ := Kids.focus.1 hK; obtain ⟨q1, q2⟩ := putE_focus Sub.fine kL kR (_E0 := E0) hpA g1 g2; have hch : n.child (n.way x.key) = chOf n.first A := by unfold Nd.child; rw [hAt]
  have haI : Acc c (P0 ++ (k :: (PA ++ PB) ++ R)) F := ha.swap (by
   rw [List.perm_iff_count]; intro a; simp only [List.count_append, List.count_cons]; omega)
  obtain ⟨c', u, ep, sm, hres⟩ := put_ok h (f := f) (by omega) k0 haI he hx g1 g2
  have epf : putF (f + 1) c k x = if u.2 = 0 then some (c', ([], 0)) else some (c'.lay k { n with l := A ++ ⟨u.1, [], u.2⟩ :: B }) := by
   unfold putF; rw [e1]
   simp only
   rw [if_neg (by rw [hlf]; decide), hch, ep]
   simp only
   unfold insAt; rw [hAt, hBd]
  rw [epf]; rcases hres with ⟨e0, Pn, Fn, ha', hR, hres⟩ | ⟨e5, u0, hR, _, hful⟩
  ·have hNk : c'.N k = some n := by rw [hR k (List.mem_append_left _ (List.mem_cons_self ..))]; exact e1
   have mono : ∀ {Q : List Nat}, (∀ p ∈ Q, p ∈ PA ∨ p ∈ PB) -> ∀ cc lo hi E P', (∀ p ∈ P', p ∈ Q) -> Sub c.N 1 h cc lo hi E P' -> Sub c'.N 1 h cc lo hi E P' := fun hQ cc lo hi E P' hP hsub =>
    hsub.congr fun p hp => hR p (List.mem_append_left _ (List.mem_cons_of_mem _ (List.mem_append.2 (hQ p (hP p hp)))))
   have kL' := KidsL.mono (mono (Q := PA) (fun p hp => .inl hp)) (fun p hp => hp) kL; have kR' := KidsR.mono (mono (Q := PB) (fun p hp => .inr hp)) (fun p hp => hp) kR; have hRR : ∀ p ∈ R, c'.N p = c.N p := fun p hp => hR p (List.mem_append_right _ hp); rw [putE_mid q1 q2]; rcases hres with ⟨u0, hsub⟩ | ⟨u0, u1, u2, u3, u4, E1, P1, E2, P2, s1, s2, eE, rfl⟩
   ·rw [if_pos u0]; refine ⟨c', ([], 0), rfl, sm, .inl ⟨e0, k :: (PA ++ (Pn ++ PB)), Fn, ha'.swap ?_, hRR, .inl ⟨rfl, n, PA ++ (Pn ++ PB), hNk, hok, hsz, hm, rfl, hlf, ?_⟩⟩⟩
    ·rw [List.perm_iff_count]; intro a; simp only [List.count_append, List.count_cons]; omega
    ·rw [hl]; exact Kids.focus.2 ⟨EA, PA, _, Pn, EB, PB, kL', hsub, kR', rfl, rfl⟩
   ·rw [if_neg u0]
    have hu : u.2 < 65536 := by
     have := (ha'.mem (k := u.2) (.inl (List.mem_append_left _ (List.mem_append_right _ s2.head)))).2; have := ha'.next2; have := ha'.few; omega
    have hnf : NF c'.N (h + 1) { n with l := A ++ ⟨u.1, [], u.2⟩ :: B } lo hi (EA ++ (putE E0 x.key x.v ++ EB)) (PA ++ ((P1 ++ P2) ++ PB)) := by
     refine ⟨hlf, ?_⟩; rw [eE]; exact Kids.focus2.2 ⟨EA, PA, E1, P1, E2, P2, EB, PB, kL', s1, s2, kR', rfl, rfl⟩
    have hsz' : Nd.size { n with l := A ++ ⟨u.1, [], u.2⟩ :: B } = n.size + (3 + u.1.length) := by
     rw [size_eq, size_eq, hl, sumB_append, sumB_append, sumB_cons]; simp only [ibn, hlf, if_false, Bool.false_eq_true]; omega
    have hlen : n.l.length <= 507 := by
     have : ∀ l : List It, l.length <= sumB false l := fun l => by
      induction l with
      | nil => exact Nat.zero_le _
      | cons y l ih => rw [sumB_cons, List.length_cons]; unfold ibn; simp only [if_false, Bool.false_eq_true]; omega
     have := this n.l; rw [size_eq, hlf] at hsz; simp only [if_false, Bool.false_eq_true] at hsz; omega
    have hl2 := lay_ok (m := 1) hnf (R := R) (F := Fn) (k := k) (ha'.swap (by
     rw [List.perm_iff_count]; intro a; simp only [List.count_append, List.count_cons]
     omega)) e0 ⟨by
      show (A ++ ⟨u.1, [], u.2⟩ :: B).length < 65536
      have : n.l.length = A.length + B.length := by rw [hl, List.length_append]
      rw [List.length_append, List.length_cons]; omega, fun y hy => by
      show y.ok n.lf
      rcases List.mem_append.1 hy with hy | hy
      ·exact hok.item y (by rw [hl]; exact List.mem_append_left _ hy)
      ·rcases List.mem_cons.1 hy with rfl | hy
       ·exact ⟨u1, u2, Nat.zero_le _, hu, by rw [hlf]; rfl⟩
       ·exact hok.item y (by rw [hl]; exact List.mem_append_right _ hy), hok.first, hok.bare⟩
     (by rw [hsz']; simp only [hlf, if_false, Bool.false_eq_true]; omega) (by show 1 <= (A ++ _ :: B).length; rw [List.length_append, List.length_cons]; omega)
    obtain ⟨sm2, hl2⟩ := hl2; refine ⟨_, _, rfl, sm.trans sm2, ?_⟩; rcases hl2 with ⟨z0, Pz, Fz, z1, z2, z3⟩ | z
    ·exact .inl ⟨z0, Pz, Fz, z1, fun p hp => (z2 p hp).trans (hRR p hp), z3⟩
    ·exact .inr ⟨z.1, z.2.1, fun p hp => (z.2.2.1 p hp).trans (hRR p hp), z.2.2.2.1, by rw [<- sm.n]; exact z.2.2.2.2⟩
  ·rw [if_pos u0]
   exact ⟨c', ([], 0), rfl, sm, .inr ⟨e5, rfl, fun p hp => hR p (List.mem_append_right _ hp), ⟨n, by rw [hR k (List.mem_append_left _ (List.mem_cons_self ..))]; exact e1⟩, by
    have a1 := KidsL.count (fun c lo hi E P h => (Sub.count h).1) kL; have a2 := KidsR.count (fun c lo hi E P h => (Sub.count h).1) kR; have a3 : n.l.length = A.length + B.length := by rw [hl, List.length_append]
    rw [putE_mid q1 q2]; simp only [List.length_append, List.length_cons] at hful ⊢; omega⟩⟩
end
end Go.Proofs.YtpjbdpepofnleaaGreat
