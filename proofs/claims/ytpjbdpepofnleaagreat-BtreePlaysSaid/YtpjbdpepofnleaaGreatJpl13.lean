/-
  Joined by join.py: Ng LayB Oa Ob
-/
import Derived.Shelf.SlIterI.Nil
import Derived.Shelf.SlSorted.Search
import Derived.Test.YtpjbdpepofnleaaGreatProg
import Derived.Lib.Bytealg
import Derived.Lib.BytesEntry
import Derived.Laws.Externs
import Derived.Lib.LazyBuf
import Derived.Shelf.Spec.SlicesInsertGrow
import Derived.Test.YtpjbdpepofnleaaGreatJpl12
set_option maxRecDepth 100000
set_option maxHeartbeats 32000000
namespace Go.Proofs.YtpjbdpepofnleaaGreat
section
def spaceB (c : CD) : List UInt8 := [79, 82] ++ b16 c.next ++ b16 c.head ++ b16 (c.roots 0) ++ b16 (c.roots 1) ++ b16 (c.roots 2) ++ b16 (c.roots 3) ++ b16 (c.roots 4) ++ b16 (c.roots 5) ++ b16 (c.roots 6) ++ b16 (c.roots 7)
theorem spaceB_len (c : CD) : (spaceB c).length = 22 := rfl
def endPg (c : CD) (k : Nat) : List UInt8 :=
 if k = 0 then pad512 (spaceB c) else match getA c.S k with | some j => pad512 (b16 j) | none => match getA c.M k with | some n => pad512 n.written | none => c.pg k
def beginC (pg : Nat -> List UInt8) (n : Nat) : CD :=
 if pg 0 = zpage then { pg := pg, n := n, next := 1, head := 0, roots := fun _ => 0, M := [], S := [], e := 0 }
 else { pg := pg, n := n, next := r16 ((pg 0).drop 2), head := r16 ((pg 0).drop 4), roots := fun t => r16 ((pg 0).drop (6 + 2 * t)), M := [], S := [], e := 0 }
def Marked (pg : Nat -> List UInt8) : Prop := pg 0 = zpage ∨ (pg 0 ≠ zpage /\ (pg 0).getD 0 0 = 79 /\ (pg 0).getD 1 0 = 82)
def Store (pg : Nat -> List UInt8) (n : Nat) (E : Nat -> En) : Prop := Marked pg /\ (∀ k, k < n -> (pg k).length = 512) /\ ∃ P F, Forest (beginC pg n) E P F
theorem begin_pg (pg : Nat -> List UInt8) (n : Nat) : (beginC pg n).pg = pg /\ (beginC pg n).n = n /\ (beginC pg n).M = [] /\ (beginC pg n).S = [] /\ (beginC pg n).e = 0 := by
 unfold beginC
 split <;> exact ⟨rfl, rfl, rfl, rfl, rfl⟩
theorem Sub.nodes {N : Nat -> Option Nd} : ∀ {h m at_ : Nat} {lo hi : Option Ky} {E : En} {P : List Nat}, Sub N m h at_ lo hi E P -> ∀ p ∈ P, ∃ n, N p = some n /\ n.ok /\ n.size <= 512
 | h, m, at_, lo, hi, E, P, ⟨n, P', h1, h2, h3, _, hP, h6⟩, p, hp => by
  subst hP; rcases List.mem_cons.1 hp with rfl | hp
  ·exact ⟨n, h1, h2, h3⟩
  ·cases h with
   | zero => obtain ⟨_, _, rfl, _⟩ := h6; cases hp
   | succ h =>
    have key : ∀ {l : List It} {lo : Option Ky} {c : Nat} {E : En} {P : List Nat}, Kids (Sub N 1 h) lo c l hi E P -> ∀ p ∈ P, ∃ n, N p = some n /\ n.ok /\ n.size <= 512 := fun {l} => by
     induction l with
     | nil => exact fun hk p hp => Sub.nodes hk p hp
     | cons x l ih =>
      rintro lo c E P ⟨E1, P1, E2, P2, k1, k2, rfl, rfl⟩ p hp; rcases List.mem_append.1 hp with hp | hp
      ·exact Sub.nodes k1 p hp
      ·exact ih k2 p hp
    exact key h6.2 p hp
theorem Chain.bound {nx : Nat -> Option Nat} {q : Nat} : ∀ {F : List Nat} {h : Nat}, Chain nx h F -> (∀ k ∈ F, k < q) -> 0 < q -> h < q
 | [], _, h, _, hq => by have : _ = 0 := h; omega
 | a :: F, _, ⟨h1, _⟩, hF, _ => by rw [h1]; exact hF a (List.mem_cons_self ..)
theorem Chain.same {nx nx' : Nat -> Option Nat} {q : Nat} : ∀ {F : List Nat} {h : Nat}, Chain nx h F -> (∀ k ∈ F, k < q) -> 0 < q -> (∀ k ∈ F, ∀ j, nx k = some j -> j < q -> nx' k = some j) -> Chain nx' h F
 | [], _, h, _, _, _ => h
 | a :: F, _, ⟨h1, j, h2, h3⟩, hF, hq, hn => by
  have hb := h3.bound (fun k hk => hF k (List.mem_cons_of_mem _ hk)) hq; exact ⟨h1, j, hn a (List.mem_cons_self ..) j h2 hb, h3.same (fun k hk => hF k (List.mem_cons_of_mem _ hk)) hq (fun k hk => hn k (List.mem_cons_of_mem _ hk))⟩
section
variable {c : CD} {E : Nat -> En} {P : Nat -> List Nat} {F : List Nat}
theorem space_not_zero (c : CD) : pad512 (spaceB c) ≠ zpage := fun e => by
 have this : (pad512 (spaceB c)).getD 0 0 = zpage.getD 0 0 := by rw [e]
 have h1 : (pad512 (spaceB c)).getD 0 0 = 79 := rfl; have h2 : zpage.getD 0 0 = 0 := by unfold zpage; rw [List.getD_eq_getElem?_getD, List.getElem?_replicate, if_pos (by omega)]; rfl
 rw [h1, h2] at this; exact absurd this (by decide)
theorem root_small (h : Forest c E P F) {t : Nat} (ht : t < 8) : c.roots t < 65536 := by
 have h2 := h.acc.next2; have h3 := h.acc.few; rcases h.tree t ht with ⟨h0, _, _⟩ | ⟨_, hh, hs⟩
 ·omega
 ·have hm : c.roots t ∈ allP P := by unfold allP; rw [List.mem_flatMap]; exact ⟨t, List.mem_range.2 ht, hs.head⟩
  have := (h.acc.mem (.inl hm)).2; omega
theorem store_end (h : Forest c E P F) (hp : ∀ k, k < c.n -> (c.pg k).length = 512) : Store (endPg c) c.n E := by
 have hn1 := h.acc.next1; have hn2 := h.acc.next2; have hf := h.acc.few; have hh := h.acc.head; have e0 : endPg c 0 = pad512 (spaceB c) := if_pos rfl; have hne : ¬ endPg c 0 = zpage := by rw [e0]; exact space_not_zero c
 have hb : beginC (endPg c) c.n = { pg := endPg c, n := c.n, next := c.next, head := c.head, roots := fun t => r16 ((endPg c 0).drop (6 + 2 * t)), M := [], S := [], e := 0 } := by
  unfold beginC; rw [if_neg hne, e0]; have e1 : r16 ((pad512 (spaceB c)).drop 2) = c.next := r16_b16 (by omega) _; have e2 : r16 ((pad512 (spaceB c)).drop 4) = c.head := r16_b16 hh _; rw [e1, e2]
 have hr : ∀ t, t < 8 -> r16 ((endPg c 0).drop (6 + 2 * t)) = c.roots t := fun t ht => by
  rw [e0]; have h0 := root_small h (t := 0) (by omega); have h1 := root_small h (t := 1) (by omega); have h2 := root_small h (t := 2) (by omega); have h3 := root_small h (t := 3) (by omega); have h4 := root_small h (t := 4) (by omega); have h5 := root_small h (t := 5) (by omega); have h6 := root_small h (t := 6) (by omega); have h7 := root_small h (t := 7) (by omega)
  match t, ht with
  | 0, _ => exact r16_b16 h0 _
  | 1, _ => exact r16_b16 h1 _
  | 2, _ => exact r16_b16 h2 _
  | 3, _ => exact r16_b16 h3 _
  | 4, _ => exact r16_b16 h4 _
  | 5, _ => exact r16_b16 h5 _
  | 6, _ => exact r16_b16 h6 _
  | 7, _ => exact r16_b16 h7 _
 have hN : ∀ p, 1 <= p -> p < c.n -> ∀ n, c.N p = some n -> n.ok -> n.size <= 512 -> (beginC (endPg c) c.n).N p = some n := fun p h1 h2 n hcn hok hs => by
  rw [hb]; unfold CD.N at hcn ⊢; simp only [getA_nil, Option.isSome_none, Bool.false_eq_true, if_false]; rw [if_pos ⟨h1, h2⟩]
  cases hS : getA c.S p with
  | some j => rw [hS] at hcn; simp at hcn
  | none =>
   rw [hS] at hcn; simp only [Option.isSome_none, Bool.false_eq_true, if_false] at hcn; unfold endPg; rw [if_neg (by omega), hS]
   simp only
   cases hM : getA c.M p with
   | some n' =>
    rw [hM] at hcn
    simp only at hcn ⊢
    injection hcn with hcn; rw [hcn]; exact decP_of hok hs
   | none =>
    rw [hM] at hcn
    simp only at hcn ⊢
    rw [if_pos ⟨h1, h2⟩] at hcn; exact hcn
 refine ⟨.inr ⟨hne, by rw [e0]; rfl, by rw [e0]; rfl⟩, fun k hk => ?_, P, F, by rw [hb], fun t ht => ?_, ⟨?_, ?_, ?_, ?_, ?_, ?_⟩⟩
 ·unfold endPg
  split
  ·exact pad512_len (by rw [spaceB_len]; omega)
  ·split
   ·exact pad512_len (by show 2 <= 512; omega)
   ·split
    ·rename_i n hM
     have := h.acc.wf.mM _ (getA_mem hM); exact pad512_len (by rw [Nd.written_len]; exact this.2.2.2)
    ·exact hp k hk
 ·have hrt : (beginC (endPg c) c.n).roots t = c.roots t := by rw [hb]; exact hr t ht
  rw [hrt]; rcases h.tree t ht with h1 | ⟨h1, hh, hs⟩
  ·exact .inl h1
  ·refine .inr ⟨h1, hh, ?_⟩; refine hs.congr fun p hpP => ?_; obtain ⟨n, n1, n2, n3⟩ := hs.nodes p hpP; have hm : p ∈ allP P := by unfold allP; rw [List.mem_flatMap]; exact ⟨t, List.mem_range.2 ht, hpP⟩
   have := h.acc.mem (.inl hm); rw [n1]; exact hN p this.1 (by omega) n n1 n2 n3
 ·rw [hb]; exact h.acc.perm
 ·rw [hb]; exact hn1
 ·rw [hb]; exact hn2
 ·rw [hb]; exact hf
 ·have hhead : (beginC (endPg c) c.n).head = c.head := by rw [hb]
  rw [hhead]; refine h.acc.chain.same (q := 65536) (fun k hk => by have := (h.acc.mem (.inr hk)).2; omega) (by omega) fun k hk j hj hjq => ?_; have hk1 := (h.acc.mem (.inr hk)).1; rw [hb]; unfold CD.nx at hj ⊢; simp only [getA_nil, Option.isSome_none, Bool.false_eq_true, if_false]; unfold endPg; rw [if_neg (by omega)]
  cases hS : getA c.S k with
  | some i =>
   rw [hS] at hj
   simp only at hj ⊢
   injection hj with hj; rw [hj]; exact congrArg some (r16_b16 hjq _)
  | none =>
   rw [hS] at hj
   simp only at hj ⊢
   cases hM : getA c.M k with
   | some n => rw [hM] at hj; simp at hj
   | none => rw [hM] at hj; simpa using hj
 ·rw [hb]; exact ⟨List.Pairwise.nil, List.Pairwise.nil, fun p hp => (by cases hp), fun p hp => (by cases hp)⟩
theorem store_new {pg : Nat -> List UInt8} {n : Nat} (h0 : pg 0 = zpage) (hp : ∀ k, k < n -> (pg k).length = 512) (h1 : 1 <= n) (h2 : n <= 4096) : Store pg n fun _ => [] := by
 have hb : beginC pg n = { pg := pg, n := n, next := 1, head := 0, roots := fun _ => 0, M := [], S := [], e := 0 } := if_pos h0; refine ⟨.inl h0, hp, fun _ => [], [], by rw [hb], fun t _ => .inl ⟨by rw [hb], rfl, rfl⟩, ?_⟩; rw [hb]; refine ⟨?_, Nat.le_refl _, h1, h2, rfl, ⟨List.Pairwise.nil, List.Pairwise.nil, fun p hp => (by cases hp), fun p hp => (by cases hp)⟩⟩; have e : allP (fun _ => []) = [] := rfl; rw [e]; exact List.Perm.refl _
end
def getE (E : En) (k : Ky) : Option (List UInt8) := (E.find? fun e => decide (e.1 = k)).map (·.2)
theorem getE_append {E1 E2 : En} {k : Ky} (h : ∀ e ∈ E1, e.1 ≠ k) : getE (E1 ++ E2) k = getE E2 k := by
 unfold getE; rw [List.find?_append, show E1.find? (fun e => decide (e.1 = k)) = none from List.find?_eq_none.2 fun e he => by simpa using h e he]
 rfl
theorem getE_left {E1 E2 : En} {k : Ky} (h : ∀ e ∈ E2, e.1 ≠ k) : getE (E1 ++ E2) k = getE E1 k := by
 unfold getE; rw [List.find?_append, show E2.find? (fun e => decide (e.1 = k)) = none from List.find?_eq_none.2 fun e he => by simpa using h e he, Option.or_none]
theorem leaf_get {l : List It} {key : Ky} (hr : Rise (entOf l)) : getE (entOf l) key = if isAt l key then (l[placeOf l key]?).map (·.v) else none := by
 obtain ⟨A, hA⟩ := nm (l.takeWhile fun y => decide (klt y.key key)); obtain ⟨D, hD⟩ := nm (l.dropWhile fun y => decide (klt y.key key)); have hl : l = A ++ D := by rw [hA, hD, List.takeWhile_append_dropWhile]
 have hp : placeOf l key = A.length := by rw [hA]; rfl
 have hi' : isAt l key = headIs D key := by rw [hD]; rfl
 have h1 : ∀ e ∈ entOf A, e.1 ≠ key := fun e he hk => by
  obtain ⟨y, hy, rfl⟩ := List.mem_map.1 he; rw [hA] at hy; have : klt y.key key := by simpa using takeWhile_all y hy
  rw [show y.key = key from hk] at this; exact klt_irrefl _ this
 rw [hp, hi']; have e0 : getE (entOf l) key = getE (entOf D) key := by rw [hl, entOf_append, getE_append h1]
 have e1 : l[A.length]? = D[0]? := by rw [hl, List.getElem?_append_right (Nat.le_refl _), Nat.sub_self]
 rw [e0, e1]; rw [hl, entOf_append] at hr; obtain ⟨_, r2, _⟩ := List.pairwise_append.1 hr
 cases hDc : D with
 | nil => rfl
 | cons y B =>
  rw [hDc] at r2
  have hy : ¬ klt y.key key := by
   rw [hD] at hDc
   simpa using dropWhile_head hDc
  unfold headIs
  simp only
  by_cases hk : y.key = key
  ·rw [if_pos (by simpa using hk)]; unfold getE entOf; rw [List.map_cons, List.find?_cons_of_pos (by simpa using hk)]
   rfl
  ·rw [if_neg (by simpa using hk)]
   have hxy : klt key y.key := by
    by_cases h : klt key y.key
    ·exact h
    ·exact absurd (klt_tri hy h) hk
   unfold getE; rw [List.find?_eq_none.2 fun e he => ?_]
   ·rfl
   ·simp only [decide_eq_true_eq]; intro hk2; rcases List.mem_cons.1 he with rfl | he
    ·exact hk hk2
    ·have := klt_trans hxy ((List.pairwise_cons.1 r2).1 e he); rw [hk2] at this; exact klt_irrefl _ this
def pastB (up : Option Ky) (k : Ky) : Bool := match up with | some b => !decide (klt k b) | none => false
def goE (low : Ky) (up : Option Ky) (most : Nat) : En -> En -> En × Bool
 | out, [] => (out, true)
 | out, e :: E => if klt e.1 low then goE low up most out E else if out.length = most ∨ pastB up e.1 = true then (out, false) else goE low up most (out ++ [e]) E
section
variable {low : Ky} {up : Option Ky} {most : Nat}
theorem goE_cons (out : En) (e : Ky × List UInt8) (E : En) : goE low up most out (e :: E) = if klt e.1 low then goE low up most out E else if out.length = most ∨ pastB up e.1 = true then (out, false) else goE low up most (out ++ [e]) E := rfl
theorem goE_append : ∀ (E1 E2 out : En), goE low up most out (E1 ++ E2) = if (goE low up most out E1).2 then goE low up most (goE low up most out E1).1 E2 else goE low up most out E1
 | [], _, _ => rfl
 | e :: E1, E2, out => by
  have ih := goE_append E1 E2; rw [List.cons_append, goE_cons, goE_cons out e E1]
  split
  ·exact ih out
  ·split
   ·rfl
   ·exact ih _
theorem goE_skip : ∀ {E1 : En} (E2 out : En), (∀ e ∈ E1, klt e.1 low) -> goE low up most out (E1 ++ E2) = goE low up most out E2
 | [], _, _, _ => rfl
 | e :: E1, E2, out, h => by
  show goE low up most out (e :: (E1 ++ E2)) = _
  conv => lhs; unfold goE
  rw [if_pos (h e (List.mem_cons_self ..))]; exact goE_skip E2 out fun e he => h e (List.mem_cons_of_mem _ he)
def inB (low : Ky) (up : Option Ky) (e : Ky × List UInt8) : Bool := !decide (klt e.1 low) && !pastB up e.1
theorem past_more {a b : Ky} (h : pastB up a = true) (hab : klt a b) : pastB up b = true := by
 unfold pastB at h ⊢
 cases up with
 | none => cases h
 | some u =>
  simp only [Bool.not_eq_true', decide_eq_false_iff_not] at h ⊢; exact fun hb => h (klt_trans hab hb)
theorem goE_take : ∀ {E out : En}, Rise E -> out.length <= most -> (goE low up most out E).1 = out ++ (E.filter (inB low up)).take (most - out.length)
 | [], out, _, _ => by simp [goE]
 | e :: E, out, hr, hl => by
  obtain ⟨r1, r2⟩ := List.pairwise_cons.1 hr; unfold goE
  by_cases h1 : klt e.1 low
  ·rw [if_pos h1, goE_take r2 hl, List.filter_cons_of_neg (by unfold inB; simp [h1])]
  ·rw [if_neg h1]
   by_cases h2 : out.length = most ∨ pastB up e.1 = true
   ·rw [if_pos h2]; rcases h2 with h2 | h2
    ·simp [h2]
    ·have : (e :: E).filter (inB low up) = [] := List.filter_eq_nil_iff.2 fun x hx => by
      have hp : pastB up x.1 = true := by
       rcases List.mem_cons.1 hx with rfl | hx
       ·exact h2
       ·exact past_more h2 (r1 x hx)
      unfold inB
      simp [hp]
     rw [this]; simp
   ·rw [if_neg h2]
    have h3 : out.length < most := by
     have : out.length ≠ most := fun e => h2 (.inl e); omega
    rw [goE_take r2 (by rw [List.length_append, List.length_singleton]; omega), List.filter_cons_of_pos (by unfold inB; simp only [Bool.and_eq_true, Bool.not_eq_true']; exact ⟨by simpa using h1, by simpa using fun h => h2 (.inr h)⟩), List.length_append, List.length_singleton, List.append_assoc]; obtain ⟨j, hj⟩ : ∃ j, most - out.length = j + 1 := ⟨most - out.length - 1, by omega⟩; rw [hj, List.take_succ_cons, show most - (out.length + 1) = j by omega]
    rfl
end
theorem first_sub {N : Nat -> Option Nd} {h at_ : Nat} {lo hi : Option Ky} {E : En} {P : List Nat} (hs : Sub N 1 (h + 1) at_ lo hi E P) : ∃ n, N at_ = some n /\ n.lf = false /\ n.ok /\ ∃ hi' E' P', Sub N 1 h n.first lo hi' E' P' := by
 obtain ⟨n, P', h1, h2, _, _, rfl, h5, h6⟩ := hs; refine ⟨n, h1, h5, h2, ?_⟩
 cases hl : n.l with
 | nil => rw [hl] at h6; exact ⟨_, _, _, h6⟩
 | cons x l =>
  rw [hl] at h6; obtain ⟨E1, P1, _, _, k, _⟩ := h6; exact ⟨_, _, _, k⟩
end
end Go.Proofs.YtpjbdpepofnleaaGreat
section
namespace Go.Proofs
open Go.Shelf
def Tryz.keysN_ren : Go.Shelf.Ren := ⟨fun | 7 => 65 | 10 => 98 | n => n, fun | 23 => 81 | 26 => 3 | 3 => 88 | 28 => 139 | 0 => 0 | 27 => 138 | 33 => 150 | 4 => 4 | n => n, fun | n => n⟩
theorem Tryz.keysN : Go.Proofs.SlLaysZI.n7 Tryz.prog Tryz.keysN_ren := {
 mixed := by kernel_rfl
 f7 := ⟨Tryz.f65.name, by decide, Tryz.func65.trans (congrArg some (by kernel_rfl))⟩
 f10 := ⟨Tryz.f98.name, by decide, Tryz.func98.trans (congrArg some (by kernel_rfl))⟩
 t0 := Tryz.underlying0
 a0 := Tryz.isAgg0
 z0 := Tryz.sizeOf0
 v0 := Tryz.zeroValue0
 t4 := Tryz.underlying4
 a4 := Tryz.isAgg4
 z4 := Tryz.sizeOf4
 v4 := Tryz.zeroValue4
 t23 := Tryz.underlying81
 a23 := Tryz.isAgg81
 z23 := Tryz.sizeOf81
 v23 := Tryz.zeroValue81
 t26 := Tryz.underlying3
 a26 := Tryz.isAgg3
 z26 := Tryz.sizeOf3
 v26 := Tryz.zeroValue3
 t27 := Tryz.underlying138
 a27 := Tryz.isAgg138
 z27 := Tryz.sizeOf138
 v27 := Tryz.zeroValue138
 t28 := Tryz.underlying139
 a28 := Tryz.isAgg139
 z28 := Tryz.sizeOf139
 v28 := Tryz.zeroValue139
 t33 := Tryz.underlying150
 a33 := Tryz.isAgg150
 z33 := Tryz.sizeOf150
 v33 := Tryz.zeroValue150 }
def Tryz.keysI_ren : Go.Shelf.Ren := ⟨fun | 7 => 68 | 10 => 99 | n => n, fun | 23 => 82 | 26 => 3 | 3 => 3 | 28 => 139 | 0 => 0 | 27 => 138 | 33 => 150 | 4 => 4 | n => n, fun | n => n⟩
theorem Tryz.keysI : Go.Proofs.SlLaysZI.n7 Tryz.prog Tryz.keysI_ren := {
 mixed := by kernel_rfl
 f7 := ⟨Tryz.f68.name, by decide, Tryz.func68.trans (congrArg some (by kernel_rfl))⟩
 f10 := ⟨Tryz.f99.name, by decide, Tryz.func99.trans (congrArg some (by kernel_rfl))⟩
 t0 := Tryz.underlying0
 a0 := Tryz.isAgg0
 z0 := Tryz.sizeOf0
 v0 := Tryz.zeroValue0
 t4 := Tryz.underlying4
 a4 := Tryz.isAgg4
 z4 := Tryz.sizeOf4
 v4 := Tryz.zeroValue4
 t23 := Tryz.underlying82
 a23 := Tryz.isAgg82
 z23 := Tryz.sizeOf82
 v23 := Tryz.zeroValue82
 t26 := Tryz.underlying3
 a26 := Tryz.isAgg3
 z26 := Tryz.sizeOf3
 v26 := Tryz.zeroValue3
 t27 := Tryz.underlying138
 a27 := Tryz.isAgg138
 z27 := Tryz.sizeOf138
 v27 := Tryz.zeroValue138
 t28 := Tryz.underlying139
 a28 := Tryz.isAgg139
 z28 := Tryz.sizeOf139
 v28 := Tryz.zeroValue139
 t33 := Tryz.underlying150
 a33 := Tryz.isAgg150
 z33 := Tryz.sizeOf150
 v33 := Tryz.zeroValue150 }
def Tryz.searchA_ren : Go.Shelf.Ren := ⟨fun | 16 => 76 | n => n, fun | 3 => 3 | 35 => 150 | 4 => 4 | 38 => 111 | n => n, fun | n => n⟩
theorem Tryz.searchA : Go.Proofs.SlLaysO.n16 Tryz.prog Tryz.searchA_ren := {
 mixed := by kernel_rfl
 f16 := Tryz.func76.trans (congrArg some (by kernel_rfl))
 t3 := Tryz.underlying3
 a3 := Tryz.isAgg3
 z3 := Tryz.sizeOf3
 v3 := Tryz.zeroValue3
 t4 := Tryz.underlying4
 a4 := Tryz.isAgg4
 z4 := Tryz.sizeOf4
 v4 := Tryz.zeroValue4
 t35 := Tryz.underlying150
 a35 := Tryz.isAgg150
 z35 := Tryz.sizeOf150
 v35 := Tryz.zeroValue150
 t38 := Tryz.underlying111
 a38 := Tryz.isAgg111
 z38 := Tryz.sizeOf111
 v38 := Tryz.zeroValue111 }
end Go.Proofs
end
namespace Go.Proofs.YtpjbdpepofnleaaGreat
section
open Go.RowKit Go.Sort Go.Shelf
theorem bytesOf_at {w : World} {v : Value} {bs : List UInt8} {g : Nat} (h : BytesAt w v bs g) : (Extern.Bytes.bytesOf v).run Tryz.prog w = .ok ⟨bs.toArray⟩ w := by
 obtain ⟨A, c, off, rfl, hc, hb⟩ := h
 have load : ∀ (l : List UInt8) (a : Addr) (acc : ByteArray), (∀ j x, l[j]? = some x -> w.cell? (a.add j) = some (B8 x)) -> (Extern.Bytes.loadBytes a l.length acc).run Tryz.prog w = .ok ⟨acc.data ++ l.toArray⟩ w := by
  intro l
  induction l with
  | nil => intro a acc _; simp [Extern.Bytes.loadBytes, Sem.run_pure]
  | cons x l ih =>
   intro a acc h; have h0 := h 0 x rfl; rw [show a.add 0 = a from by cases a; simp [Addr.add]] at h0; have hx : (UInt8.ofNat x.toNat) = x := by simp
   have ih' := ih (a.add 1) (acc.push x) (fun j y hj => by
    have := h (j + 1) y (by simpa using hj)
    rwa [show a.add (j + 1) = (a.add 1).add j by rw [Addr.add_add, Nat.add_comm]] at this)
   unfold B8 at h0; simp only [List.length_cons, Extern.Bytes.loadBytes, Sem.run_bind, run_load, h0, Result.andThen, Int.toNat_natCast]; rw [show x.toNat.toUInt8 = x from hx, ih']
   simp [ByteArray.push]
 cases A with
 | none =>
  have h0 : bs = [] := by
   cases bs with
   | nil => rfl
   | cons x xs => have := (hb (by simp)).1; cases this
  subst h0
  rfl
 | some a =>
  have := load bs a .empty (fun j x hj => by
   have h0 : 0 < bs.length := by have := (List.getElem?_eq_some_iff.1 hj).1; omega
   obtain ⟨ha, hcell⟩ := hb h0; injection ha with ha; subst ha; rw [Addr.add_mid]; exact hcell j (B8 x) (by rw [bcells_at, hj]; rfl))
  show (Extern.Bytes.loadBytes a bs.length .empty).run Tryz.prog w = _
  rw [this]; have e : ByteArray.empty.data = #[] := rfl; rw [e, Array.empty_append]
theorem run_compare {w : World} {va vb : Value} {a b : List UInt8} {ga gb : Nat} (ha : BytesAt w va a ga) (hb : BytesAt w vb b gb) :
  (Extern.BytealgCompare.compare #[va, vb]).run Tryz.prog w = .ok (.int .i64 (Lib.compareBytes a b)) w := by
 change Sem.run Tryz.prog (do pure (goInt (Extern.BytealgCompare.cmp (<- Extern.Bytes.bytesOf va) (<- Extern.Bytes.bytesOf vb)))) w = _
 simp only [Sem.run_bind, bytesOf_at ha, bytesOf_at hb, Sem.run_pure, Result.andThen]; rw [Lib.cmp_eq]
 rfl
theorem bytes_equal {w : World} {va vb : Value} {a b : List UInt8} {ga gb : Nat} (ha : BytesAt w va a ga) (hb : BytesAt w vb b gb) :
  Calls Tryz.prog 79 #[va, vb] w fun e w' => e = .returned (.bool (decide (a = b))) /\ w = w' := by
 have c1 := run_string_of (P := Tryz.prog) (src := 23) (dst := 9) Tryz.underlying23 Tryz.underlying5 Tryz.underlying9 ha; have c2 := run_string_of (P := Tryz.prog) (src := 23) (dst := 9) Tryz.underlying23 Tryz.underlying5 Tryz.underlying9 hb; have e : decide (a = b) = (a == b) := by rw [Bool.eq_iff_iff]; simp
 clear ha hb
 go_enter Tryz.func79, Tryz.ntmps79
 go_wp2
 go_ret
 exact ⟨by rw [e]; rfl, rfl⟩
theorem bytes_compare {w : World} {va vb : Value} {a b : List UInt8} {ga gb : Nat} (ha : BytesAt w va a ga) (hb : BytesAt w vb b gb) :
  Calls Tryz.prog 78 #[va, vb] w fun e w' => e = .returned (.int .i64 (Lib.compareBytes a b)) /\ w = w' := by
 have HA := lh ha; have HB := lh hb; clear ha hb
 go_enter Tryz.func78, Tryz.ntmps78
 go_wp2
 rw [run_callFunc_extern Tryz.func105 (by kernel_rfl) (by kernel_rfl) (by kernel_rfl) (e := Extern.BytealgCompare.compare) (by kernel_rfl), run_compare HA.out HB.out]; simp only [Result.andThen]; rw [Oper.upon_value]
 go_wp2
 go_ret
 exact ⟨rfl, rfl⟩
theorem fr_keep {w w' : World} (h : Fr [] w w') {p : Addr} {v : Value} (hc : w.cell? p = some v) : w'.cell? p = some v := by
 rw [h.cell (World.block_lt_of_cell? w _ hc) (by simp)]; exact hc
theorem BytesAt.of_row {w : World} {b : Nat} {e : TypeId} {v : Value} {bs : List UInt8} {n : Nat} (hn : n = bs.length) (h : w.ownsRow b e 1 v n (bcells bs)) (hb : b <= w.heap.size) : ∃ g, BytesAt w v bs g /\ b <= g := by
 subst hn; rcases h.2 with ⟨rfl, h0⟩ | ⟨g, cap, cur, rfl, hg, hh, hn, hc, hs, ht⟩
 ·have : bs = [] := List.length_eq_zero_iff.1 h0; subst this; exact ⟨w.heap.size, BytesAt.nil _ _, hb⟩
 ·refine ⟨g, ⟨_, cap, 0, rfl, hn, fun _ => ⟨rfl, fun j u hj => ?_⟩⟩, hg⟩; rw [Nat.zero_add]; have := World.ownsRow.cells h (g := g) rfl j u hj
  rwa [Addr.add_mid, Nat.zero_add] at this
theorem info_u8z : (Tryz.prog.info? 5).map (fun i => (i.zero, i.size, i.bytes)) = some (some (.int .u8 0), 1, 1) := by kernel_rfl
theorem info_it : (Tryz.prog.info? 77).map (fun i => (i.zero, i.size, i.bytes)) = some (some (.agg #[.slice none 0 0, .slice none 0 0, .int .i64 0]), 3, 56) := by kernel_rfl
theorem info_get {i : Option TypeInfo} {z : Option Value} {s b : Nat} (h : i.map (fun i => (i.zero, i.size, i.bytes)) = some (z, s, b)) : ∃ t, i = some t /\ t.zero = z /\ t.size = s /\ t.bytes = b := by
 obtain ⟨t, h1, h2⟩ := Option.map_eq_some_iff.1 h; simp only [Prod.mk.injEq] at h2; exact ⟨t, h1, h2.1, h2.2.1, h2.2.2⟩
/-- bytes.Clone: the same bytes in a new block. -/
theorem bytes_clone {w : World} {v : Value} {bs : List UInt8} {g : Nat} (h : BytesAt w v bs g) (hbig : bs.length <= 1099511627776) :
  Calls Tryz.prog 32 #[v] w fun e w' => ∃ v', e = .returned v' /\ (∃ g', BytesAt w' v' bs g' /\ w.heap.size <= g') /\ Fr [] w w' := by
 have hn : ∀ (w : World) (a : Option Addr) (n c : Nat), (binOp .eql 23 (.slice a n c) (.slice none 0 0)).run Tryz.prog w = .ok (.bool a.isNone) w := fun w a n c => Lib.run_eql_slice_nil w _ _ a n c 0 0 Tryz.underlying23; obtain ⟨A, c, off, rfl, hc, hb⟩ := h; have HB := lh hb; clear hb; obtain ⟨ti, hti, hz, hs, hby⟩ := info_get info_u8z
 cases A with
 | none =>
  have h0 : bs = [] := by
   cases bs with
   | nil => rfl
   | cons x xs => have := (HB.out (by simp)).1; cases this
  subst h0
  go_enter Tryz.func32, Tryz.ntmps32
  go_wp2
  go_ret
  exact ⟨_, rfl, ⟨w.heap.size, BytesAt.nil _ _, Nat.le_refl _⟩, Fr.refl _ _⟩
 | some ad =>
  have hcells : ∀ j u, (bcells bs)[j]? = some u -> w.cell? (ad.add j) = some u := fun j u hj => by
   have h0 : 0 < bs.length := by have := (List.getElem?_eq_some_iff.1 hj).1; rw [bcells_len] at this; omega
   obtain ⟨ha, hcell⟩ := HB.out h0; injection ha with ha; subst ha; rw [Addr.add_mid]; exact hcell j u hj
  have hlt : ∀ j u, (bcells bs)[j]? = some u -> (ad.add j).block < w.heap.size := fun j u hj => World.block_lt_of_cell? w _ (hcells j u hj); have HC := lh hcells; have HL := lh hlt; clear hcells hlt
  go_enter Tryz.func32, Tryz.ntmps32
  go_wp2_with ((at_builtin; refine wpList_append_own _ rfl _ _ 23 rfl w.heap.size 5 ti (.int .u8 0) 1 1 Tryz.underlying23 hti hz hs hby rfl (by omega) _ 0 [] rfl ?own ad bs.length c (bcells bs) rfl (by rw [bcells_len]; omega) (fun j u hj => fr_keep ((Fr.refl [] w).alloc _) (HC.out j u hj)) (fun u hu => bcells_one _ u hu) (by unfold maxLen; omega) (by omega) (by simp) ?_))
  case own => exact World.ownsRow_made w #[] 0 (Nat.le_refl _) (by unfold maxLen; omega) rfl
  intro v' w' h1 h2 h3; have hf : Fr [] w w' := ((Fr.refl [] w).alloc _).grown h2 (fun g hg => .inr (by simp [Value.ownBlock] at hg; omega)); have HR := lh (BytesAt.of_row (n := bs.length) (bs := bs) rfl h1 hf.size); have HF := lh hf; clear h1 h2 h3 hf
  go_wp2
  go_ret
  exact ⟨_, rfl, HR.out, HF.out⟩
def Three (cs : List Value) : Prop := ∀ u ∈ cs, u.oneCell' = true
/-- slices.Clone of items: the same cells in a new block. -/
theorem items_clone {w : World} {n g : Nat} {v : Value} {cs : List Value} (h : SlAt w v n cs g) (hl : cs.length = n * 3) (h1 : Three cs) (hn : n <= 65536) :
  Calls Tryz.prog 83 #[v] w fun e w' => ∃ v', e = .returned v' /\ w'.ownsRow w.heap.size 77 3 v' n cs /\ Fr [] w w' := by
 have hq : ∀ (w : World) (a : Option Addr) (n c : Nat), (binOp .eql 86 (.slice a n c) (.slice none 0 0)).run Tryz.prog w = .ok (.bool a.isNone) w := fun w a n c => Lib.run_eql_slice_nil w _ _ a n c 0 0 Tryz.underlying86; obtain ⟨ti, hti, hz, hs, hby⟩ := info_get info_it; obtain ⟨A, c, off, rfl, hc, hcell⟩ := h; have H1 := lh h1
 cases A with
 | none =>
  obtain rfl : n = 0 := by
   rcases Nat.eq_zero_or_pos n with h0 | h0
   ·exact h0
   ·have := (hcell h0).1; cases this
  have hcs0 : cs = [] := List.length_eq_zero_iff.1 (by omega); subst hcs0; clear h1 hcell
  go_enter Tryz.func83, Tryz.ntmps83
  go_wp2
  go_ret
  exact ⟨_, rfl, own_nil _ _ _ _, Fr.refl _ _⟩
 | some ad =>
  have HC : Hid (∀ (j : Nat) (u : Value), cs[j]? = some u -> w.cell? (ad.add j) = some u) := lh fun j u hj => by
   have h0 : 0 < n := by have := (List.getElem?_eq_some_iff.1 hj).1; omega
   obtain ⟨ha, hc2⟩ := hcell h0; injection ha with ha; subst ha; rw [Addr.add_mid]; exact hc2 j u hj
  clear h1 hcell
  go_enter Tryz.func83, Tryz.ntmps83
  go_wp2_with (at_builtin; refine wpList_append_own _ rfl _ _ 86 rfl w.heap.size 77 ti (.agg #[.slice none 0 0, .slice none 0 0, .int .i64 0]) 3 56 Tryz.underlying86 hti hz hs hby rfl (by omega) _ 0 [] rfl ?own ad n c cs rfl (by omega) (fun j u hj => fr_keep ((Fr.refl [] w).alloc _) (HC.out j u hj)) H1.out (by unfold maxLen; omega) (by omega) (by simp) ?_)
  case own => exact World.ownsRow_made w #[] 0 (Nat.le_refl _) (by unfold maxLen; omega) rfl
  intro v' w' h1 h2 h3; have hf : Fr [] w w' := ((Fr.refl [] w).alloc _).grown h2 (fun g hg => .inr (by simp [Value.ownBlock] at hg; omega)); have HR : Hid (w'.ownsRow w.heap.size 77 3 v' n cs) := lh (by simpa using h1); have HF := lh hf; clear h1 h2 h3 hf
  go_wp2
  go_ret
  exact ⟨_, rfl, HR.out, HF.out⟩
theorem Fr.grow {S : List Nat} {w w' : World} (h : Fr S w w') (os : Array Obj) : Fr S w (grow w' os) :=
 ⟨h.os, h.tape, h.output, by show w.heap.size <= (w'.heap ++ os).size; rw [Array.size_append]; have := h.size; omega, fun k hk hn => by
  show (w'.heap ++ os)[k]? = _
  rw [Array.getElem?_append_left (by have := h.size; omega)]; exact h.block k hk hn⟩
theorem search_fr {w : World} {g : Nat} {cb : Array Value} {n : Nat} (p : Nat -> Bool) (eg : ∀ args w, (callFunc g args).run Tryz.prog w = .ok (.enter g args) w) (hn : n <= 65536)
  (hf : ∀ w' : World, Fr [] w w' -> ∀ i, i < n -> Calls Tryz.prog g (#[.int .i64 i] ++ cb) w' fun e w'' => e = .returned (.bool (p i)) /\ ∃ q, w'' = w'.drewN q)
  (hm : ∀ a b, a <= b -> b < n -> p a = true -> p b = true) :
  Calls Tryz.prog 76 #[.int .i64 n, .func (.func g) #[] cb] w fun e w' => e = .returned (.int .i64 ((List.range n).countP (fun i => !p i) : Nat)) /\ Fr [] w w' := by
 have h := Any.sort_Search Tryz.searchA g cb n p w eg (by omega) (fun m os i hi => (hf _ (((Fr.refl [] w).drewN m).grow os) i hi).mono fun e w' ⟨he, q, hq⟩ => ⟨he, q, #[], by rw [hq, grow_empty]⟩) hm; exact Calls.mono h fun e w' ⟨he, q, os, hq⟩ => ⟨he, by rw [hq]; exact ((Fr.refl [] w).drewN q).grow os⟩
end
section
open Go.RowKit Go.Sort Go.Shelf Go.Lib
section
variable {P : Program} {w : World}
theorem run_copy_k {dT sT ty elem t : TypeId} {k g off dLen dCap sLen sCap : Nat} {a : Addr} {cur cs : List Value} (hu : P.underlying dT = some (.slice elem)) (hk : (P.info? elem).map (·.size) = some k) (hg : Blk w g t cur)
  (hn : cs.length = Nat.min sLen dLen * k) (hsrc : ∀ j v, cs[j]? = some v -> w.cell? (a.add j) = some v) (hfit : off + cs.length <= cur.length) (h1 : ∀ v ∈ cs, v.oneCell' = true) :
  (Builtin.copy_ #[dT, sT] ty #[.slice (some ⟨g, off, none⟩) dLen dCap, .slice (some a) sLen sCap]).run P w = .ok (goInt (Nat.min sLen dLen)) (w.setRow g (splice cur off cs).toArray) := by
 have hl := run_loadCells_list (P := P) w a cs hsrc; have hst := run_storeCells_at P g off t cs 0 cur.toArray w hg (by simpa using hfit) h1
 cases hq : P.info? elem with
 | none => simp [hq] at hk
 | some i =>
  have hi : i.size = k := by simpa [hq] using hk
  rw [hn] at hl
  simp [Builtin.copy_, run_underlying hu, Builtin.lenOf, Builtin.firstCells, sizeOf, typeInfo, hq, hi, hl, hst, splice]
theorem run_clear_k {t ty elem bt : TypeId} {g off n c : Nat} {cur zs : List Value} {z : Value} (hu : P.underlying t = some (.slice elem)) (hz : (P.info? elem).map (·.zero) = some (some z)) (hg : Blk w g bt cur) (hn : 0 < n)
  (hzs : (Builtin.zeroCells z.cells n).toList = zs) (hfit : off + zs.length <= cur.length) (h1 : ∀ v ∈ zs, v.oneCell' = true) :
  (Builtin.clear_ #[t] ty #[.slice (some ⟨g, off, none⟩) n c]).run P w = .ok (.tuple #[]) (w.setRow g (splice cur off zs).toArray) := by
 have hst := run_storeCells_at P g off bt zs 0 cur.toArray w hg (by simpa using hfit) h1; obtain ⟨m, rfl⟩ : ∃ m, n = m + 1 := ⟨n - 1, by omega⟩
 cases hq : P.info? elem with
 | none => simp [hq] at hz
 | some i =>
  have hi : i.zero = some z := by simpa [hq] using hz
  simp [Builtin.clear_, run_underlying hu, zeroValue, typeInfo, hq, hi, hzs, hst, splice, Result.andThen]
theorem step_append_run {ops : Array Oper} {o : Oper} {a : Act} {w : World} {K : Act -> World -> Prop} {Q : Exit -> Act -> World -> Prop} {E : Prop}
  (hg : o.guard = none) (d x : Operand) (dT sT : TypeId) (hop : o.op = Op.call { callee := Callee.builtin Builtin.append, args := #[d, x], argTypes := #[dT, sT] })
  (v u : Value) (hd : a.eval d = v) (hx : a.eval x = u) {v' : Value} {w' : World} (hr : (Builtin.append_ #[dT, sT] o.type #[v, u]).run P w = .ok v' w') (hK : K (a.put o.dst v') w') :
  if Region.wanted o (yielded ops a.tmps) = true then Oper.wp P o a w K Q else E := by
 have hw : Region.wanted o (yielded ops a.tmps) = true := by simp [Region.wanted, hg]
 rw [if_pos hw]; unfold Oper.wp
 simp [execOp, hop, resolve, invoke, builtin, hd, hx, hr, Result.andThen]
 exact hK
theorem wpList_clear_run {ops : Array Oper} {rest : List Oper} {o : Oper} {a : Act} {Q : Exit -> Act -> World -> Prop} (hgd : o.guard = none) (d : Operand) (t : TypeId)
  (ho : o.op = .call { callee := .builtin .clear, args := #[d], argTypes := #[t] }) (v : Value) (hd : a.eval d = v) {v' : Value} {w' : World}
  (hr : (Builtin.clear_ #[t] o.type #[v]).run P w = .ok v' w') (h : wpList P ops Q rest (a.put o.dst v') w') : wpList P ops Q (o :: rest) a w := by
 refine wpList_plain hgd fun _ hK => ?_; unfold Oper.wp execOp; simp only [ho, resolve, invoke, builtin, Sem.run_bind, Sem.run_pure, Result.andThen_ok, List.map_toArray, List.map_cons, List.map_nil, hd, hr]; exact hK _ _ h
end
theorem size_it : (Tryz.prog.info? 77).map (·.size) = some 3 := by kernel_rfl
theorem zero_it : (Tryz.prog.info? 77).map (·.zero) = some (some (.agg #[.slice none 0 0, .slice none 0 0, .int .i64 0])) := by kernel_rfl
def zit : List Value := [.slice none 0 0, .slice none 0 0, .int .i64 0]
theorem splice_len {cur cs : List Value} {off : Nat} (h : off + cs.length <= cur.length) : (splice cur off cs).length = cur.length := by unfold splice; simp; omega
theorem splice_take {cur cs : List Value} {off m : Nat} (h : m <= off) (h2 : off <= cur.length) : (splice cur off cs).take m = cur.take m := by
 unfold splice; rw [List.take_append_of_le_length (by rw [List.length_take]; omega), List.take_take, Nat.min_eq_left h]
theorem splice_take2 {cur cs : List Value} {off : Nat} (h : off <= cur.length) : (splice cur off cs).take (off + cs.length) = cur.take off ++ cs := by
 unfold splice; rw [<- List.append_assoc, List.take_left' (by rw [List.length_append, List.length_take]; omega)]
/-- slices.Delete of one item. -/
theorem items_delete {w : World} {b n i : Nat} {v : Value} {cs : List Value} (h : w.ownsRow b 77 3 v n cs) (h1 : Three cs) (hn : n <= 65536) (hi : i < n) :
  Calls Tryz.prog 80 #[v, .int .i64 i, .int .i64 ((i : Int) + 1)] w fun e w' => ∃ v', e = .returned v' /\ w'.ownsRow b 77 3 v' (n - 1) (cs.take (3 * i) ++ cs.drop (3 * i + 3)) /\ v'.ownBlock = v.ownBlock /\ Fr v.ownBlock.toList w w' := by
 rcases h.2 with ⟨rfl, h0⟩ | ⟨g, cap, cur, rfl, hg, hh, hnc, hcm, hcs, ht⟩
 ·omega
 ·obtain ⟨m, rfl⟩ : ∃ m, n = m + 1 := ⟨n - 1, by omega⟩; have hl : cs.length = (m + 1) * 3 := h.1; unfold maxLen at hcm; have hB : Blk w g 77 cur.toList := hh; have HB := lh hB; clear h hh hB
  go_enter Tryz.func80, Tryz.ntmps80
  obtain ⟨ti, hti, hz, hs, hby⟩ := info_get info_it; have hcur : cur.toList.length = cap * 3 := by simpa using hcs
  have hnews : ∀ (j : Nat) (u : Value), (cs.drop (3 * i + 3))[j]? = some u -> cur.toList[(i + 1) * 3 + j]? = some u := fun j u hj => by
   rw [List.getElem?_drop, <- ht, List.getElem?_take] at hj
   split at hj
   ·rwa [show 3 * i + 3 + j = (i + 1) * 3 + j by omega] at hj
   ·cases hj
  have hap : ∀ (W : World) (ty : TypeId) (q : Nat), (m = i ∨ q = (i + 1) * 3) -> Blk W g 77 cur.toList -> (Builtin.append_ #[86, 86] ty #[.slice (some ⟨g, 0, none⟩) i cap, .slice (some ⟨g, q, none⟩) (m + 1 - (i + 1)) (cap - (i + 1))]).run Tryz.prog W = .ok (.slice (some ⟨g, 0, none⟩) m cap) (W.setRow g (splice cur.toList (i * 3) (cs.drop (3 * i + 3))).toArray) := fun W ty q hq hW => by
   have := run_append_room (P := Tryz.prog) (w := W) 86 ty 77 ti Tryz.underlying86 hti g i cap cur hW ⟨g, q, none⟩ (m + 1 - (i + 1)) (cap - (i + 1)) (cs.drop (3 * i + 3)) (by rw [hs, List.length_drop]; omega) (fun j u hj => by
    rcases hq with hq | rfl
    ·rw [List.drop_of_length_le (by omega)] at hj; cases hj
    ·rw [Addr.add_mid]; exact hW.at_ (hnews j u hj)) (fun u hu => h1 u (List.mem_of_mem_drop hu)) (by omega) (by rw [hs, List.length_drop]; simp at hcur; omega)
   rw [hs, show i + (m + 1 - (i + 1)) = m by omega] at this; rw [this]; unfold splice; rw [List.append_assoc]
  obtain ⟨c2, hc2⟩ := nm (splice cur.toList (i * 3) (cs.drop (3 * i + 3))); have hc2l : c2.length = cap * 3 := by rw [hc2, splice_len (by rw [List.length_drop]; omega)]; exact hcur
  have hc2t : c2.take (m * 3) = cs.take (3 * i) ++ cs.drop (3 * i + 3) := by
   have e := splice_take2 (cs := cs.drop (3 * i + 3)) (show i * 3 <= cur.toList.length by omega); rw [List.length_drop, show i * 3 + (cs.length - (3 * i + 3)) = m * 3 by omega] at e; rw [hc2, e]
   congr 1
   rw [<- ht, List.take_take, Nat.min_eq_left (by omega), Nat.mul_comm]
  rw [<- hc2] at hap; have hz3 : (Builtin.zeroCells (Value.agg #[.slice none 0 0, .slice none 0 0, .int .i64 0]).cells 1).toList = zit := by kernel_rfl
  have hcl : ∀ (W : World) (ty : TypeId) (c : Nat), Blk W g 77 c2 -> (Builtin.clear_ #[86] ty #[.slice (some ⟨g, m * 3, none⟩) 1 c]).run Tryz.prog W = .ok (.tuple #[]) (W.setRow g (splice c2 (m * 3) zit).toArray) := fun W ty c hW =>
   run_clear_k Tryz.underlying86 zero_it hW (by omega) hz3 (by rw [hc2l]; show m * 3 + 3 <= _; omega) (by simp [zit, Value.oneCell'])
  have hfin : ∀ W : World, Fr [g] w W -> Blk W g 77 (splice c2 (m * 3) zit) -> W.ownsRow b 77 3 (.slice (some ⟨g, 0, none⟩) m cap) m (cs.take (3 * i) ++ cs.drop (3 * i + 3)) := fun W _ hW =>
   ⟨by rw [List.length_append, List.length_take, List.length_drop]; omega, .inr ⟨g, cap, (splice c2 (m * 3) zit).toArray, rfl, hg, hW, by omega, by unfold maxLen; omega, by rw [List.size_toArray, splice_len (by rw [hc2l]; show m * 3 + 3 <= _; omega), hc2l], by
    show (splice c2 (m * 3) zit).take (m * 3) = _
    rw [splice_take (Nat.le_refl _) (by omega), hc2t]⟩⟩
  have hic : i <= cap := by omega
  have hjn : ((i : Int) + 1).toNat = i + 1 := by omega
  have h01 : (0 : Int) <= (i : Int) + 1 := by omega
  have hjN : (i : Int) + 1 <= (m : Int) + 1 := by omega
  have mixed : Tryz.prog.follows Departure.mixedOrders = true := by kernel_rfl
  have hm1 : m <= m + 1 := by omega
  have hZ1 : (i : Int) <= (m : Int) := by omega
  have hZ2 : i <= m := by omega
  have hZ3 : (m : Int) <= (m : Int) + 1 := by omega
  have hmc : m + 1 <= cap := hnc; have hmc2 : ¬ cap = m := by omega
  have hX := lh hap; have HCL := lh hcl; have HFIN := lh hfin; have HR0 : Hid (Blk (w.drew.setRow g c2.toArray) g 77 c2) := lh (HB.out.drew.row_ c2); clear hap hnews hcl hfin hc2t hc2 hz3 hc2l hcur ht; go_upto_region 5 with fail
  by_cases hlast : cap = i + 1
  case' pos =>
   obtain rfl : m = i := by omega
   subst hlast
   go_region_law_o (refine step_append_run rfl _ _ 86 86 rfl _ _ (by simp [Act.eval, Act.put]) (by simp [Act.eval, Act.put]) (hX.out _ _ 0 (.inl rfl) HB.out.drew) ?_)
  case' neg =>
   go_region_law_o (refine step_append_run rfl _ _ 86 86 rfl _ _ (by simp [Act.eval, Act.put]) (by simp [Act.eval, Act.put]) (hX.out _ _ ((i + 1) * 3) (.inr rfl) HB.out.drew) ?_)
  all_goals
   go_wp2_with (refine wpList_clear_run rfl _ 86 rfl _ rfl (HCL.out _ _ _ HR0.out) ?_)
   go_ret
   exact ⟨_, rfl, HFIN.out _ (((Fr.refl [g] w).drew.setRow (.inl (by simp)) _).setRow (.inl (by simp)) _) (HR0.out.row_ _), rfl, by simpa [Value.ownBlock] using (((Fr.refl [g] w).drew.setRow (.inl (by simp)) _).setRow (.inl (by simp)) _)⟩
theorem overlaps_apart {W : World} {vb g q lb cb : Nat} {xs cur : List Value} (hv : Blk W vb 77 xs) (hg : Blk W g 77 cur) (hne : vb ≠ g) (hc : cur ≠ []) :
  (callFunc 100 #[.slice (some ⟨vb, 0, none⟩) 1 1, .slice (some ⟨g, q, none⟩) lb cb]).run Tryz.prog W = .ok (.value (.bool false)) W := by
 have hz : ∀ w : World, (Go.sizeOf 77).run Tryz.prog w = .ok 3 w := fun w => by
  obtain ⟨i, hi1, hi2⟩ := Option.map_eq_some_iff.1 size_it
  simp [Go.sizeOf, typeInfo, go_sem, hi1, hi2]
 have hs1 : W.shape? vb = some (77, xs.length) := by
  unfold Blk at hv
  simp [World.shape?, hv]
 have hs2 : W.shape? g = some (77, cur.length) := by
  unfold Blk at hg
  simp [World.shape?, hg]
 rw [run_callFunc_extern Tryz.func100 (by kernel_rfl) (by kernel_rfl) (by kernel_rfl) (e := Extern.SlicesOverlaps.overlaps #[86, 86] #[4]) (by kernel_rfl),
  Lib.run_overlaps_apart W 86 4 77 Tryz.underlying86 3 hz ⟨vb, 0, none⟩ ⟨g, q, none⟩ 1 1 lb cb hne _ _ _ _ hs1 hs2 (by simpa using hc) (hv.free 0) (hv.free _)]
 rfl
/-- slices.Insert of one item. -/
theorem items_insert {w : World} {b n i vb : Nat} {v : Value} {cs xs : List Value} (h : w.ownsRow b 77 3 v n cs) (h1 : Three cs) (hn : n <= 65536) (hi : i <= n) (hb : b <= w.heap.size)
  (hx : Blk w vb 77 xs) (hx1 : Three xs) (hxl : xs.length = 3) (hne : v.ownBlock ≠ some vb) :
  Calls Tryz.prog 71 #[v, .int .i64 i, .slice (some ⟨vb, 0, none⟩) 1 1] w fun e w' => ∃ v', e = .returned v' /\ w'.ownsRow b 77 3 v' (n + 1) (cs.take (3 * i) ++ (xs ++ cs.drop (3 * i))) /\ Fr v.ownBlock.toList w w' /\ (∀ q, v'.ownBlock = some q -> v.ownBlock = some q ∨ w.heap.size <= q) := by
 obtain ⟨ti, hti, hz, hs, hby⟩ := info_get info_it; have mixed : Tryz.prog.follows Departure.mixedOrders = true := by kernel_rfl
 have HH := lh h; have HX := lh hx; have HX1 := lh hx1; have hcl : cs.length = n * 3 := h.1
 have hxc : ∀ (j : Nat) (u : Value), xs[j]? = some u -> w.cell? ((⟨vb, 0, none⟩ : Addr).add j) = some u := fun j u hj => by
  rw [Addr.add_mid, Nat.zero_add]; exact hx.at_ hj
 have HXC := lh hxc; clear hx hx1 hxc
 by_cases hin : i = n
 ·subst hin; have e : cs.take (3 * i) ++ (xs ++ cs.drop (3 * i)) = cs ++ xs := by rw [List.take_of_length_le (by omega), List.drop_of_length_le (by omega), List.append_nil]
  rw [e]; obtain ⟨A, c, rfl, hc1, hc2⟩ := own_shape h; clear h e
  go_enter Tryz.func71, Tryz.ntmps71
  go_wp2_with (at_builtin; refine wpList_append_lies _ rfl _ _ 86 rfl b 77 ti (.agg #[.slice none 0 0, .slice none 0 0, .int .i64 0]) 3 56 Tryz.underlying86 hti hz hs hby rfl (by omega) _ i cs rfl HH.out ⟨vb, 0, none⟩ 1 1 xs rfl (by omega) HXC.out HX1.out (by omega) (by unfold maxLen; omega) (by omega) hb w.heap.size rfl ?_)
  all_goals
   intro g cap w' k1 k2 k3 k4; have HR := lh k1
   have HO : Hid (∀ q, (Value.slice (some ⟨g, 0, none⟩) (i + 1) cap).ownBlock = some q -> (Value.slice A i c).ownBlock = some q ∨ w.heap.size <= q) := lh fun q hq => by
    obtain rfl : g = q := by simpa [Value.ownBlock] using hq
    rcases k3 with k3 | k3
    ·exact .inl (by first | (rw [<- k3]; done) | (cases A <;> simp_all [Value.ownBlock]))
    ·exact .inr (by omega)
   have HF : Hid (Fr (Value.slice A i c).ownBlock.toList w w') := lh ((Fr.refl _ w).grown k2 (fun g hg => .inl (by
    have hg' : (Value.slice A i c).ownBlock = some g := by first | exact hg | (rw [<- hg]; cases A <;> rfl)
    rw [hg']; simp)))
   clear k1 k2 k3 k4
   go_wp2
   go_ret
   exact ⟨_, rfl, HR.out, HF.out, HO.out⟩
 ·rcases h.2 with ⟨rfl, h0⟩ | ⟨g, cap, cur, rfl, hg, hh, hnc, hcm, hcs, ht⟩
  ·omega
  ·unfold maxLen at hcm; have hB : Blk w g 77 cur.toList := hh; have hgv : vb ≠ g := fun e => hne (by rw [e]; rfl); have hcur : cur.toList.length = cap * 3 := by simpa using hcs
   have HB := lh hB; have hlt := hB.lt
   have hold : ∀ (j : Nat) (u : Value), (cs.drop (3 * i))[j]? = some u -> cur.toList[i * 3 + j]? = some u := fun j u hj => by
    rw [List.getElem?_drop, <- ht, List.getElem?_take] at hj
    split at hj
    ·rwa [show 3 * i + j = i * 3 + j by omega] at hj
    ·cases hj
   have htk : ∀ q, q <= n * 3 -> cur.toList.take q = cs.take q := fun q hq => by rw [<- ht, List.take_take, Nat.min_eq_left hq]
   clear h hh hB
   by_cases hroom : n + 1 <= cap
   ·-- in place
    have hX1 : ∀ (W : World) (ty : TypeId) (sc dc : Nat), Blk W g 77 cur.toList -> (Builtin.copy_ #[86, 86] ty #[.slice (some ⟨g, (i + 1) * 3, none⟩) (n - i) dc, .slice (some ⟨g, i * 3, none⟩) (n + 1 - i) sc]).run Tryz.prog W = .ok (goInt (Nat.min (n + 1 - i) (n - i))) (W.setRow g (splice cur.toList ((i + 1) * 3) (cs.drop (3 * i))).toArray) := fun W ty sc dc hW =>
     run_copy_k Tryz.underlying86 size_it hW (by show _ = min _ _ * 3; rw [List.length_drop, Nat.min_eq_right (by omega)]; omega) (fun j u hj => by rw [Addr.add_mid]; exact hW.at_ (hold j u hj)) (by rw [List.length_drop]; omega) (fun u hu => h1 u (List.mem_of_mem_drop hu))
    obtain ⟨c2, hc2⟩ := nm (splice cur.toList ((i + 1) * 3) (cs.drop (3 * i))); have hc2l : c2.length = cap * 3 := by rw [hc2, splice_len (by rw [List.length_drop]; omega)]; exact hcur
    have hc2t : c2.take ((n + 1) * 3) = cur.toList.take ((i + 1) * 3) ++ cs.drop (3 * i) := by
     have e := splice_take2 (cs := cs.drop (3 * i)) (show (i + 1) * 3 <= cur.toList.length by omega); rw [List.length_drop, show (i + 1) * 3 + (cs.length - 3 * i) = (n + 1) * 3 by omega] at e; rw [hc2, e]
    rw [<- hc2] at hX1
    have hX2 : ∀ (W : World) (ty : TypeId) (l dc : Nat), 1 <= l -> Blk W g 77 c2 -> Blk W vb 77 xs -> (Builtin.copy_ #[86, 86] ty #[.slice (some ⟨g, i * 3, none⟩) l dc, .slice (some ⟨vb, 0, none⟩) 1 1]).run Tryz.prog W = .ok (goInt (Nat.min 1 l)) (W.setRow g (splice c2 (i * 3) xs).toArray) := fun W ty l dc hl hW hV =>
     run_copy_k Tryz.underlying86 size_it hW (by show _ = min _ _ * 3; rw [Nat.min_eq_left hl]; omega) (fun j u hj => by rw [Addr.add_mid, Nat.zero_add]; exact hV.at_ hj) (by omega) HX1.out
    have hfin : ∀ W : World, Blk W g 77 (splice c2 (i * 3) xs) -> W.ownsRow b 77 3 (.slice (some ⟨g, 0, none⟩) (n + 1) cap) (n + 1) (cs.take (3 * i) ++ (xs ++ cs.drop (3 * i))) := fun W hW =>
     ⟨by rw [List.length_append, List.length_append, List.length_take, List.length_drop]; omega, .inr ⟨g, cap, (splice c2 (i * 3) xs).toArray, rfl, hg, hW, hroom, by unfold maxLen; omega, by rw [List.size_toArray, splice_len (by omega), hc2l], by
      show (splice c2 (i * 3) xs).take ((n + 1) * 3) = _
      have e1 : c2.take (i * 3) = cs.take (3 * i) := by rw [hc2, splice_take (by omega) (by omega), htk _ (by omega), Nat.mul_comm]
      have e2 : c2.drop (i * 3 + xs.length) = cs.drop (3 * i) ++ cur.toList.drop ((i + 1) * 3 + (cs.drop (3 * i)).length) := by
       rw [hc2, hxl]; unfold splice; rw [List.drop_left' (by rw [List.length_take]; omega)]
      unfold splice; rw [e1, e2, <- List.append_assoc, <- List.append_assoc, List.append_assoc (List.take (3 * i) cs) xs, List.take_left' (by rw [List.length_append, List.length_append, List.length_take, List.length_drop]; omega)]⟩⟩
    have HC1 := lh hX1; have HC2 := lh hX2; have HFIN := lh hfin; have HR0 : Hid (Blk (w.drew.setRow g c2.toArray) g 77 c2) := lh (HB.out.drew.row_ c2); have HV0 : Hid (Blk (w.drew.setRow g c2.toArray) vb 77 xs) := lh (HX.out.drew.row_far hgv _); have hov : ∀ lb cb q, (callFunc 100 #[.slice (some ⟨vb, 0, none⟩) 1 1, .slice (some ⟨g, q, none⟩) lb cb]).run Tryz.prog w = .ok (.value (.bool false)) w := fun lb cb q => overlaps_apart HX.out HB.out hgv (fun e => by rw [e] at hcur; simp at hcur; omega); have hw1 := wi i (by omega)
    have hi1 : (0 : Int) <= (i : Int) + 1 := by omega
    have hi2 : ((i : Int) + 1).toNat = i + 1 := by omega
    have hi3 : (i : Int) <= (n : Int) := by omega
    have hi4 : i <= n := hi; have hi5 : ¬ (cap = i + 1) := by omega
    have hi6 : ¬ (cap = i) := by omega
    have hi7 : (i : Int) <= (n : Int) + 1 := by omega
    have hi8 : (n : Int) + 1 <= (cap : Int) := by omega
    have hi9 : (0 : Int) <= (n : Int) + 1 := by omega
    have hi10 : ((n : Int) + 1).toNat = n + 1 := by omega
    have hi11 : ¬ ((cap : Int) < (n : Int) + 1) := by omega
    have hi12 : ¬ ((i : Int) = (n : Int)) := by omega
    have hi13 : i <= n + 1 := by omega
    clear hX1 hX2 hfin hold htk hc2t hc2 hc2l hcur ht hcs hcl
    go_enter Tryz.func71, Tryz.ntmps71
    go_wp2_with (simp only [hov])
    go_region_law_o (refine step_copy_runI rfl _ _ 86 86 rfl _ _ (by simp [Act.eval, Act.put]) (by simp [Act.eval, Act.put]) (HC1.out _ _ (cap - i) (cap - (i + 1)) HB.out.drew) ?_)
    go_wp2_with (refine wpList_copy_runI _ rfl _ _ 86 86 rfl _ _ rfl rfl (HC2.out _ _ (n + 1 - i) (cap - i) (by omega) HR0.out HV0.out) ?_)
    go_ret
    exact ⟨_, rfl, HFIN.out _ (HR0.out.row_ _), by simpa [Value.ownBlock] using (((Fr.refl [g] w).drew.setRow (.inl (by simp)) _).setRow (.inl (by simp)) _), fun q hq => .inl hq⟩
   ·obtain rfl : cap = n := by omega
    have hold0 : (Builtin.firstCells ti.size i (.slice (some ⟨g, 0, none⟩) i cap)).run Tryz.prog w.drew = .ok (cs.take (3 * i)).toArray w.drew := by
     rw [hs]; refine run_firstCells_some w.drew 3 i ⟨g, 0, none⟩ i cap (cs.take (3 * i)) (by rw [List.length_take]; omega) (fun j u hj => ?_); rw [Addr.add_mid, Nat.zero_add]; rw [List.getElem?_take] at hj
     split at hj
     ·rw [<- ht, List.getElem?_take] at hj
      split at hj
      ·exact HB.out.drew.at_ hj
      ·cases hj
     ·cases hj
    obtain ⟨G, hG⟩ := nm (grownCap w (cap + 1) cap 77); obtain ⟨ROW, hROW⟩ : ∃ ROW : Array Value, ROW = (cs.take (3 * i)).toArray ++ Builtin.zeroCells (Value.agg #[.slice none 0 0, .slice none 0 0, .int .i64 0]).cells (cap + 1 - i) ++ Builtin.zeroCells (Value.agg #[.slice none 0 0, .slice none 0 0, .int .i64 0]).cells (G - (cap + 1)) := ⟨_, rfl⟩; have hkk : (cap : Int) + 1 - (i : Int) = ((cap + 1 - i : Nat) : Int) := by omega
    have hrz : ∀ ty : TypeId, (Builtin.append_ #[86, 3] ty #[.slice (some ⟨g, 0, none⟩) i cap, .int .i64 ((cap : Int) + 1 - (i : Int))]).run Tryz.prog w = .ok (.slice (some ⟨w.heap.size, 0, none⟩) (cap + 1) G) (w.drew.alloc (.cells ROW 77)) := fun ty => by
     have hz' := Lib.run_append_grow_zeros (P := Tryz.prog) w 86 3 ty 77 ti (.agg #[.slice none 0 0, .slice none 0 0, .int .i64 0]) .i64 .i64 Tryz.underlying86 Tryz.underlying3 hti hz (some ⟨g, 0, none⟩) i cap (cs.take (3 * i)) hold0 (cap + 1 - i) (by omega) (by omega) (by omega) (by omega) (by rw [hby]; omega) (by rw [hby]; exact growslice_fits (by omega) (by omega)); rw [show i + (cap + 1 - i) = cap + 1 by omega, <- hG, <- hROW] at hz'; rw [hkk]; exact hz'
    have hGn : cap + 1 <= G := by rw [hG]; exact grownCap_ge w _ _ _
    have hGm : G <= maxLen := by rw [hG]; exact grownCap_le_maxLen w _ _ _ (by unfold maxLen; omega)
    have hR : ROW.toList.length = G * 3 := by
     rw [hROW]; simp only [Array.length_toList, Array.size_append, List.size_toArray, List.length_take, size_zeroCells]
     show _ + _ * 3 + _ * 3 = _
     omega
    have hRt : ROW.toList.take (i * 3) = cs.take (3 * i) := by
     rw [hROW, Array.toList_append, Array.toList_append, List.append_assoc, List.take_left' (by simp; omega)]
    obtain ⟨W1, hW1⟩ := nm (w.drew.alloc (.cells ROW 77)); have hb1 : Blk W1 w.heap.size 77 ROW.toList := by rw [hW1]; exact Blk.new w.drew _ ROW.toList
    have hf1 : Fr [] w W1 := by rw [hW1]; exact ((Fr.refl [] w).drew).alloc _
    have hv1 : Blk W1 vb 77 xs := HX.out.fr hf1 (by simp); have hg1 : Blk W1 g 77 cur.toList := HB.out.fr hf1 (by simp); have hvl := HX.out.lt; have hsz1 : W1.heap.size = w.heap.size + 1 := by rw [hW1]; simp
    rw [<- hW1] at hrz; obtain ⟨c2, hc2⟩ := nm (splice ROW.toList (i * 3) xs); obtain ⟨c3, hc3⟩ := nm (splice c2 ((i + 1) * 3) (cs.drop (3 * i))); have hc2l : c2.length = G * 3 := by rw [hc2, splice_len (by omega), hR]
    have hc3l : c3.length = G * 3 := by rw [hc3, splice_len (by rw [List.length_drop]; omega), hc2l]
    have hc3t : c3.take ((cap + 1) * 3) = cs.take (3 * i) ++ (xs ++ cs.drop (3 * i)) := by
     have e := splice_take2 (cs := cs.drop (3 * i)) (show (i + 1) * 3 <= c2.length by omega); rw [List.length_drop, show (i + 1) * 3 + (cs.length - 3 * i) = (cap + 1) * 3 by omega] at e; have e2 := splice_take2 (cs := xs) (show i * 3 <= ROW.toList.length by omega); rw [hxl, show i * 3 + 3 = (i + 1) * 3 by omega, hRt] at e2; rw [hc3, e, hc2, e2, List.append_assoc]
    have hX1 : ∀ (ty : TypeId), (Builtin.copy_ #[86, 86] ty #[.slice (some ⟨w.heap.size, i * 3, none⟩) (cap + 1 - i) (G - i), .slice (some ⟨vb, 0, none⟩) 1 1]).run Tryz.prog W1 = .ok (goInt (Nat.min 1 (cap + 1 - i))) (W1.setRow w.heap.size c2.toArray) := fun ty => by
     rw [hc2]; exact run_copy_k Tryz.underlying86 size_it hb1 (by show _ = min _ _ * 3; rw [Nat.min_eq_left (by omega)]; omega) (fun j u hj => by rw [Addr.add_mid, Nat.zero_add]; exact hv1.at_ hj) (by omega) HX1.out
    obtain ⟨W2, hW2⟩ := nm (W1.setRow w.heap.size c2.toArray); have hb2 : Blk W2 w.heap.size 77 c2 := by rw [hW2]; exact hb1.row_ c2
    have hg2 : Blk W2 g 77 cur.toList := by rw [hW2]; exact hg1.row_far (by omega) _
    have hf2 : Fr [] w W2 := by rw [hW2]; exact hf1.setRow (.inr (Nat.le_refl _)) _
    rw [<- hW2] at hX1
    have hX2 : ∀ (ty : TypeId), (Builtin.copy_ #[86, 86] ty #[.slice (some ⟨w.heap.size, (i + 1) * 3, none⟩) (cap - i) (G - (i + 1)), .slice (some ⟨g, i * 3, none⟩) (cap - i) (cap - i)]).run Tryz.prog W2.drew = .ok (goInt (Nat.min (cap - i) (cap - i))) (W2.drew.setRow w.heap.size c3.toArray) := fun ty => by
     rw [hc3]; exact run_copy_k Tryz.underlying86 size_it hb2.drew (by show _ = min _ _ * 3; rw [List.length_drop, Nat.min_self]; omega) (fun j u hj => by rw [Addr.add_mid]; exact hg2.drew.at_ (hold j u hj)) (by rw [List.length_drop]; omega) (fun u hu => h1 u (List.mem_of_mem_drop hu))
    have hfin : (W2.drew.setRow w.heap.size c3.toArray).ownsRow b 77 3 (.slice (some ⟨w.heap.size, 0, none⟩) (cap + 1) G) (cap + 1) (cs.take (3 * i) ++ (xs ++ cs.drop (3 * i))) :=
     ⟨by rw [List.length_append, List.length_append, List.length_take, List.length_drop]; omega, .inr ⟨w.heap.size, G, c3.toArray, rfl, hb, hb2.drew.row_ c3, hGn, hGm, by rw [List.size_toArray, hc3l], hc3t⟩⟩
    have hff : Fr [] w (W2.drew.setRow w.heap.size c3.toArray) := hf2.drew.setRow (.inr (Nat.le_refl _)) _; have HX1' := lh hX1; have HX2' := lh hX2; have HRZ := lh hrz; have HFIN := lh hfin; have HFF := lh hff; unfold maxLen at hGm; have hw1 := wi i (by omega)
    have hi1 : (0 : Int) <= (i : Int) + 1 := by omega
    have hi2 : ((i : Int) + 1).toNat = i + 1 := by omega
    have hi3 : (i : Int) <= (cap : Int) := by omega
    have hi4 : i <= cap := hi; have hi5 : ¬ (G = i + 1) := by omega
    have hi6 : ¬ (G = i) := by omega
    have hi6' : ¬ (cap = i) := by omega
    have hi7 : (i : Int) <= (cap : Int) + 1 := by omega
    have hi12 : ¬ ((i : Int) = (cap : Int)) := by omega
    have hi13 : i <= cap + 1 := by omega
    clear hX1 hX2 hrz hfin hff hold0 hold htk hcur ht hcs hcl hkk hG hROW hR hRt hb1 hf1 hv1 hg1 hvl hsz1 hb2 hg2 hf2 hc2 hc3 hc2l hc3l hc3t hW1 hW2
    go_enter Tryz.func71, Tryz.ntmps71
    go_wp2_with (first
     | (at_builtin; refine Lib.wpList_append_run _ rfl _ _ _ _ rfl _ _ rfl rfl _ _ (HRZ.out _) ?_)
     | (refine wpList_copy_runI _ rfl _ _ 86 86 rfl _ _ rfl rfl (HX1'.out _) ?_))
    go_region_law_o (refine step_copy_runI rfl _ _ 86 86 rfl _ _ (by simp [Act.eval, Act.put]) (by simp [Act.eval, Act.put]) (HX2'.out _) ?_)
    go_wp2
    go_ret
    exact ⟨_, rfl, HFIN.out, HFF.out.mono (by simp), fun q hq => .inr (Nat.le_of_eq (by simpa [Value.ownBlock] using hq))⟩
end
end Go.Proofs.YtpjbdpepofnleaaGreat
