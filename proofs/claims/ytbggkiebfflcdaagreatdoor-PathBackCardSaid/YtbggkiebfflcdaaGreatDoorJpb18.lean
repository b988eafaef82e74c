/-
  Joined by join.py: Es Et Im In
-/
import Derived.Test.YtbggkiebfflcdaaGreatDoorJpb17
set_option maxRecDepth 100000
set_option maxHeartbeats 32000000
namespace Go.Proofs.YtbggkiebfflcdaaGreatDoor
section
open Go.RowKit
theorem xJ {k : Nat} {b : UInt8} (hk : k < 4) (h : uE k b = true) : (k = 0 -> b.toNat < 128) /\ (k = 1 -> 192 <= b.toNat /\ b.toNat < 224) /\ (k = 2 -> 224 <= b.toNat /\ b.toNat < 240) /\ (k = 3 -> 240 <= b.toNat /\ b.toNat < 248) := by
 have := wC (fun b => (!uE 0 b || decide (b.toNat < 128)) && (!uE 1 b || decide (192 <= b.toNat /\ b.toNat < 224)) && (!uE 2 b || decide (224 <= b.toNat /\ b.toNat < 240)) && (!uE 3 b || decide (240 <= b.toNat /\ b.toNat < 248))) (by decide +kernel) b; simp only [Bool.and_eq_true, Bool.or_eq_true, Bool.not_eq_true', decide_eq_true_eq] at this; obtain ⟨⟨⟨t0, t1⟩, t2⟩, t3⟩ := this; refine ⟨fun e => ?_, fun e => ?_, fun e => ?_, fun e => ?_⟩ <;> subst e
 ·exact t0.resolve_left (by rw [h]; simp)
 ·exact t1.resolve_left (by rw [h]; simp)
 ·exact t2.resolve_left (by rw [h]; simp)
 ·exact t3.resolve_left (by rw [h]; simp)
theorem dL {b : UInt8} (h : lS b = true) : 128 <= b.toNat /\ b.toNat < 192 := by
 have := wC (fun b => !lS b || decide (128 <= b.toNat /\ b.toNat < 192)) (by decide +kernel) b
 simpa [h] using this
theorem uI {n : Nat} {b : UInt8} (h : n = b.toNat) : UInt8.ofNat n = b := by subst h; simp
theorem aAb {l : List UInt8} {r k : Nat} (h : nC l = some (r, k)) : pF r = l.take k /\ (∀ more, nC (l.take k ++ more) = some (r, k)) /\ (1 < k -> 128 <= r /\ ∀ c ∈ l.take k, 128 <= c.toNat) /\ (k = 1 -> ∃ c, l.take k = [c] /\ r = c.toNat /\ c.toNat < 128) := by
 have hK : ∀ j b0 bs, kD j b0 bs = some (r, k) -> k = j + 1 /\ jD (yB j b0) (bs.take j) = some r /\ (rB j : Int) <= r /\ gC r = true := fun j b0 bs h => by
  unfold kD at h
  split at h
  ·cases h
  ·rename_i r1 h1
   split at h
   ·cases h
   ·rename_i h2
    simp only [Option.some.injEq, Prod.mk.injEq] at h; obtain ⟨rfl, rfl⟩ := h; refine ⟨rfl, h1, by omega, ?_⟩
    cases hs : gC r1
    ·exact absurd (.inr hs) h2
    ·rfl
 match l with
 | [] => cases h
 | b0 :: bs =>
  rw [nC] at h
  split at h
  ·rename_i g0
   obtain ⟨rfl, h2, h3, h4⟩ := hK _ _ _ h; have hb := (xJ (by decide) g0).1 rfl; simp only [List.take_zero, jD, yB, vF, Nat.sub_zero, Option.some.injEq] at h2; subst h2; refine ⟨?_, fun more => dM hb _, fun e => absurd e (by decide), fun _ => ⟨b0, rfl, rfl, hb⟩⟩; unfold pF; rw [if_pos hb]
   simp
  ·rename_i g0
   split at h
   ·rename_i g1
    obtain ⟨rfl, h2, h3, h4⟩ := hK _ _ _ h; have hb := (xJ (by decide) g1.2).2.1 rfl
    match bs, g1.1 with
    | c1 :: bs, _ =>
     simp only [List.take_succ_cons, List.take_zero, jD, yB, vF, rB] at h2 h3
     split at h2
     ·rename_i k1
      have hc := dL k1; simp only [Option.some.injEq] at h2; refine ⟨?_, fun more => ?_, fun _ => ⟨by omega, fun c hc' => ?_⟩, fun e => absurd e (by decide)⟩
      ·unfold pF; rw [if_neg (by omega), if_pos (by omega)]; simp only [Nat.reduceAdd, List.take_succ_cons, List.take_zero]; rw [uI (b := b0) (by omega), uI (b := c1) (by omega)]
      ·simp only [Nat.reduceAdd, List.take_succ_cons, List.take_zero, List.cons_append, List.nil_append]; rw [nC, if_neg g0, if_pos ⟨by simp, g1.2⟩]; unfold kD; simp only [List.take_succ_cons, List.take_zero, jD, yB, vF, rB, k1, if_true, h2]; rw [if_neg (by rw [h4]; simp; omega)]
      ·simp only [Nat.reduceAdd, List.take_succ_cons, List.take_zero, List.mem_cons, List.not_mem_nil, or_false] at hc'; rcases hc' with rfl | rfl <;> omega
     ·cases h2
   ·rename_i g1
    split at h
    ·rename_i g2
     obtain ⟨rfl, h2, h3, h4⟩ := hK _ _ _ h; have hb := (xJ (by decide) g2.2).2.2.1 rfl
     match bs, g2.1, g1 with
     | c1 :: c2 :: bs, _, g1 =>
      simp only [List.take_succ_cons, List.take_zero, jD, yB, vF, rB] at h2 h3
      split at h2
      ·rename_i k1
       split at h2
       ·rename_i k2
        have hc := dL k1; have hc2 := dL k2; simp only [Option.some.injEq] at h2
        have gl : uE 1 b0 = false := by
         cases hl : uE 1 b0
         ·rfl
         ·have := (xJ (by decide) hl).2.1 rfl; omega
        refine ⟨?_, fun more => ?_, fun _ => ⟨by omega, fun c hc' => ?_⟩, fun e => absurd e (by decide)⟩
        ·unfold pF; rw [if_neg (by omega), if_neg (by omega), if_pos (by omega)]; simp only [Nat.reduceAdd, List.take_succ_cons, List.take_zero]; rw [uI (b := b0) (by omega), uI (b := c1) (by omega), uI (b := c2) (by omega)]
        ·simp only [Nat.reduceAdd, List.take_succ_cons, List.take_zero, List.cons_append, List.nil_append]; rw [nC, if_neg g0, if_neg (by rw [gl]; simp), if_pos ⟨by simp, g2.2⟩]; unfold kD; simp only [List.take_succ_cons, List.take_zero, jD, yB, vF, rB, k1, k2, if_true, h2]; rw [if_neg (by rw [h4]; simp; omega)]
        ·simp only [Nat.reduceAdd, List.take_succ_cons, List.take_zero, List.mem_cons, List.not_mem_nil, or_false] at hc'; rcases hc' with rfl | rfl | rfl <;> omega
       ·cases h2
      ·cases h2
    ·rename_i g2
     split at h
     ·rename_i g3
      obtain ⟨rfl, h2, h3, h4⟩ := hK _ _ _ h; have hb := (xJ (by decide) g3.2).2.2.2 rfl
      match bs, g3.1, g1, g2 with
      | c1 :: c2 :: c3 :: bs, _, g1, g2 =>
       simp only [List.take_succ_cons, List.take_zero, jD, yB, vF, rB] at h2 h3
       split at h2
       ·rename_i k1
        split at h2
        ·rename_i k2
         split at h2
         ·rename_i k3
          have hc := dL k1; have hc2 := dL k2; have hc3 := dL k3; simp only [Option.some.injEq] at h2
          have gl : uE 1 b0 = false := by
           cases hl : uE 1 b0
           ·rfl
           ·have := (xJ (by decide) hl).2.1 rfl; omega
          have gl2 : uE 2 b0 = false := by
           cases hl : uE 2 b0
           ·rfl
           ·have := (xJ (by decide) hl).2.2.1 rfl; omega
          refine ⟨?_, fun more => ?_, fun _ => ⟨by omega, fun c hc' => ?_⟩, fun e => absurd e (by decide)⟩
          ·unfold pF; rw [if_neg (by omega), if_neg (by omega), if_neg (by omega)]; simp only [Nat.reduceAdd, List.take_succ_cons, List.take_zero]; rw [uI (b := b0) (by omega), uI (b := c1) (by omega), uI (b := c2) (by omega), uI (b := c3) (by omega)]
          ·simp only [Nat.reduceAdd, List.take_succ_cons, List.take_zero, List.cons_append, List.nil_append]; rw [nC, if_neg g0, if_neg (by rw [gl]; simp), if_neg (by rw [gl2]; simp), if_pos ⟨by simp, g3.2⟩]; unfold kD; simp only [List.take_succ_cons, List.take_zero, jD, yB, vF, rB, k1, k2, k3, if_true, h2]; rw [if_neg (by rw [h4]; simp; omega)]
          ·simp only [Nat.reduceAdd, List.take_succ_cons, List.take_zero, List.mem_cons, List.not_mem_nil, or_false] at hc'; rcases hc' with rfl | rfl | rfl | rfl <;> omega
         ·cases h2
        ·cases h2
       ·cases h2
     ·cases h
theorem aBo (a b c d : UInt8) (more : List UInt8) : yE (117 :: a :: b :: c :: d :: more) = pL 0 [a, b, c, d] := by
 unfold yE; rw [if_pos ⟨by simp, rfl⟩]
 rfl
theorem aEI {c : UInt8} (h : c.toNat < 128) (more : List UInt8) : iM 39 (aD c ++ more) = some (c.toNat, (aD c).length) /\ (∃ b u, aD c = b :: u /\ b ≠ 39) := by
 by_cases h39 : c = 39
 ·subst h39; exact ⟨rfl, 92, [39], rfl, by decide⟩
 by_cases h34 : c = 34
 ·subst h34; exact ⟨rfl, 34, [], rfl, by decide⟩
 by_cases h92 : c = 92
 ·subst h92; exact ⟨rfl, 92, [92], rfl, by decide⟩
 by_cases h8 : c = 8
 ·subst h8; exact ⟨rfl, 92, [98], rfl, by decide⟩
 by_cases h9 : c = 9
 ·subst h9; exact ⟨rfl, 92, [116], rfl, by decide⟩
 by_cases h10 : c = 10
 ·subst h10; exact ⟨rfl, 92, [110], rfl, by decide⟩
 by_cases h12 : c = 12
 ·subst h12; exact ⟨rfl, 92, [102], rfl, by decide⟩
 by_cases h13 : c = 13
 ·subst h13; exact ⟨rfl, 92, [114], rfl, by decide⟩
 by_cases h32 : c.toNat < 32
 ·have e : aD c = [92, 117, 48, 48, sI (c.toNat / 16), sI (c.toNat % 16)] := by
   unfold aD cD; rw [if_neg h39, if_neg h34, if_neg (by simp [h34, h92]), if_neg h8, if_neg h9, if_neg h10, if_neg h12, if_neg h13, if_pos h32]
  have hx := wC (fun c => !decide (c.toNat < 32) || (decide (pL 0 [48, 48, sI (c.toNat / 16), sI (c.toNat % 16)] = some c.toNat) && gC (c.toNat : Int))) (by decide +kernel) c; simp only [h32, decide_true, Bool.not_true, Bool.false_or, Bool.and_eq_true, decide_eq_true_eq] at hx; rw [e]; refine ⟨?_, 92, _, rfl, by decide⟩; simp only [List.cons_append, List.nil_append]; unfold iM; rw [dM (by decide)]
  dsimp only
  rw [if_pos (by decide)]; simp only [List.drop_succ_cons, List.drop_zero]
  have e1 : mK 39 (117 :: 48 :: 48 :: sI (c.toNat / 16) :: sI (c.toNat % 16) :: more) = some (c.toNat, 5) := by
   unfold mK; rw [if_neg (by simp [gA]), if_neg (by simp [gA])]; unfold dJ
   dsimp only
   rw [if_neg (by decide), if_neg (by decide), if_neg (by decide), if_neg (by decide), if_neg (by decide), if_neg (by decide), aBo, hx.1]
   dsimp only
   rw [if_pos hx.2]
  rw [e1]
  rfl
 ·have e : aD c = [c] := by
   unfold aD cD; rw [if_neg h39, if_neg h34, if_neg (by simp [h34, h92]), if_neg h8, if_neg h9, if_neg h10, if_neg h12, if_neg h13, if_neg h32]
  rw [e]; refine ⟨?_, c, [], rfl, h39⟩; simp only [List.cons_append, List.nil_append]; unfold iM; rw [dM h]
  dsimp only
  rw [if_neg (show ¬ c.toNat = 92 from fun e => h92 (UInt8.toNat_inj.1 e)), if_neg h32]
  rfl
theorem aDa {c : UInt8} (h : 128 <= c.toNat) : aD c = [c] := by
 have hne : ∀ n : UInt8, n.toNat < 128 -> c ≠ n := fun n hn e => by subst e; omega
 unfold aD cD; rw [if_neg (hne 39 (by decide)), if_neg (hne 34 (by decide)), if_neg (by simp [hne 34 (by decide), hne 92 (by decide)]), if_neg (hne 8 (by decide)), if_neg (hne 9 (by decide)), if_neg (hne 10 (by decide)), if_neg (hne 12 (by decide)), if_neg (hne 13 (by decide)), if_neg (by omega)]
theorem aW : ∀ {l : List UInt8}, (∀ c ∈ l, 128 <= c.toNat) -> l.flatMap aD = l
 | [], _ => rfl
 | c :: l, h => by
  rw [List.flatMap_cons, aDa (h c (by simp)), aW fun d hd => h d (by simp [hd])]
  rfl
theorem cU {n : Nat} {b : UInt8} {u more o : List UInt8} {r m : Nat} (hb : b ≠ 39) (hs : iM 39 (b :: u ++ more) = some (r, (b :: u).length)) (ht : wF n 39 more = some (o, m)) : wF (n + 1) 39 (b :: u ++ more) = some (pF r ++ o, (b :: u).length + m) := by
 rw [List.cons_append] at hs ⊢; unfold wF
 dsimp only
 rw [if_neg hb, hs]
 dsimp only
 have : (b :: (u ++ more)).drop (b :: u).length = more := by simp
 rw [this, ht]
theorem fN : ∀ (n : Nat) (l rest : List UInt8) (fuel : Nat), l.length <= n -> fH n l = true -> (l.flatMap aD).length < fuel -> wF fuel 39 (l.flatMap aD ++ 39 :: rest) = some (l, (l.flatMap aD).length + 1)
 | 0, l, rest, fuel, h, _, hf => by
  have : l = [] := List.length_eq_zero_iff.mp (by omega); subst this
  match fuel, hf with
  | f + 1, _ => simp [wF]
 | n + 1, [], rest, fuel, _, _, hf => by
  match fuel, hf with
  | f + 1, _ => simp [wF]
 | n + 1, c :: cs, rest, fuel, h, hc, hf => by
  unfold fH at hc
  dsimp only at hc
  match hx : nC (c :: cs) with
  | none => rw [hx] at hc; cases hc
  | some (r, k) =>
   rw [hx] at hc
   dsimp only at hc
   obtain ⟨b1, b2, b3, b4⟩ := aAb hx; obtain ⟨p1, p2, _, _⟩ := kL hx; have hsplit : c :: cs = (c :: cs).take k ++ (c :: cs).drop k := (List.take_append_drop _ _).symm; have hdl : ((c :: cs).drop k).length <= n := by rw [List.length_drop]; simp only [List.length_cons] at h ⊢; omega
   have hfm : (c :: cs).flatMap aD = ((c :: cs).take k).flatMap aD ++ ((c :: cs).drop k).flatMap aD := by rw [<- List.flatMap_append, <- hsplit]
   rw [hfm] at hf ⊢; rw [List.length_append] at hf
   by_cases hk : k = 1
   ·obtain ⟨d, e1, e2, e3⟩ := b4 hk; obtain ⟨s1, b, u, s2, s3⟩ := aEI e3 (((c :: cs).drop k).flatMap aD ++ 39 :: rest); have hfd : ((c :: cs).take k).flatMap aD = b :: u := by rw [e1]; simp [s2]
    rw [hfd] at hf ⊢; rw [s2, <- e2] at s1; have hn1 : 1 <= (b :: u).length := by simp
    have ih := fN n _ rest (fuel - 1) hdl hc (by omega); have := cU (n := fuel - 1) s3 s1 ih; rw [show fuel - 1 + 1 = fuel by omega] at this; rw [List.append_assoc, this, b1, <- hsplit, List.length_append, Nat.add_assoc]
   ·obtain ⟨g1, g2⟩ := b3 (by omega); have hfd := aW g2; rw [hfd] at hf ⊢; have htl : ((c :: cs).take k).length = k := by rw [List.length_take]; omega
    match hT : (c :: cs).take k, htl with
    | [], h0 => simp at h0; omega
    | b :: u, h0 =>
     rw [hT] at b1 b2 g2 hf hsplit
     have s1 : iM 39 (b :: u ++ (((c :: cs).drop k).flatMap aD ++ 39 :: rest)) = some (r, (b :: u).length) := by
      unfold iM; rw [b2]
      dsimp only
      rw [if_neg (by omega), if_neg (by omega), h0]
     have hb : b ≠ 39 := fun e => by have := g2 b (by simp); subst e; exact absurd this (by decide)
     have ih := fN n _ rest (fuel - 1) hdl hc (by omega); have := cU (n := fuel - 1) hb s1 ih; rw [show fuel - 1 + 1 = fuel by omega] at this; rw [List.append_assoc, this, b1, List.length_append, Nat.add_assoc]; rw [<- hsplit]
theorem xU (l : List UInt8) : (qE l).length = (l.flatMap aD).length + 2 := by unfold qE; simp
theorem dU {a : Nat} {l r : List UInt8} {ts : List Tkn} (h : lE l = true) (hr : dE (a + (qE l).length) r ts) : dE a (qE l ++ r) (⟨2, l, .zero, a, a + (qE l).length⟩ :: ts) := by
 rw [xU] at hr ⊢; have e : qE l ++ r = 39 :: (l.flatMap aD ++ 39 :: r) := by unfold qE; simp
 rw [e]
 have ht : iH (39 :: (l.flatMap aD ++ 39 :: r)) = some (l, (l.flatMap aD).length + 2) := by
  unfold iH
  dsimp only
  rw [fN l.length l r _ (Nat.le_refl _) h (by simp; omega)]
 have hx : gB (39 :: (l.flatMap aD ++ 39 :: r)) = .ok (2, l, .zero, (l.flatMap aD).length + 2) := by
  unfold gB; simp only [ht]
  rfl
 have := fC (a := a) (c := 39) (u := l.flatMap aD ++ [39]) (l := r) (ts := ts) (k := 2) (s := l) (d := .zero) (m := (l.flatMap aD).length + 2) rfl (by simpa using hx) (by simp) (by decide) hr
 simpa using this
theorem eU : ∀ (u : Nat), u < 1000000 -> qH (Lib.decDigits u) = u
 | u, hu => by
  by_cases h : u < 10
  ·rw [Lib.decDigits_one h]; obtain ⟨_, h2⟩ := tW h; simp only [qH, List.foldl_cons, List.foldl_nil]; rw [h2]; omega
  ·have e : Lib.decDigits u = Lib.decDigits (u / 10) ++ [UInt8.ofNat (48 + u % 10)] := by rw [Lib.decDigits, dif_neg h]
   obtain ⟨_, h2⟩ := tW (n := u % 10) (by omega); have ih := eU (u / 10) (by omega); rw [e]; unfold qH at ih ⊢; rw [List.foldl_append, ih]; simp only [List.foldl_cons, List.foldl_nil]; rw [h2]; omega
termination_by u => u
theorem cJ {p : UInt8 -> Bool} : ∀ {l t : List UInt8}, l.all p = true -> (∀ c r, t = c :: r -> p c = false) -> (l ++ t).takeWhile p = l /\ (l ++ t).dropWhile p = t
 | [], t, _, ht => by
  match t with
  | [] => exact ⟨rfl, rfl⟩
  | c :: r =>
   have := ht c r rfl
   simp [this]
 | c :: l, t, hl, ht => by
  simp only [List.all_cons, Bool.and_eq_true] at hl; obtain ⟨i1, i2⟩ := cJ hl.2 ht; rw [List.cons_append, List.takeWhile_cons, List.dropWhile_cons, hl.1, if_pos rfl, if_pos rfl, i1, i2]; exact ⟨rfl, rfl⟩
theorem bW (n : Nat) : (zA n).all wE = true := by
 unfold zA; rw [List.all_eq_true]; intro c hc; rw [List.eq_of_mem_replicate hc]
 rfl
theorem cW (n : Nat) : (zA n).all bB = true := by
 unfold zA; rw [List.all_eq_true]; intro c hc; rw [List.eq_of_mem_replicate hc]
 rfl
theorem aAc {c : UInt8} (h : c ≠ 48) : wE c = false := by
 unfold wE; rw [beq_eq_false_iff_ne]; intro e; exact h (UInt8.toNat_inj.1 e)
theorem gM (n : Nat) : (zA n).length = n := by unfold zA; simp
theorem aBp {neg : Bool} {D : List UInt8} {e : Int} (i j : Nat) (hD : D ≠ []) (h1 : D.head? ≠ some 48) (h2 : D.getLast? ≠ some 48) (hs : Dcm.sane ⟨neg, D, e + j⟩ = true) : sE neg (zA i ++ (D ++ zA j)) e = .ok ⟨neg, D, e + j⟩ := by
 have d1 : (zA i ++ (D ++ zA j)).dropWhile wE = D ++ zA j := (cJ (bW i) fun c r hc => by
  match D, hD, h1 with
  | x :: xs, _, h1 =>
   rw [List.cons_append] at hc; injection hc with e1 e2; subst e1; exact aAc fun e => h1 (by rw [e]; rfl)).2
 have d2 : eE wE (D ++ zA j) = D := by
  unfold eE; rw [List.reverse_append]; have hr : (zA j).reverse = zA j := by unfold zA; exact List.reverse_replicate
  rw [hr, (cJ (t := D.reverse) (bW j) fun c r hc => by
   refine aAc fun e => h2 ?_; rw [<- List.head?_reverse, hc, e]
   rfl).2, List.reverse_reverse]
 unfold sE
 dsimp only
 rw [d1, d2, if_neg hD]; have e1 : e + ((D ++ zA j).length : Int) - (D.length : Int) = e + j := by rw [List.length_append, gM]; omega
 rw [e1, if_pos hs]
def oX (ex : List UInt8) (x : Int) : Prop := (ex = [] /\ x = 0) ∨ ∃ (neg : Bool) (f : List UInt8), ex = 101 :: (if neg = true then 45 else 43) :: f /\ f ≠ [] /\ f.all bB = true /\ x = if neg = true then -(qH f : Int) else (qH f : Int)
theorem aDb {ex : List UInt8} {x : Int} (h : oX ex x) : lK ex = (x, [], true) := by
 rcases h with ⟨rfl, rfl⟩ | ⟨neg, f, rfl, h0, hf, rfl⟩
 ·rfl
 ·obtain ⟨i1, i2⟩ := zT hf; have h0' : f.isEmpty = false := by cases f with | nil => exact absurd rfl h0 | cons _ _ => rfl
  unfold lK
  dsimp only
  rw [if_pos (by decide)]
  cases neg <;> simp [gA, i1, i2, h0']
theorem kP : ∀ (d r : List UInt8) (p : Option UInt8), d.all bB = true -> ∃ p', pA p (d ++ r) = d.length + pA p' r
 | [], r, p, _ => ⟨p, by simp⟩
 | c :: d, r, p, hd => by
  simp only [List.all_cons, Bool.and_eq_true] at hd; obtain ⟨p', ih⟩ := kP d r (some c) hd.2; refine ⟨p', ?_⟩; have hq : pA p (c :: (d ++ r)) = pA (some c) (d ++ r) + 1 := by rw [pA, hd.1, Bool.true_or, Bool.true_or, Bool.true_or, if_pos rfl]
  rw [List.cons_append, hq, ih, List.length_cons]; omega
def oG (part : List UInt8) : List UInt8 := if part = [] then [] else 46 :: part
theorem dW {ex rest : List UInt8} {x : Int} (h : oX ex x) (hr : vO rest = true) (p : Option UInt8) : pA p (ex ++ rest) = ex.length := by
 rcases h with ⟨rfl, _⟩ | ⟨neg, f, rfl, h0, hf, _⟩
 ·simpa using oR hr p
 ·have := lI f rest (some (if neg = true then 45 else 43)) hf hr
  cases neg <;> (simp only [List.cons_append]; unfold pA; simp [eB, bB, pA, gH]; exact this)
theorem fU {whole part ex rest : List UInt8} {x : Int} (p : Option UInt8) (hw : whole.all bB = true) (hp : part.all bB = true) (he : oX ex x) (hr : vO rest = true) : pA p (whole ++ (oG part ++ (ex ++ rest))) = (whole ++ (oG part ++ ex)).length := by
 obtain ⟨p1, e1⟩ := kP whole (oG part ++ (ex ++ rest)) p hw; rw [e1]; unfold oG
 by_cases h0 : part = []
 ·simp only [if_pos h0]; rw [List.nil_append, dW he hr]; simp
 ·simp only [if_neg h0]; obtain ⟨p2, e2⟩ := kP part (ex ++ rest) (some 46) hp
  have hh : gA 46 (part ++ (ex ++ rest)) = false := by
   match part, h0, hp with
   | c :: l, _, hp =>
    simp only [List.all_cons, Bool.and_eq_true] at hp; have := (fM hp.1).2.2.2.2.2
    simp [gA, this]
  have hq : pA p1 (46 :: (part ++ (ex ++ rest))) = part.length + ex.length + 1 := by
   unfold pA; rw [hh, if_pos (by simp [bB, eB]), e2, dW he hr]
  rw [List.cons_append, hq]; simp only [List.length_append, List.length_cons]; omega
theorem aBq {neg : Bool} {whole part ex : List UInt8} {x : Int} (h0 : whole ≠ []) (hw : whole.all bB = true) (hz : ¬ (1 < whole.length /\ gA 48 whole = true)) (hp : part.all bB = true) (he : oX ex x) (hl : (whole ++ (oG part ++ ex)).length <= 900) :
  xE ((if neg then [45] else []) ++ (whole ++ (oG part ++ ex))) = sE neg (whole ++ part) (x - part.length) := by
 have hneg : gA 45 ((if neg then [45] else []) ++ (whole ++ (oG part ++ ex))) = neg := by
  cases neg
  ·match whole, h0, hw with
   | c :: l, _, hw =>
    simp only [List.all_cons, Bool.and_eq_true] at hw; have := (fM hw.1).2.2.1
    simp [gA, this]
  ·rfl
 have hs : (if neg then ((if neg then [45] else []) ++ (whole ++ (oG part ++ ex))).drop 1 else ((if neg then [45] else []) ++ (whole ++ (oG part ++ ex)))) = whole ++ (oG part ++ ex) := by cases neg <;> rfl
 have hlen : ¬ 1000 < ((if neg then [45] else []) ++ (whole ++ (oG part ++ ex))).length := by
  have h45 : (if neg then [45] else ([] : List UInt8)).length <= 1 := by cases neg <;> simp
  rw [List.length_append]; omega
 have hexh : ∀ c r, ex = c :: r -> bB c = false := fun c r hc => by
  rcases he with ⟨rfl, _⟩ | ⟨ng, f, rfl, _⟩
  ·cases hc
  ·injection hc with e1; subst e1; rfl
 have hex46 : gA 46 ex = false := by
  rcases he with ⟨rfl, _⟩ | ⟨ng, f, rfl, _⟩ <;> rfl
 obtain ⟨t1, t2⟩ := cJ (l := whole) (t := oG part ++ ex) hw fun c r hc => by
  unfold oG at hc
  split at hc
  ·exact hexh c r hc
  ·injection hc with e1; subst e1; rfl
 obtain ⟨t3, t4⟩ := cJ (l := part) (t := ex) hp hexh; have hw0 : whole.isEmpty = false := by cases whole with | nil => exact absurd rfl h0 | cons _ _ => rfl
 have hz' : (decide (1 < whole.length) && gA 48 whole) = false := by
  rw [Bool.eq_false_iff]; intro h; simp only [Bool.and_eq_true, decide_eq_true_eq] at h; exact hz h
 have hE := aDb he; unfold xE; rw [if_neg hlen]; simp only [hneg, hs, t1, t2, hw0, hz']; unfold oG
 by_cases hpe : part = []
 ·subst hpe; simp only [if_true, List.nil_append, hex46, Bool.false_eq_true, if_false, hE]
  simp
 ·have hpe' : part.isEmpty = false := by cases part with | nil => exact absurd rfl hpe | cons _ _ => rfl
  have h46 : gA 46 (46 :: (part ++ ex)) = true := rfl; simp only [hpe, if_false, h46, if_true, List.cons_append, List.drop_succ_cons, List.drop_zero, t3, t4, hE, hpe']
  simp
theorem lP {d : Dcm} (h : d.sane = true) (h0 : d.digits ≠ []) : d.digits.length <= 40 /\ d.digits.all bB = true /\ -400 <= d.high /\ d.high <= 400 /\ d.digits.head? ≠ some 48 /\ d.digits.getLast? ≠ some 48 := by
 unfold Dcm.sane at h; rw [if_neg h0] at h; simp only [Bool.and_eq_true, decide_eq_true_eq] at h; obtain ⟨⟨⟨⟨h1, h2⟩, h3, h4⟩, h5⟩, h6⟩ := h; exact ⟨h1, h2, h3, h4, h5, h6⟩
theorem pX {d : Dcm} (h : d.sane = true) (h0 : d.digits ≠ []) : ∃ whole part ex x, d.written = whole ++ (oG part ++ ex) /\ whole ≠ [] /\ whole.all bB = true /\ ¬ (1 < whole.length /\ gA 48 whole = true) /\ part.all bB = true /\ oX ex x /\ (whole ++ (oG part ++ ex)).length <= 80 /\ sE d.neg (whole ++ part) (x - part.length) = .ok d := by
 obtain ⟨f1, f2, f3, f4, f5, f6⟩ := lP h h0; obtain ⟨neg, D, e⟩ := d; simp only [Dcm.high] at *; have n1 : 1 <= D.length := by cases D with | nil => exact absurd rfl h0 | cons _ _ => simp
 have hh48 : gA 48 D = false := by
  unfold gA; rw [beq_eq_false_iff_ne]; exact f5
 have htake : ∀ k, 0 < k -> gA 48 (D.take k) = false := fun k hk => by
  match D, h0, hh48 with
  | c :: l, _, hh48 =>
   match k, hk with
   | k + 1, _ => simpa [gA] using hh48
 have hhz : ∀ zs, gA 48 (D ++ zs) = false := fun zs => by
  match D, h0, hh48 with
  | c :: l, _, hh => simpa [gA] using hh
 have hall : ∀ k, (D.take k).all bB = true /\ (D.drop k).all bB = true := fun k => ⟨List.all_eq_true.2 fun c hc => List.all_eq_true.1 f2 c (List.mem_of_mem_take hc), List.all_eq_true.2 fun c hc => List.all_eq_true.1 f2 c (List.mem_of_mem_drop hc)⟩
 have form0 : ∀ (i j : Nat) (y : Int), y + j = e -> sE neg (zA i ++ (D ++ zA j)) y = .ok ⟨neg, D, e⟩ := fun i j y hy => by
  have := aBp (neg := neg) (e := y) i j h0 f5 f6 (by rw [hy]; exact h); rw [hy] at this; exact this
 have formP : ∀ (y : Int), y = e -> sE neg D y = .ok ⟨neg, D, e⟩ := fun y hy => by
  have := form0 0 0 y (by simpa using hy)
  simpa [zA] using this
 unfold Dcm.written
 dsimp only [Dcm.high]
 by_cases c1 : (D.length : Int) <= D.length + e /\ (D.length : Int) + e <= 21
 ·rw [if_pos c1]; refine ⟨D ++ zA ((D.length : Int) + e - D.length).toNat, [], [], 0, by simp [oG], by simp [h0], by rw [List.all_append, f2, cW]; rfl, fun hh => ?_, rfl, .inl ⟨rfl, rfl⟩, by simp [oG, gM]; omega, ?_⟩
  ·have h2 := hh.2; rw [hhz] at h2
   cases h2
  ·have := form0 0 ((D.length : Int) + e - D.length).toNat 0 (by omega)
   simpa [zA] using this
 ·rw [if_neg c1]
  by_cases c2 : 1 <= (D.length : Int) + e /\ (D.length : Int) + e <= 21
  ·rw [if_pos c2]; obtain ⟨k, hk⟩ : ∃ k : Nat, (D.length : Int) + e = k := ⟨((D.length : Int) + e).toNat, by omega⟩; rw [hk] at c1 c2 ⊢; simp only [Int.toNat_natCast]; have hdl : (D.drop k).length = D.length - k := List.length_drop; have hdn : D.drop k ≠ [] := fun hd => by rw [hd] at hdl; simp at hdl; omega
   refine ⟨D.take k, D.drop k, [], 0, by unfold oG; rw [if_neg hdn]; simp, fun ht => ?_, (hall k).1, fun hh => ?_, (hall k).2, .inl ⟨rfl, rfl⟩, ?_, ?_⟩
   ·have := congrArg List.length ht; rw [List.length_take, List.length_nil] at this; omega
   ·have h2 := hh.2; rw [htake k (by omega)] at h2; cases h2
   ·unfold oG; rw [if_neg hdn]; simp only [List.length_append, List.length_take, List.length_cons, List.length_drop, List.length_nil]; omega
   ·rw [List.take_append_drop]; exact formP _ (by rw [hdl]; omega)
  ·rw [if_neg c2]
   by_cases c3 : -5 <= (D.length : Int) + e /\ (D.length : Int) + e < 1
   ·rw [if_pos c3]; obtain ⟨k, hk⟩ : ∃ k : Nat, -((D.length : Int) + e) = k := ⟨(-((D.length : Int) + e)).toNat, by omega⟩; rw [hk]; simp only [Int.toNat_natCast]; have hpn : zA k ++ D ≠ [] := by simp [h0]
    refine ⟨[48], zA k ++ D, [], 0, by unfold oG; rw [if_neg hpn]; simp, by simp, by decide, by simp, by rw [List.all_append, cW, f2]; rfl, .inl ⟨rfl, rfl⟩, ?_, ?_⟩
    ·unfold oG; rw [if_neg hpn]; simp only [List.length_append, List.length_cons, List.length_nil, gM]; omega
    ·have := form0 (k + 1) 0 (0 - ((zA k ++ D).length : Int)) (by rw [List.length_append, gM]; simp only [Int.natCast_zero, Int.add_zero]; push_cast; omega)
     simpa [zA, List.replicate_succ] using this
   ·rw [if_neg c3]; have hd1 : (D.drop 1).length = D.length - 1 := List.length_drop
    have fin : ∀ mid ex : List UInt8, mid = oG (D.drop 1) -> oX ex ((D.length : Int) + e - 1) -> ex.length <= 6 -> ∃ whole part ex' x, (D.take 1 ++ mid) ++ ex = whole ++ (oG part ++ ex') /\ whole ≠ [] /\ whole.all bB = true /\ ¬ (1 < whole.length /\ gA 48 whole = true) /\ part.all bB = true /\ oX ex' x /\ (whole ++ (oG part ++ ex')).length <= 80 /\ sE neg (whole ++ part) (x - part.length) = .ok ⟨neg, D, e⟩ := fun mid ex hm hxo hxl => by
     refine ⟨D.take 1, D.drop 1, ex, _, by rw [hm, List.append_assoc], fun ht => ?_, (hall 1).1, fun hh => ?_, (hall 1).2, hxo, ?_, ?_⟩
     ·have := congrArg List.length ht; rw [List.length_take, List.length_nil] at this; omega
     ·have h1 := hh.1; rw [List.length_take] at h1; omega
     ·have hdp : (oG (D.drop 1)).length <= D.length + 1 := by
       unfold oG
       split
       ·simp
       ·rw [List.length_cons]; omega
      have htk : (D.take 1).length <= 1 := by rw [List.length_take]; omega
      simp only [List.length_append]; omega
     ·rw [List.take_append_drop]; exact formP _ (by rw [hd1]; omega)
    have hmid1 : 1 < (D.length : Int) -> 46 :: D.drop 1 = oG (D.drop 1) := fun hn => by
     unfold oG; rw [if_neg (fun hd => by rw [hd] at hd1; simp at hd1; omega)]
    have hmid0 : ¬ 1 < (D.length : Int) -> [] = oG (D.drop 1) := fun hn => by
     unfold oG; rw [if_pos (List.length_eq_zero_iff.1 (by omega))]
    have hexP : 0 < (D.length : Int) + e -> oX ([101, 43] ++ Lib.itoa ((D.length : Int) + e - 1)) ((D.length : Int) + e - 1) /\ ([101, 43] ++ Lib.itoa ((D.length : Int) + e - 1)).length <= 6 := fun hp => by
     obtain ⟨u, hu⟩ : ∃ u : Nat, (D.length : Int) + e - 1 = u := ⟨((D.length : Int) + e - 1).toNat, by omega⟩; obtain ⟨i1, i2, i3, i4, i5⟩ := qP u; have h5 := i5 2 (by omega); rw [hu, Lib.itoa_nonneg]; refine ⟨.inr ⟨false, Lib.decDigits u, rfl, i2, i1, ?_⟩, ?_⟩
     ·rw [eU u (by omega)]; rfl
     ·simp only [LN]; omega
    have hexN : ¬ 0 < (D.length : Int) + e -> oX ([101] ++ Lib.itoa ((D.length : Int) + e - 1)) ((D.length : Int) + e - 1) /\ ([101] ++ Lib.itoa ((D.length : Int) + e - 1)).length <= 6 := fun hp => by
     obtain ⟨u, hu⟩ : ∃ u : Nat, (D.length : Int) + e - 1 = -(u : Int) := ⟨(-((D.length : Int) + e - 1)).toNat, by omega⟩; obtain ⟨i1, i2, i3, i4, i5⟩ := qP u; have h5 := i5 2 (by omega); rw [hu, Lib.itoa_neg u (by omega)]; refine ⟨.inr ⟨true, Lib.decDigits u, rfl, i2, i1, ?_⟩, ?_⟩
     ·rw [eU u (by omega)]; rfl
     ·simp only [LN]; omega
    rw [List.append_assoc]
    by_cases hn : 1 < (D.length : Int)
    ·rw [if_pos hn]
     by_cases hp : 0 < (D.length : Int) + e
     ·rw [if_pos hp]; exact fin _ _ (hmid1 hn) (hexP hp).1 (hexP hp).2
     ·rw [if_neg hp]; exact fin _ _ (hmid1 hn) (hexN hp).1 (hexN hp).2
    ·rw [if_neg hn]
     by_cases hp : 0 < (D.length : Int) + e
     ·rw [if_pos hp]; exact fin _ _ (hmid0 hn) (hexP hp).1 (hexP hp).2
     ·rw [if_neg hp]; exact fin _ _ (hmid0 hn) (hexN hp).1 (hexN hp).2
theorem aEJ {a : Nat} {d : Dcm} {r : List UInt8} {ts : List Tkn} (h : d.sane = true) (hr : vO r = true) (ht : dE (a + d.text.length) r ts) : dE a (d.text ++ r) (⟨3, [], d, a, a + d.text.length⟩ :: ts) := by
 have hs : ¬ d.sane = false := by rw [h]; simp
 by_cases h0 : d.digits = []
 ·have hd : d = .zero := by
   obtain ⟨neg, D, e⟩ := d
   simp only at h0
   subst h0; simp only [Dcm.sane, if_true, decide_eq_true_eq] at h; obtain ⟨rfl, rfl⟩ := h
   rfl
  subst hd; have e : Dcm.text .zero = [48] := rfl; rw [e] at ht ⊢; refine fC (c := 48) (u := []) rfl ?_ rfl (by decide) ht; have hn : pA none (48 :: r) = 1 := lI [48] r none rfl hr; unfold gB
  dsimp only
  rw [List.nil_append, if_neg (by decide), if_pos (by simp [bB]), hn]
  rfl
 ·obtain ⟨whole, part, ex, x, w1, w2, w3, w4, w5, w6, w7, w8⟩ := pX h h0
  have e : d.text = (if d.neg then [45] else []) ++ (whole ++ (oG part ++ ex)) := by
   unfold Dcm.text; rw [if_neg hs, if_neg h0, w1]
   cases d.neg <;> rfl
  have hp := aBq (neg := d.neg) w2 w3 w4 w5 w6 (by omega); rw [w8, <- e] at hp
  have hn : pA none (d.text ++ r) = d.text.length := by
   rw [e]
   cases d.neg
   ·simp only [Bool.false_eq_true, if_false, List.nil_append, List.append_assoc]; exact fU none w3 w5 w6 hr
   ·simp only [if_true, List.cons_append, List.nil_append, List.append_assoc]; unfold pA; rw [if_pos (by simp [gH])]; have := fU (some 45) w3 w5 w6 hr; rw [this]
    simp
  have hne : ∃ c u, d.text = c :: u /\ rR c = false /\ uD c = false /\ (bB c || (c.toNat == 45 && cG (u ++ r))) = true := by
   match whole, w2, w3, e with
   | f :: fs, _, w3, e =>
    simp only [List.all_cons, Bool.and_eq_true] at w3; obtain ⟨g1, g2, _⟩ := fM w3.1
    cases hneg : d.neg with
    | false =>
     rw [hneg] at e; exact ⟨f, _, e, g1, g2, by rw [w3.1]; rfl⟩
    | true =>
     rw [hneg] at e; exact ⟨45, _, e, rfl, rfl, by simp [cG, w3.1]⟩
  obtain ⟨c, u, e1, g1, g2, g3⟩ := hne; rw [e1] at hp hn ht ⊢; rw [List.cons_append] at hn ⊢; refine fC g2 ?_ rfl (by decide) ht; unfold gB
  dsimp only
  rw [g1, if_neg (by simp), if_pos g3, hn]; have : List.take (c :: u).length (c :: (u ++ r)) = c :: u := by simp
  rw [this, hp]
end
section
open Go.RowKit Go.Shelf
def aGR (n : Nat) (w : World) (j : Nat) (v : Value) (wr : World) : Prop := ∃ k : Nat, k + j = n /\ v = .int .i64 (k : Int) /\ w = wr
theorem aGS {w : World} (d : Dcm) (h : d.sane = true) : RV 134 #[jC d] w (.bool true) := by
 refine cA fun R HQ => ?_
 by_cases h0 : d.digits = []
 ·have hd : d = .zero := by
   obtain ⟨neg, D, e⟩ := d
   simp only at h0
   subst h0; simp only [Dcm.sane, if_true, decide_eq_true_eq] at h; obtain ⟨rfl, rfl⟩ := h
   rfl
  subst hd; clear h h0; unfold jC S8 Dcm.zero
  simp only
  go_enter Tryz.func134, Tryz.ntmps134
  go_wp2_with fail; exact HQ.out _ _ ⟨by rfl, (Fr.refl _ _).alloc _⟩
 ·obtain ⟨f1, f2, f3, f4, f5, f6⟩ := lP h h0; obtain ⟨neg, digits, exp⟩ := d; simp only [Dcm.high] at h0 f1 f2 f3 f4 f5 f6; unfold jC S8
  simp only
  obtain ⟨s, hs⟩ : ∃ s : ByteArray, s = ⟨digits.toArray⟩ := ⟨_, rfl⟩; have hz : s.size = digits.length := by rw [hs]; simp [ByteArray.size]
  have hsb : aA s = digits := by rw [hs]; rfl
  rw [<- hs]; have hn0 : 0 < digits.length := by cases digits with | nil => exact absurd rfl h0 | cons _ _ => simp
  obtain ⟨c0, hc0⟩ := gx hn0; obtain ⟨c9, hc9⟩ : ∃ c, digits[digits.length - 1]? = some c := gx (by omega)
  have e0 : ((c0.toNat : Int) != 48) = true := by
   rw [<- aBH c0, decide_eq_true_eq]; rw [List.head?_eq_getElem?, hc0] at f5; exact f5
  have e9 : ((c9.toNat : Int) != 48) = true := by
   rw [<- aBH c9, decide_eq_true_eq]; rw [List.getLast?_eq_getElem?, hc9] at f6; exact f6
  have hi0 : ∀ W, (Instr.index 9 (.string s) (.int .i64 0)).run Tryz.prog W = .ok (.int .u8 (c0.toNat : Int)) W := fun W => eC (s := s) (by rw [hsb]; exact hc0) .i64 W; have hi9 := fun W => eC (s := s) (i := digits.length - 1) (by rw [hsb]; exact hc9) .i64 W; rw [<- hz] at hi9 f1 f3 f4 hn0; obtain ⟨n, hn⟩ : ∃ n, s.size = n := ⟨_, rfl⟩; rw [show ((s.size - 1 : Nat) : Int) = (s.size : Int) - 1 by omega] at hi9; have HSB := lh hsb; have HAL := lh f2; have HN := lh hn; have HZ := lh hz; rw [hn] at hi9 f1 f3 f4 hn0; have hw1 : IntKind.i64.wrap ((n : Int) - 1) = (n : Int) - 1 := by rw [IntKind.wrap_i64]; omega
  have hw2 : IntKind.i64.wrap ((n : Int) + exp) = (n : Int) + exp := by rw [IntKind.wrap_i64]; omega
  have z0 : ((n : Int) == 0) = false := by rw [beq_eq_false_iff_ne]; omega
  have z1 : decide ((n : Int) <= 40) = true := dT (by omega)
  have z2 : decide (-1000 <= exp) = true := dT (by omega)
  have z3 : decide (exp <= 1000) = true := dT (by omega)
  have z4 : decide (-400 <= (n : Int) + exp) = true := dT (by omega)
  have z5 : decide ((n : Int) + exp <= 400) = true := dT (by omega)
  have hb0 := Blk.new w 93 [.bool neg, .string s, .int .i64 exp]; clear h h0 hc0 hc9 f5 f6 f2 hs hsb hz
  go_enter Tryz.func134, Tryz.ntmps134
  go_upto_region 1 with fail
  have hf0 : Fr [] w (w.alloc (.cells #[.bool neg, .string s, .int .i64 exp] 93)) := (Fr.refl [] w).alloc _; generalize w.alloc (.cells #[.bool neg, .string s, .int .i64 exp] 93) = w0 at *; have HF0 := lh hf0; have k1 := hb0.at_ (i := 1) rfl; have k2 := hb0.at_ (i := 2) rfl; clear hb0 hf0; go_wp2_with fail
  go_loopg [4] n (fun j v wr => aGR n w0 j v wr)
  case atStart => exact ⟨0, by omega, rfl, rfl⟩
  case round =>
   obtain ⟨k, hk, rfl, rfl⟩ := hrel
   by_cases hkn : k < n
   ·have hki : (k : Int) < (n : Int) := by omega
    obtain ⟨c, hc⟩ : ∃ c, digits[k]? = some c := gx (by rw [<- HZ.out, HN.out]; exact hkn); have hix := fun W => eC (s := s) (by rw [HSB.out]; exact hc) .i64 W; have HDG := lh (fun W => aFS c W); rw [show bB c = true from List.all_eq_true.1 HAL.out c (List.mem_of_getElem? hc)] at HDG; clear hc; go_wp2_with fail; refine (HDG.out _).mono ?_; rintro e w1 ⟨rfl, rfl⟩; go_wp2_with fail
    go_roundg (n - (k + 1))
    case measure => omega
    case rel => exact ⟨k + 1, by omega, by go_num, rfl⟩
   ·have hki : ¬ (k : Int) < (n : Int) := by omega
    go_wp2_with fail; exact HQ.out _ _ ⟨by rfl, HF0.out⟩
theorem aFT {w : World} (d : Dcm) (h : d.sane = true) : RV 87 #[jC d] w (.string ⟨d.text.toArray⟩) := by
 refine cA fun R HQ => ?_; have HSA := lh (fun W => aGS (w := W) d h); have hsf : ¬ d.sane = false := by rw [h]; simp
 by_cases h0 : d.digits = []
 ·have HT : Hid (d.text = [48]) := lh (by unfold Dcm.text; rw [if_neg hsf, if_pos h0]); obtain ⟨neg, digits, exp⟩ := d
  simp only at h0
  subst h0; unfold jC S8 at HSA ⊢
  simp only at HSA ⊢
  have hb0 := Blk.new w 93 [.bool neg, .string ⟨#[]⟩, .int .i64 exp]; clear h hsf
  go_enter Tryz.func87, Tryz.ntmps87
  go_upto_region 1 with fail
  have hf0 : Fr [] w (w.alloc (.cells #[.bool neg, .string ⟨#[]⟩, .int .i64 exp] 93)) := (Fr.refl [] w).alloc _; generalize w.alloc (.cells #[.bool neg, .string ⟨#[]⟩, .int .i64 exp] 93) = w0 at *; have k0 := hb0.at_ (i := 0) rfl; have k1 := hb0.at_ (i := 1) rfl; have k2 := hb0.at_ (i := 2) rfl; have HB0 := lh hb0; have HF0 := lh hf0; clear hb0 hf0; go_wp2_with fail; refine (HSA.out _).mono ?_; rintro e w2 ⟨rfl, hf2⟩; have HF2 := lh (HF0.out.trans hf2); have k1' := bA hf2 k1; clear hf2 k0 k1 k2; go_wp2_with fail; exact HQ.out _ _ ⟨by rw [HT.out]; rfl, HF2.out⟩
 ·obtain ⟨f1, f2, f3, f4, f5, f6⟩ := lP h h0; have HWL := lh (dN d h h0); have HT : Hid (d.text = if d.neg = true then 45 :: d.written else d.written) := lh (by unfold Dcm.text; rw [if_neg hsf, if_neg h0]); obtain ⟨neg, digits, exp⟩ := d; simp only [Dcm.high] at h0 f1 f2 f3 f4 f5 f6; obtain ⟨h, hh⟩ : ∃ h, (digits.length : Int) + exp = h := ⟨_, rfl⟩; have HHD : Hid ((digits.length : Int) + exp = h) := lh hh; rw [hh] at f3 f4; obtain ⟨s, hs⟩ : ∃ s : ByteArray, s = ⟨digits.toArray⟩ := ⟨_, rfl⟩; have hz : s.size = digits.length := by rw [hs]; simp [ByteArray.size]
  unfold jC S8 at HSA ⊢
  simp only at HSA ⊢
  rw [<- hs] at HSA ⊢; have HS := lh hs; have HZ := lh hz; have hn0 : 0 < digits.length := by cases digits with | nil => exact absurd rfl h0 | cons _ _ => simp
  rw [<- hz] at f1 hn0; have c0 : ((s.size : Int) == 0) = false := by rw [beq_eq_false_iff_ne]; omega
  have hwh : IntKind.i64.wrap ((s.size : Int) + exp) = h := by rw [hz, hh, IntKind.wrap_i64]; omega
  have hb0 := Blk.new w 93 [.bool neg, .string s, .int .i64 exp]; clear hsf h0 f2 f5 f6 hh hs hz
  go_enter Tryz.func87, Tryz.ntmps87
  go_upto_region 1 with fail
  have hf0 : Fr [] w (w.alloc (.cells #[.bool neg, .string s, .int .i64 exp] 93)) := (Fr.refl [] w).alloc _; generalize w.alloc (.cells #[.bool neg, .string s, .int .i64 exp] 93) = w0 at *; have k0 := hb0.at_ (i := 0) rfl; have k1 := hb0.at_ (i := 1) rfl; have k2 := hb0.at_ (i := 2) rfl; have HF0 := lh hf0; clear hb0 hf0; go_wp2_with fail; refine (HSA.out _).mono ?_; rintro e w2 ⟨rfl, hf2⟩; have HF2 := lh (HF0.out.trans hf2)
  replace k0 := bA hf2 k0
  replace k1 := bA hf2 k1
  replace k2 := bA hf2 k2
  clear hf2 HSA
  by_cases hA : (s.size : Int) <= h /\ h <= 21
  ·obtain ⟨m, hm⟩ : ∃ m : Nat, (m : Int) = h - (s.size : Int) := ⟨(h - s.size).toNat, by omega⟩; have d1 : decide ((s.size : Int) <= h) = true := decide_eq_true hA.1; have d2 : decide (h <= 21) = true := decide_eq_true hA.2
   have HE : Hid (Dcm.written ⟨neg, digits, exp⟩ = digits ++ zA m) := lh (by
    unfold Dcm.written
    dsimp only [Dcm.high]
    rw [HHD.out, <- HZ.out, if_pos hA, <- hm]
    rfl)
   have HZE := lh (fun W => aBW m (by omega) W); rw [hm] at HZE; have hadd := fun W => rA digits (zA m) (by unfold zA; rw [List.length_replicate]; have := HZ.out; omega) W; have hwr : IntKind.i64.wrap (h - (s.size : Int)) = h - (s.size : Int) := by rw [IntKind.wrap_i64]; omega
   rw [<- HS.out] at hadd; have HLL : Hid (digits.length + m <= 100) := lh (by have := HZ.out; omega); clear hm hA; go_upto_region 15 with fail
   refine iA (fun W => W.cell? ⟨w.heap.size, 1, none⟩ = some (.string s) /\ W.cell? ⟨w.heap.size, 0, none⟩ = some (.bool neg)) [0, 1, 2, 3, 4, 6] (by kernel_rfl) ?_; refine tks [0, 1, 2, 3, 4] ?_
   iterate 5 (refine tk rfl rfl ⟨k1, k0⟩ rfl (fun _ hW => by (obtain ⟨q0, _⟩ := hW; go_simp) <;> with_reducible rfl) ?_; simp only [nrm])
   refine tke ?_; refine sp 5 rfl rfl rfl fun K hK => ?_; refine mA (l := [.tmp 56]) rfl [.int .i64 (h - (s.size : Int))] rfl (fun W => by kernel_rfl) ((HZE.out _).mono ?_); rintro e w3 ⟨rfl, rfl⟩; have hf23 : Fr [] w2 w2.drew := (Fr.refl [] w2).drew; have j1 := bA hf23 k1; have j0 := bA hf23 k0; refine ⟨_, rfl, hK _ _ (fun _ => ⟨j1, j0⟩) ?_⟩; simp only [nrm]; clear hK; refine tks [6] ?_; refine tk rfl rfl ⟨j1, j0⟩ rfl (fun _ hW => by (obtain ⟨q0, _⟩ := hW; go_simp) <;> with_reducible rfl) ?_; simp only [nrm]; refine tke ?_; refine sp 7 rfl rfl rfl fun K hK => ?_; refine eA (v := ?aq1_7) ?yq1_7 (hK _ _ (fun _ => ⟨j1, j0⟩) ?_)
   case yq1_7 => go_simp <;> with_reducible rfl
   simp only [nrm]; refine wd ?_ _; have HFL := lh (HF2.out.trans hf23); clear hf23 k0 k1 k2 hadd hwr hwh; have hwl := HWL.out; rw [HE.out] at hwl
   cases neg with
   | false =>
    go_wp2_with fail; exact HQ.out _ _ ⟨by rw [HT.out, HE.out]; rfl, HFL.out⟩
   | true =>
    have hz9 := fun W => rA [45] (digits ++ zA m) (by rw [List.length_cons, List.length_nil]; omega) W; clear hwl; go_wp2_with fail; exact HQ.out _ _ ⟨by rw [HT.out, HE.out]; rfl, HFL.out⟩
  ·have hto : ∀ k : Nat, k <= s.size -> ∀ (K : IntKind) (W : World), (Instr.slice 9 (.string s) none (some (.int K (k : Int))) none).run Tryz.prog W = .ok (.string ⟨(digits.take k).toArray⟩) W := fun k hk K W => by
    obtain ⟨t, ht, hsl⟩ := aAD s k hk; rw [show aA s = digits by rw [HS.out]; rfl] at ht; rw [hsl K W, sJ ht]
   have hfrom : ∀ k : Nat, k <= s.size -> ∀ (K : IntKind) (W : World), (Instr.slice 9 (.string s) (some (.int K (k : Int))) none none).run Tryz.prog W = .ok (.string ⟨(digits.drop k).toArray⟩) W := fun k hk K W => by
    obtain ⟨t, ht, hsl⟩ := iJ s k hk; rw [show aA s = digits by rw [HS.out]; rfl] at ht; rw [hsl K W, sJ ht]
   by_cases hB : 1 <= h /\ h <= 21
   ·have hnh : h < (s.size : Int) := by
     by_cases hh9 : (s.size : Int) <= h
     ·exact absurd ⟨hh9, hB.2⟩ hA
     ·omega
    obtain ⟨k, rfl⟩ : ∃ k : Nat, h = (k : Int) := ⟨h.toNat, by omega⟩; have d1 : decide ((s.size : Int) <= (k : Int)) = false := dF (by omega)
    have d2 : decide (1 <= (k : Int)) = true := decide_eq_true hB.1; have d3 : decide ((k : Int) <= 21) = true := decide_eq_true hB.2
    have HE : Hid (Dcm.written ⟨neg, digits, exp⟩ = digits.take k ++ 46 :: digits.drop k) := lh (by
     unfold Dcm.written
     dsimp only [Dcm.high]
     rw [HHD.out, <- HZ.out, if_neg hA, if_pos hB]
     rfl)
    have hs1 := hto k (by omega) .i64; have hs2 := hfrom k (by omega) .i64; have hz := HZ.out; have ha1 := fun W => rA (digits.take k) [46] (by simp; omega) W; have ha2 := fun W => rA (digits.take k ++ [46]) (digits.drop k) (by simp; omega) W; have hkz : k <= s.size := by omega
    have HLL : Hid (digits.length <= 40) := lh (by omega); clear hto hfrom hA hB hz; go_upto_region 17 with fail
    refine iA (fun W => W.cell? ⟨w.heap.size, 1, none⟩ = some (.string s) /\ W.cell? ⟨w.heap.size, 0, none⟩ = some (.bool neg)) [0, 1, 2, 3, 4, 5, 6, 7, 8, 9] (by kernel_rfl) ?_; refine tks [0, 1, 2, 3, 4, 5, 6, 7, 8, 9] ?_
    iterate 10 (refine tk rfl rfl ⟨k1, k0⟩ rfl (fun _ hW => by (obtain ⟨q0, _⟩ := hW; go_simp) <;> with_reducible rfl) ?_; simp only [nrm])
    refine tke ?_; refine sp 10 rfl rfl rfl fun K hK => ?_; refine eA (v := ?aq2_10) ?yq2_10 (hK _ _ (fun _ => ⟨k1, k0⟩) ?_)
    case yq2_10 => go_simp <;> with_reducible rfl
    simp only [nrm]; refine wd ?_ _
    replace k0 := bA ((Fr.refl [] w2).drew) k0
    have HFL := lh (HF2.out.drew); clear k1 k2 hs1 hs2 ha1 ha2; have hwl := HWL.out; rw [HE.out] at hwl
    cases neg with
    | false =>
     go_wp2_with fail; exact HQ.out _ _ ⟨by rw [HT.out, HE.out]; rfl, HFL.out⟩
    | true =>
     have hz9 := fun W => rA [45] (digits.take k ++ 46 :: digits.drop k) (by rw [List.length_cons, List.length_nil]; omega) W; clear hwl; go_wp2_with fail; exact HQ.out _ _ ⟨by rw [HT.out, HE.out]; rfl, HFL.out⟩
   ·by_cases hC : -5 <= h /\ h < 1
    ·obtain ⟨m, hm⟩ : ∃ m : Nat, (m : Int) = -h := ⟨(-h).toNat, by omega⟩; have d1 : decide ((s.size : Int) <= h) = false := dF (by omega)
     have d2 : decide (1 <= h) = false := dF (by omega)
     have d3 : decide (-5 <= h) = true := decide_eq_true hC.1; have d4 : decide (h <= 0) = true := decide_eq_true (by omega)
     have HE : Hid (Dcm.written ⟨neg, digits, exp⟩ = 48 :: 46 :: (zA m ++ digits)) := lh (by
      unfold Dcm.written
      dsimp only [Dcm.high]
      rw [HHD.out, <- HZ.out, if_neg hA, if_neg hB, if_pos hC, <- hm]
      rfl)
     have HZE := lh (fun W => aBW m (by omega) W); rw [hm] at HZE; have hz := HZ.out; have ha1 := fun W => rA [48, 46] (zA m) (by unfold zA; rw [List.length_replicate]; simp; omega) W; have ha2 := fun W => rA (48 :: 46 :: zA m) digits (by unfold zA; simp; omega) W; rw [<- HS.out] at ha2; have hwr : IntKind.i64.wrap (-h) = -h := by rw [IntKind.wrap_i64]; omega
     have HLL : Hid (digits.length + m <= 100) := lh (by omega); clear hto hfrom hA hB hC hm hz; go_upto_region 19 with fail
     refine iA (fun W => W.cell? ⟨w.heap.size, 1, none⟩ = some (.string s) /\ W.cell? ⟨w.heap.size, 0, none⟩ = some (.bool neg)) [0, 1, 3, 4, 5, 6] (by kernel_rfl) ?_; refine tks [0, 1, 4, 5] ?_
     iterate 4 (refine tk rfl rfl ⟨k1, k0⟩ rfl (fun _ hW => by (obtain ⟨q0, _⟩ := hW; go_simp) <;> with_reducible rfl) ?_; simp only [nrm])
     refine tke ?_; refine sp 2 rfl rfl rfl fun K hK => ?_; refine mA (l := [.tmp 84]) rfl [.int .i64 (-h)] rfl (fun W => by kernel_rfl) ((HZE.out _).mono ?_); rintro e w3 ⟨rfl, rfl⟩; have hf23 : Fr [] w2 w2.drew := (Fr.refl [] w2).drew; have j1 := bA hf23 k1; have j0 := bA hf23 k0; refine ⟨_, rfl, hK _ _ (fun _ => ⟨j1, j0⟩) ?_⟩; simp only [nrm]; clear hK; refine tks [3, 6] ?_
     iterate 2 (refine tk rfl rfl ⟨j1, j0⟩ rfl (fun _ hW => by (obtain ⟨q0, _⟩ := hW; go_simp) <;> with_reducible rfl) ?_; simp only [nrm])
     refine tke ?_; refine sp 7 rfl rfl rfl fun K hK => ?_; refine eA (v := ?aq3_7) ?yq3_7 (hK _ _ (fun _ => ⟨j1, j0⟩) ?_)
     case yq3_7 => go_simp <;> with_reducible rfl
     simp only [nrm]; refine wd ?_ _; have HFL := lh (HF2.out.trans hf23); clear hf23 k0 k1 k2 ha1 ha2 hwr hwh; have hwl := HWL.out; rw [HE.out] at hwl
     cases neg with
     | false =>
      go_wp2_with fail; exact HQ.out _ _ ⟨by rw [HT.out, HE.out]; rfl, HFL.out⟩
     | true =>
      have hz9 := fun W => rA [45] (48 :: 46 :: (zA m ++ digits)) (by rw [List.length_cons, List.length_nil]; omega) W; clear hwl; go_wp2_with fail; exact HQ.out _ _ ⟨by rw [HT.out, HE.out]; rfl, HFL.out⟩
    ·have hs1 := hto 1 (by omega) .i64; have hs2 := hfrom 1 (by omega) .i64; rw [show ((1 : Nat) : Int) = 1 from rfl] at hs1 hs2; have hz := HZ.out; have htk : (digits.take 1).length <= 1 := by rw [List.length_take]; omega
     have hdl : (digits.drop 1).length <= 40 := by rw [List.length_drop]; omega
     obtain ⟨T1, hT1⟩ : ∃ T1, digits.take 1 = T1 := ⟨_, rfl⟩; obtain ⟨D1, hD1⟩ : ∃ D1, digits.drop 1 = D1 := ⟨_, rfl⟩; have HTD : Hid (digits.take 1 = T1 /\ digits.drop 1 = D1) := lh ⟨hT1, hD1⟩; rw [hT1] at hs1 htk; rw [hD1] at hs2 hdl; clear hT1 hD1
     by_cases hb : 21 < h
     ·obtain ⟨u, hu⟩ : ∃ u : Nat, (u : Int) = h - 1 := ⟨(h - 1).toNat, by omega⟩; have d2 : decide (h <= 21) = false := dF (by omega)
      have d3 : decide (1 <= h) = true := decide_eq_true (by omega); have d4 : decide (-5 <= h) = true := decide_eq_true (by omega); have d5 : decide (h <= 0) = false := dF (by omega)
      have d6 : decide ((u : Int) < 0) = false := dF (by omega)
      by_cases hnh : (s.size : Int) <= h
      case' pos =>
       have d1 : decide ((s.size : Int) <= h) = true := decide_eq_true hnh
      case' neg =>
       have d1 : decide ((s.size : Int) <= h) = false := decide_eq_false hnh
      all_goals
       clear hnh
       by_cases hn1 : 1 < s.size
       case' pos =>
        have d8 : decide (1 < (s.size : Int)) = true := dT (by omega)
        obtain ⟨M, hM⟩ : ∃ M, T1 ++ [46] ++ D1 = M := ⟨_, rfl⟩; have hml : M.length <= 42 := by rw [<- hM]; simp only [LN]; omega
        have ha1 := fun W => rA T1 [46] (by rw [List.length_cons, List.length_nil]; omega) W; have ha2 : ∀ W, (Op.stringOp .add ⟨(T1 ++ [46]).toArray⟩ ⟨D1.toArray⟩).run Tryz.prog W = .ok (.string ⟨M.toArray⟩) W := fun W => by rw [<- hM]; exact rA (T1 ++ [46]) D1 (by simp only [LN]; omega) W
        obtain ⟨N, hN⟩ : ∃ N, M ++ [101, 43] = N := ⟨_, rfl⟩; have ha3 : ∀ W, (Op.stringOp .add ⟨M.toArray⟩ ⟨#[101, 43]⟩).run Tryz.prog W = .ok (.string ⟨N.toArray⟩) W := fun W => by rw [<- hN]; exact rA M [101, 43] (by rw [List.length_cons, List.length_cons, List.length_nil]; omega) W
        have hwu : IntKind.i64.wrap (h - 1) = (u : Int) := by rw [IntKind.wrap_i64]; omega
        have HE : Hid (Dcm.written ⟨neg, digits, exp⟩ = N ++ Lib.decDigits u) := lh (by
         unfold Dcm.written
         dsimp only [Dcm.high]
         rw [HHD.out, <- HZ.out, if_neg hA, if_neg hB, if_neg hC, if_pos (show 1 < (s.size : Int) by omega), if_pos (show 0 < h by omega), show h - 1 = (u : Int) by omega, Lib.itoa_nonneg, <- hN, <- hM, HTD.out.1]
         all_goals try rw [HTD.out.2]
         all_goals simp)
       case' neg =>
        have d8 : decide (1 < (s.size : Int)) = false := dF (by omega)
        obtain ⟨M, hM⟩ : ∃ M, T1 ++ [] = M := ⟨_, rfl⟩; rw [show T1 = M by rw [<- hM, List.append_nil]] at hs1; have hml : M.length <= 42 := by rw [<- hM, List.append_nil]; omega
        obtain ⟨N, hN⟩ : ∃ N, M ++ [101, 43] = N := ⟨_, rfl⟩; have ha3 : ∀ W, (Op.stringOp .add ⟨M.toArray⟩ ⟨#[101, 43]⟩).run Tryz.prog W = .ok (.string ⟨N.toArray⟩) W := fun W => by rw [<- hN]; exact rA M [101, 43] (by rw [List.length_cons, List.length_cons, List.length_nil]; omega) W
        have hwu : IntKind.i64.wrap (h - 1) = (u : Int) := by rw [IntKind.wrap_i64]; omega
        have HE : Hid (Dcm.written ⟨neg, digits, exp⟩ = N ++ Lib.decDigits u) := lh (by
         unfold Dcm.written
         dsimp only [Dcm.high]
         rw [HHD.out, <- HZ.out, if_neg hA, if_neg hB, if_neg hC, if_neg (show ¬ 1 < (s.size : Int) by omega), if_pos (show 0 < h by omega), show h - 1 = (u : Int) by omega, Lib.itoa_nonneg, <- hN, <- hM, HTD.out.1]
         all_goals try rw [HTD.out.2]
         all_goals simp)
       all_goals
        have hwl := HWL.out; rw [HE.out, List.length_append] at hwl; have ha4 := fun W => rA N (Lib.decDigits u) (by omega) W; have HWO := lh (fun W => aBY u (by omega) W); clear hto hfrom hA hB hC hM hN hwl hu hz htk hdl hml; go_wp2_with fail; refine (HWO.out _).mono ?_; rintro e w3 ⟨rfl, hf3⟩; have HFL := lh (HF2.out.trans hf3)
        replace k0 := bA hf3 k0
        clear hf3 k1 k2; have hwl := HWL.out; rw [HE.out] at hwl
        cases neg with
        | false =>
         go_wp2_with fail; exact HQ.out _ _ ⟨by rw [HT.out, HE.out]; rfl, HFL.out⟩
        | true =>
         have hz9 := fun W => rA [45] (N ++ Lib.decDigits u) (by rw [List.length_cons, List.length_nil]; omega) W; clear hwl; go_wp2_with fail; exact HQ.out _ _ ⟨by rw [HT.out, HE.out]; rfl, HFL.out⟩
     ·have hl : h < -5 := by
       by_cases h1 : 1 <= h
       ·exact absurd ⟨h1, by omega⟩ hB
       ·by_cases h5 : -5 <= h
        ·exact absurd ⟨h5, by omega⟩ hC
        ·omega
      obtain ⟨u, hu⟩ : ∃ u : Nat, (u : Int) = 1 - h := ⟨(1 - h).toNat, by omega⟩; have d1 : decide ((s.size : Int) <= h) = false := dF (by omega)
      have d3 : decide (1 <= h) = false := dF (by omega)
      have d4 : decide (-5 <= h) = false := dF (by omega)
      have hw1 : IntKind.i64.wrap (h - 1) = h - 1 := by rw [IntKind.wrap_i64]; omega
      have d6 : decide (h - 1 < 0) = true := decide_eq_true (by omega)
      by_cases hn1 : 1 < s.size
      case' pos =>
       have d8 : decide (1 < (s.size : Int)) = true := dT (by omega)
       obtain ⟨M, hM⟩ : ∃ M, T1 ++ [46] ++ D1 = M := ⟨_, rfl⟩; have hml : M.length <= 42 := by rw [<- hM]; simp only [LN]; omega
       have ha1 := fun W => rA T1 [46] (by rw [List.length_cons, List.length_nil]; omega) W; have ha2 : ∀ W, (Op.stringOp .add ⟨(T1 ++ [46]).toArray⟩ ⟨D1.toArray⟩).run Tryz.prog W = .ok (.string ⟨M.toArray⟩) W := fun W => by rw [<- hM]; exact rA (T1 ++ [46]) D1 (by simp only [LN]; omega) W
       obtain ⟨N, hN⟩ : ∃ N, M ++ [101, 45] = N := ⟨_, rfl⟩; have ha3 : ∀ W, (Op.stringOp .add ⟨M.toArray⟩ ⟨#[101, 45]⟩).run Tryz.prog W = .ok (.string ⟨N.toArray⟩) W := fun W => by rw [<- hN]; exact rA M [101, 45] (by rw [List.length_cons, List.length_cons, List.length_nil]; omega) W
       have hwu : IntKind.i64.wrap (1 - h) = (u : Int) := by rw [IntKind.wrap_i64]; omega
       have HE : Hid (Dcm.written ⟨neg, digits, exp⟩ = N ++ Lib.decDigits u) := lh (by
        unfold Dcm.written
        dsimp only [Dcm.high]
        rw [HHD.out, <- HZ.out, if_neg hA, if_neg hB, if_neg hC, if_pos (show 1 < (s.size : Int) by omega), if_neg (show ¬ 0 < h by omega), show h - 1 = -(u : Int) by omega, Lib.itoa_neg u (by omega), <- hN, <- hM, HTD.out.1]
        all_goals try rw [HTD.out.2]
        all_goals simp)
      case' neg =>
       have d8 : decide (1 < (s.size : Int)) = false := dF (by omega)
       obtain ⟨M, hM⟩ : ∃ M, T1 ++ [] = M := ⟨_, rfl⟩; rw [show T1 = M by rw [<- hM, List.append_nil]] at hs1; have hml : M.length <= 42 := by rw [<- hM, List.append_nil]; omega
       obtain ⟨N, hN⟩ : ∃ N, M ++ [101, 45] = N := ⟨_, rfl⟩; have ha3 : ∀ W, (Op.stringOp .add ⟨M.toArray⟩ ⟨#[101, 45]⟩).run Tryz.prog W = .ok (.string ⟨N.toArray⟩) W := fun W => by rw [<- hN]; exact rA M [101, 45] (by rw [List.length_cons, List.length_cons, List.length_nil]; omega) W
       have hwu : IntKind.i64.wrap (1 - h) = (u : Int) := by rw [IntKind.wrap_i64]; omega
       have HE : Hid (Dcm.written ⟨neg, digits, exp⟩ = N ++ Lib.decDigits u) := lh (by
        unfold Dcm.written
        dsimp only [Dcm.high]
        rw [HHD.out, <- HZ.out, if_neg hA, if_neg hB, if_neg hC, if_neg (show ¬ 1 < (s.size : Int) by omega), if_neg (show ¬ 0 < h by omega), show h - 1 = -(u : Int) by omega, Lib.itoa_neg u (by omega), <- hN, <- hM, HTD.out.1]
        all_goals try rw [HTD.out.2]
        all_goals simp)
      all_goals
       have hwl := HWL.out; rw [HE.out, List.length_append] at hwl; have ha4 := fun W => rA N (Lib.decDigits u) (by omega) W; have HWO := lh (fun W => aBY u (by omega) W); clear hto hfrom hA hB hC hM hN hwl hu hz htk hdl hml; go_wp2_with fail; refine (HWO.out _).mono ?_; rintro e w3 ⟨rfl, hf3⟩; have HFL := lh (HF2.out.trans hf3)
       replace k0 := bA hf3 k0
       clear hf3 k1 k2; have hwl := HWL.out; rw [HE.out] at hwl
       cases neg with
       | false =>
        go_wp2_with fail; exact HQ.out _ _ ⟨by rw [HT.out, HE.out]; rfl, HFL.out⟩
       | true =>
        have hz9 := fun W => rA [45] (N ++ Lib.decDigits u) (by rw [List.length_cons, List.length_nil]; omega) W; clear hwl; go_wp2_with fail; exact HQ.out _ _ ⟨by rw [HT.out, HE.out]; rfl, HFL.out⟩
theorem eW {w : World} {kind : Int} {b neg : Bool} {digits s : List UInt8} {exp : Int} {l m : Cl} {vl vm : Value} (hk0 : kind = 2 -> Dcm.sane ⟨neg, digits, exp⟩ = true) (hlen : s.length <= 100000000) :
  RV 56 #[.agg #[.int .i64 5, .slice none 0 0, .string ⟨#[]⟩, .bool false, .slice none 0 0, .int .i64 kind, .bool b, .bool neg, .string ⟨digits.toArray⟩, .int .i64 exp, .string ⟨s.toArray⟩, vl, vm]] w (.string ⟨(Vlu.text ⟨kind, b, ⟨neg, digits, exp⟩, s, l, m⟩).toArray⟩) := by
 refine cA fun R HQ => ?_; obtain ⟨n, hn⟩ : ∃ n : Dcm, n = ⟨neg, digits, exp⟩ := ⟨_, rfl⟩; have hk : kind = 2 -> n.sane = true := by rw [hn]; exact hk0
 rw [<- hn] at HQ; clear hk0; have HDP := lh (fun W (hs : n.sane = true) => aFT (w := W) n hs); have HT : Hid (Vlu.text ⟨kind, b, n, s, l, m⟩ = if kind = 0 then jM else if kind = 1 then (if b = true then tK else mI) else if kind = 2 then n.text else qE s) := lh rfl; rw [HT.out] at HQ; unfold jC S8 at HDP; generalize n.text = nt at *; subst hn
 simp only at HDP
 generalize hds : (⟨digits.toArray⟩ : ByteArray) = ds at *; have HK := lh hk; clear HT hk hds
 go_enter Tryz.func56, Tryz.ntmps56
 go_wp2_with (with_reducible refine kA rfl 117 (.tmp 0) rfl [.int .i64 5, .slice none 0 0, .string ⟨#[]⟩, .bool false, .slice none 0 0, .int .i64 kind, .bool b, .bool neg, .string ds, .int .i64 exp, .string ⟨s.toArray⟩, vl, vm] rfl ?_)
 intro w0 hb0 hf0 hz0; have z0 := hb0.at_ (i := 0) rfl; have c0 := hb0.at_ (i := 5) rfl; have c1 := hb0.at_ (i := 6) rfl; have c2 := hb0.at_ (i := 7) rfl; have c3 := hb0.at_ (i := 8) rfl; have c4 := hb0.at_ (i := 9) rfl; have c5 := hb0.at_ (i := 10) rfl; have HF0 := lh hf0; clear hb0 hf0 hz0
 by_cases h0 : kind = 0
 ·have d0 : (kind == 0) = true := by simpa using h0
  rw [if_pos h0] at HQ; clear h0 hlen; go_wp2_with fail; exact HQ.out _ _ ⟨rfl, HF0.out⟩
 ·have d0 : (kind == 0) = false := by simpa using h0
  rw [if_neg h0] at HQ
  by_cases h1 : kind = 1
  ·have d1 : (kind == 1) = true := by simpa using h1
   rw [if_pos h1] at HQ; clear h0 h1 hlen
   cases b with
   | true =>
    go_wp2_with fail; exact HQ.out _ _ ⟨rfl, HF0.out⟩
   | false =>
    go_wp2_with fail; exact HQ.out _ _ ⟨rfl, HF0.out⟩
  ·have d1 : (kind == 1) = false := by simpa using h1
   rw [if_neg h1] at HQ
   by_cases h2 : kind = 2
   ·have d2 : (kind == 2) = true := by simpa using h2
    rw [if_pos h2] at HQ; have HS := lh (HK.out h2); clear h0 h1 h2 hlen; go_wp2_with fail; refine (HDP.out _ HS.out).mono ?_; rintro e w1 ⟨rfl, hf1⟩; have HF1 := lh (HF0.out.trans hf1); clear hf1; go_wp2_with fail; exact HQ.out _ _ ⟨rfl, HF1.out⟩
   ·have d2 : (kind == 2) = false := by simpa using h2
    rw [if_neg h2] at HQ; have HQT := lh (fun W => xZ (w := W) ⟨s.toArray⟩ (by show s.toArray.size <= _; simp; omega)); clear h0 h1 h2 hlen; go_wp2_with fail; refine (HQT.out _).mono ?_; rintro e w1 ⟨rfl, hf1⟩; have HF1 := lh (HF0.out.trans hf1); clear hf1; go_wp2_with fail; exact HQ.out _ _ ⟨rfl, HF1.out⟩
end
end Go.Proofs.YtbggkiebfflcdaaGreatDoor
