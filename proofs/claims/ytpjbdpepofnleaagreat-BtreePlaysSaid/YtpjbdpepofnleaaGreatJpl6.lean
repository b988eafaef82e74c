/-
  Joined by join.py: Pm
-/
import Derived.Test.YtpjbdpepofnleaaGreatJpl5
set_option maxRecDepth 100000
set_option maxHeartbeats 32000000
namespace Go.Proofs.YtpjbdpepofnleaaGreat
section
abbrev PgM := List (Nat × List UInt8)
def insP (x : Nat × List UInt8) : PgM -> PgM
 | [] => [x]
 | y :: r => if x.1 < y.1 then x :: y :: r else y :: insP x r
def putP (m : PgM) (k : Nat) (b : List UInt8) : PgM := insP (k, b) (m.filter fun p => !decide (p.1 = k))
def getP (m : PgM) (k : Nat) : Option (List UInt8) := (m.find? fun p => decide (p.1 = k)).map (·.2)
structure PgOk (n : Nat) (m : PgM) : Prop where
 rise : m.Pairwise (fun p q => p.1 < q.1)
 mem : ∀ p ∈ m, p.1 < n /\ p.2.length = 512
def mergeP (d s : PgM) : PgM := s.foldl (fun D p => putP D p.1 p.2) d
theorem mem_insP {x p : Nat × List UInt8} : ∀ {m : PgM}, p ∈ insP x m ↔ p = x ∨ p ∈ m
 | [] => by simp [insP]
 | y :: r => by
  unfold insP
  split
  ·simp
  ·rw [List.mem_cons, mem_insP, List.mem_cons]
   constructor
   ·rintro (h | h | h) <;> simp [h]
   ·rintro (h | h | h) <;> simp [h]
theorem insP_rise {x : Nat × List UInt8} : ∀ {m : PgM}, m.Pairwise (fun p q => p.1 < q.1) -> (∀ p ∈ m, p.1 ≠ x.1) -> (insP x m).Pairwise (fun p q => p.1 < q.1)
 | [], _, _ => by simp [insP]
 | y :: r, h, hn => by
  obtain ⟨h1, h2⟩ := List.pairwise_cons.1 h; unfold insP
  split
  ·rename_i hxy
   refine List.pairwise_cons.2 ⟨fun p hp => ?_, h⟩; rcases List.mem_cons.1 hp with rfl | hp
   ·exact hxy
   ·have := h1 p hp; omega
  ·rename_i hxy
   refine List.pairwise_cons.2 ⟨fun p hp => ?_, insP_rise h2 (fun p hp => hn p (List.mem_cons_of_mem _ hp))⟩; rcases mem_insP.1 hp with rfl | hp
   ·have := hn y (List.mem_cons_self ..); omega
   ·exact h1 p hp
theorem PgOk.nil (n : Nat) : PgOk n [] := ⟨List.Pairwise.nil, by simp⟩
theorem PgOk.tail {n : Nat} {p : Nat × List UInt8} {m : PgM} (h : PgOk n (p :: m)) : PgOk n m := ⟨(List.pairwise_cons.1 h.rise).2, fun q hq => h.mem q (List.mem_cons_of_mem _ hq)⟩
theorem PgOk.put {n : Nat} {m : PgM} (h : PgOk n m) {k : Nat} {b : List UInt8} (hk : k < n) (hb : b.length = 512) : PgOk n (putP m k b) := by
 refine ⟨insP_rise (h.rise.filter _) (fun p hp => ?_), fun p hp => ?_⟩
 ·have := (List.mem_filter.1 hp).2
  simpa using this
 ·rcases mem_insP.1 hp with rfl | hp
  ·exact ⟨hk, hb⟩
  ·exact h.mem p (List.mem_filter.1 hp).1
theorem PgOk.merge {n : Nat} : ∀ {s d : PgM}, PgOk n d -> (∀ p ∈ s, p.1 < n /\ p.2.length = 512) -> PgOk n (mergeP d s)
 | [], _, h, _ => h
 | p :: s, d, h, hs => by
  have hp := hs p (List.mem_cons_self ..); exact PgOk.merge (s := s) (h.put hp.1 hp.2) (fun q hq => hs q (List.mem_cons_of_mem _ hq))
theorem find_insP_ne {x : Nat × List UInt8} {j : Nat} (hx : x.1 ≠ j) : ∀ (m : PgM), (insP x m).find? (fun p => decide (p.1 = j)) = m.find? (fun p => decide (p.1 = j))
 | [] => by simp [insP, hx]
 | y :: r => by
  unfold insP
  split
  ·rw [List.find?_cons_of_neg (by simpa using hx)]
  ·by_cases hy : y.1 = j
   ·rw [List.find?_cons_of_pos (by simpa using hy), List.find?_cons_of_pos (by simpa using hy)]
   ·rw [List.find?_cons_of_neg (by simpa using hy), List.find?_cons_of_neg (by simpa using hy), find_insP_ne hx r]
theorem find_insP_eq {x : Nat × List UInt8} : ∀ (m : PgM), (∀ p ∈ m, p.1 ≠ x.1) -> (insP x m).find? (fun p => decide (p.1 = x.1)) = some x
 | [], _ => by simp [insP]
 | y :: r, h => by
  unfold insP
  split
  ·simp
  ·rw [List.find?_cons_of_neg (by simpa using h y (List.mem_cons_self ..)), find_insP_eq r (fun p hp => h p (List.mem_cons_of_mem _ hp))]
theorem find_filter_ne {k j : Nat} (hj : j ≠ k) : ∀ (m : PgM), (m.filter fun p => !decide (p.1 = k)).find? (fun p => decide (p.1 = j)) = m.find? (fun p => decide (p.1 = j))
 | [] => rfl
 | y :: r => by
  by_cases hy : y.1 = k
  ·rw [List.filter_cons_of_neg (by simpa using hy), find_filter_ne hj r, List.find?_cons_of_neg (by simp; omega)]
  ·rw [List.filter_cons_of_pos (by simpa using hy)]
   by_cases hyj : y.1 = j
   ·rw [List.find?_cons_of_pos (by simpa using hyj), List.find?_cons_of_pos (by simpa using hyj)]
   ·rw [List.find?_cons_of_neg (by simpa using hyj), List.find?_cons_of_neg (by simpa using hyj), find_filter_ne hj r]
theorem getP_put (m : PgM) (k j : Nat) (b : List UInt8) : getP (putP m k b) j = if j = k then some b else getP m j := by
 unfold getP putP
 by_cases h : j = k
 ·subst h; rw [if_pos rfl, find_insP_eq (x := (j, b)) _ (fun p hp => by simpa using (List.mem_filter.1 hp).2)]
  rfl
 ·rw [if_neg h, find_insP_ne (x := (k, b)) (fun e => h e.symm), find_filter_ne h]
theorem getP_nil (j : Nat) : getP [] j = none := rfl
theorem getP_cons (p : Nat × List UInt8) (m : PgM) (j : Nat) : getP (p :: m) j = if j = p.1 then some p.2 else getP m j := by
 unfold getP
 by_cases h : j = p.1
 ·subst h; simp
 ·rw [if_neg h, List.find?_cons_of_neg (by simp; omega)]
theorem getP_low {m : PgM} {j : Nat} (h : ∀ p ∈ m, p.1 ≠ j) : getP m j = none := by
 unfold getP; rw [List.find?_eq_none.2 (fun p hp => by simpa using h p hp)]
 rfl
theorem getP_mem {m : PgM} {j : Nat} {b : List UInt8} (h : getP m j = some b) : (j, b) ∈ m := by
 unfold getP at h; obtain ⟨p, hp, rfl⟩ := Option.map_eq_some_iff.1 h; have h1 := List.find?_some hp; have h2 := List.mem_of_find?_eq_some hp; have h3 : p.1 = j := by simpa using h1
 subst h3; exact h2
theorem getP_of_mem {n : Nat} {m : PgM} (h : PgOk n m) {j : Nat} {b : List UInt8} (hm : (j, b) ∈ m) : getP m j = some b := by
 induction m with
 | nil => cases hm
 | cons p m ih =>
  rw [getP_cons]; rcases List.mem_cons.1 hm with rfl | hm
  ·rw [if_pos rfl]
  ·have := (List.pairwise_cons.1 h.rise).1 _ hm; rw [if_neg (by simp only at this; omega), ih h.tail hm]
theorem getP_merge {n : Nat} : ∀ (s d : PgM), PgOk n s -> ∀ j, getP (mergeP d s) j = (getP s j).or (getP d j)
 | [], d, _, j => by simp [mergeP, getP_nil]
 | p :: s, d, h, j => by
  have ih := getP_merge s (putP d p.1 p.2) h.tail j; have e : mergeP d (p :: s) = mergeP (putP d p.1 p.2) s := rfl; rw [e, ih, getP_put, getP_cons]
  by_cases hj : j = p.1
  ·subst hj; rw [if_pos rfl, if_pos rfl, getP_low (fun q hq => by have := (List.pairwise_cons.1 h.rise).1 q hq; omega)]
   rfl
  ·rw [if_neg hj, if_neg hj]
theorem getP_len {n : Nat} {m : PgM} (h : PgOk n m) {j : Nat} {b : List UInt8} (hg : getP m j = some b) : j < n /\ b.length = 512 := h.mem _ (getP_mem hg)
theorem few_from {n : Nat} : ∀ (m : PgM) (lo : Nat), lo <= n -> m.Pairwise (fun p q => p.1 < q.1) -> (∀ p ∈ m, lo <= p.1 /\ p.1 < n) -> lo + m.length <= n
 | [], lo, h, _, _ => by simpa using h
 | p :: m, lo, _, hr, hm => by
  obtain ⟨h1, h2⟩ := List.pairwise_cons.1 hr; have hp := hm p (List.mem_cons_self ..); have := few_from m (p.1 + 1) (by omega) h2 (fun q hq => ⟨h1 q hq, (hm q (List.mem_cons_of_mem _ hq)).2⟩); simp only [List.length_cons]; omega
theorem PgOk.few {n : Nat} {m : PgM} (h : PgOk n m) : m.length <= n := by
 have := few_from m 0 (Nat.zero_le _) h.rise (fun p hp => ⟨Nat.zero_le _, (h.mem p hp).1⟩); omega
def be2 (k : Nat) : List UInt8 := [byteAt k 1, byteAt k 0]
def recP (m : PgM) : List UInt8 := m.flatMap fun p => be2 p.1 ++ p.2
theorem recP_cons (p : Nat × List UInt8) (m : PgM) : recP (p :: m) = be2 p.1 ++ p.2 ++ recP m := by simp [recP]
theorem recP_snoc (m : PgM) (p : Nat × List UInt8) : recP (m ++ [p]) = recP m ++ (be2 p.1 ++ p.2) := by simp [recP]
theorem recP_len {n : Nat} : ∀ {m : PgM}, (∀ p ∈ m, p.1 < n /\ p.2.length = 512) -> (recP m).length = 514 * m.length
 | [], _ => rfl
 | p :: m, h => by
  rw [recP_cons, List.length_append, List.length_append, recP_len (m := m) (fun q hq => h q (List.mem_cons_of_mem _ hq)), (h p (List.mem_cons_self ..)).2]; simp only [be2, List.length_cons, List.length_nil]; omega
def replayP (n : Nat) : Nat -> List UInt8 -> PgM -> Option PgM
 | 0, _, h => some h
 | k + 1, b, h => if b = [] then some h else if n <= wordOf (b.take 2) then none else replayP n k (b.drop 514) (putP h (wordOf (b.take 2)) ((b.drop 2).take 512))
def takeP (n : Nat) (b : List UInt8) (h : PgM) : Option PgM := if b.length % 514 ≠ 0 then none else replayP n (b.length / 514) b h
def takeAll (n : Nat) : List (List UInt8) -> PgM -> Option PgM
 | [], h => some h
 | b :: W, h => match takeP n b h with
  | none => none
  | some h => takeAll n W h
theorem takeAll_snoc (n : Nat) : ∀ (W : List (List UInt8)) (h h' : PgM) (b : List UInt8), takeAll n W h = some h' -> takeAll n (W ++ [b]) h = takeP n b h'
 | [], h, h', b, e => by
  injection e with e; subst e
  show (match takeP n b h with | none => none | some h => takeAll n [] h) = _
  cases takeP n b h <;> rfl
 | c :: W, h, h', b, e => by
  rw [List.cons_append]; unfold takeAll at e ⊢
  cases hc : takeP n c h with
  | none => rw [hc] at e; cases e
  | some h1 =>
   rw [hc] at e; exact takeAll_snoc n W h1 h' b e
theorem replay_rec {n : Nat} (hn : n <= 65536) : ∀ (m h : PgM), (∀ p ∈ m, p.1 < n /\ p.2.length = 512) -> replayP n m.length (recP m) h = some (mergeP h m)
 | [], h, _ => rfl
 | p :: m, h, hm => by
  have hp := hm p (List.mem_cons_self ..); have e1 : (recP (p :: m)).take 2 = be2 p.1 := by rw [recP_cons, List.append_assoc]; exact List.take_left' rfl
  have e2 : ((recP (p :: m)).drop 2).take 512 = p.2 := by
   rw [recP_cons, List.append_assoc]; exact List.take_left' hp.2
  have e3 : (recP (p :: m)).drop 514 = recP m := by
   rw [recP_cons]; exact List.drop_left' (by simp [be2, hp.2])
  have e4 : wordOf (be2 p.1) = p.1 := word2 p.1 (by omega); have e0 : recP (p :: m) ≠ [] := by rw [recP_cons]; simp [be2]
  rw [List.length_cons, replayP, if_neg e0, e1, e2, e3, e4, if_neg (by omega), replay_rec hn m _ (fun q hq => hm q (List.mem_cons_of_mem _ hq))]
  rfl
theorem take_rec {n : Nat} (hn : n <= 65536) (m h : PgM) (hm : ∀ p ∈ m, p.1 < n /\ p.2.length = 512) : takeP n (recP m) h = some (mergeP h m) := by
 have hl := recP_len hm; unfold takeP; rw [if_neg (by rw [hl]; omega), hl, Nat.mul_div_cancel_left _ (by omega : 0 < 514), replay_rec hn m h hm]
theorem replay_ok {n : Nat} : ∀ (k : Nat) (b : List UInt8) (h h' : PgM), b.length = 514 * k -> PgOk n h -> replayP n k b h = some h' -> PgOk n h'
 | 0, b, h, h', _, ho, e => by injection e with e; subst e; exact ho
 | k + 1, b, h, h', hl, ho, e => by
  unfold replayP at e
  split at e
  ·injection e with e; subst e; exact ho
  ·split at e
   ·cases e
   ·rename_i h1
    exact replay_ok k _ _ _ (by rw [List.length_drop]; omega) (ho.put (by omega) (by rw [List.length_take, List.length_drop]; omega)) e
theorem take_ok {n : Nat} {b : List UInt8} {h h' : PgM} (ho : PgOk n h) (e : takeP n b h = some h') : PgOk n h' := by
 unfold takeP at e
 split at e
 ·cases e
 ·exact replay_ok _ b h h' (by omega) ho e
theorem takeAll_ok {n : Nat} : ∀ (W : List (List UInt8)) (h h' : PgM), PgOk n h -> takeAll n W h = some h' -> PgOk n h'
 | [], h, h', ho, e => by injection e with e; subst e; exact ho
 | b :: W, h, h', ho, e => by
  unfold takeAll at e
  cases hb : takeP n b h with
  | none => rw [hb] at e; cases e
  | some h1 => rw [hb] at e; exact takeAll_ok W h1 h' (take_ok ho hb) e

def lastA : Option Stamp -> List (Stamp × List UInt8) -> Option Stamp
 | last, [] => last
 | _, x :: R => lastA (some x.1) R
def cntR (R : List (Stamp × List UInt8)) : Nat := (R.map (·.1.count)).sum
theorem cntR_cons (x : Stamp × List UInt8) (R : List (Stamp × List UInt8)) : cntR (x :: R) = x.1.count + cntR R := by simp [cntR]
theorem cntR_snoc (R : List (Stamp × List UInt8)) (x : Stamp × List UInt8) : cntR (R ++ [x]) = cntR R + x.1.count := by simp [cntR]
theorem lastA_snoc : ∀ (R : List (Stamp × List UInt8)) (last : Option Stamp) (x : Stamp × List UInt8), lastA last (R ++ [x]) = some x.1
 | [], _, _ => rfl
 | y :: R, _, x => lastA_snoc R (some y.1) x
theorem lastA_of : ∀ (R : List (Stamp × List UInt8)) (last : Option Stamp), lastA last R = (lastOf R).or last
 | [], last => by simp [lastA, lastOf]
 | y :: R, last => by
  rw [lastA, lastA_of R]; unfold lastOf; rw [List.getLast?_cons]
  cases R.getLast? with
  | none => rfl
  | some z => rfl
theorem recs_cut : ∀ (k : Nat) (last : Option Stamp) (L X : List (List UInt8)) (j : Nat),
  recordsOf ((recordsOf k last L).length + j) last (L.take (cntR (recordsOf k last L)) ++ X) = recordsOf k last L ++ recordsOf j (lastA last (recordsOf k last L)) X
 | 0, last, L, X, j => by simp [recordsOf, lastA, cntR]
 | k + 1, last, L, X, j => by
  cases hr : recordOf L with
  | none => rw [recs_none hr]; simp [lastA, cntR]
  | some x =>
   obtain ⟨st, b⟩ := x
   cases hs : stops last st with
   | true => rw [recs_stop hr hs]; simp [lastA, cntR]
   | false =>
    have hb := recordOf_bd hr; rw [recs_on hr hs]; have ih := recs_cut k (some st) (L.drop st.count) X j; obtain ⟨R, hR⟩ := nm (recordsOf k (some st) (L.drop st.count)); rw [<- hR] at ih ⊢; rw [cntR_cons]
    have h1 : recordOf (L.take (st.count + cntR R) ++ X) = some (st, b) := record_congr hr (fun i hi => by
     rw [List.getElem?_append_left (by rw [List.length_take]; omega), List.getElem?_take, if_pos (by omega)])
    have h2 : (L.take (st.count + cntR R) ++ X).drop st.count = (L.drop st.count).take (cntR R) ++ X := by
     rw [List.drop_append_of_le_length (by rw [List.length_take]; omega), List.drop_take, Nat.add_sub_cancel_left]
    rw [List.length_cons, show R.length + 1 + j = R.length + j + 1 by omega, recs_on h1 hs, h2, ih]
    rfl
theorem recs_fuel : ∀ (k k' : Nat) (last : Option Stamp) (L : List (List UInt8)), L.length <= k -> L.length <= k' -> recordsOf k last L = recordsOf k' last L
 | 0, k', last, L, h, _ => by
  obtain rfl : L = [] := List.length_eq_zero_iff.1 (by omega); rw [recs_none rfl, recs_none rfl]
 | k + 1, 0, last, L, _, h => by
  obtain rfl : L = [] := List.length_eq_zero_iff.1 (by omega); rw [recs_none rfl, recs_none rfl]
 | k + 1, k' + 1, last, L, h, h' => by
  cases hr : recordOf L with
  | none => rw [recs_none hr, recs_none hr]
  | some x =>
   obtain ⟨st, b⟩ := x; have hb := recordOf_bd hr
   cases hs : stops last st with
   | true => rw [recs_stop hr hs, recs_stop hr hs]
   | false => rw [recs_on hr hs, recs_on hr hs, recs_fuel k k' _ _ (by rw [List.length_drop]; omega) (by rw [List.length_drop]; omega)]
def Ends (last : Option Stamp) (B : List (List UInt8)) : Prop := ∀ st b, recordOf B = some (st, b) -> stops last st = true
theorem ends_recs {last : Option Stamp} {B : List (List UInt8)} (h : Ends last B) (j : Nat) : recordsOf j last B = [] := by
 cases hr : recordOf B with
 | none => exact recs_none hr
 | some x => exact recs_stop (b := x.2) hr (h x.1 x.2 hr)
theorem ends_of {k : Nat} {last : Option Stamp} {L : List (List UInt8)} (hk : L.length <= k) : Ends (lastA last (recordsOf k last L)) (L.drop (cntR (recordsOf k last L))) := by
 intro st b hr
 cases hs : stops (lastA last (recordsOf k last L)) st with
 | true => rfl
 | false =>
  have h := recs_cut k last L (L.drop (cntR (recordsOf k last L))) (k + 1); rw [List.take_append_drop, recs_fuel _ k last L (by omega) hk, recs_on hr hs] at h; have := congrArg List.length h
  simp at this
theorem recs_piece : ∀ (k : Nat) (last : Option Stamp) (L : List (List UInt8)), ∀ x ∈ recordsOf k last L, ∃ s ∈ L, ∃ q, pieceOf s = some q /\ q.st = x.1
 | 0, _, _ => by simp [recordsOf]
 | k + 1, last, L => by
  cases hr : recordOf L with
  | none => rw [recs_none hr]; simp
  | some y =>
   obtain ⟨st, b⟩ := y; have hb := recordOf_bd hr
   cases hs : stops last st with
   | true => rw [recs_stop hr hs]; simp
   | false =>
    rw [recs_on hr hs]; intro x hx; rcases List.mem_cons.1 hx with rfl | hx
    ·obtain ⟨s, q, h1, h2, h3, _⟩ := record_at hr (k := 0) (by omega); exact ⟨s, List.mem_of_getElem? h1, q, h2, h3⟩
    ·obtain ⟨s, h1, h2⟩ := recs_piece k (some st) _ x hx; exact ⟨s, List.mem_of_mem_drop h1, h2⟩
theorem lastA_mem : ∀ (R : List (Stamp × List UInt8)) (st : Stamp), lastA none R = some st -> ∃ x ∈ R, x.1 = st := by
 intro R st h; rw [lastA_of, Option.or_none] at h; unfold lastOf at h; obtain ⟨x, hx, rfl⟩ := Option.map_eq_some_iff.1 h; exact ⟨x, List.mem_of_getLast? hx, rfl⟩
theorem record_piece {B : List (List UInt8)} {st : Stamp} {b : List UInt8} (h : recordOf B = some (st, b)) : ∃ s ∈ B, ∃ q, pieceOf s = some q /\ q.st = st := by
 have hb := recordOf_bd h; obtain ⟨s, q, h1, h2, h3, _⟩ := record_at h (k := 0) (by omega); exact ⟨s, List.mem_of_getElem? h1, q, h2, h3⟩
theorem sec_new {ses num : Nat} {b s : List UInt8} (hF : Fits ses num b) (hs : s ∈ secsP ses num b) : ∃ q, pieceOf s = some q /\ q.st = stampAt ses num b := by
 obtain ⟨k, hk, rfl⟩ := List.mem_map.1 hs; exact ⟨_, piece_secP hF (List.mem_range.1 hk), rfl⟩
structure JDisk (c n : Nat) (V : List (List UInt8)) (R : List (Stamp × List UInt8)) : Prop where
 len : V.length = n
 recs : recordsOf n none V = R
 cap : ∀ s ∈ V, ∀ q, pieceOf s = some q -> q.st.session <= c /\ q.st.number <= c
 top : ∀ st, lastA none R = some st -> ∀ s ∈ V, ∀ q, pieceOf s = some q -> q.st.number <= st.number + 1
structure JInv (c n : Nat) (V : List (List UInt8)) (R : List (Stamp × List UInt8)) (l : LG) : Prop where
 len : V.length = n
 recs : recordsOf n none V = R
 f : l.f = 0
 n_ : l.n = n
 br : l.br = false
 at_ : l.at_ = cntR R
 low : ∀ s ∈ V, ∀ q, pieceOf s = some q -> q.st.session <= l.ses /\ q.st.number <= l.num /\ (q.st.session = l.ses -> q.st.number < l.num)
 last : ∀ st, lastA none R = some st -> st.number + 1 = l.num /\ st.session <= l.ses
 num : l.num <= c
 ses : l.ses <= c
theorem JDisk.mono {c c' n : Nat} {V : List (List UInt8)} {R : List (Stamp × List UInt8)} (h : JDisk c n V R) (hc : c <= c') : JDisk c' n V R :=
 ⟨h.len, h.recs, fun s hs q hq => by have := h.cap s hs q hq; omega, h.top⟩
theorem JInv.mono {c c' n : Nat} {V : List (List UInt8)} {R : List (Stamp × List UInt8)} {l : LG} (h : JInv c n V R l) (hc : c <= c') : JInv c' n V R l :=
 ⟨h.len, h.recs, h.f, h.n_, h.br, h.at_, h.low, h.last, by have := h.num; omega, by have := h.ses; omega⟩
theorem JDisk.zero {c n : Nat} : JDisk c n (List.replicate n zsec) [] :=
 ⟨by simp, recs_none (zero_none (rep_zero n)), (fun s hs q hq => by rw [rep_zero n s hs, piece_zero] at hq; cases hq), (fun st h => by cases h)⟩
theorem JInv.closed {c n : Nat} {V : List (List UInt8)} {R : List (Stamp × List UInt8)} {l : LG} (h : JInv c n V R l) : JDisk c n V R :=
 ⟨h.len, h.recs, fun s hs q hq => by have := h.low s hs q hq; have := h.num; have := h.ses; omega, fun st hst s hs q hq => by have := h.low s hs q hq; have := h.last st hst; omega⟩
theorem JInv.few {c n : Nat} {V : List (List UInt8)} {R : List (Stamp × List UInt8)} {l : LG} (h : JInv c n V R l) : cntR R <= n := by
 have := recs_sum n none V; rw [h.recs, h.len] at this; exact this
def logOf (n : Nat) (V : List (List UInt8)) : LG := { f := 0, n := n, at_ := cntR (recordsOf n none V), num := numAfter (((newestOf V).2 + 1) % 4294967296) (lastOf (recordsOf n none V)), ses := (newestOf V).1 + 1, br := false }
theorem JDisk.newest {c n : Nat} {V : List (List UInt8)} {R : List (Stamp × List UInt8)} (h : JDisk c n V R) : (newestOf V).1 <= c /\ (newestOf V).2 <= c := by
 rw [newestOf_eq]; exact newFold_le V c c h.cap (0, 0) (Nat.zero_le _) (Nat.zero_le _)
theorem JDisk.open_ {c n : Nat} {V : List (List UInt8)} {R : List (Stamp × List UInt8)} (h : JDisk c n V R) (hc : c + 1 < 4294967296) : JInv (c + 1) n V R (logOf n V) := by
 have hn := h.newest; have hge := newFold_ge V (0, 0); rw [<- newestOf_eq] at hge
 have hnum : (logOf n V).num = numAfter ((newestOf V).2 + 1) (lastA none R) := by
  unfold logOf
  simp only
  rw [h.recs, lastA_of, Option.or_none, Nat.mod_eq_of_lt (by omega)]
 have hlast : ∀ st, lastA none R = some st -> st.session <= (newestOf V).1 /\ st.number <= c := fun st hst => by
  obtain ⟨x, hx, rfl⟩ := lastA_mem R st hst; rw [<- h.recs] at hx; obtain ⟨s, hs, q, hq, he⟩ := recs_piece n none V x hx; rw [<- he]; exact ⟨(hge.2.2 s hs q hq).1, (h.cap s hs q hq).2⟩
 have hnum2 : ∀ st, lastA none R = some st -> (logOf n V).num = st.number + 1 := fun st hst => by
  have := (hlast st hst).2; rw [hnum, hst]
  show (st.number + 1) % 4294967296 = _
  rw [Nat.mod_eq_of_lt (by omega)]
 have hnum0 : lastA none R = none -> (logOf n V).num = (newestOf V).2 + 1 := fun h0 => by rw [hnum, h0]; rfl
 refine ⟨h.len, h.recs, rfl, rfl, rfl, by show cntR (recordsOf n none V) = _; rw [h.recs], fun s hs q hq => ?_, fun st hst => ?_, ?_, by show (newestOf V).1 + 1 <= _; omega⟩
 ·have h1 := hge.2.2 s hs q hq; refine ⟨by show _ <= (newestOf V).1 + 1; omega, ?_, fun e => by have e : q.st.session = (newestOf V).1 + 1 := e; omega⟩
  cases hl : lastA none R with
  | none => rw [hnum0 hl]; omega
  | some st => rw [hnum2 st hl]; exact h.top st hl s hs q hq
 ·exact ⟨(hnum2 st hst).symm, by show _ <= (newestOf V).1 + 1; have := (hlast st hst).1; omega⟩
 ·cases hl : lastA none R with
  | none => rw [hnum0 hl]; omega
  | some st => rw [hnum2 st hl]; have := (hlast st hl).2; omega
section
variable {c n : Nat} {V : List (List UInt8)} {R : List (Stamp × List UInt8)} {l : LG} {b : List UInt8}
theorem JInv.goes (h : JInv c n V R l) (hc : c + 1 < 4294967296) : stops (lastA none R) (stampAt l.ses l.num b) = false := by
 cases hl : lastA none R with
 | none => rfl
 | some st =>
  have h1 := h.last st hl; have h2 := h.num; unfold stops; refine decide_eq_false ?_
  show ¬(l.num ≠ (st.number + 1) % 4294967296 ∨ l.ses < st.session)
  rw [Nat.mod_eq_of_lt (by omega)]; omega
theorem JInv.behind (h : JInv c n V R l) (hc : c + 1 < 4294967296) {B : List (List UInt8)} (hB : ∀ s ∈ B, s ∈ V) : Ends (some (stampAt l.ses l.num b)) B := by
 intro st b' hr; obtain ⟨s, hs, q, hq, rfl⟩ := record_piece hr; have h1 := h.low s (hB s hs) q hq; have h2 := h.num; refine decide_eq_true ?_
 show q.st.number ≠ (l.num + 1) % 4294967296 ∨ _
 rw [Nat.mod_eq_of_lt (by omega)]; omega
theorem JInv.fits (h : JInv c n V R l) (hc : c + 1 < 4294967296) (hb : needOf b.length <= 65535) : Fits l.ses l.num b := ⟨by have := h.ses; omega, by have := h.num; omega, hb⟩
theorem JInv.whole (h : JInv c n V R l) (hc : c + 1 < 4294967296) (hb : needOf b.length <= 65535) (hm : l.at_ + needOf b.length <= n) :
  JInv (c + 1) n (V.take l.at_ ++ (secsP l.ses l.num b ++ (V.drop l.at_).drop (needOf b.length))) (R ++ [(stampAt l.ses l.num b, b)]) { l with at_ := l.at_ + needOf b.length, num := (l.num + 1) % 4294967296 } := by
 have hF := h.fits hc hb; have hl := h.len; have h2 := h.num
 have hlen : (V.take l.at_ ++ (secsP l.ses l.num b ++ (V.drop l.at_).drop (needOf b.length))).length = n := by
  simp only [List.length_append, List.length_take, List.length_drop, secsP_len]; omega
 have hmod : (l.num + 1) % 4294967296 = l.num + 1 := Nat.mod_eq_of_lt (by omega); refine ⟨hlen, ?_, h.f, h.n_, h.br, ?_, fun s hs q hq => ?_, fun st hst => ?_, by show (l.num + 1) % 4294967296 <= _; omega, by show l.ses <= _; have := h.ses; omega⟩
 ·have hcut := recs_cut n none V (secsP l.ses l.num b ++ (V.drop l.at_).drop (needOf b.length)) (n + 1); rw [h.recs, <- h.at_] at hcut; rw [recs_fuel n (R.length + (n + 1)) none _ (by omega) (by omega), hcut, recs_cons hF _ n _ (h.goes hc), ends_recs (h.behind hc (fun s hs => List.mem_of_mem_drop (List.mem_of_mem_drop hs)))]
 ·show l.at_ + needOf b.length = _
  rw [cntR_snoc, h.at_]
  rfl
 ·rw [show ({ l with at_ := l.at_ + needOf b.length, num := (l.num + 1) % 4294967296 } : LG).num = l.num + 1 from hmod, show ({ l with at_ := l.at_ + needOf b.length, num := (l.num + 1) % 4294967296 } : LG).ses = l.ses from rfl]
  have old : s ∈ V -> q.st.session <= l.ses /\ q.st.number <= l.num + 1 /\ (q.st.session = l.ses -> q.st.number < l.num + 1) := fun hs => by
   have := h.low s hs q hq; omega
  rcases List.mem_append.1 hs with hs | hs
  ·exact old (List.mem_of_mem_take hs)
  ·rcases List.mem_append.1 hs with hs | hs
   ·obtain ⟨q', hq', he⟩ := sec_new hF hs; rw [hq] at hq'; injection hq' with hq'; subst hq'; rw [he]
    show l.ses <= l.ses /\ l.num <= l.num + 1 /\ (_ -> l.num < l.num + 1)
    omega
   ·exact old (List.mem_of_mem_drop (List.mem_of_mem_drop hs))
 ·rw [lastA_snoc] at hst; injection hst with hst; subst hst
  show l.num + 1 = (l.num + 1) % 4294967296 /\ l.ses <= l.ses
  omega
theorem JInv.torn (h : JInv c n V R l) (hc : c + 1 < 4294967296) (hb : needOf b.length <= 65535) (hm : l.at_ + needOf b.length <= n) {T : List (List UInt8)} (hT : Torn (V.drop l.at_) T l.ses l.num b) :
  JDisk (c + 1) n (V.take l.at_ ++ T) R ∨ JDisk (c + 1) n (V.take l.at_ ++ T) (R ++ [(stampAt l.ses l.num b, b)]) := by
 have hF := h.fits hc hb; have hl := h.len; have hnum := h.num; have hses := h.ses
 have hlen : (V.take l.at_ ++ T).length = n := by
  rw [List.length_append, hT.1, List.length_take, List.length_drop]; omega
 have hN : NoneOf (V.drop l.at_) l.ses l.num := fun s hs q hq he => by
  have := h.low s (List.mem_of_mem_drop hs) q hq; omega
 have hpc : ∀ s ∈ V.take l.at_ ++ T, ∀ q, pieceOf s = some q -> q.st.session <= l.ses /\ q.st.number <= l.num := fun s hs q hq => by
  have old : s ∈ V -> q.st.session <= l.ses /\ q.st.number <= l.num := fun hs => by have := h.low s hs q hq; omega
  rcases List.mem_append.1 hs with hs | hs
  ·exact old (List.mem_of_mem_take hs)
  ·obtain ⟨j, hj⟩ := List.mem_iff_getElem?.1 hs; rcases hT.2 j with e | ⟨e1, e2⟩
   ·rw [hj] at e; exact old (List.mem_of_mem_drop (List.mem_of_getElem? e.symm))
   ·rw [hj] at e2; injection e2 with e2; subst e2; rw [piece_secP hF e1] at hq; injection hq with hq; subst hq; exact ⟨Nat.le_refl _, Nat.le_refl _⟩
 have stay : Ends (lastA none R) T -> JDisk (c + 1) n (V.take l.at_ ++ T) R := fun he => by
  refine ⟨hlen, ?_, fun s hs q hq => by have := hpc s hs q hq; omega, fun st hst s hs q hq => ?_⟩
  ·have hcut := recs_cut n none V T (n + 1); rw [h.recs, <- h.at_] at hcut; rw [recs_fuel n (R.length + (n + 1)) none _ (by omega) (by omega), hcut, ends_recs he, List.append_nil]
  ·have := hpc s hs q hq; have := h.last st hst; omega
 cases hr : recordOf T with
 | none => exact .inl (stay fun st b' h' => by rw [hr] at h'; cases h')
 | some x =>
  obtain ⟨st, b'⟩ := x; rcases torn_record hT hF hN hr with ⟨h1, h2, h3⟩ | h1
  ·right
   rw [h3]; exact (h.whole hc hb hm).closed
  ·left
   refine stay fun st' b'' h' => ?_; rw [hr] at h'; injection h' with h'; injection h' with h2 h3; subst h2; have he := ends_of (k := n) (last := none) (L := V) (by omega); rw [h.recs, <- h.at_] at he; exact he st b' h1
theorem JInv.anew (h : JInv c n V R l) (hc : c + 1 < 4294967296) (hb : needOf b.length <= 65535) (hm : needOf b.length <= n) :
  JInv (c + 1) n (secsP l.ses l.num b ++ V.drop (needOf b.length)) [(stampAt l.ses l.num b, b)] { l with at_ := needOf b.length, num := (l.num + 1) % 4294967296 } := by
 have hF := h.fits hc hb; have hl := h.len; have h2 := h.num; have hmod : (l.num + 1) % 4294967296 = l.num + 1 := Nat.mod_eq_of_lt (by omega); have hpos := need_pos b.length; refine ⟨by simp only [List.length_append, List.length_drop, secsP_len]; omega, ?_, h.f, h.n_, h.br, ?_, fun s hs q hq => ?_, fun st hst => ?_, by show (l.num + 1) % 4294967296 <= _; omega, by show l.ses <= _; have := h.ses; omega⟩
 ·obtain ⟨n', rfl⟩ : ∃ k, n = k + 1 := ⟨n - 1, by omega⟩; rw [recs_cons hF _ n' none rfl, ends_recs (h.behind hc (fun s hs => List.mem_of_mem_drop hs))]
 ·show needOf b.length = cntR [_]
  simp [cntR, stampAt]
 ·rw [show ({ l with at_ := needOf b.length, num := (l.num + 1) % 4294967296 } : LG).num = l.num + 1 from hmod, show ({ l with at_ := needOf b.length, num := (l.num + 1) % 4294967296 } : LG).ses = l.ses from rfl]; rcases List.mem_append.1 hs with hs | hs
  ·obtain ⟨q', hq', he⟩ := sec_new hF hs; rw [hq] at hq'; injection hq' with hq'; subst hq'; rw [he]
   show l.ses <= l.ses /\ l.num <= l.num + 1 /\ (_ -> l.num < l.num + 1)
   omega
  ·have := h.low s (List.mem_of_mem_drop hs) q hq; omega
 ·injection hst with hst; subst hst
  show l.num + 1 = (l.num + 1) % 4294967296 /\ l.ses <= l.ses
  omega
theorem torn_one {L T : List (List UInt8)} {ses num : Nat} {b : List UInt8} (hT : Torn L T ses num b) (hn : needOf b.length = 1) (hL : 1 <= L.length) : T = L ∨ T = secsP ses num b ++ L.drop (needOf b.length) := by
 rcases hT.2 0 with h0 | ⟨_, h0⟩
 ·left
  apply List.ext_getElem?
  intro j
  by_cases hj : j = 0
  ·subst hj; exact h0
  ·rcases hT.2 j with h | h
   ·exact h
   ·omega
 ·right
  refine torn_keep hT (fun k hk _ => ?_) (by omega); obtain rfl : k = 0 := by omega
  exact h0
theorem JInv.anewTorn (h : JInv c n V R l) (hc : c + 1 < 4294967296) (hn : needOf b.length = 1) (h1 : 1 <= n) {T : List (List UInt8)} (hT : Torn V T l.ses l.num b) :
  JDisk (c + 1) n T R ∨ JDisk (c + 1) n T [(stampAt l.ses l.num b, b)] := by
 rcases torn_one hT hn (by rw [h.len]; exact h1) with rfl | rfl
 ·exact .inl (h.closed.mono (by omega))
 ·exact .inr (h.anew hc (by omega) (by omega)).closed
end

structure Touch (Q : Nat -> Prop) (S0 : List (List UInt8)) (D : DM) : Prop where
 len : D.S.length = S0.length
 same : ∀ j, ¬Q j -> D.S[j]? = S0[j]?
 pend : ∀ p ∈ D.P, Q p.1
theorem layAll_other : ∀ (P : List (Nat × List UInt8)) (S : List (List UInt8)) (j : Nat), (∀ p ∈ P, p.1 ≠ j) -> (layAll S P)[j]? = S[j]?
 | [], _, _, _ => rfl
 | p :: P, S, j, h => by
  show (layAll (S.set p.1 p.2) P)[j]? = _
  rw [layAll_other P _ j (fun q hq => h q (List.mem_cons_of_mem _ hq)), List.getElem?_set_ne (h p (List.mem_cons_self ..))]
theorem layAll_at {x : List UInt8} {j : Nat} : ∀ (P : List (Nat × List UInt8)) (S : List (List UInt8)), j < S.length -> (∀ p ∈ P, p.1 = j -> p.2 = x) -> (S[j]? = some x ∨ ∃ p ∈ P, p.1 = j) -> (layAll S P)[j]? = some x
 | [], S, _, _, h => by
  rcases h with h | ⟨p, hp, _⟩
  ·exact h
  ·cases hp
 | p :: P, S, hj, hx, h => by
  show (layAll (S.set p.1 p.2) P)[j]? = _
  refine layAll_at P _ (by simpa using hj) (fun q hq => hx q (List.mem_cons_of_mem _ hq)) ?_
  by_cases hp : p.1 = j
  ·left
   rw [hp, List.getElem?_set_self hj, hx p (List.mem_cons_self ..) hp]
  ·rcases h with h | ⟨q, hq, he⟩
   ·left; rw [List.getElem?_set_ne hp]; exact h
   ·rcases List.mem_cons.1 hq with rfl | hq
    ·exact absurd he hp
    ·exact .inr ⟨q, hq, he⟩
section
variable {Q : Nat -> Prop} {S0 : List (List UInt8)} {D : DM}
theorem Touch.refl (hP : D.P = []) : Touch Q D.S D := ⟨rfl, fun _ _ => rfl, by rw [hP]; simp⟩
theorem Touch.died (h : Touch Q S0 D) : Touch Q S0 D.died := ⟨h.len, h.same, h.pend⟩
theorem Touch.write (h : Touch Q S0 D) (k : Nat) (b : List UInt8) (hk : Q k) : Touch Q S0 (D.write (k : Int) b) := by
 unfold DM.write
 split
 ·exact h
 ·split
  ·exact h
  ·split
   ·exact h.died
   ·refine ⟨h.len, h.same, fun p hp => ?_⟩; rcases List.mem_append.1 hp with hp | hp
    ·exact h.pend p hp
    ·simp only [List.mem_singleton] at hp; subst hp
     simpa using hk
theorem Touch.laid (h : Touch Q S0 D) {P : List (Nat × List UInt8)} (hP : ∀ p ∈ P, p ∈ D.P) (j : Nat) (hj : ¬Q j) : (layAll D.S P)[j]? = S0[j]? := by
 rw [layAll_other _ _ _ (fun p hp e => hj (by rw [<- e]; exact h.pend p (hP p hp))), h.same j hj]
theorem Touch.sync (h : Touch Q S0 D) : Touch Q S0 D.sync := by
 unfold DM.sync
 split
 ·exact h
 ·split
  ·exact h.died
  ·exact ⟨by show (layAll D.S D.P).length = _; rw [layAll_len]; exact h.len, fun j hj => h.laid (fun _ hp => hp) j hj, by simp⟩
theorem Touch.reopen (h : Touch Q S0 D) (K : List Bool) : Touch Q S0 (D.reopen K) :=
 ⟨by show (layAll D.S _).length = _; rw [layAll_len]; exact h.len, fun j hj => h.laid (fun p hp => keptOf_mem _ _ p hp) j hj, by simp [DM.reopen]⟩
theorem Touch.lay : ∀ (ss : List (List UInt8)) (D : DM) (pos : Nat), Touch Q S0 D -> (∀ j, pos <= j -> j < pos + ss.length -> Q j) -> Touch Q S0 (layJ D pos ss).1
 | [], D, pos, h, _ => h.sync
 | s :: ss, D, pos, h, hq => by
  have h1 := h.write pos s (hq pos (Nat.le_refl _) (by simp))
  by_cases he : D.writeE (pos : Int) s = 0
  ·rw [layJ_on he]; exact Touch.lay ss _ (pos + 1) h1 (fun j h2 h3 => hq j (by omega) (by simp; omega))
  ·rw [layJ_stop he]; exact h1
theorem Touch.append (h : Touch Q S0 D) (l : LG) (b : List UInt8) (hq : ∀ j, l.f + l.at_ <= j -> j < l.f + l.at_ + needOf b.length -> Q j) : Touch Q S0 (appendD D l b) := by
 unfold appendD
 split
 ·exact h
 ·split
  ·exact h
  ·split
   ·exact h
   ·exact Touch.lay _ _ _ h (by rw [sectorsOf_len]; exact hq)
end
def seqW : DM -> List (Nat × List UInt8) -> DM × Int
 | D, [] => (D, 0)
 | D, p :: r => if D.writeE (p.1 : Int) p.2 = 0 then seqW (D.write (p.1 : Int) p.2) r else (D.write (p.1 : Int) p.2, D.writeE (p.1 : Int) p.2)
theorem seqW_touch {Q : Nat -> Prop} {S0 : List (List UInt8)} : ∀ (P : List (Nat × List UInt8)) (D : DM), Touch Q S0 D -> (∀ p ∈ P, Q p.1) -> Touch Q S0 (seqW D P).1
 | [], D, h, _ => h
 | p :: P, D, h, hq => by
  have h1 := h.write p.1 p.2 (hq p (List.mem_cons_self ..)); unfold seqW
  split
  ·exact seqW_touch P _ h1 (fun q hq' => hq q (List.mem_cons_of_mem _ hq'))
  ·exact h1
theorem seqW_S : ∀ (P : List (Nat × List UInt8)) (D : DM), (seqW D P).1.S = D.S
 | [], _ => rfl
 | p :: P, D => by
  unfold seqW
  split
  ·rw [seqW_S P, write_S]
  ·exact write_S ..
theorem seqW_done : ∀ (P : List (Nat × List UInt8)) (D : DM), (seqW D P).1.done <= D.done + P.length
 | [], _ => Nat.le_refl _
 | p :: P, D => by
  have h1 := write_done D (p.1 : Int) p.2; unfold seqW
  split
  ·have := seqW_done P (D.write (p.1 : Int) p.2); simp only [List.length_cons]; omega
  ·simp only [List.length_cons]; omega
theorem seqW_ok : ∀ (P : List (Nat × List UInt8)) (D : DM), D.ok -> (seqW D P).1.ok
 | [], _, h => h
 | p :: P, D, h => by
  unfold seqW
  split
  ·exact seqW_ok P _ (DM.ok_write h _ _)
  ·exact DM.ok_write h _ _
theorem seqW_cases : ∀ (P : List (Nat × List UInt8)) (D : DM), D.dead = false -> (∀ p ∈ P, p.1 < D.S.length /\ p.2.length = 64) ->
  ((seqW D P).2 = 0 /\ (seqW D P).1.dead = false /\ (seqW D P).1.P = D.P ++ P /\ (D.limit = -1 -> (seqW D P).1.limit = -1)) ∨ ((seqW D P).2 = 10 /\ (seqW D P).1.dead = true /\ D.limit ≠ -1)
 | [], D, hd, _ => .inl ⟨rfl, hd, by simp [seqW], fun h => h⟩
 | p :: P, D, hd, hp => by
  obtain ⟨h1, h2⟩ := hp p (List.mem_cons_self ..); have hpad : pad p.2 = p.2 := by simp [pad, h2]
  by_cases hl : D.limit = 0
  ·right
   have he : D.writeE (p.1 : Int) p.2 = 10 := by
    unfold DM.writeE; rw [if_neg (by rw [hd]; decide), if_neg (by omega), if_pos hl]
   have hw : D.write (p.1 : Int) p.2 = D.died := by
    unfold DM.write; rw [if_neg (by rw [hd]; decide), if_neg (by omega), if_pos hl]
   unfold seqW; rw [if_neg (by rw [he]; decide), he, hw]; exact ⟨rfl, rfl, by omega⟩
  ·have he : D.writeE (p.1 : Int) p.2 = 0 := by
    unfold DM.writeE; rw [if_neg (by rw [hd]; decide), if_neg (by omega), if_neg hl]
   have hw := write_eq hd h1 (by omega : p.2.length <= 64) hl; unfold seqW; rw [if_pos he]; have ih := seqW_cases P (D.write (p.1 : Int) p.2) (by rw [hw]; exact hd) (fun q hq => by rw [write_S]; exact hp q (List.mem_cons_of_mem _ hq))
   have hlim : D.limit = -1 ↔ (D.write (p.1 : Int) p.2).limit = -1 := by
    rw [hw]
    show _ ↔ (if 0 < D.limit then D.limit - 1 else D.limit) = -1
    split <;> omega
   rcases ih with ⟨i1, i2, i3, i4⟩ | ⟨i1, i2, i3⟩
   ·refine .inl ⟨i1, i2, ?_, fun h => i4 (hlim.1 h)⟩; rw [i3, hw, hpad]
    simp
   ·exact .inr ⟨i1, i2, fun h => i3 (hlim.1 h)⟩
end
end Go.Proofs.YtpjbdpepofnleaaGreat
