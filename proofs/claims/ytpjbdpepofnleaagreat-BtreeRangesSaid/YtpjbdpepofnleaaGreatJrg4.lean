/-
  Joined by join.py: Jr Pm Pq Pt Lay Pu Gen Pv Px Pc
-/
import Derived.Maps.OwnSet
import Derived.Lib.SlKeysI
import Derived.Lib.SlMapMerge
import Derived.Shelf.SlIterI.Nil
import Derived.Shelf.SortM.Plain
import Derived.Shelf.SortM.SortNone
import Derived.Test.YtpjbdpepofnleaaGreatProg
import Derived.Maps.RangeWalk
import Derived.Maps.Ext
import Derived.Test.YtpjbdpepofnleaaGreatJrg3
section
namespace Go.Proofs.YtpjbdpepofnleaaGreat
theorem newestOf_eq (L : List (List UInt8)) : newestOf L = newFrom (0, 0) L := newFrom_eq L
theorem rep_zero (n : Nat) : ∀ s ∈ List.replicate n zsec, s = zsec := fun _ hs => (List.mem_replicate.1 hs).2
end Go.Proofs.YtpjbdpepofnleaaGreat
end
section
namespace Go.Proofs.YtpjbdpepofnleaaGreat
abbrev PgM := List (Nat × List UInt8)
def insP (x : Nat × List UInt8) : PgM → PgM
  | [] => [x]
  | y :: r => if x.1 < y.1 then x :: y :: r else y :: insP x r
def putP (m : PgM) (k : Nat) (b : List UInt8) : PgM := insP (k, b) (m.filter fun p => !decide (p.1 = k))
def getP (m : PgM) (k : Nat) : Option (List UInt8) := (m.find? fun p => decide (p.1 = k)).map (·.2)
structure PgOk (n : Nat) (m : PgM) : Prop where
  rise : m.Pairwise (fun p q => p.1 < q.1)
  mem : ∀ p ∈ m, p.1 < n ∧ p.2.length = 512
theorem mem_insP {x p : Nat × List UInt8} : ∀ {m : PgM}, p ∈ insP x m ↔ p = x ∨ p ∈ m
  | [] => by simp [insP]
  | y :: r => by
    unfold insP
    split
    · simp
    · rw [List.mem_cons, mem_insP, List.mem_cons]
      constructor
      · rintro (h | h | h) <;> simp [h]
      · rintro (h | h | h) <;> simp [h]
theorem insP_rise {x : Nat × List UInt8} : ∀ {m : PgM}, m.Pairwise (fun p q => p.1 < q.1) → (∀ p ∈ m, p.1 ≠ x.1) → (insP x m).Pairwise (fun p q => p.1 < q.1)
  | [], _, _ => by simp [insP]
  | y :: r, h, hn => by
    obtain ⟨h1, h2⟩ := List.pairwise_cons.1 h
    unfold insP
    split
    · rename_i hxy
      refine List.pairwise_cons.2 ⟨fun p hp => ?_, h⟩
      rcases List.mem_cons.1 hp with rfl | hp
      · exact hxy
      · have := h1 p hp; omega
    · rename_i hxy
      refine List.pairwise_cons.2 ⟨fun p hp => ?_, insP_rise h2 (fun p hp => hn p (List.mem_cons_of_mem _ hp))⟩
      rcases mem_insP.1 hp with rfl | hp
      · have := hn y (List.mem_cons_self ..); omega
      · exact h1 p hp
theorem PgOk.nil (n : Nat) : PgOk n [] := ⟨List.Pairwise.nil, by simp⟩
theorem PgOk.put {n : Nat} {m : PgM} (h : PgOk n m) {k : Nat} {b : List UInt8} (hk : k < n) (hb : b.length = 512) : PgOk n (putP m k b) := by
  refine ⟨insP_rise (h.rise.filter _) (fun p hp => ?_), fun p hp => ?_⟩
  · have := (List.mem_filter.1 hp).2
    simpa using this
  · rcases mem_insP.1 hp with rfl | hp
    · exact ⟨hk, hb⟩
    · exact h.mem p (List.mem_filter.1 hp).1
theorem find_insP_ne {x : Nat × List UInt8} {j : Nat} (hx : x.1 ≠ j) : ∀ (m : PgM), (insP x m).find? (fun p => decide (p.1 = j)) = m.find? (fun p => decide (p.1 = j))
  | [] => by simp [insP, hx]
  | y :: r => by
    unfold insP
    split
    · rw [List.find?_cons_of_neg (by simpa using hx)]
    · by_cases hy : y.1 = j
      · rw [List.find?_cons_of_pos (by simpa using hy), List.find?_cons_of_pos (by simpa using hy)]
      · rw [List.find?_cons_of_neg (by simpa using hy), List.find?_cons_of_neg (by simpa using hy), find_insP_ne hx r]
theorem find_insP_eq {x : Nat × List UInt8} : ∀ (m : PgM), (∀ p ∈ m, p.1 ≠ x.1) → (insP x m).find? (fun p => decide (p.1 = x.1)) = some x
  | [], _ => by simp [insP]
  | y :: r, h => by
    unfold insP
    split
    · simp
    · rw [List.find?_cons_of_neg (by simpa using h y (List.mem_cons_self ..)), find_insP_eq r (fun p hp => h p (List.mem_cons_of_mem _ hp))]
theorem find_filter_ne {k j : Nat} (hj : j ≠ k) : ∀ (m : PgM), (m.filter fun p => !decide (p.1 = k)).find? (fun p => decide (p.1 = j)) = m.find? (fun p => decide (p.1 = j))
  | [] => rfl
  | y :: r => by
    by_cases hy : y.1 = k
    · rw [List.filter_cons_of_neg (by simpa using hy), find_filter_ne hj r, List.find?_cons_of_neg (by simp; omega)]
    · rw [List.filter_cons_of_pos (by simpa using hy)]
      by_cases hyj : y.1 = j
      · rw [List.find?_cons_of_pos (by simpa using hyj), List.find?_cons_of_pos (by simpa using hyj)]
      · rw [List.find?_cons_of_neg (by simpa using hyj), List.find?_cons_of_neg (by simpa using hyj), find_filter_ne hj r]
theorem getP_put (m : PgM) (k j : Nat) (b : List UInt8) : getP (putP m k b) j = if j = k then some b else getP m j := by
  unfold getP putP
  by_cases h : j = k
  · subst h
    rw [if_pos rfl, find_insP_eq (x := (j, b)) _ (fun p hp => by simpa using (List.mem_filter.1 hp).2)]
    rfl
  · rw [if_neg h, find_insP_ne (x := (k, b)) (fun e => h e.symm), find_filter_ne h]
theorem getP_nil (j : Nat) : getP [] j = none := rfl
theorem getP_mem {m : PgM} {j : Nat} {b : List UInt8} (h : getP m j = some b) : (j, b) ∈ m := by
  unfold getP at h
  obtain ⟨p, hp, rfl⟩ := Option.map_eq_some_iff.1 h
  have h1 := List.find?_some hp
  have h2 := List.mem_of_find?_eq_some hp
  have h3 : p.1 = j := by simpa using h1
  subst h3
  exact h2
theorem getP_len {n : Nat} {m : PgM} (h : PgOk n m) {j : Nat} {b : List UInt8} (hg : getP m j = some b) : j < n ∧ b.length = 512 := h.mem _ (getP_mem hg)
theorem few_from {n : Nat} : ∀ (m : PgM) (lo : Nat), lo ≤ n → m.Pairwise (fun p q => p.1 < q.1) → (∀ p ∈ m, lo ≤ p.1 ∧ p.1 < n) → lo + m.length ≤ n
  | [], lo, h, _, _ => by simpa using h
  | p :: m, lo, _, hr, hm => by
    obtain ⟨h1, h2⟩ := List.pairwise_cons.1 hr
    have hp := hm p (List.mem_cons_self ..)
    have := few_from m (p.1 + 1) (by omega) h2 (fun q hq => ⟨h1 q hq, (hm q (List.mem_cons_of_mem _ hq)).2⟩)
    simp only [List.length_cons]
    omega
theorem PgOk.few {n : Nat} {m : PgM} (h : PgOk n m) : m.length ≤ n := by
  have := few_from m 0 (Nat.zero_le _) h.rise (fun p hp => ⟨Nat.zero_le _, (h.mem p hp).1⟩)
  omega
def replayP (n : Nat) : Nat → List UInt8 → PgM → Option PgM
  | 0, _, h => some h
  | k + 1, b, h => if b = [] then some h else if n ≤ wordOf (b.take 2) then none else replayP n k (b.drop 514) (putP h (wordOf (b.take 2)) ((b.drop 2).take 512))
def takeP (n : Nat) (b : List UInt8) (h : PgM) : Option PgM := if b.length % 514 ≠ 0 then none else replayP n (b.length / 514) b h
def takeAll (n : Nat) : List (List UInt8) → PgM → Option PgM
  | [], h => some h
  | b :: W, h => match takeP n b h with
    | none => none
    | some h => takeAll n W h
end Go.Proofs.YtpjbdpepofnleaaGreat
namespace Go.Proofs.YtpjbdpepofnleaaGreat
def lastA : Option Stamp → List (Stamp × List UInt8) → Option Stamp
  | last, [] => last
  | _, x :: R => lastA (some x.1) R
def cntR (R : List (Stamp × List UInt8)) : Nat := (R.map (·.1.count)).sum
theorem lastA_of : ∀ (R : List (Stamp × List UInt8)) (last : Option Stamp), lastA last R = (lastOf R).or last
  | [], last => by simp [lastA, lastOf]
  | y :: R, last => by
    rw [lastA, lastA_of R]
    unfold lastOf
    rw [List.getLast?_cons]
    cases R.getLast? with
    | none => rfl
    | some z => rfl
theorem recs_piece : ∀ (k : Nat) (last : Option Stamp) (L : List (List UInt8)), ∀ x ∈ recordsOf k last L, ∃ s ∈ L, ∃ q, pieceOf s = some q ∧ q.st = x.1
  | 0, _, _ => by simp [recordsOf]
  | k + 1, last, L => by
    cases hr : recordOf L with
    | none => rw [recs_none hr]; simp
    | some y =>
      obtain ⟨st, b⟩ := y
      have hb := recordOf_bd hr
      cases hs : stops last st with
      | true => rw [recs_stop hr hs]; simp
      | false =>
        rw [recs_on hr hs]
        intro x hx
        rcases List.mem_cons.1 hx with rfl | hx
        · obtain ⟨s, q, h1, h2, h3, _⟩ := record_at hr (k := 0) (by omega)
          exact ⟨s, List.mem_of_getElem? h1, q, h2, h3⟩
        · obtain ⟨s, h1, h2⟩ := recs_piece k (some st) _ x hx
          exact ⟨s, List.mem_of_mem_drop h1, h2⟩
theorem lastA_mem : ∀ (R : List (Stamp × List UInt8)) (st : Stamp), lastA none R = some st → ∃ x ∈ R, x.1 = st := by
  intro R st h
  rw [lastA_of, Option.or_none] at h
  unfold lastOf at h
  obtain ⟨x, hx, rfl⟩ := Option.map_eq_some_iff.1 h
  exact ⟨x, List.mem_of_getLast? hx, rfl⟩
structure JDisk (c n : Nat) (V : List (List UInt8)) (R : List (Stamp × List UInt8)) : Prop where
  len : V.length = n
  recs : recordsOf n none V = R
  cap : ∀ s ∈ V, ∀ q, pieceOf s = some q → q.st.session ≤ c ∧ q.st.number ≤ c
  top : ∀ st, lastA none R = some st → ∀ s ∈ V, ∀ q, pieceOf s = some q → q.st.number ≤ st.number + 1
structure JInv (c n : Nat) (V : List (List UInt8)) (R : List (Stamp × List UInt8)) (l : LG) : Prop where
  len : V.length = n
  recs : recordsOf n none V = R
  f : l.f = 0
  n_ : l.n = n
  br : l.br = false
  at_ : l.at_ = cntR R
  low : ∀ s ∈ V, ∀ q, pieceOf s = some q → q.st.session ≤ l.ses ∧ q.st.number ≤ l.num ∧ (q.st.session = l.ses → q.st.number < l.num)
  last : ∀ st, lastA none R = some st → st.number + 1 = l.num ∧ st.session ≤ l.ses
  num : l.num ≤ c
  ses : l.ses ≤ c
theorem JDisk.zero {c n : Nat} : JDisk c n (List.replicate n zsec) [] :=
  ⟨by simp, recs_none (zero_none (rep_zero n)), (fun s hs q hq => by rw [rep_zero n s hs, piece_zero] at hq; cases hq), (fun st h => by cases h)⟩
def logOf (n : Nat) (V : List (List UInt8)) : LG := { f := 0, n := n, at_ := cntR (recordsOf n none V), num := numAfter (((newestOf V).2 + 1) % 4294967296) (lastOf (recordsOf n none V)), ses := (newestOf V).1 + 1, br := false }
theorem JDisk.newest {c n : Nat} {V : List (List UInt8)} {R : List (Stamp × List UInt8)} (h : JDisk c n V R) : (newestOf V).1 ≤ c ∧ (newestOf V).2 ≤ c := by
  rw [newestOf_eq]
  exact newFold_le V c c h.cap (0, 0) (Nat.zero_le _) (Nat.zero_le _)
theorem JDisk.open_ {c n : Nat} {V : List (List UInt8)} {R : List (Stamp × List UInt8)} (h : JDisk c n V R) (hc : c + 1 < 4294967296) : JInv (c + 1) n V R (logOf n V) := by
  have hn := h.newest
  have hge := newFold_ge V (0, 0)
  rw [← newestOf_eq] at hge
  have hnum : (logOf n V).num = numAfter ((newestOf V).2 + 1) (lastA none R) := by
    unfold logOf
    simp only
    rw [h.recs, lastA_of, Option.or_none, Nat.mod_eq_of_lt (by omega)]
  have hlast : ∀ st, lastA none R = some st → st.session ≤ (newestOf V).1 ∧ st.number ≤ c := fun st hst => by
    obtain ⟨x, hx, rfl⟩ := lastA_mem R st hst
    rw [← h.recs] at hx
    obtain ⟨s, hs, q, hq, he⟩ := recs_piece n none V x hx
    rw [← he]
    exact ⟨(hge.2.2 s hs q hq).1, (h.cap s hs q hq).2⟩
  have hnum2 : ∀ st, lastA none R = some st → (logOf n V).num = st.number + 1 := fun st hst => by
    have := (hlast st hst).2
    rw [hnum, hst]
    show (st.number + 1) % 4294967296 = _
    rw [Nat.mod_eq_of_lt (by omega)]
  have hnum0 : lastA none R = none → (logOf n V).num = (newestOf V).2 + 1 := fun h0 => by rw [hnum, h0]; rfl
  refine ⟨h.len, h.recs, rfl, rfl, rfl, by show cntR (recordsOf n none V) = _; rw [h.recs], fun s hs q hq => ?_, fun st hst => ?_, ?_, by show (newestOf V).1 + 1 ≤ _; omega⟩
  · have h1 := hge.2.2 s hs q hq
    refine ⟨by show _ ≤ (newestOf V).1 + 1; omega, ?_, fun e => by have e : q.st.session = (newestOf V).1 + 1 := e; omega⟩
    cases hl : lastA none R with
    | none => rw [hnum0 hl]; omega
    | some st => rw [hnum2 st hl]; exact h.top st hl s hs q hq
  · exact ⟨(hnum2 st hst).symm, by show _ ≤ (newestOf V).1 + 1; have := (hlast st hst).1; omega⟩
  · cases hl : lastA none R with
    | none => rw [hnum0 hl]; omega
    | some st => rw [hnum2 st hl]; have := (hlast st hl).2; omega
section
variable {c n : Nat} {V : List (List UInt8)} {R : List (Stamp × List UInt8)} {l : LG} {b : List UInt8}
end
end Go.Proofs.YtpjbdpepofnleaaGreat
namespace Go.Proofs.YtpjbdpepofnleaaGreat
section
variable {Q : Nat → Prop} {S0 : List (List UInt8)} {D : DM}
end
end Go.Proofs.YtpjbdpepofnleaaGreat
end
section
namespace Go.Proofs.YtpjbdpepofnleaaGreat
structure PS where
  D : DM
  l : LG
  n : Nat
  late : PgM
  held : PgM
  br : Bool
def homeP (S : List (List UInt8)) (log k : Nat) : List UInt8 := ((S.drop (log + 8 * k)).take 8).flatten
def over (C : Nat → List UInt8) (m : PgM) (k : Nat) : List UInt8 := (getP m k).getD (C k)
theorem chop_flat (b : List UInt8) : ∀ m, ((List.range m).map fun i => (b.drop (64 * i)).take 64).flatten = b.take (64 * m)
  | 0 => by simp
  | m + 1 => by
    rw [List.range_succ, List.map_append, List.flatten_append, chop_flat b m]
    simp only [List.map_cons, List.map_nil, List.flatten_cons, List.flatten_nil, List.append_nil]
    rw [show 64 * (m + 1) = 64 * m + 64 by omega, List.take_add]
theorem home_of {S : List (List UInt8)} {log k : Nat} {b : List UInt8} (hb : b.length = 512) (h : ∀ i, i < 8 → S[log + 8 * k + i]? = some ((b.drop (64 * i)).take 64)) : homeP S log k = b := by
  have e : (S.drop (log + 8 * k)).take 8 = (List.range 8).map fun i => (b.drop (64 * i)).take 64 := by
    apply List.ext_getElem?
    intro i
    rw [List.getElem?_take]
    by_cases hi : i < 8
    · rw [if_pos hi, List.getElem?_drop, h i hi, List.getElem?_map, List.getElem?_range hi]
      rfl
    · rw [if_neg hi, List.getElem?_eq_none (by simp; omega)]
  unfold homeP
  rw [e, chop_flat, List.take_of_length_le (by omega)]
structure PDisk (c n log : Nat) (D : DM) (C : Nat → List UInt8) : Prop where
  dead : D.dead = false
  pend : D.P = []
  ok : D.ok
  fit : log + 8 * n ≤ D.S.length
  n1 : 1 ≤ n
  n2 : n ≤ 4096
  log1 : 1 ≤ log
  recs : ∃ R H, JDisk c log (D.S.take log) R ∧ takeAll n (R.map (·.2)) [] = some H ∧ (H = [] → cntR R ≤ 1) ∧ ∀ k, k < n → C k = (getP H k).getD (homeP D.S log k)
structure PInv (c : Nat) (s : PS) (C : Nat → List UInt8) : Prop where
  dead : s.D.dead = false
  pend : s.D.P = []
  ok : s.D.ok
  fit : s.l.n + 8 * s.n ≤ s.D.S.length
  n1 : 1 ≤ s.n
  n2 : s.n ≤ 4096
  log1 : 1 ≤ s.l.n
  recs : ∃ R, JInv c s.l.n (s.D.S.take s.l.n) R s.l ∧ takeAll s.n (R.map (·.2)) [] = some s.held ∧ (s.held = [] → s.l.at_ ≤ 1)
  late : PgOk s.n s.late
  br : s.br = false
  cont : ∀ k, k < s.n → C k = (getP s.held k).getD (homeP s.D.S s.l.n k)
def openP (n log : Nat) (D : DM) (H : PgM) : PS := { D := D, l := logOf log (D.S.take log), n := n, late := [], held := H, br := false }
theorem PDisk.open_ {c n log : Nat} {D : DM} {C : Nat → List UInt8} (h : PDisk c n log D C) (hc : c + 1 < 4294967296) :
    ∃ H, takeAll n ((recordsOf log none (D.S.take log)).map (·.2)) [] = some H ∧ PInv (c + 1) (openP n log D H) C ∧ (newestOf (D.S.take log)).1 < 4294967295 := by
  obtain ⟨R, H, h1, h2, h3, h4⟩ := h.recs
  have hj := h1.open_ hc
  refine ⟨H, by rw [h1.recs]; exact h2, ⟨h.dead, h.pend, h.ok, h.fit, h.n1, h.n2, h.log1, ⟨R, hj, h2, fun e => ?_⟩, PgOk.nil _, rfl, h4⟩, by have := h1.newest; omega⟩
  show (logOf log (D.S.take log)).at_ ≤ 1
  rw [hj.at_]
  exact h3 e
theorem PDisk.new {n log N : Nat} (h1 : 1 ≤ n) (h2 : n ≤ 4096) (h3 : 1 ≤ log) (hfit : log + 8 * n ≤ N) (hN : N ≤ 65536) : PDisk 0 n log (DM.new N) (fun _ => List.replicate 512 0) := by
  have hS : (DM.new N).S = List.replicate N zsec := rfl
  have hl : (DM.new N).S.length = N := by rw [hS]; simp
  refine ⟨rfl, rfl, DM.ok_new N (by omega) hN, by rw [hl]; exact hfit, h1, h2, h3, ⟨[], [], ?_, rfl, fun _ => by simp [cntR], fun k hk => ?_⟩⟩
  · rw [hS, List.take_replicate, Nat.min_eq_left (by omega)]
    exact JDisk.zero
  · rw [getP_nil]
    symm
    refine home_of List.length_replicate fun i hi => ?_
    rw [hS, List.getElem?_replicate, if_pos (by omega), List.drop_replicate, List.take_replicate, show min 64 (512 - 64 * i) = 64 by omega]
    rfl
end Go.Proofs.YtpjbdpepofnleaaGreat
namespace Go.Proofs.YtpjbdpepofnleaaGreat
theorem st_of {D : DM} {log : Nat} (hd : D.dead = false) (hp : D.P = []) : St D 0 (D.S.take log) := ⟨hd, hp, [], D.S.drop log, by rw [List.nil_append, List.take_append_drop], rfl⟩
section
variable {c : Nat} {s : PS} {C : Nat → List UInt8}
end
end Go.Proofs.YtpjbdpepofnleaaGreat
end
section
namespace Go.Proofs.YtpjbdpepofnleaaGreat
open Go.RowKit Go.ChangeMaps Go.MapKept
open Go.WideElems (Fit rd rg)
def pageV (b : List UInt8) : Value := .agg (bcells b).toArray
theorem bcells_inj : ∀ {a b : List UInt8}, bcells a = bcells b → a = b
  | [], [], _ => rfl
  | [], _ :: _, h => by simp [bcells] at h
  | _ :: _, [], h => by simp [bcells] at h
  | x :: a, y :: b, h => by
    simp only [bcells, List.map_cons, List.cons.injEq] at h
    obtain ⟨h1, h2⟩ := h
    unfold B8 at h1
    injection h1 with _ h1
    rw [show x = y from UInt8.toNat.inj (by omega), bcells_inj h2]
theorem pageV_inj {a b : List UInt8} (h : pageV a = pageV b) : a = b := by
  unfold pageV at h
  injection h with h
  exact bcells_inj (List.toArray_inj h)
open Classical in
/-- How a page reads in a map. -/
noncomputable def pgR (v : Value) : Option (DataW Unit × List MemPlace) := if h : ∃ b, v = pageV b ∧ b.length = 512 then some (.lit (.string h.choose), []) else none
theorem pgR_mk {b : List UInt8} (hb : b.length = 512) : pgR (pageV b) = some (.lit (.string b), []) := by
  have h : ∃ b', pageV b = pageV b' ∧ b'.length = 512 := ⟨b, rfl, hb⟩
  unfold pgR
  rw [dif_pos h, ← pageV_inj h.choose_spec.1]
theorem pgR_inv {v : Value} {z : DataW Unit × List MemPlace} (h : pgR v = some z) : ∃ b, v = pageV b ∧ b.length = 512 ∧ z = (.lit (.string b), []) := by
  unfold pgR at h
  split at h
  · rename_i h1
    cases h
    exact ⟨_, h1.choose_spec.1, h1.choose_spec.2, rfl⟩
  · cases h
def entD (p : Nat × List UInt8) : Lit × DataW Unit := (.int .i64 (p.1 : Int), .lit (.string p.2))
def toD (m : PgM) : DataW Unit := .map (m.map entD)
theorem insert_D (x : Nat × List UInt8) : ∀ m : PgM, DataW.insert (entD x) (m.map entD) = (insP x m).map entD
  | [] => rfl
  | y :: m => by
    have e : (entD x).1.before (entD y).1 = decide (x.1 < y.1) := by
      show decide ((x.1 : Int) < (y.1 : Int)) = _
      rw [Bool.eq_iff_iff, decide_eq_true_iff, decide_eq_true_iff]
      omega
    rw [List.map_cons, DataW.insert, e, insP]
    by_cases h : x.1 < y.1
    · rw [if_pos (by simpa using h), if_pos h]; rfl
    · rw [if_neg (by simpa using h), if_neg h, List.map_cons, insert_D x m]
theorem same_D (p : Nat × List UInt8) (k : Nat) : (entD p).1.sameKey (.int .i64 (k : Int)) = decide (p.1 = k) := by
  show decide (IntKind.i64 = IntKind.i64 ∧ (p.1 : Int) = (k : Int)) = _
  rw [Bool.eq_iff_iff, decide_eq_true_iff, decide_eq_true_iff]
  exact ⟨fun h => by have := h.2; omega, fun h => ⟨rfl, by omega⟩⟩
theorem put_D (m : PgM) (k : Nat) (b : List UInt8) : (toD m).put (.int .i64 (k : Int)) (.lit (.string b)) = toD (putP m k b) := by
  unfold toD putP DataW.put
  simp only
  rw [List.filter_map, show ((fun p => !p.1.sameKey (.int .i64 (k : Int))) ∘ entD) = (fun p : Nat × List UInt8 => !decide (p.1 = k)) from funext fun p => by rw [Function.comp, same_D]]
  exact congrArg _ (insert_D (k, b) _)
theorem find_D (k : Nat) : ∀ m : PgM, (m.map entD).find? (fun p => p.1.sameKey (.int .i64 (k : Int))) = (m.find? fun p => decide (p.1 = k)).map entD
  | [] => rfl
  | p :: m => by
    rw [List.map_cons, List.find?_cons, List.find?_cons, same_D, find_D k m]
    cases decide (p.1 = k) <;> rfl
theorem at_D (m : PgM) (k : Nat) (z : DataW Unit) : (toD m).atKey (.int .i64 (k : Int)) z = match getP m k with | some b => .lit (.string b) | none => z := by
  unfold toD DataW.atKey getP
  simp only
  rw [find_D]
  cases m.find? fun p => decide (p.1 = k) <;> rfl
theorem has_D (m : PgM) (k : Nat) : Maps.has (toD m) (.int .i64 (k : Int)) = (getP m k).isSome := by
  unfold toD
  rw [Maps.has_eq, List.any_map, show ((fun p => p.1.sameKey (.int .i64 (k : Int))) ∘ entD) = (fun p : Nat × List UInt8 => decide (p.1 = k)) from funext fun p => same_D p k]
  unfold getP
  induction m with
  | nil => rfl
  | cons p m ih =>
    rw [List.any_cons, List.find?_cons]
    cases h : decide (p.1 = k)
    · simpa using ih
    · simp
theorem size_D (m : PgM) : Maps.size (toD m) = m.length := by unfold toD; rw [Maps.size_eq, List.length_map]
noncomputable def MapAt (w : World) (b : Nat) (m : PgM) : Prop := w.ownsMap Tryz.prog 3 pgR b m.length (toD m)
section
variable {w w' : World} {b : Nat} {m : PgM}
theorem MapAt.of {n : Nat} (h : w.ownsMap Tryz.prog 3 pgR b n (toD m)) : MapAt w b m := by
  obtain ⟨es, clock, hb, F, _, hD⟩ := h
  refine ⟨es, clock, hb, F, ?_, hD⟩
  have := congrArg Maps.size hD
  rw [size_D, Maps.size_eq, length_read] at this
  omega
theorem MapAt.lt (h : MapAt w b m) : b < w.heap.size := World.ownsMap.lt h
theorem MapAt.fr {S : List Nat} (h : MapAt w b m) (hf : Fr S w w') (hb : b ∉ S) : MapAt w' b m := by
  have hlt := h.lt
  obtain ⟨es, clock, h1, h2⟩ := h
  exact ⟨es, clock, by rw [hf.block b hlt hb]; exact h1, h2⟩
theorem MapAt.ne_blk (h : MapAt w b m) {g : Nat} {t : TypeId} {cs : List Value} (hg : Blk w g t cs) : b ≠ g := by
  rintro rfl
  obtain ⟨es, clock, h1, _⟩ := h
  unfold Blk at hg
  rw [h1] at hg
  injection hg with hg
  cases hg
theorem MapAt.new (w : World) : MapAt (w.alloc (.map #[] 0)) w.heap.size [] := World.ownsMap_made w Tryz.prog 3 pgR
def zpage : List UInt8 := List.replicate 512 0
theorem zpage_len : zpage.length = 512 := List.length_replicate
theorem int_K : Maps.Keyed Tryz.prog 3 := Maps.int_keyed Tryz.underlying3
theorem key_i64 {k : Nat} (hk : k ≤ 9223372036854775807) : keyOf Tryz.prog 3 (.int .i64 (k : Int)) = some (.int .i64 (k : Int)) := Maps.keyOf_int_mk Tryz.underlying3 (by
  have h := wrap64_wf (k : Int)
  rwa [show wrap64 (k : Int) = (k : Int) by unfold wrap64; omega] at h)
theorem page_of {m : PgM} {k : Nat} {c : List UInt8} {ps : List MemPlace} (h : some ((toD m).atKey (.int .i64 (k : Int)) (.lit (.string zpage)), ps) = some (DataW.lit (.string c), [])) : c = (getP m k).getD zpage := by
  rw [at_D] at h
  injection h with h
  injection h with h _
  cases hg : getP m k with
  | none =>
    rw [hg] at h
    injection h with h
    injection h with h
    rw [Option.getD_none]
    exact h.symm
  | some x =>
    rw [hg] at h
    injection h with h
    injection h with h
    rw [Option.getD_some]
    exact h.symm
theorem zero_page (w : World) : (zeroValue 123).run Tryz.prog w = .ok (pageV zpage) w := by kernel_rfl
theorem MapAt.look_ok (h : MapAt w b m) {k : Nat} (hk : k ≤ 9223372036854775807) : (Instr.lookup 116 (.map (some b)) (.int .i64 (k : Int)) true).run Tryz.prog w = .ok (.tuple #[pageV ((getP m k).getD zpage), .bool (getP m k).isSome]) w := by
  obtain ⟨v, ps, h1, h2⟩ := World.ownsMap.look_ok h int_K Tryz.underlying116 (zero_page w) (pgR_mk zpage_len) (key_i64 hk)
  rw [h1, has_D]
  obtain ⟨c, rfl, _, h3⟩ := pgR_inv h2
  rw [page_of (congrArg some h3)]
theorem MapAt.store (h : MapAt w b m) {k : Nat} (hk : k ≤ 9223372036854775807) (hm : m.length < 9223372036854775807) {x : List UInt8} (hx : x.length = 512) :
    ∃ w', (Instr.mapUpdate 116 (.map (some b)) (.int .i64 (k : Int)) (pageV x)).run Tryz.prog w = .ok () w' ∧ MapAt w' b (putP m k x) ∧ Fr [b] w w' ∧ w'.heap.size = w.heap.size := by
  obtain ⟨w', h1, h2, h3⟩ := World.ownsMap.store h int_K Tryz.underlying116 (by unfold maxLen; exact hm) (key_i64 hk) (pgR_mk hx)
  rw [put_D] at h2
  refine ⟨w', h1, MapAt.of h2, (Fr.refl [b] w).grown h3.grown (fun g hg => by cases hg; exact .inl (by simp)), ?_⟩
  obtain ⟨es, clock, es', clock', _, rfl⟩ := h3
  simp [setBlock]
end
end Go.Proofs.YtpjbdpepofnleaaGreat
end
section
namespace Go.Proofs
open Go.Shelf
def Tryz.sortedA_ren : Go.Shelf.Ren := ⟨fun | 6 => 64 | 8 => 96 | 9 => 97 | 11 => 119 | 13 => 121 | 12 => 120 | 23 => 143 | 24 => 144 | 14 => 134 | 15 => 135 | 16 => 136 | 17 => 137 | 18 => 138 | 19 => 139 | 20 => 140 | 21 => 141 | 22 => 142 | 25 => 147 | 26 => 148 | 27 => 149 | 28 => 150 | 29 => 151 | 30 => 152 | 31 => 153 | n => n, fun | 26 => 3 | 28 => 139 | 24 => 136 | 0 => 0 | 3 => 3 | 37 => 111 | 48 => 158 | 50 => 214 | 4 => 4 | 40 => 207 | 39 => 206 | 45 => 100 | 5 => 5 | 9 => 9 | 51 => 216 | 55 => 220 | 57 => 222 | 58 => 223 | 33 => 150 | n => n, fun | n => n⟩
theorem Tryz.sortedA : Go.Proofs.SlLaysZI.n6 Tryz.prog Tryz.sortedA_ren := {
  mixed := by kernel_rfl
  f6 := ⟨Tryz.f64.name, by decide, Tryz.func64.trans (congrArg some (by kernel_rfl))⟩
  f8 := ⟨Tryz.f96.name, by decide, Tryz.func96.trans (congrArg some (by kernel_rfl))⟩
  f11 := ⟨Tryz.f119.name, by decide, Tryz.func119.trans (congrArg some (by kernel_rfl))⟩
  t0 := Tryz.underlying0
  a0 := Tryz.isAgg0
  z0 := Tryz.sizeOf0
  v0 := Tryz.zeroValue0
  t24 := Tryz.underlying136
  a24 := Tryz.isAgg136
  z24 := Tryz.sizeOf136
  v24 := Tryz.zeroValue136
  t26 := Tryz.underlying3
  a26 := Tryz.isAgg3
  z26 := Tryz.sizeOf3
  v26 := Tryz.zeroValue3
  t28 := Tryz.underlying139
  a28 := Tryz.isAgg139
  z28 := Tryz.sizeOf139
  v28 := Tryz.zeroValue139
  i26 := by kernel_rfl }
def Tryz.sortA_ren : Go.Shelf.Ren := ⟨fun | 5 => 97 | 8 => 121 | 7 => 120 | 19 => 143 | 20 => 144 | 10 => 134 | 11 => 135 | 12 => 136 | 13 => 137 | 14 => 138 | 15 => 139 | 16 => 140 | 17 => 141 | 18 => 142 | 30 => 147 | 31 => 148 | 32 => 149 | 33 => 150 | 34 => 151 | 35 => 152 | 40 => 153 | n => n, fun | 23 => 136 | 25 => 3 | 3 => 3 | 32 => 111 | 22 => 136 | 0 => 0 | 44 => 158 | 46 => 214 | 4 => 4 | 36 => 207 | 35 => 206 | 41 => 100 | 5 => 5 | 9 => 9 | 53 => 216 | 57 => 220 | 63 => 222 | 64 => 223 | n => n, fun | n => n⟩
theorem Tryz.sortA : Go.Proofs.SlLaysM.n5 Tryz.prog Tryz.sortA_ren := {
  mixed := by kernel_rfl
  f5 := ⟨Tryz.f97.name, by decide, Tryz.func97.trans (congrArg some (by kernel_rfl))⟩
  f7 := ⟨Tryz.f120.name, by decide, Tryz.func120.trans (congrArg some (by kernel_rfl))⟩
  f8 := Tryz.func121.trans (congrArg some (by kernel_rfl))
  f10 := ⟨Tryz.f134.name, by decide, Tryz.func134.trans (congrArg some (by kernel_rfl))⟩
  f11 := ⟨Tryz.f135.name, by decide, Tryz.func135.trans (congrArg some (by kernel_rfl))⟩
  f12 := ⟨Tryz.f136.name, by decide, Tryz.func136.trans (congrArg some (by kernel_rfl))⟩
  f13 := ⟨Tryz.f137.name, by decide, Tryz.func137.trans (congrArg some (by kernel_rfl))⟩
  f14 := ⟨Tryz.f138.name, by decide, Tryz.func138.trans (congrArg some (by kernel_rfl))⟩
  f15 := ⟨Tryz.f139.name, by decide, Tryz.func139.trans (congrArg some (by kernel_rfl))⟩
  f16 := ⟨Tryz.f140.name, by decide, Tryz.func140.trans (congrArg some (by kernel_rfl))⟩
  f17 := ⟨Tryz.f141.name, by decide, Tryz.func141.trans (congrArg some (by kernel_rfl))⟩
  f18 := ⟨Tryz.f142.name, by decide, Tryz.func142.trans (congrArg some (by kernel_rfl))⟩
  f19 := Tryz.func143.trans (congrArg some (by kernel_rfl))
  f20 := Tryz.func144.trans (congrArg some (by kernel_rfl))
  f30 := ⟨Tryz.f147.name, by decide, Tryz.func147.trans (congrArg some (by kernel_rfl))⟩
  f31 := Tryz.func148.trans (congrArg some (by kernel_rfl))
  f32 := Tryz.func149.trans (congrArg some (by kernel_rfl))
  f33 := ⟨Tryz.f150.name, by decide, Tryz.func150.trans (congrArg some (by kernel_rfl))⟩
  f34 := ⟨Tryz.f151.name, by decide, Tryz.func151.trans (congrArg some (by kernel_rfl))⟩
  f35 := ⟨Tryz.f152.name, by decide, Tryz.func152.trans (congrArg some (by kernel_rfl))⟩
  f40 := ⟨Tryz.f153.name, by decide, Tryz.func153.trans (congrArg some (by kernel_rfl))⟩
  t0 := Tryz.underlying0
  a0 := Tryz.isAgg0
  z0 := Tryz.sizeOf0
  v0 := Tryz.zeroValue0
  t3 := Tryz.underlying3
  a3 := Tryz.isAgg3
  z3 := Tryz.sizeOf3
  v3 := Tryz.zeroValue3
  t4 := Tryz.underlying4
  a4 := Tryz.isAgg4
  z4 := Tryz.sizeOf4
  v4 := Tryz.zeroValue4
  t5 := Tryz.underlying5
  a5 := Tryz.isAgg5
  z5 := Tryz.sizeOf5
  v5 := Tryz.zeroValue5
  t9 := Tryz.underlying9
  a9 := Tryz.isAgg9
  z9 := Tryz.sizeOf9
  v9 := Tryz.zeroValue9
  t22 := Tryz.underlying136
  a22 := Tryz.isAgg136
  z22 := Tryz.sizeOf136
  v22 := Tryz.zeroValue136
  t23 := Tryz.underlying136
  a23 := Tryz.isAgg136
  z23 := Tryz.sizeOf136
  v23 := Tryz.zeroValue136
  t25 := Tryz.underlying3
  a25 := Tryz.isAgg3
  z25 := Tryz.sizeOf3
  v25 := Tryz.zeroValue3
  t32 := Tryz.underlying111
  a32 := Tryz.isAgg111
  z32 := Tryz.sizeOf111
  v32 := Tryz.zeroValue111
  t35 := Tryz.underlying206
  a35 := Tryz.isAgg206
  z35 := Tryz.sizeOf206
  v35 := Tryz.zeroValue206
  t36 := Tryz.underlying207
  a36 := Tryz.isAgg207
  z36 := Tryz.sizeOf207
  v36 := Tryz.zeroValue207
  t41 := Tryz.underlying100
  a41 := Tryz.isAgg100
  z41 := Tryz.sizeOf100
  v41 := Tryz.zeroValue100
  t44 := Tryz.underlying158
  a44 := Tryz.isAgg158
  z44 := Tryz.sizeOf158
  v44 := Tryz.zeroValue158
  t46 := Tryz.underlying214
  a46 := Tryz.isAgg214
  z46 := Tryz.sizeOf214
  v46 := Tryz.zeroValue214
  t53 := Tryz.underlying216
  a53 := Tryz.isAgg216
  z53 := Tryz.sizeOf216
  v53 := Tryz.zeroValue216
  t57 := Tryz.underlying220
  a57 := Tryz.isAgg220
  z57 := Tryz.sizeOf220
  v57 := Tryz.zeroValue220
  t63 := Tryz.underlying222
  a63 := Tryz.isAgg222
  z63 := Tryz.sizeOf222
  v63 := Tryz.zeroValue222
  t64 := Tryz.underlying223
  a64 := Tryz.isAgg223
  z64 := Tryz.sizeOf223
  v64 := Tryz.zeroValue223 }
end Go.Proofs
end
section
namespace Go.Proofs.YtpjbdpepofnleaaGreat
open Go.RowKit Go.Maps Go.Sort Go.Shelf
theorem sortsA (m : Nat) : AnyZI.SortsIn Tryz.prog Tryz.sortedA_ren Fence.wide m :=
  ⟨fun blk off cap ss W hH hblk hsz => callsIn_wide.2 (AnyM.slices_Sort_int Tryz.sortA blk off cap ss W hH hblk hsz),
   fun p cap W => callsIn_wide.2 (AnyM.slices_Sort_int_none Tryz.sortA p cap W)⟩
def kcells (m : PgM) : List Value := m.map fun p => .int .i64 (p.1 : Int)
end Go.Proofs.YtpjbdpepofnleaaGreat
end
section
namespace Go.Proofs.YtpjbdpepofnleaaGreat
open Go.RowKit
section
variable {P : Program} {o : Oper} {a : Act} {w : World} {K : Act → World → Prop} {Q : Exit → Act → World → Prop}
end
theorem calls_post {P : Program} {f : FuncId} {args : Array Value} {w : World} {R0 : Ending → World → Prop} (h : ∀ R : Ending → World → Prop, Hid (∀ e w', R0 e w' → R e w') → Calls P f args w R) : Calls P f args w R0 := h R0 (Lib.hid fun _ _ h => h)
theorem ret_blk {P : Program} {fn : Func} {R : Ending → World → Prop} {tmps : Array Value} {w : World} {k : Tmp} {t t' : TypeId} {g : Nat} {cs : List Value} {d : TypeDesc} (hr : fn.results = #[.cell k t]) (ha : tmps.getD k undef = .pointer (some ⟨g, 0, none⟩)) (hb : Blk w g t' cs)
    (hu : P.underlying t = some d) (hd : d.isRow = true) (hi : (P.info? t).map (·.size) = some cs.length) (h : R (.returned (.agg cs.toArray)) w) : bodyPost P fn R .ret ⟨tmps, []⟩ w := by
  refine bodyPost_ret (v := .agg cs.toArray) ?_ rfl h
  have hl := run_loadVar_row (P := P) w g t' t cs.toArray (0, 0) d hb hu (by cases d <;> simp_all) (by simpa using hi)
  have ha' : tmps[k]?.getD undef = .pointer (some ⟨g, 0, none⟩) := by simpa using ha
  simp [results, hr, ha', hl, asAddr]
def SlAt (w : World) (v : Value) (n : Nat) (xs : List Value) (g : Nat) : Prop :=
  ∃ A c off, v = .slice A n c ∧ n ≤ c ∧ (0 < n → A = some ⟨g, off, none⟩ ∧ ∀ (j : Nat) (u : Value), xs[j]? = some u → w.cell? ⟨g, off + j, none⟩ = some u)
theorem SlAt.fr {S : List Nat} {w w' : World} {v : Value} {n : Nat} {xs : List Value} {g : Nat} (h : SlAt w v n xs g) (hf : Fr S w w') (hg : 0 < n → g ∉ S) : SlAt w' v n xs g := by
  obtain ⟨A, c, off, hv, hc, hb⟩ := h
  refine ⟨A, c, off, hv, hc, fun h0 => ⟨(hb h0).1, fun j u hu => ?_⟩⟩
  have h1 := (hb h0).2 j u hu
  rw [hf.cell (World.block_lt_of_cell? w _ h1) (hg h0)]
  exact h1
theorem SlAt.of_own {w : World} {e : TypeId} {size n b : Nat} {v : Value} {xs : List Value} (h : w.ownsRow b e size v n xs) (g0 : Nat) : ∃ g, SlAt w v n xs g ∧ (0 < n → v.ownBlock = some g) ∧ (n = 0 → g = g0) := by
  obtain ⟨A, c, rfl, hc, _⟩ := own_shape h
  by_cases h0 : 0 < n
  · obtain ⟨g, rfl, hg⟩ := own_cell h h0
    exact ⟨g, ⟨_, c, 0, rfl, hc, fun _ => ⟨rfl, fun j u hj => by rw [Nat.zero_add]; exact hg j u hj⟩⟩, fun _ => rfl, fun h1 => by omega⟩
  · exact ⟨g0, ⟨A, c, 0, rfl, hc, fun h => absurd h h0⟩, fun h => absurd h h0, fun _ => rfl⟩
end Go.Proofs.YtpjbdpepofnleaaGreat
end
section
namespace Go.Proofs.YtpjbdpepofnleaaGreat
open Go.RowKit
def pgCells (d lg bl bh : Nat) (s : PS) : List Value := [.pointer (some ⟨d, 0, none⟩), .pointer (some ⟨lg, 0, none⟩), .int .i64 (s.n : Int), .int .i64 (s.l.n : Int), .map (some bl), .map (some bh), .bool s.br]
structure PgrAt (w : World) (g d lg bl bh : Nat) (s : PS) (fp : List Nat) : Prop where
  blk : Blk w g 118 (pgCells d lg bl bh s)
  jn : Jn w lg d s.l s.D fp
  late : MapAt w bl s.late
  held : MapAt w bh s.held
  ne : bl ≠ bh
  gout : g ∉ fp
  lout : bl ∉ fp
  hout : bh ∉ fp
  lok : PgOk s.n s.late
  hok : PgOk s.n s.held
  few : s.n ≤ 4096
def pfp (g lg bl bh : Nat) (fp : List Nat) : List Nat := g :: lg :: bl :: bh :: fp
def PStep (w w' : World) (g d lg bl bh : Nat) (s : PS) (fp : List Nat) : Prop := ∃ fp', PgrAt w' g d lg bl bh s fp' ∧ Fr (pfp g lg bl bh fp) w w' ∧ ∀ k ∈ fp', k ∈ fp ∨ w.heap.size ≤ k
section
variable {w w' : World} {g d lg bl bh : Nat} {s : PS} {fp : List Nat}
theorem PgrAt.ne2 (h : PgrAt w g d lg bl bh s fp) : bl ≠ g ∧ bh ≠ g ∧ bl ≠ lg ∧ bh ≠ lg := ⟨h.late.ne_blk h.blk, h.held.ne_blk h.blk, h.late.ne_blk h.jn.log, h.held.ne_blk h.jn.log⟩
theorem PgrAt.fr {S : List Nat} (h : PgrAt w g d lg bl bh s fp) (hf : Fr S w w') (hS : ∀ k ∈ pfp g lg bl bh fp, k ∉ S) : PgrAt w' g d lg bl bh s fp := by
  have h1 := hS g (by simp [pfp]); have h2 := hS lg (by simp [pfp]); have h3 := hS bl (by simp [pfp]); have h4 := hS bh (by simp [pfp])
  exact ⟨h.blk.fr hf h1, h.jn.fr hf h2 (fun k hk => hS k (by simp [pfp, hk])), h.late.fr hf h3, h.held.fr hf h4, h.ne, h.gout, h.lout, h.hout, h.lok, h.hok, h.few⟩
theorem PgrAt.lt (h : PgrAt w g d lg bl bh s fp) : ∀ k ∈ pfp g lg bl bh fp, k < w.heap.size := by
  intro k hk
  simp only [pfp, List.mem_cons] at hk
  rcases hk with rfl | rfl | rfl | rfl | hk
  · exact h.blk.lt
  · exact h.jn.log.lt
  · exact h.late.lt
  · exact h.held.lt
  · exact h.jn.disk.lt k hk
theorem PStep.same (h : PgrAt w g d lg bl bh s fp) : PStep w w g d lg bl bh s fp := ⟨fp, h, Fr.refl _ _, fun _ hk => .inl hk⟩
theorem PStep.comp {w1 w2 : World} {s2 : PS} {fp1 : List Nat} (hf : Fr (pfp g lg bl bh fp) w w1) (hn : ∀ k ∈ fp1, k ∈ fp ∨ w.heap.size ≤ k) (h2 : PStep w1 w2 g d lg bl bh s2 fp1) : PStep w w2 g d lg bl bh s2 fp := by
  obtain ⟨fp2, h3, h4, h5⟩ := h2
  have hz := hf.size
  refine ⟨fp2, h3, hf.trans h4 (fun x hx => ?_), fun k hk => ?_⟩
  · simp only [pfp, List.mem_cons] at hx ⊢
    rcases hx with rfl | rfl | rfl | rfl | hx
    · simp
    · simp
    · simp
    · simp
    · rcases hn x hx with h | h
      · simp [h]
      · exact .inr h
  · rcases h5 k hk with h | h
    · exact hn k h
    · exact .inr (by omega)
theorem PgrAt.late_ {m : PgM} (h : PgrAt w g d lg bl bh s fp) (hm : MapAt w' bl m) (hf : Fr [bl] w w') (hok : PgOk s.n m) : PgrAt w' g d lg bl bh { s with late := m } fp := by
  have h2 := h.ne2
  exact ⟨h.blk.fr hf (by simp only [List.mem_singleton]; exact fun e => h2.1 e.symm), h.jn.fr hf (by simp only [List.mem_singleton]; exact fun e => h2.2.2.1 e.symm) (fun k hk => by simp only [List.mem_singleton]; exact fun e => h.lout (e ▸ hk)), hm, h.held.fr hf (by simp only [List.mem_singleton]; exact fun e => h.ne e.symm), h.ne, h.gout, h.lout, h.hout, hok, h.hok, h.few⟩
theorem PgrAt.held_ {m : PgM} (h : PgrAt w g d lg bl bh s fp) (hm : MapAt w' bh m) (hf : Fr [bh] w w') (hok : PgOk s.n m) : PgrAt w' g d lg bl bh { s with held := m } fp := by
  have h2 := h.ne2
  exact ⟨h.blk.fr hf (by simp only [List.mem_singleton]; exact fun e => h2.2.1 e.symm), h.jn.fr hf (by simp only [List.mem_singleton]; exact fun e => h2.2.2.2 e.symm) (fun k hk => by simp only [List.mem_singleton]; exact fun e => h.hout (e ▸ hk)), h.late.fr hf (by simp only [List.mem_singleton]; exact h.ne), hm, h.ne, h.gout, h.lout, h.hout, h.lok, hok, h.few⟩
end
section
variable {w : World} {g d lg bl bh : Nat} {s : PS} {fp : List Nat}
theorem gone_P (h : PgrAt w g d lg bl bh s fp) : Calls Tryz.prog 50 #[.pointer (some ⟨g, 0, none⟩)] w fun e w' => e = .returned (.bool s.br) ∧ w = w' := by
  refine calls_post fun R HQ => ?_
  have c0 := h.blk.at_ (i := 0) rfl; have c6 := h.blk.at_ (i := 6) rfl
  clear h
  go_enter Tryz.func50, Tryz.ntmps50
  go_wp2_with fail
  exact HQ.out _ _ ⟨rfl, rfl⟩
theorem pages_P (h : PgrAt w g d lg bl bh s fp) : Calls Tryz.prog 62 #[.pointer (some ⟨g, 0, none⟩)] w fun e w' => e = .returned (.int .i64 (s.n : Int)) ∧ w = w' := by
  refine calls_post fun R HQ => ?_
  have c2 := h.blk.at_ (i := 2) rfl
  clear h
  go_enter Tryz.func62, Tryz.ntmps62
  go_wp2_with fail
  exact HQ.out _ _ ⟨rfl, rfl⟩
end
end Go.Proofs.YtpjbdpepofnleaaGreat
namespace Go.Proofs.YtpjbdpepofnleaaGreat
open Go.RowKit
def pad512 (b : List UInt8) : List UInt8 := b ++ List.replicate (512 - b.length) 0
theorem pad512_len {b : List UInt8} (h : b.length ≤ 512) : (pad512 b).length = 512 := by
  unfold pad512
  rw [List.length_append, List.length_replicate]
  omega
theorem zero_pg : (Tryz.prog.info? 123).map (·.zero) = some (some (pageV zpage)) := by kernel_rfl
theorem size_pg : (Tryz.prog.info? 123).map (·.size) = some 512 := by kernel_rfl
theorem splice_page (b : List UInt8) : splice (bcells zpage) 0 (bcells b) = bcells (pad512 b) := by
  have e : (bcells zpage).drop b.length = bcells (List.replicate (512 - b.length) 0) := by
    rw [zpage, ← bcells_drop, List.drop_replicate]
  unfold splice pad512
  rw [bcells_append, bcells_len, List.take_zero, List.nil_append, Nat.zero_add, e]
def PS.write (s : PS) (k : Nat) (b : List UInt8) : PS := { s with late := putP s.late k (pad512 b) }
set_option maxRecDepth 100000 in
set_option maxHeartbeats 1000000 in
theorem write_P {w : World} {g d lg bl bh : Nat} {s : PS} {fp : List Nat} (h : PgrAt w g d lg bl bh s fp) (hbr : s.br = false) (k : Nat) (hk : k < s.n) (v : Value) (b : List UInt8) (gb : Nat) (hv : BytesAt w v b gb) (hb : b.length ≤ 512) :
    Calls Tryz.prog 66 #[.pointer (some ⟨g, 0, none⟩), .int .i64 (k : Int), v] w fun e w' => e = .returned (.int .i64 0) ∧ PStep w w' g d lg bl bh (s.write k b) fp := by
  refine calls_post fun R HQ => ?_
  obtain ⟨A, c, off, rfl, hc, hbc⟩ := hv
  have c2 := h.blk.at_ (i := 2) rfl
  have hn := h.few
  have HA := Lib.hid h; have HB := Lib.hid hbc
  have hgo := gone_P h
  rw [hbr] at hgo
  have HGO := Lib.hid hgo
  clear h hbc hbr hgo
  go_enter Tryz.func66, Tryz.ntmps66
  go_wp2_with fail
  refine HGO.out.mono ?_
  rintro e w' ⟨rfl, rfl⟩
  have hsrc : ∀ o, BytesAt (w.alloc o) (.slice A b.length c) b gb := fun o => by
    by_cases h0 : 0 < b.length
    · have hB : BytesAt w (.slice A b.length c) b gb := ⟨A, c, off, rfl, hc, HB.out⟩
      exact hB.fr ((Fr.refl [] w).alloc o) (by simp)
    · exact ⟨A, c, off, rfl, hc, fun h => absurd h h0⟩
  have HS := Lib.hid hsrc
  clear hsrc HB
  go_wp2_with (first
    | (with_reducible refine wpList_alloc_z rfl 123 rfl (pageV zpage) (bcells zpage).toArray zero_pg rfl ?_)
    | (with_reducible refine wpList_copy_blk rfl (.tmp 27) (.tmp 28) 23 23 rfl 5 Tryz.underlying23 size_u8 _ _ _ _ _ _ rfl rfl w.heap.size 0 (bcells zpage) 123 (Blk.new w 123 _) (bcells b) ?cn ?cp ?cf (bcells_one _) ?_))
  case cn => rw [bcells_len]; exact (Nat.min_eq_left hb).symm
  case cp =>
    intro h0
    obtain ⟨A', c', off', hv', _, hb'⟩ := HS.out (.cells (bcells zpage).toArray 123)
    injection hv' with hA _ _
    obtain ⟨hA', hcell⟩ := hb' (by rw [bcells_len] at h0; exact h0)
    refine ⟨⟨gb, off', none⟩, by rw [hA, hA'], fun j v hj => ?_⟩
    rw [Addr.add_mid]
    exact hcell j v hj
  case cf => rw [bcells_len, bcells_len, zpage_len]; omega
  intro w3 hb3 hf3 hz3
  rw [splice_page b] at hb3
  have hfw : Fr [] w w3 := ((Fr.refl [] w).alloc (.cells (bcells zpage).toArray 123)).trans hf3 (by simp)
  have hp3 := HA.out.fr hfw (by simp)
  have c4 := hp3.blk.at_ (i := 4) rfl
  have hfr := hb3.free
  obtain ⟨pg, hpg⟩ : ∃ pg, pg = pad512 b := ⟨_, rfl⟩
  have hpl : pg.length = 512 := by rw [hpg]; exact pad512_len hb
  rw [← hpg] at hb3
  have hml : s.late.length < 9223372036854775807 := by have := HA.out.lok.few; omega
  have hst := fun w' (h : MapAt w' bl s.late) => h.store (k := k) (by omega) hml hpl
  have HPG := Lib.hid hpg; have HB3 := Lib.hid hb3; have HFW := Lib.hid hfw; have HP3 := Lib.hid hp3; have HPL := Lib.hid hpl; have HST := Lib.hid hst
  have hq := hb3.lt
  generalize w.heap.size = q at *
  clear hpg hb3 hfw hp3 hpl hst hml hf3 hz3 hfr HS HGO
  go_wp2_with fail
  refine wp_region_K (fun W => W.cell? ⟨g, 4, none⟩ = some (.map (some bl)) ∧ Blk W q 123 (bcells pg)) [0, 1, 2, 3, 4, 5] (by kernel_rfl) ?_
  refine wpAnyK_take (i := 0) (some 30) ?vq1_0 rfl rfl (by kernel_rfl) (fun _ _ _ h => h) ⟨c4, HB3.out⟩ (.inl ⟨rfl, fun W hW => ?yq1_0⟩) ?_
  case yq1_0 => (obtain ⟨c4', hb'⟩ := hW; go_simp) <;> with_reducible rfl
  simp only [nrm]
  refine wpAnyK_take (i := 1) (some 31) ?vq1_1 rfl rfl (by kernel_rfl) (fun _ _ _ h => h) ⟨c4, HB3.out⟩ (.inl ⟨rfl, fun W hW => ?yq1_1⟩) ?_
  case yq1_1 => (obtain ⟨c4', hb'⟩ := hW; go_simp) <;> with_reducible rfl
  simp only [nrm]
  refine wpAnyK_take (i := 2) (some 32) ?vq1_2 rfl rfl (by kernel_rfl) (fun _ _ _ h => h) ⟨c4, HB3.out⟩ (.inl ⟨rfl, fun W hW => ?yq1_2⟩) ?_
  case yq1_2 => (obtain ⟨c4', hb'⟩ := hW; go_simp) <;> with_reducible rfl
  simp only [nrm]
  refine wpAnyK_take (i := 3) (some 33) ?vq1_3 rfl rfl (by kernel_rfl) (fun _ _ _ h => h) ⟨c4, HB3.out⟩ (.inl ⟨rfl, fun W hW => ?yq1_3⟩) ?_
  case yq1_3 => (obtain ⟨c4', hb'⟩ := hW; go_simp) <;> with_reducible rfl
  simp only [nrm]
  refine wpAnyK_take (i := 4) (some 34) ?vq1_4 rfl rfl (by kernel_rfl) (fun _ _ _ h => h) ⟨c4, HB3.out⟩ (.inl ⟨rfl, fun W hW => ?yq1_4⟩) ?_
  case yq1_4 => (obtain ⟨c4', hb'⟩ := hW; go_simp) <;> with_reducible rfl
  simp only [nrm]
  refine wpAnyK_take (i := 5) (some 35) (.agg (bcells pg).toArray) rfl rfl (by kernel_rfl) (fun _ _ _ h => h) ⟨c4, HB3.out⟩ (yieldsIf_load_mid rfl 123 (.tmp 7) rfl q 0 rfl (bcells pg) _ (fun W hW j v hj => by rw [Nat.zero_add]; exact hW.2.at_ hj) Tryz.underlying123 rfl (by rw [bcells_len, HPL.out]; exact size_pg)) ?_
  simp only [nrm]
  refine wpAnyK_step (j := 6) none rfl rfl (by kernel_rfl) rfl fun K hK => ?_
  have hd3 : Fr [] w3 w3.drew := (Fr.refl [] w3).drew
  obtain ⟨w9, hr, hm9, hf9, _⟩ := HST.out w3.drew (HP3.out.late.fr hd3 (by simp))
  unfold pageV at hr
  refine wp_run_skip (w' := w9) (by simp [execOp, Act.eval, hr, Result.andThen]) (hK _ _ (fun h => absurd h (by decide +kernel)) ?_)
  simp only [Act.put]
  refine wpAnyK_done (by kernel_rfl) ?_ _
  rw [HPG.out] at hm9
  have HX : Hid (PStep w w9 g d lg bl bh (s.write k b) fp) := Lib.hid ⟨fp, (HP3.out.fr hd3 (by simp)).late_ hm9 hf9 (HA.out.lok.put hk (pad512_len hb)), ((HFW.out.drew).mono (T := pfp g lg bl bh fp) (by simp)).trans hf9 (fun x hx => .inl (by simp only [List.mem_singleton] at hx; subst hx; simp [pfp])), fun _ hk => .inl hk⟩
  clear hr hm9 hf9 hd3 hK
  go_wp2_with fail
  exact HQ.out _ _ ⟨rfl, HX.out⟩
end Go.Proofs.YtpjbdpepofnleaaGreat
end
section
namespace Go.Proofs.YtpjbdpepofnleaaGreat
open Go.RowKit
theorem build_two (a b : Int) (w : World) : (Instr.buildSlice 23 2 #[(0, .int .u8 a), (1, .int .u8 b)]).run Tryz.prog w = .ok (.slice (some ⟨w.heap.size, 0, none⟩) 2 2) (w.alloc (.cells #[.int .u8 a, .int .u8 b] 5)) := by kernel_rfl
end Go.Proofs.YtpjbdpepofnleaaGreat
namespace Go.Proofs.YtpjbdpepofnleaaGreat
open Go.RowKit
section
variable {w w' : World} {g d lg bl bh : Nat} {s : PS} {fp : List Nat}
end
end Go.Proofs.YtpjbdpepofnleaaGreat
end
section
namespace Go.Proofs.YtpjbdpepofnleaaGreat
open Go.RowKit
structure Calm (s : PS) : Prop where
  dead : s.D.dead = false
  pend : s.D.P = []
  fit : s.l.n + 8 * s.n ≤ s.D.S.length
theorem PInv.calm {c : Nat} {s : PS} {C : Nat → List UInt8} (h : PInv c s C) : Calm s := ⟨h.dead, h.pend, h.fit⟩
def PgAns (w : World) (b : List UInt8) (e : Ending) (w' : World) : Prop := ∃ v gb, e = .returned (.tuple #[v, .int .i64 0]) ∧ BytesAt w' v b gb ∧ w.heap.size ≤ gb ∧ Fr [] w w'
def homeI (S : List (List UInt8)) (log k i : Nat) : List UInt8 := ((S.drop (log + 8 * k)).take i).flatten
theorem homeI_len {S : List (List UInt8)} {log k i : Nat} (hS : ∀ s ∈ S, s.length = 64) (h : log + 8 * k + i ≤ S.length) : (homeI S log k i).length = 64 * i := by
  unfold homeI
  rw [flat_len (fun s hs => hS s (List.mem_of_mem_drop (List.mem_of_mem_take hs))), List.length_take, List.length_drop]
  omega
theorem homeI_succ {S : List (List UInt8)} {log k i : Nat} (h : log + 8 * k + i < S.length) : homeI S log k (i + 1) = homeI S log k i ++ S.getD (log + 8 * k + i) [] := by
  unfold homeI
  rw [List.take_succ_eq_append_getElem (by rw [List.length_drop]; omega), List.flatten_append, List.getElem_drop]
  simp [List.getD, List.getElem?_eq_getElem h]
def HmRel (w : World) (S : List (List UInt8)) (log k : Nat) (v6 v10 : Value) (wr : World) : Prop :=
  ∃ i : Nat, i ≤ 8 ∧ v10 = .int .i64 (i : Int) ∧ wr.ownsRow 0 5 1 v6 (64 * i) (bcells (homeI S log k i)) ∧ (∀ x, v6.ownBlock = some x → w.heap.size ≤ x) ∧ Fr [] w wr
set_option maxRecDepth 100000 in
set_option maxHeartbeats 2000000 in
theorem home_P {w : World} {g d lg bl bh : Nat} {s : PS} {fp : List Nat} (h : PgrAt w g d lg bl bh s fp) (hc : Calm s) (k : Nat) (hk : k < s.n) :
    Calls Tryz.prog 95 #[.pointer (some ⟨g, 0, none⟩), .int .i64 (k : Int)] w (PgAns w (homeP s.D.S s.l.n k)) := by
  refine calls_post fun R HQ => ?_
  have HA := Lib.hid h
  have hok := h.jn.disk.ok
  have hmost := hok.most
  have hfit := hc.fit
  have hsec := hok.sec
  have hn := h.few
  have HOK := Lib.hid hok; have HC := Lib.hid hc; have HSEC := Lib.hid hsec
  clear h hok hc hsec
  go_enter Tryz.func95, Tryz.ntmps95
  go_wp2_with fail
  go_loopw [6, 10] (HmRel w s.D.S s.l.n k) (fun _ v _ => 8 - (intOf v).toNat)
  case atStart => exact ⟨0, by omega, rfl, by unfold homeI; rw [List.take_zero]; exact own_nil _ _ _ _, by simp [Value.ownBlock], Fr.refl _ _⟩
  case round =>
    obtain ⟨i, hi, rfl, hown, hge, hf⟩ := hrel
    obtain ⟨oA, oc, rfl, hoc, _⟩ := own_shape hown
    have HOWN := Lib.hid hown; have HGE := Lib.hid hge; have HF := Lib.hid hf
    have hAr := HA.out.fr hf (by simp)
    have HAR := Lib.hid hAr
    have c0 := hAr.blk.at_ (i := 0) rfl
    have c3 := hAr.blk.at_ (i := 3) rfl
    clear hown hge hf hAr
    by_cases hi8 : i < 8
    · have x1 : IntKind.i64.wrap (8 * (k : Int)) = 8 * (k : Int) := by rw [IntKind.wrap_i64]; omega
      have x2 : IntKind.i64.wrap ((s.l.n : Int) + 8 * (k : Int)) = (s.l.n : Int) + 8 * (k : Int) := by rw [IntKind.wrap_i64]; omega
      have x3 : IntKind.i64.wrap ((s.l.n : Int) + 8 * (k : Int) + (i : Int)) = (s.l.n : Int) + 8 * (k : Int) + (i : Int) := by rw [IntKind.wrap_i64]; omega
      go_wp2_with fail
      refine wp_region_K (fun W => W.cell? ⟨g, 0, none⟩ = some (.pointer (some ⟨d, 0, none⟩)) ∧ W.cell? ⟨g, 3, none⟩ = some (.int .i64 (s.l.n : Int))) [0, 1, 2, 3, 4, 5, 6, 7, 8, 9, 10, 11, 12, 14, 15, 16] (by kernel_rfl) ?_
      refine wpAnyK_take (i := 0) (some 14) ?vq1_0 rfl rfl (by kernel_rfl) (fun _ _ _ h => h) ⟨c0, c3⟩ (.inl ⟨rfl, fun W hW => ?yq1_0⟩) ?_
      case yq1_0 => (obtain ⟨c0', c3'⟩ := hW; go_simp) <;> with_reducible rfl
      simp only [nrm]
      refine wpAnyK_take (i := 1) (some 15) ?vq1_1 rfl rfl (by kernel_rfl) (fun _ _ _ h => h) ⟨c0, c3⟩ (.inl ⟨rfl, fun W hW => ?yq1_1⟩) ?_
      case yq1_1 => (obtain ⟨c0', c3'⟩ := hW; go_simp) <;> with_reducible rfl
      simp only [nrm]
      refine wpAnyK_take (i := 2) (some 16) ?vq1_2 rfl rfl (by kernel_rfl) (fun _ _ _ h => h) ⟨c0, c3⟩ (.inl ⟨rfl, fun W hW => ?yq1_2⟩) ?_
      case yq1_2 => (obtain ⟨c0', c3'⟩ := hW; go_simp) <;> with_reducible rfl
      simp only [nrm]
      refine wpAnyK_take (i := 3) (some 17) ?vq1_3 rfl rfl (by kernel_rfl) (fun _ _ _ h => h) ⟨c0, c3⟩ (.inl ⟨rfl, fun W hW => ?yq1_3⟩) ?_
      case yq1_3 => (obtain ⟨c0', c3'⟩ := hW; go_simp) <;> with_reducible rfl
      simp only [nrm]
      refine wpAnyK_take (i := 4) (some 18) ?vq1_4 rfl rfl (by kernel_rfl) (fun _ _ _ h => h) ⟨c0, c3⟩ (.inl ⟨rfl, fun W hW => ?yq1_4⟩) ?_
      case yq1_4 => (obtain ⟨c0', c3'⟩ := hW; go_simp) <;> with_reducible rfl
      simp only [nrm]
      refine wpAnyK_take (i := 5) (some 19) ?vq1_5 rfl rfl (by kernel_rfl) (fun _ _ _ h => h) ⟨c0, c3⟩ (.inl ⟨rfl, fun W hW => ?yq1_5⟩) ?_
      case yq1_5 => (obtain ⟨c0', c3'⟩ := hW; go_simp) <;> with_reducible rfl
      simp only [nrm]
      refine wpAnyK_take (i := 6) (some 20) ?vq1_6 rfl rfl (by kernel_rfl) (fun _ _ _ h => h) ⟨c0, c3⟩ (.inl ⟨rfl, fun W hW => ?yq1_6⟩) ?_
      case yq1_6 => (obtain ⟨c0', c3'⟩ := hW; go_simp) <;> with_reducible rfl
      simp only [nrm]
      refine wpAnyK_take (i := 7) (some 21) ?vq1_7 rfl rfl (by kernel_rfl) (fun _ _ _ h => h) ⟨c0, c3⟩ (.inl ⟨rfl, fun W hW => ?yq1_7⟩) ?_
      case yq1_7 => (obtain ⟨c0', c3'⟩ := hW; go_simp) <;> with_reducible rfl
      simp only [nrm]
      refine wpAnyK_take (i := 8) (some 22) ?vq1_8 rfl rfl (by kernel_rfl) (fun _ _ _ h => h) ⟨c0, c3⟩ (.inl ⟨rfl, fun W hW => ?yq1_8⟩) ?_
      case yq1_8 => (obtain ⟨c0', c3'⟩ := hW; go_simp) <;> with_reducible rfl
      simp only [nrm]
      refine wpAnyK_take (i := 9) (some 23) ?vq1_9 rfl rfl (by kernel_rfl) (fun _ _ _ h => h) ⟨c0, c3⟩ (.inl ⟨rfl, fun W hW => ?yq1_9⟩) ?_
      case yq1_9 => (obtain ⟨c0', c3'⟩ := hW; go_simp) <;> with_reducible rfl
      simp only [nrm]
      refine wpAnyK_take (i := 10) (some 24) ?vq1_10 rfl rfl (by kernel_rfl) (fun _ _ _ h => h) ⟨c0, c3⟩ (.inl ⟨rfl, fun W hW => ?yq1_10⟩) ?_
      case yq1_10 => (obtain ⟨c0', c3'⟩ := hW; go_simp) <;> with_reducible rfl
      simp only [nrm]
      refine wpAnyK_take (i := 11) (some 25) ?vq1_11 rfl rfl (by kernel_rfl) (fun _ _ _ h => h) ⟨c0, c3⟩ (.inl ⟨rfl, fun W hW => ?yq1_11⟩) ?_
      case yq1_11 => (obtain ⟨c0', c3'⟩ := hW; go_simp) <;> with_reducible rfl
      simp only [nrm]
      refine wpAnyK_take (i := 12) (some 26) ?vq1_12 rfl rfl (by kernel_rfl) (fun _ _ _ h => h) ⟨c0, c3⟩ (.inl ⟨rfl, fun W hW => ?yq1_12⟩) ?_
      case yq1_12 => (obtain ⟨c0', c3'⟩ := hW; go_simp) <;> with_reducible rfl
      simp only [nrm]
      refine wpAnyK_step (j := 13) (some 27) rfl rfl (by kernel_rfl) rfl fun K hK => ?_
      have hdr : Fr [] wr wr.drew := (Fr.refl [] wr).drew
      refine wp_call_f (l := [.tmp 17, .tmp 26]) rfl [.pointer (some ⟨d, 0, none⟩), .int .i64 ((s.l.n : Int) + 8 * (k : Int) + (i : Int))] rfl (enter_read _) ((read_at (HAR.out.jn.disk.fr hdr (by simp)) ((s.l.n : Int) + 8 * (k : Int) + (i : Int))).mono ?_)
      rintro e w1 ⟨v, q, rfl, hbv, hgw, hf1, hyes, _⟩
      have hE : s.D.readE ((s.l.n : Int) + 8 * (k : Int) + (i : Int)) = 0 := by
        unfold DM.readE
        rw [HC.out.dead, if_neg (by simp), if_neg (by omega)]
      have hR : s.D.read ((s.l.n : Int) + 8 * (k : Int) + (i : Int)) = s.D.S.getD (s.l.n + 8 * k + i) [] := by
        unfold DM.read
        rw [if_pos hE, show ((s.l.n : Int) + 8 * (k : Int) + (i : Int)).toNat = s.l.n + 8 * k + i by omega]
        unfold DM.look
        rw [HC.out.pend]
        rfl
      obtain ⟨rfl, hblk⟩ := hyes hE
      rw [hR] at hblk
      have hf1' : Fr [] wr w1 := hdr.trans hf1 (by simp)
      have hA1 := HAR.out.fr hf1' (by simp)
      have c03 : w1.cell? ⟨g, 0, none⟩ = some (.pointer (some ⟨d, 0, none⟩)) ∧ w1.cell? ⟨g, 3, none⟩ = some (.int .i64 (s.l.n : Int)) := ⟨hA1.blk.at_ (i := 0) rfl, hA1.blk.at_ (i := 3) rfl⟩
      rw [hE]
      refine ⟨_, rfl, hK _ _ (fun _ => c03) ?_⟩
      simp only [nrm]
      refine wpAnyK_take (i := 14) (some 13) ?vq1_14 rfl rfl (by kernel_rfl) (fun _ _ _ h => h) c03 (.inl ⟨rfl, fun W hW => ?yq1_14⟩) ?_
      case yq1_14 => (obtain ⟨c0', c3'⟩ := hW; go_simp) <;> with_reducible rfl
      simp only [nrm]
      refine wpAnyK_take (i := 15) (some 28) ?vq1_15 rfl rfl (by kernel_rfl) (fun _ _ _ h => h) c03 (.inl ⟨rfl, fun W hW => ?yq1_15⟩) ?_
      case yq1_15 => (obtain ⟨c0', c3'⟩ := hW; go_simp) <;> with_reducible rfl
      simp only [nrm]
      refine wpAnyK_take (i := 16) (some 29) ?vq1_16 rfl rfl (by kernel_rfl) (fun _ _ _ h => h) c03 (.inl ⟨rfl, fun W hW => ?yq1_16⟩) ?_
      case yq1_16 => (obtain ⟨c0', c3'⟩ := hW; go_simp) <;> with_reducible rfl
      simp only [nrm]
      refine wpAnyK_step (j := 17) (some 8) rfl rfl (by kernel_rfl) rfl fun K hK => ?_
      refine wp_run_same (v := ?aq1_17) ?yq1_17 (hK _ _ (fun _ => c03) ?_)
      case yq1_17 => go_simp <;> with_reducible rfl
      simp only [nrm]
      refine wpAnyK_step (j := 18) (some 9) rfl rfl (by kernel_rfl) rfl fun K hK => ?_
      refine wp_run_same (v := ?aq1_18) ?yq1_18 (hK _ _ (fun _ => c03) ?_)
      case yq1_18 => go_simp <;> with_reducible rfl
      simp only [nrm]
      refine wpAnyK_done (by kernel_rfl) ?_ _
      obtain ⟨sc, hsc⟩ : ∃ sc, sc = s.D.S.getD (s.l.n + 8 * k + i) [] := ⟨_, rfl⟩
      rw [← hsc] at hblk
      have hscl : sc.length = 64 := by
        rw [hsc, List.getD, List.getElem?_eq_getElem (by omega : s.l.n + 8 * k + i < s.D.S.length), Option.getD_some]
        exact HSEC.out _ (List.getElem_mem _)
      have HSC := Lib.hid hsc; have HBLK := Lib.hid hblk; have HF1 := Lib.hid hf1'; have HSCL := Lib.hid hscl
      have hown1 := own_fr HOWN.out hf1' (by simp)
      have HO1 := Lib.hid hown1
      clear hbv hgw hf1 hyes hE hR hA1 c03 hdr hK hsc hblk hf1' hscl hown1 c0 c3 x1 x2 x3
      go_upto_region 9 with fail
      refine wp_region_lit ?_
      refine wpList_plain rfl fun K hK => ?_
      refine wp_run_same (v := ?au3_0) ?yu3_0 (hK _ _ ?_)
      case yu3_0 => go_simp <;> with_reducible rfl
      clear hK K
      simp only [nrm]
      refine wpList_plain rfl fun K hK => ?_
      refine wp_run_same (v := ?au4_1) ?yu4_1 (hK _ _ ?_)
      case yu4_1 => go_simp <;> with_reducible rfl
      clear hK K
      simp only [nrm]
      obtain ⟨iu, hi', hz', hsz', hby⟩ := info_parts info_u8
      refine wpList_plain rfl fun K hK => ?_
      refine wp_append_fr (.tmp 36) (.tmp 37) rfl 5 1 1 Tryz.underlying23 hi' hz' hsz' hby rfl (by omega) (.slice oA (64 * i) oc) (64 * i) (bcells (homeI s.D.S s.l.n k i)) rfl HO1.out ⟨q, 0, none⟩ 64 64 (bcells sc) rfl (by rw [bcells_len, HSCL.out]) (fun j u hu => by rw [Addr.add_mid, Nat.zero_add]; exact HBLK.out.at_ hu) (bcells_one _) (by omega) (by unfold maxLen; omega) (by omega) w1.heap.size rfl fun g9 cap9 w9 ho9 hf9 hat9 hlt9 => hK _ _ ?_
      simp only [nrm]
      clear hK
      refine wpList_plain rfl fun K hK => ?_
      refine wp_run_same (v := ?au5_3) ?yu5_3 (hK _ _ ?_)
      case yu5_3 => go_simp <;> with_reducible rfl
      clear hK K
      simp only [nrm]
      refine wpList_nil ?_
      have HX : Hid (HmRel w s.D.S s.l.n k (.slice (some ⟨g9, 0, none⟩) (64 * i + 64) cap9) (.int .i64 ((i : Int) + 1)) w9) := Lib.hid (by
        refine ⟨i + 1, by omega, by go_num, ?_, ?_, ?_⟩
        · rw [homeI_succ (by omega), bcells_append, ← HSC.out]
          exact ho9
        · intro x hx
          simp [Value.ownBlock] at hx
          subst hx
          rcases hat9 with h | h
          · exact HGE.out _ h
          · have := (HF.out.trans HF1.out (by simp)).size; omega
        · exact (HF.out.trans HF1.out (by simp)).trans hf9 (fun x hx => .inr (HGE.out x (by simpa using hx))))
      clear ho9 hf9 hat9 hlt9 hi' hz' hsz' hby HO1
      go_wp2_with fail
      go_roundw
      case rel => exact HX.out
      case measure => simp [intOf]; omega
    · obtain rfl : i = 8 := by omega
      have HX : Hid (∃ gb, BytesAt wr (.slice oA (64 * 8) oc) (homeP s.D.S s.l.n k) gb ∧ w.heap.size ≤ gb) := Lib.hid (by
        have h := HOWN.out
        have hl : (homeI s.D.S s.l.n k 8).length = 64 * 8 := homeI_len HSEC.out (by omega)
        rw [← hl] at h ⊢
        exact bytes_of_own h (by rw [hl]; exact HGE.out))
      clear c0 c3
      go_wp2_with fail
      obtain ⟨gb, h1, h2⟩ := HX.out
      exact HQ.out _ _ ⟨_, gb, rfl, h1, h2, HF.out⟩
theorem build_maps (a b : Nat) (w : World) : (Instr.buildSlice 172 2 #[(0, .map (some a)), (1, .map (some b))]).run Tryz.prog w = .ok (.slice (some ⟨w.heap.size, 0, none⟩) 2 2) (w.alloc (.cells #[.map (some a), .map (some b)] 116)) := by kernel_rfl
theorem slice_whole (q : Nat) (W : World) : (Instr.sliceAt 123 (.pointer (some ⟨q, 0, none⟩)) none none none).run Tryz.prog W = .ok (.slice (some ⟨q, 0, none⟩) 512 512) W := by kernel_rfl
def PS.page (s : PS) (k : Nat) : List UInt8 := (getP s.late k).getD ((getP s.held k).getD (homeP s.D.S s.l.n k))
theorem PInv.page_eq {c : Nat} {s : PS} {C : Nat → List UInt8} (h : PInv c s C) {k : Nat} (hk : k < s.n) : s.page k = over C s.late k := by
  unfold PS.page over
  rw [h.cont k hk]
def RdRel (w2 : World) (s : PS) (k : Nat) (v34 : Value) (wr : World) : Prop :=
  ∃ j : Nat, j ≤ 2 ∧ v34 = .int .i64 (j : Int) ∧ (0 < j → getP s.late k = none) ∧ (1 < j → getP s.held k = none) ∧ Fr [] w2 wr
set_option maxRecDepth 100000 in
set_option maxHeartbeats 2000000 in
theorem read_P {w : World} {g d lg bl bh : Nat} {s : PS} {fp : List Nat} (h : PgrAt w g d lg bl bh s fp) (hbr : s.br = false) (hc : Calm s) (k : Nat) (hk : k < s.n) :
    Calls Tryz.prog 60 #[.pointer (some ⟨g, 0, none⟩), .int .i64 (k : Int)] w (PgAns w (s.page k)) := by
  refine calls_post fun R HQ => ?_
  have HA := Lib.hid h
  have hn := h.few
  have hgo := gone_P h
  rw [hbr] at hgo
  have HGO := Lib.hid hgo; have HC := Lib.hid hc
  have c2 := h.blk.at_ (i := 2) rfl
  have c4 := h.blk.at_ (i := 4) rfl
  have c5 := h.blk.at_ (i := 5) rfl
  clear h hgo hc hbr
  go_enter Tryz.func60, Tryz.ntmps60
  go_wp2_with fail
  refine HGO.out.mono ?_
  rintro e w' ⟨rfl, rfl⟩
  go_wp2_with fail
  refine wp_region_K (fun W => W.cell? ⟨g, 4, none⟩ = some (.map (some bl)) ∧ W.cell? ⟨g, 5, none⟩ = some (.map (some bh))) [0, 1, 2, 3, 4, 5, 6, 7, 9, 10] (by kernel_rfl) ?_
  refine wpAnyK_take (i := 0) (some 24) ?vq6_0 rfl rfl (by kernel_rfl) (fun _ _ _ h => h) ⟨c4, c5⟩ (.inl ⟨rfl, fun W hW => ?yq6_0⟩) ?_
  case yq6_0 => (obtain ⟨c4', c5'⟩ := hW; go_simp) <;> with_reducible rfl
  simp only [nrm]
  refine wpAnyK_take (i := 1) (some 25) ?vq6_1 rfl rfl (by kernel_rfl) (fun _ _ _ h => h) ⟨c4, c5⟩ (.inl ⟨rfl, fun W hW => ?yq6_1⟩) ?_
  case yq6_1 => (obtain ⟨c4', c5'⟩ := hW; go_simp) <;> with_reducible rfl
  simp only [nrm]
  refine wpAnyK_take (i := 2) (some 26) ?vq6_2 rfl rfl (by kernel_rfl) (fun _ _ _ h => h) ⟨c4, c5⟩ (.inl ⟨rfl, fun W hW => ?yq6_2⟩) ?_
  case yq6_2 => (obtain ⟨c4', c5'⟩ := hW; go_simp) <;> with_reducible rfl
  simp only [nrm]
  refine wpAnyK_take (i := 3) (some 27) ?vq6_3 rfl rfl (by kernel_rfl) (fun _ _ _ h => h) ⟨c4, c5⟩ (.inl ⟨rfl, fun W hW => ?yq6_3⟩) ?_
  case yq6_3 => (obtain ⟨c4', c5'⟩ := hW; go_simp) <;> with_reducible rfl
  simp only [nrm]
  refine wpAnyK_take (i := 4) (some 28) ?vq6_4 rfl rfl (by kernel_rfl) (fun _ _ _ h => h) ⟨c4, c5⟩ (.inl ⟨rfl, fun W hW => ?yq6_4⟩) ?_
  case yq6_4 => (obtain ⟨c4', c5'⟩ := hW; go_simp) <;> with_reducible rfl
  simp only [nrm]
  refine wpAnyK_take (i := 5) (some 29) ?vq6_5 rfl rfl (by kernel_rfl) (fun _ _ _ h => h) ⟨c4, c5⟩ (.inl ⟨rfl, fun W hW => ?yq6_5⟩) ?_
  case yq6_5 => (obtain ⟨c4', c5'⟩ := hW; go_simp) <;> with_reducible rfl
  simp only [nrm]
  refine wpAnyK_take (i := 6) (some 30) ?vq6_6 rfl rfl (by kernel_rfl) (fun _ _ _ h => h) ⟨c4, c5⟩ (.inl ⟨rfl, fun W hW => ?yq6_6⟩) ?_
  case yq6_6 => (obtain ⟨c4', c5'⟩ := hW; go_simp) <;> with_reducible rfl
  simp only [nrm]
  refine wpAnyK_take (i := 7) (some 31) ?vq6_7 rfl rfl (by kernel_rfl) (fun _ _ _ h => h) ⟨c4, c5⟩ (.inl ⟨rfl, fun W hW => ?yq6_7⟩) ?_
  case yq6_7 => (obtain ⟨c4', c5'⟩ := hW; go_simp) <;> with_reducible rfl
  simp only [nrm]
  refine wpAnyK_take (i := 10) (some 34) ?vq6_10 rfl rfl (by kernel_rfl) (fun _ _ _ h => h) ⟨c4, c5⟩ (.inl ⟨rfl, fun W hW => ?yq6_10⟩) ?_
  case yq6_10 => (obtain ⟨c4', c5'⟩ := hW; go_simp) <;> with_reducible rfl
  simp only [nrm]
  refine wpAnyK_step (j := 8) (some 32) rfl rfl (by kernel_rfl) rfl fun K hK => ?_
  have hdr : Fr [] w w.drew := (Fr.refl [] w).drew
  have hbm := build_maps bl bh w.drew
  have hf2 : Fr [] w (w.drew.alloc (.cells #[.map (some bl), .map (some bh)] 116)) := hdr.alloc _
  have hb2 : Blk (w.drew.alloc (.cells #[.map (some bl), .map (some bh)] 116)) w.drew.heap.size 116 [.map (some bl), .map (some bh)] := Blk.new w.drew 116 _
  have hA2 := HA.out.fr hf2 (by simp)
  have c45 : (w.drew.alloc (.cells #[.map (some bl), .map (some bh)] 116)).cell? ⟨g, 4, none⟩ = some (.map (some bl)) ∧ (w.drew.alloc (.cells #[.map (some bl), .map (some bh)] 116)).cell? ⟨g, 5, none⟩ = some (.map (some bh)) := ⟨hA2.blk.at_ (i := 4) rfl, hA2.blk.at_ (i := 5) rfl⟩
  refine wp_run_value (v := .slice (some ⟨w.drew.heap.size, 0, none⟩) 2 2) (w' := w.drew.alloc (.cells #[.map (some bl), .map (some bh)] 116)) (by simp [execOp, Act.eval, hbm, Result.andThen]) (hK _ _ (fun _ => c45) ?_)
  simp only [nrm]
  refine wpAnyK_take (i := 9) (some 33) ?vq6_9 rfl rfl (by kernel_rfl) (fun _ _ _ h => h) c45 (.inl ⟨rfl, fun W hW => ?yq6_9⟩) ?_
  case yq6_9 => (obtain ⟨c4', c5'⟩ := hW; go_simp) <;> with_reducible rfl
  simp only [nrm]
  refine wpAnyK_done (by kernel_rfl) ?_ _
  have hq0 : w.drew.heap.size = w.heap.size := rfl
  rw [hq0] at hb2 ⊢
  have HF2 := Lib.hid hf2; have HB2 := Lib.hid hb2
  clear hbm hA2 c45 hK hdr hq0 hf2 hb2 c4 c5 c2
  generalize w.drew.alloc (.cells #[.map (some bl), .map (some bh)] 116) = w2 at *
  have hsl := slice_whole
  go_wp2_with fail
  have hd1 : decide ((k : Int) < 0) = false := by simp
  have hd2 : decide (s.n ≤ k) = false := by simp; omega
  simp only [hd1, hd2, Bool.or_self]
  go_loopw [34] (fun v34 wr => RdRel w2 s k v34 wr) (fun v _ => 2 - (intOf v).toNat)
  case atStart => exact ⟨0, by omega, rfl, fun h => absurd h (by omega), fun h => absurd h (by omega), Fr.refl _ _⟩
  case round =>
    obtain ⟨j, hj, rfl, h0, h1, hf⟩ := hrel
    have hAr := HA.out.fr (HF2.out.trans hf (by simp)) (by simp)
    have HAR := Lib.hid hAr; have HF := Lib.hid hf; have H0 := Lib.hid h0; have H1 := Lib.hid h1
    clear hf h0 h1
    by_cases hj2 : j < 2
    · have hb := HB2.out.fr HF.out (by simp)
      obtain ⟨bj, mj, cc, hmj, hmok, hnone, hsome⟩ : ∃ bj mj, wr.cell? ⟨w.heap.size, j, none⟩ = some (.map (some bj)) ∧ MapAt wr bj mj ∧ PgOk s.n mj ∧ (getP mj k = none → (0 < j + 1 → getP s.late k = none) ∧ (1 < j + 1 → getP s.held k = none)) ∧ ∀ x, getP mj k = some x → s.page k = x := by
        rcases (by omega : j = 0 ∨ j = 1) with rfl | rfl
        · refine ⟨bl, s.late, hb.at_ (i := 0) rfl, hAr.late, hAr.lok, fun h => ⟨fun _ => h, fun h => absurd h (by omega)⟩, fun x hx => ?_⟩
          unfold PS.page
          rw [hx]
          rfl
        · refine ⟨bh, s.held, hb.at_ (i := 1) rfl, hAr.held, hAr.hok, fun h => ⟨fun _ => H0.out (by omega), fun _ => h⟩, fun x hx => ?_⟩
          unfold PS.page
          rw [H0.out (by omega), hx]
          rfl
      have hlk := hmj.look_ok (k := k) (by omega)
      obtain ⟨x, hx⟩ : ∃ x, x = (getP mj k).getD zpage := ⟨_, rfl⟩
      have hxl : x.length = 512 := by
        rw [hx]
        cases hg : getP mj k with
        | none => exact zpage_len
        | some y => exact (getP_len hmok hg).2
      obtain ⟨is, his⟩ : ∃ is, is = (getP mj k).isSome := ⟨_, rfl⟩
      rw [← hx, ← his] at hlk
      unfold pageV at hlk
      have HN := Lib.hid hnone; have HS := Lib.hid hsome; have HX := Lib.hid hx; have HI := Lib.hid his; have HXL := Lib.hid hxl
      clear hb hAr hmj hmok hnone hsome hx his hxl
      go_wp2_with (first
        | (with_reducible refine wpList_alloc_z rfl 123 rfl (pageV zpage) (bcells zpage).toArray zero_pg rfl ?_)
        | (with_reducible refine wpList_store_z (W := wr) rfl 123 (.tmp 8) (.tmp 42) rfl (bcells x) rfl rfl rfl ?zi ?zl ?z1 ?_))
      case zi => have h := size_pg; simpa [bcells_len, HXL.out] using h
      case zl => show (bcells zpage).length = (bcells x).length; rw [bcells_len, bcells_len, zpage_len, HXL.out]
      case z1 => exact bcells_one _
      intro w4 hb4 hf4 hz4
      have HB4 := Lib.hid hb4; have HF4 := Lib.hid hf4
      clear hb4 hf4 hlk cc
      cases is with
      | true =>
        have hsz : w.heap.size ≤ wr.heap.size := by have := (HF2.out.trans HF.out (by simp)).size; omega
        go_wp2_with fail
        refine HQ.out _ _ ⟨_, wr.heap.size, rfl, ?_, hsz, ((HF2.out.trans HF.out (by simp)).trans HF4.out (by simp))⟩
        have hsome := HS.out x (by
          have h1 := HI.out; have h2 := HX.out
          cases hg : getP mj k with
          | none => rw [hg] at h1; cases h1
          | some y => rw [hg] at h2; rw [h2]; rfl)
        rw [hsome]
        have h := BytesAt.of_blk HB4.out 512 (by rw [HXL.out]; exact Nat.le_refl _)
        rw [HXL.out] at h
        exact h
      | false =>
        have hnone := HN.out (by
          have h1 := HI.out
          cases hg : getP mj k with
          | none => rfl
          | some y => rw [hg] at h1; cases h1)
        have HX2 : Hid (RdRel w2 s k (.int .i64 ((j : Int) + 1)) w4) := Lib.hid ⟨j + 1, by omega, by go_num, hnone.1, hnone.2, HF.out.trans HF4.out (by simp)⟩
        clear hnone
        go_wp2_with fail
        go_roundw
        case rel => exact HX2.out
        case measure => simp [intOf]; omega
    · obtain rfl : j = 2 := by omega
      have hpg : s.page k = homeP s.D.S s.l.n k := by
        unfold PS.page
        rw [H0.out (by omega), H1.out (by omega)]
        rfl
      have HH := Lib.hid (home_P HAR.out HC.out k hk)
      have HPG := Lib.hid hpg
      clear hAr hpg
      go_wp2_with fail
      refine HH.out.mono ?_
      rintro e w5 ⟨v, gb, rfl, hv, hgb, hf5⟩
      have HX : Hid (PgAns w (s.page k) (.returned (.tuple #[v, .int .i64 0])) w5) := Lib.hid ⟨v, gb, rfl, by rw [HPG.out]; exact hv, by have := (HF2.out.trans HF.out (by simp)).size; omega, (HF2.out.trans HF.out (by simp)).trans hf5 (by simp)⟩
      clear hv hgb hf5
      go_wp2_with fail
      exact HQ.out _ _ HX.out
end Go.Proofs.YtpjbdpepofnleaaGreat
end
