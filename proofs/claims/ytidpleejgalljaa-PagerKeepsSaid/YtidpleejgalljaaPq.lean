/-
  A pager over its disk as plain data: what is committed stays, whatever is done: plain. No program in sight. Append, Checkpoint and Commit of a pager as plain data: all or nothing. No program in sight.
-/
import Derived.Test.YtidpleejgalljaaPm
namespace Go.Proofs.Ytidpleejgalljaa

/-- A pager and its disk. -/
structure PS where
  D : DM
  l : LG
  n : Nat
  late : PgM
  held : PgM
  br : Bool
/-- A page's home. -/
def homeP (S : List (List UInt8)) (log k : Nat) : List UInt8 := ((S.drop (log + 8 * k)).take 8).flatten
/-- The sectors of pages at home. -/
def secsM (log : Nat) (m : PgM) : List (Nat × List UInt8) := m.flatMap fun p => (List.range 8).map fun i => (log + 8 * p.1 + i, (p.2.drop (64 * i)).take 64)
def settleR (s : PS) : DM × LG × Int :=
  if (seqW s.D (secsM s.l.n s.held)).2 ≠ 0 then ((seqW s.D (secsM s.l.n s.held)).1, s.l, (seqW s.D (secsM s.l.n s.held)).2)
  else if (seqW s.D (secsM s.l.n s.held)).1.syncE ≠ 0 then ((seqW s.D (secsM s.l.n s.held)).1.sync, s.l, (seqW s.D (secsM s.l.n s.held)).1.syncE)
  else (appendD (seqW s.D (secsM s.l.n s.held)).1.sync { s.l with at_ := 0 } [], appendL (seqW s.D (secsM s.l.n s.held)).1.sync { s.l with at_ := 0 } [], appendE (seqW s.D (secsM s.l.n s.held)).1.sync { s.l with at_ := 0 } [])
def PS.check (s : PS) : PS × Int :=
  if s.br then (s, 10) else if s.held = [] then (s, 0)
  else if (settleR s).2.2 ≠ 0 then ({ s with D := (settleR s).1, l := (settleR s).2.1, br := true }, (settleR s).2.2)
  else ({ s with D := (settleR s).1, l := (settleR s).2.1, held := [] }, 0)
def PS.laid (s : PS) (b : List UInt8) : PS := { s with D := appendD s.D s.l b, l := appendL s.D s.l b }
def PS.append (s : PS) (b : List UInt8) : PS × Int :=
  if appendE s.D s.l b ≠ 5 ∨ s.held = [] then (s.laid b, appendE s.D s.l b)
  else if (s.laid b).check.2 ≠ 0 then (s.laid b).check
  else ((s.laid b).check.1.laid b, appendE (s.laid b).check.1.D (s.laid b).check.1.l b)
def PS.commit (s : PS) : PS × Int :=
  if s.br then (s, 10) else if s.late = [] then (s, 0)
  else if (s.append (recP s.late)).2 ≠ 0 then ({ (s.append (recP s.late)).1 with br := (s.append (recP s.late)).1.br || ((s.append (recP s.late)).2 != 5 && (s.append (recP s.late)).2 != 4) }, (s.append (recP s.late)).2)
  else ({ (s.append (recP s.late)).1 with held := mergeP (s.append (recP s.late)).1.held s.late, late := [] }, 0)

/-- Pages laid over others. -/
def over (C : Nat → List UInt8) (m : PgM) (k : Nat) : List UInt8 := (getP m k).getD (C k)

/-! ### Homes -/
theorem chop_flat (b : List UInt8) : ∀ m, ((List.range m).map fun i => (b.drop (64 * i)).take 64).flatten = b.take (64 * m)
  | 0 => by simp
  | m + 1 => by
    rw [List.range_succ, List.map_append, List.flatten_append, chop_flat b m]
    simp only [List.map_cons, List.map_nil, List.flatten_cons, List.flatten_nil, List.append_nil]
    rw [show 64 * (m + 1) = 64 * m + 64 by omega, List.take_add]
theorem home_of {S : List (List UInt8)} {log k : Nat} {b : List UInt8} (hb : b.length = 512) (h : ∀ i, i < 8 → S[log + 8 * k + i]? = some ((b.drop (64 * i)).take 64)) : homeP S log k = b := by
  have e : (S.drop (log + 8 * k)).take 8 = (List.range 8).map fun i => (b.drop (64 * i)).take 64 := by
    apply List.ext_getElem?
    intro i
    rw [List.getElem?_take]
    by_cases hi : i < 8
    · rw [if_pos hi, List.getElem?_drop, h i hi, List.getElem?_map, List.getElem?_range hi]
      rfl
    · rw [if_neg hi, List.getElem?_eq_none (by simp; omega)]
  unfold homeP
  rw [e, chop_flat, List.take_of_length_le (by omega)]
theorem home_same {S S' : List (List UInt8)} {log k : Nat} (h : ∀ i, i < 8 → S'[log + 8 * k + i]? = S[log + 8 * k + i]?) : homeP S' log k = homeP S log k := by
  unfold homeP
  congr 1
  apply List.ext_getElem?
  intro i
  rw [List.getElem?_take, List.getElem?_take]
  by_cases hi : i < 8
  · rw [if_pos hi, if_pos hi, List.getElem?_drop, List.getElem?_drop, h i hi]
  · rw [if_neg hi, if_neg hi]
theorem home_len {S : List (List UInt8)} {log k : Nat} (hS : ∀ s ∈ S, s.length = 64) (h : log + 8 * k + 8 ≤ S.length) : (homeP S log k).length = 512 := by
  unfold homeP
  rw [flat_len (fun s hs => hS s (List.mem_of_mem_drop (List.mem_of_mem_take hs))), List.length_take, List.length_drop]
  omega
theorem secsM_mem {log : Nat} {m : PgM} {p : Nat × List UInt8} : p ∈ secsM log m ↔ ∃ q ∈ m, ∃ i, i < 8 ∧ p = (log + 8 * q.1 + i, (q.2.drop (64 * i)).take 64) := by
  unfold secsM
  rw [List.mem_flatMap]
  constructor
  · rintro ⟨q, hq, h⟩
    obtain ⟨i, hi, rfl⟩ := List.mem_map.1 h
    exact ⟨q, hq, i, List.mem_range.1 hi, rfl⟩
  · rintro ⟨q, hq, i, hi, rfl⟩
    exact ⟨q, hq, List.mem_map.2 ⟨i, List.mem_range.2 hi, rfl⟩⟩
theorem secsM_len {log : Nat} : ∀ (m : PgM), (secsM log m).length = 8 * m.length
  | [] => rfl
  | p :: m => by
    have ih := secsM_len (log := log) m
    unfold secsM at ih ⊢
    rw [List.flatMap_cons, List.length_append, ih]
    simp
    omega
/-- The sectors of the pages. -/
def QM (log : Nat) (m : PgM) (j : Nat) : Prop := ∃ q ∈ m, log + 8 * q.1 ≤ j ∧ j < log + 8 * q.1 + 8
theorem secsM_Q {log : Nat} {m : PgM} : ∀ p ∈ secsM log m, QM log m p.1 := fun p hp => by
  obtain ⟨q, hq, i, hi, rfl⟩ := secsM_mem.1 hp
  exact ⟨q, hq, by simp only; omega, by simp only; omega⟩
theorem QM_log {log : Nat} {m : PgM} {j : Nat} (h : QM log m j) : log ≤ j := by
  obtain ⟨q, _, h1, _⟩ := h
  omega
/-- Behind the writes and a Sync each page is at home. -/
theorem settled_home {n log : Nat} {m : PgM} {S : List (List UInt8)} (hm : PgOk n m) (hfit : log + 8 * n ≤ S.length) {k : Nat} : homeP (layAll S (secsM log m)) log k = (getP m k).getD (homeP S log k) := by
  cases hg : getP m k with
  | none =>
    refine home_same fun i hi => layAll_other _ _ _ fun p hp e => ?_
    obtain ⟨q, hq, j, hj, rfl⟩ := secsM_mem.1 hp
    have hk : q.1 = k := by simp only at e; omega
    rw [getP_of_mem hm (j := k) (b := q.2) (by rw [← hk]; exact hq)] at hg
    cases hg
  | some b =>
    have hb := getP_len hm hg
    refine home_of hb.2 fun i hi => layAll_at _ _ (by omega) (fun p hp e => ?_) (.inr ⟨_, secsM_mem.2 ⟨(k, b), getP_mem hg, i, hi, rfl⟩, rfl⟩)
    obtain ⟨q, hq, j, hj, rfl⟩ := secsM_mem.1 hp
    have hk : q.1 = k ∧ j = i := by simp only at e; omega
    obtain ⟨h1, rfl⟩ := hk
    have h2 := getP_of_mem hm (j := k) (b := q.2) (by rw [← h1]; exact hq)
    rw [hg] at h2
    injection h2 with h2
    rw [h2]
    rfl

/-! ### What holds of a pager, and of its disk when it is not open -/
structure PDisk (c n log : Nat) (D : DM) (C : Nat → List UInt8) : Prop where
  dead : D.dead = false
  pend : D.P = []
  ok : D.ok
  fit : log + 8 * n ≤ D.S.length
  n1 : 1 ≤ n
  n2 : n ≤ 4096
  log1 : 1 ≤ log
  recs : ∃ R H, JDisk c log (D.S.take log) R ∧ takeAll n (R.map (·.2)) [] = some H ∧ (H = [] → cntR R ≤ 1) ∧ ∀ k, k < n → C k = (getP H k).getD (homeP D.S log k)
structure PInv (c : Nat) (s : PS) (C : Nat → List UInt8) : Prop where
  dead : s.D.dead = false
  pend : s.D.P = []
  ok : s.D.ok
  fit : s.l.n + 8 * s.n ≤ s.D.S.length
  n1 : 1 ≤ s.n
  n2 : s.n ≤ 4096
  log1 : 1 ≤ s.l.n
  recs : ∃ R, JInv c s.l.n (s.D.S.take s.l.n) R s.l ∧ takeAll s.n (R.map (·.2)) [] = some s.held ∧ (s.held = [] → s.l.at_ ≤ 1)
  late : PgOk s.n s.late
  br : s.br = false
  cont : ∀ k, k < s.n → C k = (getP s.held k).getD (homeP s.D.S s.l.n k)
theorem PInv.held {c : Nat} {s : PS} {C : Nat → List UInt8} (h : PInv c s C) : PgOk s.n s.held := by
  obtain ⟨R, _, h2, _⟩ := h.recs
  exact takeAll_ok _ _ _ (PgOk.nil _) h2
theorem PInv.mono {c c' : Nat} {s : PS} {C : Nat → List UInt8} (h : PInv c s C) (hc : c ≤ c') : PInv c' s C := by
  obtain ⟨R, h1, h2, h3⟩ := h.recs
  exact ⟨h.dead, h.pend, h.ok, h.fit, h.n1, h.n2, h.log1, ⟨R, h1.mono hc, h2, h3⟩, h.late, h.br, h.cont⟩
theorem PDisk.mono {c c' n log : Nat} {D : DM} {C : Nat → List UInt8} (h : PDisk c n log D C) (hc : c ≤ c') : PDisk c' n log D C := by
  obtain ⟨R, H, h1, h2, h3, h4⟩ := h.recs
  exact ⟨h.dead, h.pend, h.ok, h.fit, h.n1, h.n2, h.log1, ⟨R, H, h1.mono hc, h2, h3, h4⟩⟩
theorem PInv.page {c : Nat} {s : PS} {C : Nat → List UInt8} (h : PInv c s C) {k : Nat} (hk : k < s.n) : (C k).length = 512 := by
  rw [h.cont k hk]
  have hf := h.fit
  cases hg : getP s.held k with
  | none => exact home_len h.ok.sec (by omega)
  | some b => exact (getP_len h.held hg).2
theorem reopen_still {D : DM} (hp : D.P = []) (K : List Bool) : (D.reopen K).S = D.S := by
  show layAll D.S (keptOf D.P K) = _
  rw [hp]
  rfl
theorem PInv.closed {c : Nat} {s : PS} {C : Nat → List UInt8} (h : PInv c s C) (K : List Bool) : PDisk c s.n s.l.n (s.D.reopen K) C := by
  obtain ⟨R, h1, h2, h3⟩ := h.recs
  have hS := reopen_still h.pend K
  refine ⟨rfl, rfl, DM.ok_reopen h.ok K, by rw [hS]; exact h.fit, h.n1, h.n2, h.log1, ⟨R, s.held, by rw [hS]; exact h1.closed, h2, fun e => by rw [← h1.at_]; exact h3 e, by rw [hS]; exact h.cont⟩⟩
/-- The pager that Open makes. -/
def openP (n log : Nat) (D : DM) (H : PgM) : PS := { D := D, l := logOf log (D.S.take log), n := n, late := [], held := H, br := false }
theorem PDisk.open_ {c n log : Nat} {D : DM} {C : Nat → List UInt8} (h : PDisk c n log D C) (hc : c + 1 < 4294967296) :
    ∃ H, takeAll n ((recordsOf log none (D.S.take log)).map (·.2)) [] = some H ∧ PInv (c + 1) (openP n log D H) C ∧ (newestOf (D.S.take log)).1 < 4294967295 := by
  obtain ⟨R, H, h1, h2, h3, h4⟩ := h.recs
  have hj := h1.open_ hc
  refine ⟨H, by rw [h1.recs]; exact h2, ⟨h.dead, h.pend, h.ok, h.fit, h.n1, h.n2, h.log1, ⟨R, hj, h2, fun e => ?_⟩, PgOk.nil _, rfl, h4⟩, by have := h1.newest; omega⟩
  show (logOf log (D.S.take log)).at_ ≤ 1
  rw [hj.at_]
  exact h3 e
theorem PInv.limited {c : Nat} {s : PS} {C : Nat → List UInt8} (h : PInv c s C) (k : Int) (hk : k ≤ 9223372036854775807) : PInv c { s with D := s.D.limited k } C :=
  ⟨h.dead, h.pend, DM.ok_limited h.ok k hk, h.fit, h.n1, h.n2, h.log1, h.recs, h.late, h.br, h.cont⟩
theorem PInv.wrote {c : Nat} {s : PS} {C : Nat → List UInt8} (h : PInv c s C) {k : Nat} {b : List UInt8} (hk : k < s.n) (hb : b.length = 512) : PInv c { s with late := putP s.late k b } C :=
  ⟨h.dead, h.pend, h.ok, h.fit, h.n1, h.n2, h.log1, h.recs, h.late.put hk hb, h.br, h.cont⟩
theorem PInv.rolled {c : Nat} {s : PS} {C : Nat → List UInt8} (h : PInv c s C) : PInv c { s with late := [] } C :=
  ⟨h.dead, h.pend, h.ok, h.fit, h.n1, h.n2, h.log1, h.recs, PgOk.nil _, h.br, h.cont⟩
/-- A disk that was just made. -/
theorem PDisk.new {n log N : Nat} (h1 : 1 ≤ n) (h2 : n ≤ 4096) (h3 : 1 ≤ log) (hfit : log + 8 * n ≤ N) (hN : N ≤ 65536) : PDisk 0 n log (DM.new N) (fun _ => List.replicate 512 0) := by
  have hS : (DM.new N).S = List.replicate N zsec := rfl
  have hl : (DM.new N).S.length = N := by rw [hS]; simp
  refine ⟨rfl, rfl, DM.ok_new N (by omega) hN, by rw [hl]; exact hfit, h1, h2, h3, ⟨[], [], ?_, rfl, fun _ => by simp [cntR], fun k hk => ?_⟩⟩
  · rw [hS, List.take_replicate, Nat.min_eq_left (by omega)]
    exact JDisk.zero
  · rw [getP_nil]
    symm
    refine home_of List.length_replicate fun i hi => ?_
    rw [hS, List.getElem?_replicate, if_pos (by omega), List.drop_replicate, List.take_replicate, show min 64 (512 - 64 * i) = 64 by omega]
    rfl

end Go.Proofs.Ytidpleejgalljaa

namespace Go.Proofs.Ytidpleejgalljaa

theorem take_same {S S' : List (List UInt8)} {log : Nat} (h : ∀ j, j < log → S'[j]? = S[j]?) : S'.take log = S.take log := by
  apply List.ext_getElem?
  intro j
  rw [List.getElem?_take, List.getElem?_take]
  by_cases hj : j < log
  · rw [if_pos hj, if_pos hj, h j hj]
  · rw [if_neg hj, if_neg hj]
theorem layJ_okD : ∀ (ss : List (List UInt8)) (D : DM) (pos : Nat), D.ok → (layJ D pos ss).1.ok
  | [], D, _, h => DM.ok_sync h
  | s :: ss, D, pos, h => by
    by_cases he : D.writeE (pos : Int) s = 0
    · rw [layJ_on he]; exact layJ_okD ss _ _ (DM.ok_write h _ _)
    · rw [layJ_stop he]; exact DM.ok_write h _ _
theorem appendD_ok {D : DM} {l : LG} {b : List UInt8} (h : D.ok) : (appendD D l b).ok := by
  unfold appendD
  split
  · exact h
  · split
    · exact h
    · split
      · exact h
      · exact layJ_okD _ _ _ h
theorem appendD_done (D : DM) (l : LG) (b : List UInt8) : (appendD D l b).done ≤ D.done + 65536 := by
  unfold appendD
  split
  · omega
  · split
    · omega
    · split
      · omega
      · have := layJ_done (sectorsOf l.ses l.num b) D (l.f + l.at_)
        rw [sectorsOf_len] at this
        omega
theorem st_of {D : DM} {log : Nat} (hd : D.dead = false) (hp : D.P = []) : St D 0 (D.S.take log) := ⟨hd, hp, [], D.S.drop log, by rw [List.nil_append, List.take_append_drop], rfl⟩
theorem st_take {D : DM} {V : List (List UInt8)} {log : Nat} (h : St D 0 V) (hl : V.length = log) : D.S.take log = V := by
  obtain ⟨S0, S1, e1, e2⟩ := h.part
  obtain rfl : S0 = [] := List.length_eq_zero_iff.1 e2
  rw [e1, List.nil_append]
  exact List.take_left' hl

section
variable {c : Nat} {s : PS} {C : Nat → List UInt8}
theorem PInv.lgAt (h : PInv c s C) : s.l.at_ ≤ s.l.n ∧ (s.D.S.take s.l.n).length = s.l.n ∧ (s.D.S.take s.l.n).take s.l.at_ ++ (s.D.S.take s.l.n).drop s.l.at_ = s.D.S.take s.l.n ∧ LgAt s.l 0 ((s.D.S.take s.l.n).take s.l.at_ ++ (s.D.S.take s.l.n).drop s.l.at_).length ((s.D.S.take s.l.n).take s.l.at_).length := by
  obtain ⟨R, h1, _, _⟩ := h.recs
  have h2 := h1.few
  rw [← h1.at_] at h2
  have h3 := h1.len
  refine ⟨h2, h3, List.take_append_drop .., ⟨h1.f, ?_, ?_, h1.br⟩⟩
  · rw [List.take_append_drop, h3]
  · rw [List.length_take, h3]; omega
/-- Append of a record that is taken over as these pages. -/
theorem PInv.app (h : PInv c s C) (hc : c + 1 < 4294967296) {b : List UInt8} {held' : PgM} (hb : takeP s.n b s.held = some held') (hne : held' ≠ []) :
    (65535 < needOf b.length ∧ appendE s.D s.l b = 4 ∧ s.laid b = s) ∨
    (needOf b.length ≤ 65535 ∧ s.l.n - s.l.at_ < needOf b.length ∧ appendE s.D s.l b = 5 ∧ s.laid b = s) ∨
    (appendE s.D s.l b = 0 ∧ PInv (c + 1) { s.laid b with held := held', late := [] } (fun k => (getP held' k).getD (homeP s.D.S s.l.n k)) ∧ (s.D.limit = -1 → (s.laid b).D.limit = -1) ∧ (s.laid b).l.n = s.l.n) ∨
    (appendE s.D s.l b = 10 ∧ (s.laid b).D.dead = true ∧ s.D.limit ≠ -1 ∧ (s.laid b).l.n = s.l.n ∧ ∀ K, PDisk (c + 1) s.n s.l.n ((s.laid b).D.reopen K) C ∨ PDisk (c + 1) s.n s.l.n ((s.laid b).D.reopen K) (fun k => (getP held' k).getD (homeP s.D.S s.l.n k))) := by
  obtain ⟨ha, hV, hAB, hL⟩ := h.lgAt
  obtain ⟨R, hj, ht, h1⟩ := h.recs
  have hfit := h.fit
  have hSt : St s.D 0 ((s.D.S.take s.l.n).take s.l.at_ ++ (s.D.S.take s.l.n).drop s.l.at_) := by rw [hAB]; exact st_of h.dead h.pend
  have hbr : ¬s.l.br = true := by rw [hj.br]; simp
  have hAl : ((s.D.S.take s.l.n).take s.l.at_).length = s.l.at_ := by rw [List.length_take, hV]; omega
  by_cases h65 : 65535 < needOf b.length
  · left
    refine ⟨h65, ?_, ?_⟩
    · unfold appendE; rw [if_neg hbr, if_pos h65]
    · unfold PS.laid appendD appendL
      rw [if_neg hbr, if_pos h65, if_neg hbr, if_pos h65]
  · right
    by_cases hroom : s.l.n - s.l.at_ < needOf b.length
    · left
      refine ⟨by omega, hroom, ?_, ?_⟩
      · unfold appendE; rw [if_neg hbr, if_neg h65, if_pos hroom]
      · unfold PS.laid appendD appendL
        rw [if_neg hbr, if_neg h65, if_pos hroom, if_neg hbr, if_neg h65, if_pos hroom]
    · right
      have hm : needOf b.length ≤ ((s.D.S.take s.l.n).drop s.l.at_).length := by rw [List.length_drop, hV]; omega
      have htouch : Touch (fun j => j < s.l.n) s.D.S (appendD s.D s.l b) := (Touch.refl h.pend).append s.l b (fun j _ h2 => by rw [hj.f] at h2; omega)
      have hhome : ∀ D' : DM, Touch (fun j => j < s.l.n) s.D.S D' → ∀ k, homeP D'.S s.l.n k = homeP s.D.S s.l.n k := fun D' ht' k => home_same fun i hi => ht'.same _ (by omega)
      have hcnt : ∀ st : Stamp, held' = [] → cntR (R ++ [(st, b)]) ≤ 1 := fun st e => absurd e hne
      have hRt : takeAll s.n ((R ++ [(stampAt s.l.ses s.l.num b, b)]).map (·.2)) [] = some held' := by
        rw [List.map_append, List.map_cons, List.map_nil, takeAll_snoc _ _ _ _ _ ht]
        exact hb
      by_cases hlim : 0 ≤ s.D.limit ∧ s.D.limit ≤ needOf b.length
      · right
        have hx := fun K => append_torn (b := b) hSt hL hm (by omega) hlim.1 hlim.2 K
        obtain ⟨e1, e2, e3, _, e5⟩ := hx []
        refine ⟨e1, e2, by omega, by show (appendL s.D s.l b).n = _; rw [e5], fun K => ?_⟩
        obtain ⟨_, _, _, ⟨T, hT1, hT2⟩, _⟩ := hx K
        have hTl : ((s.D.S.take s.l.n).take s.l.at_ ++ T).length = s.l.n := by rw [List.length_append, hT2.1, List.length_drop, hAl, hV]; omega
        have htk := st_take hT1 hTl
        have hto := htouch.reopen K
        have hfit' : s.l.n + 8 * s.n ≤ ((appendD s.D s.l b).reopen K).S.length := by rw [hto.len]; exact hfit
        rcases hj.torn hc (by omega) (by omega) hT2 with hd | hd
        · refine .inl ⟨rfl, rfl, DM.ok_reopen (appendD_ok h.ok) K, hfit', h.n1, h.n2, h.log1, ⟨R, s.held, ?_, ht, fun e => by rw [← hj.at_]; exact h1 e, fun k hk => ?_⟩⟩
          · show JDisk _ _ (((appendD s.D s.l b).reopen K).S.take s.l.n) R
            rw [htk]; exact hd
          · show C k = (getP s.held k).getD (homeP ((appendD s.D s.l b).reopen K).S s.l.n k)
            rw [hhome _ hto]; exact h.cont k hk
        · refine .inr ⟨rfl, rfl, DM.ok_reopen (appendD_ok h.ok) K, hfit', h.n1, h.n2, h.log1, ⟨_, held', ?_, hRt, hcnt _, fun k hk => ?_⟩⟩
          · show JDisk _ _ (((appendD s.D s.l b).reopen K).S.take s.l.n) _
            rw [htk]; exact hd
          · show _ = (getP held' k).getD (homeP ((appendD s.D s.l b).reopen K).S s.l.n k)
            rw [hhome _ hto]
      · left
        have hlim' : s.D.limit = -1 ∨ (needOf b.length : Int) < s.D.limit := by have := h.ok.lim; omega
        obtain ⟨e1, e2, e3, e4, e5⟩ := append_whole (b := b) hSt hL hm (by omega) hlim'
        have hw := hj.whole hc (b := b) (by omega) (by omega)
        have htk := st_take e2 hw.len
        have hlx : appendL s.D s.l b = { s.l with at_ := s.l.at_ + needOf b.length, num := (s.l.num + 1) % 4294967296 } := by rw [e3, hAl]
        refine ⟨e1, ⟨e2.dead, e2.pend, appendD_ok h.ok, ?_, h.n1, h.n2, ?_, ⟨_, ?_, hRt, fun e => absurd e hne⟩, PgOk.nil _, h.br, fun k hk => ?_⟩, fun hl => ?_, by show (appendL s.D s.l b).n = _; rw [hlx]⟩
        · show (appendL s.D s.l b).n + 8 * s.n ≤ (appendD s.D s.l b).S.length
          rw [hlx, htouch.len]; exact hfit
        · show 1 ≤ (appendL s.D s.l b).n
          rw [hlx]; exact h.log1
        · show JInv _ (appendL s.D s.l b).n ((appendD s.D s.l b).S.take (appendL s.D s.l b).n) _ (appendL s.D s.l b)
          rw [hlx]
          show JInv _ s.l.n ((appendD s.D s.l b).S.take s.l.n) _ _
          rw [htk]; exact hw
        · show _ = (getP held' k).getD (homeP (appendD s.D s.l b).S (appendL s.D s.l b).n k)
          rw [hlx]
          show _ = (getP held' k).getD (homeP (appendD s.D s.l b).S s.l.n k)
          rw [hhome _ htouch]
        · show (appendD s.D s.l b).limit = -1
          rw [e4, if_pos hl]

/-! ### Checkpoint -/
theorem take_empty (n : Nat) : takeAll n [[]] [] = some [] := rfl
theorem cnt_empty (a b : Nat) : cntR [(stampAt a b [], ([] : List UInt8))] ≤ 1 := by simp [cntR, stampAt, needOf]
theorem PInv.torn_home (h : PInv c s C) {D' : DM} (ht : Touch (QM s.l.n s.held) s.D.S D') (K : List Bool) : PDisk c s.n s.l.n (D'.reopen K) C ∨ D'.ok = False := by
  by_cases hok : D'.ok
  · left
    have ht' := ht.reopen K
    obtain ⟨R, hj, hta, h1⟩ := h.recs
    have htk : (D'.reopen K).S.take s.l.n = s.D.S.take s.l.n := take_same fun j hj => ht'.same j (fun hq => by have := QM_log hq; omega)
    refine ⟨rfl, rfl, DM.ok_reopen hok K, by rw [ht'.len]; exact h.fit, h.n1, h.n2, h.log1, ⟨R, s.held, by rw [htk]; exact hj.closed, hta, fun e => by rw [← hj.at_]; exact h1 e, fun k hk => ?_⟩⟩
    rw [h.cont k hk]
    cases hg : getP s.held k with
    | some b => rfl
    | none =>
      show homeP s.D.S s.l.n k = homeP (D'.reopen K).S s.l.n k
      refine (home_same fun i hi => ht'.same _ fun ⟨q, hq, h2, h3⟩ => ?_).symm
      have hk : q.1 = k := by omega
      rw [getP_of_mem h.held (j := k) (b := q.2) (by rw [← hk]; exact hq)] at hg
      cases hg
  · right; exact eq_false hok
theorem PInv.settle (h : PInv c s C) (hc : c + 1 < 4294967296) (_ : s.held ≠ []) :
    ((settleR s).2.2 = 0 ∧ PInv (c + 1) { s with D := (settleR s).1, l := (settleR s).2.1, held := [] } C ∧ (settleR s).2.1.n = s.l.n ∧ (s.D.limit = -1 → (settleR s).1.limit = -1)) ∨
    ((settleR s).2.2 = 10 ∧ (settleR s).1.dead = true ∧ s.D.limit ≠ -1 ∧ (settleR s).2.1.n = s.l.n ∧ ∀ K, PDisk (c + 1) s.n s.l.n ((settleR s).1.reopen K) C) := by
  obtain ⟨ha, hV, _, _⟩ := h.lgAt
  obtain ⟨R, hj, hta, h1⟩ := h.recs
  have hfit := h.fit
  have hlog := h.log1
  have hheld := h.held
  have hp : ∀ p ∈ secsM s.l.n s.held, p.1 < s.D.S.length ∧ p.2.length = 64 := fun p hp => by
    obtain ⟨q, hq, i, hi, rfl⟩ := secsM_mem.1 hp
    have := hheld.mem q hq
    refine ⟨by simp only; omega, ?_⟩
    simp only [List.length_take, List.length_drop]
    omega
  have ht1 : Touch (QM s.l.n s.held) s.D.S (seqW s.D (secsM s.l.n s.held)).1 := seqW_touch _ _ (Touch.refl h.pend) secsM_Q
  have hok1 := seqW_ok (secsM s.l.n s.held) s.D h.ok
  have hS1 := seqW_S (secsM s.l.n s.held) s.D
  rcases seqW_cases (secsM s.l.n s.held) s.D h.dead hp with ⟨a1, a2, a3, a4⟩ | ⟨a1, a2, a3⟩
  · have hP1 : (seqW s.D (secsM s.l.n s.held)).1.P = secsM s.l.n s.held := by rw [a3, h.pend, List.nil_append]
    have e : settleR s = if (seqW s.D (secsM s.l.n s.held)).1.syncE ≠ 0 then ((seqW s.D (secsM s.l.n s.held)).1.sync, s.l, (seqW s.D (secsM s.l.n s.held)).1.syncE) else (appendD (seqW s.D (secsM s.l.n s.held)).1.sync { s.l with at_ := 0 } [], appendL (seqW s.D (secsM s.l.n s.held)).1.sync { s.l with at_ := 0 } [], appendE (seqW s.D (secsM s.l.n s.held)).1.sync { s.l with at_ := 0 } []) := by
      unfold settleR
      rw [if_neg (by rw [a1]; decide)]
    obtain ⟨D1, hD1⟩ : ∃ D1, D1 = (seqW s.D (secsM s.l.n s.held)).1 := ⟨_, rfl⟩
    rw [← hD1] at e ht1 hok1 hS1 a2 a4 hP1
    clear hD1 a1 a3
    by_cases hl : D1.limit = 0
    · right
      have e1 : D1.syncE = 10 := by unfold DM.syncE; rw [if_neg (by rw [a2]; decide), if_pos hl]
      have e2 : D1.sync.dead = true := by unfold DM.sync; rw [if_neg (by rw [a2]; decide), if_pos hl]; rfl
      rw [if_pos (by rw [e1]; decide), e1] at e
      rw [e]
      refine ⟨rfl, e2, fun hx => by rw [a4 hx] at hl; exact absurd hl (by decide), rfl, fun K => ?_⟩
      rcases h.torn_home ht1.sync K with hd | hd
      · exact hd.mono (by omega)
      · exact absurd (DM.ok_sync hok1) (by rw [hd]; exact id)
    · have e1 : D1.syncE = 0 := by unfold DM.syncE; rw [if_neg (by rw [a2]; decide), if_neg hl]
      have e2 : D1.sync = { D1.spent with S := layAll D1.S D1.P, P := [] } := by unfold DM.sync; rw [if_neg (by rw [a2]; decide), if_neg hl]
      rw [if_neg (by rw [e1]; decide)] at e
      have hok2 := DM.ok_sync hok1
      have hd2 : D1.sync.dead = false := by rw [e2]; exact a2
      have hp2 : D1.sync.P = [] := by rw [e2]
      have hS2 : D1.sync.S = layAll s.D.S (secsM s.l.n s.held) := by rw [e2]; show layAll D1.S D1.P = _; rw [hS1, hP1]
      have hl2 : s.D.limit = -1 → D1.sync.limit = -1 := fun hx => by
        rw [e2]
        show (if 0 < D1.limit then D1.limit - 1 else D1.limit) = -1
        rw [a4 hx, if_neg (by decide)]
      clear e2 e1 hl a2 a4 hP1 hS1 ht1 hok1
      generalize D1.sync = D2 at e hok2 hd2 hp2 hS2 hl2
      have hhome2 : ∀ k, homeP D2.S s.l.n k = (getP s.held k).getD (homeP s.D.S s.l.n k) := fun k => by rw [hS2]; exact settled_home hheld hfit
      have htk2 : D2.S.take s.l.n = s.D.S.take s.l.n := take_same fun j hj' => by
        rw [hS2]
        refine layAll_other _ _ _ fun p hp' e' => ?_
        have := QM_log (secsM_Q p hp')
        omega
      have hlen2 : D2.S.length = s.D.S.length := by rw [hS2, layAll_len]
      have hSt : St D2 0 ([] ++ s.D.S.take s.l.n) := by rw [List.nil_append, ← htk2]; exact st_of hd2 hp2
      have hL : LgAt { s.l with at_ := 0 } 0 (([] : List (List UInt8)) ++ s.D.S.take s.l.n).length ([] : List (List UInt8)).length := ⟨hj.f, by rw [List.nil_append, hV], rfl, hj.br⟩
      have hn1 : needOf ([] : List UInt8).length = 1 := rfl
      have hm : needOf ([] : List UInt8).length ≤ (s.D.S.take s.l.n).length := by rw [hV, hn1]; exact hlog
      have hto : Touch (fun j => j < s.l.n) D2.S (appendD D2 { s.l with at_ := 0 } []) := (Touch.refl hp2).append _ _ (fun j _ h2 => by
        have h2 : j < s.l.f + 0 + 1 := h2
        rw [hj.f] at h2
        omega)
      have hhome3 : ∀ D' : DM, Touch (fun j => j < s.l.n) D2.S D' → ∀ k, homeP D'.S s.l.n k = (getP s.held k).getD (homeP s.D.S s.l.n k) := fun D' ht' k => by
        rw [← hhome2 k]
        exact home_same fun i hi => ht'.same _ (by omega)
      rw [e]
      by_cases hlim : 0 ≤ D2.limit ∧ D2.limit ≤ needOf ([] : List UInt8).length
      · right
        have hx := fun K => append_torn (b := []) hSt hL hm (by rw [hn1]; omega) hlim.1 hlim.2 K
        obtain ⟨f1, f2, _, _, f5⟩ := hx []
        refine ⟨f1, f2, fun hx => by rw [hl2 hx] at hlim; exact absurd hlim.1 (by decide), by show (appendL D2 { s.l with at_ := 0 } []).n = _; rw [f5], fun K => ?_⟩
        obtain ⟨_, _, _, ⟨T, hT1, hT2⟩, _⟩ := hx K
        rw [List.nil_append] at hT1
        have htk := st_take hT1 (by rw [hT2.1, hV])
        have hto' := hto.reopen K
        have hfit' : s.l.n + 8 * s.n ≤ ((appendD D2 { s.l with at_ := 0 } []).reopen K).S.length := by rw [hto'.len, hlen2]; exact hfit
        rcases hj.anewTorn hc hn1 hlog hT2 with hd | hd
        · refine ⟨rfl, rfl, DM.ok_reopen (appendD_ok hok2) K, hfit', h.n1, h.n2, hlog, ⟨R, s.held, ?_, hta, fun e => by rw [← hj.at_]; exact h1 e, fun k hk => ?_⟩⟩
          · show JDisk _ _ (((appendD D2 { s.l with at_ := 0 } []).reopen K).S.take s.l.n) R
            rw [htk]; exact hd
          · show C k = (getP s.held k).getD (homeP ((appendD D2 { s.l with at_ := 0 } []).reopen K).S s.l.n k)
            rw [hhome3 _ hto', h.cont k hk]
            cases getP s.held k <;> rfl
        · refine ⟨rfl, rfl, DM.ok_reopen (appendD_ok hok2) K, hfit', h.n1, h.n2, hlog, ⟨[(stampAt s.l.ses s.l.num [], [])], [], ?_, take_empty _, fun _ => cnt_empty _ _, fun k hk => ?_⟩⟩
          · show JDisk _ _ (((appendD D2 { s.l with at_ := 0 } []).reopen K).S.take s.l.n) _
            rw [htk]; exact hd
          · show C k = homeP ((appendD D2 { s.l with at_ := 0 } []).reopen K).S s.l.n k
            rw [hhome3 _ hto', h.cont k hk]
      · left
        have hlim' : D2.limit = -1 ∨ (needOf ([] : List UInt8).length : Int) < D2.limit := by have := hok2.lim; omega
        obtain ⟨f1, f2, f3, f4, _⟩ := append_whole (b := []) hSt hL hm (by rw [hn1]; omega) hlim'
        rw [List.nil_append] at f2
        have hw := hj.anew hc (b := []) (by rw [hn1]; omega) (by rw [hn1]; exact hlog)
        have htk := st_take f2 hw.len
        have hlx : appendL D2 { s.l with at_ := 0 } [] = { s.l with at_ := needOf ([] : List UInt8).length, num := (s.l.num + 1) % 4294967296 } := by rw [f3]; rfl
        refine ⟨f1, ⟨f2.dead, f2.pend, appendD_ok hok2, ?_, h.n1, h.n2, ?_, ⟨[(stampAt s.l.ses s.l.num [], [])], ?_, take_empty _, fun _ => ?_⟩, h.late, h.br, fun k hk => ?_⟩, by show (appendL D2 { s.l with at_ := 0 } []).n = _; rw [hlx], fun hx => by show (appendD D2 { s.l with at_ := 0 } []).limit = -1; rw [f4, if_pos (hl2 hx)]⟩
        · show (appendL D2 { s.l with at_ := 0 } []).n + 8 * s.n ≤ (appendD D2 { s.l with at_ := 0 } []).S.length
          rw [hlx, hto.len, hlen2]; exact hfit
        · show 1 ≤ (appendL D2 { s.l with at_ := 0 } []).n
          rw [hlx]; exact hlog
        · show JInv _ (appendL D2 { s.l with at_ := 0 } []).n ((appendD D2 { s.l with at_ := 0 } []).S.take (appendL D2 { s.l with at_ := 0 } []).n) _ (appendL D2 { s.l with at_ := 0 } [])
          rw [hlx]
          show JInv _ s.l.n ((appendD D2 { s.l with at_ := 0 } []).S.take s.l.n) _ _
          rw [htk]; exact hw
        · show (appendL D2 { s.l with at_ := 0 } []).at_ ≤ 1
          rw [hlx]; exact Nat.le_of_eq hn1
        · show C k = homeP (appendD D2 { s.l with at_ := 0 } []).S (appendL D2 { s.l with at_ := 0 } []).n k
          rw [hlx]
          show C k = homeP (appendD D2 { s.l with at_ := 0 } []).S s.l.n k
          rw [hhome3 _ hto, h.cont k hk]
  · right
    have e : settleR s = ((seqW s.D (secsM s.l.n s.held)).1, s.l, 10) := by
      unfold settleR
      rw [if_pos (by rw [a1]; decide), a1]
    rw [e]
    refine ⟨rfl, a2, a3, rfl, fun K => ?_⟩
    rcases h.torn_home ht1 K with hd | hd
    · exact hd.mono (by omega)
    · exact absurd hok1 (by rw [hd]; exact id)
theorem PInv.congr {C' : Nat → List UInt8} (h : PInv c s C) (he : ∀ k, k < s.n → C k = C' k) : PInv c s C' :=
  ⟨h.dead, h.pend, h.ok, h.fit, h.n1, h.n2, h.log1, h.recs, h.late, h.br, fun k hk => by rw [← he k hk]; exact h.cont k hk⟩
theorem PDisk.congr {n log : Nat} {D : DM} {C' : Nat → List UInt8} (h : PDisk c n log D C) (he : ∀ k, k < n → C k = C' k) : PDisk c n log D C' := by
  obtain ⟨R, H, h1, h2, h3, h4⟩ := h.recs
  exact ⟨h.dead, h.pend, h.ok, h.fit, h.n1, h.n2, h.log1, ⟨R, H, h1, h2, h3, fun k hk => by rw [← he k hk]; exact h4 k hk⟩⟩
theorem PInv.checked (h : PInv c s C) (hc : c + 1 < 4294967296) :
    (s.check.2 = 0 ∧ PInv (c + 1) s.check.1 C ∧ s.check.1.held = [] ∧ s.check.1.late = s.late ∧ s.check.1.n = s.n ∧ s.check.1.l.n = s.l.n ∧ (s.D.limit = -1 → s.check.1.D.limit = -1)) ∨
    (s.check.2 = 10 ∧ s.check.1.D.dead = true ∧ s.D.limit ≠ -1 ∧ ∀ K, PDisk (c + 1) s.n s.l.n (s.check.1.D.reopen K) C) := by
  have hbr : ¬s.br = true := by rw [h.br]; decide
  unfold PS.check
  rw [if_neg hbr]
  by_cases hh : s.held = []
  · rw [if_pos hh]
    exact .inl ⟨rfl, h.mono (by omega), hh, rfl, rfl, rfl, fun h => h⟩
  · rw [if_neg hh]
    rcases h.settle hc hh with ⟨a1, a2, a3, a4⟩ | ⟨a1, a2, a3, a4, a5⟩
    · rw [if_neg (by rw [a1]; decide)]
      exact .inl ⟨rfl, a2, rfl, rfl, rfl, a3, a4⟩
    · rw [if_pos (by rw [a1]; decide)]
      exact .inr ⟨a1, a2, a3, a5⟩
theorem merge_some {n : Nat} {d m : PgM} (hm : PgOk n m) (hne : m ≠ []) : mergeP d m ≠ [] := by
  intro e
  cases m with
  | nil => exact hne rfl
  | cons p m =>
    have h1 := getP_merge (p :: m) d hm p.1
    rw [e, getP_nil, getP_cons, if_pos rfl] at h1
    cases h1
theorem over_merge (h : PInv c s C) (m : PgM) (hm : PgOk s.n m) {k : Nat} (hk : k < s.n) : (getP (mergeP s.held m) k).getD (homeP s.D.S s.l.n k) = over C m k := by
  unfold over
  rw [getP_merge m s.held hm, h.cont k hk]
  cases getP m k <;> rfl
theorem PInv.committed (h : PInv c s C) (hc : c + 4 < 4294967296) :
    (s.commit.2 = 0 ∧ PInv (c + 3) s.commit.1 (over C s.late) ∧ s.commit.1.late = [] ∧ s.commit.1.n = s.n ∧ s.commit.1.l.n = s.l.n ∧ (s.D.limit = -1 → s.commit.1.D.limit = -1)) ∨
    ((s.commit.2 = 4 ∨ s.commit.2 = 5) ∧ PInv (c + 3) s.commit.1 C ∧ s.commit.1.late = s.late ∧ s.commit.1.n = s.n ∧ s.commit.1.l.n = s.l.n ∧ (s.D.limit = -1 → s.commit.1.D.limit = -1) ∧ (65535 < needOf (recP s.late).length ∨ s.l.n < needOf (recP s.late).length + 1)) ∨
    (s.commit.2 = 10 ∧ s.commit.1.D.dead = true ∧ s.D.limit ≠ -1 ∧ ∀ K, PDisk (c + 3) s.n s.l.n (s.commit.1.D.reopen K) C ∨ PDisk (c + 3) s.n s.l.n (s.commit.1.D.reopen K) (over C s.late)) := by
  have hbr : ¬s.br = true := by rw [h.br]; decide
  by_cases hl : s.late = []
  · have e : s.commit = (s, 0) := by unfold PS.commit; rw [if_neg hbr, if_pos hl]
    rw [e]
    exact .inl ⟨rfl, (h.mono (by omega)).congr fun k _ => by rw [hl]; rfl, hl, rfl, rfl, fun h => h⟩
  · have hcm : s.commit = if (s.append (recP s.late)).2 ≠ 0 then ({ (s.append (recP s.late)).1 with br := (s.append (recP s.late)).1.br || ((s.append (recP s.late)).2 != 5 && (s.append (recP s.late)).2 != 4) }, (s.append (recP s.late)).2)
        else ({ (s.append (recP s.late)).1 with held := mergeP (s.append (recP s.late)).1.held s.late, late := [] }, 0) := by
      unfold PS.commit; rw [if_neg hbr, if_neg hl]
    have hn := h.n2
    have hb : takeP s.n (recP s.late) s.held = some (mergeP s.held s.late) := take_rec (by omega) s.late s.held h.late.mem
    rcases h.app (by omega) hb (merge_some h.late hl) with ⟨a1, a2, a3⟩ | ⟨a1, a2, a3, a4⟩ | ⟨a1, a2, a3, a4⟩ | ⟨a1, a2, a3, a4, a5⟩
    · have e : s.append (recP s.late) = (s, 4) := by
        unfold PS.append
        rw [if_pos (.inl (by rw [a2]; decide)), a3, a2]
      rw [e, if_pos (by simp)] at hcm
      rw [hcm]
      exact .inr (.inl ⟨.inl rfl, ⟨h.dead, h.pend, h.ok, h.fit, h.n1, h.n2, h.log1, (h.mono (by omega : c ≤ c + 3)).recs, h.late, by rw [h.br]; rfl, h.cont⟩, rfl, rfl, rfl, fun h => h, .inl a1⟩)
    · by_cases hh : s.held = []
      · have e : s.append (recP s.late) = (s, 5) := by
          unfold PS.append
          rw [if_pos (.inr hh), a4, a3]
        rw [e, if_pos (by simp)] at hcm
        rw [hcm]
        obtain ⟨R, _, _, h1⟩ := h.recs
        exact .inr (.inl ⟨.inr rfl, ⟨h.dead, h.pend, h.ok, h.fit, h.n1, h.n2, h.log1, (h.mono (by omega : c ≤ c + 3)).recs, h.late, by rw [h.br]; rfl, h.cont⟩, rfl, rfl, rfl, fun h => h, .inr (by have := h1 hh; omega)⟩)
      · have e : s.append (recP s.late) = if s.check.2 ≠ 0 then s.check else (s.check.1.laid (recP s.late), appendE s.check.1.D s.check.1.l (recP s.late)) := by
          unfold PS.append
          rw [if_neg (by rintro (hx | hx); exact hx a3; exact hh hx), a4]
        rcases h.checked (by omega) with ⟨b1, b2, b3, b4, b5, b6, b7⟩ | ⟨b1, b2, b3, b4⟩
        · rw [if_neg (by rw [b1]; decide)] at e
          generalize s.check.1 = s2 at *
          have hb2 : takeP s2.n (recP s.late) s2.held = some (mergeP s2.held s.late) := take_rec (by omega) s.late s2.held (by rw [b5]; exact h.late.mem)
          have hl2 : PgOk s2.n s.late := by rw [b5]; exact h.late
          rcases b2.app (by omega) hb2 (merge_some hl2 hl) with ⟨c1, _⟩ | ⟨c1, c2, c3, c4⟩ | ⟨c1, c2, c3, c4⟩ | ⟨c1, c2, c3, c4, c5⟩
          · omega
          · rw [c3, c4] at e
            rw [e, if_pos (by simp)] at hcm
            rw [hcm]
            obtain ⟨R, _, _, h1⟩ := b2.recs
            have := h1 b3
            exact .inr (.inl ⟨.inr rfl, ⟨b2.dead, b2.pend, b2.ok, b2.fit, b2.n1, b2.n2, b2.log1, (b2.mono (by omega : c + 1 ≤ c + 3)).recs, b2.late, by rw [b2.br]; rfl, b2.cont⟩, b4, b5, b6, b7, .inr (by rw [← b6]; omega)⟩)
          · rw [c1] at e
            rw [e, if_neg (by simp)] at hcm
            rw [hcm]
            exact .inl ⟨rfl, (c2.mono (by omega)).congr fun k hk => over_merge b2 s.late hl2 hk, rfl, b5, by rw [← b6]; exact c4, fun hx => c3 (b7 hx)⟩
          · rw [c1] at e
            rw [e, if_pos (by simp)] at hcm
            rw [hcm]
            refine .inr (.inr ⟨rfl, c2, fun hx => c3 (b7 hx), fun K => ?_⟩)
            rw [← b5, ← b6]
            rcases c5 K with d | d
            · exact .inl (d.mono (by omega))
            · exact .inr ((d.mono (by omega)).congr fun k hk => over_merge b2 s.late hl2 hk)
        · rw [if_pos (by rw [b1]; decide)] at e
          rw [e, if_pos (by rw [b1]; decide)] at hcm
          rw [hcm]
          exact .inr (.inr ⟨b1, b2, b3, fun K => .inl ((b4 K).mono (by omega))⟩)
    · have e : s.append (recP s.late) = (s.laid (recP s.late), 0) := by
        unfold PS.append
        rw [if_pos (.inl (by rw [a1]; decide)), a1]
      rw [e, if_neg (by simp)] at hcm
      rw [hcm]
      exact .inl ⟨rfl, (a2.mono (by omega)).congr fun k hk => over_merge h s.late h.late hk, rfl, rfl, a4, a3⟩
    · have e : s.append (recP s.late) = (s.laid (recP s.late), 10) := by
        unfold PS.append
        rw [if_pos (.inl (by rw [a1]; decide)), a1]
      rw [e, if_pos (by simp)] at hcm
      rw [hcm]
      refine .inr (.inr ⟨rfl, a2, a3, fun K => ?_⟩)
      rcases a5 K with d | d
      · exact .inl (d.mono (by omega))
      · exact .inr ((d.mono (by omega)).congr fun k hk => over_merge h s.late h.late hk)
end

end Go.Proofs.Ytidpleejgalljaa
