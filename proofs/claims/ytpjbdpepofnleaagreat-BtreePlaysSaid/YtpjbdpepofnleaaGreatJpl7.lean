/-
  Joined by join.py: Pq Pt Lay Pu Gen
-/
import Derived.Maps.OwnSet
import Derived.Lib.SlKeysI
import Derived.Lib.SlMapMerge
import Derived.Shelf.SlIterI.Nil
import Derived.Shelf.SortM.Plain
import Derived.Shelf.SortM.SortNone
import Derived.Test.YtpjbdpepofnleaaGreatProg
import Derived.Test.YtpjbdpepofnleaaGreatJpl6
set_option maxRecDepth 100000
set_option maxHeartbeats 32000000
namespace Go.Proofs.YtpjbdpepofnleaaGreat
section
structure PS where
 D : DM
 l : LG
 n : Nat
 late : PgM
 held : PgM
 br : Bool
def homeP (S : List (List UInt8)) (log k : Nat) : List UInt8 := ((S.drop (log + 8 * k)).take 8).flatten
def secsM (log : Nat) (m : PgM) : List (Nat × List UInt8) := m.flatMap fun p => (List.range 8).map fun i => (log + 8 * p.1 + i, (p.2.drop (64 * i)).take 64)
def settleR (s : PS) : DM × LG × Int :=
 if (seqW s.D (secsM s.l.n s.held)).2 ≠ 0 then ((seqW s.D (secsM s.l.n s.held)).1, s.l, (seqW s.D (secsM s.l.n s.held)).2)
 else if (seqW s.D (secsM s.l.n s.held)).1.syncE ≠ 0 then ((seqW s.D (secsM s.l.n s.held)).1.sync, s.l, (seqW s.D (secsM s.l.n s.held)).1.syncE)
 else (appendD (seqW s.D (secsM s.l.n s.held)).1.sync { s.l with at_ := 0 } [], appendL (seqW s.D (secsM s.l.n s.held)).1.sync { s.l with at_ := 0 } [], appendE (seqW s.D (secsM s.l.n s.held)).1.sync { s.l with at_ := 0 } [])
def PS.check (s : PS) : PS × Int :=
 if s.br then (s, 10) else if s.held = [] then (s, 0)
 else if (settleR s).2.2 ≠ 0 then ({ s with D := (settleR s).1, l := (settleR s).2.1, br := true }, (settleR s).2.2)
 else ({ s with D := (settleR s).1, l := (settleR s).2.1, held := [] }, 0)
def PS.laid (s : PS) (b : List UInt8) : PS := { s with D := appendD s.D s.l b, l := appendL s.D s.l b }
def PS.append (s : PS) (b : List UInt8) : PS × Int :=
 if appendE s.D s.l b ≠ 5 ∨ s.held = [] then (s.laid b, appendE s.D s.l b)
 else if (s.laid b).check.2 ≠ 0 then (s.laid b).check
 else ((s.laid b).check.1.laid b, appendE (s.laid b).check.1.D (s.laid b).check.1.l b)
def PS.commit (s : PS) : PS × Int :=
 if s.br then (s, 10) else if s.late = [] then (s, 0)
 else if (s.append (recP s.late)).2 ≠ 0 then ({ (s.append (recP s.late)).1 with br := (s.append (recP s.late)).1.br || ((s.append (recP s.late)).2 != 5 && (s.append (recP s.late)).2 != 4) }, (s.append (recP s.late)).2)
 else ({ (s.append (recP s.late)).1 with held := mergeP (s.append (recP s.late)).1.held s.late, late := [] }, 0)
def over (C : Nat -> List UInt8) (m : PgM) (k : Nat) : List UInt8 := (getP m k).getD (C k)
theorem chop_flat (b : List UInt8) : ∀ m, ((List.range m).map fun i => (b.drop (64 * i)).take 64).flatten = b.take (64 * m)
 | 0 => by simp
 | m + 1 => by
  rw [List.range_succ, List.map_append, List.flatten_append, chop_flat b m]; simp only [List.map_cons, List.map_nil, List.flatten_cons, List.flatten_nil, List.append_nil]; rw [show 64 * (m + 1) = 64 * m + 64 by omega, List.take_add]
theorem home_of {S : List (List UInt8)} {log k : Nat} {b : List UInt8} (hb : b.length = 512) (h : ∀ i, i < 8 -> S[log + 8 * k + i]? = some ((b.drop (64 * i)).take 64)) : homeP S log k = b := by
 have e : (S.drop (log + 8 * k)).take 8 = (List.range 8).map fun i => (b.drop (64 * i)).take 64 := by
  apply List.ext_getElem?
  intro i; rw [List.getElem?_take]
  by_cases hi : i < 8
  ·rw [if_pos hi, List.getElem?_drop, h i hi, List.getElem?_map, List.getElem?_range hi]
   rfl
  ·rw [if_neg hi, List.getElem?_eq_none (by simp; omega)]
 unfold homeP; rw [e, chop_flat, List.take_of_length_le (by omega)]
theorem home_same {S S' : List (List UInt8)} {log k : Nat} (h : ∀ i, i < 8 -> S'[log + 8 * k + i]? = S[log + 8 * k + i]?) : homeP S' log k = homeP S log k := by
 unfold homeP
 congr 1
 apply List.ext_getElem?
 intro i; rw [List.getElem?_take, List.getElem?_take]
 by_cases hi : i < 8
 ·rw [if_pos hi, if_pos hi, List.getElem?_drop, List.getElem?_drop, h i hi]
 ·rw [if_neg hi, if_neg hi]
theorem secsM_mem {log : Nat} {m : PgM} {p : Nat × List UInt8} : p ∈ secsM log m ↔ ∃ q ∈ m, ∃ i, i < 8 /\ p = (log + 8 * q.1 + i, (q.2.drop (64 * i)).take 64) := by
 unfold secsM; rw [List.mem_flatMap]
 constructor
 ·rintro ⟨q, hq, h⟩; obtain ⟨i, hi, rfl⟩ := List.mem_map.1 h; exact ⟨q, hq, i, List.mem_range.1 hi, rfl⟩
 ·rintro ⟨q, hq, i, hi, rfl⟩; exact ⟨q, hq, List.mem_map.2 ⟨i, List.mem_range.2 hi, rfl⟩⟩
theorem secsM_len {log : Nat} : ∀ (m : PgM), (secsM log m).length = 8 * m.length
 | [] => rfl
 | p :: m => by
  have ih := secsM_len (log := log) m; unfold secsM at ih ⊢; rw [List.flatMap_cons, List.length_append, ih]
  simp
  omega
def QM (log : Nat) (m : PgM) (j : Nat) : Prop := ∃ q ∈ m, log + 8 * q.1 <= j /\ j < log + 8 * q.1 + 8
theorem secsM_Q {log : Nat} {m : PgM} : ∀ p ∈ secsM log m, QM log m p.1 := fun p hp => by
 obtain ⟨q, hq, i, hi, rfl⟩ := secsM_mem.1 hp; exact ⟨q, hq, by simp only; omega, by simp only; omega⟩
theorem QM_log {log : Nat} {m : PgM} {j : Nat} (h : QM log m j) : log <= j := by
 obtain ⟨q, _, h1, _⟩ := h; omega
theorem settled_home {n log : Nat} {m : PgM} {S : List (List UInt8)} (hm : PgOk n m) (hfit : log + 8 * n <= S.length) {k : Nat} : homeP (layAll S (secsM log m)) log k = (getP m k).getD (homeP S log k) := by
 cases hg : getP m k with
 | none =>
  refine home_same fun i hi => layAll_other _ _ _ fun p hp e => ?_; obtain ⟨q, hq, j, hj, rfl⟩ := secsM_mem.1 hp; have hk : q.1 = k := by simp only at e; omega
  rw [getP_of_mem hm (j := k) (b := q.2) (by rw [<- hk]; exact hq)] at hg
  cases hg
 | some b =>
  have hb := getP_len hm hg; refine home_of hb.2 fun i hi => layAll_at _ _ (by omega) (fun p hp e => ?_) (.inr ⟨_, secsM_mem.2 ⟨(k, b), getP_mem hg, i, hi, rfl⟩, rfl⟩); obtain ⟨q, hq, j, hj, rfl⟩ := secsM_mem.1 hp; have hk : q.1 = k /\ j = i := by simp only at e; omega
  obtain ⟨h1, rfl⟩ := hk; have h2 := getP_of_mem hm (j := k) (b := q.2) (by rw [<- h1]; exact hq); rw [hg] at h2; injection h2 with h2; rw [h2]
  rfl
structure PDisk (c n log : Nat) (D : DM) (C : Nat -> List UInt8) : Prop where
 dead : D.dead = false
 pend : D.P = []
 ok : D.ok
 fit : log + 8 * n <= D.S.length
 n1 : 1 <= n
 n2 : n <= 4096
 log1 : 1 <= log
 recs : ∃ R H, JDisk c log (D.S.take log) R /\ takeAll n (R.map (·.2)) [] = some H /\ (H = [] -> cntR R <= 1) /\ ∀ k, k < n -> C k = (getP H k).getD (homeP D.S log k)
structure PInv (c : Nat) (s : PS) (C : Nat -> List UInt8) : Prop where
 dead : s.D.dead = false
 pend : s.D.P = []
 ok : s.D.ok
 fit : s.l.n + 8 * s.n <= s.D.S.length
 n1 : 1 <= s.n
 n2 : s.n <= 4096
 log1 : 1 <= s.l.n
 recs : ∃ R, JInv c s.l.n (s.D.S.take s.l.n) R s.l /\ takeAll s.n (R.map (·.2)) [] = some s.held /\ (s.held = [] -> s.l.at_ <= 1)
 late : PgOk s.n s.late
 br : s.br = false
 cont : ∀ k, k < s.n -> C k = (getP s.held k).getD (homeP s.D.S s.l.n k)
theorem PInv.held {c : Nat} {s : PS} {C : Nat -> List UInt8} (h : PInv c s C) : PgOk s.n s.held := by
 obtain ⟨R, _, h2, _⟩ := h.recs; exact takeAll_ok _ _ _ (PgOk.nil _) h2
theorem PInv.mono {c c' : Nat} {s : PS} {C : Nat -> List UInt8} (h : PInv c s C) (hc : c <= c') : PInv c' s C := by
 obtain ⟨R, h1, h2, h3⟩ := h.recs; exact ⟨h.dead, h.pend, h.ok, h.fit, h.n1, h.n2, h.log1, ⟨R, h1.mono hc, h2, h3⟩, h.late, h.br, h.cont⟩
theorem PDisk.mono {c c' n log : Nat} {D : DM} {C : Nat -> List UInt8} (h : PDisk c n log D C) (hc : c <= c') : PDisk c' n log D C := by
 obtain ⟨R, H, h1, h2, h3, h4⟩ := h.recs; exact ⟨h.dead, h.pend, h.ok, h.fit, h.n1, h.n2, h.log1, ⟨R, H, h1.mono hc, h2, h3, h4⟩⟩
def openP (n log : Nat) (D : DM) (H : PgM) : PS := { D := D, l := logOf log (D.S.take log), n := n, late := [], held := H, br := false }
theorem PDisk.open_ {c n log : Nat} {D : DM} {C : Nat -> List UInt8} (h : PDisk c n log D C) (hc : c + 1 < 4294967296) :
  ∃ H, takeAll n ((recordsOf log none (D.S.take log)).map (·.2)) [] = some H /\ PInv (c + 1) (openP n log D H) C /\ (newestOf (D.S.take log)).1 < 4294967295 := by
 obtain ⟨R, H, h1, h2, h3, h4⟩ := h.recs; have hj := h1.open_ hc; refine ⟨H, by rw [h1.recs]; exact h2, ⟨h.dead, h.pend, h.ok, h.fit, h.n1, h.n2, h.log1, ⟨R, hj, h2, fun e => ?_⟩, PgOk.nil _, rfl, h4⟩, by have := h1.newest; omega⟩
 show (logOf log (D.S.take log)).at_ <= 1
 rw [hj.at_]; exact h3 e
theorem PInv.wrote {c : Nat} {s : PS} {C : Nat -> List UInt8} (h : PInv c s C) {k : Nat} {b : List UInt8} (hk : k < s.n) (hb : b.length = 512) : PInv c { s with late := putP s.late k b } C :=
 ⟨h.dead, h.pend, h.ok, h.fit, h.n1, h.n2, h.log1, h.recs, h.late.put hk hb, h.br, h.cont⟩
theorem PInv.rolled {c : Nat} {s : PS} {C : Nat -> List UInt8} (h : PInv c s C) : PInv c { s with late := [] } C :=
 ⟨h.dead, h.pend, h.ok, h.fit, h.n1, h.n2, h.log1, h.recs, PgOk.nil _, h.br, h.cont⟩
theorem PDisk.new {n log N : Nat} (h1 : 1 <= n) (h2 : n <= 4096) (h3 : 1 <= log) (hfit : log + 8 * n <= N) (hN : N <= 65536) : PDisk 0 n log (DM.new N) (fun _ => List.replicate 512 0) := by
 have hS : (DM.new N).S = List.replicate N zsec := rfl; have hl : (DM.new N).S.length = N := by rw [hS]; simp
 refine ⟨rfl, rfl, DM.ok_new N (by omega) hN, by rw [hl]; exact hfit, h1, h2, h3, ⟨[], [], ?_, rfl, fun _ => by simp [cntR], fun k hk => ?_⟩⟩
 ·rw [hS, List.take_replicate, Nat.min_eq_left (by omega)]; exact JDisk.zero
 ·rw [getP_nil]
  symm
  refine home_of List.length_replicate fun i hi => ?_; rw [hS, List.getElem?_replicate, if_pos (by omega), List.drop_replicate, List.take_replicate, show min 64 (512 - 64 * i) = 64 by omega]
  rfl

theorem take_same {S S' : List (List UInt8)} {log : Nat} (h : ∀ j, j < log -> S'[j]? = S[j]?) : S'.take log = S.take log := by
 apply List.ext_getElem?
 intro j; rw [List.getElem?_take, List.getElem?_take]
 by_cases hj : j < log
 ·rw [if_pos hj, if_pos hj, h j hj]
 ·rw [if_neg hj, if_neg hj]
theorem layJ_okD : ∀ (ss : List (List UInt8)) (D : DM) (pos : Nat), D.ok -> (layJ D pos ss).1.ok
 | [], D, _, h => DM.ok_sync h
 | s :: ss, D, pos, h => by
  by_cases he : D.writeE (pos : Int) s = 0
  ·rw [layJ_on he]; exact layJ_okD ss _ _ (DM.ok_write h _ _)
  ·rw [layJ_stop he]; exact DM.ok_write h _ _
theorem appendD_ok {D : DM} {l : LG} {b : List UInt8} (h : D.ok) : (appendD D l b).ok := by
 unfold appendD
 split
 ·exact h
 ·split
  ·exact h
  ·split
   ·exact h
   ·exact layJ_okD _ _ _ h
theorem appendD_done (D : DM) (l : LG) (b : List UInt8) : (appendD D l b).done <= D.done + 65536 := by
 unfold appendD
 split
 ·omega
 ·split
  ·omega
  ·split
   ·omega
   ·have := layJ_done (sectorsOf l.ses l.num b) D (l.f + l.at_); rw [sectorsOf_len] at this; omega
theorem st_of {D : DM} {log : Nat} (hd : D.dead = false) (hp : D.P = []) : St D 0 (D.S.take log) := ⟨hd, hp, [], D.S.drop log, by rw [List.nil_append, List.take_append_drop], rfl⟩
theorem st_take {D : DM} {V : List (List UInt8)} {log : Nat} (h : St D 0 V) (hl : V.length = log) : D.S.take log = V := by
 obtain ⟨S0, S1, e1, e2⟩ := h.part; obtain rfl : S0 = [] := List.length_eq_zero_iff.1 e2; rw [e1, List.nil_append]; exact List.take_left' hl
section
variable {c : Nat} {s : PS} {C : Nat -> List UInt8}
theorem PInv.lgAt (h : PInv c s C) : s.l.at_ <= s.l.n /\ (s.D.S.take s.l.n).length = s.l.n /\ (s.D.S.take s.l.n).take s.l.at_ ++ (s.D.S.take s.l.n).drop s.l.at_ = s.D.S.take s.l.n /\ LgAt s.l 0 ((s.D.S.take s.l.n).take s.l.at_ ++ (s.D.S.take s.l.n).drop s.l.at_).length ((s.D.S.take s.l.n).take s.l.at_).length := by
 obtain ⟨R, h1, _, _⟩ := h.recs; have h2 := h1.few; rw [<- h1.at_] at h2; have h3 := h1.len; refine ⟨h2, h3, List.take_append_drop .., ⟨h1.f, ?_, ?_, h1.br⟩⟩
 ·rw [List.take_append_drop, h3]
 ·rw [List.length_take, h3]; omega
theorem PInv.app (h : PInv c s C) (hc : c + 1 < 4294967296) {b : List UInt8} {held' : PgM} (hb : takeP s.n b s.held = some held') (hne : held' ≠ []) :
  (65535 < needOf b.length /\ appendE s.D s.l b = 4 /\ s.laid b = s) ∨
  (needOf b.length <= 65535 /\ s.l.n - s.l.at_ < needOf b.length /\ appendE s.D s.l b = 5 /\ s.laid b = s) ∨
  (appendE s.D s.l b = 0 /\ PInv (c + 1) { s.laid b with held := held', late := [] } (fun k => (getP held' k).getD (homeP s.D.S s.l.n k)) /\ (s.D.limit = -1 -> (s.laid b).D.limit = -1) /\ (s.laid b).l.n = s.l.n) ∨
  (appendE s.D s.l b = 10 /\ (s.laid b).D.dead = true /\ s.D.limit ≠ -1 /\ (s.laid b).l.n = s.l.n /\ ∀ K, PDisk (c + 1) s.n s.l.n ((s.laid b).D.reopen K) C ∨ PDisk (c + 1) s.n s.l.n ((s.laid b).D.reopen K) (fun k => (getP held' k).getD (homeP s.D.S s.l.n k))) := by
 obtain ⟨ha, hV, hAB, hL⟩ := h.lgAt; obtain ⟨R, hj, ht, h1⟩ := h.recs; have hfit := h.fit; have hSt : St s.D 0 ((s.D.S.take s.l.n).take s.l.at_ ++ (s.D.S.take s.l.n).drop s.l.at_) := by rw [hAB]; exact st_of h.dead h.pend
 have hbr : ¬s.l.br = true := by rw [hj.br]; simp
 have hAl : ((s.D.S.take s.l.n).take s.l.at_).length = s.l.at_ := by rw [List.length_take, hV]; omega
 by_cases h65 : 65535 < needOf b.length
 ·left
  refine ⟨h65, ?_, ?_⟩
  ·unfold appendE; rw [if_neg hbr, if_pos h65]
  ·unfold PS.laid appendD appendL; rw [if_neg hbr, if_pos h65, if_neg hbr, if_pos h65]
 ·right
  by_cases hroom : s.l.n - s.l.at_ < needOf b.length
  ·left
   refine ⟨by omega, hroom, ?_, ?_⟩
   ·unfold appendE; rw [if_neg hbr, if_neg h65, if_pos hroom]
   ·unfold PS.laid appendD appendL; rw [if_neg hbr, if_neg h65, if_pos hroom, if_neg hbr, if_neg h65, if_pos hroom]
  ·right
   have hm : needOf b.length <= ((s.D.S.take s.l.n).drop s.l.at_).length := by rw [List.length_drop, hV]; omega
   have htouch : Touch (fun j => j < s.l.n) s.D.S (appendD s.D s.l b) := (Touch.refl h.pend).append s.l b (fun j _ h2 => by rw [hj.f] at h2; omega); have hhome : ∀ D' : DM, Touch (fun j => j < s.l.n) s.D.S D' -> ∀ k, homeP D'.S s.l.n k = homeP s.D.S s.l.n k := fun D' ht' k => home_same fun i hi => ht'.same _ (by omega); have hcnt : ∀ st : Stamp, held' = [] -> cntR (R ++ [(st, b)]) <= 1 := fun st e => absurd e hne
   have hRt : takeAll s.n ((R ++ [(stampAt s.l.ses s.l.num b, b)]).map (·.2)) [] = some held' := by
    rw [List.map_append, List.map_cons, List.map_nil, takeAll_snoc _ _ _ _ _ ht]; exact hb
   by_cases hlim : 0 <= s.D.limit /\ s.D.limit <= needOf b.length
   ·right
    have hx := fun K => append_torn (b := b) hSt hL hm (by omega) hlim.1 hlim.2 K; obtain ⟨e1, e2, e3, _, e5⟩ := hx []; refine ⟨e1, e2, by omega, by show (appendL s.D s.l b).n = _; rw [e5], fun K => ?_⟩; obtain ⟨_, _, _, ⟨T, hT1, hT2⟩, _⟩ := hx K; have hTl : ((s.D.S.take s.l.n).take s.l.at_ ++ T).length = s.l.n := by rw [List.length_append, hT2.1, List.length_drop, hAl, hV]; omega
    have htk := st_take hT1 hTl; have hto := htouch.reopen K; have hfit' : s.l.n + 8 * s.n <= ((appendD s.D s.l b).reopen K).S.length := by rw [hto.len]; exact hfit
    rcases hj.torn hc (by omega) (by omega) hT2 with hd | hd
    ·refine .inl ⟨rfl, rfl, DM.ok_reopen (appendD_ok h.ok) K, hfit', h.n1, h.n2, h.log1, ⟨R, s.held, ?_, ht, fun e => by rw [<- hj.at_]; exact h1 e, fun k hk => ?_⟩⟩
     ·show JDisk _ _ (((appendD s.D s.l b).reopen K).S.take s.l.n) R
      rw [htk]; exact hd
     ·show C k = (getP s.held k).getD (homeP ((appendD s.D s.l b).reopen K).S s.l.n k)
      rw [hhome _ hto]; exact h.cont k hk
    ·refine .inr ⟨rfl, rfl, DM.ok_reopen (appendD_ok h.ok) K, hfit', h.n1, h.n2, h.log1, ⟨_, held', ?_, hRt, hcnt _, fun k hk => ?_⟩⟩
     ·show JDisk _ _ (((appendD s.D s.l b).reopen K).S.take s.l.n) _
      rw [htk]; exact hd
     ·show _ = (getP held' k).getD (homeP ((appendD s.D s.l b).reopen K).S s.l.n k)
      rw [hhome _ hto]
   ·left
    have hlim' : s.D.limit = -1 ∨ (needOf b.length : Int) < s.D.limit := by have := h.ok.lim; omega
    obtain ⟨e1, e2, e3, e4, e5⟩ := append_whole (b := b) hSt hL hm (by omega) hlim'; have hw := hj.whole hc (b := b) (by omega) (by omega); have htk := st_take e2 hw.len; have hlx : appendL s.D s.l b = { s.l with at_ := s.l.at_ + needOf b.length, num := (s.l.num + 1) % 4294967296 } := by rw [e3, hAl]
    refine ⟨e1, ⟨e2.dead, e2.pend, appendD_ok h.ok, ?_, h.n1, h.n2, ?_, ⟨_, ?_, hRt, fun e => absurd e hne⟩, PgOk.nil _, h.br, fun k hk => ?_⟩, fun hl => ?_, by show (appendL s.D s.l b).n = _; rw [hlx]⟩
    ·show (appendL s.D s.l b).n + 8 * s.n <= (appendD s.D s.l b).S.length
     rw [hlx, htouch.len]; exact hfit
    ·show 1 <= (appendL s.D s.l b).n
     rw [hlx]; exact h.log1
    ·show JInv _ (appendL s.D s.l b).n ((appendD s.D s.l b).S.take (appendL s.D s.l b).n) _ (appendL s.D s.l b)
     rw [hlx]
     show JInv _ s.l.n ((appendD s.D s.l b).S.take s.l.n) _ _
     rw [htk]; exact hw
    ·show _ = (getP held' k).getD (homeP (appendD s.D s.l b).S (appendL s.D s.l b).n k)
     rw [hlx]
     show _ = (getP held' k).getD (homeP (appendD s.D s.l b).S s.l.n k)
     rw [hhome _ htouch]
    ·show (appendD s.D s.l b).limit = -1
     rw [e4, if_pos hl]
theorem take_empty (n : Nat) : takeAll n [[]] [] = some [] := rfl
theorem cnt_empty (a b : Nat) : cntR [(stampAt a b [], ([] : List UInt8))] <= 1 := by simp [cntR, stampAt, needOf]
theorem PInv.torn_home (h : PInv c s C) {D' : DM} (ht : Touch (QM s.l.n s.held) s.D.S D') (K : List Bool) : PDisk c s.n s.l.n (D'.reopen K) C ∨ D'.ok = False := by
 by_cases hok : D'.ok
 ·left
  have ht' := ht.reopen K; obtain ⟨R, hj, hta, h1⟩ := h.recs; have htk : (D'.reopen K).S.take s.l.n = s.D.S.take s.l.n := take_same fun j hj => ht'.same j (fun hq => by have := QM_log hq; omega); refine ⟨rfl, rfl, DM.ok_reopen hok K, by rw [ht'.len]; exact h.fit, h.n1, h.n2, h.log1, ⟨R, s.held, by rw [htk]; exact hj.closed, hta, fun e => by rw [<- hj.at_]; exact h1 e, fun k hk => ?_⟩⟩; rw [h.cont k hk]
  cases hg : getP s.held k with
  | some b => rfl
  | none =>
   show homeP s.D.S s.l.n k = homeP (D'.reopen K).S s.l.n k
   refine (home_same fun i hi => ht'.same _ fun ⟨q, hq, h2, h3⟩ => ?_).symm; have hk : q.1 = k := by omega
   rw [getP_of_mem h.held (j := k) (b := q.2) (by rw [<- hk]; exact hq)] at hg
   cases hg
 ·right; exact eq_false hok
theorem PInv.settle (h : PInv c s C) (hc : c + 1 < 4294967296) (_ : s.held ≠ []) :
  ((settleR s).2.2 = 0 /\ PInv (c + 1) { s with D := (settleR s).1, l := (settleR s).2.1, held := [] } C /\ (settleR s).2.1.n = s.l.n /\ (s.D.limit = -1 -> (settleR s).1.limit = -1)) ∨
  ((settleR s).2.2 = 10 /\ (settleR s).1.dead = true /\ s.D.limit ≠ -1 /\ (settleR s).2.1.n = s.l.n /\ ∀ K, PDisk (c + 1) s.n s.l.n ((settleR s).1.reopen K) C) := by
 obtain ⟨ha, hV, _, _⟩ := h.lgAt; obtain ⟨R, hj, hta, h1⟩ := h.recs; have hfit := h.fit; have hlog := h.log1; have hheld := h.held
 have hp : ∀ p ∈ secsM s.l.n s.held, p.1 < s.D.S.length /\ p.2.length = 64 := fun p hp => by
  obtain ⟨q, hq, i, hi, rfl⟩ := secsM_mem.1 hp; have := hheld.mem q hq; refine ⟨by simp only; omega, ?_⟩; simp only [List.length_take, List.length_drop]; omega
 have ht1 : Touch (QM s.l.n s.held) s.D.S (seqW s.D (secsM s.l.n s.held)).1 := seqW_touch _ _ (Touch.refl h.pend) secsM_Q; have hok1 := seqW_ok (secsM s.l.n s.held) s.D h.ok; have hS1 := seqW_S (secsM s.l.n s.held) s.D; rcases seqW_cases (secsM s.l.n s.held) s.D h.dead hp with ⟨a1, a2, a3, a4⟩ | ⟨a1, a2, a3⟩
 ·have hP1 : (seqW s.D (secsM s.l.n s.held)).1.P = secsM s.l.n s.held := by rw [a3, h.pend, List.nil_append]
  have e : settleR s = if (seqW s.D (secsM s.l.n s.held)).1.syncE ≠ 0 then ((seqW s.D (secsM s.l.n s.held)).1.sync, s.l, (seqW s.D (secsM s.l.n s.held)).1.syncE) else (appendD (seqW s.D (secsM s.l.n s.held)).1.sync { s.l with at_ := 0 } [], appendL (seqW s.D (secsM s.l.n s.held)).1.sync { s.l with at_ := 0 } [], appendE (seqW s.D (secsM s.l.n s.held)).1.sync { s.l with at_ := 0 } []) := by
   unfold settleR; rw [if_neg (by rw [a1]; decide)]
  obtain ⟨D1, hD1⟩ := nm ((seqW s.D (secsM s.l.n s.held)).1); rw [<- hD1] at e ht1 hok1 hS1 a2 a4 hP1; clear hD1 a1 a3
  by_cases hl : D1.limit = 0
  ·right
   have e1 : D1.syncE = 10 := by unfold DM.syncE; rw [if_neg (by rw [a2]; decide), if_pos hl]
   have e2 : D1.sync.dead = true := by unfold DM.sync; rw [if_neg (by rw [a2]; decide), if_pos hl]; rfl
   rw [if_pos (by rw [e1]; decide), e1] at e; rw [e]; refine ⟨rfl, e2, fun hx => by rw [a4 hx] at hl; exact absurd hl (by decide), rfl, fun K => ?_⟩; rcases h.torn_home ht1.sync K with hd | hd
   ·exact hd.mono (by omega)
   ·exact absurd (DM.ok_sync hok1) (by rw [hd]; exact id)
  ·have e1 : D1.syncE = 0 := by unfold DM.syncE; rw [if_neg (by rw [a2]; decide), if_neg hl]
   have e2 : D1.sync = { D1.spent with S := layAll D1.S D1.P, P := [] } := by unfold DM.sync; rw [if_neg (by rw [a2]; decide), if_neg hl]
   rw [if_neg (by rw [e1]; decide)] at e; have hok2 := DM.ok_sync hok1; have hd2 : D1.sync.dead = false := by rw [e2]; exact a2
   have hp2 : D1.sync.P = [] := by rw [e2]
   have hS2 : D1.sync.S = layAll s.D.S (secsM s.l.n s.held) := by rw [e2]; show layAll D1.S D1.P = _; rw [hS1, hP1]
   have hl2 : s.D.limit = -1 -> D1.sync.limit = -1 := fun hx => by
    rw [e2]
    show (if 0 < D1.limit then D1.limit - 1 else D1.limit) = -1
    rw [a4 hx, if_neg (by decide)]
   clear e2 e1 hl a2 a4 hP1 hS1 ht1 hok1; generalize D1.sync = D2 at e hok2 hd2 hp2 hS2 hl2; have hhome2 : ∀ k, homeP D2.S s.l.n k = (getP s.held k).getD (homeP s.D.S s.l.n k) := fun k => by rw [hS2]; exact settled_home hheld hfit
   have htk2 : D2.S.take s.l.n = s.D.S.take s.l.n := take_same fun j hj' => by
    rw [hS2]; refine layAll_other _ _ _ fun p hp' e' => ?_; have := QM_log (secsM_Q p hp'); omega
   have hlen2 : D2.S.length = s.D.S.length := by rw [hS2, layAll_len]
   have hSt : St D2 0 ([] ++ s.D.S.take s.l.n) := by rw [List.nil_append, <- htk2]; exact st_of hd2 hp2
   have hL : LgAt { s.l with at_ := 0 } 0 (([] : List (List UInt8)) ++ s.D.S.take s.l.n).length ([] : List (List UInt8)).length := ⟨hj.f, by rw [List.nil_append, hV], rfl, hj.br⟩; have hn1 : needOf ([] : List UInt8).length = 1 := rfl; have hm : needOf ([] : List UInt8).length <= (s.D.S.take s.l.n).length := by rw [hV, hn1]; exact hlog
   have hto : Touch (fun j => j < s.l.n) D2.S (appendD D2 { s.l with at_ := 0 } []) := (Touch.refl hp2).append _ _ (fun j _ h2 => by
    have h2 : j < s.l.f + 0 + 1 := h2; rw [hj.f] at h2; omega)
   have hhome3 : ∀ D' : DM, Touch (fun j => j < s.l.n) D2.S D' -> ∀ k, homeP D'.S s.l.n k = (getP s.held k).getD (homeP s.D.S s.l.n k) := fun D' ht' k => by
    rw [<- hhome2 k]; exact home_same fun i hi => ht'.same _ (by omega)
   rw [e]
   by_cases hlim : 0 <= D2.limit /\ D2.limit <= needOf ([] : List UInt8).length
   ·right
    have hx := fun K => append_torn (b := []) hSt hL hm (by rw [hn1]; omega) hlim.1 hlim.2 K; obtain ⟨f1, f2, _, _, f5⟩ := hx []; refine ⟨f1, f2, fun hx => by rw [hl2 hx] at hlim; exact absurd hlim.1 (by decide), by show (appendL D2 { s.l with at_ := 0 } []).n = _; rw [f5], fun K => ?_⟩; obtain ⟨_, _, _, ⟨T, hT1, hT2⟩, _⟩ := hx K; rw [List.nil_append] at hT1; have htk := st_take hT1 (by rw [hT2.1, hV]); have hto' := hto.reopen K; have hfit' : s.l.n + 8 * s.n <= ((appendD D2 { s.l with at_ := 0 } []).reopen K).S.length := by rw [hto'.len, hlen2]; exact hfit
    rcases hj.anewTorn hc hn1 hlog hT2 with hd | hd
    ·refine ⟨rfl, rfl, DM.ok_reopen (appendD_ok hok2) K, hfit', h.n1, h.n2, hlog, ⟨R, s.held, ?_, hta, fun e => by rw [<- hj.at_]; exact h1 e, fun k hk => ?_⟩⟩
     ·show JDisk _ _ (((appendD D2 { s.l with at_ := 0 } []).reopen K).S.take s.l.n) R
      rw [htk]; exact hd
     ·show C k = (getP s.held k).getD (homeP ((appendD D2 { s.l with at_ := 0 } []).reopen K).S s.l.n k)
      rw [hhome3 _ hto', h.cont k hk]
      cases getP s.held k <;> rfl
    ·refine ⟨rfl, rfl, DM.ok_reopen (appendD_ok hok2) K, hfit', h.n1, h.n2, hlog, ⟨[(stampAt s.l.ses s.l.num [], [])], [], ?_, take_empty _, fun _ => cnt_empty _ _, fun k hk => ?_⟩⟩
     ·show JDisk _ _ (((appendD D2 { s.l with at_ := 0 } []).reopen K).S.take s.l.n) _
      rw [htk]; exact hd
     ·show C k = homeP ((appendD D2 { s.l with at_ := 0 } []).reopen K).S s.l.n k
      rw [hhome3 _ hto', h.cont k hk]
   ·left
    have hlim' : D2.limit = -1 ∨ (needOf ([] : List UInt8).length : Int) < D2.limit := by have := hok2.lim; omega
    obtain ⟨f1, f2, f3, f4, _⟩ := append_whole (b := []) hSt hL hm (by rw [hn1]; omega) hlim'; rw [List.nil_append] at f2; have hw := hj.anew hc (b := []) (by rw [hn1]; omega) (by rw [hn1]; exact hlog); have htk := st_take f2 hw.len; have hlx : appendL D2 { s.l with at_ := 0 } [] = { s.l with at_ := needOf ([] : List UInt8).length, num := (s.l.num + 1) % 4294967296 } := by rw [f3]; rfl
    refine ⟨f1, ⟨f2.dead, f2.pend, appendD_ok hok2, ?_, h.n1, h.n2, ?_, ⟨[(stampAt s.l.ses s.l.num [], [])], ?_, take_empty _, fun _ => ?_⟩, h.late, h.br, fun k hk => ?_⟩, by show (appendL D2 { s.l with at_ := 0 } []).n = _; rw [hlx], fun hx => by show (appendD D2 { s.l with at_ := 0 } []).limit = -1; rw [f4, if_pos (hl2 hx)]⟩
    ·show (appendL D2 { s.l with at_ := 0 } []).n + 8 * s.n <= (appendD D2 { s.l with at_ := 0 } []).S.length
     rw [hlx, hto.len, hlen2]; exact hfit
    ·show 1 <= (appendL D2 { s.l with at_ := 0 } []).n
     rw [hlx]; exact hlog
    ·show JInv _ (appendL D2 { s.l with at_ := 0 } []).n ((appendD D2 { s.l with at_ := 0 } []).S.take (appendL D2 { s.l with at_ := 0 } []).n) _ (appendL D2 { s.l with at_ := 0 } [])
     rw [hlx]
     show JInv _ s.l.n ((appendD D2 { s.l with at_ := 0 } []).S.take s.l.n) _ _
     rw [htk]; exact hw
    ·show (appendL D2 { s.l with at_ := 0 } []).at_ <= 1
     rw [hlx]; exact Nat.le_of_eq hn1
    ·show C k = homeP (appendD D2 { s.l with at_ := 0 } []).S (appendL D2 { s.l with at_ := 0 } []).n k
     rw [hlx]
     show C k = homeP (appendD D2 { s.l with at_ := 0 } []).S s.l.n k
     rw [hhome3 _ hto, h.cont k hk]
 ·right
  have e : settleR s = ((seqW s.D (secsM s.l.n s.held)).1, s.l, 10) := by
   unfold settleR; rw [if_pos (by rw [a1]; decide), a1]
  rw [e]; refine ⟨rfl, a2, a3, rfl, fun K => ?_⟩; rcases h.torn_home ht1 K with hd | hd
  ·exact hd.mono (by omega)
  ·exact absurd hok1 (by rw [hd]; exact id)
theorem PInv.congr {C' : Nat -> List UInt8} (h : PInv c s C) (he : ∀ k, k < s.n -> C k = C' k) : PInv c s C' :=
 ⟨h.dead, h.pend, h.ok, h.fit, h.n1, h.n2, h.log1, h.recs, h.late, h.br, fun k hk => by rw [<- he k hk]; exact h.cont k hk⟩
theorem PDisk.congr {n log : Nat} {D : DM} {C' : Nat -> List UInt8} (h : PDisk c n log D C) (he : ∀ k, k < n -> C k = C' k) : PDisk c n log D C' := by
 obtain ⟨R, H, h1, h2, h3, h4⟩ := h.recs; exact ⟨h.dead, h.pend, h.ok, h.fit, h.n1, h.n2, h.log1, ⟨R, H, h1, h2, h3, fun k hk => by rw [<- he k hk]; exact h4 k hk⟩⟩
theorem PInv.checked (h : PInv c s C) (hc : c + 1 < 4294967296) :
  (s.check.2 = 0 /\ PInv (c + 1) s.check.1 C /\ s.check.1.held = [] /\ s.check.1.late = s.late /\ s.check.1.n = s.n /\ s.check.1.l.n = s.l.n /\ (s.D.limit = -1 -> s.check.1.D.limit = -1)) ∨
  (s.check.2 = 10 /\ s.check.1.D.dead = true /\ s.D.limit ≠ -1 /\ ∀ K, PDisk (c + 1) s.n s.l.n (s.check.1.D.reopen K) C) := by
 have hbr : ¬s.br = true := by rw [h.br]; decide
 unfold PS.check; rw [if_neg hbr]
 by_cases hh : s.held = []
 ·rw [if_pos hh]; exact .inl ⟨rfl, h.mono (by omega), hh, rfl, rfl, rfl, fun h => h⟩
 ·rw [if_neg hh]; rcases h.settle hc hh with ⟨a1, a2, a3, a4⟩ | ⟨a1, a2, a3, a4, a5⟩
  ·rw [if_neg (by rw [a1]; decide)]; exact .inl ⟨rfl, a2, rfl, rfl, rfl, a3, a4⟩
  ·rw [if_pos (by rw [a1]; decide)]; exact .inr ⟨a1, a2, a3, a5⟩
theorem merge_some {n : Nat} {d m : PgM} (hm : PgOk n m) (hne : m ≠ []) : mergeP d m ≠ [] := by
 intro e
 cases m with
 | nil => exact hne rfl
 | cons p m =>
  have h1 := getP_merge (p :: m) d hm p.1; rw [e, getP_nil, getP_cons, if_pos rfl] at h1
  cases h1
theorem over_merge (h : PInv c s C) (m : PgM) (hm : PgOk s.n m) {k : Nat} (hk : k < s.n) : (getP (mergeP s.held m) k).getD (homeP s.D.S s.l.n k) = over C m k := by
 unfold over; rw [getP_merge m s.held hm, h.cont k hk]
 cases getP m k <;> rfl
theorem PInv.committed (h : PInv c s C) (hc : c + 4 < 4294967296) :
  (s.commit.2 = 0 /\ PInv (c + 3) s.commit.1 (over C s.late) /\ s.commit.1.late = [] /\ s.commit.1.n = s.n /\ s.commit.1.l.n = s.l.n /\ (s.D.limit = -1 -> s.commit.1.D.limit = -1)) ∨
  ((s.commit.2 = 4 ∨ s.commit.2 = 5) /\ PInv (c + 3) s.commit.1 C /\ s.commit.1.late = s.late /\ s.commit.1.n = s.n /\ s.commit.1.l.n = s.l.n /\ (s.D.limit = -1 -> s.commit.1.D.limit = -1) /\ (65535 < needOf (recP s.late).length ∨ s.l.n < needOf (recP s.late).length + 1)) ∨
  (s.commit.2 = 10 /\ s.commit.1.D.dead = true /\ s.D.limit ≠ -1 /\ ∀ K, PDisk (c + 3) s.n s.l.n (s.commit.1.D.reopen K) C ∨ PDisk (c + 3) s.n s.l.n (s.commit.1.D.reopen K) (over C s.late)) := by
 have hbr : ¬s.br = true := by rw [h.br]; decide
 by_cases hl : s.late = []
 ·have e : s.commit = (s, 0) := by unfold PS.commit; rw [if_neg hbr, if_pos hl]
  rw [e]; exact .inl ⟨rfl, (h.mono (by omega)).congr fun k _ => by rw [hl]; rfl, hl, rfl, rfl, fun h => h⟩
 ·have hcm : s.commit = if (s.append (recP s.late)).2 ≠ 0 then ({ (s.append (recP s.late)).1 with br := (s.append (recP s.late)).1.br || ((s.append (recP s.late)).2 != 5 && (s.append (recP s.late)).2 != 4) }, (s.append (recP s.late)).2)
    else ({ (s.append (recP s.late)).1 with held := mergeP (s.append (recP s.late)).1.held s.late, late := [] }, 0) := by
   unfold PS.commit; rw [if_neg hbr, if_neg hl]
  have hn := h.n2; have hb : takeP s.n (recP s.late) s.held = some (mergeP s.held s.late) := take_rec (by omega) s.late s.held h.late.mem; rcases h.app (by omega) hb (merge_some h.late hl) with ⟨a1, a2, a3⟩ | ⟨a1, a2, a3, a4⟩ | ⟨a1, a2, a3, a4⟩ | ⟨a1, a2, a3, a4, a5⟩
  ·have e : s.append (recP s.late) = (s, 4) := by
    unfold PS.append; rw [if_pos (.inl (by rw [a2]; decide)), a3, a2]
   rw [e, if_pos (by simp)] at hcm; rw [hcm]; exact .inr (.inl ⟨.inl rfl, ⟨h.dead, h.pend, h.ok, h.fit, h.n1, h.n2, h.log1, (h.mono (by omega : c <= c + 3)).recs, h.late, by rw [h.br]; rfl, h.cont⟩, rfl, rfl, rfl, fun h => h, .inl a1⟩)
  ·by_cases hh : s.held = []
   ·have e : s.append (recP s.late) = (s, 5) := by
     unfold PS.append; rw [if_pos (.inr hh), a4, a3]
    rw [e, if_pos (by simp)] at hcm; rw [hcm]; obtain ⟨R, _, _, h1⟩ := h.recs; exact .inr (.inl ⟨.inr rfl, ⟨h.dead, h.pend, h.ok, h.fit, h.n1, h.n2, h.log1, (h.mono (by omega : c <= c + 3)).recs, h.late, by rw [h.br]; rfl, h.cont⟩, rfl, rfl, rfl, fun h => h, .inr (by have := h1 hh; omega)⟩)
   ·have e : s.append (recP s.late) = if s.check.2 ≠ 0 then s.check else (s.check.1.laid (recP s.late), appendE s.check.1.D s.check.1.l (recP s.late)) := by
     unfold PS.append; rw [if_neg (by rintro (hx | hx); exact hx a3; exact hh hx), a4]
    rcases h.checked (by omega) with ⟨b1, b2, b3, b4, b5, b6, b7⟩ | ⟨b1, b2, b3, b4⟩
    ·rw [if_neg (by rw [b1]; decide)] at e; generalize s.check.1 = s2 at *; have hb2 : takeP s2.n (recP s.late) s2.held = some (mergeP s2.held s.late) := take_rec (by omega) s.late s2.held (by rw [b5]; exact h.late.mem); have hl2 : PgOk s2.n s.late := by rw [b5]; exact h.late
     rcases b2.app (by omega) hb2 (merge_some hl2 hl) with ⟨c1, _⟩ | ⟨c1, c2, c3, c4⟩ | ⟨c1, c2, c3, c4⟩ | ⟨c1, c2, c3, c4, c5⟩
     ·omega
     ·rw [c3, c4] at e; rw [e, if_pos (by simp)] at hcm; rw [hcm]; obtain ⟨R, _, _, h1⟩ := b2.recs; have := h1 b3; exact .inr (.inl ⟨.inr rfl, ⟨b2.dead, b2.pend, b2.ok, b2.fit, b2.n1, b2.n2, b2.log1, (b2.mono (by omega : c + 1 <= c + 3)).recs, b2.late, by rw [b2.br]; rfl, b2.cont⟩, b4, b5, b6, b7, .inr (by rw [<- b6]; omega)⟩)
     ·rw [c1] at e; rw [e, if_neg (by simp)] at hcm; rw [hcm]; exact .inl ⟨rfl, (c2.mono (by omega)).congr fun k hk => over_merge b2 s.late hl2 hk, rfl, b5, by rw [<- b6]; exact c4, fun hx => c3 (b7 hx)⟩
     ·rw [c1] at e; rw [e, if_pos (by simp)] at hcm; rw [hcm]; refine .inr (.inr ⟨rfl, c2, fun hx => c3 (b7 hx), fun K => ?_⟩); rw [<- b5, <- b6]; rcases c5 K with d | d
      ·exact .inl (d.mono (by omega))
      ·exact .inr ((d.mono (by omega)).congr fun k hk => over_merge b2 s.late hl2 hk)
    ·rw [if_pos (by rw [b1]; decide)] at e; rw [e, if_pos (by rw [b1]; decide)] at hcm; rw [hcm]; exact .inr (.inr ⟨b1, b2, b3, fun K => .inl ((b4 K).mono (by omega))⟩)
  ·have e : s.append (recP s.late) = (s.laid (recP s.late), 0) := by
    unfold PS.append; rw [if_pos (.inl (by rw [a1]; decide)), a1]
   rw [e, if_neg (by simp)] at hcm; rw [hcm]; exact .inl ⟨rfl, (a2.mono (by omega)).congr fun k hk => over_merge h s.late h.late hk, rfl, rfl, a4, a3⟩
  ·have e : s.append (recP s.late) = (s.laid (recP s.late), 10) := by
    unfold PS.append; rw [if_pos (.inl (by rw [a1]; decide)), a1]
   rw [e, if_pos (by simp)] at hcm; rw [hcm]; refine .inr (.inr ⟨rfl, a2, a3, fun K => ?_⟩); rcases a5 K with d | d
   ·exact .inl (d.mono (by omega))
   ·exact .inr ((d.mono (by omega)).congr fun k hk => over_merge h s.late h.late hk)
end
end
section
open Go.RowKit Go.ChangeMaps Go.MapKept
open Go.WideElems (Fit rd rg)
def pageV (b : List UInt8) : Value := .agg (bcells b).toArray
theorem bcells_inj : ∀ {a b : List UInt8}, bcells a = bcells b -> a = b
 | [], [], _ => rfl
 | [], _ :: _, h => by simp [bcells] at h
 | _ :: _, [], h => by simp [bcells] at h
 | x :: a, y :: b, h => by
  simp only [bcells, List.map_cons, List.cons.injEq] at h; obtain ⟨h1, h2⟩ := h; unfold B8 at h1; injection h1 with _ h1; rw [show x = y from UInt8.toNat.inj (by omega), bcells_inj h2]
theorem pageV_inj {a b : List UInt8} (h : pageV a = pageV b) : a = b := by
 unfold pageV at h; injection h with h; exact bcells_inj (List.toArray_inj h)
open Classical in
/-- How a page reads in a map. -/
noncomputable def pgR (v : Value) : Option (DataW Unit × List MemPlace) := if h : ∃ b, v = pageV b /\ b.length = 512 then some (.lit (.string h.choose), []) else none
theorem pgR_mk {b : List UInt8} (hb : b.length = 512) : pgR (pageV b) = some (.lit (.string b), []) := by
 have h : ∃ b', pageV b = pageV b' /\ b'.length = 512 := ⟨b, rfl, hb⟩; unfold pgR; rw [dif_pos h, <- pageV_inj h.choose_spec.1]
theorem pgR_inv {v : Value} {z : DataW Unit × List MemPlace} (h : pgR v = some z) : ∃ b, v = pageV b /\ b.length = 512 /\ z = (.lit (.string b), []) := by
 unfold pgR at h
 split at h
 ·rename_i h1
  cases h
  exact ⟨_, h1.choose_spec.1, h1.choose_spec.2, rfl⟩
 ·cases h
def entD (p : Nat × List UInt8) : Lit × DataW Unit := (.int .i64 (p.1 : Int), .lit (.string p.2))
def toD (m : PgM) : DataW Unit := .map (m.map entD)
theorem insert_D (x : Nat × List UInt8) : ∀ m : PgM, DataW.insert (entD x) (m.map entD) = (insP x m).map entD
 | [] => rfl
 | y :: m => by
  have e : (entD x).1.before (entD y).1 = decide (x.1 < y.1) := by
   show decide ((x.1 : Int) < (y.1 : Int)) = _
   rw [Bool.eq_iff_iff, decide_eq_true_iff, decide_eq_true_iff]; omega
  rw [List.map_cons, DataW.insert, e, insP]
  by_cases h : x.1 < y.1
  ·rw [if_pos (by simpa using h), if_pos h]; rfl
  ·rw [if_neg (by simpa using h), if_neg h, List.map_cons, insert_D x m]
theorem same_D (p : Nat × List UInt8) (k : Nat) : (entD p).1.sameKey (.int .i64 (k : Int)) = decide (p.1 = k) := by
 show decide (IntKind.i64 = IntKind.i64 /\ (p.1 : Int) = (k : Int)) = _
 rw [Bool.eq_iff_iff, decide_eq_true_iff, decide_eq_true_iff]; exact ⟨fun h => by have := h.2; omega, fun h => ⟨rfl, by omega⟩⟩
theorem put_D (m : PgM) (k : Nat) (b : List UInt8) : (toD m).put (.int .i64 (k : Int)) (.lit (.string b)) = toD (putP m k b) := by
 unfold toD putP DataW.put
 simp only
 rw [List.filter_map, show ((fun p => !p.1.sameKey (.int .i64 (k : Int))) ∘ entD) = (fun p : Nat × List UInt8 => !decide (p.1 = k)) from funext fun p => by rw [Function.comp, same_D]]; exact congrArg _ (insert_D (k, b) _)
theorem find_D (k : Nat) : ∀ m : PgM, (m.map entD).find? (fun p => p.1.sameKey (.int .i64 (k : Int))) = (m.find? fun p => decide (p.1 = k)).map entD
 | [] => rfl
 | p :: m => by
  rw [List.map_cons, List.find?_cons, List.find?_cons, same_D, find_D k m]
  cases decide (p.1 = k) <;> rfl
theorem at_D (m : PgM) (k : Nat) (z : DataW Unit) : (toD m).atKey (.int .i64 (k : Int)) z = match getP m k with | some b => .lit (.string b) | none => z := by
 unfold toD DataW.atKey getP
 simp only
 rw [find_D]
 cases m.find? fun p => decide (p.1 = k) <;> rfl
theorem has_D (m : PgM) (k : Nat) : Maps.has (toD m) (.int .i64 (k : Int)) = (getP m k).isSome := by
 unfold toD; rw [Maps.has_eq, List.any_map, show ((fun p => p.1.sameKey (.int .i64 (k : Int))) ∘ entD) = (fun p : Nat × List UInt8 => decide (p.1 = k)) from funext fun p => same_D p k]; unfold getP
 induction m with
 | nil => rfl
 | cons p m ih =>
  rw [List.any_cons, List.find?_cons]
  cases h : decide (p.1 = k)
  ·simpa using ih
  ·simp
theorem size_D (m : PgM) : Maps.size (toD m) = m.length := by unfold toD; rw [Maps.size_eq, List.length_map]
theorem keys_D (m : PgM) : intKeys (toD m) = m.map fun p => (p.1 : Int) := by
 unfold toD intKeys; simp only [List.map_map]
 rfl
theorem merge_D : ∀ (s d : PgM), Lib.mergeD (toD d) (toD s) = toD (mergeP d s)
 | [], _ => rfl
 | p :: s, d => by
  have ih := merge_D s (putP d p.1 p.2); unfold Lib.mergeD toD at ih ⊢; simp only [List.map_cons, List.foldl_cons] at ih ⊢; rw [show mergeP d (p :: s) = mergeP (putP d p.1 p.2) s from rfl, <- ih]
  congr 1
  exact put_D d p.1 p.2
noncomputable def MapAt (w : World) (b : Nat) (m : PgM) : Prop := w.ownsMap Tryz.prog 3 pgR b m.length (toD m)
section
variable {w w' : World} {b : Nat} {m : PgM}
theorem MapAt.of {n : Nat} (h : w.ownsMap Tryz.prog 3 pgR b n (toD m)) : MapAt w b m := by
 obtain ⟨es, clock, hb, F, _, hD⟩ := h; refine ⟨es, clock, hb, F, ?_, hD⟩; have := congrArg Maps.size hD; rw [size_D, Maps.size_eq, length_read] at this; omega
theorem MapAt.lt (h : MapAt w b m) : b < w.heap.size := World.ownsMap.lt h
theorem MapAt.fr {S : List Nat} (h : MapAt w b m) (hf : Fr S w w') (hb : b ∉ S) : MapAt w' b m := by
 have hlt := h.lt; obtain ⟨es, clock, h1, h2⟩ := h; exact ⟨es, clock, by rw [hf.block b hlt hb]; exact h1, h2⟩
theorem MapAt.ne_blk (h : MapAt w b m) {g : Nat} {t : TypeId} {cs : List Value} (hg : Blk w g t cs) : b ≠ g := by
 rintro rfl; obtain ⟨es, clock, h1, _⟩ := h; unfold Blk at hg; rw [h1] at hg; injection hg with hg
 cases hg
theorem MapAt.new (w : World) : MapAt (w.alloc (.map #[] 0)) w.heap.size [] := World.ownsMap_made w Tryz.prog 3 pgR
def zpage : List UInt8 := List.replicate 512 0
theorem zpage_len : zpage.length = 512 := List.length_replicate
theorem int_K : Maps.Keyed Tryz.prog 3 := Maps.int_keyed Tryz.underlying3
theorem key_i64 {k : Nat} (hk : k <= 9223372036854775807) : keyOf Tryz.prog 3 (.int .i64 (k : Int)) = some (.int .i64 (k : Int)) := Maps.keyOf_int_mk Tryz.underlying3 (by
 have h := wrap64_wf (k : Int)
 rwa [show wrap64 (k : Int) = (k : Int) by unfold wrap64; omega] at h)
theorem page_of {m : PgM} {k : Nat} {c : List UInt8} {ps : List MemPlace} (h : some ((toD m).atKey (.int .i64 (k : Int)) (.lit (.string zpage)), ps) = some (DataW.lit (.string c), [])) : c = (getP m k).getD zpage := by
 rw [at_D] at h; injection h with h; injection h with h _
 cases hg : getP m k with
 | none =>
  rw [hg] at h; injection h with h; injection h with h; rw [Option.getD_none]; exact h.symm
 | some x =>
  rw [hg] at h; injection h with h; injection h with h; rw [Option.getD_some]; exact h.symm
theorem zero_page (w : World) : (zeroValue 123).run Tryz.prog w = .ok (pageV zpage) w := by kernel_rfl
theorem MapAt.look_ok (h : MapAt w b m) {k : Nat} (hk : k <= 9223372036854775807) : (Instr.lookup 116 (.map (some b)) (.int .i64 (k : Int)) true).run Tryz.prog w = .ok (.tuple #[pageV ((getP m k).getD zpage), .bool (getP m k).isSome]) w := by
 obtain ⟨v, ps, h1, h2⟩ := World.ownsMap.look_ok h int_K Tryz.underlying116 (zero_page w) (pgR_mk zpage_len) (key_i64 hk); rw [h1, has_D]; obtain ⟨c, rfl, _, h3⟩ := pgR_inv h2; rw [page_of (congrArg some h3)]
theorem MapAt.look (h : MapAt w b m) {k : Nat} (hk : k <= 9223372036854775807) : (Instr.lookup 116 (.map (some b)) (.int .i64 (k : Int)) false).run Tryz.prog w = .ok (pageV ((getP m k).getD zpage)) w := by
 obtain ⟨v, ps, h1, h2⟩ := World.ownsMap.lookup h int_K Tryz.underlying116 (zero_page w) (pgR_mk zpage_len) (key_i64 hk); rw [h1]; obtain ⟨c, rfl, _, h3⟩ := pgR_inv h2; rw [page_of (congrArg some h3)]
theorem MapAt.store (h : MapAt w b m) {k : Nat} (hk : k <= 9223372036854775807) (hm : m.length < 9223372036854775807) {x : List UInt8} (hx : x.length = 512) :
  ∃ w', (Instr.mapUpdate 116 (.map (some b)) (.int .i64 (k : Int)) (pageV x)).run Tryz.prog w = .ok () w' /\ MapAt w' b (putP m k x) /\ Fr [b] w w' /\ w'.heap.size = w.heap.size := by
 obtain ⟨w', h1, h2, h3⟩ := World.ownsMap.store h int_K Tryz.underlying116 (by unfold maxLen; exact hm) (key_i64 hk) (pgR_mk hx); rw [put_D] at h2; refine ⟨w', h1, MapAt.of h2, (Fr.refl [b] w).grown h3.grown (fun g hg => by cases hg; exact .inl (by simp)), ?_⟩; obtain ⟨es, clock, es', clock', _, rfl⟩ := h3
 simp [setBlock]
theorem MapAt.len (h : MapAt w b m) (ty : TypeId) : (Builtin.len_ #[116] ty #[.map (some b)]).run Tryz.prog w = .ok (.int .i64 (m.length : Int)) w := by
 rw [World.ownsMap.len h Tryz.underlying116 ty, size_D]
theorem MapAt.clear (h : MapAt w b m) (ty : TypeId) : ∃ w', (Builtin.clear_ #[116] ty #[.map (some b)]).run Tryz.prog w = .ok (.tuple #[]) w' /\ MapAt w' b [] /\ Fr [b] w w' /\ w'.heap.size = w.heap.size := by
 obtain ⟨es, clock, hb, _⟩ := h; refine ⟨setBlock w b (.map #[] clock), ?_, ⟨#[], clock, heap_setBlock_same hb _, ⟨by simp, stamped_empty clock, by simp⟩, Nat.le_refl _, rfl⟩, ?_, by simp [setBlock]⟩
 ·simp [Builtin.clear_, run_underlying Tryz.underlying116, MapKept.run_getObj_map hb, MapKept.run_setObj_map _ hb, Result.andThen, setBlock]
 ·exact (Fr.refl [b] w).grown (row := some b) ⟨rfl, rfl, rfl, by simp [setBlock], fun i _ hi => heap_setBlock_other hb _ (fun e => hi (by rw [e]))⟩ (fun g hg => by cases hg; exact .inl (by simp))
end
end
end Go.Proofs.YtpjbdpepofnleaaGreat
section
namespace Go.Proofs
open Go.Shelf
def Tryz.keysA_ren : Go.Shelf.Ren := ⟨fun | 7 => 89 | 10 => 115 | n => n, fun | 23 => 116 | 26 => 3 | 3 => 123 | 28 => 139 | 0 => 0 | 27 => 138 | 33 => 150 | 4 => 4 | n => n, fun | n => n⟩
theorem Tryz.keysA : Go.Proofs.SlLaysZI.n7 Tryz.prog Tryz.keysA_ren := {
 mixed := by kernel_rfl
 f7 := ⟨Tryz.f89.name, by decide, Tryz.func89.trans (congrArg some (by kernel_rfl))⟩
 f10 := ⟨Tryz.f115.name, by decide, Tryz.func115.trans (congrArg some (by kernel_rfl))⟩
 t0 := Tryz.underlying0
 a0 := Tryz.isAgg0
 z0 := Tryz.sizeOf0
 v0 := Tryz.zeroValue0
 t4 := Tryz.underlying4
 a4 := Tryz.isAgg4
 z4 := Tryz.sizeOf4
 v4 := Tryz.zeroValue4
 t23 := Tryz.underlying116
 a23 := Tryz.isAgg116
 z23 := Tryz.sizeOf116
 v23 := Tryz.zeroValue116
 t26 := Tryz.underlying3
 a26 := Tryz.isAgg3
 z26 := Tryz.sizeOf3
 v26 := Tryz.zeroValue3
 t27 := Tryz.underlying138
 a27 := Tryz.isAgg138
 z27 := Tryz.sizeOf138
 v27 := Tryz.zeroValue138
 t28 := Tryz.underlying139
 a28 := Tryz.isAgg139
 z28 := Tryz.sizeOf139
 v28 := Tryz.zeroValue139
 t33 := Tryz.underlying150
 a33 := Tryz.isAgg150
 z33 := Tryz.sizeOf150
 v33 := Tryz.zeroValue150 }
def Tryz.sortedA_ren : Go.Shelf.Ren := ⟨fun | 6 => 64 | 8 => 96 | 9 => 97 | 11 => 119 | 13 => 121 | 12 => 120 | 23 => 143 | 24 => 144 | 14 => 134 | 15 => 135 | 16 => 136 | 17 => 137 | 18 => 138 | 19 => 139 | 20 => 140 | 21 => 141 | 22 => 142 | 25 => 147 | 26 => 148 | 27 => 149 | 28 => 150 | 29 => 151 | 30 => 152 | 31 => 153 | n => n, fun | 26 => 3 | 28 => 139 | 24 => 136 | 0 => 0 | 3 => 3 | 37 => 111 | 48 => 158 | 50 => 214 | 4 => 4 | 40 => 207 | 39 => 206 | 45 => 100 | 5 => 5 | 9 => 9 | 51 => 216 | 55 => 220 | 57 => 222 | 58 => 223 | 33 => 150 | n => n, fun | n => n⟩
theorem Tryz.sortedA : Go.Proofs.SlLaysZI.n6 Tryz.prog Tryz.sortedA_ren := {
 mixed := by kernel_rfl
 f6 := ⟨Tryz.f64.name, by decide, Tryz.func64.trans (congrArg some (by kernel_rfl))⟩
 f8 := ⟨Tryz.f96.name, by decide, Tryz.func96.trans (congrArg some (by kernel_rfl))⟩
 f11 := ⟨Tryz.f119.name, by decide, Tryz.func119.trans (congrArg some (by kernel_rfl))⟩
 t0 := Tryz.underlying0
 a0 := Tryz.isAgg0
 z0 := Tryz.sizeOf0
 v0 := Tryz.zeroValue0
 t24 := Tryz.underlying136
 a24 := Tryz.isAgg136
 z24 := Tryz.sizeOf136
 v24 := Tryz.zeroValue136
 t26 := Tryz.underlying3
 a26 := Tryz.isAgg3
 z26 := Tryz.sizeOf3
 v26 := Tryz.zeroValue3
 t28 := Tryz.underlying139
 a28 := Tryz.isAgg139
 z28 := Tryz.sizeOf139
 v28 := Tryz.zeroValue139
 i26 := by kernel_rfl }
def Tryz.sortA_ren : Go.Shelf.Ren := ⟨fun | 5 => 97 | 8 => 121 | 7 => 120 | 19 => 143 | 20 => 144 | 10 => 134 | 11 => 135 | 12 => 136 | 13 => 137 | 14 => 138 | 15 => 139 | 16 => 140 | 17 => 141 | 18 => 142 | 30 => 147 | 31 => 148 | 32 => 149 | 33 => 150 | 34 => 151 | 35 => 152 | 40 => 153 | n => n, fun | 23 => 136 | 25 => 3 | 3 => 3 | 32 => 111 | 22 => 136 | 0 => 0 | 44 => 158 | 46 => 214 | 4 => 4 | 36 => 207 | 35 => 206 | 41 => 100 | 5 => 5 | 9 => 9 | 53 => 216 | 57 => 220 | 63 => 222 | 64 => 223 | n => n, fun | n => n⟩
theorem Tryz.sortA : Go.Proofs.SlLaysM.n5 Tryz.prog Tryz.sortA_ren := {
 mixed := by kernel_rfl
 f5 := ⟨Tryz.f97.name, by decide, Tryz.func97.trans (congrArg some (by kernel_rfl))⟩
 f7 := ⟨Tryz.f120.name, by decide, Tryz.func120.trans (congrArg some (by kernel_rfl))⟩
 f8 := Tryz.func121.trans (congrArg some (by kernel_rfl))
 f10 := ⟨Tryz.f134.name, by decide, Tryz.func134.trans (congrArg some (by kernel_rfl))⟩
 f11 := ⟨Tryz.f135.name, by decide, Tryz.func135.trans (congrArg some (by kernel_rfl))⟩
 f12 := ⟨Tryz.f136.name, by decide, Tryz.func136.trans (congrArg some (by kernel_rfl))⟩
 f13 := ⟨Tryz.f137.name, by decide, Tryz.func137.trans (congrArg some (by kernel_rfl))⟩
 f14 := ⟨Tryz.f138.name, by decide, Tryz.func138.trans (congrArg some (by kernel_rfl))⟩
 f15 := ⟨Tryz.f139.name, by decide, Tryz.func139.trans (congrArg some (by kernel_rfl))⟩
 f16 := ⟨Tryz.f140.name, by decide, Tryz.func140.trans (congrArg some (by kernel_rfl))⟩
 f17 := ⟨Tryz.f141.name, by decide, Tryz.func141.trans (congrArg some (by kernel_rfl))⟩
 f18 := ⟨Tryz.f142.name, by decide, Tryz.func142.trans (congrArg some (by kernel_rfl))⟩
 f19 := Tryz.func143.trans (congrArg some (by kernel_rfl))
 f20 := Tryz.func144.trans (congrArg some (by kernel_rfl))
 f30 := ⟨Tryz.f147.name, by decide, Tryz.func147.trans (congrArg some (by kernel_rfl))⟩
 f31 := Tryz.func148.trans (congrArg some (by kernel_rfl))
 f32 := Tryz.func149.trans (congrArg some (by kernel_rfl))
 f33 := ⟨Tryz.f150.name, by decide, Tryz.func150.trans (congrArg some (by kernel_rfl))⟩
 f34 := ⟨Tryz.f151.name, by decide, Tryz.func151.trans (congrArg some (by kernel_rfl))⟩
 f35 := ⟨Tryz.f152.name, by decide, Tryz.func152.trans (congrArg some (by kernel_rfl))⟩
 f40 := ⟨Tryz.f153.name, by decide, Tryz.func153.trans (congrArg some (by kernel_rfl))⟩
 t0 := Tryz.underlying0
 a0 := Tryz.isAgg0
 z0 := Tryz.sizeOf0
 v0 := Tryz.zeroValue0
 t3 := Tryz.underlying3
 a3 := Tryz.isAgg3
 z3 := Tryz.sizeOf3
 v3 := Tryz.zeroValue3
 t4 := Tryz.underlying4
 a4 := Tryz.isAgg4
 z4 := Tryz.sizeOf4
 v4 := Tryz.zeroValue4
 t5 := Tryz.underlying5
 a5 := Tryz.isAgg5
 z5 := Tryz.sizeOf5
 v5 := Tryz.zeroValue5
 t9 := Tryz.underlying9
 a9 := Tryz.isAgg9
 z9 := Tryz.sizeOf9
 v9 := Tryz.zeroValue9
 t22 := Tryz.underlying136
 a22 := Tryz.isAgg136
 z22 := Tryz.sizeOf136
 v22 := Tryz.zeroValue136
 t23 := Tryz.underlying136
 a23 := Tryz.isAgg136
 z23 := Tryz.sizeOf136
 v23 := Tryz.zeroValue136
 t25 := Tryz.underlying3
 a25 := Tryz.isAgg3
 z25 := Tryz.sizeOf3
 v25 := Tryz.zeroValue3
 t32 := Tryz.underlying111
 a32 := Tryz.isAgg111
 z32 := Tryz.sizeOf111
 v32 := Tryz.zeroValue111
 t35 := Tryz.underlying206
 a35 := Tryz.isAgg206
 z35 := Tryz.sizeOf206
 v35 := Tryz.zeroValue206
 t36 := Tryz.underlying207
 a36 := Tryz.isAgg207
 z36 := Tryz.sizeOf207
 v36 := Tryz.zeroValue207
 t41 := Tryz.underlying100
 a41 := Tryz.isAgg100
 z41 := Tryz.sizeOf100
 v41 := Tryz.zeroValue100
 t44 := Tryz.underlying158
 a44 := Tryz.isAgg158
 z44 := Tryz.sizeOf158
 v44 := Tryz.zeroValue158
 t46 := Tryz.underlying214
 a46 := Tryz.isAgg214
 z46 := Tryz.sizeOf214
 v46 := Tryz.zeroValue214
 t53 := Tryz.underlying216
 a53 := Tryz.isAgg216
 z53 := Tryz.sizeOf216
 v53 := Tryz.zeroValue216
 t57 := Tryz.underlying220
 a57 := Tryz.isAgg220
 z57 := Tryz.sizeOf220
 v57 := Tryz.zeroValue220
 t63 := Tryz.underlying222
 a63 := Tryz.isAgg222
 z63 := Tryz.sizeOf222
 v63 := Tryz.zeroValue222
 t64 := Tryz.underlying223
 a64 := Tryz.isAgg223
 z64 := Tryz.sizeOf223
 v64 := Tryz.zeroValue223 }
end Go.Proofs
end
namespace Go.Proofs.YtpjbdpepofnleaaGreat
section
open Go.RowKit Go.Maps Go.Sort Go.Shelf
theorem sortsA (m : Nat) : AnyZI.SortsIn Tryz.prog Tryz.sortedA_ren Fence.wide m :=
 ⟨fun blk off cap ss W hH hblk hsz => callsIn_wide.2 (AnyM.slices_Sort_int Tryz.sortA blk off cap ss W hH hblk hsz),
  fun p cap W => callsIn_wide.2 (AnyM.slices_Sort_int_none Tryz.sortA p cap W)⟩
theorem keys_any (b : Nat) (w : World) : Calls Tryz.prog 89 #[.map (some b)] w fun e w' => e = .returned (.func (.func 115) #[] #[.pointer (some ⟨w.heap.size, 0, none⟩)]) /\ w' = w.alloc (.cells #[.map (some b)] 116) :=
 (callsIn_wide (n := 5)).1 (AnyZI.keys_in Tryz.keysA Fence.wide 5 trivial rfl (some b) w)
def kcells (m : PgM) : List Value := m.map fun p => .int .i64 (p.1 : Int)
theorem sort_keys {n : Nat} {m : PgM} (hm : PgOk n m) {ss : List Int} (h : ss.Perm (intKeys (toD m))) : (ss.mergeSort fun x y => decide (x <= y)).map encZ = kcells m := by
 rw [mergeSort_of_perm_i h, keys_D]
 have e : (m.map fun p => (p.1 : Int)).mergeSort leI = m.map fun p => (p.1 : Int) := by
  refine List.mergeSort_of_pairwise ?_; rw [List.pairwise_map]; exact hm.rise.imp fun {a b} hab => by simp only [leI, decide_eq_true_eq]; omega
 rw [e]
 simp [kcells, encZ]
/-- slices.Sorted of what maps.Keys gave. -/
theorem sorted_any {b n : Nat} {m : PgM} {w : World} (h : MapAt w b m) (hm : PgOk n m) (hn : n <= 65536) (w1 : World) (hw1 : w1 = w.alloc (.cells #[.map (some b)] 116)) :
  Calls Tryz.prog 64 #[.func (.func 115) #[] #[.pointer (some ⟨w.heap.size, 0, none⟩)]] w1 fun e w' => ∃ v, e = .returned v /\ w'.ownsRow w1.heap.size 3 1 v m.length (kcells m) /\ Fr [] w1 w' := by
 subst hw1; have hfew := hm.few; have hbl := h.lt; have hsz : Maps.size (toD m) = m.length := size_D m
 have hseq : SeqGives Fence.wide 2 Tryz.prog 115 #[.pointer (some ⟨w.heap.size, 0, none⟩)] encZ (fun ss => ss.Perm (intKeys (toD m))) (Maps.size (toD m)) (w.alloc (.cells #[.map (some b)] 116)) :=
  AnyZI.keys_gives (R := pgR) (nn := m.length) (ρ := Tryz.keysA_ren) { Tryz.keysA with } Fence.wide _ trivial rfl (by omega) w.heap.size b (toD m) _ (by simp) (by simp) (h.fr ((Fr.refl [] w).alloc _) (by simp))
 have cS := AnyZI.sorted_in Tryz.sortedA Fence.wide 5 trivial trivial trivial trivial rfl (by omega) (sortsA _) (enters_of Tryz.func97 (by kernel_rfl) rfl) 115 #[.pointer (some ⟨w.heap.size, 0, none⟩)] trivial (enters_of Tryz.func115 (by kernel_rfl) rfl) _ _ (by rw [hsz]; unfold maxLen; omega) (by rw [hsz]; omega) _ hseq; have cS' := (callsIn_wide (n := 5)).1 cS; refine Calls.mono (P := Tryz.prog) (f := 64) cS' ?_; rintro e w' ⟨v, ss, rfl, hS, hrow, _, hb⟩
 have hl : ss.length = m.length := by
  have := hS.length_eq; rw [keys_D, List.length_map] at this; exact this
 rw [sort_keys hm hS, hl] at hrow; exact ⟨v, rfl, hrow, Fr.of_below hb []⟩
end
section
open Go.RowKit
section
variable {P : Program} {o : Oper} {a : Act} {w : World} {K : Act -> World -> Prop} {Q : Exit -> Act -> World -> Prop}
end
theorem calls_post {P : Program} {f : FuncId} {args : Array Value} {w : World} {R0 : Ending -> World -> Prop} (h : ∀ R : Ending -> World -> Prop, Hid (∀ e w', R0 e w' -> R e w') -> Calls P f args w R) : Calls P f args w R0 := h R0 (lh fun _ _ h => h)
theorem ret_blk {P : Program} {fn : Func} {R : Ending -> World -> Prop} {tmps : Array Value} {w : World} {k : Tmp} {t t' : TypeId} {g : Nat} {cs : List Value} {d : TypeDesc} (hr : fn.results = #[.cell k t]) (ha : tmps.getD k undef = .pointer (some ⟨g, 0, none⟩)) (hb : Blk w g t' cs)
  (hu : P.underlying t = some d) (hd : d.isRow = true) (hi : (P.info? t).map (·.size) = some cs.length) (h : R (.returned (.agg cs.toArray)) w) : bodyPost P fn R .ret ⟨tmps, []⟩ w := by
 refine bodyPost_ret (v := .agg cs.toArray) ?_ rfl h; have hl := run_loadVar_row (P := P) w g t' t cs.toArray (0, 0) d hb hu (by cases d <;> simp_all) (by simpa using hi); have ha' : tmps[k]?.getD undef = .pointer (some ⟨g, 0, none⟩) := by simpa using ha
 simp [results, hr, ha', hl, asAddr]
def SlAt (w : World) (v : Value) (n : Nat) (xs : List Value) (g : Nat) : Prop :=
 ∃ A c off, v = .slice A n c /\ n <= c /\ (0 < n -> A = some ⟨g, off, none⟩ /\ ∀ (j : Nat) (u : Value), xs[j]? = some u -> w.cell? ⟨g, off + j, none⟩ = some u)
theorem SlAt.fr {S : List Nat} {w w' : World} {v : Value} {n : Nat} {xs : List Value} {g : Nat} (h : SlAt w v n xs g) (hf : Fr S w w') (hg : 0 < n -> g ∉ S) : SlAt w' v n xs g := by
 obtain ⟨A, c, off, hv, hc, hb⟩ := h; refine ⟨A, c, off, hv, hc, fun h0 => ⟨(hb h0).1, fun j u hu => ?_⟩⟩; have h1 := (hb h0).2 j u hu; rw [hf.cell (World.block_lt_of_cell? w _ h1) (hg h0)]; exact h1
theorem SlAt.of_own {w : World} {e : TypeId} {size n b : Nat} {v : Value} {xs : List Value} (h : w.ownsRow b e size v n xs) (g0 : Nat) : ∃ g, SlAt w v n xs g /\ (0 < n -> v.ownBlock = some g) /\ (n = 0 -> g = g0) := by
 obtain ⟨A, c, rfl, hc, _⟩ := own_shape h
 by_cases h0 : 0 < n
 ·obtain ⟨g, rfl, hg⟩ := own_cell h h0; exact ⟨g, ⟨_, c, 0, rfl, hc, fun _ => ⟨rfl, fun j u hj => by rw [Nat.zero_add]; exact hg j u hj⟩⟩, fun _ => rfl, fun h1 => by omega⟩
 ·exact ⟨g0, ⟨A, c, 0, rfl, hc, fun h => absurd h h0⟩, fun h => absurd h h0, fun _ => rfl⟩
end
end Go.Proofs.YtpjbdpepofnleaaGreat
