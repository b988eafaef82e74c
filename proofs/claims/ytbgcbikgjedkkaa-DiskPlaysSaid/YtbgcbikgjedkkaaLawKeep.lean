/-
  The walk of DiskKeeps: for all inputs it answers true and leaves old memory alone. Before it: 'small'.
-/
import Derived.Test.YtbgcbikgjedkkaaLawA
import Derived.Test.YtbgcbikgjedkkaaBits
import Derived.Test.YtbgcbikgjedkkaaArgOps
namespace Go.Proofs.Ytbgcbikgjedkkaa
open Go.RowKit

def okOp (o : OpA) : Bool := decide (o.bs.length ≤ 200) && decide (o.ks.length ≤ 200)
def smallB (l : List OpA) : Bool := decide (l.length ≤ 100) && l.all okOp

theorem all_take_succ {l : List OpA} {j : Nat} {o : OpA} (hj : l[j]? = some o) (h : (l.take j).all okOp = true) : (l.take (j + 1)).all okOp = okOp o := by
  have hlt : j < l.length := (List.getElem?_eq_some_iff.1 hj).1
  rw [List.take_succ_eq_append_getElem hlt, List.all_append, h]
  rw [List.getElem?_eq_getElem hlt] at hj
  simp only [Option.some.injEq] at hj
  simp [hj]
theorem all_false {l : List OpA} {j : Nat} {o : OpA} (hj : l[j]? = some o) (h : okOp o = false) : l.all okOp = false := by
  rw [List.all_eq_false]
  exact ⟨o, List.mem_of_getElem? hj, by simp [h]⟩

def SmallRel (l : List OpA) (i : Value) : Prop := ∃ j : Nat, j ≤ l.length ∧ i = .int .i64 j ∧ (l.take j).all okOp = true

set_option maxRecDepth 100000 in
set_option maxHeartbeats 1000000 in
theorem small_any {W w : World} {v : Value} {l : List OpA} (hl : ArgOps W v l) (hf : Fr [] W w) :
    Calls Try.prog 14 #[v] w fun e w' => e = .returned (.bool (smallB l)) ∧ w = w' := by
  obtain ⟨A, c, g, off, rfl, hm, hel⟩ := hl
  unfold maxLen at hm
  have HEL := Lib.hid hel; have HF := Lib.hid hf; clear hel hf
  by_cases hbig : 100 < l.length
  · have e : smallB l = false := by simp [smallB]; omega
    rw [e]
    clear e
    go_enter Try.func14, Try.ntmps14
    go_wp2
    go_ret
    exact ⟨rfl, rfl⟩
  · have e : smallB l = l.all okOp := by simp [smallB]; omega
    rw [e]
    clear e
    go_enter Try.func14, Try.ntmps14
    go_wp2
    go_loop [3] (SmallRel l) (fun i => l.length - (intOf i).toNat)
    case atStart => exact ⟨0, Nat.zero_le _, rfl, rfl⟩
    case round =>
      obtain ⟨j, hj, rfl, hall⟩ := hrel
      have HALL := Lib.hid hall; clear hall
      by_cases hjl : j < l.length
      · obtain ⟨o, ho⟩ : ∃ o, l[j]? = some o := ⟨_, List.getElem?_eq_getElem hjl⟩
        obtain ⟨rfl, hat⟩ := HEL.out j o ho
        obtain ⟨_, c1, c2, c3⟩ := hat.fr HF.out
        obtain ⟨hbm, bg, ⟨bA, bc, bo, hbv, _⟩, _⟩ := hat.b
        obtain ⟨hkm, kg, ⟨kA, kc, ko, hkv, _⟩, _⟩ := hat.k
        rw [hbv] at c2
        rw [hkv] at c3
        unfold maxLen at hbm hkm
        have HO := Lib.hid ho
        clear hbv hkv hat ho c1
        by_cases h1 : 200 < o.bs.length
        · have hno : l.all okOp = false := all_false HO.out (by simp [okOp]; omega)
          have HNO := Lib.hid hno; clear hno
          go_wp2
          go_ret
          rw [HNO.out]
          exact ⟨rfl, rfl⟩
        · by_cases h2 : 200 < o.ks.length
          · have hno : l.all okOp = false := all_false HO.out (by simp [okOp]; omega)
            have HNO := Lib.hid hno; clear hno
            go_wp2
            go_ret
            rw [HNO.out]
            exact ⟨rfl, rfl⟩
          · have hyes : (l.take (j + 1)).all okOp = true := by rw [all_take_succ HO.out HALL.out]; simp [okOp]; omega
            have HY := Lib.hid hyes; clear hyes
            go_wp2
            go_round
            case rel => exact ⟨j + 1, by omega, by go_num, HY.out⟩
            case measure => simp [intOf]; omega
      · have hyes : l.all okOp = true := by have := HALL.out; rwa [List.take_of_length_le (by omega)] at this
        have HY := Lib.hid hyes; clear hyes
        go_wp2
        go_ret
        rw [HY.out]
        exact ⟨rfl, rfl⟩

/-! ### The plain law -/
theorem kept_append (Ps : List (Nat × List UInt8)) (p : Nat × List UInt8) (K : List Bool) : keptOf (Ps ++ [p]) K = keptOf Ps K ++ (if K[Ps.length]? = some true then [p] else []) := by
  have h : (Ps ++ [p])[Ps.length]? = some p := by simp
  have := kept_step (Ps ++ [p]) K Ps.length p h
  rw [List.take_of_length_le (by simp)] at this
  simpa using this
/-- The disk in the middle of the statement: the sector k was laid down; so much is pending; b: was the sector hit by one that is kept? -/
structure Mid (k : Nat) (K : List Bool) (S0 : List (List UInt8)) (D : DM) (b : Bool) : Prop where
  s : D.S = S0
  dead : D.dead = false
  lim : D.limit = -1
  done : D.done = D.P.length + 2
  hit : b = false → ∀ p ∈ keptOf D.P K, p.1 ≠ k
theorem Mid.no {k : Nat} {K : List Bool} {S0 : List (List UInt8)} {D : DM} {b : Bool} (h : Mid k K S0 D b) {pl : Int} {bs : List UInt8} (hE : D.writeE pl bs ≠ 0) : D.write pl bs = D := by
  have hl : D.limit ≠ 0 := by rw [h.lim]; decide
  unfold DM.writeE at hE
  unfold DM.write
  rw [if_neg (by simp [h.dead])] at hE ⊢
  by_cases hk : pl < 0 ∨ (D.S.length : Int) ≤ pl ∨ 64 < bs.length
  · rw [if_pos hk]
  · rw [if_neg hk, if_neg hl] at hE; exact absurd rfl hE
theorem Mid.yes {k : Nat} {K : List Bool} {S0 : List (List UInt8)} {D : DM} {b : Bool} (h : Mid k K S0 D b) {pl : Int} {bs : List UInt8} (hE : D.writeE pl bs = 0) :
    Mid k K S0 (D.write pl bs) (b || (decide (pl = k) && decide (K[D.P.length]? = some true))) ∧ (D.write pl bs).P.length = D.P.length + 1 := by
  have hl : D.limit ≠ 0 := by rw [h.lim]; decide
  have hd : ¬ (D.dead = true) := by simp [h.dead]
  have hk : ¬ (pl < 0 ∨ (D.S.length : Int) ≤ pl ∨ 64 < bs.length) := by
    intro hk
    unfold DM.writeE at hE
    rw [if_neg hd, if_pos hk] at hE
    exact absurd hE (by decide)
  have e : D.write pl bs = { D.spent with P := D.P ++ [(pl.toNat, pad bs)] } := by
    unfold DM.write; rw [if_neg hd, if_neg hk, if_neg hl]
  rw [e]
  refine ⟨⟨h.s, h.dead, ?_, ?_, ?_⟩, by simp⟩
  · show (if 0 < D.limit then D.limit - 1 else D.limit) = -1
    rw [h.lim]; rfl
  · show D.done + 1 = (D.P ++ [(pl.toNat, pad bs)]).length + 2
    rw [h.done]; simp
  · intro hb p hp
    simp only [Bool.or_eq_false_iff] at hb
    have hp' : p ∈ keptOf (D.P ++ [(pl.toNat, pad bs)]) K := hp
    rw [kept_append, List.mem_append] at hp'
    rcases hp' with hp' | hp'
    · exact h.hit hb.1 p hp'
    · split at hp'
      · rename_i hK
        obtain rfl : p = (pl.toNat, pad bs) := by simpa using hp'
        have h2 := hb.2
        rw [Bool.and_eq_false_iff] at h2
        rcases h2 with h2 | h2
        · have := of_decide_eq_false h2
          show pl.toNat ≠ k
          omega
        · exact absurd hK (of_decide_eq_false h2)
      · simp at hp'
theorem lay_far (k : Nat) : ∀ (Ps : List (Nat × List UInt8)) (S : List (List UInt8)), (∀ p ∈ Ps, p.1 ≠ k) → (layAll S Ps).getD k [] = S.getD k []
  | [], _, _ => rfl
  | p :: Ps, S, h => by
    show (layAll (S.set p.1 p.2) Ps).getD k [] = _
    rw [lay_far k Ps _ (fun q hq => h q (List.mem_cons_of_mem _ hq))]
    rw [List.getD_eq_getElem?_getD, List.getElem?_set_ne (h p (List.mem_cons_self ..)), ← List.getD_eq_getElem?_getD]
/-- What was written and synced. -/
def S1 (k : Nat) (a : List UInt8) : List (List UInt8) := (DM.new 8).S.set k (pad a)
theorem first_write (k : Nat) (hk : k < 8) (a : List UInt8) (ha : a.length ≤ 64) (K : List Bool) : (DM.new 8).writeE k a = 0 ∧ ((DM.new 8).write k a).syncE = 0 ∧ Mid k K (S1 k a) ((DM.new 8).write k a).sync false ∧ ((DM.new 8).write k a).done = 1 := by
  have h1 : ¬ ((k : Int) < 0 ∨ ((DM.new 8).S.length : Int) ≤ k ∨ 64 < a.length) := by
    have : (DM.new 8).S.length = 8 := rfl
    rw [this]; omega
  have e : (DM.new 8).write k a = { (DM.new 8).spent with P := [(k, pad a)] } := by
    unfold DM.write
    rw [if_neg (by simp [DM.new]), if_neg h1, if_neg (by simp [DM.new])]
    simp [DM.new]
  refine ⟨?_, ?_, ?_, by rw [e]; rfl⟩
  · unfold DM.writeE
    rw [if_neg (by simp [DM.new]), if_neg h1, if_neg (by simp [DM.new])]
  · rw [e]; rfl
  · rw [e]
    exact ⟨rfl, rfl, rfl, rfl, fun _ p hp => by simp [DM.sync, DM.new, DM.spent, keptOf] at hp⟩
theorem Mid.limit0 {k : Nat} {K : List Bool} {a : List UInt8} {D : DM} {b : Bool} (h : Mid k K (S1 k a) D b) : (D.limited 0).writeE 0 [] = 10 ∧ (D.limited 0).write 0 [] = (D.limited 0).died := by
  have hl : (D.limited 0).S.length = 8 := by show D.S.length = 8; rw [h.s]; simp [S1, DM.new]
  have h1 : ¬ ((0 : Int) < 0 ∨ ((D.limited 0).S.length : Int) ≤ 0 ∨ 64 < ([] : List UInt8).length) := by rw [hl]; simp
  have hd : ¬ ((D.limited 0).dead = true) := by simp [DM.limited, h.dead]
  have h0 : (D.limited 0).limit = 0 := by show max (0 : Int) (-1) = 0; omega
  exact ⟨by unfold DM.writeE; rw [if_neg hd, if_neg h1, if_pos h0], by unfold DM.write; rw [if_neg hd, if_neg h1, if_pos h0]⟩
theorem Mid.last {k : Nat} {K : List Bool} {a : List UInt8} {D : DM} {b : Bool} (hk : k < 8) (ha : a.length ≤ 64) (h : Mid k K (S1 k a) D b) :
    (((D.limited 0).died).reopen K).readE k = 0 ∧ (b = false → ((((D.limited 0).died).reopen K).read k).take a.length = a) := by
  have hl : (((D.limited 0).died).reopen K).S.length = 8 := by
    show (layAll D.S (keptOf D.P K)).length = 8
    rw [layAll_len, h.s]; simp [S1, DM.new]
  have hE : (((D.limited 0).died).reopen K).readE k = 0 := by
    unfold DM.readE
    rw [if_neg (by simp [DM.reopen]), if_neg (by rw [hl]; omega)]
  refine ⟨hE, fun hb => ?_⟩
  rw [DM.read, if_pos hE]
  have e : (((D.limited 0).died).reopen K).look ((k : Int).toNat) = pad a := by
    show (layAll D.S (keptOf D.P K)).getD k [] = pad a
    rw [lay_far k _ _ (h.hit hb), h.s, S1, List.getD_eq_getElem?_getD, List.getElem?_set_self (by simp [DM.new]; omega)]
    rfl
  rw [e, pad]
  simp

end Go.Proofs.Ytbgcbikgjedkkaa
