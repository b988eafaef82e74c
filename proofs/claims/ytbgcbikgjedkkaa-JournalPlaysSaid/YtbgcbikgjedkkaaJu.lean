/-
  JournalKeeps as plain data: records one behind the other until the disk dies; and a slice of ints that came in. No program in sight.
-/
import Derived.Test.YtbgcbikgjedkkaaJs
import Derived.Test.YtbgcbikgjedkkaaRow
namespace Go.Proofs.Ytbgcbikgjedkkaa
open Go.RowKit Go.ChangeShapes Go.WideShapes

def secsAll : Nat → List (List UInt8) → List (List UInt8)
  | _, [] => []
  | num, b :: W => secsP 1 num b ++ secsAll (num + 1) W
def recAll : Nat → List (List UInt8) → List (Stamp × List UInt8)
  | _, [] => []
  | num, b :: W => (stampAt 1 num b, b) :: recAll (num + 1) W
def lastAll (last : Option Stamp) : Nat → List (List UInt8) → Option Stamp
  | _, [] => last
  | num, b :: W => lastAll (some (stampAt 1 num b)) (num + 1) W
def needAll (W : List (List UInt8)) : Nat := (W.map fun b => needOf b.length).sum
theorem secsAll_len : ∀ (W : List (List UInt8)) (num : Nat), (secsAll num W).length = needAll W
  | [], _ => rfl
  | b :: W, num => by
    simp only [secsAll, List.length_append, secsP_len, secsAll_len W (num + 1), needAll, List.map_cons, List.sum_cons]
theorem secsAll_snoc : ∀ (W : List (List UInt8)) (num : Nat) (b : List UInt8), secsAll num (W ++ [b]) = secsAll num W ++ secsP 1 (num + W.length) b
  | [], num, b => by simp [secsAll]
  | c :: W, num, b => by
    simp only [List.cons_append, secsAll, secsAll_snoc W (num + 1) b, List.append_assoc, List.length_cons]
    rw [show num + 1 + W.length = num + (W.length + 1) by omega]
theorem needAll_snoc (W : List (List UInt8)) (b : List UInt8) : needAll (W ++ [b]) = needAll W + needOf b.length := by simp [needAll]
theorem recAll_rows : ∀ (W : List (List UInt8)) (num : Nat), (recAll num W).map (·.2) = W
  | [], _ => rfl
  | b :: W, num => by simp [recAll, recAll_rows W (num + 1)]
def nextOk (last : Option Stamp) (num : Nat) : Prop := ∀ c, stops last ⟨1, num, c⟩ = false
theorem nextOk_some (num : Nat) (b : List UInt8) (h : num < 4294967295) : nextOk (some (stampAt 1 num b)) (num + 1) := by
  intro c
  refine decide_eq_false ?_
  show ¬ (num + 1 ≠ (num + 1) % 4294967296 ∨ 1 < 1)
  omega
theorem nextOk_all : ∀ (W : List (List UInt8)) (num : Nat) (last : Option Stamp), nextOk last num → num + W.length < 4294967296 → nextOk (lastAll last num W) (num + W.length)
  | [], num, last, h, _ => h
  | b :: W, num, last, _, hn => by
    simp only [List.length_cons] at hn
    have := nextOk_all W (num + 1) (some (stampAt 1 num b)) (nextOk_some num b (by omega)) (by omega)
    rw [List.length_cons, show num + (W.length + 1) = num + 1 + W.length by omega]
    exact this
theorem recs_all : ∀ (W : List (List UInt8)) (num k : Nat) (last : Option Stamp) (T : List (List UInt8)), (∀ b ∈ W, needOf b.length ≤ 65535) → num + W.length < 4294967296 → nextOk last num →
    recordsOf (W.length + k) last (secsAll num W ++ T) = recAll num W ++ recordsOf k (lastAll last num W) T
  | [], num, k, last, T, _, _, _ => by simp [secsAll, recAll, lastAll]
  | b :: W, num, k, last, T, h, hn, hl => by
    simp only [List.length_cons] at hn
    have hF : Fits 1 num b := ⟨by omega, by omega, h b (List.mem_cons_self ..)⟩
    simp only [secsAll, List.append_assoc, List.length_cons, recAll, lastAll, List.cons_append]
    rw [show W.length + 1 + k = W.length + k + 1 by omega, recs_cons hF _ _ last (hl _), recs_all W (num + 1) k _ T (fun c hc => h c (List.mem_cons_of_mem _ hc)) (by omega) (nextOk_some num b (by omega))]
theorem SesLe.all : ∀ (W : List (List UInt8)) (num : Nat), (∀ b ∈ W, needOf b.length ≤ 65535) → num + W.length < 4294967296 → SesLe (secsAll num W) 1
  | [], _, _, _ => fun s hs => by simp [secsAll] at hs
  | b :: W, num, h, hn => by
    simp only [List.length_cons] at hn
    exact (SesLe.secs ⟨by omega, by omega, h b (List.mem_cons_self ..)⟩ (Nat.le_refl 1)).append (SesLe.all W (num + 1) (fun c hc => h c (List.mem_cons_of_mem _ hc)) (by omega))

def zer (n : Nat) : List (List UInt8) := List.replicate n zsec
theorem zer_len (n : Nat) : (zer n).length = n := by simp [zer]
structure KLive (W : List (List UInt8)) (D : DM) (l : LG) : Prop where
  st : St D 0 (secsAll 1 W ++ zer (64 - needAll W))
  lg : l = ⟨0, 64, needAll W, 1 + W.length, 1, false⟩
  few : needAll W ≤ 3 * W.length
  most : W.length ≤ 20
  lim : 0 ≤ D.limit
  done : D.done ≤ 4 * W.length
  len : D.S.length = 64
  short : ∀ b ∈ W, needOf b.length ≤ 3
structure KDead (W : List (List UInt8)) (b : List UInt8) (D : DM) (K : List Bool) : Prop where
  dead : D.dead = true
  len : D.S.length = 64
  most : W.length < 20
  few : needAll W ≤ 3 * W.length
  short : ∀ b ∈ W, needOf b.length ≤ 3
  last : needOf b.length ≤ 3
  torn : ∃ T, St (D.reopen K) 0 (secsAll 1 W ++ T) ∧ Torn (zer (64 - needAll W)) T 1 (1 + W.length) b
theorem KLive.start (q : Nat) : KLive [] ((DM.new 64).limited q) ⟨0, 64, 0, 1, 1, false⟩ := by
  refine ⟨?_, rfl, by simp [needAll], by simp, by show 0 ≤ max (q : Int) (-1); omega, by simp [DM.limited, DM.new], by show (DM.new 64).S.length = 64; decide, by simp⟩
  exact (St.new 0 64 64 (by omega)).limited q
theorem KLive.ok {W : List (List UInt8)} {D : DM} {l : LG} (h : KLive W D l) : l.ok D := by
  have := h.few; have := h.most
  rw [h.lg]
  exact ⟨by show needAll W ≤ 64; omega, by rw [h.len]; show 0 + 64 ≤ 64; omega, by show 1 + W.length < _; omega, by show 1 < _; omega⟩
theorem KLive.next {W : List (List UInt8)} {D : DM} {l : LG} (h : KLive W D l) (b : List UInt8) (hb : b.length ≤ 127) (hW : W.length < 20) (K : List Bool) :
    (appendE D l b = 0 ∧ KLive (W ++ [b]) (appendD D l b) (appendL D l b)) ∨ (appendE D l b = 10 ∧ KDead W b (appendD D l b) K) := by
  have hm : needOf b.length ≤ 3 := need_le (by omega) (by omega)
  have hf := h.few
  have hl := h.lg
  have hlen : (secsAll 1 W ++ zer (64 - needAll W)).length = 64 := by rw [List.length_append, secsAll_len, zer_len]; omega
  have hLg : LgAt l 0 (secsAll 1 W ++ zer (64 - needAll W)).length (secsAll 1 W).length := by rw [hl, hlen, secsAll_len]; exact ⟨rfl, rfl, rfl, rfl⟩
  have hS := appendS_len D l b
  rw [h.len] at hS
  by_cases hlim : D.limit ≤ needOf b.length
  · obtain ⟨h1, h2, h3, ⟨T, h4, h5⟩, _⟩ := append_torn (b := b) h.st hLg (by rw [zer_len]; omega) (by omega) h.lim hlim K
    refine .inr ⟨h1, h2, hS, hW, hf, h.short, hm, T, h4, ?_⟩
    rw [hl] at h5
    exact h5
  · obtain ⟨h1, h2, h3, h4, h5⟩ := append_whole (b := b) h.st hLg (by rw [zer_len]; omega) (by omega) (.inr (by omega))
    have hd := h.done; have hm0 := h.most
    refine .inl ⟨h1, ?_, ?_, ?_, ?_, ?_, ?_, hS, ?_⟩
    · have e : secsAll 1 W ++ (secsP l.ses l.num b ++ (zer (64 - needAll W)).drop (needOf b.length)) = secsAll 1 (W ++ [b]) ++ zer (64 - needAll (W ++ [b])) := by
        rw [secsAll_snoc, needAll_snoc, hl, List.append_assoc]
        congr 2
        simp only [zer, List.drop_replicate]
        congr 1
        omega
      rw [← e]
      exact h2
    · rw [h3, hl, needAll_snoc, secsAll_len]
      simp only [List.length_append, List.length_singleton, LG.mk.injEq, true_and, and_true]
      omega
    · rw [needAll_snoc, List.length_append, List.length_singleton]; omega
    · rw [List.length_append, List.length_singleton]; omega
    · rw [h4, if_neg (by have := h.lim; omega)]; omega
    · rw [h5, List.length_append, List.length_singleton]; omega
    · intro c hc
      rcases List.mem_append.1 hc with hc | hc
      · exact h.short c hc
      · simp at hc; subst hc; exact hm
theorem KLive.told {W : List (List UInt8)} {D : DM} {l : LG} (h : KLive W D l) (K : List Bool) :
    (D.reopen K).S.length = 64 ∧ (newestOf ((D.reopen K).part 0 64)).1 < 4294967295 ∧ (openR (D.reopen K) 0 64).map (·.2) = W ∧ D.dead = false := by
  have hf := h.few; have hm := h.most
  have hlen : (secsAll 1 W ++ zer (64 - needAll W)).length = 64 := by rw [List.length_append, secsAll_len, zer_len]; omega
  have hv := (h.st.reopen K).view hlen
  have hsh : ∀ b ∈ W, needOf b.length ≤ 65535 := fun b hb => Nat.le_trans (h.short b hb) (by omega)
  refine ⟨by show (layAll _ _).length = 64; rw [layAll_len]; exact h.len, ?_, ?_, h.st.dead⟩
  · rw [hv]
    exact Nat.lt_of_le_of_lt (newest_le ((SesLe.all W 1 hsh (by omega)).append (SesLe.zero (rep_zero _) 1))) (by omega)
  · unfold openR
    have hr := recs_all W 1 (64 - W.length) none (zer (64 - needAll W)) hsh (by omega) (fun _ => rfl)
    rw [show W.length + (64 - W.length) = 64 by omega, recs_none (zero_none (show ∀ s ∈ zer (64 - needAll W), s = zsec from rep_zero _)), List.append_nil] at hr
    rw [hv, hr, recAll_rows]
theorem KDead.told {W : List (List UInt8)} {b : List UInt8} {D : DM} {K : List Bool} (h : KDead W b D K) :
    (D.reopen K).S.length = 64 ∧ (newestOf ((D.reopen K).part 0 64)).1 < 4294967295 ∧ ((openR (D.reopen K) 0 64).map (·.2) = W ∨ (openR (D.reopen K) 0 64).map (·.2) = W ++ [b]) := by
  have hf := h.few; have hm := h.most
  obtain ⟨T, hS, hT⟩ := h.torn
  have hlen : (secsAll 1 W ++ T).length = 64 := by rw [List.length_append, secsAll_len, hT.1, zer_len]; omega
  have hv := hS.view hlen
  have hsh : ∀ b ∈ W, needOf b.length ≤ 65535 := fun b hb => Nat.le_trans (h.short b hb) (by omega)
  have hF : Fits 1 (1 + W.length) b := ⟨by omega, by omega, Nat.le_trans h.last (by omega)⟩
  refine ⟨by show (layAll _ _).length = 64; rw [layAll_len]; exact h.len, ?_, ?_⟩
  · rw [hv]
    exact Nat.lt_of_le_of_lt (newest_le ((SesLe.all W 1 hsh (by omega)).append ((SesLe.zero (rep_zero _) 1).torn hF hT (Nat.le_refl 1)))) (by omega)
  · unfold openR
    have hr := recs_all W 1 (63 - W.length + 1) none T hsh (by omega) (fun _ => rfl)
    rw [show W.length + (63 - W.length + 1) = 64 by omega] at hr
    rw [hv, hr]
    rcases torn_recs hT hF (NoneOf.zero (rep_zero _) _ _) (zero_none (rep_zero _)) (NoHead.zero (rep_zero _)) (last := lastAll none 1 W) (nextOk_all W 1 none (fun _ => rfl) (by omega) _) (63 - W.length) with ⟨p1, _⟩ | ⟨p1, _⟩
    · left; rw [p1, List.append_nil, recAll_rows]
    · right; rw [p1, List.map_append, recAll_rows]; rfl

/-! ### A slice of ints that came in -/
def ArgInts (W : World) (v : Value) (zs : List Int) : Prop := zs.length ≤ maxLen ∧ ∃ A c, v = .slice A zs.length c ∧ zs.length ≤ c ∧ (0 < zs.length → ∃ g off, A = some ⟨g, off, none⟩ ∧ ∀ (j : Nat) (z : Int), zs[j]? = some z → W.cell? ⟨g, off + j, none⟩ = some (.int .i64 z))
section
variable {P : Program} {H : Type} {enc : TypeId × Value → H}
theorem arg_ints {W : World} {t e : TypeId} {v : Value} {fuel : Nat} {x : DataW H × List MemPlace} (ht : P.underlying t = some (.slice e)) (he : P.underlying e = some (.int .i64)) (hC : P.cellsOf e = 1)
    (h : DataW.trod enc P W 0 (fun _ => true) true fuel t [v] = some x) : ∃ zs, ArgInts W v zs := by
  rcases open_ints ht he hC h with ⟨hcs, _⟩ | ⟨a, len, cap, zs, hcs, _, hl, hm, hz, _, hcell, hwf⟩
  · obtain rfl : v = .slice none 0 0 := by simpa using hcs
    exact ⟨[], by simp, none, 0, rfl, by simp, fun h => by simp at h⟩
  · obtain rfl : v = .slice (some a) len cap := by simpa using hcs
    simp only [if_true] at hz
    have hl0 : (zs.take len).length = len := by simp; omega
    refine ⟨zs.take len, by rw [hl0]; omega, some a, cap, by rw [hl0], by rw [hl0]; exact hl, fun h0 => ?_⟩
    rw [hl0] at h0
    obtain ⟨g, off, rfl⟩ := add_form (hcell 0 (by omega))
    refine ⟨g, off, rfl, fun j z hj => ?_⟩
    have hj' : j < len := by have := (List.getElem?_eq_some_iff.1 hj).1; rw [hl0] at this; exact this
    have hc := hcell j (by omega)
    rw [add_eq] at hc
    rw [hc]
    rw [List.getElem?_take, if_pos hj', List.getElem?_eq_getElem (by omega : j < zs.length)] at hj
    simp only [Option.some.injEq] at hj
    rw [List.getD_eq_getElem?_getD, List.getElem?_eq_getElem (by omega : j < zs.length), Option.getD_some, ← hj]
end

end Go.Proofs.Ytbgcbikgjedkkaa
