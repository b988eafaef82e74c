/-
  The journal over the disk as plain data: what Append leaves, whole or torn. No program in sight.
-/
import Derived.Test.YtidpleejgalljaaJp
namespace Go.Proofs.Ytidpleejgalljaa

def zipAt (pos : Nat) : List (List UInt8) → List (Nat × List UInt8)
  | [] => []
  | s :: ss => (pos, pad s) :: zipAt (pos + 1) ss
theorem zipAt_len (ss : List (List UInt8)) : ∀ pos, (zipAt pos ss).length = ss.length := by
  induction ss with
  | nil => intro pos; rfl
  | cons s ss ih => intro pos; simp [zipAt, ih]
theorem zip_mem (ss : List (List UInt8)) : ∀ pos, ∀ p ∈ zipAt pos ss, ∃ i s, ss[i]? = some s ∧ p = (pos + i, pad s) := by
  induction ss with
  | nil => intro pos p hp; simp [zipAt] at hp
  | cons s ss ih =>
    intro pos p hp
    rcases List.mem_cons.1 hp with rfl | hp
    · exact ⟨0, s, rfl, rfl⟩
    · obtain ⟨i, s', h1, h2⟩ := ih (pos + 1) p hp
      exact ⟨i + 1, s', by simpa using h1, by rw [h2, show pos + 1 + i = pos + (i + 1) by omega]⟩

theorem layJ_ok (ss : List (List UInt8)) : ∀ (D : DM) (pos : Nat), D.dead = false → pos + ss.length ≤ D.S.length → (∀ s ∈ ss, s.length ≤ 64) → (D.limit = -1 ∨ (ss.length : Int) < D.limit) →
    layJ D pos ss = ({ S := layAll D.S (D.P ++ zipAt pos ss), P := [], limit := if D.limit = -1 then -1 else D.limit - ss.length - 1, dead := false, done := D.done + ss.length + 1 }, 0) := by
  induction ss with
  | nil =>
    intro D pos hd hp hs hl
    simp only [List.length_nil] at hl
    show (D.sync, D.syncE) = _
    have h0 : D.limit ≠ 0 := by omega
    simp only [DM.sync, DM.syncE, hd, Bool.false_eq_true, if_false, h0, DM.spent, zipAt, List.append_nil, List.length_nil]
    congr 2
    split
    · rw [if_neg (by omega)]; simp
    · rw [if_pos (by omega)]; omega
  | cons s ss ih =>
    intro D pos hd hp hs hl
    simp only [List.length_cons] at hl hp
    have hsl := hs s (List.mem_cons_self ..)
    have h0 : D.limit ≠ 0 := by omega
    have hE : D.writeE (pos : Int) s = 0 := by
      unfold DM.writeE
      rw [hd, if_neg (by simp), if_neg (by omega), if_neg h0]
    rw [layJ_on hE, write_eq hd (by omega) hsl h0]
    rw [ih { D.spent with P := D.P ++ [(pos, pad s)] } (pos + 1) hd (by show pos + 1 + ss.length ≤ D.S.length; omega) (fun x hx => hs x (List.mem_cons_of_mem _ hx)) (by show (if 0 < D.limit then D.limit - 1 else D.limit) = -1 ∨ (ss.length : Int) < (if 0 < D.limit then D.limit - 1 else D.limit); split <;> omega)]
    simp only [DM.spent, zipAt, List.append_assoc, List.singleton_append, List.length_cons]
    congr 2
    · rcases hl with hl | hl <;> (repeat' split) <;> omega
    · omega
theorem layJ_dead (ss : List (List UInt8)) : ∀ (D : DM) (pos : Nat), D.dead = false → pos + ss.length ≤ D.S.length → (∀ s ∈ ss, s.length ≤ 64) → 0 ≤ D.limit → D.limit ≤ ss.length →
    layJ D pos ss = ({ S := D.S, P := D.P ++ (zipAt pos ss).take D.limit.toNat, limit := 0, dead := true, done := D.done + D.limit.toNat }, 10) := by
  induction ss with
  | nil =>
    intro D pos hd hp hs hl0 hl
    have h0 : D.limit = 0 := by simp at hl; omega
    show (D.sync, D.syncE) = _
    simp [DM.sync, DM.syncE, hd, h0, DM.died, zipAt]
  | cons s ss ih =>
    intro D pos hd hp hs hl0 hl
    simp only [List.length_cons] at hl hp
    have hsl := hs s (List.mem_cons_self ..)
    by_cases h0 : D.limit = 0
    · have hE : D.writeE (pos : Int) s = 10 := by
        unfold DM.writeE
        rw [hd, if_neg (by simp), if_neg (by omega), if_pos h0]
      have hW : D.write (pos : Int) s = D.died := by
        unfold DM.write
        rw [hd, if_neg (by simp), if_neg (by omega), if_pos h0]
      rw [layJ_stop (by rw [hE]; decide), hE, hW, h0]
      simp [DM.died, h0]
    · have hE : D.writeE (pos : Int) s = 0 := by
        unfold DM.writeE
        rw [hd, if_neg (by simp), if_neg (by omega), if_neg h0]
      rw [layJ_on hE, write_eq hd (by omega) hsl h0]
      have hpos : 0 < D.limit := by omega
      rw [ih { D.spent with P := D.P ++ [(pos, pad s)] } (pos + 1) hd (by show pos + 1 + ss.length ≤ D.S.length; omega) (fun x hx => hs x (List.mem_cons_of_mem _ hx)) (by show 0 ≤ (if 0 < D.limit then D.limit - 1 else D.limit); rw [if_pos hpos]; omega) (by show (if 0 < D.limit then D.limit - 1 else D.limit) ≤ _; rw [if_pos hpos]; omega)]
      simp only [DM.spent, zipAt, List.append_assoc, List.singleton_append, hpos, if_true]
      have e : D.limit.toNat = (D.limit - 1).toNat + 1 := by omega
      rw [e, List.take_succ_cons]
      congr 2
      omega

theorem lay_whole (ss : List (List UInt8)) : ∀ A B, ss.length ≤ B.length → layAll (A ++ B) (zipAt A.length ss) = A ++ (ss.map pad ++ B.drop ss.length) := by
  induction ss with
  | nil => intro A B _; simp [zipAt, layAll]
  | cons s ss ih =>
    intro A B hB
    cases B with
    | nil => simp at hB
    | cons x B =>
      show layAll ((A ++ x :: B).set A.length (pad s)) (zipAt (A.length + 1) ss) = _
      have e : (A ++ x :: B).set A.length (pad s) = (A ++ [pad s]) ++ B := by simp
      have h := ih (A ++ [pad s]) B (by simpa using hB)
      rw [List.length_append, List.length_singleton] at h
      rw [e, h]
      simp
theorem lay_torn (ss : List (List UInt8)) (pos : Nat) : ∀ (Ps : List (Nat × List UInt8)) (S : List (List UInt8)), (∀ p ∈ Ps, ∃ i s, ss[i]? = some s ∧ p = (pos + i, pad s)) →
    (layAll S Ps).length = S.length ∧ ∀ j, (layAll S Ps)[j]? = S[j]? ∨ ∃ i s, ss[i]? = some s ∧ j = pos + i ∧ (layAll S Ps)[j]? = some (pad s)
  | [], S, _ => ⟨rfl, fun j => .inl rfl⟩
  | p :: Ps, S, h => by
    obtain ⟨i, s, hi, rfl⟩ := h p (List.mem_cons_self ..)
    obtain ⟨h1, h2⟩ := lay_torn ss pos Ps (S.set (pos + i) (pad s)) (fun q hq => h q (List.mem_cons_of_mem _ hq))
    refine ⟨by rw [show layAll S ((pos + i, pad s) :: Ps) = layAll (S.set (pos + i) (pad s)) Ps from rfl, h1]; simp, fun j => ?_⟩
    rw [show layAll S ((pos + i, pad s) :: Ps) = layAll (S.set (pos + i) (pad s)) Ps from rfl]
    rcases h2 j with h3 | h3
    · rw [h3, List.getElem?_set]
      by_cases hj : pos + i = j
      · rw [if_pos hj]
        by_cases hl : pos + i < S.length
        · right; exact ⟨i, s, hi, hj.symm, by simp [hl]⟩
        · left; simp [hl]; rw [← hj]; omega
      · left; rw [if_neg hj]
    · exact .inr h3

/-- A disk that lies still; V: the part from f on. -/
structure St (D : DM) (f : Nat) (V : List (List UInt8)) : Prop where
  dead : D.dead = false
  pend : D.P = []
  part : ∃ S0 S1, D.S = S0 ++ (V ++ S1) ∧ S0.length = f
theorem St.fit {D : DM} {f : Nat} {V : List (List UInt8)} (h : St D f V) : f + V.length ≤ D.S.length := by
  obtain ⟨S0, S1, h1, h2⟩ := h.part
  rw [h1]; simp; omega
theorem St.view {D : DM} {f : Nat} {V : List (List UInt8)} (h : St D f V) {n : Nat} (hn : V.length = n) : D.part f n = V := by
  obtain ⟨S0, S1, h1, h2⟩ := h.part
  apply List.ext_getElem?
  intro i
  unfold DM.part
  rw [List.getElem?_map]
  rcases Nat.lt_or_ge i n with hi | hi
  · rw [List.getElem?_range hi]
    simp only [Option.map_some, DM.look, h.pend, lookAll, List.foldl_nil, h1]
    rw [List.getD_eq_getElem?_getD, List.getElem?_append_right (by omega), h2, show f + i - f = i by omega, List.getElem?_append_left (by omega), List.getElem?_eq_getElem (by omega)]
    rfl
  · rw [List.getElem?_eq_none (by simpa using hi), List.getElem?_eq_none (by omega)]
    rfl
theorem St.new (f n N : Nat) (h : f + n ≤ N) : St (DM.new N) f (List.replicate n zsec) := by
  refine ⟨rfl, rfl, List.replicate f zsec, List.replicate (N - f - n) zsec, ?_, by simp⟩
  show List.replicate N zsec = _
  rw [List.replicate_append_replicate, List.replicate_append_replicate]
  congr 1
  omega
theorem St.limited {D : DM} {f : Nat} {V : List (List UInt8)} (h : St D f V) (k : Int) : St (D.limited k) f V := ⟨h.dead, h.pend, h.part⟩
theorem St.reopen {D : DM} {f : Nat} {V : List (List UInt8)} (h : St D f V) (K : List Bool) : St (D.reopen K) f V := by
  have e : keptOf D.P K = [] := by rw [h.pend]; cases K <;> rfl
  refine ⟨rfl, rfl, ?_⟩
  show ∃ S0 S1, layAll D.S (keptOf D.P K) = _ ∧ _
  rw [e]
  exact h.part

theorem sectors_short {ses num : Nat} {b : List UInt8} : ∀ s ∈ sectorsOf ses num b, s.length ≤ 64 := by
  intro s hs
  unfold sectorsOf at hs
  obtain ⟨k, _, rfl⟩ := List.mem_map.1 hs
  rw [writtenOf_len, pieceAt_len]
  omega

/-- A log at a place of a part that lies still. -/
structure LgAt (l : LG) (f n at_ : Nat) : Prop where
  f : l.f = f
  n : l.n = n
  at_ : l.at_ = at_
  br : l.br = false
section
variable {D : DM} {l : LG} {f : Nat} {A B : List (List UInt8)} {b : List UInt8}
theorem append_full (hA : LgAt l f (A ++ B).length A.length) (_ : (A ++ B).length ≤ 65536) (hm : B.length < needOf b.length) (h65 : needOf b.length ≤ 65535) : appendE D l b = 5 ∧ appendD D l b = D ∧ appendL D l b = l := by
  have h1 : ¬ (l.br = true) := by rw [hA.br]; simp
  have h2 : l.n - l.at_ < needOf b.length := by rw [hA.n, hA.at_, List.length_append]; omega
  unfold appendE appendD appendL
  simp only [h1, if_false, h2, if_true, show ¬ (65535 < needOf b.length) by omega]
  exact ⟨rfl, rfl, rfl⟩
theorem append_whole (hS : St D f (A ++ B)) (hA : LgAt l f (A ++ B).length A.length) (hm : needOf b.length ≤ B.length) (h65 : needOf b.length ≤ 65535) (hlim : D.limit = -1 ∨ (needOf b.length : Int) < D.limit) :
    appendE D l b = 0 ∧ St (appendD D l b) f (A ++ (secsP l.ses l.num b ++ B.drop (needOf b.length))) ∧ appendL D l b = { l with at_ := A.length + needOf b.length, num := (l.num + 1) % 4294967296 } ∧ (appendD D l b).limit = (if D.limit = -1 then -1 else D.limit - needOf b.length - 1) ∧ (appendD D l b).done = D.done + needOf b.length + 1 := by
  have h1 : ¬ (l.br = true) := by rw [hA.br]; simp
  have h2 : ¬ (l.n - l.at_ < needOf b.length) := by rw [hA.n, hA.at_, List.length_append]; omega
  have hfit := hS.fit
  rw [List.length_append] at hfit
  have hr := layJ_ok (sectorsOf l.ses l.num b) D (l.f + l.at_) hS.dead (by rw [sectorsOf_len, hA.f, hA.at_]; omega) sectors_short (by rw [sectorsOf_len]; exact hlim)
  rw [sectorsOf_len] at hr
  unfold appendE appendD appendL
  simp only [h1, if_false, h2, show ¬ (65535 < needOf b.length) by omega]
  rw [hr]
  refine ⟨rfl, ⟨rfl, rfl, ?_⟩, by simp [hA.at_], rfl, rfl⟩
  obtain ⟨S0, S1, e1, e2⟩ := hS.part
  refine ⟨S0, S1, ?_, e2⟩
  show layAll D.S (D.P ++ zipAt (l.f + l.at_) (sectorsOf l.ses l.num b)) = _
  have e3 : D.S = (S0 ++ A) ++ (B ++ S1) := by rw [e1]; simp
  have e4 : l.f + l.at_ = (S0 ++ A).length := by rw [hA.f, hA.at_, List.length_append, e2]
  rw [hS.pend, List.nil_append, e3, e4, lay_whole _ _ _ (by rw [sectorsOf_len, List.length_append]; omega), secsP_eq, sectorsOf_len, List.drop_append_of_le_length hm]
  simp
theorem append_torn (hS : St D f (A ++ B)) (hA : LgAt l f (A ++ B).length A.length) (hm : needOf b.length ≤ B.length) (h65 : needOf b.length ≤ 65535) (hl0 : 0 ≤ D.limit) (hlim : D.limit ≤ needOf b.length) (K : List Bool) :
    appendE D l b = 10 ∧ (appendD D l b).dead = true ∧ (appendD D l b).done ≤ D.done + needOf b.length ∧ (∃ T, St ((appendD D l b).reopen K) f (A ++ T) ∧ Torn B T l.ses l.num b) ∧ appendL D l b = { l with br := true } := by
  have h1 : ¬ (l.br = true) := by rw [hA.br]; simp
  have h2 : ¬ (l.n - l.at_ < needOf b.length) := by rw [hA.n, hA.at_, List.length_append]; omega
  have hfit := hS.fit
  rw [List.length_append] at hfit
  have hr := layJ_dead (sectorsOf l.ses l.num b) D (l.f + l.at_) hS.dead (by rw [sectorsOf_len, hA.f, hA.at_]; omega) sectors_short hl0 (by rw [sectorsOf_len]; exact hlim)
  unfold appendE appendD appendL
  simp only [h1, if_false, h2, show ¬ (65535 < needOf b.length) by omega]
  rw [hr]
  refine ⟨rfl, rfl, by show D.done + D.limit.toNat ≤ _; omega, ?_, rfl⟩
  obtain ⟨S0, S1, e1, e2⟩ := hS.part
  have e4 : l.f + l.at_ = (S0 ++ A).length := by rw [hA.f, hA.at_, List.length_append, e2]
  obtain ⟨t1, t2⟩ := lay_torn (sectorsOf l.ses l.num b) (l.f + l.at_) (keptOf (D.P ++ (zipAt (l.f + l.at_) (sectorsOf l.ses l.num b)).take D.limit.toNat) K) D.S (fun p hp => by
    have := keptOf_mem _ _ p hp
    rw [hS.pend, List.nil_append] at this
    exact zip_mem _ _ p (List.mem_of_mem_take this))
  obtain ⟨S', hS'⟩ : ∃ S', S' = layAll D.S (keptOf (D.P ++ (zipAt (l.f + l.at_) (sectorsOf l.ses l.num b)).take D.limit.toNat) K) := ⟨_, rfl⟩
  rw [← hS'] at t1 t2
  have e3 : D.S = (S0 ++ A) ++ (B ++ S1) := by rw [e1]; simp
  have hsl : ∀ (i : Nat) (s : List UInt8), (sectorsOf l.ses l.num b)[i]? = some s → i < needOf b.length ∧ pad s = secP l.ses l.num b i := fun i s hi => by
    have hlt := (List.getElem?_eq_some_iff.1 hi).1
    rw [sectorsOf_len] at hlt
    have h5 := secsP_at l.ses l.num b hlt
    rw [← secsP_eq, List.getElem?_map, hi] at h5
    simp at h5
    exact ⟨hlt, h5⟩
  have hpt : ∀ j, j < (S0 ++ A).length ∨ (S0 ++ A).length + B.length ≤ j → S'[j]? = D.S[j]? := fun j hj => by
    rcases t2 j with h | ⟨i, s, hi, hji, _⟩
    · exact h
    · have := (hsl i s hi).1
      rw [e4] at hji
      omega
  have q1 : S'.take (S0 ++ A).length = S0 ++ A := by
    have : S'.take (S0 ++ A).length = D.S.take (S0 ++ A).length := by
      apply List.ext_getElem?
      intro i
      rw [List.getElem?_take, List.getElem?_take]
      split
      · exact hpt i (.inl (by assumption))
      · rfl
    rw [this, e3, List.take_left]
  have q2 : S'.drop ((S0 ++ A).length + B.length) = S1 := by
    have : S'.drop ((S0 ++ A).length + B.length) = D.S.drop ((S0 ++ A).length + B.length) := by
      apply List.ext_getElem?
      intro i
      rw [List.getElem?_drop, List.getElem?_drop]
      exact hpt _ (.inr (by omega))
    rw [this, e3, List.drop_length_add_append, List.drop_left]
  have q3 : S' = (S0 ++ A) ++ ((S'.drop (S0 ++ A).length).take B.length ++ S1) := by
    conv => lhs; rw [← List.take_append_drop (S0 ++ A).length S', q1]
    congr 1
    conv => lhs; rw [← List.take_append_drop B.length (S'.drop (S0 ++ A).length)]
    rw [List.drop_drop, q2]
  refine ⟨(S'.drop (S0 ++ A).length).take B.length, ⟨rfl, rfl, S0, S1, ?_, e2⟩, ?_, ?_⟩
  · show layAll D.S (keptOf (D.P ++ (zipAt (l.f + l.at_) (sectorsOf l.ses l.num b)).take D.limit.toNat) K) = _
    rw [← hS']
    conv => lhs; rw [q3]
    simp
  · rw [List.length_take, List.length_drop, t1, e3]
    simp
    omega
  · intro j
    rw [List.getElem?_take]
    by_cases hj : j < B.length
    · rw [if_pos hj, List.getElem?_drop]
      rcases t2 ((S0 ++ A).length + j) with h | ⟨i, s, hi, hji, h⟩
      · left
        rw [h, e3, List.getElem?_append_right (by omega), show (S0 ++ A).length + j - (S0 ++ A).length = j by omega, List.getElem?_append_left hj]
      · right
        rw [e4] at hji
        have : i = j := by omega
        subst this
        rw [h, (hsl i s hi).2]
        exact ⟨(hsl i s hi).1, rfl⟩
    · left
      rw [if_neg hj, List.getElem?_eq_none (by omega)]
end

end Go.Proofs.Ytidpleejgalljaa
