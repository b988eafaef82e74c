/-
  The contracts of the reference disk's Reopen and Read. For every disk.
-/
import Derived.Test.YtbgcbikgjedkkaaRefD
import Derived.Laws.IdiomStrings
namespace Go.Proofs.Ytbgcbikgjedkkaa
open Go.RowKit

theorem kept_stop : ∀ (Ps : List (Nat × List UInt8)) (K : List Bool) (j : Nat), K.length ≤ j → keptOf (Ps.take j) K = keptOf Ps K
  | [], K, j, h => by simp
  | p :: Ps, [], j, h => by
    have e1 : ∀ L : List (Nat × List UInt8), keptOf L [] = [] := fun L => by cases L <;> rfl
    rw [e1, e1]
  | p :: Ps, b :: K, 0, h => by simp at h
  | p :: Ps, b :: K, j + 1, h => by
    simp only [List.take_succ_cons, keptOf]
    rw [kept_stop Ps K j (by simpa using h)]

def ROpenRel (w : World) (m : Nat) (sv pv : Value) (D : DM) (K : List Bool) (i : Value) (wr : World) : Prop :=
  ∃ j : Nat, j ≤ D.P.length ∧ i = .int .i64 j ∧ RefIn wr m sv pv (D.lain (layAll D.S (keptOf (D.P.take j) K))) ∧ Fr sv.ownBlock.toList w wr

theorem ropen_end {w wr w' : World} {m g sc : Nat} {pv : Value} {D : DM} {K : List Bool} (hok : D.ok) (hd : RefIn wr m (.slice (some ⟨g, 0, none⟩) D.S.length sc) pv (D.lain (layAll D.S (keptOf D.P K)))) (hf : Fr (Value.slice (some ⟨g, 0, none⟩) D.S.length sc).ownBlock.toList w wr)
    (hw : w' = ((wr.setCell ⟨m, 1, none⟩ (.slice none 0 0)).setCell ⟨m, 3, none⟩ (.bool false)).setCell ⟨m, 2, none⟩ (.int .i64 (-1))) :
    Step (tR m (D.reopen K)) w w' (rfp m (.slice (some ⟨g, 0, none⟩) D.S.length sc) pv) := by
  subst hw
  have hfs : Fr [m] wr (((wr.setCell ⟨m, 1, none⟩ (.slice none 0 0)).setCell ⟨m, 3, none⟩ (.bool false)).setCell ⟨m, 2, none⟩ (.int .i64 (-1))) := (((Fr.refl _ _).setCell (by simp) _).setCell (by simp) _).setCell (by simp) _
  have hns : ∀ x, (Value.slice (some ⟨g, 0, none⟩) D.S.length sc).ownBlock = some x → x ∉ [m] := fun x hx hm => by
    simp only [List.mem_singleton] at hm
    exact hd.ne1 (hm ▸ hx)
  refine ⟨rfp m (.slice (some ⟨g, 0, none⟩) D.S.length sc) (.slice none 0 0), ⟨_, _, rfl, ?_, ?_, own_nil _ _ _ _, DM.ok_reopen hok K⟩, (hf.mono (by simp [rfp, Value.ownBlock])).trans hfs (by simp [rfp]), ?_⟩
  · have := ((hd.1.set_ 1 (.slice none 0 0)).set_ 3 (.bool false)).set_ 2 (.int .i64 (-1))
    simpa [DM.lain, DM.reopen] using this
  · exact own_fr hd.2.1 hfs hns
  · simp [rfp, Value.ownBlock]

set_option maxRecDepth 100000 in
set_option maxHeartbeats 1000000 in
theorem ropen_in {w : World} {m : Nat} {sv pv : Value} {D : DM} (h : RefIn w m sv pv D) (v : Value) (K : List Bool) (gs : Nat) (hv : BoolsAt w v K gs) (hgs : ∀ x, sv.ownBlock = some x → gs ≠ x) (hK : K.length ≤ 9223372036854775807) :
    Calls Try.prog 26 #[.pointer (some ⟨m, 0, none⟩), v] w fun e w' => e = .returned (.tuple #[]) ∧ Step (tR m (D.reopen K)) w w' (rfp m sv pv) := by
  have hok := h.2.2.2
  have hsome := hok.some_
  obtain ⟨KA, kc, koff, rfl, hkc, hkb⟩ := hv
  have HKB := Lib.hid hkb; clear hkb
  have H := Lib.hid h; clear h
  obtain ⟨pA, pc, rfl, hpc, hpm⟩ := own_shape H.out.2.2.1
  obtain ⟨sA, sc, rfl, hsc, hsm⟩ := own_shape H.out.2.1
  obtain ⟨g, rfl, _⟩ := own_cell H.out.2.1 hsome
  have hP0 : D.P.length ≤ 9223372036854775807 := by unfold maxLen at hpm; omega
  have hS0 := hok.most
  have hgg : gs ≠ g := hgs g rfl
  clear hpm hsm hgs
  have HOK := Lib.hid hok; clear hok
  go_enter Try.func26, Try.ntmps26
  go_wp2_with fail
  go_loopw [4] (ROpenRel w m (.slice (some ⟨g, 0, none⟩) D.S.length sc) (.slice pA D.P.length pc) D K) (fun i _ => D.P.length - (intOf i).toNat)
  case atStart => exact ⟨0, Nat.zero_le _, rfl, by simpa [keptOf, layAll, DM.lain] using H.out, Fr.refl _ _⟩
  case round =>
    obtain ⟨j, hj, rfl, hd, hf⟩ := hrel
    have c0 := hd.c0; have c1 := hd.c1
    have HF := Lib.hid hf; have HD := Lib.hid hd
    clear hf hd
    by_cases hjn : j < D.P.length
    · by_cases hjk : j < K.length
      · obtain ⟨p, hp⟩ : ∃ p, D.P[j]? = some p := ⟨_, List.getElem?_eq_getElem hjn⟩
        obtain ⟨pg, rfl, hcell⟩ := own_cell HD.out.2.2.1 (by show 0 < D.P.length; omega)
        obtain ⟨hKA, hkcell⟩ := HKB.out (by omega)
        subst hKA
        obtain ⟨b, hb⟩ : ∃ b, K[j]? = some b := ⟨_, List.getElem?_eq_getElem hjk⟩
        have ck0 := hkcell j b hb
        have ck : wr.cell? ⟨gs, koff + j, none⟩ = some (.bool b) := by
          rw [HF.out.cell (World.block_lt_of_cell? w _ ck0) (by simpa [Value.ownBlock] using hgg)]; exact ck0
        have hpp := HOK.out.pend p (List.mem_of_getElem? hp)
        have hw2 := wcells_at (Ps := D.P) hp
        have cp0 : wr.cell? ⟨pg, j * 2, none⟩ = some (.int .i64 (p.1 : Int)) := hcell _ _ hw2.1
        have cp1 : wr.cell? ⟨pg, j * 2 + 1, none⟩ = some (.string ⟨p.2.toArray⟩) := hcell _ _ hw2.2
        have hlS : (D.lain (layAll D.S (keptOf (D.P.take j) K))).S.length = D.S.length := layAll_len _ _
        have hos := HD.out.2.1
        rw [hlS] at hos
        obtain ⟨u, hu⟩ : ∃ u, wr.cell? ⟨g, p.1, none⟩ = some u := by
          have h1 := hos.cellAt p.1 (by have := hpp.1; omega)
          rw [h1]
          exact ⟨_, List.getElem?_eq_getElem (by simp only [List.length_map]; rw [hlS]; exact hpp.1)⟩
        have hfz := hos.frozenAt p.1
        have hst := kept_step D.P K j p hp
        rw [hb] at hst
        have hp1 := hpp.1
        have HP := Lib.hid hp; have HPP := Lib.hid hpp; have HLS := Lib.hid hlS; have HST := Lib.hid hst
        clear hp hpp hcell hw2 hlS hos hb hkcell ck0 hst
        cases b with
        | false =>
          have hd3 : RefIn wr m (.slice (some ⟨g, 0, none⟩) D.S.length sc) (.slice (some ⟨pg, 0, none⟩) D.P.length pc) (D.lain (layAll D.S (keptOf (D.P.take (j + 1)) K))) := by
            rw [HST.out, if_neg (by simp), List.append_nil]; exact HD.out
          have HD3 := Lib.hid hd3; clear hd3
          go_wp2_with fail
          go_roundw
          case rel => exact ⟨j + 1, by omega, by go_num, HD3.out, HF.out⟩
          case measure => simp [intOf]; omega
        | true =>
          go_wp2_with fail
          go_still_tail 21, (by kernel_rfl)
          change wpList _ _ _ _ _ wr.drew
          have hd2 := HD.out.fr (Fr.refl [] wr).drew (by simp)
          have hla := hd2.laid p.1 p.2 HPP.out.2
          have hd3 : RefIn (wr.drew.setCell ⟨g, p.1, none⟩ (str p.2)) m (.slice (some ⟨g, 0, none⟩) D.S.length sc) (.slice (some ⟨pg, 0, none⟩) D.P.length pc) (D.lain (layAll D.S (keptOf (D.P.take (j + 1)) K))) := by
            have e : layAll D.S (keptOf (D.P.take (j + 1)) K) = (layAll D.S (keptOf (D.P.take j) K)).set p.1 p.2 := by
              rw [HST.out]; simp [layAll, List.foldl_append]
            rw [e]
            exact hla.1
          have hf3 : Fr (Value.slice (some ⟨g, 0, none⟩) D.S.length sc).ownBlock.toList w (wr.drew.setCell ⟨g, p.1, none⟩ (str p.2)) := (HF.out.drew).trans hla.2 (by simp [Value.ownBlock])
          have HD3 := Lib.hid hd3; have HF3 := Lib.hid hf3
          clear hd2 hla hd3 hf3
          go_wp2
          go_roundw
          case rel => exact ⟨j + 1, by omega, by go_num, HD3.out, HF3.out⟩
          case measure => simp [intOf]; omega
      · have c2 := HD.out.c2; have c3 := HD.out.c3
        have f1 := HD.out.free 1; have f2 := HD.out.free 2; have f3 := HD.out.free 3
        have hd := HD.out
        rw [kept_stop _ _ j (by omega)] at hd
        have HDE := Lib.hid hd; clear hd
        go_wp2
        go_end0
        exact ⟨rfl, ropen_end HOK.out HDE.out HF.out rfl⟩
    · have c2 := HD.out.c2; have c3 := HD.out.c3
      have f1 := HD.out.free 1; have f2 := HD.out.free 2; have f3 := HD.out.free 3
      have hd := HD.out
      rw [List.take_of_length_le (show D.P.length ≤ j by omega)] at hd
      have HDE := Lib.hid hd; clear hd
      go_wp2
      go_end0
      exact ⟨rfl, ropen_end HOK.out HDE.out HF.out rfl⟩

theorem ropen_at {w : World} {m : Nat} {D : DM} {f : List Nat} (h : RefAt w m D f) (v : Value) (K : List Bool) (gs : Nat) (hv : BoolsAt w v K gs) (hgs : gs ∉ f) (hK : K.length ≤ 9223372036854775807) :
    Calls Try.prog 26 #[.pointer (some ⟨m, 0, none⟩), v] w fun e w' => e = .returned (.tuple #[]) ∧ Step (tR m (D.reopen K)) w w' f := by
  obtain ⟨sv, pv, rfl, h⟩ := h
  exact ropen_in h v K gs hv (fun x hx e => hgs (by simp [rfp, e, hx])) hK
theorem rlimit_at {w : World} {m : Nat} {D : DM} {f : List Nat} (h : RefAt w m D f) (k : Int) (hk : k ≤ 9223372036854775807) :
    Calls Try.prog 25 #[.pointer (some ⟨m, 0, none⟩), .int .i64 k] w fun e w' => e = .returned (.tuple #[]) ∧ Step (tR m (D.limited k)) w w' f := by
  obtain ⟨sv, pv, rfl, h⟩ := h
  refine (rlimit_in h k hk).mono ?_
  rintro e w' ⟨rfl, hd', hf'⟩
  exact ⟨rfl, hd'.rstep (hf'.mono (by simp [rfp])) (fun _ hx => .inl hx)⟩

/-! ### Read -/
def RReadAns (w : World) (D : DM) (k : Int) (e : Ending) (w' : World) : Prop :=
  ∃ v g, e = .returned (.tuple #[v, .int .i64 (D.readE k)]) ∧ BytesAt w' v (D.read k) g ∧ w.heap.size ≤ g ∧ Fr [] w w' ∧ (D.readE k ≠ 0 → v = .slice none 0 0)
set_option maxRecDepth 100000 in
set_option maxHeartbeats 400000 in
theorem rread_bad {w : World} {m : Nat} {sv pv : Value} {D : DM} (h : RefIn w m sv pv D) (k : Int) (hk : D.readE k ≠ 0) :
    Calls Try.prog 27 #[.pointer (some ⟨m, 0, none⟩), .int .i64 k] w fun e w' => e = .returned (.tuple #[.slice none 0 0, .int .i64 (D.readE k)]) ∧ w = w' := by
  have c3 := h.c3; have c0 := h.c0
  obtain ⟨sA, sc, hsv, _, _⟩ := own_shape h.2.1
  rw [hsv] at c0
  clear h hsv
  by_cases hdead : D.dead = true
  · have e : D.readE k = 10 := by simp [DM.readE, hdead]
    rw [e]
    rw [hdead] at c3
    clear hk e
    go_enter Try.func27, Try.ntmps27
    go_wp2
    go_ret2
    exact ⟨rfl, rfl⟩
  · have hdead : D.dead = false := by simpa using hdead
    have hk' : k < 0 ∨ (D.S.length : Int) ≤ k := by
      simp only [DM.readE, hdead, Bool.false_eq_true, if_false] at hk
      by_cases h' : k < 0 ∨ (D.S.length : Int) ≤ k
      · exact h'
      · rw [if_neg h'] at hk; exact absurd rfl hk
    have e : D.readE k = 1 := by simp [DM.readE, hdead, hk']
    rw [e]
    rw [hdead] at c3
    clear hk e
    by_cases h1 : k < 0
    · clear hk'
      go_enter Try.func27, Try.ntmps27
      go_wp2
      go_ret2
      exact ⟨rfl, rfl⟩
    · have h2 : (D.S.length : Int) ≤ k := by omega
      clear hk'
      go_enter Try.func27, Try.ntmps27
      go_wp2
      go_ret2
      exact ⟨rfl, rfl⟩

def RLookRel (D : DM) (s0 : List UInt8) (k : Nat) (s i : Value) : Prop :=
  ∃ j : Nat, j ≤ D.P.length ∧ i = .int .i64 j ∧ s = .string ⟨(lookAll s0 (D.P.take j) k).toArray⟩

theorem bytes_of_string {w : World} {bs : List UInt8} {c : Nat} {fz : Nat × Nat} {t : TypeId} (hc : bs.length ≤ c) : BytesAt (w.drew.alloc (.cells (bytesRow ⟨bs.toArray⟩ c) t fz)) (.slice (some ⟨w.heap.size, 0, none⟩) bs.length c) bs w.heap.size := by
  refine ⟨_, c, 0, rfl, hc, fun _ => ⟨rfl, fun j u hu => ?_⟩⟩
  have hb : (w.drew.alloc (.cells (bytesRow ⟨bs.toArray⟩ c) t fz)).heap[w.heap.size]? = some (.cells (bytesRow ⟨bs.toArray⟩ c) t fz) := heap_alloc_new w.drew _
  have hj : j < bs.length := by have := (List.getElem?_eq_some_iff.1 hu).1; rwa [bcells_len] at this
  simp only [World.cell?, hb, Nat.zero_add]
  have := bytesRow_at ⟨bs.toArray⟩ c j (by simpa using hj)
  rw [bcells_at, List.getElem?_eq_getElem hj] at hu
  simp only [Option.map_some, Option.some.injEq] at hu
  subst hu
  simpa [B8] using this

set_option maxRecDepth 100000 in
set_option maxHeartbeats 1000000 in
theorem rread_in {w : World} {m : Nat} {sv pv : Value} {D : DM} (h : RefIn w m sv pv D) (hdead : D.dead = false) (k : Nat) (hk : k < D.S.length) :
    Calls Try.prog 27 #[.pointer (some ⟨m, 0, none⟩), .int .i64 k] w fun e w' => ∃ c, e = .returned (.tuple #[.slice (some ⟨w.heap.size, 0, none⟩) 64 c, .int .i64 0]) ∧ BytesAt w' (.slice (some ⟨w.heap.size, 0, none⟩) 64 c) (D.look k) w.heap.size ∧ Fr [] w w' := by
  have hok := h.2.2.2
  have hsome := hok.some_
  have hlk := DM.look_len hok hk
  have c3 := h.c3
  rw [hdead] at c3
  obtain ⟨pA, pc, rfl, hpc, hpm⟩ := own_shape h.2.2.1
  obtain ⟨sA, sc, rfl, hsc, hsm⟩ := own_shape h.2.1
  obtain ⟨g, rfl, hscell⟩ := own_cell h.2.1 hsome
  have c0 := h.c0; have c1 := h.c1
  have hP0 : D.P.length ≤ 9223372036854775807 := by unfold maxLen at hpm; omega
  have hS0 := hok.most
  have hlook : D.look k = lookAll (D.S.getD k []) D.P k := rfl
  have cs : w.cell? ⟨g, k, none⟩ = some (.string ⟨(D.S.getD k []).toArray⟩) := hscell k _ (by rw [List.getElem?_map, List.getD_eq_getElem?_getD, List.getElem?_eq_getElem hk]; rfl)
  generalize D.S.getD k [] = s0 at cs hlook
  have kcv := fun (w : World) (s : ByteArray) => run_bytes_of_string (P := Try.prog) w 9 22 5 s Try.underlying9 Try.underlying22 Try.underlying5
  have HLK := Lib.hid hlk; have HLOOK := Lib.hid hlook; have H := Lib.hid h; have HOK := Lib.hid hok; have HKCV := Lib.hid kcv
  clear hpm hsm hscell hlk hlook h hok kcv
  go_enter Try.func27, Try.ntmps27
  go_wp2
  go_loop [6, 7] (RLookRel D s0 k) (fun _ i => D.P.length - (intOf i).toNat)
  case atStart => exact ⟨0, Nat.zero_le _, rfl, rfl⟩
  case round =>
    obtain ⟨j, hj, rfl, rfl⟩ := hrel
    by_cases hjn : j < D.P.length
    · obtain ⟨p, hp⟩ : ∃ p, D.P[j]? = some p := ⟨_, List.getElem?_eq_getElem hjn⟩
      obtain ⟨pg, rfl, hcell⟩ := own_cell H.out.2.2.1 (by omega)
      have hw2 := wcells_at (Ps := D.P) hp
      have cp0 : w.cell? ⟨pg, j * 2, none⟩ = some (.int .i64 (p.1 : Int)) := hcell _ _ hw2.1
      have cp1 : w.cell? ⟨pg, j * 2 + 1, none⟩ = some (.string ⟨p.2.toArray⟩) := hcell _ _ hw2.2
      have hstep := look_step s0 D.P k j p hp
      have HST := Lib.hid hstep
      clear hstep hw2 hcell hp
      by_cases hpk : p.1 = k
      · have e1 : (((p.1 : Int)) == (k : Int)) = true := beq_iff_eq.2 (by omega)
        have HPK := Lib.hid hpk; clear hpk
        go_wp2
        go_round
        case rel => exact ⟨j + 1, by omega, by go_num, by rw [HST.out, if_pos HPK.out]⟩
        case measure => simp [intOf]; omega
      · have e1 : (((p.1 : Int)) == (k : Int)) = false := beq_eq_false_iff_ne.2 (by omega)
        have HPK := Lib.hid hpk; clear hpk
        go_wp2
        go_round
        case rel => exact ⟨j + 1, by omega, by go_num, by rw [HST.out, if_neg HPK.out]⟩
        case measure => simp [intOf]; omega
    · have e : D.P.take j = D.P := List.take_of_length_le (by omega)
      have elk : lookAll s0 (D.P.take j) k = D.look k := by rw [e, HLOOK.out]
      rw [elk]
      have k2 := HKCV.out w ⟨(D.look k).toArray⟩
      have esz : (⟨(D.look k).toArray⟩ : ByteArray).size = 64 := by simp [ByteArray.size, HLK.out]
      rw [esz] at k2
      have hcap : 64 ≤ grownCap w 64 0 5 := by simp only [grownCap, Question.cut]; omega
      generalize grownCap w 64 0 5 = cp at k2 hcap
      have hba := bytes_of_string (w := w) (bs := D.look k) (c := cp) (fz := ((bytesRow ⟨(D.look k).toArray⟩ cp).size, (bytesRow ⟨(D.look k).toArray⟩ cp).size + 1)) (t := 5) (by rw [HLK.out]; exact hcap)
      rw [HLK.out] at hba
      have HBA := Lib.hid hba
      clear hba esz elk e
      go_wp2
      go_ret2
      exact ⟨cp, rfl, HBA.out, (Fr.refl [] w).drew.alloc _⟩

theorem rread_at {w : World} {m : Nat} {D : DM} {f : List Nat} (h : RefAt w m D f) (k : Int) :
    Calls Try.prog 27 #[.pointer (some ⟨m, 0, none⟩), .int .i64 k] w (RReadAns w D k) := by
  obtain ⟨sv, pv, rfl, h⟩ := h
  by_cases hk : D.readE k = 0
  · have hdead : D.dead = false := by
      cases hd : D.dead with
      | false => rfl
      | true => simp [DM.readE, hd] at hk
    have hk2 : 0 ≤ k ∧ k < D.S.length := by
      simp only [DM.readE, hdead, Bool.false_eq_true, if_false] at hk
      by_cases h' : k < 0 ∨ (D.S.length : Int) ≤ k
      · rw [if_pos h'] at hk; exact absurd hk (by decide)
      · omega
    obtain ⟨n, rfl⟩ := Int.eq_ofNat_of_zero_le hk2.1
    refine (rread_in h hdead n (by omega)).mono ?_
    rintro e w' ⟨c, rfl, hb, hf⟩
    have hr : D.read (n : Int) = D.look n := by simp [DM.read, hk]
    exact ⟨_, _, by rw [hk], by rw [hr]; exact hb, Nat.le_refl _, hf, fun h0 => absurd hk h0⟩
  · refine (rread_bad h k hk).mono ?_
    rintro e w' ⟨rfl, rfl⟩
    have hr : D.read k = [] := by simp [DM.read, hk]
    exact ⟨_, w.heap.size, rfl, by rw [hr]; exact BytesAt.nil _ _, Nat.le_refl _, Fr.refl _ _, fun _ => rfl⟩

end Go.Proofs.Ytbgcbikgjedkkaa
