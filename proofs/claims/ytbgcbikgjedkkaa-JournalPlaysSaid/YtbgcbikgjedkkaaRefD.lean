/-
  The contracts of the reference disk's Sync, Reopen and Read. For every disk.
-/
import Derived.Test.YtbgcbikgjedkkaaRefC
namespace Go.Proofs.Ytbgcbikgjedkkaa
open Go.RowKit

set_option maxRecDepth 100000 in
set_option maxHeartbeats 400000 in
theorem rsync_dead {w : World} {m : Nat} {sv pv : Value} {D : DM} (h : RefIn w m sv pv D) (hdead : D.dead = true) :
    Calls Try.prog 24 #[.pointer (some ⟨m, 0, none⟩)] w fun e w' => e = .returned (.int .i64 10) ∧ w = w' := by
  have c3 := h.c3
  rw [hdead] at c3
  clear h
  go_enter Try.func24, Try.ntmps24
  go_wp2
  go_ret
  exact ⟨rfl, rfl⟩
set_option maxRecDepth 100000 in
set_option maxHeartbeats 400000 in
theorem rsync_lim {w : World} {m : Nat} {sv pv : Value} {D : DM} (h : RefIn w m sv pv D) (hdead : D.dead = false) (hl : D.limit = 0) :
    Calls Try.prog 24 #[.pointer (some ⟨m, 0, none⟩)] w fun e w' => e = .returned (.int .i64 10) ∧ RefIn w' m sv pv D.died ∧ Fr [m] w w' := by
  have c3 := h.c3
  rw [hdead] at c3
  have H := Lib.hid h; have HL := Lib.hid hl; clear h hl
  go_enter Try.func24, Try.ntmps24
  go_wp2_with (go_at_call 49; refine (rspend_no H.out HL.out).mono ?_; rintro e w' ⟨rfl, hd', hf'⟩)
  go_ret
  exact ⟨rfl, hd', hf'⟩

/-- One sector of the reference is set. -/
theorem RefIn.laid {w : World} {m g n c : Nat} {pv : Value} {D : DM} (h : RefIn w m (.slice (some ⟨g, 0, none⟩) n c) pv D) (k : Nat) (b : List UInt8) (hb : b.length = 64) :
    RefIn (w.setCell ⟨g, k, none⟩ (str b)) m (.slice (some ⟨g, 0, none⟩) n c) pv (D.lain (D.S.set k b)) ∧ Fr [g] w (w.setCell ⟨g, k, none⟩ (str b)) := by
  have hn : n = D.S.length := by
    obtain ⟨_, _, hv, _, _⟩ := own_shape h.2.1
    injection hv
  subst hn
  have hf : Fr [g] w (w.setCell ⟨g, k, none⟩ (str b)) := (Fr.refl [g] w).setCell (by simp) _
  have hgm : m ∉ [g] := by
    have := h.ne1
    simp only [Value.ownBlock, ne_eq, Option.some.injEq] at this
    simp; exact fun e => this e.symm
  have hgp : ∀ x, pv.ownBlock = some x → x ∉ [g] := fun x hx hm => by
    simp only [List.mem_singleton] at hm
    subst hm
    exact h.ne3 (g := x) rfl hx
  refine ⟨⟨h.1.fr hf hgm, ?_, own_fr h.2.2.1 hf hgp, DM.ok_lain h.2.2.2 (by simp) (fun s hs => ?_)⟩, hf⟩
  · have := (h.2.1.stored k (str b)).1
    simpa [DM.lain, List.map_set] using this
  · rcases List.mem_or_eq_of_mem_set hs with h1 | h1
    · exact h.2.2.2.sec s h1
    · rw [h1]; exact hb

def RSyncRel (w : World) (m : Nat) (sv pv : Value) (D : DM) (i : Value) (wr : World) : Prop :=
  ∃ j : Nat, j ≤ D.P.length ∧ i = .int .i64 j ∧ RefIn wr m sv pv (D.lain (layAll D.S (D.P.take j))) ∧ Fr sv.ownBlock.toList w wr

set_option maxRecDepth 100000 in
set_option maxHeartbeats 1000000 in
theorem rsync_ok {w : World} {m : Nat} {sv pv : Value} {D : DM} (h : RefIn w m sv pv D) (hdead : D.dead = false) (hl : D.limit ≠ 0) (hdone : D.done < 1099511627776) :
    Calls Try.prog 24 #[.pointer (some ⟨m, 0, none⟩)] w fun e w' => e = .returned (.int .i64 0) ∧ Step (tR m { D.spent with S := layAll D.S D.P, P := [] }) w w' (rfp m sv pv) := by
  have hok := h.2.2.2
  have hsome := hok.some_
  have hok2 : DM.ok { D.spent with S := layAll D.S D.P, P := [] } := by
    have h0 := DM.ok_sync hok
    simpa only [DM.sync, hdead, if_false, Bool.false_eq_true, hl] using h0
  have c3 := h.c3
  rw [hdead] at c3
  have HOK2 := Lib.hid hok2; have HL := Lib.hid hl; have HDN := Lib.hid hdone; have H := Lib.hid h
  clear hok2 hl hdone h
  obtain ⟨pA, pc, rfl, hpc, hpm⟩ := own_shape H.out.2.2.1
  obtain ⟨sA, sc, rfl, hsc, hsm⟩ := own_shape H.out.2.1
  obtain ⟨g, rfl, _⟩ := own_cell H.out.2.1 hsome
  have hP0 : D.P.length ≤ 9223372036854775807 := by unfold maxLen at hpm; omega
  have hS0 := hok.most
  clear hpm hsm
  have HOK := Lib.hid hok; clear hok
  go_enter Try.func24, Try.ntmps24
  go_wp2_with (go_at_call 49; refine (rspend_yes H.out HL.out HDN.out).mono ?_; rintro e w1 ⟨rfl, hd1, hf1⟩; have HD1 := Lib.hid hd1; have HF1 := Lib.hid hf1; clear hd1 hf1)
  clear c3
  go_loopw [3] (RSyncRel w1 m (.slice (some ⟨g, 0, none⟩) D.S.length sc) (.slice pA D.P.length pc) D.spent) (fun i _ => D.P.length - (intOf i).toNat)
  case atStart => exact ⟨0, Nat.zero_le _, rfl, HD1.out, Fr.refl _ _⟩
  case round =>
    obtain ⟨j, hj, rfl, hd, hf⟩ := hrel
    have hj' : j ≤ D.P.length := hj
    have c0 := hd.c0; have c1 := hd.c1
    have HF := Lib.hid hf; have HD := Lib.hid hd
    clear hj hf hd
    by_cases hjn : j < D.P.length
    · obtain ⟨p, hp⟩ : ∃ p, D.P[j]? = some p := ⟨_, List.getElem?_eq_getElem hjn⟩
      obtain ⟨pg, rfl, hcell⟩ := own_cell HD.out.2.2.1 (by show 0 < D.P.length; omega)
      have hpp := HOK.out.pend p (List.mem_of_getElem? hp)
      have hw2 := wcells_at (Ps := D.P) hp
      have cp0 : wr.cell? ⟨pg, j * 2, none⟩ = some (.int .i64 (p.1 : Int)) := hcell _ _ hw2.1
      have cp1 : wr.cell? ⟨pg, j * 2 + 1, none⟩ = some (.string ⟨p.2.toArray⟩) := hcell _ _ hw2.2
      have hlS : (D.spent.lain (layAll D.spent.S (D.spent.P.take j))).S.length = D.S.length := layAll_len _ _
      have hos := HD.out.2.1
      rw [hlS] at hos
      obtain ⟨u, hu⟩ : ∃ u, wr.cell? ⟨g, p.1, none⟩ = some u := by
        have h1 := hos.cellAt p.1 (by have := hpp.1; omega)
        rw [h1]
        exact ⟨_, List.getElem?_eq_getElem (by simp only [List.length_map]; rw [hlS]; exact hpp.1)⟩
      have hfz := hos.frozenAt p.1
      clear hos
      have hp1 := hpp.1
      have HP := Lib.hid hp; have HPP := Lib.hid hpp; have HLS := Lib.hid hlS
      clear hp hpp hcell hw2 hlS
      go_wp2_with fail
      go_still_tail 21, (by kernel_rfl)
      change wpList _ _ _ _ _ wr.drew
      have hd2 := HD.out.fr (Fr.refl [] wr).drew (by simp)
      have hla := hd2.laid p.1 p.2 HPP.out.2
      have hst := lay_step D.S D.P j p HP.out
      have hd3 : RefIn (wr.drew.setCell ⟨g, p.1, none⟩ (str p.2)) m (.slice (some ⟨g, 0, none⟩) D.S.length sc) (.slice (some ⟨pg, 0, none⟩) D.P.length pc) (D.spent.lain (layAll D.spent.S (D.spent.P.take (j + 1)))) := by
        have e : layAll D.spent.S (D.spent.P.take (j + 1)) = (layAll D.spent.S (D.spent.P.take j)).set p.1 p.2 := hst
        rw [e]
        exact hla.1
      have hf3 : Fr (Value.slice (some ⟨g, 0, none⟩) D.S.length sc).ownBlock.toList w1 (wr.drew.setCell ⟨g, p.1, none⟩ (str p.2)) := (HF.out.drew).trans hla.2 (by simp [Value.ownBlock])
      have HD3 := Lib.hid hd3; have HF3 := Lib.hid hf3
      clear hd2 hla hst hd3 hf3
      go_wp2
      go_roundw
      case rel => exact ⟨j + 1, by show j + 1 ≤ D.P.length; omega, by go_num, HD3.out, HF3.out⟩
      case measure => simp [intOf]; omega
    · have f1 := HD.out.free 1
      go_wp2
      go_ret
      have e : D.P.take j = D.P := List.take_of_length_le (by omega)
      have hd := HD.out
      simp only [show D.spent.P.take j = D.P from e] at hd
      have hfs : Fr [m] wr (wr.setCell ⟨m, 1, none⟩ (.slice none 0 0)) := (Fr.refl _ _).setCell (by simp) _
      have hfw : Fr (rfp m (.slice (some ⟨g, 0, none⟩) D.S.length sc) (.slice pA D.P.length pc)) w wr := (HF1.out.mono (by simp [rfp])).trans HF.out (by simp [rfp, Value.ownBlock])
      have hns : ∀ x, (Value.slice (some ⟨g, 0, none⟩) D.S.length sc).ownBlock = some x → x ∉ [m] := fun x hx hm => by
        simp only [List.mem_singleton] at hm
        exact hd.ne1 (hm ▸ hx)
      refine ⟨rfl, rfp m (.slice (some ⟨g, 0, none⟩) D.S.length sc) (.slice none 0 0), ⟨_, _, rfl, ?_, ?_, own_nil _ _ _ _, HOK2.out⟩, hfw.trans hfs (by simp [rfp]), ?_⟩
      · have := hd.1.set_ 1 (.slice none 0 0)
        simpa [DM.lain, DM.spent] using this
      · exact own_fr hd.2.1 hfs hns
      · simp [rfp, Value.ownBlock]

theorem rsync_at {w : World} {m : Nat} {D : DM} {f : List Nat} (h : RefAt w m D f) (hdone : D.done < 1099511627776) :
    Calls Try.prog 24 #[.pointer (some ⟨m, 0, none⟩)] w fun e w' => e = .returned (.int .i64 D.syncE) ∧ Step (tR m D.sync) w w' f := by
  have hA := h
  obtain ⟨sv, pv, rfl, h⟩ := h
  by_cases hdead : D.dead = true
  · refine (rsync_dead h hdead).mono ?_
    rintro e w' ⟨rfl, rfl⟩
    simp only [DM.syncE, DM.sync, hdead, if_true]
    exact ⟨trivial, _, hA, Fr.refl _ _, fun _ hk => .inl hk⟩
  · have hdead : D.dead = false := by simpa using hdead
    by_cases hl : D.limit = 0
    · refine (rsync_lim h hdead hl).mono ?_
      rintro e w' ⟨rfl, hd', hf'⟩
      simp only [DM.syncE, DM.sync, hdead, if_false, if_true, Bool.false_eq_true, hl]
      exact ⟨trivial, hd'.rstep (hf'.mono (by simp [rfp])) (fun _ hx => .inl hx)⟩
    · refine (rsync_ok h hdead hl hdone).mono ?_
      rintro e w' ⟨rfl, hd'⟩
      simp only [DM.syncE, DM.sync, hdead, if_false, Bool.false_eq_true, hl]
      exact ⟨trivial, hd'⟩

end Go.Proofs.Ytbgcbikgjedkkaa
