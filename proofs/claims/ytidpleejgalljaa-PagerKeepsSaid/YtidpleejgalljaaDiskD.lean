/-
  The contract of Sync: for every disk.
-/
import Derived.Test.YtidpleejgalljaaDiskC
namespace Go.Proofs.Ytidpleejgalljaa
open Go.RowKit

def DM.lain (D : DM) (S : List (List UInt8)) : DM := { D with S := S }
theorem DM.ok_lain {D : DM} (h : D.ok) {S : List (List UInt8)} (hl : S.length = D.S.length) (hs : ∀ s ∈ S, s.length = 64) : (D.lain S).ok :=
  ⟨by simpa [DM.lain, hl] using h.some_, by simpa [DM.lain, hl] using h.most, hs, fun p hp => by simpa [DM.lain, hl] using h.pend p hp, h.lim, h.lim', h.few⟩
theorem lay_step (S : List (List UInt8)) (Ps : List (Nat × List UInt8)) (j : Nat) (p : Nat × List UInt8) (hj : Ps[j]? = some p) : layAll S (Ps.take (j + 1)) = (layAll S (Ps.take j)).set p.1 p.2 := by
  have hlt : j < Ps.length := (List.getElem?_eq_some_iff.1 hj).1
  have e : Ps.take (j + 1) = Ps.take j ++ [p] := by
    rw [List.take_succ_eq_append_getElem hlt]
    rw [List.getElem?_eq_getElem hlt] at hj
    simp only [Option.some.injEq] at hj
    rw [hj]
  simp [e, layAll, List.foldl_append]
theorem splice_sector {S : List (List UInt8)} (h : ∀ s ∈ S, s.length = 64) {k : Nat} (hk : k < S.length) {b : List UInt8} (hb : b.length = 64) : splice (bcells S.flatten) (k * 64) (bcells b) = bcells (S.set k b).flatten := by
  simp only [splice, bcells_len, hb]
  rw [← flat_set h hk, bcells_append, bcells_append, bcells_take, bcells_drop]

set_option maxRecDepth 100000 in
set_option maxHeartbeats 400000 in
theorem sync_dead {w : World} {d bb : Nat} {lv : Value} {D : DM} (h : DiskIn w d bb lv D) (hdead : D.dead = true) :
    Calls Try.prog 44 #[.pointer (some ⟨d, 0, none⟩)] w fun e w' => e = .returned (.int .i64 10) ∧ w = w' := by
  go_enter Try.func44, Try.ntmps44
  go_wp2_with (go_at_call 28; refine (gone_in h).mono ?_; rintro e w' ⟨rfl, rfl⟩)
  go_ret
  exact ⟨rfl, rfl⟩
theorem sync_nil (w : World) : Calls Try.prog 44 #[.pointer none] w fun e w' => e = .returned (.int .i64 10) ∧ w = w' := by
  go_enter Try.func44, Try.ntmps44
  go_wp2_with (go_at_call 28; refine (gone_nil w).mono ?_; rintro e w' ⟨rfl, rfl⟩)
  go_ret
  exact ⟨rfl, rfl⟩
set_option maxRecDepth 100000 in
set_option maxHeartbeats 400000 in
theorem sync_lim {w : World} {d bb : Nat} {lv : Value} {D : DM} (h : DiskIn w d bb lv D) (hdead : D.dead = false) (hl : D.limit = 0) :
    Calls Try.prog 44 #[.pointer (some ⟨d, 0, none⟩)] w fun e w' => e = .returned (.int .i64 10) ∧ DiskIn w' d bb lv D.died ∧ Fr [d] w w' := by
  have HL := Lib.hid hl; clear hl
  go_enter Try.func44, Try.ntmps44
  go_wp2_with (first
    | (go_at_call 28; refine (gone_in h).mono ?_; rintro e w' ⟨rfl, rfl⟩)
    | (go_at_call 55; refine (spend_no h HL.out).mono ?_; rintro e w' ⟨rfl, hd', hf'⟩))
  go_ret
  exact ⟨rfl, hd', hf'⟩

def SyncRel (w : World) (d bb : Nat) (lv : Value) (D : DM) (i : Value) (wr : World) : Prop :=
  ∃ j : Nat, j ≤ D.P.length ∧ i = .int .i64 j ∧ DiskIn wr d bb lv (D.lain (layAll D.S (D.P.take j))) ∧ Fr [bb] w wr

set_option maxRecDepth 100000 in
set_option maxHeartbeats 1000000 in
theorem sync_ok {w : World} {d bb : Nat} {lv : Value} {D : DM} (h : DiskIn w d bb lv D) (hdead : D.dead = false) (hl : D.limit ≠ 0) (hdone : D.done < 1099511627776) :
    Calls Try.prog 44 #[.pointer (some ⟨d, 0, none⟩)] w fun e w' => e = .returned (.int .i64 0) ∧ DStep w w' d { D.spent with S := layAll D.S D.P, P := [] } (dfp d bb lv) := by
  have hok := h.2.2.2
  have hfew := hok.few
  have hok2 : DM.ok { D.spent with S := layAll D.S D.P, P := [] } := by
    have h0 := DM.ok_sync hok
    simpa only [DM.sync, hdead, if_false, Bool.false_eq_true, hl] using h0
  have HOK2 := Lib.hid hok2; clear hok2
  have HL := Lib.hid hl; clear hl
  have HDN := Lib.hid hdone; clear hdone
  have H := Lib.hid h; clear h
  obtain ⟨A, c, rfl, hnc, hcm⟩ := own_shape H.out.2.2.1
  have hP0 : D.P.length ≤ 9223372036854775807 := by unfold maxLen at hcm; omega
  clear hcm
  go_enter Try.func44, Try.ntmps44
  go_upto_region 3 with (first
    | (go_at_call 28; refine (gone_in H.out).mono ?_; rintro e w' ⟨rfl, rfl⟩)
    | (go_at_call 55; refine (spend_yes H.out HL.out HDN.out).mono ?_; rintro e w1 ⟨rfl, hd1, hf1⟩; have c1 := hd1.c1; have HD1 := Lib.hid hd1; have HF1 := Lib.hid hf1; clear hd1 hf1))
  go_wp2_with fail
  go_loopw [17] (SyncRel w1 d bb (.slice A D.P.length c) D.spent) (fun i _ => D.P.length - (intOf i).toNat)
  case atStart => exact ⟨0, Nat.zero_le _, rfl, HD1.out, Fr.refl _ _⟩
  case round =>
    obtain ⟨j, hj, rfl, hd, hf⟩ := hrel
    have hj' : j ≤ D.P.length := hj
    clear hj c1
    by_cases hjn : j < D.P.length
    · obtain ⟨p, hp⟩ : ∃ p, D.P[j]? = some p := ⟨_, List.getElem?_eq_getElem hjn⟩
      obtain ⟨g, rfl, hcell⟩ := own_cell hd.2.2.1 (by show 0 < D.P.length; omega)
      have hpp := hok.pend p (List.mem_of_getElem? hp)
      have hp2 := hpp.2
      have hc : wr.rangeAt g (j * 65) (Value.int .i64 (p.1 : Int) :: bcells p.2) := fun i v hi => by
        have hi' : i < 65 := by have := (List.getElem?_eq_some_iff.1 hi).1; simpa [bcells_len, hp2] using this
        exact hcell _ v (by rw [show pcells (D.spent.lain (layAll D.spent.S (D.spent.P.take j))).P = pcells D.P from rfl, pcells_at (fun q hq => (hok.pend q hq).2) hp hi']; exact hi)
      have hlen : (Value.int .i64 (p.1 : Int) :: bcells p.2).length = 65 := by simp [bcells_len, hp2]
      have HC := Lib.hid hc; clear hc hcell
      have HLEN := Lib.hid hlen; clear hlen
      have HF := Lib.hid hf; clear hf
      have HDR := Lib.hid hd; clear hd
      have HP := Lib.hid hp; clear hp
      have HP2 := Lib.hid hp2; clear hp2
      have HPP := Lib.hid hpp; clear hpp
      have HOK := Lib.hid hok; clear hok
      go_wp2_with (first
        | (with_reducible refine wpList_load_mid rfl 71 (.tmp 19) rfl g (j * 65) rfl (Value.int .i64 (p.1 : Int) :: bcells p.2) _ HC.out Try.underlying71 rfl (size_pend.trans (by rw [HLEN.out])) ?_)
        | (with_reducible refine wpList_alloc_z rfl 71 rfl zp zpc zero_pend rfl ?_)
        | (with_reducible refine wpList_store_z (W := wr) rfl 71 (.tmp 4) (.tmp 20) rfl (Value.int .i64 (p.1 : Int) :: bcells p.2) rfl rfl rfl (size_pend.trans (by rw [HLEN.out])) ?zl (pend_one p) ?_))
      case zl => rw [HLEN.out]; rfl
      intro w2 hb2 hf2 hz2
      have cp0 : w2.cell? ⟨wr.heap.size, 0, none⟩ = some (.int .i64 (p.1 : Int)) := hb2.at_ rfl
      have hd2 := HDR.out.fr hf2 (by simp)
      have HD2 := Lib.hid hd2; clear hd2
      have HB2 := Lib.hid hb2; clear hb2
      have HF2 := Lib.hid hf2; clear hf2
      clear hz2
      go_wp2_with fail
      go_still_tail 6, (by kernel_rfl)
      have hlS : (D.spent.lain (layAll D.spent.S (D.spent.P.take j))).S.length = D.S.length := layAll_len _ _
      still_call ((sector_in (HD2.out.fr (Fr.refl [] w2).drew (by simp)) p.1 (by rw [hlS]; exact HPP.out.1)).mono fun e w' h => ⟨h.1, h.2.symm⟩)
      repeat still_step
      refine wpStill_nil ?_
      refine wpList_copy_blk rfl (.tmp 24) (.tmp 26) 35 35 rfl 5 Try.underlying35 size_u8 (some ⟨bb, p.1 * 64, none⟩) (some ⟨wr.heap.size, 1, none⟩) 64 64 64 64 rfl rfl bb (p.1 * 64) _ 5 (HD2.out.2.1.fr (Fr.refl [] w2).drew (by simp)) (bcells p.2) (by rw [bcells_len, HP2.out]; rfl) (fun _ => ⟨rfl, _, rfl, fun i v hi => ?_⟩) ?_ (bcells_one _) ?_
      · rw [Addr.add_mid]
        exact HB2.out.at_ (i := 1 + i) (by rw [Nat.add_comm]; simpa using hi)
      · have h1 := flat_len HD2.out.2.2.2.sec
        have h2 := HPP.out.1
        rw [bcells_len, bcells_len, HP2.out, h1, hlS]
        omega
      intro w3 hb3 hf3 hz3
      rw [splice_sector HD2.out.2.2.2.sec (by rw [hlS]; exact HPP.out.1) HP2.out] at hb3
      have hst := lay_step D.S D.P j p HP.out
      have hf3' : Fr [bb] w2 w3 := (Fr.refl [bb] w2).drew.trans hf3 (by simp)
      have hd3 : DiskIn w3 d bb (.slice (some ⟨g, 0, none⟩) D.P.length c) (D.spent.lain (layAll D.spent.S (D.spent.P.take (j + 1)))) := by
        have hn1 := HD2.out.ne1
        have hn3 := HD2.out.ne3
        refine ⟨?_, ?_, own_fr HD2.out.2.2.1 hf3' (fun g' hg' hm => hn3 (by simp only [List.mem_singleton] at hm; rw [← hm]; exact hg')), ?_⟩
        · have := HD2.out.1.fr hf3' (by simpa using hn1)
          simp only [DM.lain, layAll_len] at this ⊢
          exact this
        · show Blk w3 bb _ (bcells (layAll D.S (D.P.take (j + 1))).flatten)
          rw [hst]; exact hb3
        · exact DM.ok_lain HD1.out.2.2.2 (layAll_len _ _) (layAll_sec _ _ HOK.out.sec (fun q hq => (HOK.out.pend q (List.mem_of_mem_take hq)).2))
      have hfr3 : Fr [bb] w1 w3 := (HF.out.trans HF2.out (by simp)).trans hf3' (by simp)
      have HD3 := Lib.hid hd3; clear hd3
      have HF3 := Lib.hid hfr3; clear hfr3
      clear hb3 hf3 hf3' hz3 hst hlS cp0
      go_wp2
      go_roundw
      case rel => exact ⟨j + 1, by show j + 1 ≤ D.P.length; omega, by go_num, HD3.out, HF3.out⟩
      case measure => simp [intOf]; omega
    · have c1 := hd.c1
      have f1 := hd.free 1
      have HF := Lib.hid hf; clear hf
      have HDR := Lib.hid hd; clear hd
      go_wp2
      go_ret
      have e : D.P.take j = D.P := List.take_of_length_le (by omega)
      have hd := HDR.out
      simp only [show D.spent.P.take j = D.P from e] at hd
      have hne := hd.ne1
      have hfs : Fr [d] wr (wr.setCell ⟨d, 1, none⟩ (.slice none 0 0)) := (Fr.refl _ _).setCell (by simp) _
      have hfw : Fr (dfp d bb (.slice A D.P.length c)) w wr := (HF1.out.mono (by simp [dfp])).trans HF.out (by simp [dfp])
      refine ⟨rfl, dfp d bb (.slice none 0 0), ⟨bb, _, rfl, ?_, ?_, own_nil _ _ _ _, HOK2.out⟩, hfw.trans hfs (by simp [dfp]), by simp [dfp, Value.ownBlock]⟩
      · have := hd.1.set_ 1 (.slice none 0 0)
        simpa [DM.lain, DM.spent, layAll_len] using this
      · exact hd.2.1.fr hfs (by simpa using hne.symm)

/-- Sync, whatever the disk. -/
theorem sync_at {w : World} {d : Nat} {D : DM} {fp : List Nat} (h : DiskAt w d D fp) (hdone : D.done < 1099511627776) :
    Calls Try.prog 44 #[.pointer (some ⟨d, 0, none⟩)] w fun e w' => e = .returned (.int .i64 D.syncE) ∧ DStep w w' d D.sync fp := by
  have hA := h
  obtain ⟨bb, lv, rfl, h⟩ := h
  by_cases hdead : D.dead = true
  · refine (sync_dead h hdead).mono ?_
    rintro e w' ⟨rfl, rfl⟩
    simp only [DM.syncE, DM.sync, hdead, if_true]
    exact ⟨trivial, DStep.same hA⟩
  · have hdead : D.dead = false := by simpa using hdead
    by_cases hl : D.limit = 0
    · refine (sync_lim h hdead hl).mono ?_
      rintro e w' ⟨rfl, hd', hf'⟩
      simp only [DM.syncE, DM.sync, hdead, if_false, if_true, Bool.false_eq_true, hl]
      exact ⟨trivial, _, ⟨bb, lv, rfl, hd'⟩, hf'.mono (by simp [dfp]), fun _ hx => .inl hx⟩
    · refine (sync_ok h hdead hl hdone).mono ?_
      rintro e w' ⟨rfl, hd'⟩
      simp only [DM.syncE, DM.sync, hdead, if_false, Bool.false_eq_true, hl]
      exact ⟨trivial, hd'⟩

end Go.Proofs.Ytidpleejgalljaa
