/-
  The contract of Reopen: for every disk, whatever is kept. And the contracts of Read, New, Limit, Size, Dead, Writes, Pending said of 'DiskAt'.
-/
import Derived.Test.YtidpleejgalljaaDiskD
namespace Go.Proofs.Ytidpleejgalljaa
open Go.RowKit

theorem kept_step : ∀ (Ps : List (Nat × List UInt8)) (K : List Bool) (j : Nat) (p : Nat × List UInt8), Ps[j]? = some p → keptOf (Ps.take (j + 1)) K = keptOf (Ps.take j) K ++ (if K[j]? = some true then [p] else [])
  | [], _, j, p, h => by simp at h
  | q :: Ps, [], j, p, h => by
    have e1 : ∀ L : List (Nat × List UInt8), keptOf L [] = [] := fun L => by cases L <;> rfl
    simp [e1]
  | q :: Ps, b :: K, 0, p, h => by
    obtain rfl : q = p := by simpa using h
    cases b <;> simp [keptOf]
  | q :: Ps, b :: K, j + 1, p, h => by
    have ih := kept_step Ps K j p (by simpa using h)
    simp only [List.take_succ_cons, keptOf, List.getElem?_cons_succ]
    cases b <;> simp [ih]

def OpenRel (w : World) (d bb : Nat) (lv : Value) (D : DM) (K : List Bool) (i : Value) (wr : World) : Prop :=
  ∃ j : Nat, j ≤ D.P.length ∧ i = .int .i64 j ∧ DiskIn wr d bb lv (D.lain (layAll D.S (keptOf (D.P.take j) K))) ∧ Fr [bb] w wr

theorem reopen_nil (w : World) (v : Value) : Calls Try.prog 17 #[.pointer none, v] w fun e w' => e = .returned (.tuple #[]) ∧ w = w' := by
  go_enter Try.func17, Try.ntmps17
  go_wp2
  refine bodyPost_ret (results_none rfl _ _ _) rfl ?_
  exact ⟨rfl, rfl⟩

set_option maxRecDepth 100000 in
set_option maxHeartbeats 1000000 in
theorem reopen_in {w : World} {d bb : Nat} {lv : Value} {D : DM} (h : DiskIn w d bb lv D) (v : Value) (K : List Bool) (gs : Nat) (hv : BoolsAt w v K gs) (hgs : gs ≠ bb) (hK : K.length ≤ 9223372036854775807) :
    Calls Try.prog 17 #[.pointer (some ⟨d, 0, none⟩), v] w fun e w' => e = .returned (.tuple #[]) ∧ DStep w w' d (D.reopen K) (dfp d bb lv) := by
  have hok := h.2.2.2
  obtain ⟨KA, kc, koff, rfl, hkc, hkb⟩ := hv
  have HKB := Lib.hid hkb; clear hkb
  have H := Lib.hid h
  obtain ⟨A, c, rfl, hnc, hcm⟩ := own_shape h.2.2.1
  have hP0 : D.P.length ≤ 9223372036854775807 := by unfold maxLen at hcm; omega
  clear hcm
  have c1 := h.c1
  clear h
  go_enter Try.func17, Try.ntmps17
  go_wp2_with fail
  go_loopw [13] (OpenRel w d bb (.slice A D.P.length c) D K) (fun i _ => D.P.length - (intOf i).toNat)
  case atStart => exact ⟨0, Nat.zero_le _, rfl, by simpa [keptOf, layAll, DM.lain] using H.out, Fr.refl _ _⟩
  case round =>
    obtain ⟨j, hj, rfl, hd, hf⟩ := hrel
    clear c1
    by_cases hjn : j < D.P.length
    · obtain ⟨p, hp⟩ : ∃ p, D.P[j]? = some p := ⟨_, List.getElem?_eq_getElem hjn⟩
      obtain ⟨g, rfl, hcell⟩ := own_cell hd.2.2.1 (by show 0 < D.P.length; omega)
      have hpp := hok.pend p (List.mem_of_getElem? hp)
      have hp2 := hpp.2
      have hc : wr.rangeAt g (j * 65) (Value.int .i64 (p.1 : Int) :: bcells p.2) := fun i v hi => by
        have hi' : i < 65 := by have := (List.getElem?_eq_some_iff.1 hi).1; simpa [bcells_len, hp2] using this
        exact hcell _ v (by rw [show pcells (D.lain (layAll D.S (keptOf (D.P.take j) K))).P = pcells D.P from rfl, pcells_at (fun q hq => (hok.pend q hq).2) hp hi']; exact hi)
      have hlen : (Value.int .i64 (p.1 : Int) :: bcells p.2).length = 65 := by simp [bcells_len, hp2]
      have hks : BoolsAt wr (.slice KA K.length kc) K gs := BoolsAt.fr (w := w) ⟨KA, kc, koff, rfl, hkc, HKB.out⟩ hf (by simpa using hgs)
      have HC := Lib.hid hc; clear hc hcell
      have HLEN := Lib.hid hlen; clear hlen
      have HF := Lib.hid hf; clear hf
      have HDR := Lib.hid hd; clear hd
      have HP := Lib.hid hp; clear hp
      have HP2 := Lib.hid hp2; clear hp2
      have HPP := Lib.hid hpp; clear hpp
      have HOK := Lib.hid hok; clear hok
      have HKS := Lib.hid hks; clear hks
      go_upto_region 4 with (first
        | (with_reducible refine wpList_load_mid rfl 71 (.tmp 16) rfl g (j * 65) rfl (Value.int .i64 (p.1 : Int) :: bcells p.2) _ HC.out Try.underlying71 rfl (size_pend.trans (by rw [HLEN.out])) ?_)
        | (with_reducible refine wpList_alloc_z rfl 71 rfl zp zpc zero_pend rfl ?_)
        | (with_reducible refine wpList_store_z (W := wr) rfl 71 (.tmp 5) (.tmp 17) rfl (Value.int .i64 (p.1 : Int) :: bcells p.2) rfl rfl rfl (size_pend.trans (by rw [HLEN.out])) (zp_size.trans HLEN.out.symm) (pend_one p) ?_))
      intro w2 hb2 hf2 hz2
      have cp0 : w2.cell? ⟨wr.heap.size, 0, none⟩ = some (.int .i64 (p.1 : Int)) := hb2.at_ rfl
      have hd2 := HDR.out.fr hf2 (by simp)
      have hks2 : BoolsAt w2 (.slice KA K.length kc) K gs := HKS.out.fr hf2 (by simp)
      have hst := kept_step D.P K j p HP.out
      have hlS : (D.lain (layAll D.S (keptOf (D.P.take j) K))).S.length = D.S.length := layAll_len _ _
      have HD2 := Lib.hid hd2; clear hd2
      have HB2 := Lib.hid hb2; clear hb2
      have HF2 := Lib.hid hf2; clear hf2
      have HST := Lib.hid hst; clear hst
      have HLS := Lib.hid hlS; clear hlS
      clear hz2 HKS
      obtain ⟨KA', kc', koff', hve, _, hkb'⟩ := hks2
      injection hve with e1 e2 e3
      have HE1 := Lib.hid e1; clear e1
      have HKB' := Lib.hid hkb'; clear hkb' e2 e3
      by_cases hkj : j < K.length
      · obtain ⟨hKA, hkcell⟩ := HKB'.out (by omega)
        obtain ⟨b, hb⟩ : ∃ b, K[j]? = some b := ⟨_, List.getElem?_eq_getElem hkj⟩
        have hkc1 := hkcell j b hb
        have hKA2 : KA = some ⟨gs, koff', none⟩ := HE1.out.trans hKA
        subst hKA2
        have HBJ := Lib.hid hb; clear hb hkcell hKA HE1 HKB'
        cases b with
        | false =>
          have hd3 : DiskIn w2 d bb (.slice (some ⟨g, 0, none⟩) D.P.length c) (D.lain (layAll D.S (keptOf (D.P.take (j + 1)) K))) := by rw [HST.out, if_neg (by rw [HBJ.out]; simp), List.append_nil]; exact HD2.out
          have HD3 := Lib.hid hd3; clear hd3
          go_wp2_with fail
          go_roundw
          case rel => exact ⟨j + 1, by omega, by go_num, HD3.out, HF.out.trans HF2.out (by simp)⟩
          case measure => simp [intOf]; omega
        | true =>
          have hst : layAll D.S (keptOf (D.P.take (j + 1)) K) = (layAll D.S (keptOf (D.P.take j) K)).set p.1 p.2 := by
            rw [HST.out, if_pos HBJ.out]; simp [layAll, List.foldl_append]
          have HST2 := Lib.hid hst; clear hst
          go_wp2_with fail
          go_still_tail 6, (by kernel_rfl)
          still_call ((sector_in (HD2.out.fr (Fr.refl [] w2).drew (by simp)) p.1 (by rw [HLS.out]; exact HPP.out.1)).mono fun e w' h => ⟨h.1, h.2.symm⟩)
          repeat still_step
          refine wpStill_nil ?_
          refine wpList_copy_blk rfl (.tmp 31) (.tmp 33) 35 35 rfl 5 Try.underlying35 size_u8 (some ⟨bb, p.1 * 64, none⟩) (some ⟨wr.heap.size, 1, none⟩) 64 64 64 64 rfl rfl bb (p.1 * 64) _ 5 (HD2.out.2.1.fr (Fr.refl [] w2).drew (by simp)) (bcells p.2) (by rw [bcells_len, HP2.out]; rfl) (fun _ => ⟨rfl, _, rfl, fun i v hi => ?_⟩) ?_ (bcells_one _) ?_
          · rw [Addr.add_mid]
            exact HB2.out.at_ (i := 1 + i) (by rw [Nat.add_comm]; simpa using hi)
          · have h1 := flat_len HD2.out.2.2.2.sec
            have h2 := HPP.out.1
            rw [bcells_len, bcells_len, HP2.out, h1, HLS.out]
            omega
          intro w3 hb3 hf3 hz3
          rw [splice_sector HD2.out.2.2.2.sec (by rw [HLS.out]; exact HPP.out.1) HP2.out] at hb3
          have hf3' : Fr [bb] w2 w3 := (Fr.refl [bb] w2).drew.trans hf3 (by simp)
          have hd3 : DiskIn w3 d bb (.slice (some ⟨g, 0, none⟩) D.P.length c) (D.lain (layAll D.S (keptOf (D.P.take (j + 1)) K))) := by
            have hn1 := HD2.out.ne1
            have hn3 := HD2.out.ne3
            refine ⟨?_, ?_, own_fr HD2.out.2.2.1 hf3' (fun g' hg' hm => hn3 (by simp only [List.mem_singleton] at hm; rw [← hm]; exact hg')), ?_⟩
            · have := HD2.out.1.fr hf3' (by simpa using hn1)
              simp only [DM.lain, layAll_len] at this ⊢
              exact this
            · show Blk w3 bb _ (bcells (layAll D.S (keptOf (D.P.take (j + 1)) K)).flatten)
              rw [HST2.out]; exact hb3
            · exact DM.ok_lain HOK.out (layAll_len _ _) (layAll_sec _ _ HOK.out.sec (fun q hq => (HOK.out.pend q (List.mem_of_mem_take (keptOf_mem _ _ q hq))).2))
          have hfr3 : Fr [bb] w w3 := (HF.out.trans HF2.out (by simp)).trans hf3' (by simp)
          have HD3 := Lib.hid hd3; clear hd3
          have HF3 := Lib.hid hfr3; clear hfr3
          clear hb3 hf3 hf3' hz3 cp0
          go_wp2
          go_roundw
          case rel => exact ⟨j + 1, by omega, by go_num, HD3.out, HF3.out⟩
          case measure => simp [intOf]; omega
      · have hd3 : DiskIn w2 d bb (.slice (some ⟨g, 0, none⟩) D.P.length c) (D.lain (layAll D.S (keptOf (D.P.take (j + 1)) K))) := by
          rw [HST.out, if_neg (by rw [List.getElem?_eq_none (by omega)]; simp), List.append_nil]; exact HD2.out
        have HD3 := Lib.hid hd3; clear hd3
        go_wp2_with fail
        exact ⟨⟨j + 1, by omega, by go_num, HD3.out, HF.out.trans HF2.out (by simp)⟩, by simp [intOf]; omega⟩
    · have c1 := hd.c1; have c2 := hd.c2; have c3 := hd.c3
      have f1 := hd.free 1; have f2 := hd.free 2; have f3 := hd.free 3
      have HF := Lib.hid hf; clear hf
      have HDR := Lib.hid hd; clear hd
      go_wp2
      go_end0
      have e : D.P.take j = D.P := List.take_of_length_le (by omega)
      have hd := HDR.out
      rw [e] at hd
      have hne := hd.ne1
      have hfs : Fr [d] wr (((wr.setCell ⟨d, 1, none⟩ (.slice none 0 0)).setCell ⟨d, 3, none⟩ (.bool false)).setCell ⟨d, 2, none⟩ (.int .i64 (-1))) := (((Fr.refl _ _).setCell (by simp) _).setCell (by simp) _).setCell (by simp) _
      have hfw : Fr (dfp d bb (.slice A D.P.length c)) w wr := HF.out.mono (by simp [dfp])
      refine ⟨rfl, dfp d bb (.slice none 0 0), ⟨bb, _, rfl, ?_, ?_, own_nil _ _ _ _, DM.ok_reopen hok K⟩, hfw.trans hfs (by simp [dfp]), by simp [dfp, Value.ownBlock]⟩
      · have := ((hd.1.set_ 1 (.slice none 0 0)).set_ 3 (.bool false)).set_ 2 (.int .i64 (-1))
        simpa [DM.lain, DM.reopen, layAll_len] using this
      · exact hd.2.1.fr hfs (by simpa using hne.symm)

/-! ### The contracts, said of 'DiskAt' -/
theorem reopen_at {w : World} {d : Nat} {D : DM} {fp : List Nat} (h : DiskAt w d D fp) (v : Value) (K : List Bool) (gs : Nat) (hv : BoolsAt w v K gs) (hgs : gs ∉ fp) (hK : K.length ≤ 9223372036854775807) :
    Calls Try.prog 17 #[.pointer (some ⟨d, 0, none⟩), v] w fun e w' => e = .returned (.tuple #[]) ∧ DStep w w' d (D.reopen K) fp := by
  obtain ⟨bb, lv, rfl, h⟩ := h
  exact reopen_in h v K gs hv (fun e => hgs (by simp [dfp, e])) hK
theorem limit_at {w : World} {d : Nat} {D : DM} {fp : List Nat} (h : DiskAt w d D fp) (k : Int) (hk : k ≤ 9223372036854775807) :
    Calls Try.prog 12 #[.pointer (some ⟨d, 0, none⟩), .int .i64 k] w fun e w' => e = .returned (.tuple #[]) ∧ DStep w w' d (D.limited k) fp := by
  obtain ⟨bb, lv, rfl, h⟩ := h
  refine (limit_in h k hk).mono ?_
  rintro e w' ⟨rfl, hd', hf'⟩
  exact ⟨rfl, _, ⟨bb, lv, rfl, hd'⟩, hf'.mono (by simp [dfp]), fun _ hx => .inl hx⟩
theorem dead_at {w : World} {d : Nat} {D : DM} {fp : List Nat} (h : DiskAt w d D fp) : Calls Try.prog 13 #[.pointer (some ⟨d, 0, none⟩)] w fun e w' => e = .returned (.bool D.dead) ∧ w = w' := by
  obtain ⟨bb, lv, rfl, h⟩ := h; exact dead_in h
theorem size_at {w : World} {d : Nat} {D : DM} {fp : List Nat} (h : DiskAt w d D fp) : Calls Try.prog 25 #[.pointer (some ⟨d, 0, none⟩)] w fun e w' => e = .returned (.int .i64 (D.S.length : Int)) ∧ w = w' := by
  obtain ⟨bb, lv, rfl, h⟩ := h; exact size_in h
theorem writes_at {w : World} {d : Nat} {D : DM} {fp : List Nat} (h : DiskAt w d D fp) : Calls Try.prog 21 #[.pointer (some ⟨d, 0, none⟩)] w fun e w' => e = .returned (.int .i64 (D.done : Int)) ∧ w = w' := by
  obtain ⟨bb, lv, rfl, h⟩ := h; exact writes_in h

/-- What Read answers: nil and an error, or a new block of 64 bytes. -/
def ReadAns (w : World) (D : DM) (k : Int) (e : Ending) (w' : World) : Prop :=
  ∃ v g, e = .returned (.tuple #[v, .int .i64 (D.readE k)]) ∧ BytesAt w' v (D.read k) g ∧ w.heap.size ≤ g ∧ Fr [] w w' ∧ (D.readE k = 0 → v = .slice (some ⟨g, 0, none⟩) 64 64 ∧ Blk w' g 5 (bcells (D.read k))) ∧ (D.readE k ≠ 0 → v = .slice none 0 0)
set_option maxRecDepth 100000 in
set_option maxHeartbeats 400000 in
theorem read_bad {w : World} {d bb : Nat} {lv : Value} {D : DM} (h : DiskIn w d bb lv D) (k : Int) (hk : D.readE k ≠ 0) :
    Calls Try.prog 46 #[.pointer (some ⟨d, 0, none⟩), .int .i64 k] w fun e w' => e = .returned (.tuple #[.slice none 0 0, .int .i64 (D.readE k)]) ∧ w = w' := by
  by_cases hdead : D.dead = true
  · have e : D.readE k = 10 := by simp [DM.readE, hdead]
    rw [e]
    clear hk e
    go_enter Try.func46, Try.ntmps46
    go_wp2_with (go_at_call 28; refine (gone_in h).mono ?_; rintro e w' ⟨rfl, rfl⟩)
    go_ret2
    exact ⟨rfl, rfl⟩
  · have hdead : D.dead = false := by simpa using hdead
    have hk' : k < 0 ∨ (D.S.length : Int) ≤ k := by
      simp only [DM.readE, hdead, Bool.false_eq_true, if_false] at hk
      by_cases h' : k < 0 ∨ (D.S.length : Int) ≤ k
      · exact h'
      · rw [if_neg h'] at hk; exact absurd rfl hk
    have e : D.readE k = 1 := by simp [DM.readE, hdead, hk']
    rw [e]
    clear hk e
    by_cases h1 : k < 0
    · clear hk'
      go_enter Try.func46, Try.ntmps46
      go_wp2_with (first
        | (go_at_call 28; refine (gone_in h).mono ?_; rintro e w' ⟨rfl, rfl⟩)
        | (go_at_call 25; refine (size_in h).mono ?_; rintro e w' ⟨rfl, rfl⟩))
      go_ret2
      exact ⟨rfl, rfl⟩
    · have h2 : (D.S.length : Int) ≤ k := by omega
      clear hk'
      go_enter Try.func46, Try.ntmps46
      go_wp2_with (first
        | (go_at_call 28; refine (gone_in h).mono ?_; rintro e w' ⟨rfl, rfl⟩)
        | (go_at_call 25; refine (size_in h).mono ?_; rintro e w' ⟨rfl, rfl⟩))
      go_ret2
      exact ⟨rfl, rfl⟩
theorem read_nil (w : World) (k : Int) : Calls Try.prog 46 #[.pointer none, .int .i64 k] w fun e w' => e = .returned (.tuple #[.slice none 0 0, .int .i64 10]) ∧ w = w' := by
  go_enter Try.func46, Try.ntmps46
  go_wp2_with (go_at_call 28; refine (gone_nil w).mono ?_; rintro e w' ⟨rfl, rfl⟩)
  go_ret2
  exact ⟨rfl, rfl⟩
theorem read_at {w : World} {d : Nat} {D : DM} {fp : List Nat} (h : DiskAt w d D fp) (k : Int) :
    Calls Try.prog 46 #[.pointer (some ⟨d, 0, none⟩), .int .i64 k] w (ReadAns w D k) := by
  obtain ⟨bb, lv, rfl, h⟩ := h
  by_cases hk : D.readE k = 0
  · have hdead : D.dead = false := by
      cases hd : D.dead with
      | false => rfl
      | true => simp [DM.readE, hd] at hk
    have hk2 : 0 ≤ k ∧ k < D.S.length := by
      simp only [DM.readE, hdead, Bool.false_eq_true, if_false] at hk
      by_cases h' : k < 0 ∨ (D.S.length : Int) ≤ k
      · rw [if_pos h'] at hk; exact absurd hk (by decide)
      · omega
    obtain ⟨n, rfl⟩ := Int.eq_ofNat_of_zero_le hk2.1
    refine (read_in h hdead n (by omega)).mono ?_
    rintro e w' ⟨g, rfl, hg, hb, hf⟩
    have hr : D.read (n : Int) = D.look n := by simp [DM.read, hk]
    have hl : (D.look n).length = 64 := DM.look_len h.2.2.2 (by omega)
    have hba := BytesAt.of_blk hb 64 (by omega)
    rw [hl] at hba
    exact ⟨_, g, by rw [hk], by rw [hr]; exact hba, hg, hf, fun _ => ⟨rfl, by rw [hr]; exact hb⟩, fun h0 => absurd hk h0⟩
  · refine (read_bad h k hk).mono ?_
    rintro e w' ⟨rfl, rfl⟩
    have hr : D.read k = [] := by simp [DM.read, hk]
    exact ⟨_, w.heap.size, rfl, by rw [hr]; exact BytesAt.nil _ _, Nat.le_refl _, Fr.refl _ _, fun h0 => absurd h0 hk, fun _ => rfl⟩

end Go.Proofs.Ytidpleejgalljaa
