/-
  The contract of orangeryref07's Append.
-/
import Derived.Test.YtbgcbikgjedkkaaKd
namespace Go.Proofs.Ytbgcbikgjedkkaa
open Go.RowKit

def LG.rcells (l : LG) (m : Nat) : List Value := rlog m l.f l.n l.at_ l.num l.ses l.br
/-- The log behind an Append that came to its writes. -/
def appL (e : Int) (l : LG) (n : Nat) : LG := if e ≠ 0 then { l with br := true } else { l with at_ := l.at_ + n, num := (l.num + 1) % 4294967296 }
structure RJn (w : World) (lg m : Nat) (l : LG) (D : DM) (fp : List Nat) : Prop where
  log : Blk w lg 99 (l.rcells m)
  disk : RefAt w m D fp
  apart : lg ∉ fp
  at_ : l.at_ ≤ l.n
  fit : l.f + l.n ≤ D.S.length
  num : l.num < 4294967296
  ses : l.ses < 4294967296
def RJStep (w w' : World) (lg m : Nat) (l : LG) (D : DM) (fp : List Nat) : Prop := ∃ fp', RJn w' lg m l D fp' ∧ Fr (lg :: fp) w w' ∧ ∀ k ∈ fp', k ∈ fp ∨ w.heap.size ≤ k
theorem RJStep.same {w : World} {lg m : Nat} {l : LG} {D : DM} {fp : List Nat} (h : RJn w lg m l D fp) : RJStep w w lg m l D fp := ⟨fp, h, Fr.refl _ _, fun _ hk => .inl hk⟩
theorem RJn.fr {S : List Nat} {w w' : World} {lg m : Nat} {l : LG} {D : DM} {fp : List Nat} (h : RJn w lg m l D fp) (hf : Fr S w w') (h1 : lg ∉ S) (h2 : ∀ k ∈ fp, k ∉ S) : RJn w' lg m l D fp :=
  ⟨h.log.fr hf h1, (locRef m D).fr h.disk hf h2, h.apart, h.at_, h.fit, h.num, h.ses⟩
theorem enter_rsector (vs : Array Value) (w : World) : (callFunc 56 vs).run Try.prog w = .ok (.enter 56 vs) w := by kernel_rfl
theorem enter_rwrite7 (vs : Array Value) (w : World) : (callFunc 23 vs).run Try.prog w = .ok (.enter 23 vs) w := by kernel_rfl
theorem RefAt.mem {w : World} {m : Nat} {D : DM} {fp : List Nat} (h : RefAt w m D fp) : m ∈ fp := by
  obtain ⟨sv, pv, rfl, _⟩ := h
  simp [rfp]
theorem RefAt.ok {w : World} {m : Nat} {D : DM} {fp : List Nat} (h : RefAt w m D fp) : D.ok := by
  obtain ⟨sv, pv, rfl, h⟩ := h
  exact h.2.2.2
def RLayRel (w : World) (m f at_ num ses : Nat) (b : List UInt8) (D : DM) (fp : List Nat) (i : Value) (wr : World) : Prop :=
  ∃ (k : Nat) (Dk : DM), k ≤ needOf b.length ∧ i = .int .i64 k ∧ layJ D (f + at_) (sectorsOf ses num b) = layJ Dk (f + at_ + k) ((sectorsOf ses num b).drop k) ∧ Dk.done ≤ D.done + k ∧ Dk.S.length = D.S.length ∧ Step (tR m Dk) w wr fp

set_option maxRecDepth 100000 in
set_option maxHeartbeats 8000000 in
theorem rappend_at {w : World} {lg m gb : Nat} {l : LG} {D : DM} {fp : List Nat} {v : Value} {b : List UInt8} (h : RJn w lg m l D fp) (hv : BytesAt w v b gb) (hgb : gb ∉ fp) (hgw : gb < w.heap.size) (hbl : b.length ≤ 9223372036854775807) (hdone : D.done + 65536 < 1099511627776) :
    Calls Try.prog 42 #[.pointer (some ⟨lg, 0, none⟩), v] w fun e w' => e = .returned (.int .i64 (appendE D l b)) ∧ RJStep w w' lg m (appendL D l b) (appendD D l b) fp := by
  have H := Lib.hid h
  have hat := h.at_; have hfit := h.fit; have hmost := (RefAt.ok h.disk).most
  have hnum := h.num; have hses := h.ses; have hlg := h.apart
  have l6 := h.log.at_ (i := 6) rfl
  have l0 := h.log.at_ (i := 0) rfl
  clear h
  have HV := Lib.hid hv
  obtain ⟨A, c, off, rfl, hbc, hcs⟩ := hv
  clear hcs
  unfold appendE appendL appendD
  by_cases hbr : l.br = true
  · rw [if_pos hbr, if_pos hbr, if_pos hbr]
    rw [hbr] at l6
    clear hbr
    go_enter Try.func42, Try.ntmps42
    go_wp2_with fail
    refine (rneed_any _ _ (by omega) (by omega)).mono ?_
    rintro e w1 ⟨rfl, rfl⟩
    go_wp2
    go_ret
    exact ⟨rfl, RJStep.same H.out⟩
  · have hbr' : l.br = false := by simpa using hbr
    rw [if_neg hbr, if_neg hbr, if_neg hbr]
    rw [hbr'] at l6
    have HBR := Lib.hid hbr'
    clear hbr hbr'
    by_cases h1 : 65535 < needOf b.length
    · rw [if_pos h1, if_pos h1, if_pos h1]
      go_enter Try.func42, Try.ntmps42
      go_wp2_with fail
      refine (rneed_any _ _ (by omega) (by omega)).mono ?_
      rintro e w1 ⟨rfl, rfl⟩
      rw [needI_nat]
      go_wp2
      go_ret
      exact ⟨rfl, RJStep.same H.out⟩
    · rw [if_neg h1, if_neg h1, if_neg h1]
      by_cases h2 : l.n - l.at_ < needOf b.length
      · rw [if_pos h2, if_pos h2, if_pos h2]
        go_enter Try.func42, Try.ntmps42
        go_wp2_with fail
        refine (rneed_any _ _ (by omega) (by omega)).mono ?_
        rintro e w1 ⟨rfl, rfl⟩
        rw [needI_nat]
        go_wp2_with fail
        refine (rroom_at H.out.log (by omega) hat).mono ?_
        rintro e w1 ⟨rfl, m1, rfl⟩
        go_wp2
        go_ret
        exact ⟨rfl, fp, H.out.fr ((Fr.refl [] w).drewN m1) (by simp) (by simp), (Fr.refl _ w).drewN m1, fun _ hk => .inl hk⟩
      · rw [if_neg h2, if_neg h2, if_neg h2]
        have HB := Lib.hid H.out.log
        show Calls Try.prog 42 #[.pointer (some ⟨lg, 0, none⟩), .slice A b.length c] w fun e w' => e = .returned (.int .i64 (layJ D (l.f + l.at_) (sectorsOf l.ses l.num b)).2) ∧ RJStep w w' lg m (appL (layJ D (l.f + l.at_) (sectorsOf l.ses l.num b)).2 l (needOf b.length)) (layJ D (l.f + l.at_) (sectorsOf l.ses l.num b)).1 fp
        go_enter Try.func42, Try.ntmps42
        go_wp2_with fail
        refine (rneed_any _ _ (by omega) (by omega)).mono ?_
        rintro e w1 ⟨rfl, rfl⟩
        rw [needI_nat]
        go_wp2_with fail
        refine (rroom_at H.out.log (by omega) hat).mono ?_
        rintro e w1 ⟨rfl, m1, rfl⟩
        have hm1 := (locRef m D).fr H.out.disk ((Fr.refl [] w).drewN m1) (by simp)
        have HD0 := Lib.hid hm1
        clear hm1
        go_wp2_with fail
        go_loopw [6] (RLayRel w m l.f l.at_ l.num l.ses b D fp) (fun i _ => needOf b.length - (intOf i).toNat)
        case atStart => exact ⟨0, D, Nat.zero_le _, rfl, rfl, by omega, rfl, fp, HD0.out, (Fr.refl _ _).drewN m1, fun _ h => .inl h⟩
        case round =>
          obtain ⟨k, Dk, hk, rfl, hlay, hdk, hsk, hst⟩ := hrel
          have HLAY := Lib.hid hlay; have HST := Lib.hid hst
          clear hlay hst
          by_cases hkn : k < needOf b.length
          · obtain ⟨fpk, hdk', hfk, hfpk⟩ := HST.out
            have hbk := HB.out.fr hfk hlg
            have hll := hbk.lt
            have m0 := hbk.at_ (i := 0) rfl
            have m1' := hbk.at_ (i := 1) rfl
            have m3 := hbk.at_ (i := 3) rfl
            have HBK := Lib.hid hbk; have HDK := Lib.hid hdk'; have HFK := Lib.hid hfk; have HFPK := Lib.hid hfpk
            clear hbk hdk' hfk hfpk l0 l6
            have hq : ((pieceAt l.ses l.num b k).b).length = min 48 (b.length - 48 * k) := by simp [pieceAt]
            have hk48 : 48 * k ≤ b.length := need_lo hkn
            obtain ⟨q, hqq⟩ : ∃ q, q = ((pieceAt l.ses l.num b k).b).length := ⟨_, rfl⟩
            rw [← hqq] at hq
            have HQQ := Lib.hid hqq; clear hqq
            have hq48 : 48 * k + q ≤ b.length ∧ q ≤ 48 := by omega
            have y1 : (if 48 * (k : Int) + 48 < (b.length : Int) then 48 * (k : Int) + 48 else (b.length : Int)) = ((48 * k + q : Nat) : Int) := by split <;> omega
            have x6 : IntKind.i64.wrap (48 * (k : Int) + 48) = 48 * (k : Int) + 48 := by rw [IntKind.wrap_i64]; omega
            have x7 : IntKind.i64.wrap (48 * (k : Int)) = 48 * (k : Int) := by rw [IntKind.wrap_i64]; omega
            have hsl := slice_run (P := Try.prog) (t := 22) Try.underlying22 (by kernel_rfl) A b.length c (48 * k) (48 * k + q) .i64 .i64 (by omega) (by omega)
            rw [show ((48 * k : Nat) : Int) = 48 * (k : Int) by omega] at hsl
            have hsb := (HV.out.fr HFK.out hgb).sub (48 * k) q (by omega)
            have hqe : (b.drop (48 * k)).take q = (pieceAt l.ses l.num b k).b := by
              unfold pieceAt
              rw [hq, ← List.length_drop, List.take_eq_take_min]
              simp
            rw [Nat.add_sub_cancel_left] at hsl
            rw [hqe] at hsb
            generalize hsvv : (if c = 48 * k then A else A.map (·.add (48 * k))) = sa at *
            generalize hcc : c - 48 * k = cc at *
            have HSL := Lib.hid hsl; have HSB := Lib.hid hsb; have HQ := Lib.hid hq; clear hsl hsb hq hqe hsvv hcc
            have z1 : IntKind.i64.wrap ((l.f : Int) + (l.at_ : Int)) = (l.f : Int) + (l.at_ : Int) := by rw [IntKind.wrap_i64]; omega
            have z2 : IntKind.i64.wrap ((l.f : Int) + (l.at_ : Int) + (k : Int)) = (l.f : Int) + (l.at_ : Int) + (k : Int) := by rw [IntKind.wrap_i64]; omega
            go_wp2_with fail
            refine wp_region_K (fun W => W.cell? ⟨lg, 0, none⟩ = some (.pointer (some ⟨m, 0, none⟩)) ∧ W.cell? ⟨lg, 1, none⟩ = some (.int .i64 (l.f : Int)) ∧ W.cell? ⟨lg, 3, none⟩ = some (.int .i64 (l.at_ : Int))) [0, 1, 2, 3, 4, 5, 6, 7, 8, 9, 10, 11, 12, 13, 14, 15, 16, 17, 18, 19, 20, 21, 22, 23, 24, 25, 26, 27] (by kernel_rfl) ?_
            refine wpAnyK_take (i := 0) (some 30) ?vq1_0 rfl rfl (by kernel_rfl) (fun _ _ _ h => h) ⟨m0, m1', m3⟩ (.inl ⟨rfl, fun W hW => ?yq1_0⟩) ?_
            case yq1_0 => (obtain ⟨c0, c1, c3⟩ := hW; go_simp) <;> with_reducible rfl
            simp only [Act.put, List.setIfInBounds_toArray, List.set_cons_zero, List.set_cons_succ]
            refine wpAnyK_take (i := 1) (some 31) ?vq1_1 rfl rfl (by kernel_rfl) (fun _ _ _ h => h) ⟨m0, m1', m3⟩ (.inl ⟨rfl, fun W hW => ?yq1_1⟩) ?_
            case yq1_1 => (obtain ⟨c0, c1, c3⟩ := hW; go_simp) <;> with_reducible rfl
            simp only [Act.put, List.setIfInBounds_toArray, List.set_cons_zero, List.set_cons_succ]
            refine wpAnyK_take (i := 2) (some 32) ?vq1_2 rfl rfl (by kernel_rfl) (fun _ _ _ h => h) ⟨m0, m1', m3⟩ (.inl ⟨rfl, fun W hW => ?yq1_2⟩) ?_
            case yq1_2 => (obtain ⟨c0, c1, c3⟩ := hW; go_simp) <;> with_reducible rfl
            simp only [Act.put, List.setIfInBounds_toArray, List.set_cons_zero, List.set_cons_succ]
            refine wpAnyK_take (i := 3) (some 33) ?vq1_3 rfl rfl (by kernel_rfl) (fun _ _ _ h => h) ⟨m0, m1', m3⟩ (.inl ⟨rfl, fun W hW => ?yq1_3⟩) ?_
            case yq1_3 => (obtain ⟨c0, c1, c3⟩ := hW; go_simp) <;> with_reducible rfl
            simp only [Act.put, List.setIfInBounds_toArray, List.set_cons_zero, List.set_cons_succ]
            refine wpAnyK_take (i := 4) (some 34) ?vq1_4 rfl rfl (by kernel_rfl) (fun _ _ _ h => h) ⟨m0, m1', m3⟩ (.inl ⟨rfl, fun W hW => ?yq1_4⟩) ?_
            case yq1_4 => (obtain ⟨c0, c1, c3⟩ := hW; go_simp) <;> with_reducible rfl
            simp only [Act.put, List.setIfInBounds_toArray, List.set_cons_zero, List.set_cons_succ]
            refine wpAnyK_take (i := 5) (some 35) ?vq1_5 rfl rfl (by kernel_rfl) (fun _ _ _ h => h) ⟨m0, m1', m3⟩ (.inl ⟨rfl, fun W hW => ?yq1_5⟩) ?_
            case yq1_5 => (obtain ⟨c0, c1, c3⟩ := hW; go_simp) <;> with_reducible rfl
            simp only [Act.put, List.setIfInBounds_toArray, List.set_cons_zero, List.set_cons_succ]
            refine wpAnyK_take (i := 6) (some 36) ?vq1_6 rfl rfl (by kernel_rfl) (fun _ _ _ h => h) ⟨m0, m1', m3⟩ (.inl ⟨rfl, fun W hW => ?yq1_6⟩) ?_
            case yq1_6 => (obtain ⟨c0, c1, c3⟩ := hW; go_simp) <;> with_reducible rfl
            simp only [Act.put, List.setIfInBounds_toArray, List.set_cons_zero, List.set_cons_succ]
            refine wpAnyK_take (i := 7) (some 37) ?vq1_7 rfl rfl (by kernel_rfl) (fun _ _ _ h => h) ⟨m0, m1', m3⟩ (.inl ⟨rfl, fun W hW => ?yq1_7⟩) ?_
            case yq1_7 => (obtain ⟨c0, c1, c3⟩ := hW; go_simp) <;> with_reducible rfl
            simp only [Act.put, List.setIfInBounds_toArray, List.set_cons_zero, List.set_cons_succ]
            refine wpAnyK_take (i := 8) (some 38) ?vq1_8 rfl rfl (by kernel_rfl) (fun _ _ _ h => h) ⟨m0, m1', m3⟩ (.inl ⟨rfl, fun W hW => ?yq1_8⟩) ?_
            case yq1_8 => (obtain ⟨c0, c1, c3⟩ := hW; go_simp) <;> with_reducible rfl
            simp only [Act.put, List.setIfInBounds_toArray, List.set_cons_zero, List.set_cons_succ]
            refine wpAnyK_take (i := 9) (some 39) ?vq1_9 rfl rfl (by kernel_rfl) (fun _ _ _ h => h) ⟨m0, m1', m3⟩ (.inl ⟨rfl, fun W hW => ?yq1_9⟩) ?_
            case yq1_9 => (obtain ⟨c0, c1, c3⟩ := hW; go_simp) <;> with_reducible rfl
            simp only [Act.put, List.setIfInBounds_toArray, List.set_cons_zero, List.set_cons_succ]
            refine wpAnyK_take (i := 10) (some 40) ?vq1_10 rfl rfl (by kernel_rfl) (fun _ _ _ h => h) ⟨m0, m1', m3⟩ (.inl ⟨rfl, fun W hW => ?yq1_10⟩) ?_
            case yq1_10 => (obtain ⟨c0, c1, c3⟩ := hW; go_simp) <;> with_reducible rfl
            simp only [Act.put, List.setIfInBounds_toArray, List.set_cons_zero, List.set_cons_succ]
            refine wpAnyK_take (i := 11) (some 41) ?vq1_11 rfl rfl (by kernel_rfl) (fun _ _ _ h => h) ⟨m0, m1', m3⟩ (.inl ⟨rfl, fun W hW => ?yq1_11⟩) ?_
            case yq1_11 => (obtain ⟨c0, c1, c3⟩ := hW; go_simp) <;> with_reducible rfl
            simp only [Act.put, List.setIfInBounds_toArray, List.set_cons_zero, List.set_cons_succ]
            refine wpAnyK_take (i := 12) (some 42) ?vq1_12 rfl rfl (by kernel_rfl) (fun _ _ _ h => h) ⟨m0, m1', m3⟩ (.inl ⟨rfl, fun W hW => ?yq1_12⟩) ?_
            case yq1_12 => (obtain ⟨c0, c1, c3⟩ := hW; go_simp) <;> with_reducible rfl
            simp only [Act.put, List.setIfInBounds_toArray, List.set_cons_zero, List.set_cons_succ]
            refine wpAnyK_take (i := 13) (some 43) ?vq1_13 rfl rfl (by kernel_rfl) (fun _ _ _ h => h) ⟨m0, m1', m3⟩ (.inl ⟨rfl, fun W hW => ?yq1_13⟩) ?_
            case yq1_13 => (obtain ⟨c0, c1, c3⟩ := hW; go_simp) <;> with_reducible rfl
            simp only [Act.put, List.setIfInBounds_toArray, List.set_cons_zero, List.set_cons_succ]
            refine wpAnyK_take (i := 14) (some 44) ?vq1_14 rfl rfl (by kernel_rfl) (fun _ _ _ h => h) ⟨m0, m1', m3⟩ (.inl ⟨rfl, fun W hW => ?yq1_14⟩) ?_
            case yq1_14 => (obtain ⟨c0, c1, c3⟩ := hW; go_simp) <;> with_reducible rfl
            simp only [Act.put, List.setIfInBounds_toArray, List.set_cons_zero, List.set_cons_succ]
            refine wpAnyK_take (i := 15) (some 45) ?vq1_15 rfl rfl (by kernel_rfl) (fun _ _ _ h => h) ⟨m0, m1', m3⟩ (.inl ⟨rfl, fun W hW => ?yq1_15⟩) ?_
            case yq1_15 => (obtain ⟨c0, c1, c3⟩ := hW; go_simp) <;> with_reducible rfl
            simp only [Act.put, List.setIfInBounds_toArray, List.set_cons_zero, List.set_cons_succ]
            refine wpAnyK_take (i := 16) (some 46) ?vq1_16 rfl rfl (by kernel_rfl) (fun _ _ _ h => h) ⟨m0, m1', m3⟩ (.inl ⟨rfl, fun W hW => ?yq1_16⟩) ?_
            case yq1_16 => (obtain ⟨c0, c1, c3⟩ := hW; go_simp) <;> with_reducible rfl
            simp only [Act.put, List.setIfInBounds_toArray, List.set_cons_zero, List.set_cons_succ]
            refine wpAnyK_take (i := 17) (some 47) ?vq1_17 rfl rfl (by kernel_rfl) (fun _ _ _ h => h) ⟨m0, m1', m3⟩ (.inl ⟨rfl, fun W hW => ?yq1_17⟩) ?_
            case yq1_17 => (obtain ⟨c0, c1, c3⟩ := hW; go_simp) <;> with_reducible rfl
            simp only [Act.put, List.setIfInBounds_toArray, List.set_cons_zero, List.set_cons_succ]
            refine wpAnyK_take (i := 18) (some 48) ?vq1_18 rfl rfl (by kernel_rfl) (fun _ _ _ h => h) ⟨m0, m1', m3⟩ (.inl ⟨rfl, fun W hW => ?yq1_18⟩) ?_
            case yq1_18 => (obtain ⟨c0, c1, c3⟩ := hW; go_simp) <;> with_reducible rfl
            simp only [Act.put, List.setIfInBounds_toArray, List.set_cons_zero, List.set_cons_succ]
            refine wpAnyK_take (i := 19) (some 49) ?vq1_19 rfl rfl (by kernel_rfl) (fun _ _ _ h => h) ⟨m0, m1', m3⟩ (.inl ⟨rfl, fun W hW => ?yq1_19⟩) ?_
            case yq1_19 => (obtain ⟨c0, c1, c3⟩ := hW; go_simp) <;> with_reducible rfl
            simp only [Act.put, List.setIfInBounds_toArray, List.set_cons_zero, List.set_cons_succ]
            refine wpAnyK_take (i := 20) (some 50) ?vq1_20 rfl rfl (by kernel_rfl) (fun _ _ _ h => h) ⟨m0, m1', m3⟩ (.inl ⟨rfl, fun W hW => ?yq1_20⟩) ?_
            case yq1_20 => (obtain ⟨c0, c1, c3⟩ := hW; go_simp) <;> with_reducible rfl
            simp only [Act.put, List.setIfInBounds_toArray, List.set_cons_zero, List.set_cons_succ]
            refine wpAnyK_take (i := 21) (some 51) ?vq1_21 rfl rfl (by kernel_rfl) (fun _ _ _ h => h) ⟨m0, m1', m3⟩ (.inl ⟨rfl, fun W hW => ?yq1_21⟩) ?_
            case yq1_21 => (obtain ⟨c0, c1, c3⟩ := hW; go_simp) <;> with_reducible rfl
            simp only [Act.put, List.setIfInBounds_toArray, List.set_cons_zero, List.set_cons_succ]
            refine wpAnyK_take (i := 22) (some 52) ?vq1_22 rfl rfl (by kernel_rfl) (fun _ _ _ h => h) ⟨m0, m1', m3⟩ (.inl ⟨rfl, fun W hW => ?yq1_22⟩) ?_
            case yq1_22 => (obtain ⟨c0, c1, c3⟩ := hW; go_simp) <;> with_reducible rfl
            simp only [Act.put, List.setIfInBounds_toArray, List.set_cons_zero, List.set_cons_succ]
            refine wpAnyK_take (i := 23) (some 53) ?vq1_23 rfl rfl (by kernel_rfl) (fun _ _ _ h => h) ⟨m0, m1', m3⟩ (.inl ⟨rfl, fun W hW => ?yq1_23⟩) ?_
            case yq1_23 => (obtain ⟨c0, c1, c3⟩ := hW; go_simp) <;> with_reducible rfl
            simp only [Act.put, List.setIfInBounds_toArray, List.set_cons_zero, List.set_cons_succ]
            refine wpAnyK_take (i := 24) (some 54) ?vq1_24 rfl rfl (by kernel_rfl) (fun _ _ _ h => h) ⟨m0, m1', m3⟩ (.inl ⟨rfl, fun W hW => ?yq1_24⟩) ?_
            case yq1_24 => (obtain ⟨c0, c1, c3⟩ := hW; go_simp) <;> with_reducible rfl
            simp only [Act.put, List.setIfInBounds_toArray, List.set_cons_zero, List.set_cons_succ]
            refine wpAnyK_take (i := 25) (some 55) ?vq1_25 rfl rfl (by kernel_rfl) (fun _ _ _ h => h) ⟨m0, m1', m3⟩ (.inl ⟨rfl, fun W hW => ?yq1_25⟩) ?_
            case yq1_25 => (obtain ⟨c0, c1, c3⟩ := hW; go_simp) <;> with_reducible rfl
            simp only [Act.put, List.setIfInBounds_toArray, List.set_cons_zero, List.set_cons_succ]
            refine wpAnyK_take (i := 26) (some 56) ?vq1_26 rfl rfl (by kernel_rfl) (fun _ _ _ h => h) ⟨m0, m1', m3⟩ (.inl ⟨rfl, fun W hW => ?yq1_26⟩) ?_
            case yq1_26 => (obtain ⟨c0, c1, c3⟩ := hW; go_simp) <;> with_reducible rfl
            simp only [Act.put, List.setIfInBounds_toArray, List.set_cons_zero, List.set_cons_succ]
            refine wpAnyK_take (i := 27) (some 57) (.slice sa q cc) rfl rfl (by kernel_rfl) (fun _ _ _ h => h) ⟨m0, m1', m3⟩ (.inl ⟨rfl, fun W _ => exec_slice rfl rfl rfl rfl (HSL.out W)⟩) ?_
            simp only [Act.put, List.setIfInBounds_toArray, List.set_cons_zero, List.set_cons_succ]
            refine wpAnyK_step (j := 28) (some 58) rfl rfl (by kernel_rfl) rfl fun K hK => ?_
            have hsb5 : BytesAt wr.drew (.slice sa q cc) (pieceAt l.ses l.num b k).b gb := HSB.out.fr ((Fr.refl [] wr).drew) (by simp)
            refine wp_call_f (l := [.tmp 45, .tmp 46, .tmp 47, .tmp 57]) rfl [.pointer (some ⟨lg, 0, none⟩), .int .i64 (k : Int), .int .i64 (needOf b.length : Int), .slice sa q cc] rfl (enter_rsector _) ((rsector_at (HBK.out.drew) hnum hses (place := k) (count := needOf b.length) (by omega) (by omega) hsb5 (by rw [← HQQ.out]; omega)).mono ?_)
            rintro e w6 ⟨v6, g6, rfl, hb6, hg6, hf6⟩
            have hf6' : Fr [] wr w6 := (Fr.refl [] wr).drew.trans hf6 (by simp)
            have hb6' := HBK.out.fr hf6' (by simp)
            refine ⟨_, rfl, hK _ _ (fun _ => ⟨hb6'.at_ rfl, hb6'.at_ rfl, hb6'.at_ rfl⟩) ?_⟩
            simp only [Act.put, List.setIfInBounds_toArray, List.set_cons_zero, List.set_cons_succ]
            refine wpAnyK_step (j := 29) (some 59) rfl rfl (by kernel_rfl) rfl fun K hK => ?_
            have hd6 := (locRef m Dk).fr HDK.out hf6' (by simp)
            have hdl := (locRef m Dk).lt HDK.out m (RefAt.mem HDK.out)
            refine wp_call_f (l := [.tmp 33, .tmp 44, .tmp 58]) rfl [.pointer (some ⟨m, 0, none⟩), .int .i64 ((l.f : Int) + (l.at_ : Int) + (k : Int)), v6] rfl (enter_rwrite7 _) ((rwrite_at hd6 _ _ _ _ hb6 (by have : wr.heap.size ≤ g6 := hg6; omega) (by omega)).mono ?_)
            rintro e w7 ⟨rfl, hs7⟩
            have hf7 : Fr fpk w6 w7 := by obtain ⟨_, _, h, _⟩ := hs7; exact h
            have hb7 := hb6'.fr hf7 (fun hm => by rcases HFPK.out _ hm with h | h; exact hlg h; exact absurd HB.out.lt (by omega))
            refine ⟨_, rfl, hK _ _ (fun _ => ⟨hb7.at_ rfl, hb7.at_ rfl, hb7.at_ rfl⟩) ?_⟩
            simp only [Act.put, List.setIfInBounds_toArray, List.set_cons_zero, List.set_cons_succ]
            refine wpAnyK_step (j := 30) (some 7) rfl rfl (by kernel_rfl) rfl fun K hK => ?_
            refine wp_run_same (v := ?aq1_30) ?yq1_30 (hK _ _ (fun h => absurd h (by decide +kernel)) ?_)
            case yq1_30 => go_simp <;> with_reducible rfl
            simp only [Act.put, List.setIfInBounds_toArray, List.set_cons_zero, List.set_cons_succ]
            refine wpAnyK_done (by kernel_rfl) ?_ _
            rw [show (l.f : Int) + (l.at_ : Int) + (k : Int) = ((l.f + l.at_ + k : Nat) : Int) by omega] at hs7 ⊢
            have hpc : (⟨⟨l.ses, l.num, needOf b.length⟩, k, (pieceAt l.ses l.num b k).b⟩ : Pc) = pieceAt l.ses l.num b k := rfl
            rw [hpc] at hs7 ⊢
            have hS8 := write_S Dk ((l.f + l.at_ + k : Nat) : Int) (writtenOf (pieceAt l.ses l.num b k))
            have hD8 := write_done Dk ((l.f + l.at_ + k : Nat) : Int) (writtenOf (pieceAt l.ses l.num b k))
            have HS7 := Lib.hid hs7; have HS8' := Lib.hid hS8; have HF6 := Lib.hid hf6'
            clear hf7 hb7 hs7 hS8 hK hd6 hb6 hb6' hf6 hf6' hsb5 m0 m1' m3 x6 x7 z1 z2 hpc
            rw [sectorsOf_at l.ses l.num b hkn] at HLAY
            by_cases he : Dk.writeE ((l.f + l.at_ + k : Nat) : Int) (writtenOf (pieceAt l.ses l.num b k)) = 0
            · rw [he]
              rw [layJ_on he] at HLAY
              generalize Dk.write ((l.f + l.at_ + k : Nat) : Int) (writtenOf (pieceAt l.ses l.num b k)) = D8 at *
              clear he
              have hs8 : Step (tR m D8) w w7 fp := by
                obtain ⟨fp7, hd7, hf7, hn7⟩ := HS7.out
                have hfz := (HFK.out.trans HF6.out (by simp))
                have hz := hfz.size
                refine ⟨fp7, hd7, hfz.trans hf7 (fun x hx => HFPK.out x hx), fun x hx => ?_⟩
                rcases hn7 x hx with h | h
                · exact HFPK.out x h
                · right; omega
              have HS8s := Lib.hid hs8
              clear hs8
              go_wp2
              exact ⟨⟨k + 1, D8, by omega, rfl, HLAY.out, by omega, by rw [HS8'.out]; exact hsk, HS8s.out⟩, by simp [intOf]; omega⟩
            · rw [layJ_stop he] at HLAY
              have HE := Lib.hid he
              have HS8 : Hid ((Dk.write ((l.f + l.at_ + k : Nat) : Int) (writtenOf (pieceAt l.ses l.num b k))).S.length = D.S.length) := Lib.hid (by rw [HS8'.out]; exact hsk)
              clear HS8'
              generalize Dk.writeE ((l.f + l.at_ + k : Nat) : Int) (writtenOf (pieceAt l.ses l.num b k)) = e8 at *
              generalize Dk.write ((l.f + l.at_ + k : Nat) : Int) (writtenOf (pieceAt l.ses l.num b k)) = D7 at *
              have hne : (e8 != 0) = true := by rw [bne_iff_ne]; exact he
              clear he
              obtain ⟨fp7, hd7, hf7, hn7⟩ := HS7.out
              have hf7' : Fr fpk wr w7 := (HF6.out.mono (by simp)).trans hf7 (fun x hx => .inl hx)
              have hn7' : ∀ x ∈ fp7, x ∈ fpk ∨ wr.heap.size ≤ x := fun x hx => by
                have hz := HF6.out.size
                rcases hn7 x hx with h | h
                · exact .inl h
                · right; omega
              have HD7 := Lib.hid hd7; have HF7 := Lib.hid hf7'; have HN7 := Lib.hid hn7'
              clear hd7 hf7 hn7 hf7' hn7' HS7
              have hf2' : Fr fp w w7 := HFK.out.trans HF7.out (fun x hx => HFPK.out x hx)
              have hn2 : ∀ x ∈ fp7, x ∈ fp ∨ w.heap.size ≤ x := fun x hx => by
                have hz := HFK.out.size
                rcases HN7.out x hx with h | h
                · exact HFPK.out x h
                · right; omega
              have hb2 := HB.out.fr hf2' hlg
              have hap : lg ∉ fp7 := fun hm2 => by
                rcases hn2 _ hm2 with h | h
                · exact hlg h
                · exact absurd HB.out.lt (by omega)
              have HB2 := Lib.hid hb2; have HF2 := Lib.hid hf2'; have HN2 := Lib.hid hn2; have HAP := Lib.hid hap
              clear hb2 hf2' hn2 hap
              have hfg : ∀ w3, Fr [lg] w7 w3 → Fr (lg :: fp) w w3 := fun w3 h3 => (HF2.out.mono (fun x hx => .inl (List.mem_cons_of_mem _ hx))).trans h3 (fun x hx => .inl (by simp at hx; simp [hx]))
              have hdg : ∀ w3, Fr [lg] w7 w3 → RefAt w3 m D7 fp7 := fun w3 h3 => (locRef m D7).fr HD7.out h3 (fun k hk hm2 => by simp at hm2; subst hm2; exact HAP.out hk)
              have HFG := Lib.hid hfg; have HDG := Lib.hid hdg; clear hfg hdg
              have b6 := HB2.out.at_ (i := 6) rfl
              have bf := HB2.out.free
              go_wp2
              go_ret
              have hfin : Fr [lg] w7 (w7.setCell ⟨lg, 6, none⟩ (.bool true)) := ((Fr.refl [lg] w7).setCell (.inl (by simp)) _)
              rw [HLAY.out]
              unfold appL
              rw [if_pos HE.out]
              refine ⟨rfl, fp7, ⟨HB2.out.set_ 6 _, HDG.out _ hfin, HAP.out, hat, ?_, hnum, hses⟩, HFG.out _ hfin, HN2.out⟩
              show l.f + l.n ≤ D7.S.length; rw [HS8.out]; exact hfit
          · have hkk : k = needOf b.length := by omega
            rw [hkk, List.drop_of_length_le (by rw [sectorsOf_len]; exact Nat.le_refl _)] at HLAY
            obtain ⟨fpk, hdk', hfk, hfpk⟩ := HST.out
            have hbk := HB.out.fr hfk hlg
            have m0 := hbk.at_ (i := 0) rfl
            have HDK := Lib.hid hdk'; have HFK := Lib.hid hfk; have HFPK := Lib.hid hfpk; have HKK := Lib.hid hkk
            clear hbk hdk' hfk hfpk hkk l0 l6
            go_wp2_with fail
            refine (rsync_at HDK.out (by omega)).mono ?_
            rintro e w7 ⟨rfl, fp7, hd7, hf7, hn7⟩
            have HD7 := Lib.hid hd7; have HF7 := Lib.hid hf7; have HN7 := Lib.hid hn7
            clear hd7 hf7 hn7 m0
            have HS8 : Hid (Dk.sync.S.length = D.S.length) := Lib.hid (by
              rw [← hsk]
              unfold DM.sync
              split
              · rfl
              · split
                · rfl
                · exact layAll_len _ _)
            have hly := HLAY.out
            rw [show layJ Dk (l.f + l.at_ + needOf b.length) [] = (Dk.sync, Dk.syncE) from rfl] at hly
            clear HLAY
            have HLAY := Lib.hid hly
            clear hly
            by_cases he : Dk.syncE = 0
            · rw [he]
              rw [he] at HLAY
              generalize Dk.sync = D7 at *
              clear he
              have hf2' : Fr fp w w7 := HFK.out.trans HF7.out (fun x hx => HFPK.out x hx)
              have hn2 : ∀ x ∈ fp7, x ∈ fp ∨ w.heap.size ≤ x := fun x hx => by
                have hz := HFK.out.size
                rcases HN7.out x hx with h | h
                · exact HFPK.out x h
                · right; omega
              have hb2 := HB.out.fr hf2' hlg
              have hap : lg ∉ fp7 := fun hm2 => by
                rcases hn2 _ hm2 with h | h
                · exact hlg h
                · exact absurd HB.out.lt (by omega)
              have HB2 := Lib.hid hb2; have HF2 := Lib.hid hf2'; have HN2 := Lib.hid hn2; have HAP := Lib.hid hap
              clear hb2 hf2' hn2 hap
              have hfg : ∀ w3, Fr [lg] w7 w3 → Fr (lg :: fp) w w3 := fun w3 h3 => (HF2.out.mono (fun x hx => .inl (List.mem_cons_of_mem _ hx))).trans h3 (fun x hx => .inl (by simp at hx; simp [hx]))
              have hdg : ∀ w3, Fr [lg] w7 w3 → RefAt w3 m D7 fp7 := fun w3 h3 => (locRef m D7).fr HD7.out h3 (fun k hk hm2 => by simp at hm2; subst hm2; exact HAP.out hk)
              have HFG := Lib.hid hfg; have HDG := Lib.hid hdg; clear hfg hdg
              have b3 := HB2.out.at_ (i := 3) rfl
              have b4 := HB2.out.at_ (i := 4) rfl
              have bf := HB2.out.free
              go_wp2
              go_ret
              rw [HLAY.out]
              unfold appL
              rw [if_neg (by simp)]
              have hfin : Fr [lg] w7 ((w7.setCell ⟨lg, 3, none⟩ (.int .i64 ((l.at_ : Int) + (needOf b.length : Int)))).setCell ⟨lg, 4, none⟩ (.int .u32 (((l.num : Int) + 1) % 4294967296))) := (((Fr.refl [lg] w7).setCell (.inl (by simp)) _).setCell (.inl (by simp)) _)
              refine ⟨rfl, fp7, ⟨?_, HDG.out _ hfin, HAP.out, ?_, ?_, ?_, hses⟩, HFG.out _ hfin, HN2.out⟩
              · have hx := (HB2.out.set_ 3 (.int .i64 ((l.at_ : Int) + (needOf b.length : Int)))).set_ 4 (.int .u32 (((l.num : Int) + 1) % 4294967296))
                have e1 : ((l.num : Int) + 1) % 4294967296 = (((l.num + 1) % 4294967296 : Nat) : Int) := by omega
                have e2 : (l.at_ : Int) + (needOf b.length : Int) = ((l.at_ + needOf b.length : Nat) : Int) := by omega
                rw [e1, e2] at hx ⊢
                exact hx
              · show l.at_ + needOf b.length ≤ l.n; omega
              · show l.f + l.n ≤ D7.S.length; rw [HS8.out]; exact hfit
              · show (l.num + 1) % 4294967296 < _; omega
            · have HE := Lib.hid he
              generalize Dk.syncE = e8 at *
              generalize Dk.sync = D7 at *
              have hne : (e8 != 0) = true := by rw [bne_iff_ne]; exact he
              clear he
              have hf2' : Fr fp w w7 := HFK.out.trans HF7.out (fun x hx => HFPK.out x hx)
              have hn2 : ∀ x ∈ fp7, x ∈ fp ∨ w.heap.size ≤ x := fun x hx => by
                have hz := HFK.out.size
                rcases HN7.out x hx with h | h
                · exact HFPK.out x h
                · right; omega
              have hb2 := HB.out.fr hf2' hlg
              have hap : lg ∉ fp7 := fun hm2 => by
                rcases hn2 _ hm2 with h | h
                · exact hlg h
                · exact absurd HB.out.lt (by omega)
              have HB2 := Lib.hid hb2; have HF2 := Lib.hid hf2'; have HN2 := Lib.hid hn2; have HAP := Lib.hid hap
              clear hb2 hf2' hn2 hap
              have hfg : ∀ w3, Fr [lg] w7 w3 → Fr (lg :: fp) w w3 := fun w3 h3 => (HF2.out.mono (fun x hx => .inl (List.mem_cons_of_mem _ hx))).trans h3 (fun x hx => .inl (by simp at hx; simp [hx]))
              have hdg : ∀ w3, Fr [lg] w7 w3 → RefAt w3 m D7 fp7 := fun w3 h3 => (locRef m D7).fr HD7.out h3 (fun k hk hm2 => by simp at hm2; subst hm2; exact HAP.out hk)
              have HFG := Lib.hid hfg; have HDG := Lib.hid hdg; clear hfg hdg
              have b6 := HB2.out.at_ (i := 6) rfl
              have bf := HB2.out.free
              go_wp2
              go_ret
              have hfin : Fr [lg] w7 (w7.setCell ⟨lg, 6, none⟩ (.bool true)) := ((Fr.refl [lg] w7).setCell (.inl (by simp)) _)
              rw [HLAY.out]
              unfold appL
              rw [if_pos HE.out]
              refine ⟨rfl, fp7, ⟨HB2.out.set_ 6 _, HDG.out _ hfin, HAP.out, hat, ?_, hnum, hses⟩, HFG.out _ hfin, HN2.out⟩
              show l.f + l.n ≤ D7.S.length; rw [HS8.out]; exact hfit

end Go.Proofs.Ytbgcbikgjedkkaa
