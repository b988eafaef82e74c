/-
  The walk of DiskKeeps.
-/
import Derived.Test.YtbgcbikgjedkkaaLawKeep
import Derived.Test.YtbgcbikgjedkkaaStr
namespace Go.Proofs.Ytbgcbikgjedkkaa
open Go.RowKit

theorem sync_P {D : DM} (h : D.syncE = 0) : D.sync.P.length = 0 := by
  unfold DM.syncE at h
  unfold DM.sync
  by_cases h1 : D.dead = true
  · rw [if_pos h1] at h; exact absurd h (by decide)
  · rw [if_neg h1] at h ⊢
    by_cases h2 : D.limit = 0
    · rw [if_pos h2] at h; exact absurd h (by decide)
    · rw [if_neg h2]; rfl
def KeepRel (W : World) (d k : Nat) (K : List Bool) (a : List UInt8) (L : Nat) (hit n i : Value) (wr : World) : Prop :=
  ∃ (j : Nat) (D : DM) (b : Bool), j ≤ L ∧ i = .int .i64 j ∧ n = .int .i64 (D.P.length : Int) ∧ hit = .bool b ∧ Disk W wr d D ∧ Mid k K (S1 k a) D b ∧ D.P.length ≤ j

set_option maxRecDepth 100000 in
set_option maxHeartbeats 2000000 in
theorem keeps_walk (W : World) (av mv kv : Value) (a : List UInt8) (l : List OpA) (K : List Bool) (n : Int) (ha : ArgBytes W av a) (hl : ArgOps W mv l) (hK : ArgBools W kv K) :
    Calls Try.prog 3 #[av, .int .i64 n, mv, kv] W fun e w' => e = .returned (.bool true) ∧ Fr [] W w' := by
  obtain ⟨k, hk, hkn⟩ := and_mask n 7 (by omega)
  have hkn' : bits .and .i64 n 7 = (k : Int) := hkn
  clear hkn
  have ham := ha.1; have hKm := hK.1
  unfold maxLen at ham hKm
  obtain ⟨_, ag, ⟨aA, ac, ao, rfl, hac, hacell⟩, hag⟩ := id ha
  obtain ⟨_, kg, ⟨kA, kc, ko, rfl, hkc, hkcell⟩, hkg⟩ := id hK
  obtain ⟨mA, mc, mg, mo, rfl, hm, hel⟩ := id hl
  unfold maxLen at hm
  have hkc2 : ∀ (j : Nat) (b : Bool), K[j]? = some b → kA = some ⟨kg, ko, none⟩ ∧ ∀ w, Fr [] W w → w.cell? ⟨kg, ko + j, none⟩ = some (.bool b) := by
    intro j b hj
    have h0 : 0 < K.length := by have := (List.getElem?_eq_some_iff.1 hj).1; omega
    obtain ⟨h1, h2⟩ := hkcell h0
    exact ⟨h1, fun w hf => hf.keep (h2 j b hj)⟩
  have HA := Lib.hid ha; have HL := Lib.hid hl; have HK := Lib.hid hK; have HKC := Lib.hid hkc2; have HEL := Lib.hid hel
  clear ha hl hK hkc2 hel hacell hkcell hag hkg
  go_enter Try.func3, Try.ntmps3
  go_wp2_with fail
  refine (awake06 W).mono ?_
  rintro e w1 ⟨rfl, hf1⟩
  have HF1 := Lib.hid hf1; clear hf1
  by_cases hbig : 64 < a.length
  · go_wp2_with fail
    go_ret
    exact ⟨rfl, HF1.out⟩
  · by_cases hsm : smallB l = false
    · go_wp2_with (go_at_call 14; refine (small_any HL.out HF1.out).mono ?_; rintro e w2 ⟨rfl, rfl⟩; rw [hsm])
      go_ret
      exact ⟨rfl, HF1.out⟩
    · have hsm' : smallB l = true := by simpa using hsm
      clear hsm
      by_cases hKb : 200 < K.length
      · go_wp2_with (go_at_call 14; refine (small_any HL.out HF1.out).mono ?_; rintro e w2 ⟨rfl, rfl⟩; rw [hsm'])
        go_ret
        exact ⟨rfl, HF1.out⟩
      · have hl100 : l.length ≤ 100 := by
          have := hsm'
          simp only [smallB, Bool.and_eq_true, decide_eq_true_eq] at this
          exact this.1
        have HSM := Lib.hid hsm'; clear hsm'
        go_wp2_with (first
          | (go_at_call 14; refine (small_any HL.out HF1.out).mono ?_; rintro e w2 ⟨rfl, rfl⟩; rw [HSM.out])
          | (go_at_call 15; refine (new_D W w1 8 (by omega) (by omega) HF1.out).mono ?_; rintro e w2 ⟨d, rfl, hd2⟩; have HD2 := Lib.hid hd2; clear hd2))
        obtain ⟨g2, hb2, hg2⟩ := HA.out.here HD2.out.frame
        have hfw := first_write k (by omega) a (by omega) K
        have HFW := Lib.hid hfw; clear hfw
        refine (write_D HD2.out k _ a g2 hb2 (by have h1 := HD2.out.lt; have h2 := HD2.out.ge; omega) (by decide)).mono ?_
        rintro e w3 ⟨rfl, hd3⟩
        rw [HFW.out.1]
        have HD3 := Lib.hid hd3; clear hd3 hb2 hg2
        go_wp2_with fail
        refine (sync_D HD3.out (by rw [HFW.out.2.2.2]; decide)).mono ?_
        rintro e w4 ⟨rfl, hd4⟩
        rw [HFW.out.2.1]
        have HD4 := Lib.hid hd4; clear hd4
        go_wp2_with fail
        go_loopw [15, 16, 17] (KeepRel W d k K a l.length) (fun _ _ i _ => l.length - (intOf i).toNat)
        case atStart => exact ⟨0, _, false, Nat.zero_le _, rfl, by rw [show (((DM.new 8).write k a).sync).P.length = 0 from by have h1 := HFW.out.2.2.1.done; have h2 := HFW.out.2.2.2; have h3 := HFW.out.2.1; exact (sync_P h3)]; rfl, rfl, HD4.out, HFW.out.2.2.1, by rw [sync_P HFW.out.2.1]; exact Nat.le_refl _⟩
        case round =>
          obtain ⟨j, D, b, hj, rfl, rfl, rfl, hD, hM, hPj⟩ := hrel
          have HD := Lib.hid hD; have HM := Lib.hid hM; clear hD hM HD4 HD3 HD2
          have hdn : D.done < 1099511627776 := by have := HM.out.done; omega
          have HDN := Lib.hid hdn; clear hdn
          by_cases hjl : j < l.length
          · obtain ⟨o, ho⟩ : ∃ o, l[j]? = some o := ⟨_, List.getElem?_eq_getElem hjl⟩
            obtain ⟨rfl, hat⟩ := HEL.out j o ho
            have hcs := hat.fr HD.out.frame
            obtain ⟨c0, c1, c2, c3⟩ := hcs
            have HAT := Lib.hid hat; clear hat ho c0 c3
            go_wp2_with fail
            go_still_tail 11, (by kernel_rfl)
            change wpList _ _ _ _ _ wr.drew
            have hDd : Disk W wr.drew d D := HD.out.fr (Fr.refl [] wr).drew
            have HDD := Lib.hid hDd; clear hDd
            generalize wr.drew = w5 at *
            obtain ⟨g2, hb2, hg2⟩ := HAT.out.b.here HDD.out.frame
            have HB2 := Lib.hid hb2; clear hb2
            go_wp2_with fail
            refine (write_D HDD.out o.place _ o.bs g2 HB2.out (by have h1 := HDD.out.lt; have h2 := HDD.out.ge; omega) HDN.out).mono ?_
            rintro e w6 ⟨rfl, hd6⟩
            by_cases hE : D.writeE o.place o.bs = 0
            · rw [hE]
              have hyes := HM.out.yes hE
              have HY := Lib.hid hyes; have HD6 := Lib.hid hd6; clear hyes hd6 hE
              obtain ⟨c0, c1, c2, c3⟩ := HAT.out.fr HD6.out.frame
              clear c0 c2 c3
              cases b with
              | true =>
                go_wp2_with fail
                go_roundw
                case rel => exact ⟨j + 1, _, true, by omega, by go_num, by rw [HY.out.2]; go_num, rfl, HD6.out, by simpa using HY.out.1, by have := HY.out.2; omega⟩
                case measure => simp [intOf]; omega
              | false =>
                by_cases hpk : o.place = (k : Int)
                · have e1 : (o.place == (k : Int)) = true := beq_iff_eq.2 hpk
                  by_cases hPK : D.P.length < K.length
                  · obtain ⟨b2, hb2⟩ : ∃ b2, K[D.P.length]? = some b2 := ⟨_, List.getElem?_eq_getElem hPK⟩
                    obtain ⟨hka, hkcell⟩ := HKC.out _ b2 hb2
                    subst hka
                    have ck := hkcell w6 HD6.out.frame
                    have hfin : (false || (decide (o.place = (k : Int)) && decide (K[D.P.length]? = some true))) = b2 := by
                      rw [hb2, hpk]; cases b2 <;> simp
                    have HFIN := Lib.hid hfin; clear hfin hb2 hkcell hpk
                    go_wp2_with fail
                    go_roundw
                    case rel => exact ⟨j + 1, _, b2, by omega, by go_num, by rw [HY.out.2]; go_num, rfl, HD6.out, by have := HY.out.1; rwa [HFIN.out] at this, by have := HY.out.2; omega⟩
                    case measure => simp [intOf]; omega
                  · have hfin : (false || (decide (o.place = (k : Int)) && decide (K[D.P.length]? = some true))) = false := by
                      rw [List.getElem?_eq_none (by omega)]; simp
                    have HFIN := Lib.hid hfin; clear hfin hpk
                    go_wp2_with fail
                    go_roundw
                    case rel => exact ⟨j + 1, _, false, by omega, by go_num, by rw [HY.out.2]; go_num, rfl, HD6.out, by have := HY.out.1; rwa [HFIN.out] at this, by have := HY.out.2; omega⟩
                    case measure => simp [intOf]; omega
                · have e1 : (o.place == (k : Int)) = false := beq_eq_false_iff_ne.2 hpk
                  have hfin : (false || (decide (o.place = (k : Int)) && decide (K[D.P.length]? = some true))) = false := by
                    simp [hpk]
                  have HFIN := Lib.hid hfin; clear hfin hpk
                  go_wp2_with fail
                  go_roundw
                  case rel => exact ⟨j + 1, _, false, by omega, by go_num, by rw [HY.out.2]; go_num, rfl, HD6.out, by have := HY.out.1; rwa [HFIN.out] at this, by have := HY.out.2; omega⟩
                  case measure => simp [intOf]; omega
            · have hno := HM.out.no hE
              rw [hno] at hd6
              have e1 : (D.writeE o.place o.bs == 0) = false := beq_eq_false_iff_ne.2 hE
              have HD6 := Lib.hid hd6; clear hno hd6 hE
              go_wp2_with fail
              go_roundw
              case rel => exact ⟨j + 1, _, b, by omega, by go_num, rfl, rfl, HD6.out, HM.out, by omega⟩
              case measure => simp [intOf]; omega
          · have hla := HM.out.limit0
            have hfi := HM.out.last (by omega) (by omega)
            have HLA := Lib.hid hla; have HFI := Lib.hid hfi; clear hla hfi
            go_wp2_with fail
            refine (limit_D HD.out 0 (by decide)).mono ?_
            rintro e w2 ⟨rfl, hd2⟩
            have HD2 := Lib.hid hd2; clear hd2
            go_wp2_with fail
            refine (write_D HD2.out 0 _ [] (d + 1) (BytesAt.nil _ _) (by omega) HDN.out).mono ?_
            rintro e w3 ⟨rfl, hd3⟩
            rw [HLA.out.2] at hd3
            rw [HLA.out.1]
            have HD3 := Lib.hid hd3; clear hd3
            go_wp2_with fail
            refine (read_D HD3.out k).mono ?_
            rintro e w4 ⟨v4, g4, rfl, _, _, hf4, _, hv4⟩
            have hre : ((D.limited 0).died).readE k = 10 := by simp [DM.readE, DM.died]
            rw [hre] at hv4
            obtain rfl := hv4 (by decide)
            rw [hre]
            have HD4 := Lib.hid (HD3.out.fr hf4); clear hf4 hv4 hre
            go_wp2_with fail
            obtain ⟨gk, hgk, hgk2⟩ := HK.out.here HD4.out.frame
            refine (reopen_D HD4.out _ K gk hgk hgk2 (by omega)).mono ?_
            rintro e w5 ⟨rfl, hd5⟩
            have HD5 := Lib.hid hd5; clear hd5
            go_wp2_with fail
            refine (read_D HD5.out k).mono ?_
            rintro e w6 ⟨v6, g6, rfl, hb6, hg6, hf6, hv6, _⟩
            obtain ⟨rfl, hb6'⟩ := hv6 HFI.out.1
            rw [HFI.out.1]
            have HD6 := Lib.hid (HD5.out.fr hf6); have HB6 := Lib.hid hb6'
            clear hf6 hv6 hb6 hg6 hb6'
            cases b with
            | true =>
              go_wp2_with fail
              go_quiet (fail)
              go_wp2
              go_ret
              exact ⟨rfl, HD6.out.frame.drewN _⟩
            | false =>
              have hx : BytesAt w6 (.slice (some ⟨g6, 0, none⟩) a.length 64) a g6 := by
                refine ⟨_, 64, 0, rfl, by omega, fun _ => ⟨rfl, fun j u hu => ?_⟩⟩
                rw [Nat.zero_add]
                refine HB6.out.at_ ?_
                have hj : j < a.length := by have := (List.getElem?_eq_some_iff.1 hu).1; rwa [bcells_len] at this
                have e := HFI.out.2 rfl
                rw [← e, bcells_take, List.getElem?_take, if_pos hj] at hu
                exact hu
              obtain ⟨ga, hga, _⟩ := HA.out.here HD6.out.frame
              have k1 := fun nq : Nat => run_string_of (P := Try.prog) (dst := 9) Try.underlying22 Try.underlying5 Try.underlying9 (hx.fr ((Fr.refl [] w6).drewN nq) (by simp))
              have k2 := fun nq : Nat => run_string_of (P := Try.prog) (dst := 9) Try.underlying22 Try.underlying5 Try.underlying9 (hga.fr ((Fr.refl [] w6).drewN nq) (by simp))
              clear hx hga
              go_wp2_with fail
              go_quiet (fail)
              go_wp2
              go_ret
              exact ⟨rfl, HD6.out.frame.drewN _⟩

end Go.Proofs.Ytbgcbikgjedkkaa
