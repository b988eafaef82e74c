/-
  Joined by join.py: Yo
-/
import Derived.Laws.BitsLemmas
import Derived.Test.YtpjbdpepofnleaaGreatJrg25
section
namespace Go.Proofs.YtpjbdpepofnleaaGreat
open Go.RowKit Go.ChangeMaps Go.MapKept Go.Maps Go.Sort Go.Shelf
theorem mod256 (n : Nat) (h : n < 100000) : bits .and .i64 (n : Int) 255 = ((n % 256 : Nat) : Int) := by
  have := bits_mask .i64 62 (by decide) (fun n h0 h1 => by rw [IntKind.wrap_i64]; omega) 8 (by decide) (n : Int) (by omega) (by omega)
  rw [show (2 : Int) ^ 8 - 1 = 255 from rfl, show (2 : Int) ^ 8 = 256 from rfl] at this
  rw [this]
  omega
theorem del_only {w0 w w' : World} {dk g st t : Nat} {s : PS} {X : Nat → Prop} {E : En} {key : Ky} {e : Ending} {n : Nat} (h : DelEnd w0 dk g st s X (only t E) t key w e w') (hn : s.n = n) (hfew : 2 * E.length < n) :
    ∃ s', e = .returned (.tuple #[.bool (hasE E key), .int .i64 0]) ∧ s'.n = n ∧ StX w0 w' dk g st s' X (only t (delE E key)) := by
  obtain ⟨s', hw, _, ⟨he, hs⟩ | ⟨_, _, _, hful⟩⟩ := h
  · rw [only_at, only_put] at hs
    rw [only_at] at he
    exact ⟨s', he, by rw [hw.same.n, hn], hs⟩
  · rw [only_at, only_rest] at hful
    have := delE_len E key
    simp only [List.length_nil] at hful
    omega
theorem num_of {m c i : Nat} (hm : m ≤ 127) (hi : i < 256) (hc : c < 256) : ∃ q a : Nat, a = atN m c i ∧ a < 256 ∧ IntKind.i64.wrap (2 * (m : Int)) = 2 * (m : Int) ∧ IntKind.i64.wrap (2 * (m : Int) + 1) = 2 * (m : Int) + 1 ∧
    IntKind.i64.wrap ((i : Int) * (2 * (m : Int) + 1)) = (q : Int) ∧ IntKind.i64.wrap ((q : Int) + (c : Int)) = (q : Int) + (c : Int) ∧ bits .and .i64 ((q : Int) + (c : Int)) 255 = (a : Int) ∧ IntKind.u8.wrap (a : Int) = ((UInt8.ofNat a).toNat : Int) := by
  have hb : i * (2 * m + 1) ≤ 255 * 255 := Nat.mul_le_mul (by omega) (by omega)
  have hz : (i : Int) * (2 * (m : Int) + 1) = ((i * (2 * m + 1) : Nat) : Int) := by push_cast; rfl
  have h256 := at_lt m c i
  refine ⟨i * (2 * m + 1), atN m c i, rfl, h256, by rw [IntKind.wrap_i64]; omega, by rw [IntKind.wrap_i64]; omega, by rw [hz, IntKind.wrap_i64]; omega, by rw [IntKind.wrap_i64]; omega, ?_, by rw [IntKind.wrap_u8, UInt8.toNat_ofNat']; omega⟩
  have := mod256 (i * (2 * m + 1) + c) (by omega)
  rw [Int.natCast_add] at this
  exact this
set_option maxRecDepth 100000 in
set_option maxHeartbeats 16000000 in
theorem grows_walk (W : World) (n by_ back long : Int) : Calls Tryz.prog 6 #[.int .i64 n, .int .i64 by_, .int .i64 back, .int .i64 long] W fun e w' => e = .returned (.bool true) ∧ Fr [] W w' := by
  obtain ⟨k, hk, hnk⟩ := and_mask n 255 (by omega)
  obtain ⟨m, hm, hbm⟩ := and_mask by_ 127 (by omega)
  obtain ⟨m2, hm2, hbm2⟩ := and_mask back 127 (by omega)
  obtain ⟨p, hp, hlp⟩ := and_mask long 63 (by omega)
  have hnk' : bits .and .i64 n 255 = (k : Int) := hnk
  have hbm' : bits .and .i64 by_ 127 = (m : Int) := hbm
  have hbm2' : bits .and .i64 back 127 = (m2 : Int) := hbm2
  have HLP : Hid (bits .and .i64 long 63 = (p : Int)) := Lib.hid hlp
  have HK := Lib.hid hk; have HM1 := Lib.hid hm; have HM2 := Lib.hid hm2; have HP := Lib.hid hp
  clear hnk hbm hbm2 hlp hk hm hm2 hp
  refine calls_post fun R hq => ?_
  have HQ := Lib.hid hq
  clear hq
  go_enter Tryz.func6, Tryz.ntmps6
  go_wp2_with fail
  refine (awake10 W).mono ?_
  rintro e w1 ⟨rfl, hf1⟩
  have HF1 := Lib.hid hf1
  clear hf1
  go_wp2_with fail
  refine (made_X w1 (n := 600) (by omega) (by omega)).mono ?_
  rintro e w2 ⟨dk, g, st, s, X, rfl, hmd⟩
  have HMD := Lib.hid hmd
  clear hmd
  go_wp2_with fail
  go_loopw [13] (fun v13 wr => ∃ (i : Nat) (s' : PS) (E : En) (X' : Nat → Prop), i ≤ k ∧ v13 = .int .i64 (i : Int) ∧ StX w1 wr dk g st s' X' (only 1 E) ∧ s'.n = 600 ∧ Gr p E (atsN m 7 i)) (fun v13 _ => k - (intOf v13).toNat)
  case atStart => exact ⟨0, s, [], X, Nat.zero_le _, rfl, by rw [only_nil]; exact HMD.out.st, HMD.out.n, Gr.nil p⟩
  case round =>
    rename World => wl
    obtain ⟨i, s', E, X', hil, rfl, hst, hn, hgr⟩ := hrel
    have ST := Lib.hid hst; have HN := Lib.hid hn; have HGR := Lib.hid hgr
    clear hst hn hgr
    have HLEN : Hid (E.length = i) := Lib.hid (by rw [HGR.out.len, ats_len])
    by_cases hi : i < k
    · have hi256 : i < 256 := by have := HK.out; omega
      obtain ⟨q, a, ha, ha256, hw1, hw2, hw3, hw4, hw5, hu8⟩ := num_of (c := 7) HM1.out hi256 (by omega)
      simp only [Int.cast_ofNat_Int] at hw4 hw5
      have HA := Lib.hid ha
      obtain ⟨bi, hbi⟩ : ∃ bi, bi = UInt8.ofNat a := ⟨_, rfl⟩
      rw [← hbi] at hu8
      have HBI := Lib.hid hbi
      have HKY := Lib.hid (key_any wl a ha256 long p HLP.out HP.out)
      have HI256 := Lib.hid hi256; have HA256 := Lib.hid ha256
      have hwi : IntKind.i64.wrap ((i : Int) + 1) = (i : Int) + 1 := by rw [IntKind.wrap_i64]; omega
      clear ha hbi hi256 ha256
      go_wp2_with fail
      refine HKY.out.mono ?_
      rintro e wk ⟨rfl, hby, hsz, hfk⟩
      have HBY := Lib.hid hby; have HSZ := Lib.hid hsz; have HFK := Lib.hid hfk
      clear hby hsz hfk HKY
      go_wp2_with fail
      have hfa : Fr [] wk (wk.alloc (.cells #[.int .u8 (bi.toNat : Int)] 5)) := (Fr.refl [] wk).alloc _
      have hba : BytesAt (wk.alloc (.cells #[.int .u8 (bi.toNat : Int)] 5)) (.slice (some ⟨wk.heap.size, 0, none⟩) 1 1) [bi] wk.heap.size := bytes_mark (w := wk) (C := [bi]) _ rfl
      have hza : (wk.alloc (.cells #[.int .u8 (bi.toNat : Int)] 5)).heap.size = wk.heap.size + 1 := by rw [World.size_alloc]
      generalize wk.alloc (.cells #[.int .u8 (bi.toNat : Int)] 5) = wv at *
      have SV := Lib.hid (ST.out.fr (HFK.out.trans hfa (by simp)))
      have HPT := Lib.hid (Put_X SV.out (t := 1) (by omega) (HBY.out.fr hfa (by simp)) (.inr ⟨Nat.le_refl _, by have := HSZ.out; omega⟩) hba (.inr ⟨by have := HSZ.out; omega, by omega⟩) (by rw [keyB_len]; omega) (by rw [keyB_len]; have := HP.out; omega) (by simp) (by rw [only_at]; have := HLEN.out; have := HI256.out; omega))
      clear hfa hba hza
      refine HPT.out.mono ?_
      rintro e w4 hend
      obtain ⟨s4, rfl, hn4, h4⟩ := put_only hend HN.out (by have := HLEN.out; have := HI256.out; omega)
      have HX : Hid (∃ (j : Nat) (s' : PS) (E : En) (X' : Nat → Prop), j ≤ k ∧ Value.int .i64 ((i : Int) + 1) = .int .i64 (j : Int) ∧ StX w1 w4 dk g st s' X' (only 1 E) ∧ s'.n = 600 ∧ Gr p E (atsN m 7 j)) := Lib.hid ⟨i + 1, s4, _, _, hi, rfl, h4, hn4, by rw [HBI.out, HA.out]; exact HGR.out.step HM1.out HI256.out⟩
      clear hend h4 hn4 HPT hw1 hw2 hw3 hw4 hw5
      go_wp2_with fail
      go_roundw
      case rel => exact HX.out
      case measure => simp [intOf]; omega
    · have hik : i = k := by omega
      subst hik
      have hlen := HLEN.out
      clear HLEN hil hi
      subst hlen
      have hkk : ¬ (E.length : Int) < (E.length : Int) := by omega
      have HRG := Lib.hid (Range_X ST.out (t := 1) (up := none) (most := 1000) (low := []) (by omega) (BytesAt.nil _ st) ST.out.xs rfl (by omega) (by rw [only_at]; have := HK.out; omega))
      go_wp2_with fail
      refine HRG.out.mono ?_
      rintro e wm hend
      obtain ⟨F, A, c, hF, rfl, hrow, hfm⟩ := range_row hend HGR.out.rise
      have hFE : F = E := by rw [hF, inB_all, List.take_of_length_le (by have := HK.out; omega)]
      clear hF
      subst hFE
      have HROW := Lib.hid hrow; have FM := Lib.hid hfm
      have HCK := Lib.hid (Check_X (ST.out.stay FM.out) (t := 1) (by omega) (by rw [only_at]; have := HK.out; omega))
      clear hend hrow hfm HRG
      go_wp2_with fail
      refine HCK.out.mono ?_
      rintro e wc ⟨rfl, hfc⟩
      have FC := Lib.hid (FM.out.trans hfc (by simp))
      have SL := Lib.hid (HROW.out.sl.fr hfc)
      clear hfc HCK HROW
      go_wp2_with fail
      go_loopw [17] (fun v17 wr => ∃ j : Nat, v17 = .int .i64 (((j + 1 : Nat)) : Int) ∧ Fr [] wc wr) (fun v17 _ => F.length - (intOf v17).toNat)
      case atStart => exact ⟨0, rfl, Fr.refl _ _⟩
      case round =>
        rename World => wr
        obtain ⟨j, rfl, hfr⟩ := hrel
        have FR := Lib.hid hfr
        clear hfr
        by_cases hj : j + 1 < F.length
        · obtain ⟨a, b, hab, hb, h1, h2⟩ := HGR.out.next hj
          obtain ⟨Ae, ce, hsh, _, hel⟩ := SL.out
          injection hsh with hA _ hc
          obtain ⟨g', off, hA2, hcell⟩ := hel (by omega)
          rw [hA2] at hA
          subst hA
          obtain ⟨kv0, _, c0, _, ⟨q0, b0⟩, _⟩ := hcell j _ h1
          obtain ⟨kv1, vv1, c1, c2, ⟨q1, b1⟩, ⟨q2, b2⟩⟩ := hcell (j + 1) _ h2
          obtain ⟨A0, n0, o0, rfl, _, hb0⟩ := b0
          obtain ⟨A1, n1, o1, rfl, _, hb1⟩ := b1
          obtain ⟨A2, n2, o2, rfl, _, hb2⟩ := b2
          simp only [keyB_len] at c0 c1 hb0 hb1
          obtain ⟨rfl, hc0⟩ := hb0 (by omega)
          obtain ⟨rfl, hc1⟩ := hb1 (by omega)
          obtain ⟨rfl, hc2⟩ := hb2 (by simp)
          have e0 := hc0 1 (.int .u8 (a : Int)) (by simp [bcells, keyB, B8]; omega)
          have e1 := hc1 1 (.int .u8 (b : Int)) (by simp [bcells, keyB, B8]; omega)
          have e2 := hc2 0 (.int .u8 (b : Int)) (by simp [bcells, B8]; omega)
          rw [Nat.add_zero] at e2
          simp only [List.length_singleton] at c2
          have hfd : Fr [] wc wr.drew := FR.out.drew
          have k0 := fr_keep hfd c0
          have k1 := fr_keep hfd c1
          have k2 := fr_keep hfd c2
          have f0 := fr_keep hfd e0
          have f1 := fr_keep hfd e1
          have f2 := fr_keep hfd e2
          have FD := Lib.hid hfd; have HAB := Lib.hid hab
          have hjI : (j : Int) + 1 < (F.length : Int) := by omega
          have hjb : j < F.length := by omega
          have hwj : IntKind.i64.wrap (j : Int) = (j : Int) := by have := HK.out; rw [IntKind.wrap_i64]; omega
          have hwk : IntKind.i64.wrap ((j : Int) + 1 + 1) = (j : Int) + 1 + 1 := by have := HK.out; rw [IntKind.wrap_i64]; omega
          have h0j : (0 : Int) ≤ (j : Int) + 1 := by omega
          have h2p : (1 : Int) < (p : Int) + 2 := by omega
          clear c0 c1 c2 e0 e1 e2 hb0 hb1 hb2 hc0 hc1 hc2 hcell hel hc hA2 h1 h2 hab hb hfd
          go_upto_region 16 with fail
          refine wp_region_K (fun W' => W'.cell? ⟨g', off + j * 2, none⟩ = some (.slice (some ⟨q0, o0, none⟩) (p + 2) n0) ∧ W'.cell? ⟨q0, o0 + 1, none⟩ = some (.int .u8 (a : Int)) ∧ W'.cell? ⟨g', off + (j + 1) * 2, none⟩ = some (.slice (some ⟨q1, o1, none⟩) (p + 2) n1) ∧ W'.cell? ⟨q1, o1 + 1, none⟩ = some (.int .u8 (b : Int)) ∧ W'.cell? ⟨g', off + (j + 1) * 2 + 1, none⟩ = some (.slice (some ⟨q2, o2, none⟩) 1 n2) ∧ W'.cell? ⟨q2, o2, none⟩ = some (.int .u8 (b : Int))) [0, 1, 2, 3, 4, 5, 6, 7, 8, 9, 10, 11, 12, 13, 14, 15, 16, 17, 18, 19, 20, 21, 22, 23, 24, 25, 26, 27, 28, 29, 30, 31, 32] (by kernel_rfl) ?_
          refine wpAnyK_take (i := 0) (some 78) ?vq1_0 rfl rfl (by kernel_rfl) (fun _ _ _ h => h) ⟨k0, f0, k1, f1, k2, f2⟩ (.inl ⟨rfl, fun W hW => ?yq1_0⟩) ?_
          case yq1_0 => (obtain ⟨y0, y1, y2, y3, y4, y5⟩ := hW; go_simp) <;> with_reducible rfl
          simp only [nrm]
          refine wpAnyK_take (i := 1) (some 79) ?vq1_1 rfl rfl (by kernel_rfl) (fun _ _ _ h => h) ⟨k0, f0, k1, f1, k2, f2⟩ (.inl ⟨rfl, fun W hW => ?yq1_1⟩) ?_
          case yq1_1 => (obtain ⟨y0, y1, y2, y3, y4, y5⟩ := hW; go_simp) <;> with_reducible rfl
          simp only [nrm]
          refine wpAnyK_take (i := 2) (some 80) ?vq1_2 rfl rfl (by kernel_rfl) (fun _ _ _ h => h) ⟨k0, f0, k1, f1, k2, f2⟩ (.inl ⟨rfl, fun W hW => ?yq1_2⟩) ?_
          case yq1_2 => (obtain ⟨y0, y1, y2, y3, y4, y5⟩ := hW; go_simp) <;> with_reducible rfl
          simp only [nrm]
          refine wpAnyK_take (i := 3) (some 81) ?vq1_3 rfl rfl (by kernel_rfl) (fun _ _ _ h => h) ⟨k0, f0, k1, f1, k2, f2⟩ (.inl ⟨rfl, fun W hW => ?yq1_3⟩) ?_
          case yq1_3 => (obtain ⟨y0, y1, y2, y3, y4, y5⟩ := hW; go_simp) <;> with_reducible rfl
          simp only [nrm]
          refine wpAnyK_take (i := 4) (some 82) ?vq1_4 rfl rfl (by kernel_rfl) (fun _ _ _ h => h) ⟨k0, f0, k1, f1, k2, f2⟩ (.inl ⟨rfl, fun W hW => ?yq1_4⟩) ?_
          case yq1_4 => (obtain ⟨y0, y1, y2, y3, y4, y5⟩ := hW; go_simp) <;> with_reducible rfl
          simp only [nrm]
          refine wpAnyK_take (i := 5) (some 83) ?vq1_5 rfl rfl (by kernel_rfl) (fun _ _ _ h => h) ⟨k0, f0, k1, f1, k2, f2⟩ (.inl ⟨rfl, fun W hW => ?yq1_5⟩) ?_
          case yq1_5 => (obtain ⟨y0, y1, y2, y3, y4, y5⟩ := hW; go_simp) <;> with_reducible rfl
          simp only [nrm]
          refine wpAnyK_take (i := 6) (some 84) ?vq1_6 rfl rfl (by kernel_rfl) (fun _ _ _ h => h) ⟨k0, f0, k1, f1, k2, f2⟩ (.inl ⟨rfl, fun W hW => ?yq1_6⟩) ?_
          case yq1_6 => (obtain ⟨y0, y1, y2, y3, y4, y5⟩ := hW; go_simp) <;> with_reducible rfl
          simp only [nrm]
          refine wpAnyK_take (i := 7) (some 85) ?vq1_7 rfl rfl (by kernel_rfl) (fun _ _ _ h => h) ⟨k0, f0, k1, f1, k2, f2⟩ (.inl ⟨rfl, fun W hW => ?yq1_7⟩) ?_
          case yq1_7 => (obtain ⟨y0, y1, y2, y3, y4, y5⟩ := hW; go_simp) <;> with_reducible rfl
          simp only [nrm]
          refine wpAnyK_take (i := 8) (some 86) ?vq1_8 rfl rfl (by kernel_rfl) (fun _ _ _ h => h) ⟨k0, f0, k1, f1, k2, f2⟩ (.inl ⟨rfl, fun W hW => ?yq1_8⟩) ?_
          case yq1_8 => (obtain ⟨y0, y1, y2, y3, y4, y5⟩ := hW; go_simp) <;> with_reducible rfl
          simp only [nrm]
          refine wpAnyK_take (i := 9) (some 87) ?vq1_9 rfl rfl (by kernel_rfl) (fun _ _ _ h => h) ⟨k0, f0, k1, f1, k2, f2⟩ (.inl ⟨rfl, fun W hW => ?yq1_9⟩) ?_
          case yq1_9 => (obtain ⟨y0, y1, y2, y3, y4, y5⟩ := hW; go_simp) <;> with_reducible rfl
          simp only [nrm]
          refine wpAnyK_take (i := 10) (some 88) ?vq1_10 rfl rfl (by kernel_rfl) (fun _ _ _ h => h) ⟨k0, f0, k1, f1, k2, f2⟩ (.inl ⟨rfl, fun W hW => ?yq1_10⟩) ?_
          case yq1_10 => (obtain ⟨y0, y1, y2, y3, y4, y5⟩ := hW; go_simp) <;> with_reducible rfl
          simp only [nrm]
          refine wpAnyK_take (i := 11) (some 89) ?vq1_11 rfl rfl (by kernel_rfl) (fun _ _ _ h => h) ⟨k0, f0, k1, f1, k2, f2⟩ (.inl ⟨rfl, fun W hW => ?yq1_11⟩) ?_
          case yq1_11 => (obtain ⟨y0, y1, y2, y3, y4, y5⟩ := hW; go_simp) <;> with_reducible rfl
          simp only [nrm]
          refine wpAnyK_take (i := 12) (some 90) ?vq1_12 rfl rfl (by kernel_rfl) (fun _ _ _ h => h) ⟨k0, f0, k1, f1, k2, f2⟩ (.inl ⟨rfl, fun W hW => ?yq1_12⟩) ?_
          case yq1_12 => (obtain ⟨y0, y1, y2, y3, y4, y5⟩ := hW; go_simp) <;> with_reducible rfl
          simp only [nrm]
          refine wpAnyK_take (i := 13) (some 91) ?vq1_13 rfl rfl (by kernel_rfl) (fun _ _ _ h => h) ⟨k0, f0, k1, f1, k2, f2⟩ (.inl ⟨rfl, fun W hW => ?yq1_13⟩) ?_
          case yq1_13 => (obtain ⟨y0, y1, y2, y3, y4, y5⟩ := hW; go_simp) <;> with_reducible rfl
          simp only [nrm]
          refine wpAnyK_take (i := 14) (some 92) ?vq1_14 rfl rfl (by kernel_rfl) (fun _ _ _ h => h) ⟨k0, f0, k1, f1, k2, f2⟩ (.inl ⟨rfl, fun W hW => ?yq1_14⟩) ?_
          case yq1_14 => (obtain ⟨y0, y1, y2, y3, y4, y5⟩ := hW; go_simp) <;> with_reducible rfl
          simp only [nrm]
          refine wpAnyK_take (i := 15) (some 93) (.bool false) rfl rfl (by kernel_rfl) (fun _ _ _ h => h) ⟨k0, f0, k1, f1, k2, f2⟩ (.inl ⟨rfl, fun W' _ => by have := HAB.out; simp [execOp, Act.eval, go_sem]; omega⟩) ?_
          simp only [nrm]
          refine wpAnyK_take (i := 16) (some 94) ?vq1_16 rfl rfl (by kernel_rfl) (fun _ _ _ h => h) ⟨k0, f0, k1, f1, k2, f2⟩ (.inl ⟨rfl, fun W hW => ?yq1_16⟩) ?_
          case yq1_16 => (obtain ⟨y0, y1, y2, y3, y4, y5⟩ := hW; go_simp) <;> with_reducible rfl
          simp only [nrm]
          refine wpAnyK_take (i := 17) (some 95) ?vq1_17 rfl rfl (by kernel_rfl) (fun _ _ _ h => h) ⟨k0, f0, k1, f1, k2, f2⟩ (.inl ⟨rfl, fun W hW => ?yq1_17⟩) ?_
          case yq1_17 => (obtain ⟨y0, y1, y2, y3, y4, y5⟩ := hW; go_simp) <;> with_reducible rfl
          simp only [nrm]
          refine wpAnyK_take (i := 18) (some 96) ?vq1_18 rfl rfl (by kernel_rfl) (fun _ _ _ h => h) ⟨k0, f0, k1, f1, k2, f2⟩ (.inl ⟨rfl, fun W hW => ?yq1_18⟩) ?_
          case yq1_18 => (obtain ⟨y0, y1, y2, y3, y4, y5⟩ := hW; go_simp) <;> with_reducible rfl
          simp only [nrm]
          refine wpAnyK_take (i := 19) (some 97) ?vq1_19 rfl rfl (by kernel_rfl) (fun _ _ _ h => h) ⟨k0, f0, k1, f1, k2, f2⟩ (.inl ⟨rfl, fun W hW => ?yq1_19⟩) ?_
          case yq1_19 => (obtain ⟨y0, y1, y2, y3, y4, y5⟩ := hW; go_simp) <;> with_reducible rfl
          simp only [nrm]
          refine wpAnyK_take (i := 20) (some 98) ?vq1_20 rfl rfl (by kernel_rfl) (fun _ _ _ h => h) ⟨k0, f0, k1, f1, k2, f2⟩ (.inl ⟨rfl, fun W hW => ?yq1_20⟩) ?_
          case yq1_20 => (obtain ⟨y0, y1, y2, y3, y4, y5⟩ := hW; go_simp) <;> with_reducible rfl
          simp only [nrm]
          refine wpAnyK_take (i := 21) (some 99) ?vq1_21 rfl rfl (by kernel_rfl) (fun _ _ _ h => h) ⟨k0, f0, k1, f1, k2, f2⟩ (.inl ⟨rfl, fun W hW => ?yq1_21⟩) ?_
          case yq1_21 => (obtain ⟨y0, y1, y2, y3, y4, y5⟩ := hW; go_simp) <;> with_reducible rfl
          simp only [nrm]
          refine wpAnyK_take (i := 22) (some 100) ?vq1_22 rfl rfl (by kernel_rfl) (fun _ _ _ h => h) ⟨k0, f0, k1, f1, k2, f2⟩ (.inl ⟨rfl, fun W hW => ?yq1_22⟩) ?_
          case yq1_22 => (obtain ⟨y0, y1, y2, y3, y4, y5⟩ := hW; go_simp) <;> with_reducible rfl
          simp only [nrm]
          refine wpAnyK_take (i := 23) (some 101) ?vq1_23 rfl rfl (by kernel_rfl) (fun _ _ _ h => h) ⟨k0, f0, k1, f1, k2, f2⟩ (.inl ⟨rfl, fun W hW => ?yq1_23⟩) ?_
          case yq1_23 => (obtain ⟨y0, y1, y2, y3, y4, y5⟩ := hW; go_simp) <;> with_reducible rfl
          simp only [nrm]
          refine wpAnyK_take (i := 24) (some 102) ?vq1_24 rfl rfl (by kernel_rfl) (fun _ _ _ h => h) ⟨k0, f0, k1, f1, k2, f2⟩ (.inl ⟨rfl, fun W hW => ?yq1_24⟩) ?_
          case yq1_24 => (obtain ⟨y0, y1, y2, y3, y4, y5⟩ := hW; go_simp) <;> with_reducible rfl
          simp only [nrm]
          refine wpAnyK_take (i := 25) (some 103) ?vq1_25 rfl rfl (by kernel_rfl) (fun _ _ _ h => h) ⟨k0, f0, k1, f1, k2, f2⟩ (.inl ⟨rfl, fun W hW => ?yq1_25⟩) ?_
          case yq1_25 => (obtain ⟨y0, y1, y2, y3, y4, y5⟩ := hW; go_simp) <;> with_reducible rfl
          simp only [nrm]
          refine wpAnyK_take (i := 26) (some 104) ?vq1_26 rfl rfl (by kernel_rfl) (fun _ _ _ h => h) ⟨k0, f0, k1, f1, k2, f2⟩ (.inl ⟨rfl, fun W hW => ?yq1_26⟩) ?_
          case yq1_26 => (obtain ⟨y0, y1, y2, y3, y4, y5⟩ := hW; go_simp) <;> with_reducible rfl
          simp only [nrm]
          refine wpAnyK_take (i := 27) (some 105) ?vq1_27 rfl rfl (by kernel_rfl) (fun _ _ _ h => h) ⟨k0, f0, k1, f1, k2, f2⟩ (.inl ⟨rfl, fun W hW => ?yq1_27⟩) ?_
          case yq1_27 => (obtain ⟨y0, y1, y2, y3, y4, y5⟩ := hW; go_simp) <;> with_reducible rfl
          simp only [nrm]
          refine wpAnyK_take (i := 28) (some 106) ?vq1_28 rfl rfl (by kernel_rfl) (fun _ _ _ h => h) ⟨k0, f0, k1, f1, k2, f2⟩ (.inl ⟨rfl, fun W hW => ?yq1_28⟩) ?_
          case yq1_28 => (obtain ⟨y0, y1, y2, y3, y4, y5⟩ := hW; go_simp) <;> with_reducible rfl
          simp only [nrm]
          refine wpAnyK_take (i := 29) (some 107) ?vq1_29 rfl rfl (by kernel_rfl) (fun _ _ _ h => h) ⟨k0, f0, k1, f1, k2, f2⟩ (.inl ⟨rfl, fun W hW => ?yq1_29⟩) ?_
          case yq1_29 => (obtain ⟨y0, y1, y2, y3, y4, y5⟩ := hW; go_simp) <;> with_reducible rfl
          simp only [nrm]
          refine wpAnyK_take (i := 30) (some 108) ?vq1_30 rfl rfl (by kernel_rfl) (fun _ _ _ h => h) ⟨k0, f0, k1, f1, k2, f2⟩ (.inl ⟨rfl, fun W hW => ?yq1_30⟩) ?_
          case yq1_30 => (obtain ⟨y0, y1, y2, y3, y4, y5⟩ := hW; go_simp) <;> with_reducible rfl
          simp only [nrm]
          refine wpAnyK_take (i := 31) (some 109) (.bool false) rfl rfl (by kernel_rfl) (fun _ _ _ h => h) ⟨k0, f0, k1, f1, k2, f2⟩ (.inl ⟨rfl, fun W' _ => by simp [execOp, Act.eval, go_sem]⟩) ?_
          simp only [nrm]
          refine wpAnyK_take (i := 32) (some 110) ?vq1_32 rfl rfl (by kernel_rfl) (fun _ _ _ h => h) ⟨k0, f0, k1, f1, k2, f2⟩ (.inl ⟨rfl, fun W hW => ?yq1_32⟩) ?_
          case yq1_32 => (obtain ⟨y0, y1, y2, y3, y4, y5⟩ := hW; go_simp) <;> with_reducible rfl
          simp only [nrm]
          refine wpAnyK_done (by kernel_rfl) ?_ _
          have HX : Hid (∃ j' : Nat, Value.int .i64 ((j : Int) + 1 + 1) = .int .i64 (((j' + 1 : Nat)) : Int) ∧ Fr [] wc wr.drew) := Lib.hid ⟨j + 1, rfl, FD.out⟩
          clear k0 k1 k2 f0 f1 f2
          go_wp2_with fail
          go_roundw
          case rel => exact HX.out
          case measure => simp [intOf]; omega
        · have hjI : ¬ (j : Int) + 1 < (F.length : Int) := by omega
          have FCR := Lib.hid (FC.out.trans FR.out (by simp))
          clear SL
          go_wp2_with fail
          go_loopw [18] (fun v18 wx => ∃ (i : Nat) (s' : PS) (X' : Nat → Prop), i ≤ 256 ∧ v18 = .int .i64 (i : Int) ∧ StX w1 wx dk g st s' X' (only 1 (lessN p m2 i F)) ∧ s'.n = 600) (fun v18 _ => 256 - (intOf v18).toNat)
          case atStart => exact ⟨0, s', X', by omega, rfl, by rw [lessN_zero]; exact ST.out.stay FCR.out, HN.out⟩
          case round =>
            rename World => wx
            obtain ⟨i, s5, X5, hil, rfl, hst5, hn5⟩ := hrel
            have S5 := Lib.hid hst5; have N5 := Lib.hid hn5
            clear hst5 hn5
            have HLL : Hid ((lessN p m2 i F).length ≤ 255) := Lib.hid (by have := lessN_len p m2 i F; have := HK.out; omega)
            by_cases hi : i < 256
            · have hiI : (i : Int) < 256 := by omega
              obtain ⟨q, a, ha, ha256, hw1, hw2, hw3, hw4, hw5, -⟩ := num_of (c := 3) HM2.out hi (by omega)
              simp only [Int.cast_ofNat_Int] at hw4 hw5
              have HA := Lib.hid ha; have HA256 := Lib.hid ha256
              have HKY := Lib.hid (key_any wx a ha256 long p HLP.out HP.out)
              have hwi : IntKind.i64.wrap ((i : Int) + 1) = (i : Int) + 1 := by rw [IntKind.wrap_i64]; omega
              clear ha ha256
              go_wp2_with fail
              refine HKY.out.mono ?_
              rintro e wk ⟨rfl, hby, hsz, hfk⟩
              have SK := Lib.hid (S5.out.fr hfk)
              have HGT := Lib.hid (Get_X SK.out (t := 1) (by omega) hby (.inr ⟨Nat.le_refl _, by omega⟩) (by rw [keyB_len]; omega) (by rw [keyB_len]; have := HP.out; omega) (by rw [only_at]; have := HLL.out; omega))
              clear hby hsz hfk HKY
              go_wp2_with fail
              refine HGT.out.mono ?_
              rintro e wg ⟨vg, rfl, -, hfg⟩
              rw [only_at, get_has]
              have SG := Lib.hid (SK.out.stay hfg)
              have HKY := Lib.hid (key_any wg a HA256.out long p HLP.out HP.out)
              clear hfg HGT
              go_wp2_with fail
              refine HKY.out.mono ?_
              rintro e wy ⟨rfl, hby, hsz, hfk⟩
              have HDL := Lib.hid (Delete_X (SG.out.fr hfk) (t := 1) (by omega) hby (.inr ⟨Nat.le_refl _, by omega⟩) (by rw [keyB_len]; omega) (by rw [keyB_len]; have := HP.out; omega) (by rw [only_at]; have := HLL.out; omega))
              clear hby hsz hfk HKY
              go_wp2_with fail
              refine HDL.out.mono ?_
              rintro e wd hend
              obtain ⟨s6, rfl, hn6, h6⟩ := del_only hend N5.out (by have := HLL.out; omega)
              rw [HA.out, ← lessN_succ] at h6
              have S6 := Lib.hid h6; have N6 := Lib.hid hn6
              have HCK := Lib.hid (Check_X S6.out (t := 1) (by omega) (by rw [only_at]; have := lessN_len p m2 (i + 1) F; have := HK.out; omega))
              generalize hasE (lessN p m2 i F) (keyB p a) = bb at *
              clear hend h6 hn6 HDL
              go_wp2_with fail
              refine HCK.out.mono ?_
              rintro e wz ⟨rfl, hfz⟩
              have HX : Hid (∃ (j : Nat) (s' : PS) (X' : Nat → Prop), j ≤ 256 ∧ Value.int .i64 ((i : Int) + 1) = .int .i64 (j : Int) ∧ StX w1 wz dk g st s' X' (only 1 (lessN p m2 j F)) ∧ s'.n = 600) := Lib.hid ⟨i + 1, s6, _, hi, rfl, S6.out.stay hfz, N6.out⟩
              clear hfz HCK hw1 hw2 hw3 hw4 hw5
              go_wp2_with fail
              go_roundw
              case rel => exact HX.out
              case measure => simp [intOf]; omega
            · have hi6 : i = 256 := by omega
              subst hi6
              rw [HGR.out.less HM2.out, only_nil] at S5
              have HUS := Lib.hid (Used_X S5.out fun _ _ => rfl)
              go_wp2_with fail
              refine HUS.out.mono ?_
              rintro e wu ⟨rfl, hfu⟩
              have HHT := Lib.hid (Height_X (S5.out.stay hfu) (t := 1) (by omega) (by simp))
              have FU := Lib.hid hfu
              clear hfu HUS
              go_wp2_with fail
              refine HHT.out.mono ?_
              rintro e we ⟨mh, rfl, hfe, hm0, _⟩
              obtain rfl : mh = 0 := hm0.2 trivial
              have HX := Lib.hid (HQ.out (.returned (.bool true)) we ⟨rfl, HF1.out.trans (S5.out.px.frame.trans (FU.out.trans hfe (by simp)) (by simp)) (by simp)⟩)
              clear hfe hm0 HHT
              go_wp2_with fail
              exact HX.out
end Go.Proofs.YtpjbdpepofnleaaGreat
end
