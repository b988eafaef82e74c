/-
  Joined by join.py: Qu Qv Qw
-/
import Derived.Test.YtpjbdpepofnleaaGreatJrg21
section
namespace Go.Proofs.YtpjbdpepofnleaaGreat
open Go.RowKit Go.ChangeMaps Go.MapKept Go.Maps Go.Sort Go.Shelf
def KidsAt (N : Nat → Option Nd) (h : Nat) (n : Nd) (i : Nat) (hi : Option Ky) (ER : En) : Prop := ∃ lo' PR, Kids (Sub N 1 h) lo' (n.child i) (n.l.drop i) hi ER PR
theorem kidsAt_way {N : Nat → Option Nd} {h : Nat} {n : Nd} {lo hi : Option Ky} {E : En} {P : List Nat} (hk : Kids (Sub N 1 h) lo n.first n.l hi E P) (low : Ky) :
    ∃ EA ER, E = EA ++ ER ∧ (∀ e ∈ EA, klt e.1 low) ∧ KidsAt N h n (n.way low) hi ER := by
  obtain ⟨A, B, hl, hAl, hAt, hBd, hA⟩ := way_rest (n := n) low
  rw [hl] at hk
  obtain ⟨lo', EA, ER, PA, PR, rfl, rfl, h3, h4⟩ := kids_drop Sub.fine hk
  refine ⟨EA, ER, rfl, fun e he => ?_, lo', PR, ?_⟩
  · obtain ⟨x, hx, hk'⟩ := h4 e he
    exact klt_le_trans hk' (hA x hx)
  · unfold Nd.child
    rw [hAt, hBd]
    exact h3
theorem kidsAt_last {N : Nat → Option Nd} {h : Nat} {n : Nd} {hi : Option Ky} {ER : En} (hk : KidsAt N h n n.l.length hi ER) : ∃ lo' PR, Sub N 1 h (n.child n.l.length) lo' hi ER PR := by
  obtain ⟨lo', PR, h1⟩ := hk
  rw [List.drop_length] at h1
  exact ⟨lo', PR, h1⟩
theorem kidsAt_next {N : Nat → Option Nd} {h i : Nat} {n : Nd} {hi : Option Ky} {ER : En} (hk : KidsAt N h n i hi ER) (hlt : i < n.l.length) :
    ∃ lo' hi' E1 E2 P1, Sub N 1 h (n.child i) lo' hi' E1 P1 ∧ ER = E1 ++ E2 ∧ KidsAt N h n (i + 1) hi E2 := by
  obtain ⟨lo', PR, h1⟩ := hk
  obtain ⟨x, hx⟩ : ∃ x, n.l[i]? = some x := ⟨_, List.getElem?_eq_getElem hlt⟩
  rw [drop_one hx] at h1
  obtain ⟨E1, P1, E2, P2, h2, h3, rfl, rfl⟩ := h1
  refine ⟨lo', some x.key, E1, E2, P1, h2, rfl, some x.key, P2, ?_⟩
  have e : n.child (i + 1) = x.at_ := by
    unfold Nd.child
    rw [take_one hx, chOf_last]
  rw [e]
  exact h3
def WLeft (c : CD) (h : Nat) (n : Nd) (hi : Option Ky) (low : Ky) (up : Option Ky) (most : Nat) (out E : En) (i : Nat) (outi : En) : Prop :=
  (i ≤ n.l.length ∧ ∃ ER, KidsAt c.N h n i hi ER ∧ goE low up most out E = goE low up most outi ER ∧ outi.length + ER.length ≤ 1000000) ∨ (i = n.l.length + 1 ∧ goE low up most out E = (outi, true))
section
variable {w0 wS : World} {H dk g bc bn bs bw : Nat} {s : PS} {X D : Nat → Prop} {c : CD} {fv tv : Value} {low : Ky} {up : Option Ky} {most : Nat}
set_option maxRecDepth 100000 in
set_option maxHeartbeats 8000000 in
/-- A node gone over. -/
theorem walk_node (hp : PgC w0 wS dk g s X c) (he : c.e = 0) : ∀ (h f k deep : Nat) (lo hi : Option Ky) (E : En) (P : List Nat) (out : En) (ov : Value) (w : World), h < f → f + deep = 40 → Sub c.N 1 h k lo hi E P →
    Wst H wS g bc bn bs bw D c fv tv low up most out ov w → out.length + E.length ≤ 1000000 →
    Calls Tryz.prog 38 #[.pointer (some ⟨bw, 0, none⟩), .int .i64 (k : Int), .int .i64 (deep : Int)] w (WEnd H wS g bc bn bs bw D c fv tv low up most out ov w E) := by
  intro h
  induction h with
  | zero =>
    intro f k deep lo hi E P out ov w hf hfd hs hW hle
    obtain ⟨n, P', hN, hok, hsz, hm, hPP, hnf⟩ := id hs
    clear hPP
    have hfew := items_few hsz
    have hd40 : ¬ ((deep : Nat) : Int) = 40 := by omega
    have c0 := hW.bwk.at_ (i := 0) rfl
    have HNC := Lib.hid (node_ch hp hW.ch hN hW.topv)
    have W1 := Lib.hid hW; have HS := Lib.hid hs; have HN := Lib.hid hN; have HOK := Lib.hid hok; have HFEW := Lib.hid hfew; have HLE := Lib.hid hle; have HE := Lib.hid he; have HFD := Lib.hid hfd; have HF := Lib.hid hf; have HP := Lib.hid hp; have HNF := Lib.hid hnf
    clear hs hN hok hfew hle hW hsz hm hnf
    refine calls_post fun R HQ => ?_
    go_enter Tryz.func38, Tryz.ntmps38
    go_wp2_with fail
    refine HNC.out.mono ?_
    rintro e w2 ⟨nv, rfl, hnv, hf2⟩
    obtain ⟨A, ca, cs0, rfl, _⟩ := hnv.open_
    have W2 := Lib.hid (W1.out.quiet hf2); have HNV := Lib.hid (hnv.low (Nat.zero_le _)); have G2 : Hid (WFr bc bw ov w ov w2) := Lib.hid (WFr.refl.quiet hf2)
    clear hnv hf2 HNC c0
    go_wp2_with (first
      | (with_reducible refine wpList_alloc_z rfl 88 rfl (.agg #[.int .i64 0, .int .i64 0, .slice none 0 0]) znd.toArray zero_nd rfl ?_)
      | (refine wpList_store_z (W := w2) rfl 88 (.tmp 7) (.tmp 17) rfl [.int .i64 (kindOf n), .int .i64 (n.first : Int), .slice A n.l.length ca] rfl rfl rfl size_nd rfl three_cells ?_))
    intro w3 hb3 hf3 hz3
    obtain ⟨p7, hp7⟩ : ∃ p7, p7 = w2.heap.size := ⟨_, rfl⟩
    rw [← hp7] at hb3 ⊢
    have HP7 : Hid (p7 ≠ bc ∧ p7 ≠ bw ∧ ov.ownBlock ≠ some p7) := Lib.hid ⟨by have := W2.out.ch.lts.1; omega, by have := W2.out.bwk.lt; omega, fun e => by have := (W2.out.lt _ e).2; omega⟩
    have W3 := Lib.hid (W2.out.quiet hf3); have HNV3 := Lib.hid (HNV.out.fr hf3 (by simp)); have G3 := Lib.hid (G2.out.quiet hf3); have B3 := Lib.hid hb3
    clear hf3 hb3 hz3 hp7 W2 HNV G2
    have c0 := W3.out.bwk.at_ (i := 0) rfl
    go_wp2_with fail
    refine (fail_ch W3.out.ch 0).mono ?_
    rintro e w4 ⟨rfl, hc4, hf4, hz4⟩
    rw [fail0] at hc4 ⊢
    have hd : decide (c.e ≠ 0) = false := by rw [HE.out]; rfl
    rw [hd]
    have W4 := Lib.hid (W3.out.failed hf4 hc4)
    have HNV4 := Lib.hid (HNV3.out.fr hf4 fun q hq hm => absurd (List.mem_singleton.1 hm) (W3.out.nb q hq.1).2.1)
    have G4 : Hid (WFr bc bw ov w ov w4) := Lib.hid (G3.out.trans ⟨hf4.mono (by simp), fun q hq => .inl hq⟩)
    have B4 := Lib.hid (B3.out.fr hf4 (by simpa using HP7.out.1))
    clear hc4 hf4 hz4 hd W3 HNV3 G3 B3 c0
    have d0 := B4.out.at_ (i := 0) rfl
    have d1 := B4.out.at_ (i := 1) rfl
    have d2 := B4.out.at_ (i := 2) rfl
    go_wp2_with fail
    refine (leaf_nd n).mono ?_
    rintro e w5 ⟨rfl, hf5⟩
    have W5 := Lib.hid (W4.out.quiet hf5)
    have HNV5 := Lib.hid (HNV4.out.fr hf5 (by simp)); have G5 := Lib.hid (G4.out.quiet hf5); have B5 := Lib.hid (B4.out.fr hf5 (by simp))
    clear hf5 W4 HNV4 G4 B4 d0 d1 d2
    have d0 := B5.out.at_ (i := 0) rfl
    have d1 := B5.out.at_ (i := 1) rfl
    have d2 := B5.out.at_ (i := 2) rfl
    obtain ⟨hlf, hEq, _⟩ := HNF.out
    rw [hlf]
    have HWL := Lib.hid (walk_leaf W5.out HNV5.out HOK.out HFEW.out (by have := HLE.out; rw [hEq] at this; unfold entOf at this; rw [List.length_map] at this; exact this))
    have HEQ := Lib.hid hEq
    clear hlf hEq
    go_wp2_with fail
    refine HWL.out.mono ?_
    rintro e w6 ⟨ov', rfl, hW6, hG6⟩
    have HX := Lib.hid (HQ.out _ _ ⟨ov', by rw [HEQ.out], by rw [HEQ.out]; exact hW6, G5.out.trans hG6⟩)
    clear hW6 hG6
    go_wp2_with fail
    exact HX.out
  | succ h ih =>
    intro f k deep lo hi E P out ov w hf hfd hs hW hle
    obtain ⟨n, P', hN, hok, hsz, hm, hPP, hnf⟩ := id hs
    clear hPP
    have hfew := items_few hsz
    have hd40 : ¬ ((deep : Nat) : Int) = 40 := by omega
    have c0 := hW.bwk.at_ (i := 0) rfl
    have HNC := Lib.hid (node_ch hp hW.ch hN hW.topv)
    have W1 := Lib.hid hW; have HS := Lib.hid hs; have HN := Lib.hid hN; have HOK := Lib.hid hok; have HFEW := Lib.hid hfew; have HLE := Lib.hid hle; have HE := Lib.hid he; have HFD := Lib.hid hfd; have HF := Lib.hid hf; have HP := Lib.hid hp; have HNF := Lib.hid hnf
    clear hs hN hok hfew hle hW hsz hm hnf
    refine calls_post fun R HQ => ?_
    go_enter Tryz.func38, Tryz.ntmps38
    go_wp2_with fail
    refine HNC.out.mono ?_
    rintro e w2 ⟨nv, rfl, hnv, hf2⟩
    obtain ⟨A, ca, cs0, rfl, _⟩ := hnv.open_
    have W2 := Lib.hid (W1.out.quiet hf2); have HNV := Lib.hid (hnv.low (Nat.zero_le _)); have G2 : Hid (WFr bc bw ov w ov w2) := Lib.hid (WFr.refl.quiet hf2)
    clear hnv hf2 HNC c0
    go_wp2_with (first
      | (with_reducible refine wpList_alloc_z rfl 88 rfl (.agg #[.int .i64 0, .int .i64 0, .slice none 0 0]) znd.toArray zero_nd rfl ?_)
      | (refine wpList_store_z (W := w2) rfl 88 (.tmp 7) (.tmp 17) rfl [.int .i64 (kindOf n), .int .i64 (n.first : Int), .slice A n.l.length ca] rfl rfl rfl size_nd rfl three_cells ?_))
    intro w3 hb3 hf3 hz3
    obtain ⟨p7, hp7⟩ : ∃ p7, p7 = w2.heap.size := ⟨_, rfl⟩
    rw [← hp7] at hb3 ⊢
    have HP7 : Hid (p7 ≠ bc ∧ p7 ≠ bw ∧ ov.ownBlock ≠ some p7) := Lib.hid ⟨by have := W2.out.ch.lts.1; omega, by have := W2.out.bwk.lt; omega, fun e => by have := (W2.out.lt _ e).2; omega⟩
    have W3 := Lib.hid (W2.out.quiet hf3); have HNV3 := Lib.hid (HNV.out.fr hf3 (by simp)); have G3 := Lib.hid (G2.out.quiet hf3); have B3 := Lib.hid hb3
    clear hf3 hb3 hz3 hp7 W2 HNV G2
    have c0 := W3.out.bwk.at_ (i := 0) rfl
    go_wp2_with fail
    refine (fail_ch W3.out.ch 0).mono ?_
    rintro e w4 ⟨rfl, hc4, hf4, hz4⟩
    rw [fail0] at hc4 ⊢
    have hd : decide (c.e ≠ 0) = false := by rw [HE.out]; rfl
    rw [hd]
    have W4 := Lib.hid (W3.out.failed hf4 hc4)
    have HNV4 := Lib.hid (HNV3.out.fr hf4 fun q hq hm => absurd (List.mem_singleton.1 hm) (W3.out.nb q hq.1).2.1)
    have G4 : Hid (WFr bc bw ov w ov w4) := Lib.hid (G3.out.trans ⟨hf4.mono (by simp), fun q hq => .inl hq⟩)
    have B4 := Lib.hid (B3.out.fr hf4 (by simpa using HP7.out.1))
    clear hc4 hf4 hz4 hd W3 HNV3 G3 B3 c0
    have d0 := B4.out.at_ (i := 0) rfl
    have d1 := B4.out.at_ (i := 1) rfl
    have d2 := B4.out.at_ (i := 2) rfl
    go_wp2_with fail
    refine (leaf_nd n).mono ?_
    rintro e w5 ⟨rfl, hf5⟩
    have W5 := Lib.hid (W4.out.quiet hf5)
    have HNV5 := Lib.hid (HNV4.out.fr hf5 (by simp)); have G5 := Lib.hid (G4.out.quiet hf5); have B5 := Lib.hid (B4.out.fr hf5 (by simp))
    clear hf5 W4 HNV4 G4 B4 d0 d1 d2
    have d0 := B5.out.at_ (i := 0) rfl
    have d1 := B5.out.at_ (i := 1) rfl
    have d2 := B5.out.at_ (i := 2) rfl
    obtain ⟨hlf, hK⟩ := HNF.out
    rw [hlf]
    have hK' : Kids (Sub c.N 1 h) lo n.first n.l hi E P' := hK
    have hkr := (Kids.keys Sub.fine hK').1
    obtain ⟨EA, ER, hEE, hskip, hka⟩ := kidsAt_way hK' low
    have HKR := Lib.hid hkr; have HEE := Lib.hid hEE; have HSK := Lib.hid hskip; have HKA := Lib.hid hka
    have HIH := Lib.hid ih
    clear hlf hK hK' hkr hEE hskip hka ih
    go_upto_region 8 with fail
    have W6 := Lib.hid (W5.out.quiet ((Fr.refl [] w5).drew)); have HNV6 := Lib.hid (HNV5.out.fr ((Fr.refl [] w5).drew) (by simp)); have G6 := Lib.hid (G5.out.quiet ((Fr.refl [] w5).drew)); have B6 := Lib.hid (B5.out.fr ((Fr.refl [] w5).drew) (by simp))
    clear W5 HNV5 G5 B5 d0 d1 d2
    have d0 := B6.out.at_ (i := 0) rfl
    have d1 := B6.out.at_ (i := 1) rfl
    have d2 := B6.out.at_ (i := 2) rfl
    have f1 := W6.out.bwk.at_ (i := 1) rfl
    obtain ⟨ql, hql, _⟩ := W6.out.low
    have HLOW := Lib.hid hql
    clear hql
    refine wp_region_K (fun W => W.cell? ⟨p7, 0, none⟩ = some (.int .i64 (kindOf n)) ∧ W.cell? ⟨p7, 1, none⟩ = some (.int .i64 (n.first : Int)) ∧ W.cell? ⟨p7, 2, none⟩ = some (.slice A n.l.length ca) ∧ W.cell? ⟨bw, 1, none⟩ = some fv) [0, 1, 2, 3, 4] (by kernel_rfl) ?_
    refine wpAnyK_take (i := 0) (some 36) ?vq1_0 rfl rfl (by kernel_rfl) (fun _ _ _ h => h) ⟨d0, d1, d2, f1⟩ (.inl ⟨rfl, fun W hW => ?yq1_0⟩) ?_
    case yq1_0 => (obtain ⟨q0, q1, q2, q3⟩ := hW; go_simp) <;> with_reducible rfl
    simp only [nrm]
    refine wpAnyK_take (i := 1) (some 37) ?vq1_1 rfl rfl (by kernel_rfl) (fun _ _ _ h => h) ⟨d0, d1, d2, f1⟩ (.inl ⟨rfl, fun W hW => ?yq1_1⟩) ?_
    case yq1_1 => (obtain ⟨q0, q1, q2, q3⟩ := hW; go_simp) <;> with_reducible rfl
    simp only [nrm]
    refine wpAnyK_take (i := 2) (some 38) ?vq1_2 rfl rfl (by kernel_rfl) (fun _ _ _ h => h) ⟨d0, d1, d2, f1⟩ (.inl ⟨rfl, fun W hW => ?yq1_2⟩) ?_
    case yq1_2 => (obtain ⟨q0, q1, q2, q3⟩ := hW; go_simp) <;> with_reducible rfl
    simp only [nrm]
    refine wpAnyK_take (i := 3) (some 39) ?vq1_3 rfl rfl (by kernel_rfl) (fun _ _ _ h => h) ⟨d0, d1, d2, f1⟩ (.inl ⟨rfl, fun W hW => ?yq1_3⟩) ?_
    case yq1_3 => (obtain ⟨q0, q1, q2, q3⟩ := hW; go_simp) <;> with_reducible rfl
    simp only [nrm]
    refine wpAnyK_take (i := 4) (some 40) ?vq1_4 rfl rfl (by kernel_rfl) (fun _ _ _ h => h) ⟨d0, d1, d2, f1⟩ (.inl ⟨rfl, fun W hW => ?yq1_4⟩) ?_
    case yq1_4 => (obtain ⟨q0, q1, q2, q3⟩ := hW; go_simp) <;> with_reducible rfl
    simp only [nrm]
    refine wpAnyK_step (j := 5) (some 41) rfl rfl (by kernel_rfl) rfl fun K hK => ?_
    refine wp_call_f (l := [.tmp 36, .tmp 40]) rfl [.agg #[.int .i64 (kindOf n), .int .i64 (n.first : Int), .slice A n.l.length ca], fv] rfl (enter_way _) ((way_nd HNV6.out HLOW.out HKR.out (by have := HFEW.out; omega)).mono ?_)
    rintro e w7 ⟨rfl, hf7⟩
    refine ⟨_, rfl, hK _ _ (fun _ => ⟨fr_keep hf7 d0, fr_keep hf7 d1, fr_keep hf7 d2, fr_keep hf7 f1⟩) ?_⟩
    simp only [nrm]
    clear hK
    refine wpAnyK_step (j := 6) (some 9) rfl rfl (by kernel_rfl) rfl fun K hK => ?_
    refine wp_run_same (v := ?aq1_6) ?yq1_6 (hK _ _ (fun _ => ⟨fr_keep hf7 d0, fr_keep hf7 d1, fr_keep hf7 d2, fr_keep hf7 f1⟩) ?_)
    case yq1_6 => go_simp <;> with_reducible rfl
    simp only [nrm]
    refine wpAnyK_done (by kernel_rfl) ?_ _
    have W7 := Lib.hid (W6.out.quiet hf7); have HNV7 := Lib.hid (HNV6.out.fr hf7 (by simp)); have G7 := Lib.hid (G6.out.quiet hf7); have B7 := Lib.hid (B6.out.fr hf7 (by simp))
    clear hf7 W6 HNV6 G6 B6 d0 d1 d2 f1 HLOW
    have hwl := way_le n low
    have HLFT : Hid (WLeft c h n hi low up most out E (n.way low) out) := Lib.hid (.inl ⟨hwl, ER, HKA.out, by rw [HEE.out, goE_skip _ _ HSK.out], by have := HLE.out; rw [HEE.out, List.length_append] at this; omega⟩)
    clear hwl
    go_wp2_with fail
    go_loopw [9] (fun v wr => ∃ (i : Nat) (outi : En) (ovi : Value), v = .int .i64 (i : Int) ∧ Wst H wS g bc bn bs bw D c fv tv low up most outi ovi wr ∧ WFr bc bw ov w7 ovi wr ∧ WLeft c h n hi low up most out E i outi) (fun v _ => n.l.length + 1 - (intOf v).toNat)
    case atStart => exact ⟨n.way low, out, ov, rfl, W7.out, WFr.refl, HLFT.out⟩
    case round =>
      obtain ⟨i, outi, ovi, rfl, hWi, hGi, hLi⟩ := hrel
      have WI := Lib.hid hWi; have GI := Lib.hid hGi
      have BI := Lib.hid (GI.out.keep B7.out HP7.out.1 HP7.out.2.1 HP7.out.2.2)
      have HNI := Lib.hid (HNV7.out.fr GI.out.fr fun q hq hm => by
        have h1 := W7.out.nb q hq.1
        simp only [List.mem_cons, Option.mem_toList] at hm
        rcases hm with h | h | h
        · exact absurd h h1.2.1
        · exact absurd h h1.1
        · exact absurd h hq.2)
      have d0 := BI.out.at_ (i := 0) rfl
      have d1 := BI.out.at_ (i := 1) rfl
      have d2 := BI.out.at_ (i := 2) rfl
      clear hWi hGi
      rcases hLi with ⟨hil, ER1, hka, hgo, hle1⟩ | ⟨hi1, hgo⟩
      · have hilI : ((i : Nat) : Int) ≤ ((n.l.length : Nat) : Int) := by omega
        have HKA1 := Lib.hid hka; have HGO := Lib.hid hgo; have HLE1 := Lib.hid hle1
        clear hka hgo hle1
        have hwd : IntKind.i64.wrap ((deep : Int) + 1) = ((deep + 1 : Nat) : Int) := by have := HFD.out; rw [IntKind.wrap_i64]; omega
        have hwi : IntKind.i64.wrap ((i : Int) + 1) = (i : Int) + 1 := by have := HFEW.out; rw [IntKind.wrap_i64]; omega
        go_wp2_with fail
        refine (child_nd HNI.out hil (by have := HFEW.out; omega)).mono ?_
        rintro e w8 ⟨rfl, hf8⟩
        have W8 := Lib.hid (WI.out.quiet hf8); have G8 := Lib.hid (GI.out.quiet hf8)
        clear hf8 d0 d1 d2 WI GI BI HNI
        by_cases hlast : i = n.l.length
        · subst hlast
          obtain ⟨lo', PR, hsub⟩ := kidsAt_last HKA1.out
          have HREC := Lib.hid (HIH.out (f - 1) _ (deep + 1) _ _ _ _ _ _ _ (by have := HF.out; omega) (by have := HF.out; have := HFD.out; omega) hsub W8.out HLE1.out)
          clear hsub
          go_wp2_with fail
          refine HREC.out.mono ?_
          rintro e w9 ⟨ov9, rfl, hW9, hG9⟩
          have W9 := Lib.hid hW9; have G9 := Lib.hid (G8.out.trans hG9)
          clear hW9 hG9 HREC
          cases hb : (goE low up most outi ER1).2 with
          | true =>
            have HX : Hid (∃ (j : Nat) (outj : En) (ovj : Value), Value.int .i64 (((n.l.length : Nat) : Int) + 1) = .int .i64 (j : Int) ∧ Wst H wS g bc bn bs bw D c fv tv low up most outj ovj w9 ∧ WFr bc bw ov w7 ovj w9 ∧ WLeft c h n hi low up most out E j outj) := Lib.hid ⟨n.l.length + 1, _, ov9, rfl, W9.out, G9.out, .inr ⟨rfl, by rw [HGO.out, ← hb]⟩⟩
            have HB := Lib.hid hb
            clear hb
            go_wp2_with fail
            go_roundw
            case rel => exact HX.out
            case measure => simp [intOf]
          | false =>
            have HX := Lib.hid (HQ.out (.returned (.bool false)) w9 ⟨ov9, by rw [HGO.out, hb], by rw [HGO.out]; exact W9.out, G7.out.trans G9.out⟩)
            have HB := Lib.hid hb
            clear hb
            go_wp2_with fail
            exact HX.out
        · have hlt : i < n.l.length := by omega
          obtain ⟨lo', hi', E1, E2, P1, hsub, hER, hka2⟩ := kidsAt_next HKA1.out hlt
          have hl1 : outi.length + E1.length ≤ 1000000 := by have := HLE1.out; rw [hER, List.length_append] at this; omega
          have HREC := Lib.hid (HIH.out (f - 1) _ (deep + 1) _ _ _ _ _ _ _ (by have := HF.out; omega) (by have := HF.out; have := HFD.out; omega) hsub W8.out hl1)
          have HER := Lib.hid hER; have HKA2 := Lib.hid hka2
          have HGA : Hid (goE low up most out E = if (goE low up most outi E1).2 then goE low up most (goE low up most outi E1).1 E2 else goE low up most outi E1) := Lib.hid (by rw [HGO.out, hER, goE_append])
          clear hsub hER hka2 hl1
          go_wp2_with fail
          refine HREC.out.mono ?_
          rintro e w9 ⟨ov9, rfl, hW9, hG9⟩
          have W9 := Lib.hid hW9; have G9 := Lib.hid (G8.out.trans hG9)
          clear hW9 hG9 HREC
          cases hb : (goE low up most outi E1).2 with
          | true =>
            have HX : Hid (∃ (j : Nat) (outj : En) (ovj : Value), Value.int .i64 (((i : Nat) : Int) + 1) = .int .i64 (j : Int) ∧ Wst H wS g bc bn bs bw D c fv tv low up most outj ovj w9 ∧ WFr bc bw ov w7 ovj w9 ∧ WLeft c h n hi low up most out E j outj) := Lib.hid ⟨i + 1, _, ov9, rfl, W9.out, G9.out, .inl ⟨hlt, E2, HKA2.out, by rw [HGA.out, if_pos hb], by
              have h1 := goE_len low up most E1 outi
              have h2 := HLE1.out
              rw [HER.out, List.length_append] at h2
              omega⟩⟩
            have HB := Lib.hid hb
            clear hb
            go_wp2_with fail
            go_roundw
            case rel => exact HX.out
            case measure => simp [intOf]; omega
          | false =>
            have HX := Lib.hid (HQ.out (.returned (.bool false)) w9 ⟨ov9, by rw [HGA.out, if_neg (by rw [hb]; decide), hb], by rw [HGA.out, if_neg (by rw [hb]; decide)]; exact W9.out, G7.out.trans G9.out⟩)
            have HB := Lib.hid hb
            clear hb
            go_wp2_with fail
            exact HX.out
      · subst hi1
        have hgt : ¬ (((n.l.length + 1 : Nat)) : Int) ≤ ((n.l.length : Nat) : Int) := by omega
        have HX := Lib.hid (HQ.out (.returned (.bool true)) wr ⟨ovi, by rw [hgo], by rw [hgo]; exact WI.out, G7.out.trans GI.out⟩)
        have HGO := Lib.hid hgo
        clear hgo
        go_wp2_with fail
        exact HX.out
end
end Go.Proofs.YtpjbdpepofnleaaGreat
end
section
namespace Go.Proofs.YtpjbdpepofnleaaGreat
open Go.RowKit Go.ChangeMaps Go.MapKept Go.Maps Go.Sort Go.Shelf
def RangeEnd (X : Nat → Prop) (E : Nat → En) (t : Nat) (low : Ky) (up : Option Ky) (most : Nat) (w : World) (e : Ending) (w' : World) : Prop :=
  ∃ ov cs, e = .returned (.tuple #[ov, .int .i64 0]) ∧ w'.ownsRow w.heap.size 39 2 ov (goE low up most [] (E t)).1.length cs ∧ EntsC (fun q => X q ∨ w.heap.size ≤ q) w' (goE low up most [] (E t)).1 cs ∧ Fr [] w w'
section
variable {w0 w : World} {dk g st : Nat} {s : PS} {X : Nat → Prop} {E : Nat → En}
set_option maxRecDepth 100000 in
set_option maxHeartbeats 8000000 in
/-- Range. -/
theorem Range_X (h : StX w0 w dk g st s X E) {t : Nat} (ht : t < 8) {fv tv : Value} {low : Ky} {up : Option Ky} {gf most : Nat} (hk : BytesAt w fv low gf) (hkX : X gf) (hu : UpK X w tv up) (hmost : most < 9223372036854775807) (hE : (E t).length ≤ 1000000) :
    Calls Tryz.prog 11 #[.pointer (some ⟨st, 0, none⟩), .int .i64 (t : Int), fv, tv, .int .i64 (most : Int)] w (RangeEnd X E t low up most w) := by
  obtain ⟨Af, cf, _, rfl, _, _⟩ := id hk
  obtain ⟨At, nt, ct, rfl⟩ : ∃ A n c, tv = .slice A n c := by
    cases up with
    | none => exact ⟨_, _, _, hu⟩
    | some b => obtain ⟨a, n, c, q, h1, _⟩ := hu; exact ⟨_, _, _, h1⟩
  have hlt : ∀ q, X q → q < w.heap.size := by obtain ⟨_, _, _, _, _, _, _, h4⟩ := h.px; exact h4
  obtain ⟨_, _, P, F, hF⟩ := h.store
  obtain ⟨c, hc⟩ : ∃ c, c = beginC s.page s.n := ⟨_, rfl⟩
  rw [← hc] at hF
  have hpc := h.pgc
  rw [← hc] at hpc
  have H := Lib.hid h; have HC := Lib.hid hc; have HPC := Lib.hid hpc; have HF := Lib.hid hF
  have HK := Lib.hid hk; have HKX := Lib.hid hkX; have HU := Lib.hid hu; have HLT := Lib.hid hlt
  have HEE := Lib.hid hE
  have HBG := Lib.hid h.begin
  clear h hc hpc hF hk hkX hE hu hlt
  have ht8 : ((t : Nat) : Int) < 8 := by omega
  have ht8' : ¬ (8 : Int) ≤ ((t : Nat) : Int) := by omega
  have ht0 : ¬ ((t : Nat) : Int) < 0 := by omega
  have hm0 : ¬ ((most : Nat) : Int) < 0 := by omega
  refine calls_post fun R HQ => ?_
  go_enter Tryz.func11, Tryz.ntmps11
  go_wp2_with fail
  refine HBG.out.mono ?_
  rintro e w1 ⟨bc, bn, bs, rfl, hch⟩
  rw [← HC.out] at hch
  have HCH := Lib.hid hch
  have cr := hch.blk.at_ (chC_root c g bn bs ht)
  clear hch HBG
  by_cases hr : c.roots t = 0
  · rw [hr] at cr
    have hEt : E t = [] := by
      rcases HF.out.tree t ht with ⟨_, h, _⟩ | ⟨h, _⟩
      · exact h
      · exact absurd hr h
    have HX := Lib.hid (HQ.out (.returned (.tuple #[.slice none 0 0, .int .i64 0])) w1 ⟨.slice none 0 0, [], rfl, by rw [hEt]; exact own_nil _ _ _ _, by rw [hEt]; trivial, HCH.out.fr⟩)
    have HR0 := Lib.hid hr
    clear hr hEt
    go_wp2_with fail
    exact HX.out
  · have hrI : ¬ ((c.roots t : Nat) : Int) = 0 := by omega
    obtain ⟨hh, P', hs, hht⟩ : ∃ hh P', Sub c.N 1 hh (c.roots t) none none (E t) P' ∧ hh < 40 := by
      rcases HF.out.tree t ht with ⟨h, _, _⟩ | ⟨_, hh, hs⟩
      · exact absurd h hr
      · exact ⟨hh, _, hs, height_lt hs (by have := HEE.out; omega)⟩
    obtain ⟨w2, hw2⟩ : ∃ w2, w2 = w1.alloc (.cells (walkC bc (.slice Af low.length cf) (.slice At nt ct) (.slice none 0 0) most).toArray 95) := ⟨_, rfl⟩
    have hf2 : Fr [] w1 w2 := by rw [hw2]; exact (Fr.refl [] _).alloc _
    have hb2 : Blk w2 w1.heap.size 95 (walkC bc (.slice Af low.length cf) (.slice At nt ct) (.slice none 0 0) most) := by rw [hw2]; exact Blk.new w1 _ (walkC bc (.slice Af low.length cf) (.slice At nt ct) (.slice none 0 0) most)
    have hz1 := HCH.out.fr.size
    have hz2 := hf2.size
    have hcl := HCH.out.lts
    obtain ⟨D, hD⟩ : ∃ D : Nat → Prop, D = fun q => Dm_ X w bc bn bs q ∧ q ≠ w1.heap.size := ⟨_, rfl⟩
    have hdv : ∀ q, X q → Dv D (.slice none 0 0) q := fun q hq => by
      have h1 := HLT.out q hq
      have h2 := HCH.out.l1; have h3 := HCH.out.l2; have h4 := HCH.out.l3
      rw [hD]
      exact ⟨⟨⟨.inl hq, by omega, by omega, by omega⟩, by omega⟩, fun e => by cases e⟩
    have hfw2 : Fr [] w w2 := HCH.out.fr.trans hf2 (by simp)
    have W2 : Hid (Wst w1.heap.size w g bc bn bs w1.heap.size D c (.slice Af low.length cf) (.slice At nt ct) low up most [] (.slice none 0 0) w2) := Lib.hid {
      ch := by
        refine (HCH.out.re (D' := Dv D (.slice none 0 0)) (fun q hq hl => ?_) ⟨w1.heap.size + 1, ?_, by omega⟩ (fun q hq => ?_)).frame hf2
        · rw [hD]; exact ⟨⟨hq, by omega⟩, fun e => by cases e⟩
        · rw [hD]; exact ⟨⟨⟨.inr (by omega), by omega, by omega, by omega⟩, by omega⟩, fun e => by cases e⟩
        · rw [hD] at hq; exact hq.1.1.2
      bwk := hb2
      low := ⟨gf, HK.out.fr hfw2 (by simp), hdv _ HKX.out⟩
      up := by
        have h1 := HU.out.fr hfw2 (by simp)
        cases up with
        | none => exact h1
        | some b => obtain ⟨a, n, ca, q, h2, h3, h4⟩ := h1; exact ⟨a, n, ca, q, h2, h3, hdv _ h4⟩
      row := ⟨[], own_nil _ _ _ _, trivial⟩
      nb := fun q hq => by rw [hD] at hq; exact ⟨hq.2, hq.1.2⟩
      top := fun q hq => by rw [hD]; have := hb2.lt; exact ⟨⟨.inr (by omega), by omega, by omega, by omega⟩, by omega⟩
      own := fun q e => by cases e
      hb := ⟨by omega, by omega, by omega⟩
      hH := hz1
      hw := hz1
      hz := hz2 }
    have HWN := Lib.hid (walk_node HPC.out HF.out.e hh 40 _ 0 _ _ _ _ _ _ _ hht rfl hs W2.out (by have := HEE.out; simpa using this))
    have HD := Lib.hid hD; have HR0 := Lib.hid hr; have HHT := Lib.hid hht
    have HB1 : Hid (w.heap.size ≤ bc) := Lib.hid HCH.out.l1
    have HZ1 := Lib.hid hz1
    have cr2 := fr_keep hf2 cr
    have HFW2 := Lib.hid hfw2
    clear hr hs hht hf2 hb2 hz1 hz2 hcl hD hdv hfw2
    unfold walkC at hw2
    go_upto_region 7 with fail
    rw [← hw2]
    clear hw2 cr
    go_wp2_with fail
    refine HWN.out.mono ?_
    rintro e w3 ⟨ov, rfl, hW3, hG3⟩
    have W3 := Lib.hid hW3
    have HX := Lib.hid (HQ.out (.returned (.tuple #[ov, .int .i64 0])) w3 (by
      obtain ⟨cs, h1, h2⟩ := hW3.row
      refine ⟨ov, cs, rfl, own_base h1 (fun q hq => by have := (h1.lt q hq).1; have := HZ1.out; omega), h2.re (fun q hq _ => ?_) ⟨w.heap.size, .inr (Nat.le_refl _)⟩, HFW2.out.trans hG3.fr fun q hq => .inr ?_⟩
      · have h3 := hq.1
        rw [HD.out] at h3
        exact h3.1.1
      · simp only [List.mem_cons, Option.mem_toList] at hq
        have h1 := HB1.out; have h2 := HZ1.out
        rcases hq with h | h | h
        · omega
        · omega
        · cases h))
    clear hW3 hG3 HWN cr2
    have c13 := W3.out.ch.blk.at_ (i := 13) rfl
    rw [HF.out.e] at c13
    have c4 := W3.out.bwk.at_ (i := 4) rfl
    go_wp2_with fail
    exact HX.out
end
end Go.Proofs.YtpjbdpepofnleaaGreat
end
section
namespace Go.Proofs.YtpjbdpepofnleaaGreat
open Go.RowKit Go.ChangeMaps Go.MapKept Go.Maps Go.Sort Go.Shelf
def KidsB (N : Nat → Option Nd) (h : Nat) (n : Nd) (i : Nat) (lo hi : Option Ky) (PR : List Nat) : Prop := ∃ ER, Kids (Sub N 1 h) (loOf lo (n.l.take i)) (n.child i) (n.l.drop i) hi ER PR
theorem kidsB_last {N : Nat → Option Nd} {h i : Nat} {n : Nd} {lo hi : Option Ky} {PR : List Nat} (hk : KidsB N h n i lo hi PR) (hi' : i = n.l.length) : ∃ E, Sub N 1 h (n.child i) (loOf lo (n.l.take i)) hi E PR := by
  obtain ⟨ER, h1⟩ := hk
  have : n.l.drop i = [] := by rw [hi', List.drop_length]
  rw [this] at h1
  exact ⟨ER, h1⟩
theorem kidsB_next {N : Nat → Option Nd} {h i : Nat} {n : Nd} {lo hi : Option Ky} {PR : List Nat} {x : It} (hk : KidsB N h n i lo hi PR) (hx : n.l[i]? = some x) :
    ∃ E1 P1 P2, Sub N 1 h (n.child i) (loOf lo (n.l.take i)) (some x.key) E1 P1 ∧ PR = P1 ++ P2 ∧ KidsB N h n (i + 1) lo hi P2 := by
  obtain ⟨ER, h1⟩ := hk
  rw [drop_one hx] at h1
  obtain ⟨E1, P1, E2, P2, h2, h3, rfl, rfl⟩ := h1
  refine ⟨E1, P1, P2, h2, rfl, E2, ?_⟩
  have e : n.child (i + 1) = x.at_ := by
    unfold Nd.child
    rw [take_one hx, chOf_last]
  rw [e, take_one hx, loOf_snoc]
  exact h3
theorem loOf_take {n : Nd} {lo : Option Ky} {j : Nat} {x : It} (hx : n.l[j]? = some x) : loOf lo (n.l.take (j + 1)) = some x.key := by rw [take_one hx, loOf_snoc]
theorem nf_keys {N : Nat → Option Nd} {h : Nat} {n : Nd} {lo hi : Option Ky} {E : En} {P : List Nat} (hn : NF N h n lo hi E P) : KRise n.l ∧ ∀ x ∈ n.l, geLo lo x.key ∧ ltHi hi x.key := by
  cases h with
  | zero =>
    obtain ⟨_, rfl, _, hr, hw⟩ := hn
    exact ⟨rise_keys hr, fun x hx => hw (x.key, x.v) (List.mem_map.2 ⟨x, hx, rfl⟩)⟩
  | succ h =>
    obtain ⟨h1, h2⟩ := Kids.keys Sub.fine (S := Sub N 1 h) hn.2
    exact ⟨h1, fun x hx => ⟨fun a ha hk => klt_irrefl _ (klt_trans hk ((h2 x hx).1 a ha)), (h2 x hx).2⟩⟩
theorem krise_at {l : List It} (h : KRise l) {j : Nat} {x y : It} (hx : l[j]? = some x) (hy : l[j + 1]? = some y) : klt x.key y.key := by
  obtain ⟨h1, h2⟩ := List.getElem?_eq_some_iff.1 hx
  obtain ⟨h3, h4⟩ := List.getElem?_eq_some_iff.1 hy
  have := List.pairwise_iff_getElem.1 h j (j + 1) h1 h3 (by omega)
  rwa [h2, h4] at this
structure Cst (wS : World) (g bc bn bs bk bm : Nat) (D : Nat → Prop) (c : CD) (m : List (Nat × Value)) (kd : Nat) (w : World) : Prop where
  ch : ChAt wS w g bc bn bs D c
  blk : Blk w bk 108 [.pointer (some ⟨bc, 0, none⟩), .map (some bm), .int .i64 (kd : Int)]
  met : VAt w bm m
  nb : ∀ q, D q → q ≠ bk ∧ q ≠ bm ∧ q ≠ bc ∧ q ≠ bn ∧ q ≠ bs
  top : ∀ q, w.heap.size ≤ q → D q
  hb : bk ≠ bm ∧ bk ≠ bc ∧ bk ≠ bn ∧ bk ≠ bs ∧ bm ≠ bc ∧ bm ≠ bn ∧ bm ≠ bs
  hw : wS.heap.size ≤ bk ∧ wS.heap.size ≤ bm
def FromK (D : Nat → Prop) (w : World) (fv : Value) (lo : Option Ky) : Prop := ∃ q, BytesAt w fv (lo.getD []) q ∧ D q
section
variable {wS w w1 w2 : World} {g bc bn bs bk bm : Nat} {D : Nat → Prop} {c : CD} {m m' : List (Nat × Value)} {kd kd' : Nat} {fv tv : Value} {lo hi : Option Ky}
theorem Cst.to (h : Cst wS g bc bn bs bk bm D c m kd w1) (hf : Fr [bk, bm] w1 w2) (hb : Blk w2 bk 108 [.pointer (some ⟨bc, 0, none⟩), .map (some bm), .int .i64 (kd' : Int)]) (hm : VAt w2 bm m') : Cst wS g bc bn bs bk bm D c m' kd' w2 := by
  have hz := hf.size
  refine ⟨h.ch.frS hf fun q hq => ?_, hb, hm, h.nb, fun q hq => h.top q (by omega), h.hb, h.hw⟩
  simp only [List.mem_cons, List.not_mem_nil, or_false] at hq
  have := h.hb; have := h.hw
  rcases hq with rfl | rfl
  · exact .inr ⟨by omega, fun hd => (h.nb _ hd).1 rfl, by omega, by omega, by omega⟩
  · exact .inr ⟨by omega, fun hd => (h.nb _ hd).2.1 rfl, by omega, by omega, by omega⟩
theorem Cst.quiet (h : Cst wS g bc bn bs bk bm D c m kd w1) (hf : Fr [] w1 w2) : Cst wS g bc bn bs bk bm D c m kd w2 := h.to (hf.mono (by simp)) (h.blk.fr hf (by simp)) (h.met.fr hf (by simp))
theorem Cst.off (h : Cst wS g bc bn bs bk bm D c m kd w1) : ∀ q, D q → q ∈ [bk, bm] → w1.heap.size ≤ q := fun q hq hm => by
  simp only [List.mem_cons, List.not_mem_nil, or_false] at hm
  have := h.nb q hq
  omega
theorem FromK.fr {S : List Nat} (h : FromK D w fv lo) (hf : Fr S w w1) (hS : ∀ q, D q → q ∈ S → w.heap.size ≤ q) : FromK D w1 fv lo := by
  obtain ⟨q, h1, h2⟩ := h
  exact ⟨q, h1.frD hf (hS _ h2), h2⟩
def CEnd (wS : World) (g bc bn bs bk bm : Nat) (D : Nat → Prop) (c : CD) (K : Nat) (m : List (Nat × Value)) (w : World) (P : List Nat) (e : Ending) (w' : World) : Prop :=
  ∃ m' kd', e = .returned (.bool true) ∧ Cst wS g bc bn bs bk bm D c m' kd' w' ∧ Fr [bk, bm] w w' ∧ (kd' = 0 ∨ kd' = K) ∧ (∀ q, q ∉ P → getA m q = none → getA m' q = none) ∧ m'.length ≤ m.length + P.length
end
theorem zero_bool (w : World) : (zeroValue 4).run Tryz.prog w = .ok (.bool false) w := by kernel_rfl
end Go.Proofs.YtpjbdpepofnleaaGreat
end
