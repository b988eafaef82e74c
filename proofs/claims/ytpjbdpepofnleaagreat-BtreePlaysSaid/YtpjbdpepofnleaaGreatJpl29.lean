/-
  Joined by join.py: Zn
-/
import Derived.Test.YtpjbdpepofnleaaGreatJpl28
set_option maxRecDepth 100000
set_option maxHeartbeats 32000000
namespace Go.Proofs.YtpjbdpepofnleaaGreat
section
open Go.RowKit Go.ChangeMaps Go.MapKept Go.Maps Go.Sort Go.Shelf
theorem enter_do10 (vs : Array Value) (w : World) : (callFunc 21 vs).run Tryz.prog w = .ok (.enter 21 vs) w := by kernel_rfl
theorem seven_range {w : World} {g o : Nat} {a b c d e f h : Value} (h0 : w.cell? ⟨g, o, none⟩ = some a) (h1 : w.cell? ⟨g, o + 1, none⟩ = some b) (h2 : w.cell? ⟨g, o + 2, none⟩ = some c) (h3 : w.cell? ⟨g, o + 3, none⟩ = some d) (h4 : w.cell? ⟨g, o + 4, none⟩ = some e) (h5 : w.cell? ⟨g, o + 5, none⟩ = some f) (h6 : w.cell? ⟨g, o + 6, none⟩ = some h) : w.rangeAt g o [a, b, c, d, e, f, h] := fun j u hu => by
 match j, hu with
 | 0, hu => obtain rfl : a = u := Option.some.inj hu; exact h0
 | 1, hu => obtain rfl : b = u := Option.some.inj hu; exact h1
 | 2, hu => obtain rfl : c = u := Option.some.inj hu; exact h2
 | 3, hu => obtain rfl : d = u := Option.some.inj hu; exact h3
 | 4, hu => obtain rfl : e = u := Option.some.inj hu; exact h4
 | 5, hu => obtain rfl : f = u := Option.some.inj hu; exact h5
 | 6, hu => obtain rfl : h = u := Option.some.inj hu; exact h6
 | j + 7, hu => simp at hu
theorem key_p {W w : World} {v : Value} {bs : List UInt8} (h : ArgBytes W v bs) (hf : Fr [] W w) (h0 : 0 < W.heap.size) : ∃ g, BytesAt w v bs g /\ g < W.heap.size := by
 obtain ⟨_, g, hb, hg⟩ := h; rcases hg with rfl | hg
 ·obtain ⟨A, c, off, h1, h2, _⟩ := hb; exact ⟨0, ⟨A, c, off, h1, h2, fun h3 => absurd h3 (by simp)⟩, h0⟩
 ·exact ⟨g, hb.fr hf (by simp), hg⟩
theorem plays_walk (W : World) (pages : Int) (v : Value) (l : List OpP) (hv : ArgPl W v l) : Calls Tryz.prog 7 #[.int .i64 pages, v] W fun e w' => e = .returned (.bool true) /\ Fr [] W w' := by
 obtain ⟨pg, hpg, hmk⟩ := and_mask pages 63 (by omega); have hmk' : bits .and .i64 pages 63 = (pg : Int) := hmk; obtain ⟨n, hn⟩ : ∃ n : Nat, n = pg + 2 := ⟨_, rfl⟩; have hwn : IntKind.i64.wrap (2 + (pg : Int)) = (n : Int) := by rw [IntKind.wrap_i64]; omega
 have HNN : Hid (1 <= n /\ n <= 4096) := lh (by omega); have HV := lh hv; obtain ⟨A, c, g0, off, rfl, hmax, hel⟩ := hv; have HEL := lh hel; clear hmk hn hel hpg hmax; refine calls_post fun R hq => ?_; have HQ := lh hq; clear hq
 go_enter Tryz.func7, Tryz.ntmps7
 go_wp2_with fail; refine (awake10 W).mono ?_; rintro e w1 ⟨rfl, hf1⟩; have HF1 := lh hf1; clear hf1; go_wp2_with fail; refine (small_any W w1 HF1.out HV.out).mono ?_; rintro e wS ⟨b, rfl, hb, hfs⟩; have HFS := lh (HF1.out.trans hfs (by simp)); have HB := lh hb; clear hfs hb
 cases b with
 | false =>
  have HX := lh (HQ.out (.returned (.bool true)) wS ⟨rfl, HFS.out⟩); go_wp2_with fail; exact HX.out
 | true =>
  have HL := lh (HB.out rfl); clear HB; go_wp2_with fail; refine (made_X wS (n := n) HNN.out.1 HNN.out.2).mono ?_; rintro e w2 ⟨dk, g, st0, s0, X0, rfl, hmd⟩; have HM := lh hmd; clear hmd hwn hmk'; go_upto_region 6 with fail
  have hbx := Blk.new w2 56 (List.replicate 8 (.slice none 0 0)); have hfx : Fr [] w2 (w2.alloc (.cells #[.slice none 0 0, .slice none 0 0, .slice none 0 0, .slice none 0 0, .slice none 0 0, .slice none 0 0, .slice none 0 0, .slice none 0 0] 56)) := (Fr.refl _ _).alloc _; have hzx : (w2.alloc (.cells #[.slice none 0 0, .slice none 0 0, .slice none 0 0, .slice none 0 0, .slice none 0 0, .slice none 0 0, .slice none 0 0, .slice none 0 0] 56)).heap.size = w2.heap.size + 1 := by rw [World.size_alloc]
  change Blk (w2.alloc (.cells #[.slice none 0 0, .slice none 0 0, .slice none 0 0, .slice none 0 0, .slice none 0 0, .slice none 0 0, .slice none 0 0, .slice none 0 0] 56)) _ _ _ at hbx
  generalize w2.alloc (.cells #[.slice none 0 0, .slice none 0 0, .slice none 0 0, .slice none 0 0, .slice none 0 0, .slice none 0 0, .slice none 0 0, .slice none 0 0] 56) = w3 at *; obtain ⟨m0, Hm0⟩ := nm (w2.heap.size); rw [<- Hm0] at hbx ⊢; have HB3 := lh hbx; have HF3 := lh hfx; have HZ3 := lh hzx; have HM3 := lh Hm0; clear hbx hfx hzx Hm0; go_upto_region 7 with fail
  have hbx := Blk.new w3 56 (List.replicate 8 (.slice none 0 0)); have hfx : Fr [] w3 (w3.alloc (.cells #[.slice none 0 0, .slice none 0 0, .slice none 0 0, .slice none 0 0, .slice none 0 0, .slice none 0 0, .slice none 0 0, .slice none 0 0] 56)) := (Fr.refl _ _).alloc _; have hzx : (w3.alloc (.cells #[.slice none 0 0, .slice none 0 0, .slice none 0 0, .slice none 0 0, .slice none 0 0, .slice none 0 0, .slice none 0 0, .slice none 0 0] 56)).heap.size = w3.heap.size + 1 := by rw [World.size_alloc]
  change Blk (w3.alloc (.cells #[.slice none 0 0, .slice none 0 0, .slice none 0 0, .slice none 0 0, .slice none 0 0, .slice none 0 0, .slice none 0 0, .slice none 0 0] 56)) _ _ _ at hbx
  generalize w3.alloc (.cells #[.slice none 0 0, .slice none 0 0, .slice none 0 0, .slice none 0 0, .slice none 0 0, .slice none 0 0, .slice none 0 0, .slice none 0 0] 56) = w4 at *; obtain ⟨k0, Hk0⟩ := nm (w3.heap.size); rw [<- Hk0] at hbx ⊢; have HB4 := lh hbx; have HF4 := lh hfx; have HZ4 := lh hzx; have HM4 := lh Hk0; clear hbx hfx hzx Hk0
  have HPL0 : Hid (PL W.heap.size wS w4 dk g 0 1 st0 m0 k0 (List.replicate 8 (.slice none 0 0)) (List.replicate 8 (.slice none 0 0)) s0 (More X0 w2 w4) (fun _ => []) (fun _ => []) (fun _ => []) (fun _ => [])) := lh (by
   have z2 := HM.out.fr.size; have zS := HFS.out.size; have hw3 := HZ3.out; have hw4 := HZ4.out; have hm3 := HM3.out; have hm4 := HM4.out
   have hfl : ∀ (q k : Nat), q ∈ fl k (List.replicate 8 (Value.slice none 0 0)) -> q = k := fun q k hq => by
    rcases fl_mem.1 hq with h | ⟨v, hv, hvq⟩
    ·exact h
    ·rw [List.eq_of_mem_replicate hv] at hvq; simp [Value.ownBlock] at hvq
   have hf24 := HF3.out.trans HF4.out (by simp); refine ⟨⟨HM.out.st.fr hf24, fun k hk => .inl (HM.out.old k hk), RefAt.new zS (by omega) (HB3.out.fr HF4.out (by simp)), fun q hq => .inr ?_⟩, RefAt.new zS (by omega) HB4.out, fun q hq => .inr ?_, fun q hq hm => ?_, EFew.nil, EFew.nil, 1, Nat.le_refl _, ⟨⟨_, HM.out.inv, ?_⟩, HM.out.lim, by rw [HM.out.done]; omega⟩⟩
   ·rw [hfl q m0 hq]; omega
   ·rw [hfl q k0 hq]; omega
   ·have a := hfl q k0 hq; have b := hfl q m0 hm; omega
   ·exact HM.out.st.store.congr fun k hk => by
     rw [HM.out.inv.page_eq hk, HM.out.late]
     rfl)
  go_wp2_with fail
  go_loopw [6, 8, 9, 10] (fun v6 v8 v9 v10 wr => ∃ (i st m kp : Nat) (vs vk : List Value) (s : PS) (X : Nat -> Prop) (E K : Nat -> En), i <= l.length /\ v10 = .int .i64 (i : Int) /\ v6 = .pointer (some ⟨st, 0, none⟩) /\ v8 = .pointer (some ⟨m, 0, none⟩) /\ v9 = .pointer (some ⟨kp, 0, none⟩) /\ PL W.heap.size wS wr dk g i (3 * i + 1) st m kp vs vk s X E E K K) (fun _ _ _ v10 _ => l.length - (intOf v10).toNat)
  case atStart => exact ⟨0, st0, m0, k0, _, _, s0, _, _, _, Nat.zero_le _, rfl, rfl, rfl, rfl, HPL0.out⟩
  case round =>
   rename World => wr
   obtain ⟨i, st, m, kp, vs, vk, s, X, E, KE, hil, rfl, rfl, rfl, rfl, hpl⟩ := hrel; have HP := lh hpl; clear hpl
   by_cases hi : i < l.length
   ·obtain ⟨o, ho⟩ := gx hi; obtain ⟨hA, hat⟩ := HEL.out i o ho; subst hA; obtain ⟨what, t, most, kv, vv, tv, key, v, upto, all⟩ := o; have hfw : Fr [] W wr := HFS.out.trans HP.out.pst.st.px.frame (by simp); have h0W : 0 < W.heap.size := by have := World.block_lt_of_cell? W _ hat.c0; simp only at this; omega
    obtain ⟨gk, hkW, hkp⟩ := key_p hat.k (Fr.refl [] W) h0W; have hk := hkW.fr hfw (by simp); obtain ⟨gv, hvv, hvp⟩ := key_p hat.b hfw h0W; obtain ⟨ge, he, hep⟩ := key_p hat.e hfw h0W
    simp only at hk hvv he hkW
    have HKW := lh hkW; have hkl : key.length <= 9223372036854775807 := by have := hat.k.1; unfold maxLen at this; simpa using this
    have hel : upto.length <= 9223372036854775807 := by have := hat.e.1; unfold maxLen at this; simpa using this
    have hmx : most < 9223372036854775808 := by
     have := hat.w2; simp only [Lit.wf, IntKind.min, IntKind.max, IntKind.signed, IntKind.bits, Bool.and_eq_true, decide_eq_true_eq, if_true] at this; omega
    obtain ⟨A3, c3, _, rfl, -, -⟩ := id hk; obtain ⟨A4, c4, _, rfl, -, -⟩ := id hvv; obtain ⟨A5, c5, _, rfl, -, -⟩ := id he; have k0_ := hfw.keep hat.c0; have k1_ := hfw.keep hat.c1; have k2_ := hfw.keep hat.c2; have k3_ := hfw.keep hat.c3; have k4_ := hfw.keep hat.c4; have k5_ := hfw.keep hat.c5; have k6_ := hfw.keep hat.c6
    simp only at k0_ k1_ k2_ k3_ k4_ k5_ k6_
    have HRA := lh (seven_range k0_ k1_ k2_ k3_ k4_ k5_ k6_); have HBK := lh hk; have HBV := lh hvv; have HBE := lh he; have HKP := lh hkp; have HVP := lh hvp; have HEP := lh hep; have HKL := lh hkl; have HEL2 := lh hel; have HMX := lh hmx; have hiI : (i : Int) < (l.length : Int) := by omega
    have HI := lh hi; clear hat ho hk hkW hvv he hkp hvp hep hfw k0_ k1_ k2_ k3_ k4_ k5_ k6_ hkl hel hmx h0W; go_upto_region 10 with fail
    refine wp_region_lit ?_
    iterate 3 (refine rn rfl (by go_simp <;> with_reducible rfl) ?_; simp only [nrm])
    refine lp fun K hK => ?_; refine wp_load_mid 58 (.tmp 42) rfl g0 (off + i * 7) rfl [.int .i64 what, .int .i64 t, .int .i64 most, .slice A3 key.length c3, .slice A4 v.length c4, .slice A5 upto.length c5, .bool all] _ HRA.out Tryz.underlying58 rfl (by kernel_rfl) (hK _ _ ?_); simp only [nrm]; clear hK; refine lp fun K hK => ?_; refine wp_alloc_blk 58 rfl (.agg #[.int .i64 0, .int .i64 0, .int .i64 0, .slice none 0 0, .slice none 0 0, .slice none 0 0, .bool false]) [.int .i64 0, .int .i64 0, .int .i64 0, .slice none 0 0, .slice none 0 0, .slice none 0 0, .bool false] (by kernel_rfl) rfl fun wa hba hfa hza => hK _ _ ?_; simp only [nrm]; clear hK; obtain ⟨b11, hb11⟩ := nm (wr.heap.size); rw [<- hb11] at hba ⊢; have HB11 := lh hb11; have HFA := lh hfa; have HZA := lh hza; have HBA := lh hba; clear hb11 hfa hza hba; refine lp fun K hK => ?_; refine wp_store_blk 58 (.tmp 11) (.tmp 43) rfl [.int .i64 what, .int .i64 t, .int .i64 most, .slice A3 key.length c3, .slice A4 v.length c4, .slice A5 upto.length c5, .bool all] rfl rfl HBA.out (by kernel_rfl) rfl (by intro u hu; simp only [List.mem_cons, List.not_mem_nil, or_false] at hu; rcases hu with rfl | rfl | rfl | rfl | rfl | rfl | rfl <;> rfl) fun wb hbb hfb hzb => hK _ _ ?_; simp only [Act.put]; clear hK; have HBB := lh hbb; have HFB := lh (HFA.out.trans hfb fun q hq => .inr (by rw [List.mem_singleton.1 hq, HB11.out]; exact Nat.le_refl _)); have HXB : Hid (More X wr wb b11) := lh (.inr ⟨by have := HB11.out; omega, by have := HB11.out; have := HZA.out; omega⟩); clear hbb hfb hzb; refine wpList_nil ?_; have HP1 := lh (HP.out.frX HFB.out); have HDO := lh (do_any HP1.out.pst HP1.out.few (by have := HL.out; omega) HP1.out.low.1 what t most all (HBK.out.fr HFB.out (by simp)) HKP.out (HBV.out.fr HFB.out (by simp)) HVP.out (HBE.out.fr HFB.out (by simp)) HEP.out HKL.out HEL2.out HMX.out); go_upto_region 11 with fail
    refine wp_region_lit ?_
    iterate 2 (refine rn rfl (by go_simp <;> with_reducible rfl) ?_; simp only [nrm])
    refine lp fun K hK => ?_; refine wp_load_mid 58 (.tmp 11) rfl b11 0 rfl [.int .i64 what, .int .i64 t, .int .i64 most, .slice A3 key.length c3, .slice A4 v.length c4, .slice A5 upto.length c5, .bool all] _ (fun j u hu => by rw [Nat.zero_add]; exact HBB.out.at_ hu) Tryz.underlying58 rfl (by kernel_rfl) (hK _ _ ?_); simp only [nrm]; clear hK; refine lp fun K hK => ?_; refine wp_call_f (l := [.tmp 44, .tmp 45, .tmp 46]) rfl [.pointer (some ⟨st, 0, none⟩), .pointer (some ⟨m, 0, none⟩), .agg #[.int .i64 what, .int .i64 t, .int .i64 most, .slice A3 key.length c3, .slice A4 v.length c4, .slice A5 upto.length c5, .bool all]] rfl (enter_do10 _) (HDO.out.mono ?_); rintro e wd ⟨rfl, hd⟩; refine ⟨_, rfl, hK _ _ ?_⟩; simp only [nrm]; clear hK; refine rn rfl (by go_simp <;> with_reducible rfl) ?_; simp only [nrm]; refine wpList_nil ?_; obtain ⟨vs2, s2, X2, E2, hp2, hoth, hXX⟩ := HP1.out.did hd; have hbd := hoth.blk HBB.out HXB.out fun hm => by have := (HP.out.pst.ref.lt b11 hm).2; have := HB11.out; omega
    have HP2 := lh hp2; have HBD := lh hbd; have HX2 := lh (hXX b11 HXB.out); clear hd hp2 hoth hXX hbd HDO HP HP1; have d0 := HBD.out.at_ (i := 0) rfl; have hwi := wi i (by have := HL.out; omega)
    by_cases z6 : what = 6
    case' pos =>
     subst z6; obtain ⟨cc, hcc, hcomm⟩ := HP2.out.comm; have HCM := lh (commit_Y HP2.out.pst.st.px (by have := hcomm.done; have := HL.out; have := HI.out; omega)); clear hcc hcomm; go_wp2_with fail; refine HCM.out.mono ?_; rintro e we ⟨rfl, hpx, hkx⟩; have HB3 := lh (hkx.blk HBD.out HX2.out); rcases HP2.out.commit (by have := HL.out; have := HI.out; omega) hpx hkx with ⟨h0, hp3⟩ | ⟨h45, hp3⟩
     case' inl =>
      rw [h0]; have HP3 := lh hp3; have HCP := lh (copied_any HP3.out.pst.ref (by intro t; have := HP3.out.few.few t; have := HL.out; have := HI.out; omega)); clear h0 hpx hkx hp3 HCM d0; go_wp2_with fail; refine HCP.out.mono ?_; rintro e wf ⟨k', vk', rfl, hr, hf, hn⟩; have HP4 := lh (HP3.out.copyK hr hf hn); have HB4 := lh (HB3.out.fr hf (by simp)); have d0 := HB4.out.at_ (i := 0) rfl; clear hr hf hn HCP; go_upto_region 19 with fail
      have HPT := lh (HP4.out.later (Nat.le_refl (i + 1)) (show _ <= 3 * (i + 1) + 1 by omega)); have HBT := HB4
      rename World => wI
      obtain ⟨EE, hEE⟩ : ∃ F, F = E2 := ⟨_, rfl⟩; rw [<- hEE] at HPT; clear hEE
     case' inr =>
      obtain ⟨r, hr⟩ := nm (s2.commit.2); rw [<- hr] at h45 ⊢; have hr0 : ¬ r = 0 := by omega
      have hr0b : (r == 0) = false := by rw [beq_eq_false_iff_ne]; exact hr0
      have HP4 := lh hp3; clear h45 hpx hkx hp3 HCM d0 hr; have d0 := HB3.out.at_ (i := 0) rfl; go_upto_region 19 with fail
      have HPT := lh (HP4.out.later (Nat.le_refl (i + 1)) (show _ <= 3 * (i + 1) + 1 by omega)); have HBT := HB3
      rename World => wI
      obtain ⟨EE, hEE⟩ : ∃ F, F = E2 := ⟨_, rfl⟩; rw [<- hEE] at HPT; clear hEE
    case' neg =>
     have z6b : (what == 6) = false := by rw [beq_eq_false_iff_ne]; exact z6
     by_cases z7 : what = 7
     case' pos =>
      subst z7; have HRB := lh (rollback_Y HP2.out.pst.st.px); go_wp2_with fail; refine HRB.out.mono ?_; rintro e we ⟨rfl, hpx, hkx⟩; have HB3 := lh (hkx.blk HBD.out HX2.out); obtain ⟨r1, r2, r3⟩ := HP2.out.rolled; have HOP := lh (Open_X hpx r1 r2 r3); have HKX := lh hkx; clear hpx hkx r1 r2 r3 HRB d0; go_wp2_with fail; refine HOP.out.mono ?_; rintro e wf ⟨st2, rfl, hs, hf⟩; have HP3 := lh (HP2.out.roll HKX.out hs hf); have HB4 := lh (HB3.out.fr hf (by simp)); have HCP := lh (copied_any HP3.out.kref (by intro t; have := HP3.out.fewC.few t; have := HL.out; have := HI.out; omega)); clear hs hf HOP; go_wp2_with fail; refine HCP.out.mono ?_; rintro e wg ⟨m2, vs3, rfl, hr, hf2, hn⟩; have HP4 := lh (HP3.out.copyM hr hf2 hn); have HB5 := lh (HB4.out.fr hf2 (by simp)); clear hr hf2 hn HCP; go_upto_region 19 with fail
      have HPT := lh (HP4.out.later (Nat.le_refl (i + 1)) (show _ <= 3 * (i + 1) + 1 by omega)); have HBT := HB5
      rename World => wI
      obtain ⟨EE, hEE⟩ : ∃ F, F = KE := ⟨_, rfl⟩; rw [<- hEE] at HPT; clear hEE
     case' neg =>
      have z7b : (what == 7) = false := by rw [beq_eq_false_iff_ne]; exact z7
      go_upto_region 19 with fail
      have HPT := lh (HP2.out.later (Nat.le_refl (i + 1)) (show _ <= 3 * (i + 1) + 1 by omega)); have HBT := HBD
      rename World => wI
      obtain ⟨EE, hEE⟩ : ∃ F, F = E2 := ⟨_, rfl⟩; rw [<- hEE] at HPT; clear hEE
    all_goals
     have hfi : Fr [] W wI := HFS.out.trans HPT.out.pst.st.px.frame (by simp); have d1 := HBT.out.at_ (i := 1) rfl; have d3 := HBT.out.at_ (i := 3) rfl; have HKI := lh (HKW.out.fr hfi (by simp)); have HGT := lh (Get_pl HPT.out.pst HPT.out.few (by have := HL.out; have := HI.out; omega) (t := t) HKI.out (HPT.out.pst.old gk (by have := HKP.out; have := HFS.out.size; omega))); obtain ⟨bb, hbb⟩ := nm ((mayB t key && (getE (EE t.toNat) key).isSome)); obtain ⟨ec, hec⟩ : ∃ ec : Int, ec = (if mayB t key = true then 0 else 1) := ⟨_, rfl⟩; obtain ⟨V, hV⟩ := nm ((if mayB t key = true then (getE (EE t.toNat) key).getD [] else [])); rw [<- hbb, <- hec, <- hV] at HGT; have HBE := lh hbb; have HCE := lh hec; have HVE := lh hV; clear hbb hec hV hfi; go_wp2_with fail; refine HGT.out.mono ?_; rintro e wa2 ⟨va, rfl, ⟨qa, hba⟩, hfa⟩; have d1 := (HBT.out.fr hfa (by simp)).at_ (i := 1) rfl; have d3 := (HBT.out.fr hfa (by simp)).at_ (i := 3) rfl; have HRG := lh (rget_any (HPT.out.pst.ref.fr0 hfa) t HPT.out.few.rise (HKI.out.fr hfa (by simp)) (by intro t; have := HPT.out.few.few t; have := HL.out; have := HI.out; omega) HPT.out.few.keys); rw [<- HBE.out, <- HCE.out, <- HVE.out] at HRG; obtain ⟨Aa, ca, _, rfl, -, -⟩ := id hba; have HVA := lh hba; have HFA2 := lh hfa; clear hba hfa HGT; go_wp2_with fail; refine HRG.out.mono ?_; rintro e wb2 ⟨vb, rfl, ⟨qb, hbb2⟩, hfb⟩; obtain ⟨Ab, cb, _, rfl, -, -⟩ := id hbb2; have rsa := run_string_of (P := Tryz.prog) (src := 23) (dst := 9) Tryz.underlying23 Tryz.underlying5 Tryz.underlying9 (HVA.out.fr hfb (by simp)); have rsb := run_string_of (P := Tryz.prog) (src := 23) (dst := 9) Tryz.underlying23 Tryz.underlying5 Tryz.underlying9 hbb2; have PF := lh (HPT.out.fr0 (HFA2.out.trans hfb (by simp))); clear hbb2 hfb HRG
     by_cases h8 : i % 8 = 0
     ·have h8I : (i : Int) % 8 = 0 := by omega
      have HSM := lh (same_pl PF.out.pst PF.out.few (by have := HL.out; have := HI.out; omega)); clear h8; go_wp2_with fail; refine HSM.out.mono ?_; rintro e wz ⟨rfl, hfz⟩; have HX := lh (PF.out.fr0 hfz); clear hfz HSM rsa rsb; go_wp2_with fail
      go_roundw
      case rel => exact ⟨i + 1, _, _, _, _, _, _, _, _, _, HI.out, rfl, rfl, rfl, rfl, HX.out⟩
      case measure => simp [intOf]; omega
     ·have h8I : ¬ (i : Int) % 8 = 0 := by omega
      have h8B : ((i : Int) % 8 == 0) = false := by rw [beq_eq_false_iff_ne]; exact h8I
      clear h8; go_wp2_with fail
      go_roundw
      case rel => exact ⟨i + 1, _, _, _, _, _, _, _, _, _, HI.out, rfl, rfl, rfl, rfl, PF.out⟩
      case measure => simp [intOf]; omega
   ·obtain rfl : i = l.length := by omega
    have HSM := lh (same_pl HP.out.pst HP.out.few (by have := HL.out; omega)); go_wp2_with fail; refine HSM.out.mono ?_; rintro e wz ⟨rfl, hfz⟩; have HX := lh (HQ.out (.returned (.bool true)) wz ⟨rfl, HFS.out.trans (HP.out.pst.st.px.frame.trans hfz (by simp)) (by simp)⟩); clear hfz HSM; go_wp2_with fail; exact HX.out
end
end Go.Proofs.YtpjbdpepofnleaaGreat
