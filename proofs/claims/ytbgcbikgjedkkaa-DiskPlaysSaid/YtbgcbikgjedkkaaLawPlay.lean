/-
  The walk of DiskPlays: for all inputs it answers true and leaves old memory alone.
-/
import Derived.Test.YtbgcbikgjedkkaaRefE
import Derived.Test.YtbgcbikgjedkkaaTwoDisk
import Derived.Test.YtbgcbikgjedkkaaLawKeep
import Derived.Deep.CutBlock
namespace Go.Proofs.Ytbgcbikgjedkkaa
open Go.RowKit

theorem DM.write_len (D : DM) (k : Int) (bs : List UInt8) : (D.write k bs).S.length = D.S.length ∧ (D.write k bs).done ≤ D.done + 1 := by
  unfold DM.write
  split
  · exact ⟨rfl, by omega⟩
  · split
    · exact ⟨rfl, by omega⟩
    · split
      · exact ⟨rfl, by show D.done ≤ _; omega⟩
      · exact ⟨rfl, by show D.done + 1 ≤ _; omega⟩
theorem DM.sync_len (D : DM) : D.sync.S.length = D.S.length ∧ D.sync.done ≤ D.done + 1 := by
  unfold DM.sync
  split
  · exact ⟨rfl, by omega⟩
  · split
    · exact ⟨rfl, by show D.done ≤ _; omega⟩
    · exact ⟨layAll_len _ _, by show D.done + 1 ≤ _; omega⟩
theorem DM.reopen_len (D : DM) (K : List Bool) : (D.reopen K).S.length = D.S.length ∧ (D.reopen K).done ≤ D.done + 1 := ⟨layAll_len _ _, by show D.done ≤ _; omega⟩

theorem enter_dwrite (vs : Array Value) (w : World) : (callFunc 16 vs).run Try.prog w = .ok (.enter 16 vs) w := by kernel_rfl
theorem enter_rwrite (vs : Array Value) (w : World) : (callFunc 23 vs).run Try.prog w = .ok (.enter 23 vs) w := by kernel_rfl
theorem DStep.toStep {w w' : World} {d : Nat} {D : DM} {fp : List Nat} (h : DStep w w' d D fp) : Step (tD d D) w w' fp := h
theorem quietL {P : Program} {f : FuncId} {args : Array Value} {w : World} {n : Nat} {v : Value} (h : Calls P f args (w.drewN n) fun e w' => e = .returned v ∧ w.drewN n = w') : Calls P f args (w.drewN n) fun e w' => e = .returned v ∧ ∃ m, w' = w.drewN m :=
  h.mono fun _ _ ⟨he, hw⟩ => ⟨he, n, hw.symm⟩
def PlaySt (W : World) (d m q j : Nat) (w : World) : Prop := ∃ (D : DM) (fd fm : List Nat), Two (tD d D) (tR m D) W w fd fm ∧ D.S.length = q ∧ D.done ≤ j
def PlayRel (W : World) (d m q L : Nat) (i : Value) (wr : World) : Prop := ∃ j : Nat, j ≤ L ∧ i = .int .i64 j ∧ PlaySt W d m q j wr

set_option maxRecDepth 100000 in
set_option maxHeartbeats 2000000 in
theorem plays_walk (W : World) (mv : Value) (l : List OpA) (n : Int) (hl : ArgOps W mv l) :
    Calls Try.prog 5 #[.int .i64 n, mv] W fun e w' => e = .returned (.bool true) ∧ Fr [] W w' := by
  obtain ⟨q, hq, hqn⟩ := and_mask n 15 (by omega)
  have hqn' : bits .and .i64 n 15 = (q : Int) := hqn
  clear hqn
  obtain ⟨mA, mc, mg, mo, rfl, hm, hel⟩ := id hl
  unfold maxLen at hm
  have HL := Lib.hid hl; have HEL := Lib.hid hel
  clear hl hel
  go_enter Try.func5, Try.ntmps5
  go_wp2_with fail
  refine (awake06 W).mono ?_
  rintro e w1 ⟨rfl, hf1⟩
  have HF1 := Lib.hid hf1; clear hf1
  by_cases hsm : smallB l = false
  · go_wp2_with (go_at_call 14; refine (small_any HL.out HF1.out).mono ?_; rintro e w2 ⟨rfl, rfl⟩; rw [hsm])
    go_ret
    exact ⟨rfl, HF1.out⟩
  · have hsm' : smallB l = true := by simpa using hsm
    clear hsm
    have hl100 : l.length ≤ 100 := by
      have := hsm'
      simp only [smallB, Bool.and_eq_true, decide_eq_true_eq] at this
      exact this.1
    have HSM := Lib.hid hsm'; clear hsm'
    by_cases hq0 : q = 0
    · subst hq0
      go_wp2_with (first
        | (go_at_call 14; refine (small_any HL.out HF1.out).mono ?_; rintro e w2 ⟨rfl, rfl⟩; rw [HSM.out])
        | (go_at_call 15; refine (new_no _ w1 (by decide)).mono ?_; rintro e w2 ⟨rfl, rfl⟩)
        | (go_at_call 22; refine (rnew_no _ w1 (by decide)).mono ?_; rintro e w2 ⟨rfl, rfl⟩))
      go_ret
      exact ⟨rfl, HF1.out⟩
    · go_wp2_with (first
        | (go_at_call 14; refine (small_any HL.out HF1.out).mono ?_; rintro e w2 ⟨rfl, rfl⟩; rw [HSM.out])
        | (go_at_call 15; refine (new_ok q w1 (by omega) (by omega)).mono ?_; rintro e w2 ⟨d, fd, rfl, hd2, hf2, hn2⟩; have HD2 := Lib.hid hd2; have HF2 := Lib.hid hf2; have HN2 := Lib.hid hn2; clear hd2 hf2 hn2))
      refine (rnew_ok q w2 (by omega) (by omega)).mono ?_
      rintro e w3 ⟨m, fm, rfl, hd3, hf3, hn3⟩
      have hT : PlaySt W d m q 0 w3 :=
        ⟨DM.new q, fd, fm, ⟨DiskAt.fr HD2.out hf3 (by simp), hd3, fun x hx hm => by have h1 := HD2.out.lt x hx; have h2 := hn3 x hm; omega, fun x hx => Nat.le_trans HF1.out.size (HN2.out x hx), fun x hx => Nat.le_trans (HF1.out.trans HF2.out (by simp)).size (hn3 x hx), (HF1.out.trans HF2.out (by simp)).trans hf3 (by simp)⟩, by simp [DM.new], by simp [DM.new]⟩
      have HT := Lib.hid hT; clear hT hd3 hf3 hn3 HD2 HF2 HN2 HF1
      go_wp2_with fail
      go_loopw [14] (PlayRel W d m q l.length) (fun i _ => l.length - (intOf i).toNat)
      case atStart => exact ⟨0, Nat.zero_le _, rfl, HT.out⟩
      case round =>
        obtain ⟨j, hj, rfl, D, fd', fm', hT, hDq, hDj⟩ := hrel
        have HTR := Lib.hid hT; have HDQ := Lib.hid hDq; have HDJ := Lib.hid hDj; clear hT HT hDq hDj
        by_cases hjl : j < l.length
        · obtain ⟨o, ho⟩ : ∃ o, l[j]? = some o := ⟨_, List.getElem?_eq_getElem hjl⟩
          obtain ⟨rfl, hat⟩ := HEL.out j o ho
          have hcs := hat.fr HTR.out.f
          obtain ⟨c0, c1, c2, c3⟩ := hcs
          obtain ⟨bA, bc, hbv⟩ : ∃ A c, o.bv = .slice A o.bs.length c := by obtain ⟨_, _, ⟨A, c, _, h, _⟩, _⟩ := hat.b; exact ⟨A, c, h⟩
          obtain ⟨kA, kc, hkv⟩ : ∃ A c, o.kv = .slice A o.ks.length c := by obtain ⟨_, _, ⟨A, c, _, h, _⟩, _⟩ := hat.k; exact ⟨A, c, h⟩
          rw [hbv] at c2
          rw [hkv] at c3
          have HAT := Lib.hid hat; have HBV := Lib.hid hbv; have HKV := Lib.hid hkv; clear hat ho hbv hkv
          go_upto_region 16 with fail
          have hT4 : Two (tD d D) (tR m D) W (wr.alloc (.cells #[.int .i64 o.what, .int .i64 o.place, .slice bA o.bs.length bc, .slice kA o.ks.length kc] 34)) fd' fm' := HTR.out.fr (locDisk _ _) (locRef _ _) ((Fr.refl [] wr).alloc _)
          have hB4 : Blk (wr.alloc (.cells #[.int .i64 o.what, .int .i64 o.place, .slice bA o.bs.length bc, .slice kA o.ks.length kc] 34)) wr.heap.size 34 [.int .i64 o.what, .int .i64 o.place, .slice bA o.bs.length bc, .slice kA o.ks.length kc] := Blk.new wr _ _
          have hob1 : wr.heap.size ∉ fd' := fun hm => by have := (locDisk _ _).lt HTR.out.a _ hm; omega
          have hob2 : wr.heap.size ∉ fm' := fun hm => by have := (locRef _ _).lt HTR.out.b _ hm; omega
          clear c0 c1 c2 c3
          generalize wr.alloc (.cells #[.int .i64 o.what, .int .i64 o.place, .slice bA o.bs.length bc, .slice kA o.ks.length kc] 34) = w4 at *
          generalize wr.heap.size = ob at *
          have c0 : w4.cell? ⟨ob, 0, none⟩ = some (.int .i64 o.what) := hB4.at_ rfl
          have c1 : w4.cell? ⟨ob, 1, none⟩ = some (.int .i64 o.place) := hB4.at_ rfl
          have c2 : w4.cell? ⟨ob, 2, none⟩ = some (.slice bA o.bs.length bc) := hB4.at_ rfl
          have c3 : w4.cell? ⟨ob, 3, none⟩ = some (.slice kA o.ks.length kc) := hB4.at_ rfl
          have hobd : ob ≠ d := fun e => hob1 (by rw [e]; exact DiskAt.mem hT4.a)
          have HT4 := Lib.hid hT4; have HB4 := Lib.hid hB4; have HOB1 := Lib.hid hob1; have HOB2 := Lib.hid hob2
          have hdn : D.done < 1099511627776 := by have := HDJ.out; omega
          have HDN := Lib.hid hdn
          have hkl : o.ks.length ≤ 9223372036854775807 := by have := HAT.out.k.1; unfold maxLen at this; omega
          have hpl : o.place ≤ 9223372036854775807 := by have := bounds_i64 HAT.out.w1; omega
          clear hT4 hB4 hob1 hob2 hdn HTR
          go_upto_block 2 with fail
          go_cut [] (fun wc => ∃ (D' : DM) (fd2 fm2 : List Nat), Two (tD d D') (tR m D') W wc fd2 fm2 ∧ D'.S.length = q ∧ D'.done ≤ j + 1 ∧ Blk wc ob 34 [.int .i64 o.what, .int .i64 o.place, .slice bA o.bs.length bc, .slice kA o.ks.length kc])
          case first =>
            by_cases h12 : o.what = 1 ∨ o.what = 2
            · have hwl := D.write_len o.place o.bs
              have HWL := Lib.hid hwl; clear hwl
              obtain ⟨g1, hg1, hg1b⟩ := HAT.out.b.here HT4.out.f
              rw [HBV.out] at hg1
              have HG1 := Lib.hid hg1; clear hg1
              rcases h12 with h1 | h2
              · have e1 : (o.what == 1) = true := beq_iff_eq.2 h1
                have HW1 := Lib.hid h1; clear h1
                go_wp2_with fail
                have hc12 : w4.cell? ⟨ob, 1, none⟩ = some (.int .i64 o.place) ∧ w4.cell? ⟨ob, 2, none⟩ = some (.slice bA o.bs.length bc) := ⟨c1, c2⟩
                refine wp_region_K (fun W' => W'.cell? ⟨ob, 1, none⟩ = some (.int .i64 o.place) ∧ W'.cell? ⟨ob, 2, none⟩ = some (.slice bA o.bs.length bc)) [0, 1, 2, 3, 4, 6, 7, 8, 9, 10] (by kernel_rfl) ?_
                refine wpAnyK_take (i := 0) (some 78) ?vpa0 rfl rfl (by kernel_rfl) (fun _ _ _ h => h) hc12 (.inl ⟨rfl, fun W hW => ?ypa0⟩) ?rpa0
                case ypa0 => (obtain ⟨s1, s2⟩ := hW; go_simp) <;> with_reducible rfl
                simp only [Act.put, List.setIfInBounds_toArray, List.set_cons_zero, List.set_cons_succ]
                refine wpAnyK_take (i := 1) (some 79) ?vpa1 rfl rfl (by kernel_rfl) (fun _ _ _ h => h) hc12 (.inl ⟨rfl, fun W hW => ?ypa1⟩) ?rpa1
                case ypa1 => (obtain ⟨s1, s2⟩ := hW; go_simp) <;> with_reducible rfl
                simp only [Act.put, List.setIfInBounds_toArray, List.set_cons_zero, List.set_cons_succ]
                refine wpAnyK_take (i := 2) (some 80) ?vpa2 rfl rfl (by kernel_rfl) (fun _ _ _ h => h) hc12 (.inl ⟨rfl, fun W hW => ?ypa2⟩) ?rpa2
                case ypa2 => (obtain ⟨s1, s2⟩ := hW; go_simp) <;> with_reducible rfl
                simp only [Act.put, List.setIfInBounds_toArray, List.set_cons_zero, List.set_cons_succ]
                refine wpAnyK_take (i := 3) (some 81) ?vpa3 rfl rfl (by kernel_rfl) (fun _ _ _ h => h) hc12 (.inl ⟨rfl, fun W hW => ?ypa3⟩) ?rpa3
                case ypa3 => (obtain ⟨s1, s2⟩ := hW; go_simp) <;> with_reducible rfl
                simp only [Act.put, List.setIfInBounds_toArray, List.set_cons_zero, List.set_cons_succ]
                refine wpAnyK_take (i := 4) (some 82) ?vpa4 rfl rfl (by kernel_rfl) (fun _ _ _ h => h) hc12 (.inl ⟨rfl, fun W hW => ?ypa4⟩) ?rpa4
                case ypa4 => (obtain ⟨s1, s2⟩ := hW; go_simp) <;> with_reducible rfl
                simp only [Act.put, List.setIfInBounds_toArray, List.set_cons_zero, List.set_cons_succ]
                refine wpAnyK_take (i := 6) (some 84) ?vpa6 rfl rfl (by kernel_rfl) (fun _ _ _ h => h) hc12 (.inl ⟨rfl, fun W hW => ?ypa6⟩) ?rpa6
                case ypa6 => (obtain ⟨s1, s2⟩ := hW; go_simp) <;> with_reducible rfl
                simp only [Act.put, List.setIfInBounds_toArray, List.set_cons_zero, List.set_cons_succ]
                refine wpAnyK_take (i := 7) (some 85) ?vpa7 rfl rfl (by kernel_rfl) (fun _ _ _ h => h) hc12 (.inl ⟨rfl, fun W hW => ?ypa7⟩) ?rpa7
                case ypa7 => (obtain ⟨s1, s2⟩ := hW; go_simp) <;> with_reducible rfl
                simp only [Act.put, List.setIfInBounds_toArray, List.set_cons_zero, List.set_cons_succ]
                refine wpAnyK_take (i := 8) (some 86) ?vpa8 rfl rfl (by kernel_rfl) (fun _ _ _ h => h) hc12 (.inl ⟨rfl, fun W hW => ?ypa8⟩) ?rpa8
                case ypa8 => (obtain ⟨s1, s2⟩ := hW; go_simp) <;> with_reducible rfl
                simp only [Act.put, List.setIfInBounds_toArray, List.set_cons_zero, List.set_cons_succ]
                refine wpAnyK_take (i := 9) (some 87) ?vpa9 rfl rfl (by kernel_rfl) (fun _ _ _ h => h) hc12 (.inl ⟨rfl, fun W hW => ?ypa9⟩) ?rpa9
                case ypa9 => (obtain ⟨s1, s2⟩ := hW; go_simp) <;> with_reducible rfl
                simp only [Act.put, List.setIfInBounds_toArray, List.set_cons_zero, List.set_cons_succ]
                refine wpAnyK_take (i := 10) (some 88) ?vpa10 rfl rfl (by kernel_rfl) (fun _ _ _ h => h) hc12 (.inl ⟨rfl, fun W hW => ?ypa10⟩) ?rpa10
                case ypa10 => (obtain ⟨s1, s2⟩ := hW; go_simp) <;> with_reducible rfl
                simp only [Act.put, List.setIfInBounds_toArray, List.set_cons_zero, List.set_cons_succ]
                refine wpAnyK_step (j := 5) (some 83) rfl rfl (by kernel_rfl) rfl fun K hK => ?_
                have hTd := HT4.out.fr (locDisk _ _) (locRef _ _) (Fr.refl [] w4).drew
                have hg1d := HG1.out.fr (Fr.refl [] w4).drew (by simp)
                have hmn : g1 ≠ m := by
                  have h1 := (locRef m D).lt hTd.b m (by obtain ⟨_, _, rfl, _⟩ := hTd.b; simp [rfp])
                  have h2 := hTd.lb m (by obtain ⟨_, _, rfl, _⟩ := hTd.b; simp [rfp])
                  have h3 : w4.drew.heap.size = w4.heap.size := rfl
                  omega
                refine wp_call_f (l := [.tmp 78, .tmp 80, .tmp 82]) rfl [.pointer (some ⟨d, 0, none⟩), .int .i64 o.place, .slice bA o.bs.length bc] rfl (enter_dwrite _) ((write_at hTd.a o.place _ o.bs g1 hg1d (hTd.d_ne hg1b) HDN.out).mono ?_)
                rintro e w5 ⟨rfl, hs5⟩
                obtain ⟨fd5, hT5⟩ := hTd.step1 (locRef _ _) (DStep.toStep hs5)
                obtain ⟨_, _, hf5, _⟩ := hs5
                have hB5 := (HB4.out.fr (Fr.refl [] w4).drew (by simp)).fr hf5 HOB1.out
                have hg5 := hg1d.fr hf5 (hTd.a_new hg1b)
                refine ⟨_, rfl, hK _ _ (fun _ => ⟨hB5.at_ rfl, hB5.at_ rfl⟩) ?_⟩
                simp only [Act.put, List.setIfInBounds_toArray, List.set_cons_zero, List.set_cons_succ]
                refine wpAnyK_step (j := 11) (some 89) rfl rfl (by kernel_rfl) rfl fun K hK => ?_
                refine wp_call_f (l := [.tmp 84, .tmp 86, .tmp 88]) rfl [.pointer (some ⟨m, 0, none⟩), .int .i64 o.place, .slice bA o.bs.length bc] rfl (enter_rwrite _) ((rwrite_at hT5.b o.place _ o.bs g1 hg5 hmn HDN.out).mono ?_)
                rintro e w6 ⟨rfl, hs6⟩
                obtain ⟨fm6, hT6⟩ := hT5.step2 (locDisk _ _) hs6
                obtain ⟨_, _, hf6, _⟩ := hs6
                have hB6 := hB5.fr hf6 HOB2.out
                refine ⟨_, rfl, hK _ _ (fun _ => ⟨hB6.at_ rfl, hB6.at_ rfl⟩) ?_⟩
                simp only [Act.put, List.setIfInBounds_toArray, List.set_cons_zero, List.set_cons_succ]
                refine wpAnyK_step (j := 12) (some 90) rfl rfl (by kernel_rfl) rfl fun K hK => ?_
                refine wp_run_value (v := .bool false) (w' := w6) (by go_simp) (hK _ _ (fun _ => ⟨hB6.at_ rfl, hB6.at_ rfl⟩) ?_)
                simp only [Act.put, List.setIfInBounds_toArray, List.set_cons_zero, List.set_cons_succ]
                refine wpAnyK_done (by kernel_rfl) ?_ _
                have HT6 := Lib.hid hT6; have HB6 := Lib.hid hB6
                clear hTd hg1d hmn hT5 hf5 hB5 hg5 hT6 hf6 hB6 hc12 c0 c1 c2 c3
                go_wp2_with fail
                go_meet
                exact ⟨_, _, _, HT6.out, by rw [HWL.out.1]; exact HDQ.out, by have h1 := HWL.out.2; have h2 := HDJ.out; omega, HB6.out⟩
              · have e1 : (o.what == 1) = false := beq_eq_false_iff_ne.2 (by omega)
                have e2 : (o.what == 2) = true := beq_iff_eq.2 h2
                have HW2 := Lib.hid h2; clear h2
                go_wp2_with fail
                have hc12 : w4.cell? ⟨ob, 1, none⟩ = some (.int .i64 o.place) ∧ w4.cell? ⟨ob, 2, none⟩ = some (.slice bA o.bs.length bc) := ⟨c1, c2⟩
                refine wp_region_K (fun W' => W'.cell? ⟨ob, 1, none⟩ = some (.int .i64 o.place) ∧ W'.cell? ⟨ob, 2, none⟩ = some (.slice bA o.bs.length bc)) [0, 1, 2, 3, 4, 6, 7, 8, 9, 10] (by kernel_rfl) ?_
                refine wpAnyK_take (i := 0) (some 78) ?vpb0 rfl rfl (by kernel_rfl) (fun _ _ _ h => h) hc12 (.inl ⟨rfl, fun W hW => ?ypb0⟩) ?rpb0
                case ypb0 => (obtain ⟨s1, s2⟩ := hW; go_simp) <;> with_reducible rfl
                simp only [Act.put, List.setIfInBounds_toArray, List.set_cons_zero, List.set_cons_succ]
                refine wpAnyK_take (i := 1) (some 79) ?vpb1 rfl rfl (by kernel_rfl) (fun _ _ _ h => h) hc12 (.inl ⟨rfl, fun W hW => ?ypb1⟩) ?rpb1
                case ypb1 => (obtain ⟨s1, s2⟩ := hW; go_simp) <;> with_reducible rfl
                simp only [Act.put, List.setIfInBounds_toArray, List.set_cons_zero, List.set_cons_succ]
                refine wpAnyK_take (i := 2) (some 80) ?vpb2 rfl rfl (by kernel_rfl) (fun _ _ _ h => h) hc12 (.inl ⟨rfl, fun W hW => ?ypb2⟩) ?rpb2
                case ypb2 => (obtain ⟨s1, s2⟩ := hW; go_simp) <;> with_reducible rfl
                simp only [Act.put, List.setIfInBounds_toArray, List.set_cons_zero, List.set_cons_succ]
                refine wpAnyK_take (i := 3) (some 81) ?vpb3 rfl rfl (by kernel_rfl) (fun _ _ _ h => h) hc12 (.inl ⟨rfl, fun W hW => ?ypb3⟩) ?rpb3
                case ypb3 => (obtain ⟨s1, s2⟩ := hW; go_simp) <;> with_reducible rfl
                simp only [Act.put, List.setIfInBounds_toArray, List.set_cons_zero, List.set_cons_succ]
                refine wpAnyK_take (i := 4) (some 82) ?vpb4 rfl rfl (by kernel_rfl) (fun _ _ _ h => h) hc12 (.inl ⟨rfl, fun W hW => ?ypb4⟩) ?rpb4
                case ypb4 => (obtain ⟨s1, s2⟩ := hW; go_simp) <;> with_reducible rfl
                simp only [Act.put, List.setIfInBounds_toArray, List.set_cons_zero, List.set_cons_succ]
                refine wpAnyK_take (i := 6) (some 84) ?vpb6 rfl rfl (by kernel_rfl) (fun _ _ _ h => h) hc12 (.inl ⟨rfl, fun W hW => ?ypb6⟩) ?rpb6
                case ypb6 => (obtain ⟨s1, s2⟩ := hW; go_simp) <;> with_reducible rfl
                simp only [Act.put, List.setIfInBounds_toArray, List.set_cons_zero, List.set_cons_succ]
                refine wpAnyK_take (i := 7) (some 85) ?vpb7 rfl rfl (by kernel_rfl) (fun _ _ _ h => h) hc12 (.inl ⟨rfl, fun W hW => ?ypb7⟩) ?rpb7
                case ypb7 => (obtain ⟨s1, s2⟩ := hW; go_simp) <;> with_reducible rfl
                simp only [Act.put, List.setIfInBounds_toArray, List.set_cons_zero, List.set_cons_succ]
                refine wpAnyK_take (i := 8) (some 86) ?vpb8 rfl rfl (by kernel_rfl) (fun _ _ _ h => h) hc12 (.inl ⟨rfl, fun W hW => ?ypb8⟩) ?rpb8
                case ypb8 => (obtain ⟨s1, s2⟩ := hW; go_simp) <;> with_reducible rfl
                simp only [Act.put, List.setIfInBounds_toArray, List.set_cons_zero, List.set_cons_succ]
                refine wpAnyK_take (i := 9) (some 87) ?vpb9 rfl rfl (by kernel_rfl) (fun _ _ _ h => h) hc12 (.inl ⟨rfl, fun W hW => ?ypb9⟩) ?rpb9
                case ypb9 => (obtain ⟨s1, s2⟩ := hW; go_simp) <;> with_reducible rfl
                simp only [Act.put, List.setIfInBounds_toArray, List.set_cons_zero, List.set_cons_succ]
                refine wpAnyK_take (i := 10) (some 88) ?vpb10 rfl rfl (by kernel_rfl) (fun _ _ _ h => h) hc12 (.inl ⟨rfl, fun W hW => ?ypb10⟩) ?rpb10
                case ypb10 => (obtain ⟨s1, s2⟩ := hW; go_simp) <;> with_reducible rfl
                simp only [Act.put, List.setIfInBounds_toArray, List.set_cons_zero, List.set_cons_succ]
                refine wpAnyK_step (j := 5) (some 83) rfl rfl (by kernel_rfl) rfl fun K hK => ?_
                have hTd := HT4.out.fr (locDisk _ _) (locRef _ _) (Fr.refl [] w4).drew
                have hg1d := HG1.out.fr (Fr.refl [] w4).drew (by simp)
                have hmn : g1 ≠ m := by
                  have h1 := (locRef m D).lt hTd.b m (by obtain ⟨_, _, rfl, _⟩ := hTd.b; simp [rfp])
                  have h2 := hTd.lb m (by obtain ⟨_, _, rfl, _⟩ := hTd.b; simp [rfp])
                  have h3 : w4.drew.heap.size = w4.heap.size := rfl
                  omega
                refine wp_call_f (l := [.tmp 78, .tmp 80, .tmp 82]) rfl [.pointer (some ⟨d, 0, none⟩), .int .i64 o.place, .slice bA o.bs.length bc] rfl (enter_dwrite _) ((write_at hTd.a o.place _ o.bs g1 hg1d (hTd.d_ne hg1b) HDN.out).mono ?_)
                rintro e w5 ⟨rfl, hs5⟩
                obtain ⟨fd5, hT5⟩ := hTd.step1 (locRef _ _) (DStep.toStep hs5)
                obtain ⟨_, _, hf5, _⟩ := hs5
                have hB5 := (HB4.out.fr (Fr.refl [] w4).drew (by simp)).fr hf5 HOB1.out
                have hg5 := hg1d.fr hf5 (hTd.a_new hg1b)
                refine ⟨_, rfl, hK _ _ (fun _ => ⟨hB5.at_ rfl, hB5.at_ rfl⟩) ?_⟩
                simp only [Act.put, List.setIfInBounds_toArray, List.set_cons_zero, List.set_cons_succ]
                refine wpAnyK_step (j := 11) (some 89) rfl rfl (by kernel_rfl) rfl fun K hK => ?_
                refine wp_call_f (l := [.tmp 84, .tmp 86, .tmp 88]) rfl [.pointer (some ⟨m, 0, none⟩), .int .i64 o.place, .slice bA o.bs.length bc] rfl (enter_rwrite _) ((rwrite_at hT5.b o.place _ o.bs g1 hg5 hmn HDN.out).mono ?_)
                rintro e w6 ⟨rfl, hs6⟩
                obtain ⟨fm6, hT6⟩ := hT5.step2 (locDisk _ _) hs6
                obtain ⟨_, _, hf6, _⟩ := hs6
                have hB6 := hB5.fr hf6 HOB2.out
                refine ⟨_, rfl, hK _ _ (fun _ => ⟨hB6.at_ rfl, hB6.at_ rfl⟩) ?_⟩
                simp only [Act.put, List.setIfInBounds_toArray, List.set_cons_zero, List.set_cons_succ]
                refine wpAnyK_step (j := 12) (some 90) rfl rfl (by kernel_rfl) rfl fun K hK => ?_
                refine wp_run_value (v := .bool false) (w' := w6) (by go_simp) (hK _ _ (fun _ => ⟨hB6.at_ rfl, hB6.at_ rfl⟩) ?_)
                simp only [Act.put, List.setIfInBounds_toArray, List.set_cons_zero, List.set_cons_succ]
                refine wpAnyK_done (by kernel_rfl) ?_ _
                have HT6 := Lib.hid hT6; have HB6 := Lib.hid hB6
                clear hTd hg1d hmn hT5 hf5 hB5 hg5 hT6 hf6 hB6 hc12 c0 c1 c2 c3
                go_wp2_with fail
                go_meet
                exact ⟨_, _, _, HT6.out, by rw [HWL.out.1]; exact HDQ.out, by have h1 := HWL.out.2; have h2 := HDJ.out; omega, HB6.out⟩
            · have e1 : (o.what == 1) = false := beq_eq_false_iff_ne.2 (by omega)
              have e2 : (o.what == 2) = false := beq_eq_false_iff_ne.2 (by omega)
              clear h12
              by_cases h3 : o.what = 3
              · have e3 : (o.what == 3) = true := beq_iff_eq.2 h3
                have HW3 := Lib.hid h3; clear h3
                go_wp2_with fail
                have hwl := D.sync_len
                have HWL := Lib.hid hwl; clear hwl
                refine (sync_at HT4.out.a HDN.out).mono ?_
                rintro e w5 ⟨rfl, hs5⟩
                obtain ⟨fd5, hT5⟩ := HT4.out.step1 (locRef _ _) (DStep.toStep hs5)
                obtain ⟨_, _, hf5, _⟩ := hs5
                have hB5 := HB4.out.fr hf5 HOB1.out
                have HT5 := Lib.hid hT5; have HB5 := Lib.hid hB5; clear hT5 hf5 hB5 c0 c1 c2 c3
                go_wp2_with fail
                refine (rsync_at HT5.out.b HDN.out).mono ?_
                rintro e w6 ⟨rfl, hs6⟩
                obtain ⟨fm6, hT6⟩ := HT5.out.step2 (locDisk _ _) hs6
                obtain ⟨_, _, hf6, _⟩ := hs6
                have hB6 := HB5.out.fr hf6 HOB2.out
                have HT6 := Lib.hid hT6; have HB6 := Lib.hid hB6; clear hT6 hf6 hB6
                go_wp2_with fail
                go_meet
                exact ⟨_, _, _, HT6.out, by rw [HWL.out.1]; exact HDQ.out, by have h1 := HWL.out.2; have h2 := HDJ.out; omega, HB6.out⟩
              · have e3 : (o.what == 3) = false := beq_eq_false_iff_ne.2 h3
                clear h3
                by_cases h4 : o.what = 4
                · have e4 : (o.what == 4) = true := beq_iff_eq.2 h4
                  have HW4 := Lib.hid h4; clear h4
                  go_wp2_with fail
                  refine (limit_at HT4.out.a o.place hpl).mono ?_
                  rintro e w5 ⟨rfl, hs5⟩
                  obtain ⟨fd5, hT5⟩ := HT4.out.step1 (locRef _ _) (DStep.toStep hs5)
                  obtain ⟨_, _, hf5, _⟩ := hs5
                  have hB5 := HB4.out.fr hf5 HOB1.out
                  have c15 : w5.cell? ⟨ob, 1, none⟩ = some (.int .i64 o.place) := hB5.at_ rfl
                  have HT5 := Lib.hid hT5; have HB5 := Lib.hid hB5; clear hT5 hf5 hB5 c0 c1 c2 c3
                  go_wp2_with fail
                  refine (rlimit_at HT5.out.b o.place hpl).mono ?_
                  rintro e w6 ⟨rfl, hs6⟩
                  obtain ⟨fm6, hT6⟩ := HT5.out.step2 (locDisk _ _) hs6
                  obtain ⟨_, _, hf6, _⟩ := hs6
                  have hB6 := HB5.out.fr hf6 HOB2.out
                  have HT6 := Lib.hid hT6; have HB6 := Lib.hid hB6; clear hT6 hf6 hB6 c15
                  go_wp2_with fail
                  go_meet
                  exact ⟨_, _, _, HT6.out, HDQ.out, by have h2 := HDJ.out; show D.done ≤ _; omega, HB6.out⟩
                · have e4 : (o.what == 4) = false := beq_eq_false_iff_ne.2 h4
                  clear h4
                  by_cases h5 : o.what = 5
                  · have e5 : (o.what == 5) = true := beq_iff_eq.2 h5
                    have HW5 := Lib.hid h5; clear h5
                    have hwl := D.reopen_len o.ks
                    have HWL := Lib.hid hwl; clear hwl
                    obtain ⟨g1, hg1, hg1b⟩ := HAT.out.k.here HT4.out.f
                    rw [HKV.out] at hg1
                    have HG1 := Lib.hid hg1; clear hg1
                    go_wp2_with fail
                    refine (reopen_at HT4.out.a _ o.ks g1 HG1.out (HT4.out.a_new hg1b) hkl).mono ?_
                    rintro e w5 ⟨rfl, hs5⟩
                    obtain ⟨fd5, hT5⟩ := HT4.out.step1 (locRef _ _) (DStep.toStep hs5)
                    obtain ⟨_, _, hf5, _⟩ := hs5
                    have hB5 := HB4.out.fr hf5 HOB1.out
                    have hg5 := HG1.out.fr hf5 (HT4.out.a_new hg1b)
                    have c35 : w5.cell? ⟨ob, 3, none⟩ = some (.slice kA o.ks.length kc) := hB5.at_ rfl
                    have hgm : g1 ∉ fm' := fun hm => by
                      have h1 := (locRef m D).lt HT4.out.b _ hm
                      have h2 := HT4.out.lb _ hm
                      omega
                    have HT5 := Lib.hid hT5; have HB5 := Lib.hid hB5; have HG5 := Lib.hid hg5; have HGM := Lib.hid hgm; clear hT5 hf5 hB5 hg5 hgm c0 c1 c2 c3
                    go_wp2_with fail
                    refine (ropen_at HT5.out.b _ o.ks g1 HG5.out HGM.out hkl).mono ?_
                    rintro e w6 ⟨rfl, hs6⟩
                    obtain ⟨fm6, hT6⟩ := HT5.out.step2 (locDisk _ _) hs6
                    obtain ⟨_, _, hf6, _⟩ := hs6
                    have hB6 := HB5.out.fr hf6 HOB2.out
                    have HT6 := Lib.hid hT6; have HB6 := Lib.hid hB6; clear hT6 hf6 hB6 c35
                    go_wp2_with fail
                    go_meet
                    exact ⟨_, _, _, HT6.out, by rw [HWL.out.1]; exact HDQ.out, by have h1 := HWL.out.2; have h2 := HDJ.out; omega, HB6.out⟩
                  · have e5 : (o.what == 5) = false := beq_eq_false_iff_ne.2 h5
                    clear h5
                    go_wp2_with fail
                    go_meet
                    exact ⟨_, _, _, HT4.out, HDQ.out, by have h2 := HDJ.out; omega, HB4.out⟩
          case rest =>
            obtain ⟨D', fd2, fm2, hT5, hq5, hj5, hB5⟩ := hcut
            have c1' : wc.cell? ⟨ob, 1, none⟩ = some (.int .i64 o.place) := hB5.at_ rfl
            have HT5 := Lib.hid hT5; have HJ5 := Lib.hid hj5; have HB5 := Lib.hid hB5
            clear hT5 hj5 hB5 c0 c1 c2 c3
            go_wp2_with fail
            refine (read_at HT5.out.a o.place).mono ?_
            rintro e w6 ⟨v6, g6, rfl, hb6, hg6, hf6, _, _⟩
            have hT6 := HT5.out.fr (locDisk _ _) (locRef _ _) hf6
            have c16 : w6.cell? ⟨ob, 1, none⟩ = some (.int .i64 o.place) := (HB5.out.fr hf6 (by simp)).at_ rfl
            have HT6 := Lib.hid hT6; have HB6 := Lib.hid hb6; clear hT6 hb6 hg6 hf6 c1'
            go_wp2_with fail
            refine (rread_at HT6.out.b o.place).mono ?_
            rintro e w7 ⟨v7, g7, rfl, hb7, hg7, hf7, _⟩
            have hT7 := HT6.out.fr (locDisk _ _) (locRef _ _) hf7
            have hb6 := HB6.out.fr hf7 (by simp)
            have k1 := fun nq : Nat => run_string_of (P := Try.prog) (dst := 9) Try.underlying22 Try.underlying5 Try.underlying9 (hb6.fr ((Fr.refl [] w7).drewN nq) (by simp))
            have k2 := fun nq : Nat => run_string_of (P := Try.prog) (dst := 9) Try.underlying22 Try.underlying5 Try.underlying9 (hb7.fr ((Fr.refl [] w7).drewN nq) (by simp))
            obtain ⟨sv, pv, hfm, hR⟩ := hT7.b
            have r3 := hR.c3; have r4 := hR.c4; have r1 := hR.c1
            obtain ⟨pA, pc, hpv, _, _⟩ := own_shape hR.2.2.1
            rw [hpv] at r1
            have hDd : ∀ nq : Nat, DiskAt (w7.drewN nq) d D' fd2 := fun nq => DiskAt.fr hT7.a ((Fr.refl [] w7).drewN nq) (by simp)
            have HDD := Lib.hid hDd; have HT7 := Lib.hid hT7
            clear hT7 hb6 hb7 hg7 hf7 hR hpv hfm hDd c16
            generalize (⟨(D'.read o.place).toArray⟩ : ByteArray) = rs at *
            go_wp2_with fail
            go_quiet (first
              | (go_at_call 28; exact quietL (dead_at (HDD.out _)))
              | (go_at_call 21; exact quietL (writes_at (HDD.out _)))
              | (go_at_call 29; exact quietL (pending_at (HDD.out _)))
              | (go_at_call 30; exact quietL (size_at (HDD.out _))))
            have hT8 := HT7.out.fr (locDisk _ _) (locRef _ _) ((Fr.refl [] w7).drewN nq)
            have HT8 := Lib.hid hT8; have HQ5 := Lib.hid hq5; clear hT8 hq5
            go_wp2_with fail
            go_roundw
            case rel => exact ⟨j + 1, by omega, by go_num, D', fd2, fm2, HT8.out, HQ5.out, HJ5.out⟩
            case measure => simp [intOf]; omega
        · go_wp2_with fail
          go_ret
          exact ⟨rfl, HTR.out.f⟩

end Go.Proofs.Ytbgcbikgjedkkaa
