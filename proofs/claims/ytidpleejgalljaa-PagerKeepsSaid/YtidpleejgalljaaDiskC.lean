/-
  The contract of Write: for every disk, place and bytes.
-/
import Derived.Test.YtidpleejgalljaaDiskB
import Derived.Test.YtidpleejgalljaaRegion
namespace Go.Proofs.Ytidpleejgalljaa
open Go.RowKit

theorem build_pend (k : Int) (w : World) : (Instr.build 71 #[(0, .int .i64 k)]).run Try.prog w = .ok (.agg (.int .i64 k :: z64).toArray) w := by kernel_rfl

theorem DStep.same {w : World} {d : Nat} {D : DM} {fp : List Nat} (h : DiskAt w d D fp) : DStep w w d D fp := ⟨fp, h, Fr.refl _ _, fun _ hk => .inl hk⟩

set_option maxRecDepth 100000 in
set_option maxHeartbeats 400000 in
theorem write_dead {w : World} {d bb : Nat} {lv : Value} {D : DM} (h : DiskIn w d bb lv D) (hdead : D.dead = true) (k : Int) (v : Value) :
    Calls Try.prog 43 #[.pointer (some ⟨d, 0, none⟩), .int .i64 k, v] w fun e w' => e = .returned (.int .i64 10) ∧ w = w' := by
  go_enter Try.func43, Try.ntmps43
  go_wp2_with (go_at_call 28; refine (gone_in h).mono ?_; rintro e w' ⟨rfl, rfl⟩)
  go_ret
  exact ⟨rfl, rfl⟩
theorem write_nil (w : World) (k : Int) (v : Value) :
    Calls Try.prog 43 #[.pointer none, .int .i64 k, v] w fun e w' => e = .returned (.int .i64 10) ∧ w = w' := by
  go_enter Try.func43, Try.ntmps43
  go_wp2_with (go_at_call 28; refine (gone_nil w).mono ?_; rintro e w' ⟨rfl, rfl⟩)
  go_ret
  exact ⟨rfl, rfl⟩
set_option maxRecDepth 100000 in
set_option maxHeartbeats 400000 in
theorem write_arg {w : World} {d bb : Nat} {lv : Value} {D : DM} (h : DiskIn w d bb lv D) (hdead : D.dead = false) (k : Int) (A : Option Addr) (n c : Nat) (hk : k < 0 ∨ (D.S.length : Int) ≤ k ∨ 64 < n) :
    Calls Try.prog 43 #[.pointer (some ⟨d, 0, none⟩), .int .i64 k, .slice A n c] w fun e w' => e = .returned (.int .i64 1) ∧ w = w' := by
  by_cases h1 : k < 0
  · clear hk
    go_enter Try.func43, Try.ntmps43
    go_wp2_with (first | (go_at_call 28; refine (gone_in h).mono ?_; rintro e w' ⟨rfl, rfl⟩) | (go_at_call 25; refine (size_in h).mono ?_; rintro e w' ⟨rfl, rfl⟩))
    go_ret
    exact ⟨rfl, rfl⟩
  · by_cases h2 : (D.S.length : Int) ≤ k
    · clear hk
      go_enter Try.func43, Try.ntmps43
      go_wp2_with (first | (go_at_call 28; refine (gone_in h).mono ?_; rintro e w' ⟨rfl, rfl⟩) | (go_at_call 25; refine (size_in h).mono ?_; rintro e w' ⟨rfl, rfl⟩))
      go_ret
      exact ⟨rfl, rfl⟩
    · have h3 : 64 < n := by omega
      clear hk
      go_enter Try.func43, Try.ntmps43
      go_wp2_with (first | (go_at_call 28; refine (gone_in h).mono ?_; rintro e w' ⟨rfl, rfl⟩) | (go_at_call 25; refine (size_in h).mono ?_; rintro e w' ⟨rfl, rfl⟩))
      go_ret
      exact ⟨rfl, rfl⟩
set_option maxRecDepth 100000 in
set_option maxHeartbeats 400000 in
theorem write_lim {w : World} {d bb : Nat} {lv : Value} {D : DM} (h : DiskIn w d bb lv D) (hdead : D.dead = false) (k : Nat) (hk : k < D.S.length) (A : Option Addr) (n c : Nat) (hn : n ≤ 64) (hl : D.limit = 0) :
    Calls Try.prog 43 #[.pointer (some ⟨d, 0, none⟩), .int .i64 k, .slice A n c] w fun e w' => e = .returned (.int .i64 10) ∧ DiskIn w' d bb lv D.died ∧ Fr [d] w w' := by
  have HL := Lib.hid hl; clear hl
  go_enter Try.func43, Try.ntmps43
  go_wp2_with (first
    | (go_at_call 28; refine (gone_in h).mono ?_; rintro e w' ⟨rfl, rfl⟩)
    | (go_at_call 25; refine (size_in h).mono ?_; rintro e w' ⟨rfl, rfl⟩)
    | (go_at_call 55; refine (spend_no h HL.out).mono ?_; rintro e w' ⟨rfl, hd', hf'⟩))
  go_ret
  exact ⟨rfl, hd', hf'⟩

theorem write_eq {D : DM} (hdead : D.dead = false) {k : Nat} (hk : k < D.S.length) {bs : List UInt8} (hn : bs.length ≤ 64) (hl : D.limit ≠ 0) : D.write (k : Int) bs = { D.spent with P := D.P ++ [(k, pad bs)] } := by
  unfold DM.write
  rw [if_neg (by simp [hdead]), if_neg (by omega), if_neg hl]
  simp
theorem splice_pend (k : Nat) (bs : List UInt8) (_ : bs.length ≤ 64) : splice (Value.int .i64 (k : Int) :: z64) 1 (bcells bs) = Value.int .i64 (k : Int) :: bcells (pad bs) := by
  have e : z64.drop bs.length = bcells (List.replicate (64 - bs.length) 0) := by
    rw [z64, ← bcells_drop, List.drop_replicate]
  simp only [splice, pad, bcells_append, bcells_len, List.take_succ_cons, List.take_zero, List.cons_append, List.nil_append, Nat.add_comm 1, List.drop_succ_cons, e]

set_option maxRecDepth 100000 in
set_option maxHeartbeats 1000000 in
theorem write_ok {w : World} {d bb : Nat} {lv : Value} {D : DM} (h : DiskIn w d bb lv D) (hdead : D.dead = false) (k : Nat) (hk : k < D.S.length) (v : Value) (bs : List UInt8) (gs : Nat) (hv : BytesAt w v bs gs) (hgs : gs ≠ d)
    (hn : bs.length ≤ 64) (hl : D.limit ≠ 0) (hdone : D.done < 1099511627776) :
    Calls Try.prog 43 #[.pointer (some ⟨d, 0, none⟩), .int .i64 k, v] w fun e w' => e = .returned (.int .i64 0) ∧ DStep w w' d { D.spent with P := D.P ++ [(k, pad bs)] } (dfp d bb lv) := by
  obtain ⟨A, c, off, rfl, hc, hb⟩ := hv
  have hfew := h.2.2.2.few
  have hokw : DM.ok { D.spent with P := D.P ++ [(k, pad bs)] } := by
    have h0 := DM.ok_write h.2.2.2 (k : Int) bs
    rwa [write_eq hdead hk hn hl] at h0
  have HOKW := Lib.hid hokw; clear hokw
  have HL := Lib.hid hl; clear hl
  have HB := Lib.hid hb; clear hb
  have HDN := Lib.hid hdone; clear hdone
  have H := Lib.hid h; clear h
  go_enter Try.func43, Try.ntmps43
  go_wp2_with (first
    | (go_at_call 28; refine (gone_in H.out).mono ?_; rintro e w' ⟨rfl, rfl⟩)
    | (go_at_call 25; refine (size_in H.out).mono ?_; rintro e w' ⟨rfl, rfl⟩)
    | (go_at_call 55; refine (spend_yes H.out HL.out HDN.out).mono ?_; rintro e w1 ⟨rfl, hd1, hf1⟩; have HD1 := Lib.hid hd1; have HF1 := Lib.hid hf1; clear hd1 hf1)
    | (with_reducible refine wpList_build1 rfl 71 0 (.tmp 29) rfl (.int .i64 (k : Int)) _ rfl (build_pend _ _) ?_)
    | (with_reducible refine wpList_alloc_z rfl 71 rfl zp zpc zero_pend rfl ?_)
    | (with_reducible refine wpList_store_z (W := w1) rfl 71 (.tmp 7) (.tmp 30) rfl (.int .i64 (k : Int) :: z64) rfl rfl rfl ?zi ?zl ?z1 ?_))
  case zi => simp [size_pend, z64_len]
  case zl => simp [z64_len]; rfl
  case z1 => exact fun v hv => pend_one (k, List.replicate 64 0) v hv
  intro w2 hb2 hf2 hz2
  have hfs : Fr [d] w w2 := HF1.out.trans hf2 (by simp)
  have hd2 : DiskIn w2 d bb lv D.spent := HD1.out.fr hf2 (by simp)
  have hsrc : BytesAt w2 (.slice A bs.length c) bs gs := BytesAt.fr (w := w) ⟨A, c, off, rfl, hc, HB.out⟩ hfs (by simpa using hgs)
  have HB2 := Lib.hid hb2; clear hb2
  have HF2 := Lib.hid hfs; clear hfs hf2
  have HD2 := Lib.hid hd2; clear hd2
  have HS2 := Lib.hid hsrc; clear hsrc HB
  have HZ2 := Lib.hid hz2; clear hz2 H
  go_wp2_with (with_reducible refine wpList_copy_blk rfl (.tmp 32) (.tmp 33) 35 35 rfl 5 Try.underlying35 size_u8 _ _ _ _ _ _ rfl rfl w1.heap.size 1 (.int .i64 (k : Int) :: z64) 71 HB2.out (bcells bs) ?cn ?cp ?cf (bcells_one _) ?_)
  case cn => rw [bcells_len]; exact (Nat.min_eq_left hn).symm
  case cp =>
    intro h0
    obtain ⟨A', c', off', hv', _, hb'⟩ := HS2.out
    injection hv' with hA _ _
    obtain ⟨hA', hcell⟩ := hb' (by rw [bcells_len] at h0; exact h0)
    refine ⟨⟨gs, off', none⟩, by rw [hA, hA'], fun j v hj => ?_⟩
    rw [Addr.add_mid]
    exact hcell j v hj
  case cf => simp [bcells_len, z64_len]; omega
  intro w3 hb3 hf3 hz3
  rw [splice_pend k bs hn] at hb3
  have hne : ∀ x ∈ dfp d bb lv, x ∉ [w1.heap.size] := fun x hx hm => by
    have := HD1.out.lt x hx
    simp only [List.mem_singleton] at hm
    omega
  have hd3 : DiskIn w3 d bb lv D.spent := HD2.out.fr hf3 hne
  have hfw3 : Fr [d] w w3 := HF2.out.trans hf3 (by have := HF1.out.size; simp; omega)
  have HNE := Lib.hid hne
  clear hne hf3 HB2 HD2 HF2 HS2
  generalize w1.heap.size = q at *
  obtain ⟨cs, hcs⟩ : ∃ cs, cs = (Value.int .i64 (k : Int) :: bcells (pad bs)) := ⟨_, rfl⟩
  rw [← hcs] at hb3
  have hcl : cs.length = 65 := by rw [hcs]; simp [bcells_len, pad_len hn]
  have hc1 : ∀ v ∈ cs, v.oneCell' = true := by rw [hcs]; exact pend_one (k, pad bs)
  have c1 := hd3.c1
  obtain ⟨i0, hi0⟩ : ∃ i0, Try.prog.info? 71 = some i0 := by
    cases h : Try.prog.info? 71 with
    | none => have := size_pend; rw [h] at this; cases this
    | some i => exact ⟨i, rfl⟩
  have hz0 : i0.zero = some zp := by have := zero_pend; rw [hi0] at this; simpa using this
  have hz12 : i0.size = 65 ∧ i0.bytes = 72 := by have := info_pend; rw [hi0] at this; simpa using this
  have hown := hd3.2.2.1
  have HD3 := Lib.hid hd3; have HB3 := Lib.hid hb3; have HCL := Lib.hid hcl; have HC1 := Lib.hid hc1; have HCS := Lib.hid hcs
  have HI0 := Lib.hid hi0; have HZ0 := Lib.hid hz0; have HZ12 := Lib.hid hz12; have HOWN := Lib.hid hown; have HFW3 := Lib.hid hfw3
  clear hd3 hb3 hcl hc1 hcs hi0 hz0 hz12 hown hfw3 hz3 hdead
  go_wp2_with fail
  refine wp_region_K (fun W => W.cell? ⟨d, 1, none⟩ = some lv ∧ Blk W q 71 cs) [0, 1, 2, 3, 4, 5] (by kernel_rfl) ?_
  refine wpAnyK_take (i := 0) (some 35) (.pointer (some ⟨d, 0, none⟩)) rfl rfl (by kernel_rfl) (fun _ _ _ h => h) ⟨c1, HB3.out⟩ (.inl ⟨rfl, fun _ _ => rfl⟩) ?_
  simp only [Act.put, List.setIfInBounds_toArray, List.set_cons_zero, List.set_cons_succ]
  refine wpAnyK_take (i := 1) (some 36) (.pointer (some ⟨d, 0, none⟩)) rfl rfl (by kernel_rfl) (fun _ _ _ h => h) ⟨c1, HB3.out⟩ (.inl ⟨rfl, fun _ _ => rfl⟩) ?_
  simp only [Act.put, List.setIfInBounds_toArray, List.set_cons_zero, List.set_cons_succ]
  refine wpAnyK_take (i := 2) (some 37) (.pointer (some ⟨d, 0, none⟩)) rfl rfl (by kernel_rfl) (fun _ _ _ h => h) ⟨c1, HB3.out⟩ (.inl ⟨rfl, fun _ _ => rfl⟩) ?_
  simp only [Act.put, List.setIfInBounds_toArray, List.set_cons_zero, List.set_cons_succ]
  refine wpAnyK_take (i := 3) (some 38) (.pointer (some ⟨d, 1, none⟩)) rfl rfl (by kernel_rfl) (fun _ _ _ h => h) ⟨c1, HB3.out⟩ (.inl ⟨rfl, fun W hW => by go_simp⟩) ?_
  simp only [Act.put, List.setIfInBounds_toArray, List.set_cons_zero, List.set_cons_succ]
  refine wpAnyK_take (i := 4) (some 39) lv rfl rfl (by kernel_rfl) (fun _ _ _ h => h) ⟨c1, HB3.out⟩ (.inl ⟨rfl, fun W hW => by have c := hW.1; go_simp⟩) ?_
  simp only [Act.put, List.setIfInBounds_toArray, List.set_cons_zero, List.set_cons_succ]
  refine wpAnyK_take (i := 5) (some 40) (.agg cs.toArray) rfl rfl (by kernel_rfl) (fun _ _ _ h => h) ⟨c1, HB3.out⟩ (yieldsIf_load_mid rfl 71 (.tmp 7) rfl q 0 rfl cs _ (fun W hW j v hj => by rw [Nat.zero_add]; exact hW.2.at_ hj) Try.underlying71 rfl (by rw [HCL.out]; exact size_pend)) ?_
  simp only [Act.put, List.setIfInBounds_toArray, List.set_cons_zero, List.set_cons_succ]
  have e3 : w3.drew.heap.size = w3.heap.size := rfl
  have hfa : Fr [] w3 (w3.drew.alloc (.cells cs.toArray 71)) := (Fr.refl [] w3).drew.alloc _
  have hcw : (w3.drew.alloc (.cells cs.toArray 71)).cell? ⟨d, 1, none⟩ = some lv := (HD3.out.fr hfa (by simp)).c1
  have hbw : Blk (w3.drew.alloc (.cells cs.toArray 71)) q 71 cs := HB3.out.fr hfa (by simp)
  have hnw : Blk (w3.drew.alloc (.cells cs.toArray 71)) w3.heap.size 71 cs := Blk.new w3.drew _ cs
  have how := own_fr HOWN.out hfa (by simp)
  refine wpAnyK_step (j := 6) (some 41) rfl rfl (by kernel_rfl) rfl fun K hK => ?_
  refine wp_build_one (.tmp 40) rfl Try.underlying53 HI0.out HZ0.out cs rfl (by rw [HZ12.out.1, HCL.out]) (by rw [HCL.out]; rfl) (by rw [HCL.out]; omega) (by rw [HCL.out]; omega) (hK _ _ (fun _ => ⟨hcw, hbw⟩) ?_)
  simp only [Act.put, List.setIfInBounds_toArray, List.set_cons_zero, List.set_cons_succ]
  refine wpAnyK_step (j := 7) (some 42) rfl rfl (by kernel_rfl) rfl fun K hK => ?_
  refine wp_append_lies _ (.tmp 39) (.tmp 41) 53 rfl 0 71 i0 zp 65 72 Try.underlying53 HI0.out HZ0.out HZ12.out.1 HZ12.out.2 rfl (by omega) lv D.P.length (pcells D.P) rfl how
    ⟨w3.heap.size, 0, none⟩ 1 1 cs rfl (by rw [HCL.out]) (fun j u hu => by rw [Addr.add_mid, Nat.zero_add]; exact hnw.at_ hu) HC1.out (by omega) ?_ ?_ (Nat.zero_le _) _ rfl ?_
  · have := HDN.out; unfold maxLen; omega
  · have := HDN.out; omega
  intro g cap w4 hown4 hg4 hat4 hlt4
  have hsz4 : (w3.drew.alloc (.cells cs.toArray 71)).heap.size = w3.heap.size + 1 := by simp
  have hn4 : ∀ g', lv.ownBlock = some g' → g' ∈ dfp d bb lv ∨ w3.heap.size ≤ g' := fun g' hg' => .inl (by simp [dfp, hg'])
  have hf4 : Fr (dfp d bb lv) w3 w4 := ((hfa.mono (by simp)).grown hg4 hn4)
  have hdb4 := (HD3.out.1.fr hfa (by simp)).grown hg4 (fun e => HD3.out.ne2 e.symm)
  have hbb4 := (HD3.out.2.1.fr hfa (by simp)).grown hg4 (fun e => HD3.out.ne3 e.symm)
  have c14 : w4.cell? ⟨d, 1, none⟩ = some lv := hdb4.at_ rfl
  have f14 := hdb4.free 1
  have hbq4 : Blk w4 q 71 cs := hbw.grown hg4 (fun e => HNE.out q (by simp [dfp, ← e]) (by simp))
  refine hK _ _ (fun _ => ⟨c14, hbq4⟩) ?_
  simp only [Act.put, List.setIfInBounds_toArray, List.set_cons_zero, List.set_cons_succ]
  refine wpAnyK_step (j := 8) (some 43) rfl rfl (by kernel_rfl) rfl fun K hK => ?_
  refine wp_run_value (v := .pointer (some ⟨d, 0, none⟩)) (w' := w4) rfl (hK _ _ (fun h => absurd h (by decide +kernel)) ?_)
  simp only [Act.put, List.setIfInBounds_toArray, List.set_cons_zero, List.set_cons_succ]
  refine wpAnyK_step (j := 9) (some 44) rfl rfl (by kernel_rfl) rfl fun K hK => ?_
  refine wp_run_value (v := .pointer (some ⟨d, 1, none⟩)) (w' := w4) (by go_simp) (hK _ _ (fun h => absurd h (by decide +kernel)) ?_)
  simp only [Act.put, List.setIfInBounds_toArray, List.set_cons_zero, List.set_cons_succ]
  refine wpAnyK_step (j := 10) none rfl rfl (by kernel_rfl) rfl fun K hK => ?_
  refine wp_run_skip (w' := w4.setCell ⟨d, 1, none⟩ (.slice (some ⟨g, 0, none⟩) (D.P.length + 1) cap)) (by go_simp) (hK _ _ (fun h => absurd h (by decide +kernel)) ?_)
  simp only [Act.put]
  refine wpAnyK_done (by kernel_rfl) ?_ _
  go_wp2
  go_ret
  have hf5 : Fr (dfp d bb lv) w3 (w4.setCell ⟨d, 1, none⟩ (.slice (some ⟨g, 0, none⟩) (D.P.length + 1) cap)) := hf4.setCell (by simp [dfp]) _
  have hgd : g ≠ d := by
    rcases hat4 with h | h
    · exact fun e => HD3.out.ne2 (e ▸ h)
    · have := HD3.out.1.lt; rw [hsz4] at h; omega
  have hgb : bb ≠ d := HD3.out.ne1.symm
  have hfin : Fr (dfp d bb lv) w (w4.setCell ⟨d, 1, none⟩ (.slice (some ⟨g, 0, none⟩) (D.P.length + 1) cap)) := (HFW3.out.mono (by simp [dfp])).trans hf5 (fun x hx => .inl hx)
  refine ⟨rfl, dfp d bb (.slice (some ⟨g, 0, none⟩) (D.P.length + 1) cap), ⟨bb, _, rfl, ?_, ?_, ?_, ?_⟩, hfin, ?_⟩
  · have := hdb4.set_ 1 (.slice (some ⟨g, 0, none⟩) (D.P.length + 1) cap)
    simpa [DM.spent] using this
  · exact hbb4.far (by simpa using hgb) _
  · have e : pcells (D.P ++ [(k, pad bs)]) = pcells D.P ++ cs := by rw [pcells_append, HCS.out]; simp [pcells]
    have h := own_fr hown4 ((Fr.refl [d] w4).setCell (p := ⟨d, 1, none⟩) (by simp) (.slice (some ⟨g, 0, none⟩) (D.P.length + 1) cap)) (by simpa [Value.ownBlock] using hgd)
    simpa [e] using h
  · exact HOKW.out
  · have := HFW3.out.size
    intro x hx
    simp only [dfp, List.mem_cons, Value.ownBlock, Option.toList, List.not_mem_nil, or_false] at hx
    rcases hx with rfl | rfl | rfl
    · simp [dfp]
    · simp [dfp]
    · rcases hat4 with h | h
      · left; simp [dfp, h]
      · right; rw [hsz4] at h; omega

/-- Write, whatever is handed in. -/
theorem write_at {w : World} {d : Nat} {D : DM} {fp : List Nat} (h : DiskAt w d D fp) (k : Int) (v : Value) (bs : List UInt8) (gs : Nat) (hv : BytesAt w v bs gs) (hgs : gs ≠ d) (hdone : D.done < 1099511627776) :
    Calls Try.prog 43 #[.pointer (some ⟨d, 0, none⟩), .int .i64 k, v] w fun e w' => e = .returned (.int .i64 (D.writeE k bs)) ∧ DStep w w' d (D.write k bs) fp := by
  have hA := h
  obtain ⟨bb, lv, rfl, h⟩ := h
  by_cases hdead : D.dead = true
  · refine (write_dead h hdead k v).mono ?_
    rintro e w' ⟨rfl, rfl⟩
    simp only [DM.writeE, DM.write, hdead, if_true]
    exact ⟨trivial, DStep.same hA⟩
  · have hdead : D.dead = false := by simpa using hdead
    obtain ⟨A, c, off, rfl, hc, hb⟩ := hv
    by_cases hk : k < 0 ∨ (D.S.length : Int) ≤ k ∨ 64 < bs.length
    · refine (write_arg h hdead k A bs.length c hk).mono ?_
      rintro e w' ⟨rfl, rfl⟩
      simp only [DM.writeE, DM.write, hdead, if_false, hk, if_true, Bool.false_eq_true]
      exact ⟨trivial, DStep.same hA⟩
    · obtain ⟨n, rfl⟩ := Int.eq_ofNat_of_zero_le (show 0 ≤ k by omega)
      by_cases hl : D.limit = 0
      · refine (write_lim h hdead n (by omega) A bs.length c (by omega) hl).mono ?_
        rintro e w' ⟨rfl, hd', hf'⟩
        simp only [DM.writeE, DM.write, hdead, if_false, hk, if_true, Bool.false_eq_true, hl]
        exact ⟨trivial, _, ⟨bb, lv, rfl, hd'⟩, hf'.mono (by simp [dfp]), fun _ hx => .inl hx⟩
      · refine (write_ok h hdead n (by omega) _ bs gs ⟨A, c, off, rfl, hc, hb⟩ hgs (by omega) hl hdone).mono ?_
        rintro e w' ⟨rfl, hd'⟩
        rw [write_eq hdead (by omega) (by omega) hl]
        refine ⟨?_, hd'⟩
        simp only [DM.writeE, hdead, if_false, hk, Bool.false_eq_true, hl]

end Go.Proofs.Ytidpleejgalljaa
