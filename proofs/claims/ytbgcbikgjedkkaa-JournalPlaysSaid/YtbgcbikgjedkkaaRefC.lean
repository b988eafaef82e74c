/-
  The contract of the reference disk's Write. For every disk.
-/
import Derived.Test.YtbgcbikgjedkkaaRefB
namespace Go.Proofs.Ytbgcbikgjedkkaa
open Go.RowKit

theorem cat_pad (bs : List UInt8) (h : bs.length ≤ 64) : ((⟨bs.toArray⟩ : ByteArray) ++ (⟨zero64.toArray⟩ : ByteArray)).extract 0 64 = ⟨(pad bs).toArray⟩ := by
  have e : (bs ++ zero64).take 64 = pad bs := by
    rw [pad, List.take_append, List.take_of_length_le h, zero64, List.take_replicate]
    congr 2
    omega
  apply ByteArray.ext
  rw [ByteArray.data_extract, ByteArray.data_append]
  apply Array.ext'
  simp only [Array.toList_extract, Array.toList_append, List.extract_eq_take_drop, List.drop_zero, Nat.sub_zero]
  exact e

set_option maxRecDepth 100000 in
set_option maxHeartbeats 400000 in
theorem rwrite_dead {w : World} {m : Nat} {sv pv : Value} {D : DM} (h : RefIn w m sv pv D) (hdead : D.dead = true) (k : Int) (v : Value) :
    Calls Try.prog 23 #[.pointer (some ⟨m, 0, none⟩), .int .i64 k, v] w fun e w' => e = .returned (.int .i64 10) ∧ w = w' := by
  have c3 := h.c3
  rw [hdead] at c3
  clear h
  go_enter Try.func23, Try.ntmps23
  go_wp2
  go_ret
  exact ⟨rfl, rfl⟩
set_option maxRecDepth 100000 in
set_option maxHeartbeats 400000 in
theorem rwrite_arg {w : World} {m : Nat} {sv pv : Value} {D : DM} (h : RefIn w m sv pv D) (hdead : D.dead = false) (k : Int) (A : Option Addr) (n c : Nat) (hk : k < 0 ∨ (D.S.length : Int) ≤ k ∨ 64 < n) :
    Calls Try.prog 23 #[.pointer (some ⟨m, 0, none⟩), .int .i64 k, .slice A n c] w fun e w' => e = .returned (.int .i64 1) ∧ w = w' := by
  have c3 := h.c3; have c0 := h.c0
  rw [hdead] at c3
  obtain ⟨sA, sc, hsv, _, _⟩ := own_shape h.2.1
  rw [hsv] at c0
  clear h hsv
  by_cases h1 : k < 0
  · clear hk
    go_enter Try.func23, Try.ntmps23
    go_wp2
    go_ret
    exact ⟨rfl, rfl⟩
  · by_cases h2 : (D.S.length : Int) ≤ k
    · clear hk
      go_enter Try.func23, Try.ntmps23
      go_wp2
      go_ret
      exact ⟨rfl, rfl⟩
    · have h3 : 64 < n := by omega
      clear hk
      go_enter Try.func23, Try.ntmps23
      go_wp2
      go_ret
      exact ⟨rfl, rfl⟩
set_option maxRecDepth 100000 in
set_option maxHeartbeats 400000 in
theorem rwrite_lim {w : World} {m : Nat} {sv pv : Value} {D : DM} (h : RefIn w m sv pv D) (hdead : D.dead = false) (k : Nat) (hk : k < D.S.length) (A : Option Addr) (n c : Nat) (hn : n ≤ 64) (hl : D.limit = 0) :
    Calls Try.prog 23 #[.pointer (some ⟨m, 0, none⟩), .int .i64 k, .slice A n c] w fun e w' => e = .returned (.int .i64 10) ∧ RefIn w' m sv pv D.died ∧ Fr [m] w w' := by
  have c3 := h.c3; have c0 := h.c0
  rw [hdead] at c3
  obtain ⟨sA, sc, hsv, _, _⟩ := own_shape h.2.1
  rw [hsv] at c0
  have H := Lib.hid h; have HL := Lib.hid hl; clear h hl hsv
  go_enter Try.func23, Try.ntmps23
  go_wp2_with (go_at_call 49; refine (rspend_no H.out HL.out).mono ?_; rintro e w' ⟨rfl, hd', hf'⟩)
  go_ret
  exact ⟨rfl, hd', hf'⟩

set_option maxRecDepth 100000 in
set_option maxHeartbeats 1000000 in
theorem rwrite_ok {w : World} {m : Nat} {sv pv : Value} {D : DM} (h : RefIn w m sv pv D) (hdead : D.dead = false) (k : Nat) (hk : k < D.S.length) (v : Value) (bs : List UInt8) (gs : Nat) (hv : BytesAt w v bs gs) (hgs : gs ≠ m)
    (hn : bs.length ≤ 64) (hl : D.limit ≠ 0) (hdone : D.done < 1099511627776) :
    Calls Try.prog 23 #[.pointer (some ⟨m, 0, none⟩), .int .i64 k, v] w fun e w' => e = .returned (.int .i64 0) ∧ Step (tR m { D.spent with P := D.P ++ [(k, pad bs)] }) w w' (rfp m sv pv) := by
  obtain ⟨A, c, off, rfl, hc, hb⟩ := id hv
  obtain ⟨i0, hi0, hz0, hz1, hz2⟩ := info_parts info_write
  have HI0 := Lib.hid hi0; have HZ0 := Lib.hid hz0; have HZ1 := Lib.hid hz1; have HZ2 := Lib.hid hz2; clear hi0 hz0 hz1 hz2
  have c3 := h.c3; have c0 := h.c0
  rw [hdead] at c3
  obtain ⟨sA, sc, hsv, _, _⟩ := own_shape h.2.1
  rw [hsv] at c0
  have hfew := h.2.2.2.few
  have hokw : DM.ok { D.spent with P := D.P ++ [(k, pad bs)] } := by
    have h0 := DM.ok_write h.2.2.2 (k : Int) bs
    rwa [write_eq hdead hk hn hl] at h0
  have HOKW := Lib.hid hokw; have HL := Lib.hid hl; have HV := Lib.hid hv; have HDN := Lib.hid hdone; have H := Lib.hid h; have HSV := Lib.hid hsv
  clear hokw hl hv hdone h hb hsv
  go_enter Try.func23, Try.ntmps23
  go_wp2_with (go_at_call 49; refine (rspend_yes H.out HL.out HDN.out).mono ?_; rintro e w1 ⟨rfl, hd1, hf1⟩; have HD1 := Lib.hid hd1; have HF1 := Lib.hid hf1; clear hd1 hf1)
  have hv1 : BytesAt w1 (.slice A bs.length c) bs gs := HV.out.fr HF1.out (by simpa using hgs)
  refine wp_region_K (fun W => BytesAt W (.slice A bs.length c) bs gs) [0, 1] (by kernel_rfl) ?_
  refine wpAnyK_take (i := 0) (some 31) (.slice A bs.length c) rfl rfl (by kernel_rfl) (fun _ _ _ h => h) hv1 (.inl ⟨rfl, fun _ _ => rfl⟩) ?_
  simp only [Act.put, List.setIfInBounds_toArray, List.set_cons_zero, List.set_cons_succ]
  refine wpAnyK_take (i := 1) (some 32) (.string ⟨bs.toArray⟩) rfl rfl (by kernel_rfl) (fun _ _ _ h => h) hv1 (.inl ⟨rfl, fun W hW => ?yc⟩) ?_
  case yc =>
    have k1 := run_string_of (P := Try.prog) (dst := 9) Try.underlying22 Try.underlying5 Try.underlying9 hW
    show (convert 22 9 (.slice A bs.length c) >>= fun v => pure (Next.value v)).run Try.prog W = _
    rw [Sem.run_bind, k1]
    rfl
  simp only [Act.put, List.setIfInBounds_toArray, List.set_cons_zero, List.set_cons_succ]
  refine wpAnyK_step (j := 2) (some 33) rfl rfl (by kernel_rfl) rfl fun K hK => ?_
  refine wp_call_f (l := []) rfl [] rfl (enter_zeros _) ((zeros_any _).mono ?_)
  rintro e w2 ⟨rfl, hf2⟩
  have hf2' : Fr [] w1 w2 := (Fr.refl [] w1).drew.trans hf2 (by simp)
  refine ⟨_, rfl, hK _ _ (fun _ => hv1.fr hf2' (by simp)) ?_⟩
  simp only [Act.put, List.setIfInBounds_toArray, List.set_cons_zero, List.set_cons_succ]
  have hcp := cat_pad bs hn
  have hsb : (⟨bs.toArray⟩ : ByteArray).size ≤ 64 := by simpa [ByteArray.size] using hn
  have hzb : (⟨zero64.toArray⟩ : ByteArray).size ≤ 64 := by decide
  have hct : 64 ≤ ((⟨bs.toArray⟩ : ByteArray) ++ (⟨zero64.toArray⟩ : ByteArray)).size := by
    rw [ByteArray.size_append]
    have : (⟨zero64.toArray⟩ : ByteArray).size = 64 := by decide
    omega
  rw [show str zero64 = .string ⟨zero64.toArray⟩ from rfl]
  generalize (⟨bs.toArray⟩ : ByteArray) = sb at *
  generalize (⟨zero64.toArray⟩ : ByteArray) = zb at *
  have hsum : ¬ (9223372036854775807 < sb.size + zb.size) := by omega
  obtain ⟨pb, hpb⟩ : ∃ pb, (⟨(pad bs).toArray⟩ : ByteArray) = pb := ⟨_, rfl⟩
  rw [hpb] at hcp
  have HPB := Lib.hid hpb; clear hpb
  refine wpAnyK_step (j := 3) (some 34) rfl rfl (by kernel_rfl) rfl fun K hK => ?_
  refine wp_run_value (v := .string (sb ++ zb)) (w' := w2) (by go_simp) (hK _ _ (fun _ => hv1.fr hf2' (by simp)) ?_)
  simp only [Act.put, List.setIfInBounds_toArray, List.set_cons_zero, List.set_cons_succ]
  refine wpAnyK_step (j := 4) (some 7) rfl rfl (by kernel_rfl) rfl fun K hK => ?_
  refine wp_run_value (v := .string (sb ++ zb)) (w' := w2) (rfl) (hK _ _ (fun _ => hv1.fr hf2' (by simp)) ?_)
  simp only [Act.put, List.setIfInBounds_toArray, List.set_cons_zero, List.set_cons_succ]
  refine wpAnyK_done (by kernel_rfl) ?_ _
  have hd2 := HD1.out.fr hf2' (by simp)
  have hfw2 : Fr [m] w w2 := HF1.out.trans hf2' (by simp)
  clear hsum
  generalize sb ++ zb = cat at *
  have hct' : (64 : Int) ≤ (cat.size : Int) := by omega
  have HCP := Lib.hid hcp; have HD2 := Lib.hid hd2; have HFW2 := Lib.hid hfw2
  have c1 := hd2.c1
  clear hcp hd2 hfw2 hf2 hf2' hv1 HD1 HF1 HV c0 c3 hsb hzb
  go_wp2_with fail
  refine wp_region_K (fun W => W.cell? ⟨m, 1, none⟩ = some pv) [0, 1, 2, 3, 4, 5, 6, 7, 8] (by kernel_rfl) ?_
  refine wpAnyK_take (i := 0) (some 35) ?vw0 rfl rfl (by kernel_rfl) (fun _ _ _ h => h) c1 (.inl ⟨rfl, fun W hW => ?yw0⟩) ?rw0
  case yw0 => go_simp <;> with_reducible rfl
  simp only [Act.put, List.setIfInBounds_toArray, List.set_cons_zero, List.set_cons_succ]
  refine wpAnyK_take (i := 1) (some 36) ?vw1 rfl rfl (by kernel_rfl) (fun _ _ _ h => h) c1 (.inl ⟨rfl, fun W hW => ?yw1⟩) ?rw1
  case yw1 => go_simp <;> with_reducible rfl
  simp only [Act.put, List.setIfInBounds_toArray, List.set_cons_zero, List.set_cons_succ]
  refine wpAnyK_take (i := 2) (some 37) ?vw2 rfl rfl (by kernel_rfl) (fun _ _ _ h => h) c1 (.inl ⟨rfl, fun W hW => ?yw2⟩) ?rw2
  case yw2 => go_simp <;> with_reducible rfl
  simp only [Act.put, List.setIfInBounds_toArray, List.set_cons_zero, List.set_cons_succ]
  refine wpAnyK_take (i := 3) (some 38) ?vw3 rfl rfl (by kernel_rfl) (fun _ _ _ h => h) c1 (.inl ⟨rfl, fun W hW => ?yw3⟩) ?rw3
  case yw3 => go_simp <;> with_reducible rfl
  simp only [Act.put, List.setIfInBounds_toArray, List.set_cons_zero, List.set_cons_succ]
  refine wpAnyK_take (i := 4) (some 39) ?vw4 rfl rfl (by kernel_rfl) (fun _ _ _ h => h) c1 (.inl ⟨rfl, fun W hW => ?yw4⟩) ?rw4
  case yw4 => go_simp <;> with_reducible rfl
  simp only [Act.put, List.setIfInBounds_toArray, List.set_cons_zero, List.set_cons_succ]
  refine wpAnyK_take (i := 5) (some 40) ?vw5 rfl rfl (by kernel_rfl) (fun _ _ _ h => h) c1 (.inl ⟨rfl, fun W hW => ?yw5⟩) ?rw5
  case yw5 => go_simp <;> with_reducible rfl
  simp only [Act.put, List.setIfInBounds_toArray, List.set_cons_zero, List.set_cons_succ]
  refine wpAnyK_take (i := 6) (some 41) ?vw6 rfl rfl (by kernel_rfl) (fun _ _ _ h => h) c1 (.inl ⟨rfl, fun W hW => ?yw6⟩) ?rw6
  case yw6 => go_simp <;> with_reducible rfl
  simp only [Act.put, List.setIfInBounds_toArray, List.set_cons_zero, List.set_cons_succ]
  refine wpAnyK_take (i := 7) (some 42) ?vw7 rfl rfl (by kernel_rfl) (fun _ _ _ h => h) c1 (.inl ⟨rfl, fun W hW => ?yw7⟩) ?rw7
  case yw7 => go_simp <;> with_reducible rfl
  simp only [Act.put, List.setIfInBounds_toArray, List.set_cons_zero, List.set_cons_succ]
  refine wpAnyK_take (i := 8) (some 43) ?vw8 rfl rfl (by kernel_rfl) (fun _ _ _ h => h) c1 (.inl ⟨rfl, fun W hW => ?yw8⟩) ?rw8
  case yw8 => go_simp <;> with_reducible rfl
  simp only [Act.put, List.setIfInBounds_toArray, List.set_cons_zero, List.set_cons_succ]
  rw [show cat.extract 0 64 = pb from HCP.out]
  have hf3 : Fr [] w2 (w2.drew.alloc (.cells #[.int .i64 (k : Int), .string pb] 81)) := (Fr.refl [] w2).drew.alloc _
  have c3 : (w2.drew.alloc (.cells #[.int .i64 (k : Int), .string pb] 81)).cell? ⟨m, 1, none⟩ = some pv := (HD2.out.fr hf3 (by simp)).c1
  have ho3 := own_fr HD2.out.2.2.1 hf3 (by simp)
  have hnw : Blk (w2.drew.alloc (.cells #[.int .i64 (k : Int), .string pb] 81)) w2.heap.size 81 [.int .i64 (k : Int), .string pb] := Blk.new w2.drew _ _
  refine wpAnyK_step (j := 9) (some 44) rfl rfl (by kernel_rfl) rfl fun K hK => ?_
  refine wp_run_value (v := .slice (some ⟨w2.heap.size, 0, none⟩) 1 1) (w' := w2.drew.alloc (.cells #[.int .i64 (k : Int), .string pb] 81)) (by go_simp) (hK _ _ (fun _ => c3) ?_)
  simp only [Act.put, List.setIfInBounds_toArray, List.set_cons_zero, List.set_cons_succ]
  refine wpAnyK_step (j := 10) (some 45) rfl rfl (by kernel_rfl) rfl fun K hK => ?_
  refine wp_append_lies _ (.tmp 39) (.tmp 44) 46 rfl 0 81 i0 (.agg #[.int .i64 0, .string ByteArray.empty]) 2 24 Try.underlying46 HI0.out HZ0.out HZ1.out HZ2.out rfl (by omega) pv D.P.length (wcells D.P) rfl ho3 ⟨w2.heap.size, 0, none⟩ 1 1 [.int .i64 (k : Int), .string pb] rfl rfl (fun j u hu => by rw [Addr.add_mid, Nat.zero_add]; exact hnw.at_ hu) (by intro u hu; simp at hu; rcases hu with rfl | rfl <;> rfl) (by omega) (by have := HDN.out; unfold maxLen; omega) (by have := HDN.out; omega) (Nat.zero_le _) _ rfl ?_
  intro g cap w4 hown4 hg4 hat4 hlt4
  have hsz : (w2.drew.alloc (.cells #[.int .i64 (k : Int), .string pb] 81)).heap.size = w2.heap.size + 1 := by simp
  have hb4 := (HD2.out.1.fr hf3 (by simp)).grown hg4 (fun e => HD2.out.ne2 e.symm)
  have c4 : w4.cell? ⟨m, 1, none⟩ = some pv := hb4.at_ rfl
  have f4 := hb4.free 1
  refine hK _ _ (fun _ => c4) ?_
  simp only [Act.put, List.setIfInBounds_toArray, List.set_cons_zero, List.set_cons_succ]
  refine wpAnyK_step (j := 11) (some 46) rfl rfl (by kernel_rfl) rfl fun K hK => ?_
  refine wp_run_value (v := .pointer (some ⟨m, 0, none⟩)) (w' := w4) (rfl) (hK _ _ (fun h => absurd h (by decide +kernel)) ?_)
  simp only [Act.put, List.setIfInBounds_toArray, List.set_cons_zero, List.set_cons_succ]
  refine wpAnyK_step (j := 12) (some 47) rfl rfl (by kernel_rfl) rfl fun K hK => ?_
  refine wp_run_value (v := .pointer (some ⟨m, 1, none⟩)) (w' := w4) (by go_simp) (hK _ _ (fun h => absurd h (by decide +kernel)) ?_)
  simp only [Act.put, List.setIfInBounds_toArray, List.set_cons_zero, List.set_cons_succ]
  refine wpAnyK_step (j := 13) none rfl rfl (by kernel_rfl) rfl fun K hK => ?_
  refine wp_run_skip (w' := w4.setCell ⟨m, 1, none⟩ (.slice (some ⟨g, 0, none⟩) (D.P.length + 1) cap)) (by go_simp) (hK _ _ (fun h => absurd h (by decide +kernel)) ?_)
  simp only [Act.put, List.setIfInBounds_toArray, List.set_cons_zero, List.set_cons_succ]
  refine wpAnyK_done (by kernel_rfl) ?_ _
  go_wp2
  go_ret
  have hn4 : ∀ g', pv.ownBlock = some g' → g' ∈ rfp m sv pv ∨ w2.heap.size ≤ g' := fun g' hg' => .inl (by simp [rfp, hg'])
  have hf4 : Fr (rfp m sv pv) w2 w4 := (hf3.mono (by simp)).grown hg4 hn4
  have hf5 : Fr (rfp m sv pv) w2 (w4.setCell ⟨m, 1, none⟩ (.slice (some ⟨g, 0, none⟩) (D.P.length + 1) cap)) := hf4.setCell (by simp [rfp]) _
  have hfin : Fr (rfp m sv pv) w (w4.setCell ⟨m, 1, none⟩ (.slice (some ⟨g, 0, none⟩) (D.P.length + 1) cap)) := (HFW2.out.mono (by simp [rfp])).trans hf5 (fun x hx => .inl hx)
  have hgd : g ≠ m := by
    rcases hat4 with h | h
    · exact fun e => HD2.out.ne2 (e ▸ h)
    · have := HD2.out.1.lt; rw [hsz] at h; omega
  have hstf : Fr [m] w4 (w4.setCell ⟨m, 1, none⟩ (.slice (some ⟨g, 0, none⟩) (D.P.length + 1) cap)) := (Fr.refl [m] w4).setCell (by simp) _
  have hns : ∀ x, sv.ownBlock = some x → x ∉ [m] := fun x hx hm => by simp only [List.mem_singleton] at hm; exact HD2.out.ne1 (hm ▸ hx)
  refine ⟨rfl, rfp m sv (.slice (some ⟨g, 0, none⟩) (D.P.length + 1) cap), ⟨sv, _, rfl, ?_, ?_, ?_, HOKW.out⟩, hfin, ?_⟩
  · have := hb4.set_ 1 (.slice (some ⟨g, 0, none⟩) (D.P.length + 1) cap)
    simpa [DM.spent] using this
  · refine own_fr ((own_fr HD2.out.2.1 hf3 (by simp)).kept hg4 ?_) hstf hns
    cases hx : sv.ownBlock with
    | none => exact .inl rfl
    | some x => exact .inr (fun e => HD2.out.ne3 hx e.symm)
  · have e : wcells (D.P ++ [(k, pad bs)]) = wcells D.P ++ [.int .i64 (k : Int), .string pb] := by rw [wcells_append]; simp [wcells, str, HPB.out]
    have h := own_fr hown4 hstf (by simpa [Value.ownBlock] using hgd)
    simpa [e] using h
  · have := HFW2.out.size
    intro x hx
    simp only [rfp, List.mem_cons, List.mem_append, Option.mem_toList] at hx
    rcases hx with rfl | hx | hx
    · simp [rfp]
    · left; simp [rfp, hx]
    · have hx' : g = x := by simpa [Value.ownBlock] using hx
      subst hx'
      rcases hat4 with h | h
      · left; simp [rfp, h]
      · right; rw [hsz] at h; omega

/-- Write, whatever is handed in. -/
theorem rwrite_at {w : World} {m : Nat} {D : DM} {f : List Nat} (h : RefAt w m D f) (k : Int) (v : Value) (bs : List UInt8) (gs : Nat) (hv : BytesAt w v bs gs) (hgs : gs ≠ m) (hdone : D.done < 1099511627776) :
    Calls Try.prog 23 #[.pointer (some ⟨m, 0, none⟩), .int .i64 k, v] w fun e w' => e = .returned (.int .i64 (D.writeE k bs)) ∧ Step (tR m (D.write k bs)) w w' f := by
  have hA := h
  obtain ⟨sv, pv, rfl, h⟩ := h
  by_cases hdead : D.dead = true
  · refine (rwrite_dead h hdead k v).mono ?_
    rintro e w' ⟨rfl, rfl⟩
    simp only [DM.writeE, DM.write, hdead, if_true]
    exact ⟨trivial, _, hA, Fr.refl _ _, fun _ hk => .inl hk⟩
  · have hdead : D.dead = false := by simpa using hdead
    obtain ⟨A, c, off, rfl, hc, hb⟩ := hv
    by_cases hk : k < 0 ∨ (D.S.length : Int) ≤ k ∨ 64 < bs.length
    · refine (rwrite_arg h hdead k A bs.length c hk).mono ?_
      rintro e w' ⟨rfl, rfl⟩
      simp only [DM.writeE, DM.write, hdead, if_false, hk, if_true, Bool.false_eq_true]
      exact ⟨trivial, _, hA, Fr.refl _ _, fun _ hk => .inl hk⟩
    · obtain ⟨n, rfl⟩ := Int.eq_ofNat_of_zero_le (show 0 ≤ k by omega)
      by_cases hl : D.limit = 0
      · refine (rwrite_lim h hdead n (by omega) A bs.length c (by omega) hl).mono ?_
        rintro e w' ⟨rfl, hd', hf'⟩
        simp only [DM.writeE, DM.write, hdead, if_false, hk, if_true, Bool.false_eq_true, hl]
        exact ⟨trivial, hd'.rstep (hf'.mono (by simp [rfp])) (fun _ hx => .inl hx)⟩
      · refine (rwrite_ok h hdead n (by omega) _ bs gs ⟨A, c, off, rfl, hc, hb⟩ hgs (by omega) hl hdone).mono ?_
        rintro e w' ⟨rfl, hd'⟩
        rw [write_eq hdead (by omega) (by omega) hl]
        refine ⟨?_, hd'⟩
        simp only [DM.writeE, hdead, if_false, hk, Bool.false_eq_true, hl]

end Go.Proofs.Ytbgcbikgjedkkaa
