/-
  The walk of PagerDirty: for all inputs it answers true and leaves old memory alone.
-/
import Derived.Test.YtidpleejgalljaaPg
import Derived.Test.YtidpleejgalljaaBits
import Derived.Test.YtidpleejgalljaaRegIn
namespace Go.Proofs.Ytidpleejgalljaa
open Go.RowKit

theorem BytesAt.pre {w : World} {A : Option Addr} {n c g : Nat} {bs : List UInt8} (h : BytesAt w (.slice A n c) bs g) {m : Nat} (hm : m ≤ bs.length) : BytesAt w (.slice A m c) (bs.take m) g := by
  obtain ⟨A', c', off, hv, hc, hb⟩ := h
  injection hv with h1 h2 h3
  subst h1 h3
  have hl : (bs.take m).length = m := by rw [List.length_take]; omega
  refine ⟨_, _, off, by rw [hl], by rw [hl]; omega, fun h0 => ?_⟩
  rw [hl] at h0
  obtain ⟨h4, h5⟩ := hb (by omega)
  refine ⟨h4, fun j u hu => h5 j u ?_⟩
  rw [bcells_take, List.getElem?_take] at hu
  split at hu
  · exact hu
  · cases hu
theorem make512 (w : World) : (Instr.makeSlice 35 (.int .i64 512) (.int .i64 512)).run Try.prog w = .ok (.slice (some ⟨w.heap.size, 0, none⟩) 512 512) (w.alloc (.cells (bcells zpage).toArray 5)) := by kernel_rfl
theorem pad_take (b : List UInt8) : (pad512 b).take b.length = b := by unfold pad512; rw [List.take_left' rfl]
/-- The facts of the law, at once. -/
structure DirtyF (a b : List UInt8) (k j : Nat) (s : PS) : Prop where
  br1 : s.br = false
  n1 : s.n = 4
  done : s.D.done = 0
  e : (s.write k a).commit.2 = 0
  n3 : (s.write k a).commit.1.n = 4
  br3 : (s.write k a).commit.1.br = false
  calm3 : Calm (s.write k a).commit.1
  pk : (((s.write k a).commit.1).write k b).page k = pad512 b
  pj : (((s.write k a).commit.1).write k b).page j = if j = k then pad512 b else zpage
  len : (((s.write k a).commit.1).write k b).late.length = 1
  pz : ({ ((s.write k a).commit.1).write k b with late := [] } : PS).page k = pad512 a
theorem dirty_facts {a b : List UInt8} {k j : Nat} (ha : a.length ≤ 512) (hb : b.length ≤ 512) (hk : k < 4) (hj : j < 4) {D : DM} {H : PgM} (hD : D = DM.new 100) (hi : PInv 1 (openP 4 60 D H) fun _ => zpage) : DirtyF a b k j (openP 4 60 D H) := by
  have hl0 : (openP 4 60 D H).late = [] := rfl
  have hi2 : PInv 1 ((openP 4 60 D H).write k a) fun _ => zpage := hi.wrote hk (pad512_len ha)
  have hp1 : ∀ (x : List UInt8), putP [] k x = [(k, x)] := fun x => rfl
  obtain ⟨f1, f2, f3, f4, f5, f6⟩ := hi2.free (by omega) (by subst hD; rfl) (by show 514 * 1 + 48 ≤ 48 * 60; decide) (by show 2 ≤ 60; omega)
  have c1 : ∀ i, over (fun _ => zpage) ((openP 4 60 D H).write k a).late i = if i = k then pad512 a else zpage := fun i => by
    show (getP (putP [] k (pad512 a)) i).getD _ = _
    rw [getP_put]
    by_cases hik : i = k
    · rw [if_pos hik, if_pos hik]; rfl
    · rw [if_neg hik, if_neg hik]; rfl
  have f2' := f2.congr (fun i _ => c1 i)
  have n3 : ((openP 4 60 D H).write k a).commit.1.n = 4 := f4
  have hi4 : PInv 4 ((((openP 4 60 D H).write k a).commit.1).write k b) _ := f2'.wrote (by rw [n3]; exact hk) (pad512_len hb)
  have hl4 : ((((openP 4 60 D H).write k a).commit.1).write k b).late = [(k, pad512 b)] := by
    show putP ((openP 4 60 D H).write k a).commit.1.late k (pad512 b) = _
    rw [f3, hp1]
  have hg : ∀ i, getP [(k, pad512 b)] i = if i = k then some (pad512 b) else none := fun i => by rw [getP_cons]; by_cases h : i = k <;> simp [h, getP_nil]
  have p4 : ∀ i, i < 4 → ((((openP 4 60 D H).write k a).commit.1).write k b).page i = if i = k then pad512 b else zpage := fun i hi' => by
    rw [hi4.page_eq (by show i < ((openP 4 60 D H).write k a).commit.1.n; rw [n3]; exact hi')]
    unfold over
    rw [hl4, hg]
    by_cases h : i = k <;> simp [h]
  refine ⟨rfl, rfl, by subst hD; rfl, f1, n3, f2'.br, f2'.calm, by rw [p4 k hk, if_pos rfl], p4 j hj, by rw [hl4]; rfl, ?_⟩
  rw [hi4.rolled.page_eq (k := k) (by show k < ((openP 4 60 D H).write k a).commit.1.n; rw [n3]; exact hk)]
  show (getP [] k).getD _ = _
  rw [getP_nil, Option.getD_none]
  exact if_pos rfl
theorem BytesAt.blk_lt {w : World} {v : Value} {bs : List UInt8} {g : Nat} (h : BytesAt w v bs g) (h0 : 0 < bs.length) : g < w.heap.size := by
  obtain ⟨A, c, off, _, _, h1⟩ := h
  obtain ⟨_, h2⟩ := h1 h0
  obtain ⟨u, hu⟩ : ∃ u, (bcells bs)[0]? = some u := ⟨_, List.getElem?_eq_getElem (by rw [bcells_len]; omega)⟩
  exact World.block_lt_of_cell? w _ (h2 0 u hu)
set_option maxRecDepth 100000 in
set_option maxHeartbeats 4000000 in
theorem dirty_walk (W : World) (va vb : Value) (at_ other : Int) (a b : List UInt8) (ha : ArgBytes W va a) (hb : ArgBytes W vb b) :
    Calls Try.prog 7 #[va, vb, .int .i64 at_, .int .i64 other] W fun e w' => e = .returned (.bool true) ∧ Fr [] W w' := by
  have hm1 := ha.1; have hm2 := hb.1
  unfold maxLen at hm1 hm2
  obtain ⟨_, ga, ⟨aA, ac, ao, rfl, hac, _⟩, _⟩ := id ha
  obtain ⟨_, gb, ⟨bA, bc, bo, rfl, hbc, _⟩, _⟩ := id hb
  have HA := Lib.hid ha; have HB := Lib.hid hb
  clear ha hb
  go_enter Try.func7, Try.ntmps7
  go_wp2_with fail
  refine (awake08 W).mono ?_
  rintro e w1 ⟨rfl, hf1⟩
  have HF1 := Lib.hid hf1; clear hf1
  by_cases hb1 : 512 < a.length
  · go_wp2
    go_ret
    exact ⟨rfl, HF1.out⟩
  by_cases hb2 : 512 < b.length
  · go_wp2
    go_ret
    exact ⟨rfl, HF1.out⟩
  obtain ⟨k, hk, ek⟩ := and_mask at_ 3 (by omega)
  obtain ⟨j, hj, ej⟩ := and_mask other 3 (by omega)
  have ek' : bits .and .i64 at_ 3 = (k : Int) := ek
  have ej' : bits .and .i64 other 3 = (j : Int) := ej
  clear ek ej
  obtain ⟨H1, ht1, hi1, hn1⟩ := (PDisk.new (n := 4) (log := 60) (N := 100) (by omega) (by omega) (by omega) (by omega) (by omega)).open_ (by omega)
  have HFA := Lib.hid (dirty_facts (a := a) (b := b) (k := k) (j := j) (by omega) (by omega) (by omega) (by omega) rfl hi1)
  have HFIT := Lib.hid hi1.fit
  clear hi1
  go_wp2_with fail
  refine (new_X (X := fun _ => False) W w1 100 (by omega) (by omega) HF1.out (by simp)).mono ?_
  rintro e w2 ⟨d, rfl, hd2, _⟩
  have HD2 := Lib.hid hd2; clear hd2
  go_wp2_with fail
  refine (open_Y (n := 4) (log := 60) HD2.out rfl rfl (by omega) (by omega) (by omega) HFIT.out hn1 ht1).mono ?_
  rintro e w3 ⟨g, rfl, hp3, _⟩
  have HP3 := Lib.hid hp3
  clear hp3 hn1 ht1 HD2 HFIT
  generalize openP 4 60 (DM.new 100) H1 = s1 at *
  go_wp2_with fail
  obtain ⟨ga3, hga3, _⟩ := HA.out.here HP3.out.frame
  refine (write_Y HP3.out HFA.out.br1 k (by rw [HFA.out.n1]; omega) _ a ga3 hga3 (by omega)).mono ?_
  rintro e w4 ⟨rfl, hp4, _⟩
  have HP4 := Lib.hid hp4
  clear hp4 HP3 hga3
  go_wp2_with fail
  refine (commit_Y HP4.out (by show s1.D.done + _ < _; rw [HFA.out.done]; omega)).mono ?_
  rintro e w5 ⟨rfl, hp5, _⟩
  rw [HFA.out.e]
  have HP5 := Lib.hid hp5
  clear hp5 HP4
  go_wp2_with fail
  obtain ⟨gb5, hgb5, _⟩ := HB.out.here HP5.out.frame
  refine (write_Y HP5.out HFA.out.br3 k (by rw [HFA.out.n3]; omega) _ b gb5 hgb5 (by omega)).mono ?_
  rintro e w6 ⟨rfl, hp6, _⟩
  have HP6 := Lib.hid hp6
  clear hp6 HP5 hgb5
  have hr6 := read_Y HP6.out HFA.out.br3 ⟨HFA.out.calm3.dead, HFA.out.calm3.pend, HFA.out.calm3.fit⟩ k (by show k < (s1.write k a).commit.1.n; rw [HFA.out.n3]; omega)
  rw [HFA.out.pk] at hr6
  have HR6 := Lib.hid hr6; clear hr6
  go_wp2_with fail
  refine HR6.out.mono ?_
  rintro e w7 ⟨vx, gx, rfl, hvx, hgx, hf7⟩
  have hp7 := HP6.out.fr hf7
  have hr7 := read_Y hp7 HFA.out.br3 ⟨HFA.out.calm3.dead, HFA.out.calm3.pend, HFA.out.calm3.fit⟩ j (by show j < (s1.write k a).commit.1.n; rw [HFA.out.n3]; omega)
  rw [HFA.out.pj] at hr7
  have HP7 := Lib.hid hp7; have HR7 := Lib.hid hr7; have HVX := Lib.hid hvx
  clear hr7 hvx hf7 hp7 HR6 HP6
  go_wp2_with fail
  refine HR7.out.mono ?_
  rintro e w8 ⟨vy, gy, rfl, hvy, hgy, hf8⟩
  have hp8 := HP7.out.fr hf8
  have HGX := Lib.hid (show w6.heap.size ≤ gx ∧ gx < w7.heap.size from ⟨hgx, HVX.out.blk_lt (by rw [pad512_len (by omega)]; omega)⟩)
  have HPY : Hid (0 < (if j = k then pad512 b else zpage).length) := Lib.hid (by split; rw [pad512_len (by omega)]; omega; rw [zpage_len]; omega)
  have HP8 := Lib.hid hp8; have HVX8 := Lib.hid (HVX.out.fr hf8 (by simp)); have HVY := Lib.hid hvy
  clear hvy hf8 hp8 HR7 HP7 HVX
  go_wp2_with fail
  refine (dirty_Y HP8.out).mono ?_
  rintro e w9 ⟨rfl, rfl⟩
  rw [HFA.out.len]
  go_wp2_with fail
  refine (rollback_Y HP8.out).mono ?_
  rintro e w9 ⟨rfl, hp9, hk9⟩
  have hgx8 := HGX.out; have hgy8 := hgy; have hly := HVY.out.blk_lt HPY.out
  have hvx9 := hk9.bytes HVX8.out (.inl (.inr HGX.out))
  have hvy9 := hk9.bytes HVY.out (.inr ⟨hgy, hly⟩)
  have hr9 := read_Y hp9 HFA.out.br3 ⟨HFA.out.calm3.dead, HFA.out.calm3.pend, HFA.out.calm3.fit⟩ k (by show k < (s1.write k a).commit.1.n; rw [HFA.out.n3]; omega)
  rw [HFA.out.pz] at hr9
  have HP9 := Lib.hid hp9; have HR9 := Lib.hid hr9; have HVX9 := Lib.hid hvx9; have HVY9 := Lib.hid hvy9
  clear hr9 hp9 hk9 hvx9 hvy9 HP8 HVX8 HVY
  go_wp2_with fail
  refine HR9.out.mono ?_
  rintro e w10 ⟨vz, gz, rfl, hvz, hgz, hf10⟩
  have hp10 := HP9.out.stay hf10
  have HP10 := Lib.hid hp10; have HVX10 := Lib.hid (HVX9.out.fr hf10 (by simp)); have HVY10 := Lib.hid (HVY9.out.fr hf10 (by simp)); have HVZ := Lib.hid hvz
  obtain ⟨Ax, cx, ox, rfl, hcx, kax⟩ := id HVX10.out
  obtain ⟨Ay, cy, oy, rfl, hcy, kay⟩ := id HVY10.out
  obtain ⟨Az, cz, oz, rfl, hcz, kaz⟩ := id HVZ.out
  obtain ⟨rfl, _⟩ := kax (by rw [pad512_len (by omega)]; omega)
  obtain ⟨rfl, _⟩ := kay HPY.out
  obtain ⟨rfl, _⟩ := kaz (by rw [pad512_len (by omega)]; omega)
  clear kax kay kaz
  have lx : (pad512 b).length = 512 := pad512_len (by omega)
  have lz : (pad512 a).length = 512 := pad512_len (by omega)
  obtain ⟨py, hpy⟩ : ∃ py, py = if j = k then pad512 b else zpage := ⟨_, rfl⟩
  have ly : py.length = 512 := by
    rw [hpy]
    split
    · exact lx
    · exact zpage_len
  rw [← hpy] at hcy HVY10 ⊢
  clear hvz hf10 hp10 HR9 HP9 HVX9 HVY9
  rw [lx] at hcx
  rw [ly] at hcy
  rw [lz] at hcz
  rw [lx, ly, lz]
  go_wp2_with fail
  refine (dirty_Y HP10.out).mono ?_
  rintro e w11 ⟨rfl, rfl⟩
  simp only [List.length_nil, Int.ofNat_zero, Int.natCast_zero]
  have HF10 := Lib.hid HP10.out.frame
  obtain ⟨ga10, ba, _⟩ := HA.out.here HF10.out
  obtain ⟨gb10, bb, _⟩ := HB.out.here HF10.out
  have bx := HVX10.out.pre (m := b.length) (by rw [lx]; omega)
  have bz := HVZ.out.pre (m := a.length) (by rw [lz]; omega)
  rw [pad_take] at bx bz
  have HBA := Lib.hid ba; have HBB := Lib.hid bb; have HBX := Lib.hid bx; have HBZ := Lib.hid bz
  have sx := slice_run_to Try.underlying35 size_u8 (some ⟨gx, ox, none⟩) 512 cx b.length .i64 (by omega)
  have sz := slice_run_to Try.underlying35 size_u8 (some ⟨gz, oz, none⟩) 512 cz a.length .i64 (by omega)
  have cv : ∀ (v : Value) (bs : List UInt8) (g : Nat) (_ : BytesAt w10 v bs g) (W : World) (_ : Fr [] w10 W), (convert 35 9 v).run Try.prog W = .ok (.string ⟨bs.toArray⟩) W := fun _ _ _ h W hf => run_string_of Try.underlying35 Try.underlying5 Try.underlying9 (h.fr hf (by simp))
  have CV := Lib.hid cv
  have SX := Lib.hid sx; have SZ := Lib.hid sz
  have hf0 : Fr [] w10 w10.drew := (Fr.refl [] w10).drew
  have hnil : ∀ {w : World}, Fr [] W w → True := fun _ => trivial
  clear ba bb bx bz HVX10 HVZ HP10 HF1 cv sx sz hnil
  go_wp2_with fail
  by_cases hjk : j = k
  · have hjk' := hjk
    refine wp_region_K (fun W' => Fr [] w10 W') [0, 1, 2, 3, 4, 5, 6, 7, 8, 9, 10, 11, 12, 13, 14, 15, 16, 17, 18, 19, 20, 21, 22, 23, 24, 25, 26, 27, 28, 29] (by kernel_rfl) ?_
    refine wpAnyK_take (i := 0) (some 126) ?vq1_0 rfl rfl (by kernel_rfl) (fun _ _ _ h => h) hf0 (.inl ⟨rfl, fun W hW => ?yq1_0⟩) ?_
    case yq1_0 => go_simp <;> with_reducible rfl
    simp only [Act.put, List.setIfInBounds_toArray, List.set_cons_zero, List.set_cons_succ]
    refine wpAnyK_take (i := 1) (some 127) ?vq1_1 rfl rfl (by kernel_rfl) (fun _ _ _ h => h) hf0 (.inl ⟨rfl, fun W hW => ?yq1_1⟩) ?_
    case yq1_1 => go_simp <;> with_reducible rfl
    simp only [Act.put, List.setIfInBounds_toArray, List.set_cons_zero, List.set_cons_succ]
    refine wpAnyK_take (i := 2) (some 128) ?vq1_2 rfl rfl (by kernel_rfl) (fun _ _ _ h => h) hf0 (.inl ⟨rfl, fun W hW => ?yq1_2⟩) ?_
    case yq1_2 => go_simp <;> with_reducible rfl
    simp only [Act.put, List.setIfInBounds_toArray, List.set_cons_zero, List.set_cons_succ]
    refine wpAnyK_take (i := 3) (some 129) (.slice (some ⟨gx, ox, none⟩) b.length cx) rfl rfl (by kernel_rfl) (fun _ _ _ h => h) hf0 (.inl ⟨rfl, fun W' _ => exec_slice rfl rfl rfl rfl (SX.out W')⟩) ?_
    simp only [Act.put, List.setIfInBounds_toArray, List.set_cons_zero, List.set_cons_succ]
    refine wpAnyK_take (i := 4) (some 130) (.string ⟨b.toArray⟩) rfl rfl (by kernel_rfl) (fun _ _ _ h => h) hf0 (.inl ⟨rfl, fun W' hW' => by simp [execOp, Act.eval, CV.out _ _ _ HBX.out W' hW', Result.andThen]⟩) ?_
    simp only [Act.put, List.setIfInBounds_toArray, List.set_cons_zero, List.set_cons_succ]
    refine wpAnyK_take (i := 5) (some 131) ?vq1_5 rfl rfl (by kernel_rfl) (fun _ _ _ h => h) hf0 (.inl ⟨rfl, fun W hW => ?yq1_5⟩) ?_
    case yq1_5 => go_simp <;> with_reducible rfl
    simp only [Act.put, List.setIfInBounds_toArray, List.set_cons_zero, List.set_cons_succ]
    refine wpAnyK_take (i := 6) (some 132) (.string ⟨b.toArray⟩) rfl rfl (by kernel_rfl) (fun _ _ _ h => h) hf0 (.inl ⟨rfl, fun W' hW' => by simp [execOp, Act.eval, CV.out _ _ _ HBB.out W' hW', Result.andThen]⟩) ?_
    simp only [Act.put, List.setIfInBounds_toArray, List.set_cons_zero, List.set_cons_succ]
    refine wpAnyK_take (i := 7) (some 133) (.bool false) rfl rfl (by kernel_rfl) (fun _ _ _ h => h) hf0 (.inl ⟨rfl, fun W' _ => by simp [execOp, Act.eval, Result.andThen, go_sem]⟩) ?_
    simp only [Act.put, List.setIfInBounds_toArray, List.set_cons_zero, List.set_cons_succ]
    refine wpAnyK_take (i := 8) (some 134) ?vq1_8 rfl rfl (by kernel_rfl) (fun _ _ _ h => h) hf0 (.inl ⟨rfl, fun W hW => ?yq1_8⟩) ?_
    case yq1_8 => go_simp <;> with_reducible rfl
    simp only [Act.put, List.setIfInBounds_toArray, List.set_cons_zero, List.set_cons_succ]
    refine wpAnyK_take (i := 9) (some 135) ?vq1_9 rfl rfl (by kernel_rfl) (fun _ _ _ h => h) hf0 (.inl ⟨rfl, fun W hW => ?yq1_9⟩) ?_
    case yq1_9 => go_simp <;> with_reducible rfl
    simp only [Act.put, List.setIfInBounds_toArray, List.set_cons_zero, List.set_cons_succ]
    refine wpAnyK_take (i := 10) (some 136) ?vq1_10 rfl rfl (by kernel_rfl) (fun _ _ _ h => h) hf0 (.inl ⟨rfl, fun W hW => ?yq1_10⟩) ?_
    case yq1_10 => go_simp <;> with_reducible rfl
    simp only [Act.put, List.setIfInBounds_toArray, List.set_cons_zero, List.set_cons_succ]
    refine wpAnyK_take (i := 11) (some 137) ?vq1_11 rfl rfl (by kernel_rfl) (fun _ _ _ h => h) hf0 (.inl ⟨rfl, fun W hW => ?yq1_11⟩) ?_
    case yq1_11 => go_simp <;> with_reducible rfl
    simp only [Act.put, List.setIfInBounds_toArray, List.set_cons_zero, List.set_cons_succ]
    refine wpAnyK_take (i := 12) (some 138) (.slice (some ⟨gz, oz, none⟩) a.length cz) rfl rfl (by kernel_rfl) (fun _ _ _ h => h) hf0 (.inl ⟨rfl, fun W' _ => exec_slice rfl rfl rfl rfl (SZ.out W')⟩) ?_
    simp only [Act.put, List.setIfInBounds_toArray, List.set_cons_zero, List.set_cons_succ]
    refine wpAnyK_take (i := 13) (some 139) (.string ⟨a.toArray⟩) rfl rfl (by kernel_rfl) (fun _ _ _ h => h) hf0 (.inl ⟨rfl, fun W' hW' => by simp [execOp, Act.eval, CV.out _ _ _ HBZ.out W' hW', Result.andThen]⟩) ?_
    simp only [Act.put, List.setIfInBounds_toArray, List.set_cons_zero, List.set_cons_succ]
    refine wpAnyK_take (i := 14) (some 140) ?vq1_14 rfl rfl (by kernel_rfl) (fun _ _ _ h => h) hf0 (.inl ⟨rfl, fun W hW => ?yq1_14⟩) ?_
    case yq1_14 => go_simp <;> with_reducible rfl
    simp only [Act.put, List.setIfInBounds_toArray, List.set_cons_zero, List.set_cons_succ]
    refine wpAnyK_take (i := 15) (some 141) (.string ⟨a.toArray⟩) rfl rfl (by kernel_rfl) (fun _ _ _ h => h) hf0 (.inl ⟨rfl, fun W' hW' => by simp [execOp, Act.eval, CV.out _ _ _ HBA.out W' hW', Result.andThen]⟩) ?_
    simp only [Act.put, List.setIfInBounds_toArray, List.set_cons_zero, List.set_cons_succ]
    refine wpAnyK_take (i := 16) (some 142) (.bool false) rfl rfl (by kernel_rfl) (fun _ _ _ h => h) hf0 (.inl ⟨rfl, fun W' _ => by simp [execOp, Act.eval, Result.andThen, go_sem]⟩) ?_
    simp only [Act.put, List.setIfInBounds_toArray, List.set_cons_zero, List.set_cons_succ]
    refine wpAnyK_take (i := 17) (some 143) ?vq1_17 rfl rfl (by kernel_rfl) (fun _ _ _ h => h) hf0 (.inl ⟨rfl, fun W hW => ?yq1_17⟩) ?_
    case yq1_17 => go_simp <;> with_reducible rfl
    simp only [Act.put, List.setIfInBounds_toArray, List.set_cons_zero, List.set_cons_succ]
    refine wpAnyK_take (i := 18) (some 144) ?vq1_18 rfl rfl (by kernel_rfl) (fun _ _ _ h => h) hf0 (.inl ⟨rfl, fun W hW => ?yq1_18⟩) ?_
    case yq1_18 => go_simp <;> with_reducible rfl
    simp only [Act.put, List.setIfInBounds_toArray, List.set_cons_zero, List.set_cons_succ]
    refine wpAnyK_take (i := 19) (some 145) ?vq1_19 rfl rfl (by kernel_rfl) (fun _ _ _ h => h) hf0 (.inl ⟨rfl, fun W hW => ?yq1_19⟩) ?_
    case yq1_19 => go_simp <;> with_reducible rfl
    simp only [Act.put, List.setIfInBounds_toArray, List.set_cons_zero, List.set_cons_succ]
    refine wpAnyK_take (i := 20) (some 146) ?vq1_20 rfl rfl (by kernel_rfl) (fun _ _ _ h => h) hf0 (.inl ⟨rfl, fun W hW => ?yq1_20⟩) ?_
    case yq1_20 => go_simp <;> with_reducible rfl
    simp only [Act.put, List.setIfInBounds_toArray, List.set_cons_zero, List.set_cons_succ]
    refine wpAnyK_take (i := 21) (some 147) (.bool false) rfl rfl (by kernel_rfl) (fun _ _ _ h => h) hf0 (.inl ⟨rfl, fun W' _ => by simp [execOp, Act.eval, Result.andThen, go_sem, hjk]⟩) ?_
    simp only [Act.put, List.setIfInBounds_toArray, List.set_cons_zero, List.set_cons_succ]
    refine wpAnyK_take (i := 22) (some 148) ?vq1_22 rfl rfl (by kernel_rfl) (fun _ _ _ h => h) hf0 (.inl ⟨rfl, fun W hW => ?yq1_22⟩) ?_
    case yq1_22 => go_simp <;> with_reducible rfl
    simp only [Act.put, List.setIfInBounds_toArray, List.set_cons_zero, List.set_cons_succ]
    refine wpAnyK_take (i := 23) (some 149) (undef) rfl rfl (by kernel_rfl) (fun _ _ _ h => h) hf0 (.inr ⟨rfl, rfl⟩) ?_
    simp only [Act.put, List.setIfInBounds_toArray, List.set_cons_zero, List.set_cons_succ]
    refine wpAnyK_take (i := 24) (some 150) (undef) rfl rfl (by kernel_rfl) (fun _ _ _ h => h) hf0 (.inr ⟨rfl, rfl⟩) ?_
    simp only [Act.put, List.setIfInBounds_toArray, List.set_cons_zero, List.set_cons_succ]
    refine wpAnyK_take (i := 25) (some 151) (undef) rfl rfl (by kernel_rfl) (fun _ _ _ h => h) hf0 (.inr ⟨rfl, rfl⟩) ?_
    simp only [Act.put, List.setIfInBounds_toArray, List.set_cons_zero, List.set_cons_succ]
    refine wpAnyK_take (i := 26) (some 152) (undef) rfl rfl (by kernel_rfl) (fun _ _ _ h => h) hf0 (.inr ⟨rfl, rfl⟩) ?_
    simp only [Act.put, List.setIfInBounds_toArray, List.set_cons_zero, List.set_cons_succ]
    refine wpAnyK_take (i := 27) (some 153) (undef) rfl rfl (by kernel_rfl) (fun _ _ _ h => h) hf0 (.inr ⟨rfl, rfl⟩) ?_
    simp only [Act.put, List.setIfInBounds_toArray, List.set_cons_zero, List.set_cons_succ]
    refine wpAnyK_take (i := 28) (some 154) ?vq1_28 rfl rfl (by kernel_rfl) (fun _ _ _ h => h) hf0 (.inl ⟨rfl, fun W hW => ?yq1_28⟩) ?_
    case yq1_28 => go_simp <;> with_reducible rfl
    simp only [Act.put, List.setIfInBounds_toArray, List.set_cons_zero, List.set_cons_succ]
    refine wpAnyK_take (i := 29) (some 155) ?vq1_29 rfl rfl (by kernel_rfl) (fun _ _ _ h => h) hf0 (.inl ⟨rfl, fun W hW => ?yq1_29⟩) ?_
    case yq1_29 => go_simp <;> with_reducible rfl
    simp only [Act.put, List.setIfInBounds_toArray, List.set_cons_zero, List.set_cons_succ]
    refine wpAnyK_done (by kernel_rfl) ?_ _
    have HFE := Lib.hid (HF10.out.trans hf0 (by simp))
    clear hf0
    generalize w10.drew = w11 at *
    go_wp2_with fail
    refine (rollback_Pnil w11).mono ?_
    rintro e w12 ⟨rfl, rfl⟩
    go_wp2_with fail
    refine (read_Pnil w11 _).mono ?_
    rintro e w12 ⟨rfl, rfl⟩
    go_wp2_with fail
    refine (write_Pnil w11 _ _).mono ?_
    rintro e w12 ⟨rfl, rfl⟩
    go_wp2_with fail
    refine (commit_Pnil w11).mono ?_
    rintro e w12 ⟨rfl, rfl⟩
    go_wp2_with fail
    refine (check_Pnil w11).mono ?_
    rintro e w12 ⟨rfl, rfl⟩
    go_wp2_with fail
    refine (pages_Pnil w11).mono ?_
    rintro e w12 ⟨rfl, rfl⟩
    go_wp2_with fail
    refine (dirty_Pnil w11).mono ?_
    rintro e w12 ⟨rfl, rfl⟩
    go_wp2_with fail
    go_ret
    exact ⟨rfl, HFE.out⟩
  · clear hb1 hb2
    refine wp_region_K (fun W' => Fr [] w10 W') [0, 1, 2, 3, 4, 5, 6, 7, 8, 9, 10, 11, 12, 13, 14, 15, 16, 17, 18, 19, 20, 21, 22, 23, 24, 26, 27, 28, 29] (by kernel_rfl) ?_
    refine wpAnyK_take (i := 0) (some 126) ?vq2_0 rfl rfl (by kernel_rfl) (fun _ _ _ h => h) hf0 (.inl ⟨rfl, fun W hW => ?yq2_0⟩) ?_
    case yq2_0 => go_simp <;> with_reducible rfl
    simp only [Act.put, List.setIfInBounds_toArray, List.set_cons_zero, List.set_cons_succ]
    refine wpAnyK_take (i := 1) (some 127) ?vq2_1 rfl rfl (by kernel_rfl) (fun _ _ _ h => h) hf0 (.inl ⟨rfl, fun W hW => ?yq2_1⟩) ?_
    case yq2_1 => go_simp <;> with_reducible rfl
    simp only [Act.put, List.setIfInBounds_toArray, List.set_cons_zero, List.set_cons_succ]
    refine wpAnyK_take (i := 2) (some 128) ?vq2_2 rfl rfl (by kernel_rfl) (fun _ _ _ h => h) hf0 (.inl ⟨rfl, fun W hW => ?yq2_2⟩) ?_
    case yq2_2 => go_simp <;> with_reducible rfl
    simp only [Act.put, List.setIfInBounds_toArray, List.set_cons_zero, List.set_cons_succ]
    refine wpAnyK_take (i := 3) (some 129) (.slice (some ⟨gx, ox, none⟩) b.length cx) rfl rfl (by kernel_rfl) (fun _ _ _ h => h) hf0 (.inl ⟨rfl, fun W' _ => exec_slice rfl rfl rfl rfl (SX.out W')⟩) ?_
    simp only [Act.put, List.setIfInBounds_toArray, List.set_cons_zero, List.set_cons_succ]
    refine wpAnyK_take (i := 4) (some 130) (.string ⟨b.toArray⟩) rfl rfl (by kernel_rfl) (fun _ _ _ h => h) hf0 (.inl ⟨rfl, fun W' hW' => by simp [execOp, Act.eval, CV.out _ _ _ HBX.out W' hW', Result.andThen]⟩) ?_
    simp only [Act.put, List.setIfInBounds_toArray, List.set_cons_zero, List.set_cons_succ]
    refine wpAnyK_take (i := 5) (some 131) ?vq2_5 rfl rfl (by kernel_rfl) (fun _ _ _ h => h) hf0 (.inl ⟨rfl, fun W hW => ?yq2_5⟩) ?_
    case yq2_5 => go_simp <;> with_reducible rfl
    simp only [Act.put, List.setIfInBounds_toArray, List.set_cons_zero, List.set_cons_succ]
    refine wpAnyK_take (i := 6) (some 132) (.string ⟨b.toArray⟩) rfl rfl (by kernel_rfl) (fun _ _ _ h => h) hf0 (.inl ⟨rfl, fun W' hW' => by simp [execOp, Act.eval, CV.out _ _ _ HBB.out W' hW', Result.andThen]⟩) ?_
    simp only [Act.put, List.setIfInBounds_toArray, List.set_cons_zero, List.set_cons_succ]
    refine wpAnyK_take (i := 7) (some 133) (.bool false) rfl rfl (by kernel_rfl) (fun _ _ _ h => h) hf0 (.inl ⟨rfl, fun W' _ => by simp [execOp, Act.eval, Result.andThen, go_sem]⟩) ?_
    simp only [Act.put, List.setIfInBounds_toArray, List.set_cons_zero, List.set_cons_succ]
    refine wpAnyK_take (i := 8) (some 134) ?vq2_8 rfl rfl (by kernel_rfl) (fun _ _ _ h => h) hf0 (.inl ⟨rfl, fun W hW => ?yq2_8⟩) ?_
    case yq2_8 => go_simp <;> with_reducible rfl
    simp only [Act.put, List.setIfInBounds_toArray, List.set_cons_zero, List.set_cons_succ]
    refine wpAnyK_take (i := 9) (some 135) ?vq2_9 rfl rfl (by kernel_rfl) (fun _ _ _ h => h) hf0 (.inl ⟨rfl, fun W hW => ?yq2_9⟩) ?_
    case yq2_9 => go_simp <;> with_reducible rfl
    simp only [Act.put, List.setIfInBounds_toArray, List.set_cons_zero, List.set_cons_succ]
    refine wpAnyK_take (i := 10) (some 136) ?vq2_10 rfl rfl (by kernel_rfl) (fun _ _ _ h => h) hf0 (.inl ⟨rfl, fun W hW => ?yq2_10⟩) ?_
    case yq2_10 => go_simp <;> with_reducible rfl
    simp only [Act.put, List.setIfInBounds_toArray, List.set_cons_zero, List.set_cons_succ]
    refine wpAnyK_take (i := 11) (some 137) ?vq2_11 rfl rfl (by kernel_rfl) (fun _ _ _ h => h) hf0 (.inl ⟨rfl, fun W hW => ?yq2_11⟩) ?_
    case yq2_11 => go_simp <;> with_reducible rfl
    simp only [Act.put, List.setIfInBounds_toArray, List.set_cons_zero, List.set_cons_succ]
    refine wpAnyK_take (i := 12) (some 138) (.slice (some ⟨gz, oz, none⟩) a.length cz) rfl rfl (by kernel_rfl) (fun _ _ _ h => h) hf0 (.inl ⟨rfl, fun W' _ => exec_slice rfl rfl rfl rfl (SZ.out W')⟩) ?_
    simp only [Act.put, List.setIfInBounds_toArray, List.set_cons_zero, List.set_cons_succ]
    refine wpAnyK_take (i := 13) (some 139) (.string ⟨a.toArray⟩) rfl rfl (by kernel_rfl) (fun _ _ _ h => h) hf0 (.inl ⟨rfl, fun W' hW' => by simp [execOp, Act.eval, CV.out _ _ _ HBZ.out W' hW', Result.andThen]⟩) ?_
    simp only [Act.put, List.setIfInBounds_toArray, List.set_cons_zero, List.set_cons_succ]
    refine wpAnyK_take (i := 14) (some 140) ?vq2_14 rfl rfl (by kernel_rfl) (fun _ _ _ h => h) hf0 (.inl ⟨rfl, fun W hW => ?yq2_14⟩) ?_
    case yq2_14 => go_simp <;> with_reducible rfl
    simp only [Act.put, List.setIfInBounds_toArray, List.set_cons_zero, List.set_cons_succ]
    refine wpAnyK_take (i := 15) (some 141) (.string ⟨a.toArray⟩) rfl rfl (by kernel_rfl) (fun _ _ _ h => h) hf0 (.inl ⟨rfl, fun W' hW' => by simp [execOp, Act.eval, CV.out _ _ _ HBA.out W' hW', Result.andThen]⟩) ?_
    simp only [Act.put, List.setIfInBounds_toArray, List.set_cons_zero, List.set_cons_succ]
    refine wpAnyK_take (i := 16) (some 142) (.bool false) rfl rfl (by kernel_rfl) (fun _ _ _ h => h) hf0 (.inl ⟨rfl, fun W' _ => by simp [execOp, Act.eval, Result.andThen, go_sem]⟩) ?_
    simp only [Act.put, List.setIfInBounds_toArray, List.set_cons_zero, List.set_cons_succ]
    refine wpAnyK_take (i := 17) (some 143) ?vq2_17 rfl rfl (by kernel_rfl) (fun _ _ _ h => h) hf0 (.inl ⟨rfl, fun W hW => ?yq2_17⟩) ?_
    case yq2_17 => go_simp <;> with_reducible rfl
    simp only [Act.put, List.setIfInBounds_toArray, List.set_cons_zero, List.set_cons_succ]
    refine wpAnyK_take (i := 18) (some 144) ?vq2_18 rfl rfl (by kernel_rfl) (fun _ _ _ h => h) hf0 (.inl ⟨rfl, fun W hW => ?yq2_18⟩) ?_
    case yq2_18 => go_simp <;> with_reducible rfl
    simp only [Act.put, List.setIfInBounds_toArray, List.set_cons_zero, List.set_cons_succ]
    refine wpAnyK_take (i := 19) (some 145) ?vq2_19 rfl rfl (by kernel_rfl) (fun _ _ _ h => h) hf0 (.inl ⟨rfl, fun W hW => ?yq2_19⟩) ?_
    case yq2_19 => go_simp <;> with_reducible rfl
    simp only [Act.put, List.setIfInBounds_toArray, List.set_cons_zero, List.set_cons_succ]
    refine wpAnyK_take (i := 20) (some 146) ?vq2_20 rfl rfl (by kernel_rfl) (fun _ _ _ h => h) hf0 (.inl ⟨rfl, fun W hW => ?yq2_20⟩) ?_
    case yq2_20 => go_simp <;> with_reducible rfl
    simp only [Act.put, List.setIfInBounds_toArray, List.set_cons_zero, List.set_cons_succ]
    refine wpAnyK_take (i := 21) (some 147) (.bool true) rfl rfl (by kernel_rfl) (fun _ _ _ h => h) hf0 (.inl ⟨rfl, fun W' _ => by simp [execOp, Act.eval, Result.andThen, go_sem]; omega⟩) ?_
    simp only [Act.put, List.setIfInBounds_toArray, List.set_cons_zero, List.set_cons_succ]
    refine wpAnyK_take (i := 22) (some 148) ?vq2_22 rfl rfl (by kernel_rfl) (fun _ _ _ h => h) hf0 (.inl ⟨rfl, fun W hW => ?yq2_22⟩) ?_
    case yq2_22 => go_simp <;> with_reducible rfl
    simp only [Act.put, List.setIfInBounds_toArray, List.set_cons_zero, List.set_cons_succ]
    refine wpAnyK_take (i := 23) (some 149) ?vq2_23 rfl rfl (by kernel_rfl) (fun _ _ _ h => h) hf0 (.inl ⟨rfl, fun W hW => ?yq2_23⟩) ?_
    case yq2_23 => go_simp <;> with_reducible rfl
    simp only [Act.put, List.setIfInBounds_toArray, List.set_cons_zero, List.set_cons_succ]
    have hby : BytesAt w10 (.slice (some ⟨gy, oy, none⟩) 512 cy) zpage gy := by
      have h := HVY10.out
      rw [ly, hpy, if_neg hjk] at h
      exact h
    refine wpAnyK_take (i := 24) (some 150) (.string ⟨zpage.toArray⟩) rfl rfl (by kernel_rfl) (fun _ _ _ h => h) hf0 (.inl ⟨rfl, fun W' hW' => by simp [execOp, Act.eval, CV.out _ _ _ hby W' hW', Result.andThen]⟩) ?_
    simp only [Act.put, List.setIfInBounds_toArray, List.set_cons_zero, List.set_cons_succ]
    refine wpAnyK_stepg (j := 25) (some 151) rfl rfl (by kernel_rfl) rfl fun K hK => ?_
    have hmk := make512 w10.drew
    have hf1 : Fr [] w10 (w10.drew.alloc (.cells (bcells zpage).toArray 5)) := hf0.alloc _
    have hbn : BytesAt (w10.drew.alloc (.cells (bcells zpage).toArray 5)) (.slice (some ⟨w10.drew.heap.size, 0, none⟩) 512 512) zpage w10.drew.heap.size := by
      have h := BytesAt.of_blk (Blk.new w10.drew 5 (bcells zpage)) 512 (by rw [zpage_len]; exact Nat.le_refl _)
      rw [zpage_len] at h
      exact h
    have hcn := run_string_of (P := Try.prog) (dst := 9) Try.underlying35 Try.underlying5 Try.underlying9 hbn
    rw [show w10.drew.heap.size = w10.heap.size from rfl] at hcn
    refine wp_run_value (v := .slice (some ⟨w10.drew.heap.size, 0, none⟩) 512 512) (w' := w10.drew.alloc (.cells (bcells zpage).toArray 5)) (by simp [execOp, Act.eval, hmk, Result.andThen]) (hK _ _ (fun _ => hf1) ?_)
    simp only [Act.put, List.setIfInBounds_toArray, List.set_cons_zero, List.set_cons_succ]
    clear hK
    generalize w10.drew.alloc (.cells (bcells zpage).toArray 5) = w11 at *
    refine wpAnyK_stepg (j := 26) (some 152) rfl rfl (by kernel_rfl) rfl fun K hK => ?_
    refine wp_run_same (v := .string ⟨zpage.toArray⟩) (by simp [execOp, Act.eval, hcn, Result.andThen]) (hK _ _ (fun _ => hf1) ?_)
    simp only [Act.put, List.setIfInBounds_toArray, List.set_cons_zero, List.set_cons_succ]
    refine wpAnyK_take (i := 27) (some 153) (.bool false) rfl rfl (by kernel_rfl) (fun _ _ _ h => h) hf1 (.inl ⟨rfl, fun W' _ => by simp [execOp, Act.eval, Result.andThen, go_sem]⟩) ?_
    simp only [Act.put, List.setIfInBounds_toArray, List.set_cons_zero, List.set_cons_succ]
    refine wpAnyK_take (i := 28) (some 154) ?vq2_28 rfl rfl (by kernel_rfl) (fun _ _ _ h => h) hf1 (.inl ⟨rfl, fun W hW => ?yq2_28⟩) ?_
    case yq2_28 => go_simp <;> with_reducible rfl
    simp only [Act.put, List.setIfInBounds_toArray, List.set_cons_zero, List.set_cons_succ]
    refine wpAnyK_take (i := 29) (some 155) ?vq2_29 rfl rfl (by kernel_rfl) (fun _ _ _ h => h) hf1 (.inl ⟨rfl, fun W hW => ?yq2_29⟩) ?_
    case yq2_29 => go_simp <;> with_reducible rfl
    simp only [Act.put, List.setIfInBounds_toArray, List.set_cons_zero, List.set_cons_succ]
    refine wpAnyK_done (by kernel_rfl) ?_ _
    have HFE := Lib.hid (HF10.out.trans hf1 (by simp))
    clear hf1 hcn hbn hmk hf0 hby
    go_wp2_with fail
    refine (rollback_Pnil w11).mono ?_
    rintro e w12 ⟨rfl, rfl⟩
    go_wp2_with fail
    refine (read_Pnil w11 _).mono ?_
    rintro e w12 ⟨rfl, rfl⟩
    go_wp2_with fail
    refine (write_Pnil w11 _ _).mono ?_
    rintro e w12 ⟨rfl, rfl⟩
    go_wp2_with fail
    refine (commit_Pnil w11).mono ?_
    rintro e w12 ⟨rfl, rfl⟩
    go_wp2_with fail
    refine (check_Pnil w11).mono ?_
    rintro e w12 ⟨rfl, rfl⟩
    go_wp2_with fail
    refine (pages_Pnil w11).mono ?_
    rintro e w12 ⟨rfl, rfl⟩
    go_wp2_with fail
    refine (dirty_Pnil w11).mono ?_
    rintro e w12 ⟨rfl, rfl⟩
    go_wp2_with fail
    go_ret
    exact ⟨rfl, HFE.out⟩

end Go.Proofs.Ytidpleejgalljaa
