/-
  The contract of journal.Open where the part lies on the disk: the walk.
-/
import Derived.Test.YtidpleejgalljaaJj
namespace Go.Proofs.Ytidpleejgalljaa
open Go.RowKit

theorem info_bytes : (Try.prog.info? 35).map (fun i => (i.zero, i.size, i.bytes)) = some (some (.slice none 0 0), 1, 24) := by kernel_rfl
def sliceLen (v : Value) : Nat := match v with | .slice _ n _ => n | _ => 0
def JOpenRel (w : World) (d f n num0 ses gp gl : Nat) (gs : List Nat) (L : List (List UInt8)) (out : Value) (wr : World) : Prop :=
  ∃ (R : List (Stamp × List UInt8)) (vs : List Value) (k at_ : Nat), R.length ≤ at_ ∧ at_ ≤ n ∧ n ≤ at_ + k ∧ recordsOf n none L = R ++ recordsOf k (lastOf R) (L.drop at_) ∧ at_ = (R.map (·.1.count)).sum ∧
    (∀ x ∈ R, x.1.session < 4294967296 ∧ x.1.number < 4294967296) ∧
    RowsIn wr out (R.map (·.2)) vs (gp + 1) ∧ Blk wr w.heap.size 77 (logCells d f n at_ (numAfter num0 (lastOf R)) ses false) ∧ Blk wr gp 83 (lastCells (lastOf R)) ∧ SecsAt wr gl 0 gs L ∧ Fr [] w wr

set_option maxRecDepth 100000 in
set_option maxHeartbeats 2000000 in
theorem open_ok {w : World} {d f n : Nat} {D : DM} {fp : List Nat} (hd : DiskAt w d D fp) (hdead : D.dead = false) (h1 : 1 ≤ n) (hfit : f + n ≤ D.S.length) (hnew : (newestOf (D.part f n)).1 < 4294967295) :
    Calls Try.prog 26 #[.pointer (some ⟨d, 0, none⟩), .int .i64 (f : Int), .int .i64 (n : Int)] w fun e w' => ∃ out,
      e = .returned (.tuple #[.pointer (some ⟨w.heap.size, 0, none⟩), out, .int .i64 0]) ∧
      RowsAt w' out ((recordsOf n none (D.part f n)).map (·.2)) (w.heap.size + 1) ∧
      Blk w' w.heap.size 77 (logCells d f n ((recordsOf n none (D.part f n)).map (·.1.count)).sum (numAfter (((newestOf (D.part f n)).2 + 1) % 4294967296) (lastOf (recordsOf n none (D.part f n)))) ((newestOf (D.part f n)).1 + 1) false) ∧ Fr [] w w' := by
  have hmost := (DiskAt.ok hd).most
  have HD := Lib.hid hd; have HDEAD := Lib.hid hdead; have HNEW := Lib.hid hnew
  clear hd hdead hnew
  have e1 : decide ((n : Int) < 1) = false := by simp; omega
  have e2 : decide ((f : Int) < 0) = false := by simp
  have e3 : decide (((D.S.length : Nat) : Int) < (n : Int)) = false := by simp; omega
  have e4 : decide (((D.S.length : Nat) : Int) - (n : Int) < (f : Int)) = false := by simp; omega
  go_enter Try.func26, Try.ntmps26
  go_wp2_with fail
  refine (dead_at HD.out).mono ?_
  rintro e w1 ⟨rfl, rfl⟩
  rw [HDEAD.out]
  go_wp2_with fail
  refine (size_at HD.out).mono ?_
  rintro e w1 ⟨rfl, rfl⟩
  go_wp2_with fail
  refine (size_at HD.out).mono ?_
  rintro e w1 ⟨rfl, rfl⟩
  go_wp2_with fail
  have hf1 : Fr [] w (w.alloc (.cells (logCells d f n 0 0 0 false).toArray 77)) := (Fr.refl [] w).alloc _
  refine (load_ok (lg := w.heap.size) (at_ := 0) (num := 0) (ses := 0) (br := false) (Blk.new w _ (logCells d f n 0 0 0 false)) (HD.out.fr hf1 (by simp)) HDEAD.out hfit hmost).mono ?_
  rintro e w2 ⟨A, c, gl, gs, rfl, hnc, hA, hs2, hgl, hgs, hf2⟩
  have hz1 : (w.alloc (.cells (logCells d f n 0 0 0 false).toArray 77)).heap.size = w.heap.size + 1 := by simp
  rw [hz1] at hgl hgs
  have hb2 := (Blk.new w 77 (logCells d f n 0 0 0 false)).fr hf2 (by simp)
  have HS2 := Lib.hid hs2; have HF2 := Lib.hid (hf1.trans hf2 (by simp)); have HB2 := Lib.hid hb2; have HGL := Lib.hid hgl; have HGS := Lib.hid hgs
  clear hs2 hf2 hf1 hb2 hgl hgs hz1
  go_wp2_with fail
  have hLn := D.part_len f n
  have hnw := newest_any (A := A) (c := c) (a := (0, 0)) HB2.out HS2.out (by rw [hLn]; exact hA) (by rw [hLn]; exact hnc) (by rw [hLn]; omega) (by have := HGL.out; omega)
  rw [hLn] at hnw
  refine hnw.mono ?_
  clear hnw
  rintro e w3 ⟨rfl, hb3, hf3⟩
  rw [← newFrom_eq] at hb3 ⊢
  rw [show decide ((newestOf (D.part f n)).1 < 4294967295) = true from decide_eq_true HNEW.out]
  have hF3 : Fr [] w w3 := HF2.out.trans hf3 (fun x hx => .inr (by simp at hx; omega))
  have hS3 := HS2.out.fr hf3 (by simp; have := HGL.out; omega) (fun g hg hm => by simp at hm; have := HGS.out g hg; omega)
  have hmod : ((newestOf (D.part f n)).1 + 1) % 4294967296 = (newestOf (D.part f n)).1 + 1 := Nat.mod_eq_of_lt (by have := HNEW.out; omega)
  rw [hmod] at hb3
  have hnb : (newestOf (D.part f n)).2 < 4294967296 ∨ True := .inr trivial
  have hgl3 : gl < w3.heap.size ∨ n = 0 := by
    rcases Nat.eq_zero_or_pos n with h0 | h0
    · exact .inr h0
    · obtain ⟨g, s, _, hc, _⟩ := hS3.at_ (j := 0) (by rw [hLn]; exact h0)
      exact .inl (World.block_lt_of_cell? w3 _ hc)
  have HB3 := Lib.hid hb3; have HF3 := Lib.hid hF3; have HS3 := Lib.hid hS3; have HLN := Lib.hid hLn; have HGL3 := Lib.hid hgl3
  clear hb3 hF3 hf3 hS3 hmod hnb HB2 HS2 HF2 hLn hgl3
  generalize hnum0 : ((newestOf (D.part f n)).2 + 1) % 4294967296 = num0 at *
  generalize hses0 : (newestOf (D.part f n)).1 + 1 = ses0 at *
  have hz3 := HF3.out.size
  have hl3 := HB3.out.lt
  have HNUM0 := Lib.hid hnum0; have HSES0 := Lib.hid hses0
  clear hnum0 hses0 e1 e2 e3 e4
  go_wp2
  go_loopw [12] (JOpenRel w d f n num0 ses0 w3.heap.size gl gs (D.part f n)) (fun out _ => n + 1 - sliceLen out)
  case atStart =>
    have hfa : Fr [] w3 (w3.alloc (.cells #[.int .u32 0, .int .u32 0, .int .i64 0] 83)) := (Fr.refl [] w3).alloc _
    exact ⟨[], [], n, 0, Nat.zero_le _, Nat.zero_le _, by omega, rfl, rfl, by simp, RowsIn.nil _ _, HB3.out.fr hfa (by simp), Blk.new w3 _ _, HS3.out.fr hfa (by simp) (by simp), HF3.out.trans hfa (by simp)⟩
  case round =>
    obtain ⟨R, vs, k, at_, hRa, han, hnk, hrecs, hsum, hbd, hrows, hblk, hlast, hsecs, hfr⟩ := hrel
    obtain ⟨oA, oc, rfl, hoc, _⟩ := own_shape hrows.own
    have m3 := hblk.at_ (i := 3) rfl
    have HRECS := Lib.hid hrecs; have HSUM := Lib.hid hsum; have HBD := Lib.hid hbd; have HROWS := Lib.hid hrows; have HBLK := Lib.hid hblk; have HLAST := Lib.hid hlast; have HSECS := Lib.hid hsecs; have HFR := Lib.hid hfr
    clear hrecs hsum hbd hrows hblk hlast hsecs hfr
    rw [List.length_map] at *
    have hdl : (List.drop at_ (D.part f n)).length = n - at_ := by rw [List.length_drop, HLN.out]
    have hnone : recordOf ((D.part f n).drop at_) = none → recordsOf n none (D.part f n) = R := fun h => by rw [HRECS.out, recs_none h, List.append_nil]
    have HDL := Lib.hid hdl; have HNONE := Lib.hid hnone; clear hdl hnone
    have hend : ∀ w5, recordsOf n none (D.part f n) = R → Fr [] wr w5 → ∃ out, Ending.returned (.tuple #[.pointer (some ⟨w.heap.size, 0, none⟩), .slice oA R.length oc, .int .i64 0]) = .returned (.tuple #[.pointer (some ⟨w.heap.size, 0, none⟩), out, .int .i64 0]) ∧
        RowsAt w5 out ((recordsOf n none (D.part f n)).map (·.2)) (w.heap.size + 1) ∧ Blk w5 w.heap.size 77 (logCells d f n ((recordsOf n none (D.part f n)).map (·.1.count)).sum (numAfter (((newestOf (D.part f n)).2 + 1) % 4294967296) (lastOf (recordsOf n none (D.part f n)))) ((newestOf (D.part f n)).1 + 1) false) ∧ Fr [] w w5 := by
      intro w5 hR hf5
      rw [hR, ← HSUM.out, HNUM0.out, HSES0.out]
      refine ⟨_, rfl, ⟨vs, ((HROWS.out.fr hf5 (by simp)).mono (by omega))⟩, HBLK.out.fr hf5 (by simp), HFR.out.trans hf5 (by simp)⟩
    have HEND := Lib.hid hend; clear hend
    have oAl : ∀ x, recordOf ((D.part f n).drop at_) = some x → recordOf ((D.part f n).drop at_) ≠ none := fun x h => by rw [h]; simp
    clear oAl
    by_cases hca : c = at_
    · have hn0 : n = at_ := by omega
      have hdr : (D.part f n).drop at_ = [] := List.eq_nil_of_length_eq_zero (by rw [HDL.out]; omega)
      have hR0 := HNONE.out (by rw [hdr]; rfl)
      have HR0 := Lib.hid hR0; clear hR0 hdr
      subst hca
      subst hn0
      go_wp2_with fail
      have hrec := record_any (A := A) (c := 0) (w := wr) (gl := gl) (off := 0) (gs := []) (L := []) ⟨rfl, by simp, by simp⟩ (by simp) (by simp) (by simp)
      refine hrec.mono ?_
      rintro e w4 ⟨rfl, hf4⟩
      have HF4 := Lib.hid hf4; clear hf4 hrec
      unfold noStamp
      go_wp2
      go_ret3
      exact HEND.out _ HR0.out (HF4.out.alloc _)
    · have hrec := record_any (A := A.map (·.add at_)) (c := c - at_) (HSECS.out.drop at_) (by intro h0; rw [HDL.out] at h0; rw [hA (by omega)]; simp [Addr.add_mid]) (by rw [HDL.out]; omega) (by rw [HDL.out]; omega)
      rw [HDL.out] at hrec
      have HREC := Lib.hid hrec; clear hrec
      go_wp2_with fail
      refine HREC.out.mono ?_
      intro e w4 hans
      unfold RecAns at hans
      cases hro : recordOf ((D.part f n).drop at_) with
      | none =>
        rw [hro] at hans
        obtain ⟨rfl, hf4⟩ := hans
        have hR0 := HNONE.out hro
        have HR0 := Lib.hid hR0; have HF4 := Lib.hid hf4
        clear hR0 hf4 hro
        unfold noStamp
        go_wp2
        go_ret3
        exact HEND.out _ HR0.out (HF4.out.alloc _)
      | some x =>
        obtain ⟨st, b⟩ := x
        rw [hro] at hans
        obtain ⟨v4, g4, rfl, hb4, hg4, hf4⟩ := hans
        obtain ⟨q1, q2, q3, q4, q5⟩ := recordOf_bd hro
        rw [HDL.out] at q2
        have HRO := Lib.hid hro; have HB4 := Lib.hid hb4; have HG4 := Lib.hid hg4; have HF4 := Lib.hid hf4
        clear hro hb4 hg4 hf4
        have hl4 := HLAST.out.fr HF4.out (by simp)
        have hlt4 := hl4.lt
        have hv4c : v4.cells = #[v4] := by obtain ⟨_, _, _, rfl, _⟩ := HB4.out; rfl
        have hv41 : v4.oneCell' = true := by obtain ⟨_, _, _, rfl, _⟩ := HB4.out; rfl
        have HV4C := Lib.hid hv4c; have HV41 := Lib.hid hv41; clear hv4c hv41
        unfold stampV
        by_cases hR : R = []
        · have hRn : ¬ (0 < R.length) := by rw [hR]; simp
          have hst : stops (lastOf R) st = false := by rw [hR]; rfl
          have HST := Lib.hid hst; have HL4 := Lib.hid hl4
          clear hl4 hR hst
          go_wp2_with fail
          have hfa : Fr [] wr (w4.alloc (.cells (lastCells (some st)).toArray 83)) := HF4.out.alloc _
          have hq5 : Blk (w4.alloc (.cells (lastCells (some st)).toArray 83)) w4.heap.size 83 (lastCells (some st)) := Blk.new w4 _ _
          have HFA := Lib.hid hfa; have HQ5 := Lib.hid hq5; clear hfa hq5
          refine wp_region_K (fun W => Blk W w4.heap.size 83 (lastCells (some st))) [0, 1, 4] (by kernel_rfl) ?_
          refine wpAnyK_take (i := 0) (some 93) ?vq1_0 rfl rfl (by kernel_rfl) (fun _ _ _ h => h) HQ5.out (.inl ⟨rfl, fun W hW => ?yq1_0⟩) ?_
          case yq1_0 => go_simp <;> with_reducible rfl
          simp only [Act.put, List.setIfInBounds_toArray, List.set_cons_zero, List.set_cons_succ]
          refine wpAnyK_take (i := 1) (some 94) ?vq1_1 rfl rfl (by kernel_rfl) (fun _ _ _ h => h) HQ5.out (.inl ⟨rfl, fun W hW => ?yq1_1⟩) ?_
          case yq1_1 => go_simp <;> with_reducible rfl
          simp only [Act.put, List.setIfInBounds_toArray, List.set_cons_zero, List.set_cons_succ]
          refine wpAnyK_take (i := 4) (some 97) (.agg (lastCells (some st)).toArray) rfl rfl (by kernel_rfl) (fun _ _ _ h => h) HQ5.out (yieldsIf_load_mid rfl 83 (.tmp 14) rfl w4.heap.size 0 rfl (lastCells (some st)) _ (fun W hW j v hj => by rw [Nat.zero_add]; exact hW.at_ hj) Try.underlying83 rfl (by kernel_rfl)) ?_
          simp only [Act.put, List.setIfInBounds_toArray, List.set_cons_zero, List.set_cons_succ]
          obtain ⟨i0, hi0, hz0, hz1, hz2⟩ := info_parts info_bytes
          refine wpAnyK_step (j := 2) (some 95) rfl rfl (by kernel_rfl) rfl fun K hK => ?_
          refine wp_build_cell (.tmp 94) rfl Try.underlying57 hi0 hz0 hz1 rfl v4 rfl HV4C.out (w4.heap.size + 1) (by show (w4.alloc _).heap.size = _; simp) fun w6 hB6 hF6 hz6 => ?_
          have hF6' : Fr [] wr w6 := HFA.out.drew.trans hF6 (by simp)
          have hq6 : Blk w6 w4.heap.size 83 (lastCells (some st)) := HQ5.out.drew.fr hF6 (by simp)
          refine hK _ _ (fun _ => hq6) ?_
          simp only [Act.put, List.setIfInBounds_toArray, List.set_cons_zero, List.set_cons_succ]
          refine wpAnyK_step (j := 3) (some 96) rfl rfl (by kernel_rfl) rfl fun K hK => ?_
          refine wp_append_fr (.tmp 93) (.tmp 95) rfl 35 1 24 Try.underlying57 hi0 hz0 hz1 hz2 rfl (by omega) (.slice oA R.length oc) R.length vs rfl ?own ⟨w4.heap.size + 1, 0, none⟩ 1 1 [v4] rfl rfl ?news ?one (by omega) (by unfold maxLen; omega) (by omega) (w4.heap.size + 2) hz6 fun g7 cap w7 ho7 hf7 hat7 hlt7 => ?_
          case own => have := (HROWS.out.fr hF6' (by simp)).own; rw [List.length_map] at this; exact this
          case one => intro u hu; simp at hu; subst hu; exact HV41.out
          case news => intro j u hu; rw [Addr.add_mid, Nat.zero_add]; exact hB6.at_ hu
          have hox : ∀ x ∈ (Value.slice oA R.length oc).ownBlock.toList, w3.heap.size + 1 ≤ x ∧ x < wr.heap.size := fun x hx => by
            have h : (Value.slice oA R.length oc).ownBlock = some x := by simpa using hx
            exact ⟨HROWS.out.ge x h, own_lt HROWS.out.own x h⟩
          have hz4 := HF4.out.size
          have hlw := HLAST.out.lt
          obtain ⟨g4', hb4', hg4', hl4'⟩ := (HB4.out.fr (((Fr.refl [] w4).alloc (.cells (lastCells (some st)).toArray 83)).drew.trans hF6 (by simp)) (by simp)).lt HG4.out (by omega)
          have hr7 : RowsIn w7 (.slice (some ⟨g7, 0, none⟩) (R.length + 1) cap) ((R ++ [(st, b)]).map (·.2)) (vs ++ [v4]) (w3.heap.size + 1) := by
            have hr6 := HROWS.out.fr hF6' (by simp)
            have hb6 : BytesAt w6 v4 b g4' := hb4'
            have := hr6.push (g7 := g7) (cap := cap) (w7 := w7) hb6 (by omega) (by omega) (fun hx => by have := hox g4' (by simp [hx]); omega) HV41.out (by rw [List.length_map]; exact ho7) hf7 (by rw [hz6]; exact hat7) (by omega)
            rw [List.length_map] at this
            rw [List.map_append]
            exact this
          have hq7 := hq6.fr hf7 (fun hm => by have := hox _ hm; omega)
          have hb7 := (HBLK.out.fr hF6' (by simp)).fr hf7 (fun hm => by have := hox _ hm; omega)
          have hl7 := (HLAST.out.fr hF6' (by simp)).fr hf7 (fun hm => by have := hox _ hm; omega)
          have hs7 := (HSECS.out.fr hF6' (by simp) (by simp)).fr hf7 (fun hm => by have := hox _ hm; have := HGL3.out; omega) (fun g hg hm => by have := hox _ hm; have := HS3.out.lt g hg; omega)
          have hfw7 := (HFR.out.trans hF6' (by simp)).trans hf7 (fun x hx => .inr (by have := hox _ hx; omega))
          refine hK _ _ (fun _ => hq7) ?_
          simp only [Act.put, List.setIfInBounds_toArray, List.set_cons_zero, List.set_cons_succ]
          refine wpAnyK_step (j := 5) (some 12) rfl rfl (by kernel_rfl) rfl fun K hK => ?_
          refine wp_run_same (v := ?aq1_5) ?yq1_5 (hK _ _ (fun _ => hq7) ?_)
          case yq1_5 => go_simp <;> with_reducible rfl
          simp only [Act.put, List.setIfInBounds_toArray, List.set_cons_zero, List.set_cons_succ]
          refine wpAnyK_step (j := 6) none rfl rfl (by kernel_rfl) rfl fun K hK => ?_
          refine wp_store_blk 83 (.tmp 13) (.tmp 97) rfl (lastCells (some st)) rfl rfl hl7 (by kernel_rfl) (by cases lastOf R <;> rfl) (by intro u hu; simp only [lastCells, List.mem_cons, List.not_mem_nil, or_false] at hu; rcases hu with rfl | rfl | rfl <;> rfl) fun w8 hB8 hF8 _ => hK _ _ (fun h => absurd h (by decide +kernel)) ?_
          simp only [Act.put]
          refine wpAnyK_done (by kernel_rfl) ?_ _
          have hq8 := hq7.fr hF8 (by simp; omega)
          have hb8 := hb7.fr hF8 (by simp; omega)
          have hs8 := hs7.fr hF8 (by simp; have := HGL3.out; omega) (fun g hg hm => by simp at hm; have := HS3.out.lt g hg; omega)
          have hr8 := hr7.fr hF8 (fun x hx => .inl (by simp at hx; omega))
          have hfw8 := hfw7.trans hF8 (fun x hx => .inr (by simp at hx; omega))
          have HQ8 := Lib.hid hq8; have HB8 := Lib.hid hb8; have HS8 := Lib.hid hs8; have HR8 := Lib.hid hr8; have HFW8 := Lib.hid hfw8; have HL8 := Lib.hid hB8
          clear hq8 hb8 hs8 hr8 hfw8 hB8 hF8 hfw7 hs7 hl7 hb7 hq7 hr7 hb4' hg4' hl4' hox hat7 ho7 hf7 hlt7 hq6 hF6 hF6' hB6 hz6 hK hi0 hz0 hz1 hz2 m3
          have l3 := HB8.out.at_ (i := 3) rfl
          have lf := HB8.out.free
          have p0 := HQ8.out.at_ (i := 0) rfl
          have p1 := HQ8.out.at_ (i := 1) rfl
          have p2 := HQ8.out.at_ (i := 2) rfl
          have wadd : IntKind.i64.wrap ((at_ : Int) + (st.count : Int)) = (at_ : Int) + (st.count : Int) := by rw [IntKind.wrap_i64]; omega
          go_wp2_with fail
          refine wp_region_K (fun W => W.cell? ⟨w.heap.size, 3, none⟩ = some (.int .i64 (at_ : Int)) ∧ W.cell? ⟨w4.heap.size, 2, none⟩ = some (.int .i64 (st.count : Int))) [0, 1, 2, 3, 4, 5, 6] (by kernel_rfl) ?_
          refine wpAnyK_take (i := 0) (some 98) ?vq2_0 rfl rfl (by kernel_rfl) (fun _ _ _ h => h) ⟨l3, p2⟩ (.inl ⟨rfl, fun W hW => ?yq2_0⟩) ?_
          case yq2_0 => (obtain ⟨c3, c2⟩ := hW; go_simp) <;> with_reducible rfl
          simp only [Act.put, List.setIfInBounds_toArray, List.set_cons_zero, List.set_cons_succ]
          refine wpAnyK_take (i := 1) (some 99) ?vq2_1 rfl rfl (by kernel_rfl) (fun _ _ _ h => h) ⟨l3, p2⟩ (.inl ⟨rfl, fun W hW => ?yq2_1⟩) ?_
          case yq2_1 => (obtain ⟨c3, c2⟩ := hW; go_simp) <;> with_reducible rfl
          simp only [Act.put, List.setIfInBounds_toArray, List.set_cons_zero, List.set_cons_succ]
          refine wpAnyK_take (i := 2) (some 100) ?vq2_2 rfl rfl (by kernel_rfl) (fun _ _ _ h => h) ⟨l3, p2⟩ (.inl ⟨rfl, fun W hW => ?yq2_2⟩) ?_
          case yq2_2 => (obtain ⟨c3, c2⟩ := hW; go_simp) <;> with_reducible rfl
          simp only [Act.put, List.setIfInBounds_toArray, List.set_cons_zero, List.set_cons_succ]
          refine wpAnyK_take (i := 3) (some 101) ?vq2_3 rfl rfl (by kernel_rfl) (fun _ _ _ h => h) ⟨l3, p2⟩ (.inl ⟨rfl, fun W hW => ?yq2_3⟩) ?_
          case yq2_3 => (obtain ⟨c3, c2⟩ := hW; go_simp) <;> with_reducible rfl
          simp only [Act.put, List.setIfInBounds_toArray, List.set_cons_zero, List.set_cons_succ]
          refine wpAnyK_take (i := 4) (some 102) ?vq2_4 rfl rfl (by kernel_rfl) (fun _ _ _ h => h) ⟨l3, p2⟩ (.inl ⟨rfl, fun W hW => ?yq2_4⟩) ?_
          case yq2_4 => (obtain ⟨c3, c2⟩ := hW; go_simp) <;> with_reducible rfl
          simp only [Act.put, List.setIfInBounds_toArray, List.set_cons_zero, List.set_cons_succ]
          refine wpAnyK_take (i := 5) (some 103) ?vq2_5 rfl rfl (by kernel_rfl) (fun _ _ _ h => h) ⟨l3, p2⟩ (.inl ⟨rfl, fun W hW => ?yq2_5⟩) ?_
          case yq2_5 => (obtain ⟨c3, c2⟩ := hW; go_simp) <;> with_reducible rfl
          simp only [Act.put, List.setIfInBounds_toArray, List.set_cons_zero, List.set_cons_succ]
          refine wpAnyK_take (i := 6) (some 104) ?vq2_6 rfl rfl (by kernel_rfl) (fun _ _ _ h => h) ⟨l3, p2⟩ (.inl ⟨rfl, fun W hW => ?yq2_6⟩) ?_
          case yq2_6 => (obtain ⟨c3, c2⟩ := hW; go_simp) <;> with_reducible rfl
          simp only [Act.put, List.setIfInBounds_toArray, List.set_cons_zero, List.set_cons_succ]
          refine wpAnyK_step (j := 7) (some 105) rfl rfl (by kernel_rfl) rfl fun K hK => ?_
          refine wp_run_same (v := ?aq2_7) ?yq2_7 (hK _ _ (fun h => absurd h (by decide +kernel)) ?_)
          case yq2_7 => go_simp <;> with_reducible rfl
          simp only [Act.put, List.setIfInBounds_toArray, List.set_cons_zero, List.set_cons_succ]
          refine wpAnyK_step (j := 8) (some 106) rfl rfl (by kernel_rfl) rfl fun K hK => ?_
          refine wp_run_same (v := ?aq2_8) ?yq2_8 (hK _ _ (fun h => absurd h (by decide +kernel)) ?_)
          case yq2_8 => go_simp <;> with_reducible rfl
          simp only [Act.put, List.setIfInBounds_toArray, List.set_cons_zero, List.set_cons_succ]
          refine wpAnyK_step (j := 9) none rfl rfl (by kernel_rfl) rfl fun K hK => ?_
          refine wp_run_skip (w' := w8.drew.setCell ⟨w.heap.size, 3, none⟩ (.int .i64 ((at_ : Int) + (st.count : Int)))) (by go_simp) (hK _ _ (fun h => absurd h (by decide +kernel)) ?_)
          simp only [Act.put]
          refine wpAnyK_done (by kernel_rfl) ?_ _
          have hb9 : Blk (w8.drew.setCell ⟨w.heap.size, 3, none⟩ (.int .i64 ((at_ : Int) + (st.count : Int)))) w.heap.size 77 (logCells d f n (at_ + st.count) (numAfter num0 (lastOf R)) ses0 false) := by
            have h := HB8.out.drew.set_ 3 (.int .i64 ((at_ : Int) + (st.count : Int)))
            rw [show (at_ : Int) + (st.count : Int) = ((at_ + st.count : Nat) : Int) by omega] at h ⊢
            exact h
          have hf9 : Fr [w.heap.size] w8 (w8.drew.setCell ⟨w.heap.size, 3, none⟩ (.int .i64 ((at_ : Int) + (st.count : Int)))) := (Fr.refl [w.heap.size] w8).drew.setCell (.inl (by simp)) _
          generalize (w8.drew.setCell ⟨w.heap.size, 3, none⟩ (.int .i64 ((at_ : Int) + (st.count : Int)))) = w9 at *
          clear l3 lf p0 p1 p2 wadd hK
          have l4 := hb9.at_ (i := 4) rfl
          have lf := hb9.free
          have p1 := (HQ8.out.fr hf9 (by simp; omega)).at_ (i := 1) rfl
          have HB9 := Lib.hid hb9; have HF9 := Lib.hid hf9; clear hb9 hf9
          have wadd : IntKind.u32.wrap ((st.number : Int) + 1) = (((st.number + 1) % 4294967296 : Nat) : Int) := by rw [IntKind.wrap_u32]; omega
          go_wp2
          have hfs : ∀ w10, Fr [w.heap.size] w8 w10 → Blk w10 w.heap.size 77 (logCells d f n (at_ + st.count) ((st.number + 1) % 4294967296) ses0 false) →
              JOpenRel w d f n num0 ses0 w3.heap.size gl gs (D.part f n) (.slice (some ⟨g7, 0, none⟩) (R.length + 1) cap) w10 := by
            intro w10 hf10 hb10
            refine ⟨R ++ [(st, b)], vs ++ [v4], k - 1, at_ + st.count, by simp; omega, by omega, by omega, ?_, by simp [HSUM.out], ?_, HR8.out.fr hf10 (fun x hx => .inl (by simp at hx; omega)), ?_, ?_, ?_, HFW8.out.trans hf10 (fun x hx => .inr (by simp at hx; omega))⟩
            · have hk1 : k = (k - 1) + 1 := by omega
              rw [HRECS.out, hk1, recs_on HRO.out HST.out, lastOf_snoc, List.drop_drop, ← hk1]
              simp
            · intro x hx
              rcases List.mem_append.1 hx with hx | hx
              · exact HBD.out x hx
              · simp at hx; subst hx; exact ⟨q3, q4⟩
            · rw [lastOf_snoc]; exact hb10
            · rw [lastOf_snoc]; exact HL8.out.fr hf10 (by simp; omega)
            · exact HS8.out.fr hf10 (by simp; have := HGL.out; omega) (fun g hg hm => by simp at hm; have := HS3.out.lt g hg; have := HGS.out g hg; omega)
          refine ⟨hfs _ ?_ ?_, ?_⟩
          · first | exact HF9.out.setCell (.inl (by simp)) _ | exact (HF9.out.drew).setCell (.inl (by simp)) _ | exact (HF9.out.setCell (.inl (by simp)) _).drew
          · first | exact HB9.out.set_ 4 _ | exact HB9.out.drew.set_ 4 _ | exact (HB9.out.set_ 4 _).drew
          · simp only [sliceLen]; omega
        · obtain ⟨l, hl⟩ : ∃ l, lastOf R = some l := by
            unfold lastOf
            cases hg : R.getLast? with
            | none => rw [List.getLast?_eq_none_iff] at hg; exact absurd hg hR
            | some x => exact ⟨x.1, rfl⟩
          have hRp : 0 < R.length := by rcases Nat.eq_zero_or_pos R.length with h | h; exact absurd (List.eq_nil_of_length_eq_zero h) hR; exact h
          have hlb : l.number < 4294967296 ∧ l.session < 4294967296 := by
            unfold lastOf at hl
            obtain ⟨x, hx, rfl⟩ := Option.map_eq_some_iff.1 hl
            have := HBD.out x (List.mem_of_getLast? hx)
            exact ⟨this.2, this.1⟩
          rw [hl] at hl4
          have HL4 := Lib.hid hl4
          have o0 := hl4.at_ (i := 0) rfl
          have o1 := hl4.at_ (i := 1) rfl
          have HL := Lib.hid hl
          clear hl4 hl hR
          have wadd0 : IntKind.u32.wrap ((l.number : Int) + 1) = (((l.number + 1) % 4294967296 : Nat) : Int) := by rw [IntKind.wrap_u32]; omega
          cases hst : stops (lastOf R) st with
          | true =>
            have hR0 : recordsOf n none (D.part f n) = R := by rw [HRECS.out, recs_stop HRO.out hst, List.append_nil]
            have HR0 := Lib.hid hR0; clear hR0
            rw [HL.out] at hst
            simp only [stops, decide_eq_true_eq] at hst
            by_cases hnn : (st.number : Int) = (((l.number + 1) % 4294967296 : Nat) : Int)
            · have hss : (st.session : Int) < (l.session : Int) := by omega
              clear hst
              go_wp2
              go_ret3
              exact HEND.out _ HR0.out (HF4.out.alloc _)
            · clear hst
              go_wp2
              go_ret3
              exact HEND.out _ HR0.out (HF4.out.alloc _)
          | false =>
            have HST := Lib.hid hst
            rw [HL.out] at hst
            simp only [stops, decide_eq_false_iff_not] at hst
            have hnn : (st.number : Int) = (((l.number + 1) % 4294967296 : Nat) : Int) := by omega
            have hss : ¬ ((st.session : Int) < (l.session : Int)) := by omega
            have wadd1 : IntKind.u32.wrap ((l.number : Int) + 1) = (st.number : Int) := by rw [wadd0, hnn]
            clear hst wadd0 hnn
            go_wp2_with fail
            have hfa : Fr [] wr (w4.alloc (.cells (lastCells (some st)).toArray 83)) := HF4.out.alloc _
            have hq5 : Blk (w4.alloc (.cells (lastCells (some st)).toArray 83)) w4.heap.size 83 (lastCells (some st)) := Blk.new w4 _ _
            have HFA := Lib.hid hfa; have HQ5 := Lib.hid hq5; clear hfa hq5
            refine wp_region_K (fun W => Blk W w4.heap.size 83 (lastCells (some st))) [0, 1, 4] (by kernel_rfl) ?_
            refine wpAnyK_take (i := 0) (some 93) ?vq3_0 rfl rfl (by kernel_rfl) (fun _ _ _ h => h) HQ5.out (.inl ⟨rfl, fun W hW => ?yq3_0⟩) ?_
            case yq3_0 => go_simp <;> with_reducible rfl
            simp only [Act.put, List.setIfInBounds_toArray, List.set_cons_zero, List.set_cons_succ]
            refine wpAnyK_take (i := 1) (some 94) ?vq3_1 rfl rfl (by kernel_rfl) (fun _ _ _ h => h) HQ5.out (.inl ⟨rfl, fun W hW => ?yq3_1⟩) ?_
            case yq3_1 => go_simp <;> with_reducible rfl
            simp only [Act.put, List.setIfInBounds_toArray, List.set_cons_zero, List.set_cons_succ]
            refine wpAnyK_take (i := 4) (some 97) (.agg (lastCells (some st)).toArray) rfl rfl (by kernel_rfl) (fun _ _ _ h => h) HQ5.out (yieldsIf_load_mid rfl 83 (.tmp 14) rfl w4.heap.size 0 rfl (lastCells (some st)) _ (fun W hW j v hj => by rw [Nat.zero_add]; exact hW.at_ hj) Try.underlying83 rfl (by kernel_rfl)) ?_
            simp only [Act.put, List.setIfInBounds_toArray, List.set_cons_zero, List.set_cons_succ]
            obtain ⟨i0, hi0, hz0, hz1, hz2⟩ := info_parts info_bytes
            refine wpAnyK_step (j := 2) (some 95) rfl rfl (by kernel_rfl) rfl fun K hK => ?_
            refine wp_build_cell (.tmp 94) rfl Try.underlying57 hi0 hz0 hz1 rfl v4 rfl HV4C.out (w4.heap.size + 1) (by show (w4.alloc _).heap.size = _; simp) fun w6 hB6 hF6 hz6 => ?_
            have hF6' : Fr [] wr w6 := HFA.out.drew.trans hF6 (by simp)
            have hq6 : Blk w6 w4.heap.size 83 (lastCells (some st)) := HQ5.out.drew.fr hF6 (by simp)
            refine hK _ _ (fun _ => hq6) ?_
            simp only [Act.put, List.setIfInBounds_toArray, List.set_cons_zero, List.set_cons_succ]
            refine wpAnyK_step (j := 3) (some 96) rfl rfl (by kernel_rfl) rfl fun K hK => ?_
            refine wp_append_fr (.tmp 93) (.tmp 95) rfl 35 1 24 Try.underlying57 hi0 hz0 hz1 hz2 rfl (by omega) (.slice oA R.length oc) R.length vs rfl ?own ⟨w4.heap.size + 1, 0, none⟩ 1 1 [v4] rfl rfl ?news ?one (by omega) (by unfold maxLen; omega) (by omega) (w4.heap.size + 2) hz6 fun g7 cap w7 ho7 hf7 hat7 hlt7 => ?_
            case own => have := (HROWS.out.fr hF6' (by simp)).own; rw [List.length_map] at this; exact this
            case one => intro u hu; simp at hu; subst hu; exact HV41.out
            case news => intro j u hu; rw [Addr.add_mid, Nat.zero_add]; exact hB6.at_ hu
            have hox : ∀ x ∈ (Value.slice oA R.length oc).ownBlock.toList, w3.heap.size + 1 ≤ x ∧ x < wr.heap.size := fun x hx => by
              have h : (Value.slice oA R.length oc).ownBlock = some x := by simpa using hx
              exact ⟨HROWS.out.ge x h, own_lt HROWS.out.own x h⟩
            have hz4 := HF4.out.size
            have hlw := HLAST.out.lt
            obtain ⟨g4', hb4', hg4', hl4'⟩ := (HB4.out.fr (((Fr.refl [] w4).alloc (.cells (lastCells (some st)).toArray 83)).drew.trans hF6 (by simp)) (by simp)).lt HG4.out (by omega)
            have hr7 : RowsIn w7 (.slice (some ⟨g7, 0, none⟩) (R.length + 1) cap) ((R ++ [(st, b)]).map (·.2)) (vs ++ [v4]) (w3.heap.size + 1) := by
              have hr6 := HROWS.out.fr hF6' (by simp)
              have hb6 : BytesAt w6 v4 b g4' := hb4'
              have := hr6.push (g7 := g7) (cap := cap) (w7 := w7) hb6 (by omega) (by omega) (fun hx => by have := hox g4' (by simp [hx]); omega) HV41.out (by rw [List.length_map]; exact ho7) hf7 (by rw [hz6]; exact hat7) (by omega)
              rw [List.length_map] at this
              rw [List.map_append]
              exact this
            have hq7 := hq6.fr hf7 (fun hm => by have := hox _ hm; omega)
            have hb7 := (HBLK.out.fr hF6' (by simp)).fr hf7 (fun hm => by have := hox _ hm; omega)
            have hl7 := (HLAST.out.fr hF6' (by simp)).fr hf7 (fun hm => by have := hox _ hm; omega)
            have hs7 := (HSECS.out.fr hF6' (by simp) (by simp)).fr hf7 (fun hm => by have := hox _ hm; have := HGL3.out; omega) (fun g hg hm => by have := hox _ hm; have := HS3.out.lt g hg; omega)
            have hfw7 := (HFR.out.trans hF6' (by simp)).trans hf7 (fun x hx => .inr (by have := hox _ hx; omega))
            refine hK _ _ (fun _ => hq7) ?_
            simp only [Act.put, List.setIfInBounds_toArray, List.set_cons_zero, List.set_cons_succ]
            refine wpAnyK_step (j := 5) (some 12) rfl rfl (by kernel_rfl) rfl fun K hK => ?_
            refine wp_run_same (v := ?aq3_5) ?yq3_5 (hK _ _ (fun _ => hq7) ?_)
            case yq3_5 => go_simp <;> with_reducible rfl
            simp only [Act.put, List.setIfInBounds_toArray, List.set_cons_zero, List.set_cons_succ]
            refine wpAnyK_step (j := 6) none rfl rfl (by kernel_rfl) rfl fun K hK => ?_
            refine wp_store_blk 83 (.tmp 13) (.tmp 97) rfl (lastCells (some st)) rfl rfl hl7 (by kernel_rfl) (by cases lastOf R <;> rfl) (by intro u hu; simp only [lastCells, List.mem_cons, List.not_mem_nil, or_false] at hu; rcases hu with rfl | rfl | rfl <;> rfl) fun w8 hB8 hF8 _ => hK _ _ (fun h => absurd h (by decide +kernel)) ?_
            simp only [Act.put]
            refine wpAnyK_done (by kernel_rfl) ?_ _
            have hq8 := hq7.fr hF8 (by simp; omega)
            have hb8 := hb7.fr hF8 (by simp; omega)
            have hs8 := hs7.fr hF8 (by simp; have := HGL3.out; omega) (fun g hg hm => by simp at hm; have := HS3.out.lt g hg; omega)
            have hr8 := hr7.fr hF8 (fun x hx => .inl (by simp at hx; omega))
            have hfw8 := hfw7.trans hF8 (fun x hx => .inr (by simp at hx; omega))
            have HQ8 := Lib.hid hq8; have HB8 := Lib.hid hb8; have HS8 := Lib.hid hs8; have HR8 := Lib.hid hr8; have HFW8 := Lib.hid hfw8; have HL8 := Lib.hid hB8
            clear hq8 hb8 hs8 hr8 hfw8 hB8 hF8 hfw7 hs7 hl7 hb7 hq7 hr7 hb4' hg4' hl4' hox hat7 ho7 hf7 hlt7 hq6 hF6 hF6' hB6 hz6 hK hi0 hz0 hz1 hz2 m3
            have l3 := HB8.out.at_ (i := 3) rfl
            have lf := HB8.out.free
            have p0 := HQ8.out.at_ (i := 0) rfl
            have p1 := HQ8.out.at_ (i := 1) rfl
            have p2 := HQ8.out.at_ (i := 2) rfl
            have wadd : IntKind.i64.wrap ((at_ : Int) + (st.count : Int)) = (at_ : Int) + (st.count : Int) := by rw [IntKind.wrap_i64]; omega
            go_wp2_with fail
            refine wp_region_K (fun W => W.cell? ⟨w.heap.size, 3, none⟩ = some (.int .i64 (at_ : Int)) ∧ W.cell? ⟨w4.heap.size, 2, none⟩ = some (.int .i64 (st.count : Int))) [0, 1, 2, 3, 4, 5, 6] (by kernel_rfl) ?_
            refine wpAnyK_take (i := 0) (some 98) ?vq4_0 rfl rfl (by kernel_rfl) (fun _ _ _ h => h) ⟨l3, p2⟩ (.inl ⟨rfl, fun W hW => ?yq4_0⟩) ?_
            case yq4_0 => (obtain ⟨c3, c2⟩ := hW; go_simp) <;> with_reducible rfl
            simp only [Act.put, List.setIfInBounds_toArray, List.set_cons_zero, List.set_cons_succ]
            refine wpAnyK_take (i := 1) (some 99) ?vq4_1 rfl rfl (by kernel_rfl) (fun _ _ _ h => h) ⟨l3, p2⟩ (.inl ⟨rfl, fun W hW => ?yq4_1⟩) ?_
            case yq4_1 => (obtain ⟨c3, c2⟩ := hW; go_simp) <;> with_reducible rfl
            simp only [Act.put, List.setIfInBounds_toArray, List.set_cons_zero, List.set_cons_succ]
            refine wpAnyK_take (i := 2) (some 100) ?vq4_2 rfl rfl (by kernel_rfl) (fun _ _ _ h => h) ⟨l3, p2⟩ (.inl ⟨rfl, fun W hW => ?yq4_2⟩) ?_
            case yq4_2 => (obtain ⟨c3, c2⟩ := hW; go_simp) <;> with_reducible rfl
            simp only [Act.put, List.setIfInBounds_toArray, List.set_cons_zero, List.set_cons_succ]
            refine wpAnyK_take (i := 3) (some 101) ?vq4_3 rfl rfl (by kernel_rfl) (fun _ _ _ h => h) ⟨l3, p2⟩ (.inl ⟨rfl, fun W hW => ?yq4_3⟩) ?_
            case yq4_3 => (obtain ⟨c3, c2⟩ := hW; go_simp) <;> with_reducible rfl
            simp only [Act.put, List.setIfInBounds_toArray, List.set_cons_zero, List.set_cons_succ]
            refine wpAnyK_take (i := 4) (some 102) ?vq4_4 rfl rfl (by kernel_rfl) (fun _ _ _ h => h) ⟨l3, p2⟩ (.inl ⟨rfl, fun W hW => ?yq4_4⟩) ?_
            case yq4_4 => (obtain ⟨c3, c2⟩ := hW; go_simp) <;> with_reducible rfl
            simp only [Act.put, List.setIfInBounds_toArray, List.set_cons_zero, List.set_cons_succ]
            refine wpAnyK_take (i := 5) (some 103) ?vq4_5 rfl rfl (by kernel_rfl) (fun _ _ _ h => h) ⟨l3, p2⟩ (.inl ⟨rfl, fun W hW => ?yq4_5⟩) ?_
            case yq4_5 => (obtain ⟨c3, c2⟩ := hW; go_simp) <;> with_reducible rfl
            simp only [Act.put, List.setIfInBounds_toArray, List.set_cons_zero, List.set_cons_succ]
            refine wpAnyK_take (i := 6) (some 104) ?vq4_6 rfl rfl (by kernel_rfl) (fun _ _ _ h => h) ⟨l3, p2⟩ (.inl ⟨rfl, fun W hW => ?yq4_6⟩) ?_
            case yq4_6 => (obtain ⟨c3, c2⟩ := hW; go_simp) <;> with_reducible rfl
            simp only [Act.put, List.setIfInBounds_toArray, List.set_cons_zero, List.set_cons_succ]
            refine wpAnyK_step (j := 7) (some 105) rfl rfl (by kernel_rfl) rfl fun K hK => ?_
            refine wp_run_same (v := ?aq4_7) ?yq4_7 (hK _ _ (fun h => absurd h (by decide +kernel)) ?_)
            case yq4_7 => go_simp <;> with_reducible rfl
            simp only [Act.put, List.setIfInBounds_toArray, List.set_cons_zero, List.set_cons_succ]
            refine wpAnyK_step (j := 8) (some 106) rfl rfl (by kernel_rfl) rfl fun K hK => ?_
            refine wp_run_same (v := ?aq4_8) ?yq4_8 (hK _ _ (fun h => absurd h (by decide +kernel)) ?_)
            case yq4_8 => go_simp <;> with_reducible rfl
            simp only [Act.put, List.setIfInBounds_toArray, List.set_cons_zero, List.set_cons_succ]
            refine wpAnyK_step (j := 9) none rfl rfl (by kernel_rfl) rfl fun K hK => ?_
            refine wp_run_skip (w' := w8.drew.setCell ⟨w.heap.size, 3, none⟩ (.int .i64 ((at_ : Int) + (st.count : Int)))) (by go_simp) (hK _ _ (fun h => absurd h (by decide +kernel)) ?_)
            simp only [Act.put]
            refine wpAnyK_done (by kernel_rfl) ?_ _
            have hb9 : Blk (w8.drew.setCell ⟨w.heap.size, 3, none⟩ (.int .i64 ((at_ : Int) + (st.count : Int)))) w.heap.size 77 (logCells d f n (at_ + st.count) (numAfter num0 (lastOf R)) ses0 false) := by
              have h := HB8.out.drew.set_ 3 (.int .i64 ((at_ : Int) + (st.count : Int)))
              rw [show (at_ : Int) + (st.count : Int) = ((at_ + st.count : Nat) : Int) by omega] at h ⊢
              exact h
            have hf9 : Fr [w.heap.size] w8 (w8.drew.setCell ⟨w.heap.size, 3, none⟩ (.int .i64 ((at_ : Int) + (st.count : Int)))) := (Fr.refl [w.heap.size] w8).drew.setCell (.inl (by simp)) _
            generalize (w8.drew.setCell ⟨w.heap.size, 3, none⟩ (.int .i64 ((at_ : Int) + (st.count : Int)))) = w9 at *
            clear l3 lf p0 p1 p2 wadd hK
            have l4 := hb9.at_ (i := 4) rfl
            have lf := hb9.free
            have p1 := (HQ8.out.fr hf9 (by simp; omega)).at_ (i := 1) rfl
            have HB9 := Lib.hid hb9; have HF9 := Lib.hid hf9; clear hb9 hf9
            have wadd : IntKind.u32.wrap ((st.number : Int) + 1) = (((st.number + 1) % 4294967296 : Nat) : Int) := by rw [IntKind.wrap_u32]; omega
            go_wp2
            have hfs : ∀ w10, Fr [w.heap.size] w8 w10 → Blk w10 w.heap.size 77 (logCells d f n (at_ + st.count) ((st.number + 1) % 4294967296) ses0 false) →
                JOpenRel w d f n num0 ses0 w3.heap.size gl gs (D.part f n) (.slice (some ⟨g7, 0, none⟩) (R.length + 1) cap) w10 := by
              intro w10 hf10 hb10
              refine ⟨R ++ [(st, b)], vs ++ [v4], k - 1, at_ + st.count, by simp; omega, by omega, by omega, ?_, by simp [HSUM.out], ?_, HR8.out.fr hf10 (fun x hx => .inl (by simp at hx; omega)), ?_, ?_, ?_, HFW8.out.trans hf10 (fun x hx => .inr (by simp at hx; omega))⟩
              · have hk1 : k = (k - 1) + 1 := by omega
                rw [HRECS.out, hk1, recs_on HRO.out HST.out, lastOf_snoc, List.drop_drop, ← hk1]
                simp
              · intro x hx
                rcases List.mem_append.1 hx with hx | hx
                · exact HBD.out x hx
                · simp at hx; subst hx; exact ⟨q3, q4⟩
              · rw [lastOf_snoc]; exact hb10
              · rw [lastOf_snoc]; exact HL8.out.fr hf10 (by simp; omega)
              · exact HS8.out.fr hf10 (by simp; have := HGL.out; omega) (fun g hg hm => by simp at hm; have := HS3.out.lt g hg; have := HGS.out g hg; omega)
            refine ⟨hfs _ ?_ ?_, ?_⟩
            · first | exact HF9.out.setCell (.inl (by simp)) _ | exact (HF9.out.drew).setCell (.inl (by simp)) _ | exact (HF9.out.setCell (.inl (by simp)) _).drew
            · first | exact HB9.out.set_ 4 _ | exact HB9.out.drew.set_ 4 _ | exact (HB9.out.set_ 4 _).drew
            · simp only [sliceLen]; omega

end Go.Proofs.Ytidpleejgalljaa
