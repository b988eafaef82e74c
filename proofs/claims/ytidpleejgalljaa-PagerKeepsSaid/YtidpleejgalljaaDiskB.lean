/-
  The contracts of disk.New, sector and Read: for every disk, every number.
-/
import Derived.Test.YtidpleejgalljaaDiskA
import Derived.Test.YtidpleejgalljaaLaws
namespace Go.Proofs.Ytidpleejgalljaa
open Go.RowKit

theorem info_pend : (Try.prog.info? 71).map (fun i => (i.size, i.bytes)) = some (65, 72) := by kernel_rfl
def zpc : Array Value := (.int .i64 0 :: List.replicate 64 (.int .u8 0)).toArray
def zp : Value := .agg zpc
theorem zero_pend : (Try.prog.info? 71).map (·.zero) = some (some zp) := by kernel_rfl
theorem zp_size : zpc.size = 65 := rfl
theorem size_pend : (Try.prog.info? 71).map (·.size) = some 65 := by kernel_rfl
theorem size_u8 : (Try.prog.info? 5).map (·.size) = some 1 := by kernel_rfl

/-! ### New -/
set_option maxRecDepth 100000 in
set_option maxHeartbeats 400000 in
theorem new_no (n : Int) (w : World) (h : n < 1 ∨ 65536 < n) :
    Calls Try.prog 10 #[.int .i64 n] w fun e w' => e = .returned (.tuple #[.pointer none, .int .i64 1]) ∧ w = w' := by
  by_cases h1 : n < 1
  · clear h
    go_enter Try.func10, Try.ntmps10
    go_wp2
    go_ret2
    exact ⟨rfl, rfl⟩
  · have h2 : 65536 < n := by omega
    clear h
    go_enter Try.func10, Try.ntmps10
    go_wp2
    go_ret2
    exact ⟨rfl, rfl⟩
theorem made_zero (n : Nat) : (madeCells #[Value.int .u8 0] (n * 64)).toList = bcells (DM.new n).S.flatten := by
  have e1 : (DM.new n).S.flatten = List.replicate (n * 64) 0 := List.flatten_replicate_replicate
  rw [e1]
  apply List.ext_getElem?
  intro i
  simp only [madeCells, bcells, List.map_replicate, List.getElem?_replicate, Array.getElem?_toList]
  by_cases hi : i < n * 64
  · simp [hi, B8, Nat.mod_one]
  · simp [hi]
set_option maxRecDepth 100000 in
set_option maxHeartbeats 400000 in
theorem new_ok (n : Nat) (w : World) (h1 : 1 ≤ n) (hn : n ≤ 65536) :
    Calls Try.prog 10 #[.int .i64 n] w fun e w' => ∃ d fp, e = .returned (.tuple #[.pointer (some ⟨d, 0, none⟩), .int .i64 0]) ∧ DiskAt w' d (DM.new n) fp ∧ Fr [] w w' ∧ ∀ k ∈ fp, w.heap.size ≤ k := by
  have hmk := run_make_row' (P := Try.prog) 35 5 (.int .u8 0) 1 Try.underlying35 info_u8 rfl .i64 .i64 (n * 64) (by omega) (by omega)
  simp only [Int.natCast_mul, Int.cast_ofNat_Int] at hmk
  go_enter Try.func10, Try.ntmps10
  go_wp2
  go_ret2
  refine ⟨w.heap.size + 1, dfp (w.heap.size + 1) w.heap.size (.slice none 0 0), rfl, ⟨w.heap.size, .slice none 0 0, rfl, ?_, ?_, own_nil _ _ _ _, DM.ok_new n h1 hn⟩, ((Fr.refl _ _).alloc _).alloc _, by simp [dfp, Value.ownBlock]⟩
  · have hl : (DM.new n).S.length = n := by simp [DM.new]
    rw [hl]
    exact heap_alloc2_new w _ _
  · have := heap_alloc2_old w (.cells (madeCells #[Value.int .u8 0] (n * 64)) 5) (.cells #[Value.slice (some ⟨w.heap.size, 0, none⟩) (n * 64) (n * 64), Value.slice none 0 0, Value.int IntKind.i64 (-1), Value.bool false, Value.int IntKind.i64 0] 55)
    unfold Blk
    rw [← made_zero]
    simpa using this

/-! ### sector -/
set_option maxRecDepth 100000 in
set_option maxHeartbeats 400000 in
theorem sector_in {w : World} {d bb : Nat} {lv : Value} {D : DM} (h : DiskIn w d bb lv D) (k : Nat) (hk : k < D.S.length) :
    Calls Try.prog 33 #[.pointer (some ⟨d, 0, none⟩), .int .i64 k] w fun e w' => e = .returned (.slice (some ⟨bb, k * 64, none⟩) 64 64) ∧ w = w' := by
  have c0 := h.c0
  have g2 := h.2.2.2.most
  clear h
  go_enter Try.func33, Try.ntmps33
  go_wp2
  go_ret
  refine ⟨?_, rfl⟩
  show Ending.returned (.slice (some ⟨bb, k * 64, none⟩) ((k + 1) * 64 - k * 64) ((k + 1) * 64 - k * 64)) = _
  rw [show (k + 1) * 64 - k * 64 = 64 from by omega]

/-! ### The pending, cell by cell -/
theorem pcells_len {Ps : List (Nat × List UInt8)} (h : ∀ p ∈ Ps, p.2.length = 64) : (pcells Ps).length = Ps.length * 65 := by
  induction Ps with
  | nil => rfl
  | cons p Ps ih =>
    have h0 := h p (List.mem_cons_self ..)
    simp only [pcells, List.flatMap_cons, List.length_append, List.length_cons, bcells_len] at ih ⊢
    rw [ih (fun q hq => h q (List.mem_cons_of_mem _ hq)), h0]
    omega
theorem pcells_at {Ps : List (Nat × List UInt8)} (h : ∀ p ∈ Ps, p.2.length = 64) {k : Nat} {p : Nat × List UInt8} (hk : Ps[k]? = some p) {j : Nat} (hj : j < 65) :
    (pcells Ps)[k * 65 + j]? = (Value.int .i64 (p.1 : Int) :: bcells p.2)[j]? := by
  induction Ps generalizing k with
  | nil => simp at hk
  | cons q Ps ih =>
    have h0 := h q (List.mem_cons_self ..)
    have hl : (Value.int .i64 (q.1 : Int) :: bcells q.2).length = 65 := by simp [bcells_len, h0]
    simp only [pcells, List.flatMap_cons] at ih ⊢
    cases k with
    | zero =>
      obtain rfl : q = p := by simpa using hk
      rw [Nat.zero_mul, Nat.zero_add, List.getElem?_append_left (by rw [hl]; exact hj)]
    | succ k =>
      rw [List.getElem?_append_right (by rw [hl]; omega), hl, show (k + 1) * 65 + j - 65 = k * 65 + j from by omega]
      exact ih (fun x hx => h x (List.mem_cons_of_mem _ hx)) (by simpa using hk)
theorem pcells_append (A B : List (Nat × List UInt8)) : pcells (A ++ B) = pcells A ++ pcells B := by simp [pcells]
theorem pend_one (p : Nat × List UInt8) : ∀ v ∈ (Value.int .i64 (p.1 : Int) :: bcells p.2), v.oneCell' = true := by
  intro v hv
  rcases List.mem_cons.1 hv with h | h
  · subst h; rfl
  · exact bcells_one _ v h

/-! ### Read -/
def z64 : List Value := bcells (List.replicate 64 0)
theorem z64_len : z64.length = 64 := by simp [z64, bcells_len]
theorem make64 (w : World) : (Instr.makeSlice 35 (.int .i64 64) (.int .i64 64)).run Try.prog w = .ok (.slice (some ⟨w.heap.size, 0, none⟩) 64 64) (w.alloc (.cells z64.toArray 5)) := by
  have h := run_make_row' (P := Try.prog) 35 5 (.int .u8 0) 1 Try.underlying35 info_u8 rfl .i64 .i64 64 (by omega) (by omega) w
  have e : madeCells #[Value.int .u8 0] 64 = z64.toArray := by
    have := made_zero 1
    have e1 : (DM.new 1).S.flatten = List.replicate 64 0 := by simp [DM.new]
    rw [e1, Nat.one_mul] at this
    rw [z64, ← this]
  rw [e] at h
  exact h
def ReadPost (w : World) (b : List UInt8) (e : Ending) (w' : World) : Prop :=
  ∃ g, e = .returned (.tuple #[.slice (some ⟨g, 0, none⟩) 64 64, .int .i64 0]) ∧ w.heap.size ≤ g ∧ Blk w' g 5 (bcells b) ∧ Fr [] w w'
theorem look_step (s : List UInt8) (Ps : List (Nat × List UInt8)) (k j : Nat) (p : Nat × List UInt8) (hj : Ps[j]? = some p) : lookAll s (Ps.take (j + 1)) k = if p.1 = k then p.2 else lookAll s (Ps.take j) k := by
  have hlt : j < Ps.length := (List.getElem?_eq_some_iff.1 hj).1
  have e : Ps.take (j + 1) = Ps.take j ++ [p] := by
    rw [List.take_succ_eq_append_getElem hlt]
    rw [List.getElem?_eq_getElem hlt] at hj
    simp only [Option.some.injEq] at hj
    rw [hj]
  simp [e, lookAll, List.foldl_append]

def LookRel (w : World) (d bb g : Nat) (lv : Value) (D : DM) (s0 : List UInt8) (k : Nat) (i : Value) (wr : World) : Prop :=
  ∃ j : Nat, j ≤ D.P.length ∧ i = .int .i64 j ∧ Blk wr g 5 (bcells (lookAll s0 (D.P.take j) k)) ∧ Fr [] w wr ∧ DiskIn wr d bb lv D

set_option maxRecDepth 100000 in
set_option maxHeartbeats 1000000 in
theorem read_in {w : World} {d bb : Nat} {lv : Value} {D : DM} (h : DiskIn w d bb lv D) (hdead : D.dead = false) (k : Nat) (hk : k < D.S.length) :
    Calls Try.prog 46 #[.pointer (some ⟨d, 0, none⟩), .int .i64 k] w (ReadPost w (D.look k)) := by
  have hok := h.2.2.2
  have g2 := hok.most
  have hmk := make64
  obtain ⟨A, c, rfl, hnc, hcm⟩ := own_shape h.2.2.1
  have hlt := h.lt
  have hsec : (D.S.getD k []).length = 64 := by
    rw [List.getD_eq_getElem?_getD, List.getElem?_eq_getElem hk]
    exact hok.sec _ (List.getElem_mem _)
  have hsc : ∀ j v, (bcells (D.S.getD k []))[j]? = some v → w.cell? ⟨bb, k * 64 + j, none⟩ = some v := by
    intro j v hj
    refine h.2.1.at_ ?_
    have hj' : j < 64 := by have := (List.getElem?_eq_some_iff.1 hj).1; rw [bcells_len, hsec] at this; exact this
    rw [← flat_at hok.sec hk, bcells_take, bcells_drop, List.getElem?_take, if_pos hj', List.getElem?_drop] at hj
    exact hj
  have hlook : D.look k = lookAll (D.S.getD k []) D.P k := rfl
  generalize D.S.getD k [] = s0 at hsec hsc hlook
  have hbb := h.2.1.lt
  have hnn : ∀ x ∈ dfp d bb (.slice A D.P.length c), x ∉ [w.heap.size] := fun x hx hm => by have := hlt x hx; simp only [List.mem_singleton] at hm; omega
  have h1 : ∀ X, DiskIn (w.alloc X) d bb (.slice A D.P.length c) D := fun X => h.fr ((Fr.refl [] w).alloc X) (by simp)
  have H1 := Lib.hid h1; clear h1
  have HNN := Lib.hid hnn; clear hnn
  have HSC := Lib.hid hsc; clear hsc
  have HLK := Lib.hid hlook; clear hlook
  have HSEC := Lib.hid hsec; clear hsec
  have H := Lib.hid h
  have HOK := Lib.hid hok
  clear hlt h hok
  have hP0 : D.P.length ≤ 9223372036854775807 := by unfold maxLen at hcm; omega
  clear hcm
  go_enter Try.func46, Try.ntmps46
  go_wp2_with (first
    | (go_at_call 28; refine (gone_in H.out).mono ?_; rintro e w' ⟨rfl, rfl⟩)
    | (go_at_call 25; refine (size_in H.out).mono ?_; rintro e w' ⟨rfl, rfl⟩)
    | (go_at_call 33; refine (sector_in (H1.out _) k hk).mono ?_; rintro e w' ⟨rfl, rfl⟩)
    | (with_reducible refine wpList_copy_blk rfl (.tmp 22) (.tmp 25) 35 35 rfl 5 Try.underlying35 size_u8 _ _ _ _ _ _ rfl rfl w.heap.size 0 z64 5 ?cg (bcells s0) ?cn ?cp ?cf (bcells_one _) ?_))
  case cg => exact Blk.new w _ z64
  case cn => rw [bcells_len, HSEC.out]; rfl
  case cp =>
    intro _ j v hj
    exact HSC.out j v hj
  case cf => rw [bcells_len, HSEC.out, z64_len]; omega
  intro w1 hb1 hf1 hz1
  rw [splice_all _ _ (by rw [bcells_len, HSEC.out, z64_len])] at hb1
  have hf1' : Fr [] w w1 := ((Fr.refl [] w).alloc _).trans hf1 (by simp)
  have hd1 : DiskIn w1 d bb (.slice A D.P.length c) D := (H1.out _).fr hf1 HNN.out
  have c1 := hd1.c1
  have HB1 := Lib.hid hb1; clear hb1
  have HF1 := Lib.hid hf1'; clear hf1' hf1
  have HD1 := Lib.hid hd1; clear hd1
  have HZ1 := Lib.hid hz1; clear hz1
  go_wp2_with fail
  go_loopw [32] (LookRel w d bb w.heap.size (.slice A D.P.length c) D s0 k) (fun i _ => D.P.length - (intOf i).toNat)
  case atStart => exact ⟨0, Nat.zero_le _, rfl, HB1.out, HF1.out, HD1.out⟩
  case round =>
    obtain ⟨j, hj, rfl, hb, hf, hd⟩ := hrel
    by_cases hjn : j < D.P.length
    · obtain ⟨p, hp⟩ : ∃ p, D.P[j]? = some p := ⟨_, List.getElem?_eq_getElem hjn⟩
      obtain ⟨g, rfl, hcell⟩ := own_cell hd.2.2.1 (by omega)
      have hp2 := (HOK.out.pend p (List.mem_of_getElem? hp)).2
      have hc : wr.rangeAt g (j * 65) (Value.int .i64 (p.1 : Int) :: bcells p.2) := fun i v hi => by
        have hi' : i < 65 := by have := (List.getElem?_eq_some_iff.1 hi).1; simpa [bcells_len, hp2] using this
        exact hcell _ v (by rw [pcells_at (fun q hq => (HOK.out.pend q hq).2) hp hi']; exact hi)
      have hlen : (Value.int .i64 (p.1 : Int) :: bcells p.2).length = 65 := by simp [bcells_len, hp2]
      have HC := Lib.hid hc; clear hc hcell
      have HLEN := Lib.hid hlen; clear hlen
      have HB := Lib.hid hb; clear hb
      have HF := Lib.hid hf; clear hf
      have HDR := Lib.hid hd; clear hd
      have HP := Lib.hid hp; clear hp
      have HP2 := Lib.hid hp2; clear hp2
      go_wp2_with (first
        | (with_reducible refine wpList_load_mid rfl 71 (.tmp 34) rfl g (j * 65) rfl (Value.int .i64 (p.1 : Int) :: bcells p.2) _ HC.out Try.underlying71 rfl (size_pend.trans (by rw [HLEN.out])) ?_)
        | (with_reducible refine wpList_alloc_z rfl 71 rfl zp zpc zero_pend rfl ?_)
        | (with_reducible refine wpList_store_z (W := wr) rfl 71 (.tmp 8) (.tmp 35) rfl (Value.int .i64 (p.1 : Int) :: bcells p.2) rfl rfl rfl (size_pend.trans (by rw [HLEN.out])) ?zl (pend_one p) ?_))
      case zl => rw [HLEN.out]; rfl
      intro w1 hb1 hf1 hz1
      have cp0 : w1.cell? ⟨wr.heap.size, 0, none⟩ = some (.int .i64 (p.1 : Int)) := hb1.at_ rfl
      have hsrc : ∀ i v, (bcells p.2)[i]? = some v → w1.cell? ⟨wr.heap.size, 1 + i, none⟩ = some v := fun i v hi => hb1.at_ (by rw [Nat.add_comm]; simpa using hi)
      have hob : Blk w1 w.heap.size 5 (bcells (lookAll s0 (D.P.take j) k)) := HB.out.fr hf1 (by simp)
      have hd1 : DiskIn w1 d bb (.slice (some ⟨g, 0, none⟩) D.P.length c) D := HDR.out.fr hf1 (by simp)
      have hfw : Fr [] w w1 := HF.out.trans hf1 (by simp)
      have hstep := look_step s0 D.P k j p HP.out
      have hll : (bcells (lookAll s0 (D.P.take j) k)).length = 64 := by
        rw [bcells_len]
        exact lookAll_len _ _ _ HSEC.out (fun q hq => (HOK.out.pend q (List.mem_of_mem_take hq)).2)
      have HSTEP := Lib.hid hstep; clear hstep
      have HSRC := Lib.hid hsrc; clear hsrc
      have HOB := Lib.hid hob; clear hob
      have HLL := Lib.hid hll; clear hll
      have HD1 := Lib.hid hd1; clear hd1
      have HFW := Lib.hid hfw; clear hfw
      clear hb1 HDR HB HF H1
      by_cases hpk : p.1 = k
      · have e1 : (((p.1 : Int)) == (k : Int)) = true := beq_iff_eq.2 (by omega)
        have HPK := Lib.hid hpk; clear hpk
        go_wp2_with (with_reducible refine wpList_copy_blk rfl (.tmp 40) (.tmp 42) 35 35 rfl 5 Try.underlying35 size_u8 _ _ _ _ _ _ rfl rfl w.heap.size 0 (bcells (lookAll s0 (D.P.take j) k)) 5 HOB.out (bcells p.2) ?cn2 ?cp2 ?cf2 (bcells_one _) ?_)
        case cn2 => rw [bcells_len, HP2.out]; rfl
        case cp2 => exact fun _ i v hi => HSRC.out i v hi
        case cf2 => rw [bcells_len, HP2.out, HLL.out]; omega
        intro w2 hb2 hf2 hz2
        rw [splice_all _ _ (by rw [HLL.out, bcells_len, HP2.out])] at hb2
        have hd2 := HD1.out.fr hf2 HNN.out
        have hfw2 : Fr [] w w2 := HFW.out.trans hf2 (by simp)
        have R : Blk w2 w.heap.size 5 (bcells (lookAll s0 (D.P.take (j + 1)) k)) := by rw [HSTEP.out, if_pos HPK.out]; exact hb2
        have HR := Lib.hid R; clear R
        have HF2 := Lib.hid hfw2; clear hfw2
        have HD2 := Lib.hid hd2; clear hd2 hb2 hf2 hz2 cp0 c1 HD1 HFW
        go_wp2
        go_roundw
        case rel => exact ⟨j + 1, by omega, by go_num, HR.out, HF2.out, HD2.out⟩
        case measure => simp [intOf]; omega
      · have e1 : (((p.1 : Int)) == (k : Int)) = false := beq_eq_false_iff_ne.2 (by omega)
        have R : Blk w1 w.heap.size 5 (bcells (lookAll s0 (D.P.take (j + 1)) k)) := by rw [HSTEP.out, if_neg hpk]; exact HOB.out
        have HR := Lib.hid R; clear R hpk
        go_wp2
        go_roundw
        case rel => exact ⟨j + 1, by omega, by go_num, HR.out, HFW.out, HD1.out⟩
        case measure => simp [intOf]; omega
    · have HB := Lib.hid hb; clear hb
      have HF := Lib.hid hf; clear hf
      clear hd c1
      go_wp2
      go_ret2
      refine ⟨w.heap.size, rfl, Nat.le_refl _, ?_, HF.out⟩
      have e : D.P.take j = D.P := List.take_of_length_le (by omega)
      have := HB.out
      rw [e, ← HLK.out] at this
      exact this

end Go.Proofs.Ytidpleejgalljaa
