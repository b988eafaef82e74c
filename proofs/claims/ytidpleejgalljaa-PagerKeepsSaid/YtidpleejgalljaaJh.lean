/-
  The contract of (*Log).lay: a record's pieces written, and synced.
-/
import Derived.Test.YtidpleejgalljaaJg
import Derived.Test.YtidpleejgalljaaSl
namespace Go.Proofs.Ytidpleejgalljaa
open Go.RowKit

/-- Sectors written one behind the other, and synced; the first error ends it. -/
def layJ (D : DM) (pos : Nat) : List (List UInt8) → DM × Int
  | [] => (D.sync, D.syncE)
  | s :: ss => if D.writeE (pos : Int) s ≠ 0 then (D.write (pos : Int) s, D.writeE (pos : Int) s) else layJ (D.write (pos : Int) s) (pos + 1) ss
/-- A record's sectors. -/
def sectorsOf (ses num : Nat) (b : List UInt8) : List (List UInt8) := (List.range (needOf b.length)).map fun k => writtenOf (pieceAt ses num b k)
theorem sectorsOf_len (ses num : Nat) (b : List UInt8) : (sectorsOf ses num b).length = needOf b.length := by simp [sectorsOf]
theorem sectorsOf_at (ses num : Nat) (b : List UInt8) {k : Nat} (hk : k < needOf b.length) : (sectorsOf ses num b).drop k = writtenOf (pieceAt ses num b k) :: (sectorsOf ses num b).drop (k + 1) := by
  rw [List.drop_eq_getElem_cons (by rw [sectorsOf_len]; exact hk)]
  simp [sectorsOf]
theorem enter_written (vs : Array Value) (w : World) : (callFunc 58 vs).run Try.prog w = .ok (.enter 58 vs) w := by kernel_rfl
theorem enter_dwrite7 (vs : Array Value) (w : World) : (callFunc 43 vs).run Try.prog w = .ok (.enter 43 vs) w := by kernel_rfl

def LayRel (w : World) (d f at_ num ses : Nat) (b : List UInt8) (D : DM) (fp : List Nat) (i : Value) (wr : World) : Prop :=
  ∃ (k : Nat) (Dk : DM), k ≤ needOf b.length ∧ i = .int .i64 k ∧ layJ D (f + at_) (sectorsOf ses num b) = layJ Dk (f + at_ + k) ((sectorsOf ses num b).drop k) ∧ Dk.done ≤ D.done + k ∧ Dk.S.length = D.S.length ∧ DStep w wr d Dk fp

theorem need_lo {m k : Nat} (h : k < needOf m) : 48 * k ≤ m := by
  unfold needOf at h
  split at h <;> omega

theorem DiskAt.mem {w : World} {d : Nat} {D : DM} {fp : List Nat} (h : DiskAt w d D fp) : d ∈ fp := by
  obtain ⟨bb, lv, rfl, _⟩ := h
  simp [dfp]
theorem DStep.comp {w w1 w2 : World} {d : Nat} {D2 : DM} {fp fp1 : List Nat} (hf : Fr fp w w1) (hn : ∀ k ∈ fp1, k ∈ fp ∨ w.heap.size ≤ k) (h2 : DStep w1 w2 d D2 fp1) : DStep w w2 d D2 fp := by
  obtain ⟨fp2, h, hf2, hn2⟩ := h2
  have hz := hf.size
  refine ⟨fp2, h, hf.trans hf2 (fun x hx => hn x hx), fun x hx => ?_⟩
  rcases hn2 x hx with h1 | h1
  · exact hn x h1
  · right; omega
theorem layJ_stop {D : DM} {pos : Nat} {s : List UInt8} {ss : List (List UInt8)} (h : D.writeE (pos : Int) s ≠ 0) : layJ D pos (s :: ss) = (D.write (pos : Int) s, D.writeE (pos : Int) s) := by
  show (if _ then _ else _) = _
  rw [if_pos h]
theorem layJ_on {D : DM} {pos : Nat} {s : List UInt8} {ss : List (List UInt8)} (h : D.writeE (pos : Int) s = 0) : layJ D pos (s :: ss) = layJ (D.write (pos : Int) s) (pos + 1) ss := by
  show (if _ then _ else _) = _
  rw [if_neg (by simp [h])]
theorem write_S (D : DM) (k : Int) (b : List UInt8) : (D.write k b).S = D.S := by
  unfold DM.write
  split
  · rfl
  · split
    · rfl
    · split <;> rfl
theorem write_done (D : DM) (k : Int) (b : List UInt8) : (D.write k b).done ≤ D.done + 1 := by
  unfold DM.write
  split
  · omega
  · split
    · omega
    · split
      · show D.done ≤ _; omega
      · exact Nat.le_refl _

set_option maxRecDepth 100000 in
set_option maxHeartbeats 2000000 in
theorem lay_at {w : World} {lg d f n at_ num ses gb : Nat} {br : Bool} {v : Value} {b : List UInt8} {D : DM} {fp : List Nat} (hb : Blk w lg 77 (logCells d f n at_ num ses br)) (hd : DiskAt w d D fp) (hlg : lg ∉ fp) (hv : BytesAt w v b gb) (hgb : gb ∉ fp) (_ : gb < w.heap.size) (hm : needOf b.length ≤ 65535)
    (hat : at_ + needOf b.length ≤ n) (hfit : f + n ≤ D.S.length) (hnum : num < 4294967296) (hses : ses < 4294967296) (hdone : D.done + 65536 < 1099511627776) :
    Calls Try.prog 51 #[.pointer (some ⟨lg, 0, none⟩), v, .int .i64 (needOf b.length : Int)] w fun e w' => e = .returned (.int .i64 (layJ D (f + at_) (sectorsOf ses num b)).2) ∧ DStep w w' d (layJ D (f + at_) (sectorsOf ses num b)).1 fp := by
  have HB := Lib.hid hb; have HD := Lib.hid hd; have HV := Lib.hid hv
  have hmost := (DiskAt.ok hd).most
  clear hb hd hv
  obtain ⟨A, c, off, rfl, hbc, hcs⟩ := HV.out
  have HCS := Lib.hid hcs; clear hcs
  go_enter Try.func51, Try.ntmps51
  go_wp2
  go_loopw [11] (LayRel w d f at_ num ses b D fp) (fun i _ => needOf b.length - (intOf i).toNat)
  case atStart => exact ⟨0, D, Nat.zero_le _, rfl, rfl, by omega, rfl, fp, HD.out, Fr.refl _ _, fun _ h => .inl h⟩
  case round =>
    obtain ⟨k, Dk, hk, rfl, hlay, hdk, hsk, hst⟩ := hrel
    have HLAY := Lib.hid hlay; have HST := Lib.hid hst
    clear hlay hst
    by_cases hkn : k < needOf b.length
    · obtain ⟨fpk, hdk', hfk, hfpk⟩ := HST.out
      have hbk := HB.out.fr hfk hlg
      have hll := hbk.lt
      have l0 := hbk.at_ (i := 0) rfl
      have l1 := hbk.at_ (i := 1) rfl
      have l3 := hbk.at_ (i := 3) rfl
      have l4 := hbk.at_ (i := 4) rfl
      have l5 := hbk.at_ (i := 5) rfl
      have HBK := Lib.hid hbk; have HDK := Lib.hid hdk'; have HFK := Lib.hid hfk; have HFPK := Lib.hid hfpk
      clear hbk hdk' hfk hfpk
      have hq : ((pieceAt ses num b k).b).length = min 48 (b.length - 48 * k) := by simp [pieceAt]
      have hk48 : 48 * k ≤ b.length := need_lo hkn
      obtain ⟨q, hqq⟩ : ∃ q, q = ((pieceAt ses num b k).b).length := ⟨_, rfl⟩
      rw [← hqq] at hq
      have HQQ := Lib.hid hqq; clear hqq
      have hq48 : 48 * k + q ≤ b.length ∧ q ≤ 48 := by omega
      have y1 : (if 48 * ((k : Int) + 1) < (b.length : Int) then 48 * ((k : Int) + 1) else (b.length : Int)) = ((48 * k + q : Nat) : Int) := by split <;> omega
      have x5 : IntKind.i64.wrap ((k : Int) + 1) = (k : Int) + 1 := by rw [IntKind.wrap_i64]; omega
      have x6 : IntKind.i64.wrap (48 * ((k : Int) + 1)) = 48 * ((k : Int) + 1) := by rw [IntKind.wrap_i64]; omega
      have x7 : IntKind.i64.wrap (48 * (k : Int)) = ((48 * k : Nat) : Int) := by rw [IntKind.wrap_i64]; omega
      have hsl := slice_run (P := Try.prog) (t := 35) Try.underlying35 (by kernel_rfl) A b.length c (48 * k) (48 * k + q) .i64 .i64 (by omega) (by omega)
      have hsb := (HV.out.fr HFK.out hgb).sub (48 * k) q (by omega)
      have hqe : (b.drop (48 * k)).take q = (pieceAt ses num b k).b := by
        unfold pieceAt
        rw [hq, ← List.length_drop, List.take_eq_take_min]
        simp
      rw [Nat.add_sub_cancel_left] at hsl
      rw [hqe] at hsb
      generalize hsvv : (if c = 48 * k then A else A.map (·.add (48 * k))) = sa at *
      generalize hcc : c - 48 * k = cc at *
      have HSL := Lib.hid hsl; have HSB := Lib.hid hsb; have HQ := Lib.hid hq; clear hsl hsb hq hqe hsvv hcc
      go_wp2_with fail
      refine wp_region_K (fun W => W.cell? ⟨lg, 5, none⟩ = some (.int .u32 (ses : Int)) ∧ W.cell? ⟨lg, 4, none⟩ = some (.int .u32 (num : Int))) [0, 1, 2, 3, 4, 5, 6, 7, 8, 9, 10, 11, 12, 13, 14, 15, 16, 17, 18, 19, 20, 21] (by kernel_rfl) ?_
      refine wpAnyK_take (i := 0) (some 14) ?vq1_0 rfl rfl (by kernel_rfl) (fun _ _ _ h => h) ⟨l5, l4⟩ (.inl ⟨rfl, fun W hW => ?yq1_0⟩) ?_
      case yq1_0 => (obtain ⟨c5, c4⟩ := hW; go_simp) <;> with_reducible rfl
      simp only [Act.put, List.setIfInBounds_toArray, List.set_cons_zero, List.set_cons_succ]
      refine wpAnyK_take (i := 1) (some 15) ?vq1_1 rfl rfl (by kernel_rfl) (fun _ _ _ h => h) ⟨l5, l4⟩ (.inl ⟨rfl, fun W hW => ?yq1_1⟩) ?_
      case yq1_1 => (obtain ⟨c5, c4⟩ := hW; go_simp) <;> with_reducible rfl
      simp only [Act.put, List.setIfInBounds_toArray, List.set_cons_zero, List.set_cons_succ]
      refine wpAnyK_take (i := 2) (some 16) ?vq1_2 rfl rfl (by kernel_rfl) (fun _ _ _ h => h) ⟨l5, l4⟩ (.inl ⟨rfl, fun W hW => ?yq1_2⟩) ?_
      case yq1_2 => (obtain ⟨c5, c4⟩ := hW; go_simp) <;> with_reducible rfl
      simp only [Act.put, List.setIfInBounds_toArray, List.set_cons_zero, List.set_cons_succ]
      refine wpAnyK_take (i := 3) (some 17) ?vq1_3 rfl rfl (by kernel_rfl) (fun _ _ _ h => h) ⟨l5, l4⟩ (.inl ⟨rfl, fun W hW => ?yq1_3⟩) ?_
      case yq1_3 => (obtain ⟨c5, c4⟩ := hW; go_simp) <;> with_reducible rfl
      simp only [Act.put, List.setIfInBounds_toArray, List.set_cons_zero, List.set_cons_succ]
      refine wpAnyK_take (i := 4) (some 18) ?vq1_4 rfl rfl (by kernel_rfl) (fun _ _ _ h => h) ⟨l5, l4⟩ (.inl ⟨rfl, fun W hW => ?yq1_4⟩) ?_
      case yq1_4 => (obtain ⟨c5, c4⟩ := hW; go_simp) <;> with_reducible rfl
      simp only [Act.put, List.setIfInBounds_toArray, List.set_cons_zero, List.set_cons_succ]
      refine wpAnyK_take (i := 5) (some 19) ?vq1_5 rfl rfl (by kernel_rfl) (fun _ _ _ h => h) ⟨l5, l4⟩ (.inl ⟨rfl, fun W hW => ?yq1_5⟩) ?_
      case yq1_5 => (obtain ⟨c5, c4⟩ := hW; go_simp) <;> with_reducible rfl
      simp only [Act.put, List.setIfInBounds_toArray, List.set_cons_zero, List.set_cons_succ]
      refine wpAnyK_take (i := 6) (some 20) ?vq1_6 rfl rfl (by kernel_rfl) (fun _ _ _ h => h) ⟨l5, l4⟩ (.inl ⟨rfl, fun W hW => ?yq1_6⟩) ?_
      case yq1_6 => (obtain ⟨c5, c4⟩ := hW; go_simp) <;> with_reducible rfl
      simp only [Act.put, List.setIfInBounds_toArray, List.set_cons_zero, List.set_cons_succ]
      refine wpAnyK_take (i := 7) (some 21) ?vq1_7 rfl rfl (by kernel_rfl) (fun _ _ _ h => h) ⟨l5, l4⟩ (.inl ⟨rfl, fun W hW => ?yq1_7⟩) ?_
      case yq1_7 => (obtain ⟨c5, c4⟩ := hW; go_simp) <;> with_reducible rfl
      simp only [Act.put, List.setIfInBounds_toArray, List.set_cons_zero, List.set_cons_succ]
      refine wpAnyK_take (i := 8) (some 22) ?vq1_8 rfl rfl (by kernel_rfl) (fun _ _ _ h => h) ⟨l5, l4⟩ (.inl ⟨rfl, fun W hW => ?yq1_8⟩) ?_
      case yq1_8 => (obtain ⟨c5, c4⟩ := hW; go_simp) <;> with_reducible rfl
      simp only [Act.put, List.setIfInBounds_toArray, List.set_cons_zero, List.set_cons_succ]
      refine wpAnyK_take (i := 9) (some 23) ?vq1_9 rfl rfl (by kernel_rfl) (fun _ _ _ h => h) ⟨l5, l4⟩ (.inl ⟨rfl, fun W hW => ?yq1_9⟩) ?_
      case yq1_9 => (obtain ⟨c5, c4⟩ := hW; go_simp) <;> with_reducible rfl
      simp only [Act.put, List.setIfInBounds_toArray, List.set_cons_zero, List.set_cons_succ]
      refine wpAnyK_take (i := 10) (some 24) ?vq1_10 rfl rfl (by kernel_rfl) (fun _ _ _ h => h) ⟨l5, l4⟩ (.inl ⟨rfl, fun W hW => ?yq1_10⟩) ?_
      case yq1_10 => (obtain ⟨c5, c4⟩ := hW; go_simp) <;> with_reducible rfl
      simp only [Act.put, List.setIfInBounds_toArray, List.set_cons_zero, List.set_cons_succ]
      refine wpAnyK_take (i := 11) (some 25) ?vq1_11 rfl rfl (by kernel_rfl) (fun _ _ _ h => h) ⟨l5, l4⟩ (.inl ⟨rfl, fun W hW => ?yq1_11⟩) ?_
      case yq1_11 => (obtain ⟨c5, c4⟩ := hW; go_simp) <;> with_reducible rfl
      simp only [Act.put, List.setIfInBounds_toArray, List.set_cons_zero, List.set_cons_succ]
      refine wpAnyK_take (i := 12) (some 26) ?vq1_12 rfl rfl (by kernel_rfl) (fun _ _ _ h => h) ⟨l5, l4⟩ (.inl ⟨rfl, fun W hW => ?yq1_12⟩) ?_
      case yq1_12 => (obtain ⟨c5, c4⟩ := hW; go_simp) <;> with_reducible rfl
      simp only [Act.put, List.setIfInBounds_toArray, List.set_cons_zero, List.set_cons_succ]
      refine wpAnyK_take (i := 13) (some 27) ?vq1_13 rfl rfl (by kernel_rfl) (fun _ _ _ h => h) ⟨l5, l4⟩ (.inl ⟨rfl, fun W hW => ?yq1_13⟩) ?_
      case yq1_13 => (obtain ⟨c5, c4⟩ := hW; go_simp) <;> with_reducible rfl
      simp only [Act.put, List.setIfInBounds_toArray, List.set_cons_zero, List.set_cons_succ]
      refine wpAnyK_take (i := 14) (some 28) ?vq1_14 rfl rfl (by kernel_rfl) (fun _ _ _ h => h) ⟨l5, l4⟩ (.inl ⟨rfl, fun W hW => ?yq1_14⟩) ?_
      case yq1_14 => (obtain ⟨c5, c4⟩ := hW; go_simp) <;> with_reducible rfl
      simp only [Act.put, List.setIfInBounds_toArray, List.set_cons_zero, List.set_cons_succ]
      refine wpAnyK_take (i := 15) (some 29) ?vq1_15 rfl rfl (by kernel_rfl) (fun _ _ _ h => h) ⟨l5, l4⟩ (.inl ⟨rfl, fun W hW => ?yq1_15⟩) ?_
      case yq1_15 => (obtain ⟨c5, c4⟩ := hW; go_simp) <;> with_reducible rfl
      simp only [Act.put, List.setIfInBounds_toArray, List.set_cons_zero, List.set_cons_succ]
      refine wpAnyK_take (i := 16) (some 30) ?vq1_16 rfl rfl (by kernel_rfl) (fun _ _ _ h => h) ⟨l5, l4⟩ (.inl ⟨rfl, fun W hW => ?yq1_16⟩) ?_
      case yq1_16 => (obtain ⟨c5, c4⟩ := hW; go_simp) <;> with_reducible rfl
      simp only [Act.put, List.setIfInBounds_toArray, List.set_cons_zero, List.set_cons_succ]
      refine wpAnyK_take (i := 17) (some 31) ?vq1_17 rfl rfl (by kernel_rfl) (fun _ _ _ h => h) ⟨l5, l4⟩ (.inl ⟨rfl, fun W hW => ?yq1_17⟩) ?_
      case yq1_17 => (obtain ⟨c5, c4⟩ := hW; go_simp) <;> with_reducible rfl
      simp only [Act.put, List.setIfInBounds_toArray, List.set_cons_zero, List.set_cons_succ]
      refine wpAnyK_take (i := 18) (some 32) ?vq1_18 rfl rfl (by kernel_rfl) (fun _ _ _ h => h) ⟨l5, l4⟩ (.inl ⟨rfl, fun W hW => ?yq1_18⟩) ?_
      case yq1_18 => (obtain ⟨c5, c4⟩ := hW; go_simp) <;> with_reducible rfl
      simp only [Act.put, List.setIfInBounds_toArray, List.set_cons_zero, List.set_cons_succ]
      refine wpAnyK_take (i := 19) (some 33) ?vq1_19 rfl rfl (by kernel_rfl) (fun _ _ _ h => h) ⟨l5, l4⟩ (.inl ⟨rfl, fun W hW => ?yq1_19⟩) ?_
      case yq1_19 => (obtain ⟨c5, c4⟩ := hW; go_simp) <;> with_reducible rfl
      simp only [Act.put, List.setIfInBounds_toArray, List.set_cons_zero, List.set_cons_succ]
      refine wpAnyK_take (i := 20) (some 34) (.slice sa q cc) rfl rfl (by kernel_rfl) (fun _ _ _ h => h) ⟨l5, l4⟩ (.inl ⟨rfl, fun W _ => exec_slice rfl rfl rfl rfl (HSL.out W)⟩) ?_
      simp only [Act.put, List.setIfInBounds_toArray, List.set_cons_zero, List.set_cons_succ]
      refine wpAnyK_take (i := 21) (some 35) ?vq1_21 rfl rfl (by kernel_rfl) (fun _ _ _ h => h) ⟨l5, l4⟩ (.inl ⟨rfl, fun W hW => ?yq1_21⟩) ?_
      case yq1_21 => (obtain ⟨c5, c4⟩ := hW; go_simp) <;> with_reducible rfl
      simp only [Act.put, List.setIfInBounds_toArray, List.set_cons_zero, List.set_cons_succ]
      refine wpAnyK_step (j := 22) (some 8) rfl rfl (by kernel_rfl) rfl fun K hK => ?_
      refine wp_alloc_blk 96 rfl (.agg noAgg) noAgg.toList (by kernel_rfl) rfl fun w4 hB4 hF4 _ => hK _ _ (fun _ => ⟨(HBK.out.fr (Fr.drew (Fr.refl [] wr) |>.trans hF4 (by simp)) (by simp)).at_ rfl, (HBK.out.fr (Fr.drew (Fr.refl [] wr) |>.trans hF4 (by simp)) (by simp)).at_ rfl⟩) ?_
      simp only [Act.put, List.setIfInBounds_toArray, List.set_cons_zero, List.set_cons_succ]
      refine wpAnyK_step (j := 23) none rfl rfl (by kernel_rfl) rfl fun K hK => ?_
      refine wp_store_blk 96 (.tmp 8) (.tmp 35) rfl (pcCells (pieceAt ses num b k) (.slice sa q cc)) rfl rfl hB4 (by kernel_rfl) rfl ?one fun w5 hB5 hF5 _ => hK _ _ (fun h => absurd h (by decide +kernel)) ?_
      case one => intro u hu; simp only [pcCells, List.mem_cons, List.not_mem_nil, or_false] at hu; rcases hu with rfl | rfl | rfl | rfl | rfl <;> rfl
      simp only [Act.put]
      refine wpAnyK_done (by kernel_rfl) ?_ _
      have hF5' : Fr [] wr w5 := ((Fr.refl [] wr).drew.trans hF4 (by simp)).trans hF5 (fun x hx => .inr (by simp at hx; rw [hx]; exact Nat.le_refl _))
      have HB5 : Hid (Blk w5 wr.heap.size 96 (pcCells (pieceAt ses num b k) (.slice sa q cc))) := Lib.hid hB5
      have HF5 := Lib.hid hF5'
      clear hB5 hF5 hF5' hB4 hF4 l5 l4 hK
      have hb5 := HBK.out.fr HF5.out (by simp)
      have m0 := hb5.at_ (i := 0) rfl
      have m1 := hb5.at_ (i := 1) rfl
      have m3 := hb5.at_ (i := 3) rfl
      clear hb5
      go_wp2_with fail
      have z1 : IntKind.i64.wrap ((f : Int) + (at_ : Int)) = (f : Int) + (at_ : Int) := by rw [IntKind.wrap_i64]; omega
      have z2 : IntKind.i64.wrap ((f : Int) + (at_ : Int) + (k : Int)) = (f : Int) + (at_ : Int) + (k : Int) := by rw [IntKind.wrap_i64]; omega
      refine wp_region_K (fun W => W.cell? ⟨lg, 0, none⟩ = some (.pointer (some ⟨d, 0, none⟩)) ∧ W.cell? ⟨lg, 1, none⟩ = some (.int .i64 (f : Int)) ∧ W.cell? ⟨lg, 3, none⟩ = some (.int .i64 (at_ : Int)) ∧ Blk W wr.heap.size 96 (pcCells (pieceAt ses num b k) (.slice sa q cc))) [0, 1, 2, 3, 4, 5, 6, 7, 8, 9, 10, 11, 12, 13, 14, 15] (by kernel_rfl) ?_
      refine wpAnyK_take (i := 0) (some 36) ?vq2_0 rfl rfl (by kernel_rfl) (fun _ _ _ h => h) ⟨m0, m1, m3, HB5.out⟩ (.inl ⟨rfl, fun W hW => ?yq2_0⟩) ?_
      case yq2_0 => (obtain ⟨c0, c1, c3, _⟩ := hW; go_simp) <;> with_reducible rfl
      simp only [Act.put, List.setIfInBounds_toArray, List.set_cons_zero, List.set_cons_succ]
      refine wpAnyK_take (i := 1) (some 37) ?vq2_1 rfl rfl (by kernel_rfl) (fun _ _ _ h => h) ⟨m0, m1, m3, HB5.out⟩ (.inl ⟨rfl, fun W hW => ?yq2_1⟩) ?_
      case yq2_1 => (obtain ⟨c0, c1, c3, _⟩ := hW; go_simp) <;> with_reducible rfl
      simp only [Act.put, List.setIfInBounds_toArray, List.set_cons_zero, List.set_cons_succ]
      refine wpAnyK_take (i := 2) (some 38) ?vq2_2 rfl rfl (by kernel_rfl) (fun _ _ _ h => h) ⟨m0, m1, m3, HB5.out⟩ (.inl ⟨rfl, fun W hW => ?yq2_2⟩) ?_
      case yq2_2 => (obtain ⟨c0, c1, c3, _⟩ := hW; go_simp) <;> with_reducible rfl
      simp only [Act.put, List.setIfInBounds_toArray, List.set_cons_zero, List.set_cons_succ]
      refine wpAnyK_take (i := 3) (some 39) ?vq2_3 rfl rfl (by kernel_rfl) (fun _ _ _ h => h) ⟨m0, m1, m3, HB5.out⟩ (.inl ⟨rfl, fun W hW => ?yq2_3⟩) ?_
      case yq2_3 => (obtain ⟨c0, c1, c3, _⟩ := hW; go_simp) <;> with_reducible rfl
      simp only [Act.put, List.setIfInBounds_toArray, List.set_cons_zero, List.set_cons_succ]
      refine wpAnyK_take (i := 4) (some 40) ?vq2_4 rfl rfl (by kernel_rfl) (fun _ _ _ h => h) ⟨m0, m1, m3, HB5.out⟩ (.inl ⟨rfl, fun W hW => ?yq2_4⟩) ?_
      case yq2_4 => (obtain ⟨c0, c1, c3, _⟩ := hW; go_simp) <;> with_reducible rfl
      simp only [Act.put, List.setIfInBounds_toArray, List.set_cons_zero, List.set_cons_succ]
      refine wpAnyK_take (i := 5) (some 41) ?vq2_5 rfl rfl (by kernel_rfl) (fun _ _ _ h => h) ⟨m0, m1, m3, HB5.out⟩ (.inl ⟨rfl, fun W hW => ?yq2_5⟩) ?_
      case yq2_5 => (obtain ⟨c0, c1, c3, _⟩ := hW; go_simp) <;> with_reducible rfl
      simp only [Act.put, List.setIfInBounds_toArray, List.set_cons_zero, List.set_cons_succ]
      refine wpAnyK_take (i := 6) (some 42) ?vq2_6 rfl rfl (by kernel_rfl) (fun _ _ _ h => h) ⟨m0, m1, m3, HB5.out⟩ (.inl ⟨rfl, fun W hW => ?yq2_6⟩) ?_
      case yq2_6 => (obtain ⟨c0, c1, c3, _⟩ := hW; go_simp) <;> with_reducible rfl
      simp only [Act.put, List.setIfInBounds_toArray, List.set_cons_zero, List.set_cons_succ]
      refine wpAnyK_take (i := 7) (some 43) ?vq2_7 rfl rfl (by kernel_rfl) (fun _ _ _ h => h) ⟨m0, m1, m3, HB5.out⟩ (.inl ⟨rfl, fun W hW => ?yq2_7⟩) ?_
      case yq2_7 => (obtain ⟨c0, c1, c3, _⟩ := hW; go_simp) <;> with_reducible rfl
      simp only [Act.put, List.setIfInBounds_toArray, List.set_cons_zero, List.set_cons_succ]
      refine wpAnyK_take (i := 8) (some 44) ?vq2_8 rfl rfl (by kernel_rfl) (fun _ _ _ h => h) ⟨m0, m1, m3, HB5.out⟩ (.inl ⟨rfl, fun W hW => ?yq2_8⟩) ?_
      case yq2_8 => (obtain ⟨c0, c1, c3, _⟩ := hW; go_simp) <;> with_reducible rfl
      simp only [Act.put, List.setIfInBounds_toArray, List.set_cons_zero, List.set_cons_succ]
      refine wpAnyK_take (i := 9) (some 45) ?vq2_9 rfl rfl (by kernel_rfl) (fun _ _ _ h => h) ⟨m0, m1, m3, HB5.out⟩ (.inl ⟨rfl, fun W hW => ?yq2_9⟩) ?_
      case yq2_9 => (obtain ⟨c0, c1, c3, _⟩ := hW; go_simp) <;> with_reducible rfl
      simp only [Act.put, List.setIfInBounds_toArray, List.set_cons_zero, List.set_cons_succ]
      refine wpAnyK_take (i := 10) (some 46) ?vq2_10 rfl rfl (by kernel_rfl) (fun _ _ _ h => h) ⟨m0, m1, m3, HB5.out⟩ (.inl ⟨rfl, fun W hW => ?yq2_10⟩) ?_
      case yq2_10 => (obtain ⟨c0, c1, c3, _⟩ := hW; go_simp) <;> with_reducible rfl
      simp only [Act.put, List.setIfInBounds_toArray, List.set_cons_zero, List.set_cons_succ]
      refine wpAnyK_take (i := 11) (some 47) ?vq2_11 rfl rfl (by kernel_rfl) (fun _ _ _ h => h) ⟨m0, m1, m3, HB5.out⟩ (.inl ⟨rfl, fun W hW => ?yq2_11⟩) ?_
      case yq2_11 => (obtain ⟨c0, c1, c3, _⟩ := hW; go_simp) <;> with_reducible rfl
      simp only [Act.put, List.setIfInBounds_toArray, List.set_cons_zero, List.set_cons_succ]
      refine wpAnyK_take (i := 12) (some 48) ?vq2_12 rfl rfl (by kernel_rfl) (fun _ _ _ h => h) ⟨m0, m1, m3, HB5.out⟩ (.inl ⟨rfl, fun W hW => ?yq2_12⟩) ?_
      case yq2_12 => (obtain ⟨c0, c1, c3, _⟩ := hW; go_simp) <;> with_reducible rfl
      simp only [Act.put, List.setIfInBounds_toArray, List.set_cons_zero, List.set_cons_succ]
      refine wpAnyK_take (i := 13) (some 49) ?vq2_13 rfl rfl (by kernel_rfl) (fun _ _ _ h => h) ⟨m0, m1, m3, HB5.out⟩ (.inl ⟨rfl, fun W hW => ?yq2_13⟩) ?_
      case yq2_13 => (obtain ⟨c0, c1, c3, _⟩ := hW; go_simp) <;> with_reducible rfl
      simp only [Act.put, List.setIfInBounds_toArray, List.set_cons_zero, List.set_cons_succ]
      refine wpAnyK_take (i := 14) (some 50) ?vq2_14 rfl rfl (by kernel_rfl) (fun _ _ _ h => h) ⟨m0, m1, m3, HB5.out⟩ (.inl ⟨rfl, fun W hW => ?yq2_14⟩) ?_
      case yq2_14 => (obtain ⟨c0, c1, c3, _⟩ := hW; go_simp) <;> with_reducible rfl
      simp only [Act.put, List.setIfInBounds_toArray, List.set_cons_zero, List.set_cons_succ]
      refine wpAnyK_take (i := 15) (some 51) (.agg (pcCells (pieceAt ses num b k) (.slice sa q cc)).toArray) rfl rfl (by kernel_rfl) (fun _ _ _ h => h) ⟨m0, m1, m3, HB5.out⟩ (yieldsIf_load_mid rfl 96 (.tmp 8) rfl wr.heap.size 0 rfl (pcCells (pieceAt ses num b k) (.slice sa q cc)) _ (fun W hW j v hj => by rw [Nat.zero_add]; exact hW.2.2.2.at_ hj) Try.underlying96 rfl (by kernel_rfl)) ?_
      simp only [Act.put, List.setIfInBounds_toArray, List.set_cons_zero, List.set_cons_succ]
      refine wpAnyK_step (j := 16) (some 52) rfl rfl (by kernel_rfl) rfl fun K hK => ?_
      have hsb5 : BytesAt w5.drew (.slice sa q cc) (pieceAt ses num b k).b gb := HSB.out.fr HF5.out.drew (by simp)
      refine wp_call_f (l := [.tmp 51]) rfl [.agg (pcCells (pieceAt ses num b k) (.slice sa q cc)).toArray] rfl (enter_written _) ((written_any (p := pieceAt ses num b k) hses hnum (by show needOf b.length < 65536; omega) (by show k < 65536; omega) (by rw [← HQQ.out]; omega) hsb5).mono ?_)
      rintro e w6 ⟨v6, g6, rfl, hb6, hg6, hf6⟩
      have hf6' : Fr [] wr w6 := HF5.out.drew.trans hf6 (by simp)
      have hb6' := HBK.out.fr hf6' (by simp)
      have hp6 := HB5.out.fr ((Fr.refl [] w5).drew.trans hf6 (by simp)) (by simp)
      refine ⟨_, rfl, hK _ _ (fun _ => ⟨hb6'.at_ rfl, hb6'.at_ rfl, hb6'.at_ rfl, hp6⟩) ?_⟩
      simp only [Act.put, List.setIfInBounds_toArray, List.set_cons_zero, List.set_cons_succ]
      refine wpAnyK_step (j := 17) (some 53) rfl rfl (by kernel_rfl) rfl fun K hK => ?_
      have hd6 := HDK.out.fr hf6' (by simp)
      have hdl := HDK.out.lt d HDK.out.mem
      have hz5 := HF5.out.size
      refine wp_call_f (l := [.tmp 39, .tmp 50, .tmp 52]) rfl [.pointer (some ⟨d, 0, none⟩), .int .i64 ((f : Int) + (at_ : Int) + (k : Int)), v6] rfl (enter_dwrite7 _) ((write_at hd6 _ _ _ _ hb6 (by have : w5.heap.size ≤ g6 := hg6; omega) (by omega)).mono ?_)
      rintro e w7 ⟨rfl, hs7⟩
      have hf7 : Fr fpk w6 w7 := by obtain ⟨_, _, h, _⟩ := hs7; exact h
      have hb7 := hb6'.fr hf7 (fun hm => by rcases HFPK.out _ hm with h | h; exact hlg h; exact absurd HB.out.lt (by omega))
      have hp7 := hp6.fr hf7 (fun hm => absurd (HDK.out.lt _ hm) (by omega))
      refine ⟨_, rfl, hK _ _ (fun _ => ⟨hb7.at_ rfl, hb7.at_ rfl, hb7.at_ rfl, hp7⟩) ?_⟩
      simp only [Act.put, List.setIfInBounds_toArray, List.set_cons_zero, List.set_cons_succ]
      refine wpAnyK_step (j := 18) (some 9) rfl rfl (by kernel_rfl) rfl fun K hK => ?_
      refine wp_run_same (v := ?aq2_18) ?yq2_18 (hK _ _ (fun h => absurd h (by decide +kernel)) ?_)
      case yq2_18 => go_simp <;> with_reducible rfl
      simp only [Act.put, List.setIfInBounds_toArray, List.set_cons_zero, List.set_cons_succ]
      refine wpAnyK_done (by kernel_rfl) ?_ _
      rw [show (f : Int) + (at_ : Int) + (k : Int) = ((f + at_ + k : Nat) : Int) by omega] at hs7 ⊢
      have hs7' : DStep w w7 d (Dk.write ((f + at_ + k : Nat) : Int) (writtenOf (pieceAt ses num b k))) fp := by
        refine DStep.comp (HFK.out.trans hf6' (by simp)) ?_ hs7
        exact HFPK.out
      have hS8 := write_S Dk ((f + at_ + k : Nat) : Int) (writtenOf (pieceAt ses num b k))
      have hD8 := write_done Dk ((f + at_ + k : Nat) : Int) (writtenOf (pieceAt ses num b k))
      have HS7 := Lib.hid hs7'; have HS8 := Lib.hid hS8
      clear hf7 hb7 hp7 hs7 hs7' hS8 hK hd6 hb6 hb6' hp6 hf6 hf6' hsb5 m0 m1 m3 x5 x6 x7 z1 z2
      rw [sectorsOf_at ses num b hkn] at HLAY
      by_cases he : Dk.writeE ((f + at_ + k : Nat) : Int) (writtenOf (pieceAt ses num b k)) = 0
      · rw [he]
        rw [layJ_on he] at HLAY
        generalize Dk.write ((f + at_ + k : Nat) : Int) (writtenOf (pieceAt ses num b k)) = D8 at *
        clear he
        go_wp2
        go_roundw
        case rel => exact ⟨k + 1, D8, by omega, rfl, HLAY.out, by omega, by rw [HS8.out]; exact hsk, HS7.out⟩
        case measure => simp [intOf]; omega
      · rw [layJ_stop he] at HLAY
        generalize Dk.writeE ((f + at_ + k : Nat) : Int) (writtenOf (pieceAt ses num b k)) = e8 at *
        generalize Dk.write ((f + at_ + k : Nat) : Int) (writtenOf (pieceAt ses num b k)) = D8 at *
        have hne : (e8 != 0) = true := by rw [bne_iff_ne]; exact he
        clear he
        go_wp2
        go_ret
        rw [HLAY.out]
        exact ⟨rfl, HS7.out⟩
    · have hkk : k = needOf b.length := by omega
      rw [hkk, List.drop_of_length_le (by rw [sectorsOf_len]; exact Nat.le_refl _)] at HLAY
      obtain ⟨fpk, hdk', hfk, hfpk⟩ := HST.out
      have hbk := HB.out.fr hfk hlg
      have l0 := hbk.at_ (i := 0) rfl
      have HDK := Lib.hid hdk'; have HFK := Lib.hid hfk; have HFPK := Lib.hid hfpk; have HKK := Lib.hid hkk
      clear hbk hdk' hfk hfpk hkk
      go_wp2_with fail
      refine (sync_at HDK.out (by omega)).mono ?_
      rintro e w7 ⟨rfl, hs7⟩
      have HS7 := Lib.hid hs7; clear hs7
      go_wp2
      go_ret
      rw [HLAY.out]
      exact ⟨rfl, DStep.comp HFK.out HFPK.out HS7.out⟩

end Go.Proofs.Ytidpleejgalljaa
