/-
  The laws of layer 7: 'bytes' and 'awake'.
-/
import Derived.Test.YtbgcbikgjedkkaaJl
namespace Go.Proofs.Ytbgcbikgjedkkaa
open Go.RowKit

def runB (n : Nat) (c : UInt8) : List UInt8 := (List.range n).map fun i => c + UInt8.ofNat i
theorem runB_len (n : Nat) (c : UInt8) : (runB n c).length = n := by simp [runB]
/-- Those of the first k, then zeros. -/
def runZ (n k : Nat) (c : UInt8) : List UInt8 := (List.range n).map fun i => if i < k then c + UInt8.ofNat i else 0
theorem runZ_all (n : Nat) (c : UInt8) : runZ n n c = runB n c := by
  unfold runZ runB
  apply List.map_congr_left
  intro i hi
  rw [if_pos (by simpa using hi)]
theorem runZ_len (n k : Nat) (c : UInt8) : (runZ n k c).length = n := by simp [runZ]
theorem runZ_set (n k : Nat) (c : UInt8) (hk : k < n) : (runZ n k c).set k (c + UInt8.ofNat k) = runZ n (k + 1) c := by
  apply List.ext_getElem
  · simp [runZ]
  · intro i h1 h2
    simp only [runZ, List.getElem_set, List.getElem_map, List.getElem_range]
    split
    · subst_vars; rw [if_pos (by omega)]
    · by_cases h : i < k
      · rw [if_pos h, if_pos (by omega)]
      · rw [if_neg h, if_neg (by omega)]
theorem made_run (n : Nat) (c : UInt8) : (madeCells #[Value.int .u8 0] n).toList = bcells (runZ n 0 c) := by
  apply List.ext_getElem?
  intro i
  have e1 : runZ n 0 c = List.replicate n 0 := by
    apply List.ext_getElem?
    intro i
    by_cases hi : i < n
    · simp [runZ, hi]
    · simp [runZ, hi]
  rw [e1]
  simp only [madeCells, bcells, List.map_replicate, List.getElem?_replicate, Array.getElem?_toList]
  by_cases hi : i < n
  · simp [hi, B8, Nat.mod_one]
  · simp [hi]
def BytesRel (w : World) (n : Nat) (c : UInt8) (i : Value) (wr : World) : Prop :=
  ∃ k : Nat, k ≤ n ∧ i = .int .i64 k ∧ Blk wr w.heap.size 5 (bcells (runZ n k c)) ∧ Fr [] w wr

set_option maxRecDepth 100000 in
set_option maxHeartbeats 400000 in
theorem bytes07 (w : World) (n : Nat) (hn : n ≤ 4096) (c : UInt8) : Calls Try.prog 33 #[.int .i64 (n : Int), B8 c] w fun e w' => e = .returned (.slice (some ⟨w.heap.size, 0, none⟩) n n) ∧ Blk w' w.heap.size 5 (bcells (runB n c)) ∧ Fr [] w w' := by
  have hc := c.toNat_lt
  unfold B8
  have hmk := run_make_row' (P := Try.prog) 22 5 (.int .u8 0) 1 Try.underlying22 info_u8 rfl .i64 .i64 n (by omega) (by omega)
  go_enter Try.func33, Try.ntmps33
  go_wp2
  go_loopw [6] (BytesRel w n c) (fun i _ => n - (intOf i).toNat)
  case atStart =>
    refine ⟨0, Nat.zero_le _, rfl, ?_, (Fr.refl _ _).alloc _⟩
    have := Blk.new w 5 (bcells (runZ n 0 c))
    rw [← made_run] at this ⊢
    simpa using this
  case round =>
    obtain ⟨k, hk, rfl, hb, hf⟩ := hrel
    have hl := hb.lt
    have hfr := hb.free
    have HB := Lib.hid hb; have HF := Lib.hid hf; clear hb hf
    by_cases hkn : k < n
    · have hcell : wr.cell? ⟨w.heap.size, k, none⟩ = some (.int .u8 0) := HB.out.at_ (by rw [bcells_at]; unfold runZ; simp [hkn, B8])
      go_wp2
      refine ⟨⟨k + 1, hkn, rfl, ?_, HF.out.setCell (.inr (Nat.le_refl _)) _⟩, by simp [intOf]; omega⟩
      have h := HB.out.set_ k (B8 (c + UInt8.ofNat k))
      rw [← bcells_set, runZ_set n k c hkn] at h
      have e : B8 (c + UInt8.ofNat k) = .int .u8 (((c.toNat : Int) + (k : Int)) % 256) := by
        unfold B8
        congr 1
        simp
      rw [e] at h
      exact h
    · have hkk : k = n := by omega
      subst hkk
      go_wp2
      go_ret
      rw [← runZ_all]
      exact ⟨rfl, HB.out, HF.out⟩

/-! ### awake -/
def awD1 : DM := appendD (DM.new 8) (openL (DM.new 8) 1 6) [97]
def awL1 : LG := appendL (DM.new 8) (openL (DM.new 8) 1 6) [97]
def awD2 : DM := appendD awD1 awL1 [98]
theorem aw_e1 : appendE (DM.new 8) (openL (DM.new 8) 1 6) [97] = 0 := by decide +kernel
theorem aw_e2 : appendE awD1 awL1 [98] = 0 := by decide +kernel
theorem aw_dead : awD2.dead = false := by decide +kernel
theorem aw_len : awD2.S.length = 8 := by decide +kernel
theorem aw_new : (newestOf (awD2.part 1 6)).1 < 4294967295 := by decide +kernel
theorem aw_rows : (openR awD2 1 6).map (·.2) = [[97], [98]] := by decide +kernel
theorem aw_done1 : awD1.done + 65536 < 1099511627776 := by decide +kernel

theorem RowsIn.bytes {w : World} {v : Value} {bss : List (List UInt8)} {vs : List Value} {b0 : Nat} (h : RowsIn w v bss vs b0) {j : Nat} {bs : List UInt8} (hj : bss[j]? = some bs) :
    ∃ g A c x gx, v = .slice (some ⟨g, 0, none⟩) bss.length c ∧ bss.length ≤ c ∧ w.cell? ⟨g, j, none⟩ = some (.slice A bs.length x) ∧ BytesAt w (.slice A bs.length x) bs gx := by
  have hl : j < bss.length := (List.getElem?_eq_some_iff.1 hj).1
  obtain ⟨a, c, rfl, hc, _⟩ := own_shape h.own
  obtain ⟨g, rfl, hcell⟩ := own_cell h.own (by omega)
  have hj2 : j < vs.length := by rw [h.len]; exact hl
  obtain ⟨gx, hb, _⟩ := h.row j _ bs (List.getElem?_eq_getElem hj2) hj
  have h1 := hcell j _ (List.getElem?_eq_getElem hj2)
  obtain ⟨A, x, off, hv, hx, hr⟩ := hb
  rw [hv] at h1
  exact ⟨g, A, c, x, gx, rfl, hc, h1, A, x, off, rfl, hx, hr⟩

set_option maxRecDepth 100000 in
set_option maxHeartbeats 1000000 in
theorem awake07 (w : World) : Calls Try.prog 31 #[] w fun e w' => e = .returned (.bool true) ∧ Fr [] w w' := by
  have kc := fun (w : World) (C : Array Value) (n c : Nat) => Lib.run_convert_bytes_const (P := Try.prog) w 22 5 C n c Try.underlying22 Try.underlying5
  go_enter Try.func31, Try.ntmps31
  go_wp2_with fail
  refine (new_X (X := fun _ => False) w w 8 (by omega) (by omega) (Fr.refl _ _) (by simp)).mono ?_
  rintro e w1 ⟨d, rfl, hd1, _⟩
  have HD1 := Lib.hid hd1; clear hd1
  go_wp2_with fail
  refine (open_X (f := 1) (n := 6) HD1.out rfl (by omega) (by decide) (by decide +kernel)).mono ?_
  rintro e w2 ⟨out, rfl, hd2, hr2, hb2, hf2⟩
  have hz2 := hb2.lt
  have HD2 := Lib.hid hd2; have HB2 := Lib.hid hb2; have HZ1 := Lib.hid HD1.out.frame.size; clear hd2 hb2 hf2
  go_wp2_with fail
  have hok := openL_ok (D := DM.new 8) (f := 1) (n := 6) (by decide) (by decide +kernel)
  refine (append_X (lg := w1.heap.size) (b := [97]) (gb := w2.heap.size) (HD2.out.fr ((Fr.refl [] w2).alloc (.cells #[.int .u8 97] 5 (1, 2)))) (HB2.out.alloc _) (by left; right; omega) HZ1.out hok
    (bytes_mark (w := w2) (C := [97]) (fz := (1, 2)) _ rfl) (by right; simp) (by decide) (by decide)).mono ?_
  rintro e w3 ⟨rfl, hd3, hb3, hok3, _⟩
  rw [aw_e1]
  have hz3 := hb3.lt
  have HD3 : Hid (DkX w w3 d awD1 _) := Lib.hid hd3
  have HB3 : Hid (Blk w3 w1.heap.size 84 (awL1.cells d)) := Lib.hid hb3
  have HOK3 : Hid (awL1.ok awD1) := Lib.hid hok3
  clear hd3 hb3 hok3 hok HD2 HB2 HD1
  go_wp2_with fail
  refine (append_X (lg := w1.heap.size) (b := [98]) (gb := w3.heap.size) (HD3.out.fr ((Fr.refl [] w3).alloc (.cells #[.int .u8 98] 5 (1, 2)))) (HB3.out.alloc _) (by left; left; right; omega) HZ1.out HOK3.out
    (bytes_mark (w := w3) (C := [98]) (fz := (1, 2)) _ rfl) (by right; simp) (by decide) aw_done1).mono ?_
  rintro e w4 ⟨rfl, hd4, _, _, _⟩
  rw [aw_e2]
  have HD4 : Hid (DkX w w4 d awD2 _) := Lib.hid hd4
  clear hd4 HD3 HB3 HOK3
  go_wp2_with fail
  refine (open_X (f := 1) (n := 6) HD4.out aw_dead (by omega) (by rw [aw_len]; omega) aw_new).mono ?_
  rintro e w5 ⟨out5, rfl, hd5, ⟨vs, hr5⟩, _, hf5⟩
  rw [aw_rows] at hr5
  obtain ⟨g, A0, c0, x0, y0, rfl, hc0, m0, b0⟩ := hr5.bytes (j := 0) rfl
  obtain ⟨g', A1, c1, x1, y1, he, hc1, m1, b1⟩ := hr5.bytes (j := 1) rfl
  injection he with he _ _
  simp only [Option.some.injEq, Addr.mk.injEq] at he
  obtain ⟨rfl, _⟩ := he
  have HF5 := Lib.hid hd5.frame
  clear hr5 hd5 hf5 HD4
  simp only [List.length_cons, List.length_nil] at m0 m1 b0 b1 hc0
  have k1 := fun nq : Nat => run_string_of (P := Try.prog) (dst := 9) Try.underlying22 Try.underlying5 Try.underlying9 (b0.fr ((Fr.refl [] w5).drewN nq) (by simp))
  have k2 := fun nq : Nat => run_string_of (P := Try.prog) (dst := 9) Try.underlying22 Try.underlying5 Try.underlying9 (b1.fr ((Fr.refl [] w5).drewN nq) (by simp))
  have k3 := run_string_of (P := Try.prog) (dst := 9) Try.underlying22 Try.underlying5 Try.underlying9 b0
  have k4 := run_string_of (P := Try.prog) (dst := 9) Try.underlying22 Try.underlying5 Try.underlying9 b1
  clear b0 b1
  go_wp2_with fail
  refine (need_any _ 49 (by omega) (by omega)).mono ?_
  rintro e w6 ⟨rfl, rfl⟩
  rw [show needI 49 = 2 from by decide]
  go_wp2
  go_ret
  exact ⟨rfl, HF5.out⟩

end Go.Proofs.Ytbgcbikgjedkkaa
