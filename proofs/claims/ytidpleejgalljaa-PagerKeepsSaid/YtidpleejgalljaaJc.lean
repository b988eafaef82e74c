/-
  The contract of (piece).written: a piece as a sector.
-/
import Derived.Test.YtidpleejgalljaaJb
namespace Go.Proofs.Ytidpleejgalljaa
open Go.RowKit

def wRound (p : Pc) : Nat → List UInt8
  | 0 => 165 :: 90 :: List.replicate 62 0
  | k + 1 => ((wRound p k).set (2 + k) (byteAt p.st.session (3 - k))).set (6 + k) (byteAt p.st.number (3 - k))
theorem bcells_set (l : List UInt8) (i : Nat) (c : UInt8) : bcells (l.set i c) = (bcells l).set i (B8 c) := by simp [bcells, List.map_set]
theorem wRound_len (p : Pc) : ∀ k, (wRound p k).length = 64
  | 0 => by simp [wRound]
  | k + 1 => by simp [wRound, wRound_len p k]
theorem byte_of (n k : Nat) : ((byteAt n k).toNat : Int) = ((n : Int) / 256 ^ k) % 256 := by simp [byteAt]
def pcCells (p : Pc) (sv : Value) : List Value := [.int .u32 (p.st.session : Int), .int .u32 (p.st.number : Int), .int .i64 (p.st.count : Int), .int .i64 (p.place : Int), sv]

def WrRel (w : World) (p : Pc) (sv : Value) (i : Value) (wr : World) : Prop :=
  ∃ k : Nat, k ≤ 4 ∧ i = .int .i64 k ∧ Blk wr (w.heap.size + 1) 5 (bcells (wRound p k)) ∧ Blk wr w.heap.size 96 (pcCells p sv) ∧ Fr [] w wr

theorem wr_step {w wr : World} {p : Pc} {sv : Value} {x y : Int} (k : Nat) (hk : k < 4) (hb1 : Blk wr (w.heap.size + 1) 5 (bcells (wRound p k))) (hb2 : Blk wr w.heap.size 96 (pcCells p sv)) (hf : Fr [] w wr)
    (hx : x = ((byteAt p.st.session (3 - k)).toNat : Int)) (hy : y = ((byteAt p.st.number (3 - k)).toNat : Int)) :
    WrRel w p sv (.int .i64 ((k + 1 : Nat) : Int)) ((wr.setCell ⟨w.heap.size + 1, 2 + k, none⟩ (.int .u8 x)).setCell ⟨w.heap.size + 1, 6 + k, none⟩ (.int .u8 y)) := by
  subst hx hy
  refine ⟨k + 1, by omega, rfl, ?_, (hb2.far (by show _ ≠ _; simp) _).far (by show _ ≠ _; simp) _, (hf.setCell (.inr (Nat.le_succ _)) _).setCell (.inr (Nat.le_succ _)) _⟩
  have := (hb1.set_ (2 + k) (B8 (byteAt p.st.session (3 - k)))).set_ (6 + k) (B8 (byteAt p.st.number (3 - k)))
  rw [← bcells_set, ← bcells_set] at this
  exact this

def hcells (l : List UInt8) (x10 x11 x12 x13 x14 : Int) : List Value := (((((bcells l).set 10 (.int .u8 x10)).set 11 (.int .u8 x11)).set 12 (.int .u8 x12)).set 13 (.int .u8 x13)).set 14 (.int .u8 x14)
theorem hcells_len (l : List UInt8) (hl : l.length = 64) (x10 x11 x12 x13 x14 : Int) : (hcells l x10 x11 x12 x13 x14).length = 64 := by simp [hcells, bcells_len, hl]
theorem hcells_eq (p : Pc) {x10 x11 x12 x13 x14 : Int} (h10 : x10 = ((byteAt p.place 1).toNat : Int)) (h11 : x11 = ((byteAt p.place 0).toNat : Int)) (h12 : x12 = ((byteAt p.st.count 1).toNat : Int)) (h13 : x13 = ((byteAt p.st.count 0).toNat : Int)) (h14 : x14 = ((UInt8.ofNat p.b.length).toNat : Int)) :
    (hcells (wRound p 4) x10 x11 x12 x13 x14).take 16 ++ bcells p.b = bcells (writtenOf p) := by
  subst h10 h11 h12 h13 h14
  simp [hcells, wRound, bcells, writtenOf, B8]
theorem BytesAt.of_own {w : World} {g n c : Nat} {bs : List UInt8} (h : w.ownsRow 0 5 1 (.slice (some ⟨g, 0, none⟩) n c) n (bcells bs)) : BytesAt w (.slice (some ⟨g, 0, none⟩) n c) bs g := by
  have hn : bs.length = n := by have := h.1; rw [bcells_len] at this; omega
  obtain ⟨a, c', hv, hc, _⟩ := own_shape h
  injection hv with _ _ hcc
  subst hcc
  subst hn
  refine ⟨_, _, 0, rfl, hc, fun h0 => ⟨rfl, fun j u hu => ?_⟩⟩
  obtain ⟨g', hg', hc'⟩ := own_cell h h0
  simp only [Option.some.injEq, Addr.mk.injEq] at hg'
  rw [Nat.zero_add, hg'.1]
  exact hc' j u hu
theorem own_part {w : World} {g n : Nat} {cs : List Value} (h : Blk w g 5 cs) (hn : n ≤ cs.length) (hm : cs.length ≤ maxLen) : w.ownsRow 0 5 1 (.slice (some ⟨g, 0, none⟩) n cs.length) n (cs.take n) :=
  ⟨by rw [List.length_take]; omega, .inr ⟨g, cs.length, cs.toArray, rfl, Nat.zero_le _, h, hn, hm, by simp, by simp⟩⟩
theorem own_part64 {w : World} {g : Nat} {l : List UInt8} {x10 x11 x12 x13 x14 : Int} (hl : l.length = 64) (h : Blk w g 5 (hcells l x10 x11 x12 x13 x14)) : w.ownsRow 0 5 1 (.slice (some ⟨g, 0, none⟩) 16 64) 16 ((hcells l x10 x11 x12 x13 x14).take 16) := by
  have := own_part (n := 16) h (by rw [hcells_len l hl]; omega) (by rw [hcells_len l hl]; unfold maxLen; omega)
  rw [hcells_len l hl] at this
  exact this
theorem wr_end {w : World} {p : Pc} {g : Nat} {l : List UInt8} {x10 x11 x12 x13 x14 : Int} (hl : l = wRound p 4) (h : Blk w g 5 (hcells l x10 x11 x12 x13 x14)) (hb : p.b = [])
    (h10 : x10 = ((byteAt p.place 1).toNat : Int)) (h11 : x11 = ((byteAt p.place 0).toNat : Int)) (h12 : x12 = ((byteAt p.st.count 1).toNat : Int)) (h13 : x13 = ((byteAt p.st.count 0).toNat : Int)) (h14 : x14 = ((UInt8.ofNat p.b.length).toNat : Int)) :
    BytesAt w (.slice (some ⟨g, 0, none⟩) 16 64) (writtenOf p) g := by
  subst hl
  refine BytesAt.of_own ?_
  have := own_part64 (wRound_len p 4) h
  rw [← hcells_eq p h10 h11 h12 h13 h14, hb]
  simpa [bcells] using this

def wrW (wr : World) (m : Nat) (x10 x11 x12 x13 x14 : Int) : World :=
  (((((wr.setCell ⟨m, 10, none⟩ (.int .u8 x10)).setCell ⟨m, 11, none⟩ (.int .u8 x11)).setCell ⟨m, 12, none⟩ (.int .u8 x12)).setCell ⟨m, 13, none⟩ (.int .u8 x13)).setCell ⟨m, 14, none⟩ (.int .u8 x14)).drew.drew
theorem wrW_blk {wr : World} {m : Nat} {L : List UInt8} (x10 x11 x12 x13 x14 : Int) (h : Blk wr m 5 (bcells L)) : Blk (wrW wr m x10 x11 x12 x13 x14) m 5 (hcells L x10 x11 x12 x13 x14) :=
  ((((((h.set_ 10 _).set_ 11 _).set_ 12 _).set_ 13 _).set_ 14 _).drew).drew
theorem wrW_fr {w wr : World} {m : Nat} (x10 x11 x12 x13 x14 : Int) (h : Fr [] w wr) (hm : w.heap.size ≤ m) : Fr [] w (wrW wr m x10 x11 x12 x13 x14) :=
  ((((((h.setCell (.inr hm) _).setCell (.inr hm) _).setCell (.inr hm) _).setCell (.inr hm) _).setCell (.inr hm) _).drew).drew

theorem make16 (w : World) : (Instr.makeSlice 94 (.int .i64 16) (.int .i64 64)).run Try.prog w = .ok (.slice (some ⟨w.heap.size, 0, none⟩) 16 64) (w.alloc (.cells z64.toArray 5)) := by
  obtain ⟨i, hi, hz, hs, hb⟩ := info_parts info_u8
  have h := run_makeSlice (P := Try.prog) w 94 5 i _ Try.underlying94 hi hz .i64 .i64 16 64 (by omega) (by omega) (by rw [hs]; decide) (by rw [hb]; decide) (by omega)
  have e : madeCells #[Value.int .u8 0] 64 = z64.toArray := by
    have := made_zero 1
    have e1 : (DM.new 1).S.flatten = List.replicate 64 0 := by simp [DM.new]
    rw [e1, Nat.one_mul] at this
    rw [z64, ← this]
  rw [hs] at h
  exact h.trans (by rw [← e]; rfl)

set_option maxRecDepth 100000 in
set_option maxHeartbeats 1000000 in
theorem written_any {w : World} {p : Pc} {sv : Value} {gb : Nat} (hs : p.st.session < 4294967296) (hn : p.st.number < 4294967296) (hc : p.st.count < 65536) (hp : p.place < 65536) (hl : p.b.length ≤ 48) (hb : BytesAt w sv p.b gb) :
    Calls Try.prog 58 #[.agg (pcCells p sv).toArray] w fun e w' => ∃ v g, e = .returned v ∧ BytesAt w' v (writtenOf p) g ∧ w.heap.size ≤ g ∧ Fr [] w w' := by
  have HB := Lib.hid hb; clear hb
  have hmk := make16
  unfold pcCells
  go_enter Try.func58, Try.ntmps58
  go_wp2
  go_loopw [10] (WrRel w p sv) (fun i _ => 4 - (intOf i).toNat)
  case atStart =>
    refine ⟨0, by omega, rfl, ?_, (Blk.new w _ _).alloc _, ((Fr.refl [] w).alloc _).alloc _⟩
    have e : ((z64.set 0 (.int .u8 165)).set 1 (.int .u8 90)) = bcells (wRound p 0) := rfl
    rw [e]
    have h := Blk.new (w.alloc (.cells (pcCells p sv).toArray 96)) 5 (bcells (wRound p 0))
    have hsz : (w.alloc (.cells (pcCells p sv).toArray 96)).heap.size = w.heap.size + 1 := by simp
    rw [hsz] at h
    exact h
  case round =>
    obtain ⟨k, hk, rfl, hb1, hb2, hf⟩ := hrel
    have c0 : wr.cell? ⟨w.heap.size, 0, none⟩ = some (.int .u32 (p.st.session : Int)) := hb2.at_ rfl
    have c1 : wr.cell? ⟨w.heap.size, 1, none⟩ = some (.int .u32 (p.st.number : Int)) := hb2.at_ rfl
    have hfz := hb1.free
    have hcl : ∀ j : Nat, j < 64 → ∃ u : UInt8, wr.cell? ⟨w.heap.size + 1, j, none⟩ = some (B8 u) := fun j hj => ⟨(wRound p k)[j]'(by rw [wRound_len]; exact hj), hb1.at_ (by rw [bcells_at, List.getElem?_eq_getElem]; rfl)⟩
    have HB1 := Lib.hid hb1; have HB2 := Lib.hid hb2; have HF := Lib.hid hf
    clear hb1 hb2 hf
    by_cases hk4 : k < 4
    · obtain ⟨u1, hu1⟩ := hcl (2 + k) (by omega)
      obtain ⟨u2, hu2⟩ := hcl (6 + k) (by omega)
      unfold B8 at hu1 hu2
      rcases (by omega : k = 0 ∨ k = 1 ∨ k = 2 ∨ k = 3) with rfl | rfl | rfl | rfl
      · go_wp2
        exact ⟨wr_step 0 (by omega) HB1.out HB2.out HF.out (by rw [byte_of]; omega) (by rw [byte_of]; omega), by simp [intOf]⟩
      · go_wp2
        exact ⟨wr_step 1 (by omega) HB1.out HB2.out HF.out (by rw [byte_of]; omega) (by rw [byte_of]; omega), by simp [intOf]⟩
      · go_wp2
        exact ⟨wr_step 2 (by omega) HB1.out HB2.out HF.out (by rw [byte_of]; omega) (by rw [byte_of]; omega), by simp [intOf]⟩
      · go_wp2
        exact ⟨wr_step 3 (by omega) HB1.out HB2.out HF.out (by rw [byte_of]; omega) (by rw [byte_of]; omega), by simp [intOf]⟩
    · have hk5 : k = 4 := by omega
      subst hk5
      have c2 : wr.cell? ⟨w.heap.size, 2, none⟩ = some (.int .i64 (p.st.count : Int)) := HB2.out.at_ rfl
      have c3 : wr.cell? ⟨w.heap.size, 3, none⟩ = some (.int .i64 (p.place : Int)) := HB2.out.at_ rfl
      have c4 : wr.cell? ⟨w.heap.size, 4, none⟩ = some sv := HB2.out.at_ rfl
      obtain ⟨u10, hu10⟩ := hcl 10 (by omega)
      obtain ⟨u11, hu11⟩ := hcl 11 (by omega)
      obtain ⟨u12, hu12⟩ := hcl 12 (by omega)
      obtain ⟨u13, hu13⟩ := hcl 13 (by omega)
      obtain ⟨u14, hu14⟩ := hcl 14 (by omega)
      clear hcl c0 c1
      obtain ⟨L, hL⟩ : ∃ L, L = wRound p 4 := ⟨_, rfl⟩
      have HB3 := Lib.hid (show Blk wr (w.heap.size + 1) 5 (bcells L) by rw [hL]; exact HB1.out)
      have HL := Lib.hid hL
      clear HB1 hL
      unfold B8 at hu10 hu11 hu12 hu13 hu14
      obtain ⟨A, c, off, rfl, hbc, hcells⟩ := HB.out
      have HCS := Lib.hid hcells; clear hcells
      by_cases h0 : p.b.length = 0
      · have hbl : p.b = [] := List.eq_nil_of_length_eq_zero h0
        have HBL := Lib.hid hbl
        clear hbl
        rw [h0]
        rw [h0] at c4
        clear h0
        go_wp2
        go_region
        go_wp2
        go_region
        go_wp2_with (refine wpList_append_none rfl (.tmp 68) (.tmp 70) 94 35 rfl 5 5 Try.underlying94 Try.underlying35 (by kernel_rfl) (some ⟨w.heap.size + 1, 0, none⟩) A 16 64 c rfl rfl (by omega) ?_)
        go_wp2
        go_ret
        refine ⟨.slice (some ⟨w.heap.size + 1, 0, none⟩) 16 64, w.heap.size + 1, rfl, ?_, by omega, ?_⟩
        · exact wr_end HL.out (wrW_blk ((p.place : Int) / 256) ((p.place : Int) % 256) ((p.st.count : Int) / 256) ((p.st.count : Int) % 256) 0 HB3.out) HBL.out (by rw [byte_of]; omega) (by rw [byte_of]; omega) (by rw [byte_of]; omega) (by rw [byte_of]; omega) (by rw [HBL.out]; rfl)
        · exact wrW_fr ((p.place : Int) / 256) ((p.place : Int) % 256) ((p.st.count : Int) / 256) ((p.st.count : Int) % 256) 0 HF.out (Nat.le_succ _)
      · obtain ⟨rfl, hcs⟩ := HCS.out (by omega)
        have HC2 := Lib.hid hcs; clear hcs
        obtain ⟨iu, hi, hz, hsz, hby⟩ := info_parts info_u8
        have HI := Lib.hid hi; have HZ := Lib.hid hz; have HSZ := Lib.hid hsz; have HBY := Lib.hid hby
        clear hi hz hsz hby
        have HOW := Lib.hid (own_part64 (show L.length = 64 by rw [HL.out]; exact wRound_len p 4) (wrW_blk ((p.place : Int) / 256) ((p.place : Int) % 256) ((p.st.count : Int) / 256) ((p.st.count : Int) % 256) (p.b.length : Int) HB3.out))
        have HFW := Lib.hid (wrW_fr ((p.place : Int) / 256) ((p.place : Int) % 256) ((p.st.count : Int) / 256) ((p.st.count : Int) % 256) (p.b.length : Int) HF.out (Nat.le_succ w.heap.size))
        have HEQ := Lib.hid (hcells_eq p (x10 := (p.place : Int) / 256) (x11 := (p.place : Int) % 256) (x12 := (p.st.count : Int) / 256) (x13 := (p.st.count : Int) % 256) (x14 := (p.b.length : Int)) (by rw [byte_of]; omega) (by rw [byte_of]; omega) (by rw [byte_of]; omega) (by rw [byte_of]; omega) (by simp; omega))
        rw [← HL.out] at HEQ
        have HNW : ∀ (j : Nat) (u : Value), (bcells p.b)[j]? = some u → (wrW wr (w.heap.size + 1) ((p.place : Int) / 256) ((p.place : Int) % 256) ((p.st.count : Int) / 256) ((p.st.count : Int) % 256) (p.b.length : Int)).cell? (Addr.add ⟨gb, off, none⟩ j) = some u := by
          intro j u hu
          have h1 := HC2.out j u hu
          rw [Addr.add_mid]
          rw [HFW.out.cell (p := ⟨gb, off + j, none⟩) (World.block_lt_of_cell? w _ h1) (by simp)]
          exact h1
        have HN := Lib.hid HNW; clear HNW
        go_wp2
        go_region
        go_wp2
        go_region
        go_wp2_with (refine wpList_append_two rfl (.tmp 68) (.tmp 70) 94 35 rfl 5 5 iu (.int .u8 0) 1 Try.underlying94 Try.underlying35 HI.out HZ.out HSZ.out HBY.out rfl (some ⟨w.heap.size + 1, 0, none⟩) 64 16 ?xs rfl ?own ⟨gb, off, none⟩ p.b.length c (bcells p.b) rfl (bcells_len _) ?news (bcells_one _) (by omega) (by unfold maxLen; omega) (by omega) ?_)
        case own =>
          have h := HOW.out
          unfold wrW at h
          exact h
        case news =>
          have h := HN.out
          unfold wrW at h
          exact h
        intro g cap w' hown hg hat hlt
        rw [HEQ.out] at hown
        have HG := Lib.hid hg; have HAT := Lib.hid hat; have HOWN := Lib.hid hown
        clear hg hat hown
        go_wp2
        go_ret
        unfold wrW at HFW
        refine ⟨.slice (some ⟨g, 0, none⟩) (16 + p.b.length) cap, g, rfl, BytesAt.of_own HOWN.out, ?_, HFW.out.grown HG.out ?_⟩
        · have h1 := HF.out.size
          rcases HAT.out with h | h
          · have : w.heap.size + 1 = g := by simpa [Value.ownBlock] using h
            omega
          · omega
        · intro g' hg'
          have : w.heap.size + 1 = g' := by simpa [Value.ownBlock] using hg'
          right; omega

end Go.Proofs.Ytidpleejgalljaa
