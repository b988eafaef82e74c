/-
  The contracts of orangeryref07's four and read.
-/
import Derived.Test.YtbgcbikgjedkkaaJo
import Derived.Test.YtbgcbikgjedkkaaRefE
import Derived.Test.YtbgcbikgjedkkaaSl
namespace Go.Proofs.Ytbgcbikgjedkkaa
open Go.RowKit

theorem or_sh (x u s : Nat) (hu : u < 2 ^ s) : x * 2 ^ s ||| u = x * 2 ^ s + u := by
  have h := Nat.shiftLeft_add_eq_or_of_lt (b := u) (i := s) hu x
  rw [Nat.shiftLeft_eq] at h
  exact h.symm
theorem or_u32s (a b : Nat) (x s : Nat) (ha : a = x * 2 ^ s) (hb : b < 2 ^ s) (hs : a + b < 4294967296) : bits .or .u32 (a : Int) (b : Int) = ((a + b : Nat) : Int) := by
  show IntKind.u32.wrap ((BitVec.ofInt 32 ((a : Nat) : Int) ||| BitVec.ofInt 32 (b : Int)).toNat : Int) = _
  rw [BitVec.toNat_or, BitVec.ofInt_natCast, BitVec.ofInt_natCast, BitVec.toNat_ofNat, BitVec.toNat_ofNat, Nat.mod_eq_of_lt (by omega), Nat.mod_eq_of_lt (by omega), ha, or_sh x b s hb]
  simp only [IntKind.wrap_u32]
  omega

set_option maxRecDepth 100000 in
set_option maxHeartbeats 1000000 in
theorem four_any {w : World} {g off n c : Nat} {l : List UInt8} (hl : l.length = 4) (hn : 4 ≤ n) (hc : ∀ (j : Nat) (u : UInt8), l[j]? = some u → w.cell? ⟨g, off + j, none⟩ = some (.int .u8 (u.toNat : Int))) :
    Calls Try.prog 59 #[.slice (some ⟨g, off, none⟩) n c] w fun e w' => e = .returned (.int .u32 ((wordOf l : Nat) : Int)) ∧ ∃ m, w' = w.drewN m := by
  match l, hl with
  | [u0, u1, u2, u3], _ =>
    have c0 : w.cell? ⟨g, off, none⟩ = some (.int .u8 (u0.toNat : Int)) := hc 0 u0 rfl
    have c1 : w.cell? ⟨g, off + 1, none⟩ = some (.int .u8 (u1.toNat : Int)) := hc 1 u1 rfl
    have c2 : w.cell? ⟨g, off + 2, none⟩ = some (.int .u8 (u2.toNat : Int)) := hc 2 u2 rfl
    have c3 : w.cell? ⟨g, off + 3, none⟩ = some (.int .u8 (u3.toNat : Int)) := hc 3 u3 rfl
    have b0 : u0.toNat < 256 := u0.toNat_lt
    have b1 : u1.toNat < 256 := u1.toNat_lt
    have b2 : u2.toNat < 256 := u2.toNat_lt
    have b3 : u3.toNat < 256 := u3.toNat_lt
    have h1 : (1 : Int) < (n : Int) := by omega
    have h2 : (2 : Int) < (n : Int) := by omega
    have h3 : (3 : Int) < (n : Int) := by omega
    clear hc
    have e : wordOf [u0, u1, u2, u3] = u0.toNat * 16777216 + u1.toNat * 65536 + u2.toNat * 256 + u3.toNat := by simp [wordOf]; omega
    rw [e]
    clear e
    generalize u0.toNat = x0 at *
    generalize u1.toNat = x1 at *
    generalize u2.toNat = x2 at *
    generalize u3.toNat = x3 at *
    go_enter Try.func59, Try.ntmps59
    go_wp2
    go_quiet (fail)
    go_wp2
    go_ret
    refine ⟨?_, _, rfl⟩
    show Ending.returned (.int .u32 (bits .or .u32 (bits .or .u32 (bits .or .u32 ((x0 : Int) * 16777216) ((x1 : Int) * 65536)) ((x2 : Int) * 256)) (x3 : Int))) = _
    rw [show (x0 : Int) * 16777216 = ((x0 * 16777216 : Nat) : Int) by omega, show (x1 : Int) * 65536 = ((x1 * 65536 : Nat) : Int) by omega, show (x2 : Int) * 256 = ((x2 * 256 : Nat) : Int) by omega,
      or_u32s _ _ x0 24 (by omega) (by omega) (by omega), or_u32s _ _ (x0 * 256 + x1) 16 (by omega) (by omega) (by omega), or_u32s _ _ (x0 * 65536 + x1 * 256 + x2) 8 (by omega) (by omega) (by omega)]

theorem slice_some {P : Program} {t e : TypeId} (ht : P.underlying t = some (.slice e)) (he : (P.info? e).map (·.size) = some 1) (g off n c lo hi : Nat) (k1 k2 : IntKind) (h1 : lo ≤ hi) (h2 : hi ≤ c) (h3 : c ≠ lo) :
    ∀ w, (Instr.sliceAt t (.slice (some ⟨g, off, none⟩) n c) (some (.int k1 lo)) (some (.int k2 hi)) none).run P w = .ok (.slice (some ⟨g, off + lo, none⟩) (hi - lo) (c - lo)) w := by
  intro w
  have h := slice_run (P := P) ht he (some ⟨g, off, none⟩) n c lo hi k1 k2 h1 h2 w
  rw [if_neg h3] at h
  simpa [Addr.add_mid] using h
theorem enter_four (vs : Array Value) (w : World) : (callFunc 59 vs).run Try.prog w = .ok (.enter 59 vs) w := by kernel_rfl

/-- Bytes at a place. -/
def CellsOf (w : World) (g off : Nat) (s : List UInt8) : Prop := ∀ (j : Nat) (u : UInt8), s[j]? = some u → w.cell? ⟨g, off + j, none⟩ = some (.int .u8 (u.toNat : Int))
theorem CellsOf.fr {S : List Nat} {w w' : World} {g off : Nat} {s : List UInt8} (h : CellsOf w g off s) (hf : Fr S w w') (hg : g ∉ S) : CellsOf w' g off s := fun j u hu => by
  have h1 := h j u hu
  rw [hf.cell (World.block_lt_of_cell? w _ h1) hg]
  exact h1
theorem CellsOf.part {w : World} {g off : Nat} {s : List UInt8} (h : CellsOf w g off s) (lo n : Nat) : CellsOf w g (off + lo) ((s.drop lo).take n) := fun j u hu => by
  rw [List.getElem?_take] at hu
  split at hu
  · rw [List.getElem?_drop] at hu
    have := h (lo + j) u hu
    rw [show off + lo + j = off + (lo + j) by omega]
    exact this
  · cases hu
/-- A sector as a value. -/
def sec2 (g off c : Nat) : Value := .slice (some ⟨g, off, none⟩) 64 c
def rcells (p : Pc) (sv : Value) : List Value := [.int .u32 (p.st.session : Int), .int .u32 (p.st.number : Int), .int .i64 (p.place : Int), .int .i64 (p.st.count : Int), sv]
def rnone : List Value := [.int .u32 0, .int .u32 0, .int .i64 0, .int .i64 0, .slice none 0 0]
def rpieceV (g off c : Nat) (s : List UInt8) : Value :=
  match pieceOf s with
  | some p => .tuple #[.agg (rcells p (.slice (some ⟨g, off + 16, none⟩) p.b.length (c - 16))).toArray, .bool true]
  | none => .tuple #[.agg rnone.toArray, .bool false]

set_option maxRecDepth 100000 in
set_option maxHeartbeats 1000000 in
theorem rpiece_no {w : World} {g off c : Nat} {s : List UInt8} (h : CellsOf w g off s) (hl : s.length = 64) (hc : 64 ≤ c) (hp : pieceOf s = none) :
    Calls Try.prog 54 #[sec2 g off c] w fun e w' => e = .returned (.tuple #[.agg rnone.toArray, .bool false]) ∧ Fr [] w w' := by
  obtain ⟨s0, h0⟩ : ∃ s0, s[0]? = some s0 := ⟨_, List.getElem?_eq_getElem (by omega)⟩
  obtain ⟨s1, h1⟩ : ∃ s1, s[1]? = some s1 := ⟨_, List.getElem?_eq_getElem (by omega)⟩
  obtain ⟨s14, h14⟩ : ∃ s14, s[14]? = some s14 := ⟨_, List.getElem?_eq_getElem (by omega)⟩
  have c0 : w.cell? ⟨g, off, none⟩ = _ := h 0 s0 h0
  have c1 := h 1 s1 h1; have c14 := h 14 s14 h14
  have hg := World.block_lt_of_cell? w _ c0
  have hno : ¬ (s0.toNat = 165 ∧ s1.toNat = 90 ∧ s14.toNat ≤ 48) := by
    rintro ⟨a, b, c⟩
    unfold pieceOf at hp
    rw [if_pos ⟨hl, by rw [List.getD_eq_getElem?_getD, h0]; exact UInt8.toNat_inj.1 a, by rw [List.getD_eq_getElem?_getD, h1]; exact UInt8.toNat_inj.1 b, by rw [List.getD_eq_getElem?_getD, h14]; exact c⟩] at hp
    cases hp
  clear hp h h0 h1 h14 hl
  unfold sec2
  by_cases e0 : s0.toNat = 165
  · have n0 : ((s0.toNat : Int) != 165) = false := by rw [bne_eq_false_iff_eq]; omega
    by_cases e1 : s1.toNat = 90
    · have n1 : ((s1.toNat : Int) != 90) = false := by rw [bne_eq_false_iff_eq]; omega
      have e14 : 48 < s14.toNat := by omega
      clear hno e0 e1
      go_enter Try.func54, Try.ntmps54
      go_wp2
      exact bodyPost_ret (v := .tuple #[.agg rnone.toArray, .bool false]) (by simp [results, Try.results54, go_sem, rnone]) rfl ⟨rfl, (Fr.refl [] w).alloc _⟩
    · have n1 : ((s1.toNat : Int) != 90) = true := by rw [bne_iff_ne]; omega
      clear hno e0 e1
      go_enter Try.func54, Try.ntmps54
      go_wp2
      exact bodyPost_ret (v := .tuple #[.agg rnone.toArray, .bool false]) (by simp [results, Try.results54, go_sem, rnone]) rfl ⟨rfl, (Fr.refl [] w).alloc _⟩
  · have n0 : ((s0.toNat : Int) != 165) = true := by rw [bne_iff_ne]; omega
    clear hno e0
    go_enter Try.func54, Try.ntmps54
    go_wp2
    exact bodyPost_ret (v := .tuple #[.agg rnone.toArray, .bool false]) (by simp [results, Try.results54, go_sem, rnone]) rfl ⟨rfl, (Fr.refl [] w).alloc _⟩

theorem zero_rpiece : (Try.prog.info? 95).map (·.zero) = some (some (.agg rnone.toArray)) := by kernel_rfl

set_option maxRecDepth 100000 in
set_option maxHeartbeats 4000000 in
theorem rpiece_yes {w : World} {g off c : Nat} {s : List UInt8} {p : Pc} (h : CellsOf w g off s) (hl : s.length = 64) (hc : 64 ≤ c) (hp : pieceOf s = some p) :
    Calls Try.prog 54 #[sec2 g off c] w fun e w' => e = .returned (.tuple #[.agg (rcells p (.slice (some ⟨g, off + 16, none⟩) p.b.length (c - 16))).toArray, .bool true]) ∧ Fr [] w w' := by
  have hbl := piece_len hp
  unfold pieceOf at hp
  split at hp
  case isFalse => cases hp
  case isTrue hcond =>
    simp only [Option.some.injEq] at hp
    have gd : ∀ i, i < 64 → s[i]? = some (s.getD i 0) := fun i hi => by rw [List.getD_eq_getElem?_getD, List.getElem?_eq_getElem (by omega)]; rfl
    have c0 : w.cell? ⟨g, off, none⟩ = some (.int .u8 165) := by have := h 0 _ (gd 0 (by omega)); rw [hcond.2.1] at this; exact this
    have c1 : w.cell? ⟨g, off + 1, none⟩ = some (.int .u8 90) := by have := h 1 _ (gd 1 (by omega)); rw [hcond.2.2.1] at this; exact this
    have c14 := h 14 _ (gd 14 (by omega))
    have c10 := h 10 _ (gd 10 (by omega))
    have c11 := h 11 _ (gd 11 (by omega))
    have c12 := h 12 _ (gd 12 (by omega))
    have c13 := h 13 _ (gd 13 (by omega))
    have hg := World.block_lt_of_cell? w _ c0
    have x10 := (s.getD 10 0).toNat_lt; have x11 := (s.getD 11 0).toNat_lt; have x12 := (s.getD 12 0).toNat_lt; have x13 := (s.getD 13 0).toNat_lt
    have h14 := hcond.2.2.2
    have hb14 : p.b.length = (s.getD 14 0).toNat := by rw [← hp]; show (List.take (s.getD 14 0).toNat (List.drop 16 s)).length = _; rw [List.length_take, List.length_drop]; omega
    have hplace : p.place = (s.getD 10 0).toNat * 256 + (s.getD 11 0).toNat := by
      rw [← hp]
      show wordOf ((s.drop 10).take 2) = _
      rw [show (s.drop 10).take 2 = [s.getD 10 0, s.getD 11 0] from by
        apply List.ext_getElem?
        intro i
        rw [List.getElem?_take, List.getElem?_drop]
        match i with
        | 0 => simpa using gd 10 (by omega)
        | 1 => simpa using gd 11 (by omega)
        | i + 2 => simp; omega]
      simp [wordOf]
    have hcount : p.st.count = (s.getD 12 0).toNat * 256 + (s.getD 13 0).toNat := by
      rw [← hp]
      show wordOf ((s.drop 12).take 2) = _
      rw [show (s.drop 12).take 2 = [s.getD 12 0, s.getD 13 0] from by
        apply List.ext_getElem?
        intro i
        rw [List.getElem?_take, List.getElem?_drop]
        match i with
        | 0 => simpa using gd 12 (by omega)
        | 1 => simpa using gd 13 (by omega)
        | i + 2 => simp; omega]
      simp [wordOf]
    have hses : p.st.session = wordOf ((s.drop 2).take 4) := by rw [← hp]
    have hnum : p.st.number = wordOf ((s.drop 6).take 4) := by rw [← hp]
    generalize (s.getD 14 0).toNat = y14 at *
    generalize (s.getD 10 0).toNat = y10 at *
    generalize (s.getD 11 0).toNat = y11 at *
    generalize (s.getD 12 0).toNat = y12 at *
    generalize (s.getD 13 0).toNat = y13 at *
    have HH := Lib.hid h; have HPL := Lib.hid hplace; have HCO := Lib.hid hcount; have HSE := Lib.hid hses; have HNU := Lib.hid hnum; have HB := Lib.hid hb14
    clear hp hcond gd h hplace hcount hses hnum hb14
    have sl1 := slice_some (P := Try.prog) (t := 22) Try.underlying22 (by kernel_rfl) g off 64 c 2 6 .i64 .i64 (by omega) (by omega) (by omega)
    have sl2 := slice_some (P := Try.prog) (t := 22) Try.underlying22 (by kernel_rfl) g off 64 c 6 10 .i64 .i64 (by omega) (by omega) (by omega)
    have sl3 := slice_some (P := Try.prog) (t := 22) Try.underlying22 (by kernel_rfl) g off 64 c 16 (16 + y14) .i64 .i64 (by omega) (by omega) (by omega)
    rw [show 16 + y14 - 16 = y14 by omega] at sl3
    rw [show ((16 + y14 : Nat) : Int) = 16 + (y14 : Int) by omega] at sl3
    have SL1 := Lib.hid sl1; have SL2 := Lib.hid sl2; have SL3 := Lib.hid sl3
    clear sl1 sl2 sl3
    unfold sec2
    go_enter Try.func54, Try.ntmps54
    go_wp2_with fail
    have hcs : CellsOf (w.alloc (.cells #[.int .u32 0, .int .u32 0, .int .i64 0, .int .i64 0, .slice none 0 0] 95)) g off s := HH.out.fr ((Fr.refl [] w).alloc _) (by simp)
    have hbk : Blk (w.alloc (.cells #[.int .u32 0, .int .u32 0, .int .i64 0, .int .i64 0, .slice none 0 0] 95)) w.heap.size 95 rnone := Blk.new w _ rnone
    have hfa : Fr [] w (w.alloc (.cells #[.int .u32 0, .int .u32 0, .int .i64 0, .int .i64 0, .slice none 0 0] 95)) := (Fr.refl [] w).alloc _
    clear HH c0 c1 c14
    have k10 := hfa.cell (World.block_lt_of_cell? w _ c10) (by simp); rw [c10] at k10
    have k11 := hfa.cell (World.block_lt_of_cell? w _ c11) (by simp); rw [c11] at k11
    have k12 := hfa.cell (World.block_lt_of_cell? w _ c12) (by simp); rw [c12] at k12
    have k13 := hfa.cell (World.block_lt_of_cell? w _ c13) (by simp); rw [c13] at k13
    clear c10 c11 c12 c13
    generalize w.alloc (.cells #[.int .u32 0, .int .u32 0, .int .i64 0, .int .i64 0, .slice none 0 0] 95) = w1 at *
    have HCS := Lib.hid hcs; have HBK := Lib.hid hbk; have HFA := Lib.hid hfa
    clear hcs hbk hfa
    have v0 : IntKind.i64.wrap (16 + (y14 : Int)) = 16 + (y14 : Int) := by rw [IntKind.wrap_i64]; omega
    have v1 : IntKind.i64.wrap (y10 : Int) = (y10 : Int) := by rw [IntKind.wrap_i64]; omega
    have v2 : IntKind.i64.wrap ((y10 : Int) * 256) = (y10 : Int) * 256 := by rw [IntKind.wrap_i64]; omega
    have v3 : IntKind.i64.wrap (y11 : Int) = (y11 : Int) := by rw [IntKind.wrap_i64]; omega
    have v4 : IntKind.i64.wrap ((y10 : Int) * 256 + (y11 : Int)) = (y10 : Int) * 256 + (y11 : Int) := by rw [IntKind.wrap_i64]; omega
    have v5 : IntKind.i64.wrap (y12 : Int) = (y12 : Int) := by rw [IntKind.wrap_i64]; omega
    have v6 : IntKind.i64.wrap ((y12 : Int) * 256) = (y12 : Int) * 256 := by rw [IntKind.wrap_i64]; omega
    have v7 : IntKind.i64.wrap (y13 : Int) = (y13 : Int) := by rw [IntKind.wrap_i64]; omega
    have v8 : IntKind.i64.wrap ((y12 : Int) * 256 + (y13 : Int)) = (y12 : Int) * 256 + (y13 : Int) := by rw [IntKind.wrap_i64]; omega
    refine wp_region_K (fun W => W.cell? ⟨g, off + 10, none⟩ = some (.int .u8 (y10 : Int)) ∧ W.cell? ⟨g, off + 11, none⟩ = some (.int .u8 (y11 : Int)) ∧ W.cell? ⟨g, off + 12, none⟩ = some (.int .u8 (y12 : Int)) ∧ W.cell? ⟨g, off + 13, none⟩ = some (.int .u8 (y13 : Int))) [0, 1, 3, 4, 6, 7, 8, 9, 10, 11, 12, 13, 14, 15, 16, 17, 18, 19, 20, 21, 22, 23, 24, 25, 26, 27, 28, 29, 30] (by kernel_rfl) ?_
    refine wpAnyK_take (i := 0) (some 31) ?vq1_0 rfl rfl (by kernel_rfl) (fun _ _ _ h => h) ⟨k10, k11, k12, k13⟩ (.inl ⟨rfl, fun W hW => ?yq1_0⟩) ?_
    case yq1_0 => (obtain ⟨q10, q11, q12, q13⟩ := hW; go_simp) <;> with_reducible rfl
    simp only [Act.put, List.setIfInBounds_toArray, List.set_cons_zero, List.set_cons_succ]
    refine wpAnyK_take (i := 1) (some 32) (.slice (some ⟨g, off + 2, none⟩) 4 (c - 2)) rfl rfl (by kernel_rfl) (fun _ _ _ h => h) ⟨k10, k11, k12, k13⟩ (.inl ⟨rfl, fun W _ => exec_slice rfl rfl rfl rfl (SL1.out W)⟩) ?_
    simp only [Act.put, List.setIfInBounds_toArray, List.set_cons_zero, List.set_cons_succ]
    refine wpAnyK_take (i := 3) (some 34) ?vq1_3 rfl rfl (by kernel_rfl) (fun _ _ _ h => h) ⟨k10, k11, k12, k13⟩ (.inl ⟨rfl, fun W hW => ?yq1_3⟩) ?_
    case yq1_3 => (obtain ⟨q10, q11, q12, q13⟩ := hW; go_simp) <;> with_reducible rfl
    simp only [Act.put, List.setIfInBounds_toArray, List.set_cons_zero, List.set_cons_succ]
    refine wpAnyK_take (i := 4) (some 35) (.slice (some ⟨g, off + 6, none⟩) 4 (c - 6)) rfl rfl (by kernel_rfl) (fun _ _ _ h => h) ⟨k10, k11, k12, k13⟩ (.inl ⟨rfl, fun W _ => exec_slice rfl rfl rfl rfl (SL2.out W)⟩) ?_
    simp only [Act.put, List.setIfInBounds_toArray, List.set_cons_zero, List.set_cons_succ]
    refine wpAnyK_take (i := 6) (some 37) ?vq1_6 rfl rfl (by kernel_rfl) (fun _ _ _ h => h) ⟨k10, k11, k12, k13⟩ (.inl ⟨rfl, fun W hW => ?yq1_6⟩) ?_
    case yq1_6 => (obtain ⟨q10, q11, q12, q13⟩ := hW; go_simp) <;> with_reducible rfl
    simp only [Act.put, List.setIfInBounds_toArray, List.set_cons_zero, List.set_cons_succ]
    refine wpAnyK_take (i := 7) (some 38) ?vq1_7 rfl rfl (by kernel_rfl) (fun _ _ _ h => h) ⟨k10, k11, k12, k13⟩ (.inl ⟨rfl, fun W hW => ?yq1_7⟩) ?_
    case yq1_7 => (obtain ⟨q10, q11, q12, q13⟩ := hW; go_simp) <;> with_reducible rfl
    simp only [Act.put, List.setIfInBounds_toArray, List.set_cons_zero, List.set_cons_succ]
    refine wpAnyK_take (i := 8) (some 39) ?vq1_8 rfl rfl (by kernel_rfl) (fun _ _ _ h => h) ⟨k10, k11, k12, k13⟩ (.inl ⟨rfl, fun W hW => ?yq1_8⟩) ?_
    case yq1_8 => (obtain ⟨q10, q11, q12, q13⟩ := hW; go_simp) <;> with_reducible rfl
    simp only [Act.put, List.setIfInBounds_toArray, List.set_cons_zero, List.set_cons_succ]
    refine wpAnyK_take (i := 9) (some 40) ?vq1_9 rfl rfl (by kernel_rfl) (fun _ _ _ h => h) ⟨k10, k11, k12, k13⟩ (.inl ⟨rfl, fun W hW => ?yq1_9⟩) ?_
    case yq1_9 => (obtain ⟨q10, q11, q12, q13⟩ := hW; go_simp) <;> with_reducible rfl
    simp only [Act.put, List.setIfInBounds_toArray, List.set_cons_zero, List.set_cons_succ]
    refine wpAnyK_take (i := 10) (some 41) ?vq1_10 rfl rfl (by kernel_rfl) (fun _ _ _ h => h) ⟨k10, k11, k12, k13⟩ (.inl ⟨rfl, fun W hW => ?yq1_10⟩) ?_
    case yq1_10 => (obtain ⟨q10, q11, q12, q13⟩ := hW; go_simp) <;> with_reducible rfl
    simp only [Act.put, List.setIfInBounds_toArray, List.set_cons_zero, List.set_cons_succ]
    refine wpAnyK_take (i := 11) (some 42) ?vq1_11 rfl rfl (by kernel_rfl) (fun _ _ _ h => h) ⟨k10, k11, k12, k13⟩ (.inl ⟨rfl, fun W hW => ?yq1_11⟩) ?_
    case yq1_11 => (obtain ⟨q10, q11, q12, q13⟩ := hW; go_simp) <;> with_reducible rfl
    simp only [Act.put, List.setIfInBounds_toArray, List.set_cons_zero, List.set_cons_succ]
    refine wpAnyK_take (i := 12) (some 43) ?vq1_12 rfl rfl (by kernel_rfl) (fun _ _ _ h => h) ⟨k10, k11, k12, k13⟩ (.inl ⟨rfl, fun W hW => ?yq1_12⟩) ?_
    case yq1_12 => (obtain ⟨q10, q11, q12, q13⟩ := hW; go_simp) <;> with_reducible rfl
    simp only [Act.put, List.setIfInBounds_toArray, List.set_cons_zero, List.set_cons_succ]
    refine wpAnyK_take (i := 13) (some 44) ?vq1_13 rfl rfl (by kernel_rfl) (fun _ _ _ h => h) ⟨k10, k11, k12, k13⟩ (.inl ⟨rfl, fun W hW => ?yq1_13⟩) ?_
    case yq1_13 => (obtain ⟨q10, q11, q12, q13⟩ := hW; go_simp) <;> with_reducible rfl
    simp only [Act.put, List.setIfInBounds_toArray, List.set_cons_zero, List.set_cons_succ]
    refine wpAnyK_take (i := 14) (some 45) ?vq1_14 rfl rfl (by kernel_rfl) (fun _ _ _ h => h) ⟨k10, k11, k12, k13⟩ (.inl ⟨rfl, fun W hW => ?yq1_14⟩) ?_
    case yq1_14 => (obtain ⟨q10, q11, q12, q13⟩ := hW; go_simp) <;> with_reducible rfl
    simp only [Act.put, List.setIfInBounds_toArray, List.set_cons_zero, List.set_cons_succ]
    refine wpAnyK_take (i := 15) (some 46) ?vq1_15 rfl rfl (by kernel_rfl) (fun _ _ _ h => h) ⟨k10, k11, k12, k13⟩ (.inl ⟨rfl, fun W hW => ?yq1_15⟩) ?_
    case yq1_15 => (obtain ⟨q10, q11, q12, q13⟩ := hW; go_simp) <;> with_reducible rfl
    simp only [Act.put, List.setIfInBounds_toArray, List.set_cons_zero, List.set_cons_succ]
    refine wpAnyK_take (i := 16) (some 47) ?vq1_16 rfl rfl (by kernel_rfl) (fun _ _ _ h => h) ⟨k10, k11, k12, k13⟩ (.inl ⟨rfl, fun W hW => ?yq1_16⟩) ?_
    case yq1_16 => (obtain ⟨q10, q11, q12, q13⟩ := hW; go_simp) <;> with_reducible rfl
    simp only [Act.put, List.setIfInBounds_toArray, List.set_cons_zero, List.set_cons_succ]
    refine wpAnyK_take (i := 17) (some 48) ?vq1_17 rfl rfl (by kernel_rfl) (fun _ _ _ h => h) ⟨k10, k11, k12, k13⟩ (.inl ⟨rfl, fun W hW => ?yq1_17⟩) ?_
    case yq1_17 => (obtain ⟨q10, q11, q12, q13⟩ := hW; go_simp) <;> with_reducible rfl
    simp only [Act.put, List.setIfInBounds_toArray, List.set_cons_zero, List.set_cons_succ]
    refine wpAnyK_take (i := 18) (some 49) ?vq1_18 rfl rfl (by kernel_rfl) (fun _ _ _ h => h) ⟨k10, k11, k12, k13⟩ (.inl ⟨rfl, fun W hW => ?yq1_18⟩) ?_
    case yq1_18 => (obtain ⟨q10, q11, q12, q13⟩ := hW; go_simp) <;> with_reducible rfl
    simp only [Act.put, List.setIfInBounds_toArray, List.set_cons_zero, List.set_cons_succ]
    refine wpAnyK_take (i := 19) (some 50) ?vq1_19 rfl rfl (by kernel_rfl) (fun _ _ _ h => h) ⟨k10, k11, k12, k13⟩ (.inl ⟨rfl, fun W hW => ?yq1_19⟩) ?_
    case yq1_19 => (obtain ⟨q10, q11, q12, q13⟩ := hW; go_simp) <;> with_reducible rfl
    simp only [Act.put, List.setIfInBounds_toArray, List.set_cons_zero, List.set_cons_succ]
    refine wpAnyK_take (i := 20) (some 51) ?vq1_20 rfl rfl (by kernel_rfl) (fun _ _ _ h => h) ⟨k10, k11, k12, k13⟩ (.inl ⟨rfl, fun W hW => ?yq1_20⟩) ?_
    case yq1_20 => (obtain ⟨q10, q11, q12, q13⟩ := hW; go_simp) <;> with_reducible rfl
    simp only [Act.put, List.setIfInBounds_toArray, List.set_cons_zero, List.set_cons_succ]
    refine wpAnyK_take (i := 21) (some 52) ?vq1_21 rfl rfl (by kernel_rfl) (fun _ _ _ h => h) ⟨k10, k11, k12, k13⟩ (.inl ⟨rfl, fun W hW => ?yq1_21⟩) ?_
    case yq1_21 => (obtain ⟨q10, q11, q12, q13⟩ := hW; go_simp) <;> with_reducible rfl
    simp only [Act.put, List.setIfInBounds_toArray, List.set_cons_zero, List.set_cons_succ]
    refine wpAnyK_take (i := 22) (some 53) ?vq1_22 rfl rfl (by kernel_rfl) (fun _ _ _ h => h) ⟨k10, k11, k12, k13⟩ (.inl ⟨rfl, fun W hW => ?yq1_22⟩) ?_
    case yq1_22 => (obtain ⟨q10, q11, q12, q13⟩ := hW; go_simp) <;> with_reducible rfl
    simp only [Act.put, List.setIfInBounds_toArray, List.set_cons_zero, List.set_cons_succ]
    refine wpAnyK_take (i := 23) (some 54) ?vq1_23 rfl rfl (by kernel_rfl) (fun _ _ _ h => h) ⟨k10, k11, k12, k13⟩ (.inl ⟨rfl, fun W hW => ?yq1_23⟩) ?_
    case yq1_23 => (obtain ⟨q10, q11, q12, q13⟩ := hW; go_simp) <;> with_reducible rfl
    simp only [Act.put, List.setIfInBounds_toArray, List.set_cons_zero, List.set_cons_succ]
    refine wpAnyK_take (i := 24) (some 55) ?vq1_24 rfl rfl (by kernel_rfl) (fun _ _ _ h => h) ⟨k10, k11, k12, k13⟩ (.inl ⟨rfl, fun W hW => ?yq1_24⟩) ?_
    case yq1_24 => (obtain ⟨q10, q11, q12, q13⟩ := hW; go_simp) <;> with_reducible rfl
    simp only [Act.put, List.setIfInBounds_toArray, List.set_cons_zero, List.set_cons_succ]
    refine wpAnyK_take (i := 25) (some 56) ?vq1_25 rfl rfl (by kernel_rfl) (fun _ _ _ h => h) ⟨k10, k11, k12, k13⟩ (.inl ⟨rfl, fun W hW => ?yq1_25⟩) ?_
    case yq1_25 => (obtain ⟨q10, q11, q12, q13⟩ := hW; go_simp) <;> with_reducible rfl
    simp only [Act.put, List.setIfInBounds_toArray, List.set_cons_zero, List.set_cons_succ]
    refine wpAnyK_take (i := 26) (some 57) ?vq1_26 rfl rfl (by kernel_rfl) (fun _ _ _ h => h) ⟨k10, k11, k12, k13⟩ (.inl ⟨rfl, fun W hW => ?yq1_26⟩) ?_
    case yq1_26 => (obtain ⟨q10, q11, q12, q13⟩ := hW; go_simp) <;> with_reducible rfl
    simp only [Act.put, List.setIfInBounds_toArray, List.set_cons_zero, List.set_cons_succ]
    refine wpAnyK_take (i := 27) (some 58) ?vq1_27 rfl rfl (by kernel_rfl) (fun _ _ _ h => h) ⟨k10, k11, k12, k13⟩ (.inl ⟨rfl, fun W hW => ?yq1_27⟩) ?_
    case yq1_27 => (obtain ⟨q10, q11, q12, q13⟩ := hW; go_simp) <;> with_reducible rfl
    simp only [Act.put, List.setIfInBounds_toArray, List.set_cons_zero, List.set_cons_succ]
    refine wpAnyK_take (i := 28) (some 59) ?vq1_28 rfl rfl (by kernel_rfl) (fun _ _ _ h => h) ⟨k10, k11, k12, k13⟩ (.inl ⟨rfl, fun W hW => ?yq1_28⟩) ?_
    case yq1_28 => (obtain ⟨q10, q11, q12, q13⟩ := hW; go_simp) <;> with_reducible rfl
    simp only [Act.put, List.setIfInBounds_toArray, List.set_cons_zero, List.set_cons_succ]
    refine wpAnyK_take (i := 29) (some 60) (.slice (some ⟨g, off + 16, none⟩) y14 (c - 16)) rfl rfl (by kernel_rfl) (fun _ _ _ h => h) ⟨k10, k11, k12, k13⟩ (.inl ⟨rfl, fun W _ => exec_slice rfl rfl rfl rfl (SL3.out W)⟩) ?_
    simp only [Act.put, List.setIfInBounds_toArray, List.set_cons_zero, List.set_cons_succ]
    refine wpAnyK_step (j := 2) (some 33) rfl rfl (by kernel_rfl) rfl fun K hK => ?_
    refine wp_call_f (l := [.tmp 32]) rfl [.slice (some ⟨g, off + 2, none⟩) 4 (c - 2)] rfl (enter_four _) ((four_any (w := w1.drew) (g := g) (off := off + 2) (n := 4) (c := c - 2) (l := (s.drop 2).take 4) (by simp; omega) (by omega) ((HCS.out.fr ((Fr.refl [] w1).drew) (by simp)).part 2 4)).mono ?_)
    rintro e w2 ⟨rfl, m2, rfl⟩
    refine ⟨_, rfl, hK _ _ (fun _ => ⟨k10, k11, k12, k13⟩) ?_⟩
    simp only [Act.put, List.setIfInBounds_toArray, List.set_cons_zero, List.set_cons_succ]
    refine wpAnyK_step (j := 5) (some 36) rfl rfl (by kernel_rfl) rfl fun K hK => ?_
    refine wp_call_f (l := [.tmp 35]) rfl [.slice (some ⟨g, off + 6, none⟩) 4 (c - 6)] rfl (enter_four _) ((four_any (w := w1.drew.drewN m2) (g := g) (off := off + 6) (n := 4) (c := c - 6) (l := (s.drop 6).take 4) (by simp; omega) (by omega) ((HCS.out.fr (((Fr.refl [] w1).drew).drewN m2) (by simp)).part 6 4)).mono ?_)
    rintro e w3 ⟨rfl, m3, rfl⟩
    refine ⟨_, rfl, hK _ _ (fun _ => ⟨k10, k11, k12, k13⟩) ?_⟩
    simp only [Act.put, List.setIfInBounds_toArray, List.set_cons_zero, List.set_cons_succ]
    refine wpAnyK_take (i := 30) (some 61) ?vq1_30 rfl rfl (by kernel_rfl) (fun _ _ _ h => h) ⟨k10, k11, k12, k13⟩ (.inl ⟨rfl, fun W hW => ?yq1_30⟩) ?_
    case yq1_30 => (obtain ⟨q10, q11, q12, q13⟩ := hW; go_simp) <;> with_reducible rfl
    simp only [Act.put, List.setIfInBounds_toArray, List.set_cons_zero, List.set_cons_succ]
    refine wpAnyK_step (j := 31) none rfl rfl (by kernel_rfl) rfl fun K hK => ?_
    have hb3 := HBK.out.fr ((((Fr.refl [] w1).drew).drewN m2).drewN m3) (by simp)
    refine wp_store_blk 95 (.tmp 2) (.tmp 61) rfl [.int .u32 ((wordOf ((s.drop 2).take 4) : Nat) : Int), .int .u32 ((wordOf ((s.drop 6).take 4) : Nat) : Int), .int .i64 ((y10 : Int) * 256 + (y11 : Int)), .int .i64 ((y12 : Int) * 256 + (y13 : Int)), .slice (some ⟨g, off + 16, none⟩) y14 (c - 16)] rfl rfl hb3 (by kernel_rfl) rfl (by intro u hu; simp only [List.mem_cons, List.not_mem_nil, or_false] at hu; rcases hu with rfl | rfl | rfl | rfl | rfl <;> rfl) fun w5 hB5 hF5 _ => hK _ _ (fun h => absurd h (by decide +kernel)) ?_
    simp only [Act.put]
    refine wpAnyK_step (j := 32) (some 3) rfl rfl (by kernel_rfl) rfl fun K hK => ?_
    refine wp_run_same (v := ?aq1_32) ?yq1_32 (hK _ _ (fun h => absurd h (by decide +kernel)) ?_)
    case yq1_32 => go_simp <;> with_reducible rfl
    simp only [Act.put, List.setIfInBounds_toArray, List.set_cons_zero, List.set_cons_succ]
    refine wpAnyK_done (by kernel_rfl) ?_ _
    have hF5' : Fr [] w w5 := (((HFA.out.drew).drewN m2).drewN m3).trans hF5 (fun x hx => .inr (by simp at hx; omega))
    have d0 := hB5.at_ (i := 0) rfl
    have d1 := hB5.at_ (i := 1) rfl
    have d2 := hB5.at_ (i := 2) rfl
    have d3 := hB5.at_ (i := 3) rfl
    have d4 := hB5.at_ (i := 4) rfl
    have HF5 := Lib.hid hF5'
    clear hF5' hF5 hB5 hK hb3
    go_wp2
    refine bodyPost_ret (v := .tuple #[.agg (rcells p (.slice (some ⟨g, off + 16, none⟩) p.b.length (c - 16))).toArray, .bool true]) ?_ rfl ⟨rfl, HF5.out⟩
    simp [results, Try.results54, go_sem, d0, d1, d2, d3, d4, rcells, HPL.out, HCO.out, HSE.out, HNU.out, HB.out]

/-- Every sector: a piece or none. -/
theorem rpiece_any {w : World} {g off c : Nat} {s : List UInt8} (h : CellsOf w g off s) (hl : s.length = 64) (hc : 64 ≤ c) :
    Calls Try.prog 54 #[sec2 g off c] w fun e w' => e = .returned (rpieceV g off c s) ∧ Fr [] w w' := by
  unfold rpieceV
  cases hp : pieceOf s with
  | none => exact rpiece_no h hl hc hp
  | some p => exact rpiece_yes h hl hc hp

end Go.Proofs.Ytbgcbikgjedkkaa
