/-
  The contract of (sector).piece: a sector of 64 bytes as a piece, or none.
-/
import Derived.Test.YtidpleejgalljaaJa
import Derived.Test.YtidpleejgalljaaLawsB
namespace Go.Proofs.Ytidpleejgalljaa
open Go.RowKit

theorem enter_word (vs : Array Value) (w : World) : (callFunc 56 vs).run Try.prog w = .ok (.enter 56 vs) w := by kernel_rfl
theorem enter_half (vs : Array Value) (w : World) : (callFunc 57 vs).run Try.prog w = .ok (.enter 57 vs) w := by kernel_rfl

/-- A sector in a block of its own. -/
def SecAt (w : World) (g : Nat) (s : List UInt8) : Prop := Blk w g 5 (bcells s) ∧ s.length = 64
def secV (g : Nat) : Value := .slice (some ⟨g, 0, none⟩) 64 64
/-- A piece as a value; its bytes lie in the sector. -/
def pcAgg (g : Nat) (p : Pc) : Array Value := #[.int .u32 (p.st.session : Int), .int .u32 (p.st.number : Int), .int .i64 (p.st.count : Int), .int .i64 (p.place : Int), .slice (some ⟨g, 16, none⟩) p.b.length 48]
def noAgg : Array Value := #[.int .u32 0, .int .u32 0, .int .i64 0, .int .i64 0, .slice none 0 0]
def pieceV (g : Nat) (s : List UInt8) : Value :=
  match pieceOf s with
  | some p => .tuple #[.agg (pcAgg g p), .bool true]
  | none => .tuple #[.agg noAgg, .bool false]
theorem SecAt.at_ {w : World} {g : Nat} {s : List UInt8} (h : SecAt w g s) {j : Nat} {u : UInt8} (hu : s[j]? = some u) : w.cell? ⟨g, j, none⟩ = some (.int .u8 (u.toNat : Int)) := h.1.at_ (by rw [bcells_at, hu]; rfl)
theorem SecAt.fr {S : List Nat} {w w' : World} {g : Nat} {s : List UInt8} (h : SecAt w g s) (hf : Fr S w w') (hg : g ∉ S) : SecAt w' g s := ⟨h.1.fr hf hg, h.2⟩

theorem pieceOf_none {s : List UInt8} (h : ¬ (s.length = 64 ∧ s.getD 0 0 = 165 ∧ s.getD 1 0 = 90 ∧ (s.getD 14 0).toNat ≤ 48)) : pieceOf s = none := if_neg h

set_option maxRecDepth 100000 in
set_option maxHeartbeats 1000000 in
theorem piece_no {w : World} {g : Nat} {s : List UInt8} (h : SecAt w g s) (hp : pieceOf s = none) :
    Calls Try.prog 47 #[secV g] w fun e w' => e = .returned (.tuple #[.agg noAgg, .bool false]) ∧ Fr [] w w' := by
  have hl := h.2
  obtain ⟨s0, h0⟩ : ∃ s0, s[0]? = some s0 := ⟨_, List.getElem?_eq_getElem (by omega)⟩
  obtain ⟨s1, h1⟩ : ∃ s1, s[1]? = some s1 := ⟨_, List.getElem?_eq_getElem (by omega)⟩
  obtain ⟨s14, h14⟩ : ∃ s14, s[14]? = some s14 := ⟨_, List.getElem?_eq_getElem (by omega)⟩
  have c0 := h.at_ h0; have c1 := h.at_ h1; have c14 := h.at_ h14
  have hg := h.1.lt
  have hno : ¬ (s0.toNat = 165 ∧ s1.toNat = 90 ∧ s14.toNat ≤ 48) := by
    rintro ⟨a, b, c⟩
    unfold pieceOf at hp
    rw [if_pos ⟨hl, by rw [List.getD_eq_getElem?_getD, h0]; exact UInt8.toNat_inj.1 a, by rw [List.getD_eq_getElem?_getD, h1]; exact UInt8.toNat_inj.1 b, by rw [List.getD_eq_getElem?_getD, h14]; exact c⟩] at hp
    cases hp
  clear hp h h0 h1 h14 hl
  unfold secV
  by_cases e0 : s0.toNat = 165
  · have n0 : ((s0.toNat : Int) != 165) = false := by rw [bne_eq_false_iff_eq]; omega
    by_cases e1 : s1.toNat = 90
    · have n1 : ((s1.toNat : Int) != 90) = false := by rw [bne_eq_false_iff_eq]; omega
      have e14 : 48 < s14.toNat := by omega
      clear hno e0 e1
      go_enter Try.func47, Try.ntmps47
      go_wp2
      exact bodyPost_ret (v := .tuple #[.agg noAgg, .bool false]) (by simp [results, Try.results47, go_sem, noAgg]) rfl ⟨rfl, (Fr.refl [] w).alloc _⟩
    · have n1 : ((s1.toNat : Int) != 90) = true := by rw [bne_iff_ne]; omega
      clear hno e0 e1
      go_enter Try.func47, Try.ntmps47
      go_wp2
      exact bodyPost_ret (v := .tuple #[.agg noAgg, .bool false]) (by simp [results, Try.results47, go_sem, noAgg]) rfl ⟨rfl, (Fr.refl [] w).alloc _⟩
  · have n0 : ((s0.toNat : Int) != 165) = true := by rw [bne_iff_ne]; omega
    clear hno e0
    go_enter Try.func47, Try.ntmps47
    go_wp2
    exact bodyPost_ret (v := .tuple #[.agg noAgg, .bool false]) (by simp [results, Try.results47, go_sem, noAgg]) rfl ⟨rfl, (Fr.refl [] w).alloc _⟩

theorem sub_cells {w : World} {g : Nat} {s : List UInt8} (h : SecAt w g s) (k n : Nat) : ∀ (j : Nat) (u : UInt8), ((s.drop k).take n)[j]? = some u → w.cell? ⟨g, k + j, none⟩ = some (.int .u8 (u.toNat : Int)) := by
  intro j u hu
  refine h.at_ ?_
  rw [List.getElem?_take] at hu
  split at hu
  · rw [List.getElem?_drop] at hu; exact hu
  · cases hu
theorem sub_len {s : List UInt8} (h : s.length = 64) (k n : Nat) (hk : k + n ≤ 64) : ((s.drop k).take n).length = n := by rw [List.length_take, List.length_drop]; omega

set_option maxRecDepth 100000 in
set_option maxHeartbeats 1000000 in
theorem piece_yes {w : World} {g : Nat} {s : List UInt8} {p : Pc} (h : SecAt w g s) (hp : pieceOf s = some p) :
    Calls Try.prog 47 #[secV g] w fun e w' => e = .returned (.tuple #[.agg (pcAgg g p), .bool true]) ∧ Fr [] w w' := by
  have hl := h.2
  obtain ⟨s0, h0⟩ : ∃ s0, s[0]? = some s0 := ⟨_, List.getElem?_eq_getElem (by omega)⟩
  obtain ⟨s1, h1⟩ : ∃ s1, s[1]? = some s1 := ⟨_, List.getElem?_eq_getElem (by omega)⟩
  obtain ⟨s14, h14⟩ : ∃ s14, s[14]? = some s14 := ⟨_, List.getElem?_eq_getElem (by omega)⟩
  have c0 := h.at_ h0; have c1 := h.at_ h1; have c14 := h.at_ h14
  have hg := h.1.lt
  have hyes : s.length = 64 ∧ s.getD 0 0 = 165 ∧ s.getD 1 0 = 90 ∧ (s.getD 14 0).toNat ≤ 48 := by
    unfold pieceOf at hp
    split at hp
    · assumption
    · cases hp
  unfold pieceOf at hp
  rw [if_pos hyes] at hp
  simp only [Option.some.injEq] at hp
  obtain ⟨_, a0, a1, a14⟩ := hyes
  rw [List.getD_eq_getElem?_getD, h0] at a0
  rw [List.getD_eq_getElem?_getD, h1] at a1
  rw [List.getD_eq_getElem?_getD, h14] at a14
  simp only [Option.getD_some] at a0 a1 a14
  have hpb : p.b.length = s14.toNat := by
    rw [← hp, List.getD_eq_getElem?_getD, h14]
    exact sub_len hl 16 _ (by simp only [Option.getD_some]; omega)
  have e0 : s0.toNat = 165 := by rw [a0]; rfl
  have e1 : s1.toNat = 90 := by rw [a1]; rfl
  have n0 : ((s0.toNat : Int) != 165) = false := by rw [bne_eq_false_iff_eq]; omega
  have n1 : ((s1.toNat : Int) != 90) = false := by rw [bne_eq_false_iff_eq]; omega
  have HP := Lib.hid hp; have H := Lib.hid h; have HL := Lib.hid hl; have HPB := Lib.hid hpb; have H14 := Lib.hid h14
  clear hp h hl hpb h0 h1 h14 a0 a1 e0 e1
  unfold secV
  go_enter Try.func47, Try.ntmps47
  go_wp2
  have hub : s14.toNat < 256 := s14.toNat_lt
  have hw1 : IntKind.i64.wrap (s14.toNat : Int) = (s14.toNat : Int) := by rw [IntKind.wrap_i64]; omega
  have hw2 : IntKind.i64.wrap (16 + (s14.toNat : Int)) = 16 + (s14.toNat : Int) := by rw [IntKind.wrap_i64]; omega
  have hw3 : (0 : Int) ≤ 16 + (s14.toNat : Int) ∧ 16 + (s14.toNat : Int) ≤ 64 := by omega
  have hw4 : (16 : Int) ≤ max (16 + (s14.toNat : Int)) 0 := by omega
  have hw5 : (16 + (s14.toNat : Int)).toNat - 16 = s14.toNat := by omega
  have hz : ∀ o : Obj, (w.alloc o).cell? ⟨g, 14, none⟩ = some (.int .u8 (s14.toNat : Int)) := fun o => by rw [World.cell?_alloc_lt _ _ _ (by exact hg)]; exact c14
  have hS0 : ∀ o : Obj, SecAt (w.alloc o) g s := fun o => H.out.fr ((Fr.refl [] w).alloc o) (by simp)
  refine wp_region_K (fun W => W.cell? ⟨g, 14, none⟩ = some (.int .u8 (s14.toNat : Int))) [0, 1, 3, 4, 6, 7, 9, 10, 11, 13, 14, 15, 16, 17, 18, 19, 20] (by kernel_rfl) ?_
  refine wpAnyK_take (i := 0) (some 26) ?vj0 rfl rfl (by kernel_rfl) (fun _ _ _ h => h) (hz _) (.inl ⟨rfl, fun W hW => ?yj0⟩) ?rj0
  case yj0 => go_simp <;> with_reducible rfl
  simp only [Act.put, List.setIfInBounds_toArray, List.set_cons_zero, List.set_cons_succ]
  refine wpAnyK_take (i := 1) (some 27) ?vj1 rfl rfl (by kernel_rfl) (fun _ _ _ h => h) (hz _) (.inl ⟨rfl, fun W hW => ?yj1⟩) ?rj1
  case yj1 => go_simp <;> with_reducible rfl
  simp only [Act.put, List.setIfInBounds_toArray, List.set_cons_zero, List.set_cons_succ]
  refine wpAnyK_take (i := 3) (some 29) ?vj3 rfl rfl (by kernel_rfl) (fun _ _ _ h => h) (hz _) (.inl ⟨rfl, fun W hW => ?yj3⟩) ?rj3
  case yj3 => go_simp <;> with_reducible rfl
  simp only [Act.put, List.setIfInBounds_toArray, List.set_cons_zero, List.set_cons_succ]
  refine wpAnyK_take (i := 4) (some 30) ?vj4 rfl rfl (by kernel_rfl) (fun _ _ _ h => h) (hz _) (.inl ⟨rfl, fun W hW => ?yj4⟩) ?rj4
  case yj4 => go_simp <;> with_reducible rfl
  simp only [Act.put, List.setIfInBounds_toArray, List.set_cons_zero, List.set_cons_succ]
  refine wpAnyK_take (i := 6) (some 32) ?vj6 rfl rfl (by kernel_rfl) (fun _ _ _ h => h) (hz _) (.inl ⟨rfl, fun W hW => ?yj6⟩) ?rj6
  case yj6 => go_simp <;> with_reducible rfl
  simp only [Act.put, List.setIfInBounds_toArray, List.set_cons_zero, List.set_cons_succ]
  refine wpAnyK_take (i := 7) (some 33) ?vj7 rfl rfl (by kernel_rfl) (fun _ _ _ h => h) (hz _) (.inl ⟨rfl, fun W hW => ?yj7⟩) ?rj7
  case yj7 => go_simp <;> with_reducible rfl
  simp only [Act.put, List.setIfInBounds_toArray, List.set_cons_zero, List.set_cons_succ]
  refine wpAnyK_take (i := 10) (some 36) ?vj10 rfl rfl (by kernel_rfl) (fun _ _ _ h => h) (hz _) (.inl ⟨rfl, fun W hW => ?yj10⟩) ?rj10
  case yj10 => go_simp <;> with_reducible rfl
  simp only [Act.put, List.setIfInBounds_toArray, List.set_cons_zero, List.set_cons_succ]
  refine wpAnyK_take (i := 11) (some 37) ?vj11 rfl rfl (by kernel_rfl) (fun _ _ _ h => h) (hz _) (.inl ⟨rfl, fun W hW => ?yj11⟩) ?rj11
  case yj11 => go_simp <;> with_reducible rfl
  simp only [Act.put, List.setIfInBounds_toArray, List.set_cons_zero, List.set_cons_succ]
  refine wpAnyK_take (i := 13) (some 39) ?vj13 rfl rfl (by kernel_rfl) (fun _ _ _ h => h) (hz _) (.inl ⟨rfl, fun W hW => ?yj13⟩) ?rj13
  case yj13 => go_simp <;> with_reducible rfl
  simp only [Act.put, List.setIfInBounds_toArray, List.set_cons_zero, List.set_cons_succ]
  refine wpAnyK_take (i := 14) (some 40) ?vj14 rfl rfl (by kernel_rfl) (fun _ _ _ h => h) (hz _) (.inl ⟨rfl, fun W hW => ?yj14⟩) ?rj14
  case yj14 => go_simp <;> with_reducible rfl
  simp only [Act.put, List.setIfInBounds_toArray, List.set_cons_zero, List.set_cons_succ]
  refine wpAnyK_take (i := 15) (some 41) ?vj15 rfl rfl (by kernel_rfl) (fun _ _ _ h => h) (hz _) (.inl ⟨rfl, fun W hW => ?yj15⟩) ?rj15
  case yj15 => go_simp <;> with_reducible rfl
  simp only [Act.put, List.setIfInBounds_toArray, List.set_cons_zero, List.set_cons_succ]
  refine wpAnyK_take (i := 16) (some 42) ?vj16 rfl rfl (by kernel_rfl) (fun _ _ _ h => h) (hz _) (.inl ⟨rfl, fun W hW => ?yj16⟩) ?rj16
  case yj16 => go_simp <;> with_reducible rfl
  simp only [Act.put, List.setIfInBounds_toArray, List.set_cons_zero, List.set_cons_succ]
  refine wpAnyK_take (i := 17) (some 43) ?vj17 rfl rfl (by kernel_rfl) (fun _ _ _ h => h) (hz _) (.inl ⟨rfl, fun W hW => ?yj17⟩) ?rj17
  case yj17 => go_simp <;> with_reducible rfl
  simp only [Act.put, List.setIfInBounds_toArray, List.set_cons_zero, List.set_cons_succ]
  refine wpAnyK_take (i := 18) (some 44) ?vj18 rfl rfl (by kernel_rfl) (fun _ _ _ h => h) (hz _) (.inl ⟨rfl, fun W hW => ?yj18⟩) ?rj18
  case yj18 => go_simp <;> with_reducible rfl
  simp only [Act.put, List.setIfInBounds_toArray, List.set_cons_zero, List.set_cons_succ]
  refine wpAnyK_take (i := 19) (some 45) ?vj19 rfl rfl (by kernel_rfl) (fun _ _ _ h => h) (hz _) (.inl ⟨rfl, fun W hW => ?yj19⟩) ?rj19
  case yj19 => go_simp <;> with_reducible rfl
  simp only [Act.put, List.setIfInBounds_toArray, List.set_cons_zero, List.set_cons_succ]
  have hS0' : ∀ o : Obj, SecAt ((w.alloc o).drew) g s := fun o => H.out.fr (((Fr.refl [] w).alloc o).drew) (by simp)
  have hF0 : ∀ o : Obj, Fr [] w ((w.alloc o).drew) := fun o => ((Fr.refl [] w).alloc o).drew
  refine wpAnyK_step (j := 2) (some 28) rfl rfl (by kernel_rfl) rfl fun K hK => ?_
  refine wp_call_f (l := [.tmp 27]) rfl [.slice (some ⟨g, 2, none⟩) 62 62] rfl (enter_word _) ((word_any (l := (s.drop 2).take 4) (sub_len HL.out 2 4 (by omega)) (by omega) (by omega) (sub_cells (hS0' _) 2 4)).mono ?_)
  rintro e w1 ⟨rfl, rfl⟩
  refine ⟨_, rfl, hK _ _ (fun _ => SecAt.at_ (hS0' _) H14.out) ?_⟩
  simp only [Act.put, List.setIfInBounds_toArray, List.set_cons_zero, List.set_cons_succ]
  refine wpAnyK_step (j := 5) (some 31) rfl rfl (by kernel_rfl) rfl fun K hK => ?_
  refine wp_call_f (l := [.tmp 30]) rfl [.slice (some ⟨g, 6, none⟩) 58 58] rfl (enter_word _) ((word_any (l := (s.drop 6).take 4) (sub_len HL.out 6 4 (by omega)) (by omega) (by omega) (sub_cells (hS0' _) 6 4)).mono ?_)
  rintro e w1 ⟨rfl, rfl⟩
  refine ⟨_, rfl, hK _ _ (fun _ => SecAt.at_ (hS0' _) H14.out) ?_⟩
  simp only [Act.put, List.setIfInBounds_toArray, List.set_cons_zero, List.set_cons_succ]
  refine wpAnyK_step (j := 8) (some 34) rfl rfl (by kernel_rfl) rfl fun K hK => ?_
  refine wp_call_f (l := [.tmp 33]) rfl [.slice (some ⟨g, 12, none⟩) 52 52] rfl (enter_half _) ((half_any (l := (s.drop 12).take 2) (sub_len HL.out 12 2 (by omega)) (by omega) (sub_cells (hS0' _) 12 2)).mono ?_)
  rintro e w1 ⟨rfl, m1, rfl⟩
  refine ⟨_, rfl, hK _ _ (fun _ => SecAt.at_ ((hS0' _).fr ((Fr.refl [] _).drewN m1) (by simp)) H14.out) ?_⟩
  simp only [Act.put, List.setIfInBounds_toArray, List.set_cons_zero, List.set_cons_succ]
  refine wpAnyK_take (i := 9) (some 35) ?vj9 rfl rfl (by kernel_rfl) (fun _ _ _ h => h) (SecAt.at_ ((hS0' _).fr ((Fr.refl [] _).drewN m1) (by simp)) H14.out) (.inl ⟨rfl, fun W hW => ?yj9⟩) ?rj9
  case yj9 => go_simp <;> with_reducible rfl
  simp only [Act.put, List.setIfInBounds_toArray, List.set_cons_zero, List.set_cons_succ]
  refine wpAnyK_step (j := 12) (some 38) rfl rfl (by kernel_rfl) rfl fun K hK => ?_
  refine wp_call_f (l := [.tmp 37]) rfl [.slice (some ⟨g, 10, none⟩) 54 54] rfl (enter_half _) ((half_any (l := (s.drop 10).take 2) (sub_len HL.out 10 2 (by omega)) (by omega) (sub_cells ((hS0' _).fr ((Fr.refl [] _).drewN m1) (by simp)) 10 2)).mono ?_)
  rintro e w1 ⟨rfl, m2, rfl⟩
  refine ⟨_, rfl, hK _ _ (fun _ => SecAt.at_ (((hS0' _).fr ((Fr.refl [] _).drewN m1) (by simp)).fr ((Fr.refl [] _).drewN m2) (by simp)) H14.out) ?_⟩
  simp only [Act.put, List.setIfInBounds_toArray, List.set_cons_zero, List.set_cons_succ]
  refine wpAnyK_take (i := 20) (some 46) ?vj20 rfl rfl (by kernel_rfl) (fun _ _ _ h => h) (SecAt.at_ (((hS0' _).fr ((Fr.refl [] _).drewN m1) (by simp)).fr ((Fr.refl [] _).drewN m2) (by simp)) H14.out) (.inl ⟨rfl, fun W hW => ?yj20⟩) ?rj20
  case yj20 => go_simp <;> with_reducible rfl
  simp only [Act.put, List.setIfInBounds_toArray, List.set_cons_zero, List.set_cons_succ]
  refine wpAnyK_step (j := 21) none rfl rfl (by kernel_rfl) rfl fun K hK => ?_
  have ep := HP.out
  subst ep
  have hsz := Lib.hid HPB.out
  refine wp_store_row 96 (.tmp 2) (.tmp 46) rfl [.int .u32 ((wordOf ((s.drop 2).take 4) : Nat) : Int), .int .u32 ((wordOf ((s.drop 6).take 4) : Nat) : Int), .int .i64 ((wordOf ((s.drop 12).take 2) : Nat) : Int), .int .i64 ((wordOf ((s.drop 10).take 2) : Nat) : Int), .slice (some ⟨g, 16, none⟩) s14.toNat 48] rfl rfl ((Blk.new w _ _).fr ((((Fr.refl [] _).drew).drewN m1).drewN m2) (by simp)) (by kernel_rfl) rfl (by simp [Value.oneCell']) (hK _ _ (fun h => absurd h (by decide +kernel)) ?_)
  simp only [Act.put]
  refine wpAnyK_step (j := 22) (some 3) rfl rfl (by kernel_rfl) rfl fun K hK => ?_
  refine wp_run_value (v := .bool true) (w' := _) rfl (hK _ _ (fun h => absurd h (by decide +kernel)) ?_)
  simp only [Act.put, List.setIfInBounds_toArray, List.set_cons_zero, List.set_cons_succ]
  refine wpAnyK_done (by kernel_rfl) ?_ _
  have hbF := (((Blk.new w 96 [.int .u32 0, .int .u32 0, .int .i64 0, .int .i64 0, .slice none 0 0]).fr ((((Fr.refl [] _).drew).drewN m1).drewN m2) (by simp))).row_ [.int .u32 ((wordOf ((s.drop 2).take 4) : Nat) : Int), .int .u32 ((wordOf ((s.drop 6).take 4) : Nat) : Int), .int .i64 ((wordOf ((s.drop 12).take 2) : Nat) : Int), .int .i64 ((wordOf ((s.drop 10).take 2) : Nat) : Int), .slice (some ⟨g, 16, none⟩) s14.toNat 48]
  have hfF := Lib.hid (((((hF0 (.cells #[.int .u32 0, .int .u32 0, .int .i64 0, .int .i64 0, .slice none 0 0] 96)).drewN m1).drewN m2).setRow (.inr (Nat.le_refl _))) #[.int .u32 ((wordOf ((s.drop 2).take 4) : Nat) : Int), .int .u32 ((wordOf ((s.drop 6).take 4) : Nat) : Int), .int .i64 ((wordOf ((s.drop 12).take 2) : Nat) : Int), .int .i64 ((wordOf ((s.drop 10).take 2) : Nat) : Int), .slice (some ⟨g, 16, none⟩) s14.toNat 48])
  have d0 := hbF.at_ (i := 0) rfl
  have d1 := hbF.at_ (i := 1) rfl
  have d2 := hbF.at_ (i := 2) rfl
  have d3 := hbF.at_ (i := 3) rfl
  have d4 := hbF.at_ (i := 4) rfl
  have HB := Lib.hid hbF; clear hbF
  revert d0 d1 d2 d3 d4 hfF HB
  generalize World.setRow _ _ _ = wf
  intro hfF d0 d1 d2 d3 d4 HB
  go_wp2
  refine bodyPost_ret (v := .tuple #[.agg (pcAgg g _), .bool true]) ?_ rfl ⟨rfl, hfF.out⟩
  simp [results, Try.results47, go_sem, d0, d1, d2, d3, d4, pcAgg]
  refine Eq.trans hsz.out.symm ?_
  simp [List.getElem?_eq_getElem (show 14 < s.length by have := HL.out; omega)]

/-- Every sector: a piece or none. -/
theorem piece_any {w : World} {g : Nat} {s : List UInt8} (h : SecAt w g s) :
    Calls Try.prog 47 #[secV g] w fun e w' => e = .returned (pieceV g s) ∧ Fr [] w w' := by
  unfold pieceV
  cases hp : pieceOf s with
  | none => exact piece_no h hp
  | some p => exact piece_yes h hp

end Go.Proofs.Ytidpleejgalljaa
