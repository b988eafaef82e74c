/-
  Joined by join.py: Jb Jc Jd
-/
import Derived.Test.YtpjbdpepofnleaaGreatJpl2
set_option maxRecDepth 100000
set_option maxHeartbeats 32000000
namespace Go.Proofs.YtpjbdpepofnleaaGreat
section
open Go.RowKit
theorem enter_word (vs : Array Value) (w : World) : (callFunc 132 vs).run Tryz.prog w = .ok (.enter 132 vs) w := by kernel_rfl
theorem enter_half (vs : Array Value) (w : World) : (callFunc 133 vs).run Tryz.prog w = .ok (.enter 133 vs) w := by kernel_rfl
def SecAt (w : World) (g : Nat) (s : List UInt8) : Prop := Blk w g 5 (bcells s) /\ s.length = 64
def secV (g : Nat) : Value := .slice (some ⟨g, 0, none⟩) 64 64
def pcAgg (g : Nat) (p : Pc) : Array Value := #[.int .u32 (p.st.session : Int), .int .u32 (p.st.number : Int), .int .i64 (p.st.count : Int), .int .i64 (p.place : Int), .slice (some ⟨g, 16, none⟩) p.b.length 48]
def noAgg : Array Value := #[.int .u32 0, .int .u32 0, .int .i64 0, .int .i64 0, .slice none 0 0]
def pieceV (g : Nat) (s : List UInt8) : Value :=
 match pieceOf s with
 | some p => .tuple #[.agg (pcAgg g p), .bool true]
 | none => .tuple #[.agg noAgg, .bool false]
theorem SecAt.at_ {w : World} {g : Nat} {s : List UInt8} (h : SecAt w g s) {j : Nat} {u : UInt8} (hu : s[j]? = some u) : w.cell? ⟨g, j, none⟩ = some (.int .u8 (u.toNat : Int)) := h.1.at_ (by rw [bcells_at, hu]; rfl)
theorem SecAt.fr {S : List Nat} {w w' : World} {g : Nat} {s : List UInt8} (h : SecAt w g s) (hf : Fr S w w') (hg : g ∉ S) : SecAt w' g s := ⟨h.1.fr hf hg, h.2⟩
theorem piece_no {w : World} {g : Nat} {s : List UInt8} (h : SecAt w g s) (hp : pieceOf s = none) :
  Calls Tryz.prog 117 #[secV g] w fun e w' => e = .returned (.tuple #[.agg noAgg, .bool false]) /\ Fr [] w w' := by
 have hl := h.2; obtain ⟨s0, h0⟩ : ∃ s0, s[0]? = some s0 := gx (by omega); obtain ⟨s1, h1⟩ : ∃ s1, s[1]? = some s1 := gx (by omega); obtain ⟨s14, h14⟩ : ∃ s14, s[14]? = some s14 := gx (by omega); have c0 := h.at_ h0; have c1 := h.at_ h1; have c14 := h.at_ h14; have hg := h.1.lt
 have hno : ¬ (s0.toNat = 165 /\ s1.toNat = 90 /\ s14.toNat <= 48) := by
  rintro ⟨a, b, c⟩; unfold pieceOf at hp; rw [if_pos ⟨hl, by rw [List.getD_eq_getElem?_getD, h0]; exact UInt8.toNat_inj.1 a, by rw [List.getD_eq_getElem?_getD, h1]; exact UInt8.toNat_inj.1 b, by rw [List.getD_eq_getElem?_getD, h14]; exact c⟩] at hp
  cases hp
 clear hp h h0 h1 h14 hl; unfold secV
 by_cases e0 : s0.toNat = 165
 ·have n0 : ((s0.toNat : Int) != 165) = false := by rw [bne_eq_false_iff_eq]; omega
  by_cases e1 : s1.toNat = 90
  ·have n1 : ((s1.toNat : Int) != 90) = false := by rw [bne_eq_false_iff_eq]; omega
   have e14 : 48 < s14.toNat := by omega
   clear hno e0 e1
   go_enter Tryz.func117, Tryz.ntmps117
   go_wp2
   exact bodyPost_ret (v := .tuple #[.agg noAgg, .bool false]) (by simp [results, Tryz.results117, go_sem, noAgg]) rfl ⟨rfl, (Fr.refl [] w).alloc _⟩
  ·have n1 : ((s1.toNat : Int) != 90) = true := by rw [bne_iff_ne]; omega
   clear hno e0 e1
   go_enter Tryz.func117, Tryz.ntmps117
   go_wp2
   exact bodyPost_ret (v := .tuple #[.agg noAgg, .bool false]) (by simp [results, Tryz.results117, go_sem, noAgg]) rfl ⟨rfl, (Fr.refl [] w).alloc _⟩
 ·have n0 : ((s0.toNat : Int) != 165) = true := by rw [bne_iff_ne]; omega
  clear hno e0
  go_enter Tryz.func117, Tryz.ntmps117
  go_wp2
  exact bodyPost_ret (v := .tuple #[.agg noAgg, .bool false]) (by simp [results, Tryz.results117, go_sem, noAgg]) rfl ⟨rfl, (Fr.refl [] w).alloc _⟩
theorem sub_cells {w : World} {g : Nat} {s : List UInt8} (h : SecAt w g s) (k n : Nat) : ∀ (j : Nat) (u : UInt8), ((s.drop k).take n)[j]? = some u -> w.cell? ⟨g, k + j, none⟩ = some (.int .u8 (u.toNat : Int)) := by
 intro j u hu; refine h.at_ ?_; rw [List.getElem?_take] at hu
 split at hu
 ·rw [List.getElem?_drop] at hu; exact hu
 ·cases hu
theorem sub_len {s : List UInt8} (h : s.length = 64) (k n : Nat) (hk : k + n <= 64) : ((s.drop k).take n).length = n := by rw [List.length_take, List.length_drop]; omega
theorem piece_yes {w : World} {g : Nat} {s : List UInt8} {p : Pc} (h : SecAt w g s) (hp : pieceOf s = some p) :
  Calls Tryz.prog 117 #[secV g] w fun e w' => e = .returned (.tuple #[.agg (pcAgg g p), .bool true]) /\ Fr [] w w' := by
 have hl := h.2; obtain ⟨s0, h0⟩ : ∃ s0, s[0]? = some s0 := gx (by omega); obtain ⟨s1, h1⟩ : ∃ s1, s[1]? = some s1 := gx (by omega); obtain ⟨s14, h14⟩ : ∃ s14, s[14]? = some s14 := gx (by omega); have c0 := h.at_ h0; have c1 := h.at_ h1; have c14 := h.at_ h14; have hg := h.1.lt
 have hyes : s.length = 64 /\ s.getD 0 0 = 165 /\ s.getD 1 0 = 90 /\ (s.getD 14 0).toNat <= 48 := by
  unfold pieceOf at hp
  split at hp
  ·assumption
  ·cases hp
 unfold pieceOf at hp; rw [if_pos hyes] at hp; simp only [Option.some.injEq] at hp; obtain ⟨_, a0, a1, a14⟩ := hyes; rw [List.getD_eq_getElem?_getD, h0] at a0; rw [List.getD_eq_getElem?_getD, h1] at a1; rw [List.getD_eq_getElem?_getD, h14] at a14; simp only [Option.getD_some] at a0 a1 a14
 have hpb : p.b.length = s14.toNat := by
  rw [<- hp, List.getD_eq_getElem?_getD, h14]; exact sub_len hl 16 _ (by simp only [Option.getD_some]; omega)
 have e0 : s0.toNat = 165 := by rw [a0]; rfl
 have e1 : s1.toNat = 90 := by rw [a1]; rfl
 have n0 : ((s0.toNat : Int) != 165) = false := by rw [bne_eq_false_iff_eq]; omega
 have n1 : ((s1.toNat : Int) != 90) = false := by rw [bne_eq_false_iff_eq]; omega
 have HP := lh hp; have H := lh h; have HL := lh hl; have HPB := lh hpb; have H14 := lh h14; clear hp h hl hpb h0 h1 h14 a0 a1 e0 e1; unfold secV
 go_enter Tryz.func117, Tryz.ntmps117
 go_wp2
 have hub : s14.toNat < 256 := s14.toNat_lt; have hw1 : IntKind.i64.wrap (s14.toNat : Int) = (s14.toNat : Int) := by rw [IntKind.wrap_i64]; omega
 have hw2 : IntKind.i64.wrap (16 + (s14.toNat : Int)) = 16 + (s14.toNat : Int) := by rw [IntKind.wrap_i64]; omega
 have hw3 : (0 : Int) <= 16 + (s14.toNat : Int) /\ 16 + (s14.toNat : Int) <= 64 := by omega
 have hw4 : (16 : Int) <= max (16 + (s14.toNat : Int)) 0 := by omega
 have hw5 : (16 + (s14.toNat : Int)).toNat - 16 = s14.toNat := by omega
 have hz : ∀ o : Obj, (w.alloc o).cell? ⟨g, 14, none⟩ = some (.int .u8 (s14.toNat : Int)) := fun o => by rw [World.cell?_alloc_lt _ _ _ (by exact hg)]; exact c14
 have hS0 : ∀ o : Obj, SecAt (w.alloc o) g s := fun o => H.out.fr ((Fr.refl [] w).alloc o) (by simp); refine wp_region_K (fun W => W.cell? ⟨g, 14, none⟩ = some (.int .u8 (s14.toNat : Int))) [0, 1, 3, 4, 6, 7, 9, 10, 11, 13, 14, 15, 16, 17, 18, 19, 20] (by kernel_rfl) ?_; refine wpAnyK_take (i := 0) (some 26) ?vj0 rfl rfl (by kernel_rfl) (fun _ _ _ h => h) (hz _) (.inl ⟨rfl, fun W hW => ?yj0⟩) ?rj0
 case yj0 => go_simp <;> with_reducible rfl
 simp only [nrm]; refine wpAnyK_take (i := 1) (some 27) ?vj1 rfl rfl (by kernel_rfl) (fun _ _ _ h => h) (hz _) (.inl ⟨rfl, fun W hW => ?yj1⟩) ?rj1
 case yj1 => go_simp <;> with_reducible rfl
 simp only [nrm]; refine wpAnyK_take (i := 3) (some 29) ?vj3 rfl rfl (by kernel_rfl) (fun _ _ _ h => h) (hz _) (.inl ⟨rfl, fun W hW => ?yj3⟩) ?rj3
 case yj3 => go_simp <;> with_reducible rfl
 simp only [nrm]; refine wpAnyK_take (i := 4) (some 30) ?vj4 rfl rfl (by kernel_rfl) (fun _ _ _ h => h) (hz _) (.inl ⟨rfl, fun W hW => ?yj4⟩) ?rj4
 case yj4 => go_simp <;> with_reducible rfl
 simp only [nrm]; refine wpAnyK_take (i := 6) (some 32) ?vj6 rfl rfl (by kernel_rfl) (fun _ _ _ h => h) (hz _) (.inl ⟨rfl, fun W hW => ?yj6⟩) ?rj6
 case yj6 => go_simp <;> with_reducible rfl
 simp only [nrm]; refine wpAnyK_take (i := 7) (some 33) ?vj7 rfl rfl (by kernel_rfl) (fun _ _ _ h => h) (hz _) (.inl ⟨rfl, fun W hW => ?yj7⟩) ?rj7
 case yj7 => go_simp <;> with_reducible rfl
 simp only [nrm]; refine wpAnyK_take (i := 10) (some 36) ?vj10 rfl rfl (by kernel_rfl) (fun _ _ _ h => h) (hz _) (.inl ⟨rfl, fun W hW => ?yj10⟩) ?rj10
 case yj10 => go_simp <;> with_reducible rfl
 simp only [nrm]; refine wpAnyK_take (i := 11) (some 37) ?vj11 rfl rfl (by kernel_rfl) (fun _ _ _ h => h) (hz _) (.inl ⟨rfl, fun W hW => ?yj11⟩) ?rj11
 case yj11 => go_simp <;> with_reducible rfl
 simp only [nrm]; refine wpAnyK_take (i := 13) (some 39) ?vj13 rfl rfl (by kernel_rfl) (fun _ _ _ h => h) (hz _) (.inl ⟨rfl, fun W hW => ?yj13⟩) ?rj13
 case yj13 => go_simp <;> with_reducible rfl
 simp only [nrm]; refine wpAnyK_take (i := 14) (some 40) ?vj14 rfl rfl (by kernel_rfl) (fun _ _ _ h => h) (hz _) (.inl ⟨rfl, fun W hW => ?yj14⟩) ?rj14
 case yj14 => go_simp <;> with_reducible rfl
 simp only [nrm]; refine wpAnyK_take (i := 15) (some 41) ?vj15 rfl rfl (by kernel_rfl) (fun _ _ _ h => h) (hz _) (.inl ⟨rfl, fun W hW => ?yj15⟩) ?rj15
 case yj15 => go_simp <;> with_reducible rfl
 simp only [nrm]; refine wpAnyK_take (i := 16) (some 42) ?vj16 rfl rfl (by kernel_rfl) (fun _ _ _ h => h) (hz _) (.inl ⟨rfl, fun W hW => ?yj16⟩) ?rj16
 case yj16 => go_simp <;> with_reducible rfl
 simp only [nrm]; refine wpAnyK_take (i := 17) (some 43) ?vj17 rfl rfl (by kernel_rfl) (fun _ _ _ h => h) (hz _) (.inl ⟨rfl, fun W hW => ?yj17⟩) ?rj17
 case yj17 => go_simp <;> with_reducible rfl
 simp only [nrm]; refine wpAnyK_take (i := 18) (some 44) ?vj18 rfl rfl (by kernel_rfl) (fun _ _ _ h => h) (hz _) (.inl ⟨rfl, fun W hW => ?yj18⟩) ?rj18
 case yj18 => go_simp <;> with_reducible rfl
 simp only [nrm]; refine wpAnyK_take (i := 19) (some 45) ?vj19 rfl rfl (by kernel_rfl) (fun _ _ _ h => h) (hz _) (.inl ⟨rfl, fun W hW => ?yj19⟩) ?rj19
 case yj19 => go_simp <;> with_reducible rfl
 simp only [nrm]; have hS0' : ∀ o : Obj, SecAt ((w.alloc o).drew) g s := fun o => H.out.fr (((Fr.refl [] w).alloc o).drew) (by simp); have hF0 : ∀ o : Obj, Fr [] w ((w.alloc o).drew) := fun o => ((Fr.refl [] w).alloc o).drew; refine sp 2 rfl rfl rfl fun K hK => ?_; refine wp_call_f (l := [.tmp 27]) rfl [.slice (some ⟨g, 2, none⟩) 62 62] rfl (enter_word _) ((word_any (l := (s.drop 2).take 4) (sub_len HL.out 2 4 (by omega)) (by omega) (by omega) (sub_cells (hS0' _) 2 4)).mono ?_); rintro e w1 ⟨rfl, rfl⟩; refine ⟨_, rfl, hK _ _ (fun _ => SecAt.at_ (hS0' _) H14.out) ?_⟩; simp only [nrm]; refine sp 5 rfl rfl rfl fun K hK => ?_; refine wp_call_f (l := [.tmp 30]) rfl [.slice (some ⟨g, 6, none⟩) 58 58] rfl (enter_word _) ((word_any (l := (s.drop 6).take 4) (sub_len HL.out 6 4 (by omega)) (by omega) (by omega) (sub_cells (hS0' _) 6 4)).mono ?_); rintro e w1 ⟨rfl, rfl⟩; refine ⟨_, rfl, hK _ _ (fun _ => SecAt.at_ (hS0' _) H14.out) ?_⟩; simp only [nrm]; refine sp 8 rfl rfl rfl fun K hK => ?_; refine wp_call_f (l := [.tmp 33]) rfl [.slice (some ⟨g, 12, none⟩) 52 52] rfl (enter_half _) ((half_any (l := (s.drop 12).take 2) (sub_len HL.out 12 2 (by omega)) (by omega) (sub_cells (hS0' _) 12 2)).mono ?_); rintro e w1 ⟨rfl, m1, rfl⟩; refine ⟨_, rfl, hK _ _ (fun _ => SecAt.at_ ((hS0' _).fr ((Fr.refl [] _).drewN m1) (by simp)) H14.out) ?_⟩; simp only [nrm]; refine wpAnyK_take (i := 9) (some 35) ?vj9 rfl rfl (by kernel_rfl) (fun _ _ _ h => h) (SecAt.at_ ((hS0' _).fr ((Fr.refl [] _).drewN m1) (by simp)) H14.out) (.inl ⟨rfl, fun W hW => ?yj9⟩) ?rj9
 case yj9 => go_simp <;> with_reducible rfl
 simp only [nrm]; refine sp 12 rfl rfl rfl fun K hK => ?_; refine wp_call_f (l := [.tmp 37]) rfl [.slice (some ⟨g, 10, none⟩) 54 54] rfl (enter_half _) ((half_any (l := (s.drop 10).take 2) (sub_len HL.out 10 2 (by omega)) (by omega) (sub_cells ((hS0' _).fr ((Fr.refl [] _).drewN m1) (by simp)) 10 2)).mono ?_); rintro e w1 ⟨rfl, m2, rfl⟩; refine ⟨_, rfl, hK _ _ (fun _ => SecAt.at_ (((hS0' _).fr ((Fr.refl [] _).drewN m1) (by simp)).fr ((Fr.refl [] _).drewN m2) (by simp)) H14.out) ?_⟩; simp only [nrm]; refine wpAnyK_take (i := 20) (some 46) ?vj20 rfl rfl (by kernel_rfl) (fun _ _ _ h => h) (SecAt.at_ (((hS0' _).fr ((Fr.refl [] _).drewN m1) (by simp)).fr ((Fr.refl [] _).drewN m2) (by simp)) H14.out) (.inl ⟨rfl, fun W hW => ?yj20⟩) ?rj20
 case yj20 => go_simp <;> with_reducible rfl
 simp only [nrm]; refine wpAnyK_step (j := 21) none rfl rfl (by kernel_rfl) rfl fun K hK => ?_; have ep := HP.out; subst ep; have hsz := lh HPB.out; refine wp_store_row 190 (.tmp 2) (.tmp 46) rfl [.int .u32 ((wordOf ((s.drop 2).take 4) : Nat) : Int), .int .u32 ((wordOf ((s.drop 6).take 4) : Nat) : Int), .int .i64 ((wordOf ((s.drop 12).take 2) : Nat) : Int), .int .i64 ((wordOf ((s.drop 10).take 2) : Nat) : Int), .slice (some ⟨g, 16, none⟩) s14.toNat 48] rfl rfl ((Blk.new w _ _).fr ((((Fr.refl [] _).drew).drewN m1).drewN m2) (by simp)) (by kernel_rfl) rfl (by simp [Value.oneCell']) (hK _ _ (fun h => absurd h (by decide +kernel)) ?_); simp only [Act.put]; refine sp 22 rfl rfl rfl fun K hK => ?_; refine wp_run_value (v := .bool true) (w' := _) rfl (hK _ _ (fun h => absurd h (by decide +kernel)) ?_); simp only [nrm]; refine wd ?_ _; have hbF := (((Blk.new w 190 [.int .u32 0, .int .u32 0, .int .i64 0, .int .i64 0, .slice none 0 0]).fr ((((Fr.refl [] _).drew).drewN m1).drewN m2) (by simp))).row_ [.int .u32 ((wordOf ((s.drop 2).take 4) : Nat) : Int), .int .u32 ((wordOf ((s.drop 6).take 4) : Nat) : Int), .int .i64 ((wordOf ((s.drop 12).take 2) : Nat) : Int), .int .i64 ((wordOf ((s.drop 10).take 2) : Nat) : Int), .slice (some ⟨g, 16, none⟩) s14.toNat 48]; have hfF := lh (((((hF0 (.cells #[.int .u32 0, .int .u32 0, .int .i64 0, .int .i64 0, .slice none 0 0] 190)).drewN m1).drewN m2).setRow (.inr (Nat.le_refl _))) #[.int .u32 ((wordOf ((s.drop 2).take 4) : Nat) : Int), .int .u32 ((wordOf ((s.drop 6).take 4) : Nat) : Int), .int .i64 ((wordOf ((s.drop 12).take 2) : Nat) : Int), .int .i64 ((wordOf ((s.drop 10).take 2) : Nat) : Int), .slice (some ⟨g, 16, none⟩) s14.toNat 48]); have d0 := hbF.at_ (i := 0) rfl; have d1 := hbF.at_ (i := 1) rfl; have d2 := hbF.at_ (i := 2) rfl; have d3 := hbF.at_ (i := 3) rfl; have d4 := hbF.at_ (i := 4) rfl; have HB := lh hbF; clear hbF
 revert d0 d1 d2 d3 d4 hfF HB
 generalize World.setRow _ _ _ = wf; intro hfF d0 d1 d2 d3 d4 HB
 go_wp2
 refine bodyPost_ret (v := .tuple #[.agg (pcAgg g _), .bool true]) ?_ rfl ⟨rfl, hfF.out⟩
 simp [results, Tryz.results117, go_sem, d0, d1, d2, d3, d4, pcAgg]
 refine Eq.trans hsz.out.symm ?_
 simp [List.getElem?_eq_getElem (show 14 < s.length by have := HL.out; omega)]
theorem piece_any {w : World} {g : Nat} {s : List UInt8} (h : SecAt w g s) :
  Calls Tryz.prog 117 #[secV g] w fun e w' => e = .returned (pieceV g s) /\ Fr [] w w' := by
 unfold pieceV
 cases hp : pieceOf s with
 | none => exact piece_no h hp
 | some p => exact piece_yes h hp
def wRound (p : Pc) : Nat -> List UInt8
 | 0 => 165 :: 90 :: List.replicate 62 0
 | k + 1 => ((wRound p k).set (2 + k) (byteAt p.st.session (3 - k))).set (6 + k) (byteAt p.st.number (3 - k))
theorem bcells_set (l : List UInt8) (i : Nat) (c : UInt8) : bcells (l.set i c) = (bcells l).set i (B8 c) := by simp [bcells, List.map_set]
theorem wRound_len (p : Pc) : ∀ k, (wRound p k).length = 64
 | 0 => by simp [wRound]
 | k + 1 => by simp [wRound, wRound_len p k]
theorem byte_of (n k : Nat) : ((byteAt n k).toNat : Int) = ((n : Int) / 256 ^ k) % 256 := by simp [byteAt]
def pcCells (p : Pc) (sv : Value) : List Value := [.int .u32 (p.st.session : Int), .int .u32 (p.st.number : Int), .int .i64 (p.st.count : Int), .int .i64 (p.place : Int), sv]
def WrRel (w : World) (p : Pc) (sv : Value) (i : Value) (wr : World) : Prop :=
 ∃ k : Nat, k <= 4 /\ i = .int .i64 k /\ Blk wr (w.heap.size + 1) 5 (bcells (wRound p k)) /\ Blk wr w.heap.size 190 (pcCells p sv) /\ Fr [] w wr
theorem wr_step {w wr : World} {p : Pc} {sv : Value} {x y : Int} (k : Nat) (hk : k < 4) (hb1 : Blk wr (w.heap.size + 1) 5 (bcells (wRound p k))) (hb2 : Blk wr w.heap.size 190 (pcCells p sv)) (hf : Fr [] w wr)
  (hx : x = ((byteAt p.st.session (3 - k)).toNat : Int)) (hy : y = ((byteAt p.st.number (3 - k)).toNat : Int)) :
  WrRel w p sv (.int .i64 ((k + 1 : Nat) : Int)) ((wr.setCell ⟨w.heap.size + 1, 2 + k, none⟩ (.int .u8 x)).setCell ⟨w.heap.size + 1, 6 + k, none⟩ (.int .u8 y)) := by
 subst hx hy; refine ⟨k + 1, by omega, rfl, ?_, (hb2.far (by show _ ≠ _; simp) _).far (by show _ ≠ _; simp) _, (hf.setCell (.inr (Nat.le_succ _)) _).setCell (.inr (Nat.le_succ _)) _⟩; have := (hb1.set_ (2 + k) (B8 (byteAt p.st.session (3 - k)))).set_ (6 + k) (B8 (byteAt p.st.number (3 - k))); rw [<- bcells_set, <- bcells_set] at this; exact this
def hcells (l : List UInt8) (x10 x11 x12 x13 x14 : Int) : List Value := (((((bcells l).set 10 (.int .u8 x10)).set 11 (.int .u8 x11)).set 12 (.int .u8 x12)).set 13 (.int .u8 x13)).set 14 (.int .u8 x14)
theorem hcells_len (l : List UInt8) (hl : l.length = 64) (x10 x11 x12 x13 x14 : Int) : (hcells l x10 x11 x12 x13 x14).length = 64 := by simp [hcells, bcells_len, hl]
theorem hcells_eq (p : Pc) {x10 x11 x12 x13 x14 : Int} (h10 : x10 = ((byteAt p.place 1).toNat : Int)) (h11 : x11 = ((byteAt p.place 0).toNat : Int)) (h12 : x12 = ((byteAt p.st.count 1).toNat : Int)) (h13 : x13 = ((byteAt p.st.count 0).toNat : Int)) (h14 : x14 = ((UInt8.ofNat p.b.length).toNat : Int)) :
  (hcells (wRound p 4) x10 x11 x12 x13 x14).take 16 ++ bcells p.b = bcells (writtenOf p) := by
 subst h10 h11 h12 h13 h14
 simp [hcells, wRound, bcells, writtenOf, B8]
theorem BytesAt.of_own {w : World} {g n c : Nat} {bs : List UInt8} (h : w.ownsRow 0 5 1 (.slice (some ⟨g, 0, none⟩) n c) n (bcells bs)) : BytesAt w (.slice (some ⟨g, 0, none⟩) n c) bs g := by
 have hn : bs.length = n := by have := h.1; rw [bcells_len] at this; omega
 obtain ⟨a, c', hv, hc, _⟩ := own_shape h; injection hv with _ _ hcc; subst hcc; subst hn; refine ⟨_, _, 0, rfl, hc, fun h0 => ⟨rfl, fun j u hu => ?_⟩⟩; obtain ⟨g', hg', hc'⟩ := own_cell h h0; simp only [Option.some.injEq, Addr.mk.injEq] at hg'; rw [Nat.zero_add, hg'.1]; exact hc' j u hu
theorem own_part {w : World} {g n : Nat} {cs : List Value} (h : Blk w g 5 cs) (hn : n <= cs.length) (hm : cs.length <= maxLen) : w.ownsRow 0 5 1 (.slice (some ⟨g, 0, none⟩) n cs.length) n (cs.take n) :=
 ⟨by rw [List.length_take]; omega, .inr ⟨g, cs.length, cs.toArray, rfl, Nat.zero_le _, h, hn, hm, by simp, by simp⟩⟩
theorem own_part64 {w : World} {g : Nat} {l : List UInt8} {x10 x11 x12 x13 x14 : Int} (hl : l.length = 64) (h : Blk w g 5 (hcells l x10 x11 x12 x13 x14)) : w.ownsRow 0 5 1 (.slice (some ⟨g, 0, none⟩) 16 64) 16 ((hcells l x10 x11 x12 x13 x14).take 16) := by
 have := own_part (n := 16) h (by rw [hcells_len l hl]; omega) (by rw [hcells_len l hl]; unfold maxLen; omega); rw [hcells_len l hl] at this; exact this
theorem wr_end {w : World} {p : Pc} {g : Nat} {l : List UInt8} {x10 x11 x12 x13 x14 : Int} (hl : l = wRound p 4) (h : Blk w g 5 (hcells l x10 x11 x12 x13 x14)) (hb : p.b = [])
  (h10 : x10 = ((byteAt p.place 1).toNat : Int)) (h11 : x11 = ((byteAt p.place 0).toNat : Int)) (h12 : x12 = ((byteAt p.st.count 1).toNat : Int)) (h13 : x13 = ((byteAt p.st.count 0).toNat : Int)) (h14 : x14 = ((UInt8.ofNat p.b.length).toNat : Int)) :
  BytesAt w (.slice (some ⟨g, 0, none⟩) 16 64) (writtenOf p) g := by
 subst hl; refine BytesAt.of_own ?_; have := own_part64 (wRound_len p 4) h; rw [<- hcells_eq p h10 h11 h12 h13 h14, hb]
 simpa [bcells] using this
def wrW (wr : World) (m : Nat) (x10 x11 x12 x13 x14 : Int) : World :=
 (((((wr.setCell ⟨m, 10, none⟩ (.int .u8 x10)).setCell ⟨m, 11, none⟩ (.int .u8 x11)).setCell ⟨m, 12, none⟩ (.int .u8 x12)).setCell ⟨m, 13, none⟩ (.int .u8 x13)).setCell ⟨m, 14, none⟩ (.int .u8 x14)).drew.drew
theorem wrW_blk {wr : World} {m : Nat} {L : List UInt8} (x10 x11 x12 x13 x14 : Int) (h : Blk wr m 5 (bcells L)) : Blk (wrW wr m x10 x11 x12 x13 x14) m 5 (hcells L x10 x11 x12 x13 x14) :=
 ((((((h.set_ 10 _).set_ 11 _).set_ 12 _).set_ 13 _).set_ 14 _).drew).drew
theorem wrW_fr {w wr : World} {m : Nat} (x10 x11 x12 x13 x14 : Int) (h : Fr [] w wr) (hm : w.heap.size <= m) : Fr [] w (wrW wr m x10 x11 x12 x13 x14) :=
 ((((((h.setCell (.inr hm) _).setCell (.inr hm) _).setCell (.inr hm) _).setCell (.inr hm) _).setCell (.inr hm) _).drew).drew
theorem make16 (w : World) : (Instr.makeSlice 188 (.int .i64 16) (.int .i64 64)).run Tryz.prog w = .ok (.slice (some ⟨w.heap.size, 0, none⟩) 16 64) (w.alloc (.cells z64.toArray 5)) := by
 obtain ⟨i, hi, hz, hs, hb⟩ := info_parts info_u8; have h := run_makeSlice (P := Tryz.prog) w 188 5 i _ Tryz.underlying188 hi hz .i64 .i64 16 64 (by omega) (by omega) (by rw [hs]; decide) (by rw [hb]; decide) (by omega)
 have e : madeCells #[Value.int .u8 0] 64 = z64.toArray := by
  have := made_zero 1; have e1 : (DM.new 1).S.flatten = List.replicate 64 0 := by simp [DM.new]
  rw [e1, Nat.one_mul] at this; rw [z64, <- this]
 rw [hs] at h; exact h.trans (by rw [<- e]; rfl)
theorem written_any {w : World} {p : Pc} {sv : Value} {gb : Nat} (hs : p.st.session < 4294967296) (hn : p.st.number < 4294967296) (hc : p.st.count < 65536) (hp : p.place < 65536) (hl : p.b.length <= 48) (hb : BytesAt w sv p.b gb) :
  Calls Tryz.prog 128 #[.agg (pcCells p sv).toArray] w fun e w' => ∃ v g, e = .returned v /\ BytesAt w' v (writtenOf p) g /\ w.heap.size <= g /\ Fr [] w w' := by
 have HB := lh hb; clear hb; have hmk := make16; unfold pcCells
 go_enter Tryz.func128, Tryz.ntmps128
 go_wp2
 go_loopw [10] (WrRel w p sv) (fun i _ => 4 - (intOf i).toNat)
 case atStart =>
  refine ⟨0, by omega, rfl, ?_, (Blk.new w _ _).alloc _, ((Fr.refl [] w).alloc _).alloc _⟩; have e : ((z64.set 0 (.int .u8 165)).set 1 (.int .u8 90)) = bcells (wRound p 0) := rfl; rw [e]; have h := Blk.new (w.alloc (.cells (pcCells p sv).toArray 190)) 5 (bcells (wRound p 0)); have hsz : (w.alloc (.cells (pcCells p sv).toArray 190)).heap.size = w.heap.size + 1 := by simp
  rw [hsz] at h; exact h
 case round =>
  obtain ⟨k, hk, rfl, hb1, hb2, hf⟩ := hrel; have c0 : wr.cell? ⟨w.heap.size, 0, none⟩ = some (.int .u32 (p.st.session : Int)) := hb2.at_ rfl; have c1 : wr.cell? ⟨w.heap.size, 1, none⟩ = some (.int .u32 (p.st.number : Int)) := hb2.at_ rfl; have hfz := hb1.free; have hcl : ∀ j : Nat, j < 64 -> ∃ u : UInt8, wr.cell? ⟨w.heap.size + 1, j, none⟩ = some (B8 u) := fun j hj => ⟨(wRound p k)[j]'(by rw [wRound_len]; exact hj), hb1.at_ (by rw [bcells_at, List.getElem?_eq_getElem]; rfl)⟩; have HB1 := lh hb1; have HB2 := lh hb2; have HF := lh hf; clear hb1 hb2 hf
  by_cases hk4 : k < 4
  ·obtain ⟨u1, hu1⟩ := hcl (2 + k) (by omega); obtain ⟨u2, hu2⟩ := hcl (6 + k) (by omega); unfold B8 at hu1 hu2; rcases (by omega : k = 0 ∨ k = 1 ∨ k = 2 ∨ k = 3) with rfl | rfl | rfl | rfl
   ·go_wp2
    exact ⟨wr_step 0 (by omega) HB1.out HB2.out HF.out (by rw [byte_of]; omega) (by rw [byte_of]; omega), by simp [intOf]⟩
   ·go_wp2
    exact ⟨wr_step 1 (by omega) HB1.out HB2.out HF.out (by rw [byte_of]; omega) (by rw [byte_of]; omega), by simp [intOf]⟩
   ·go_wp2
    exact ⟨wr_step 2 (by omega) HB1.out HB2.out HF.out (by rw [byte_of]; omega) (by rw [byte_of]; omega), by simp [intOf]⟩
   ·go_wp2
    exact ⟨wr_step 3 (by omega) HB1.out HB2.out HF.out (by rw [byte_of]; omega) (by rw [byte_of]; omega), by simp [intOf]⟩
  ·have hk5 : k = 4 := by omega
   subst hk5; have c2 : wr.cell? ⟨w.heap.size, 2, none⟩ = some (.int .i64 (p.st.count : Int)) := HB2.out.at_ rfl; have c3 : wr.cell? ⟨w.heap.size, 3, none⟩ = some (.int .i64 (p.place : Int)) := HB2.out.at_ rfl; have c4 : wr.cell? ⟨w.heap.size, 4, none⟩ = some sv := HB2.out.at_ rfl; obtain ⟨u10, hu10⟩ := hcl 10 (by omega); obtain ⟨u11, hu11⟩ := hcl 11 (by omega); obtain ⟨u12, hu12⟩ := hcl 12 (by omega); obtain ⟨u13, hu13⟩ := hcl 13 (by omega); obtain ⟨u14, hu14⟩ := hcl 14 (by omega); clear hcl c0 c1; obtain ⟨L, hL⟩ := nm (wRound p 4); have HB3 := lh (show Blk wr (w.heap.size + 1) 5 (bcells L) by rw [hL]; exact HB1.out); have HL := lh hL; clear HB1 hL; unfold B8 at hu10 hu11 hu12 hu13 hu14; obtain ⟨A, c, off, rfl, hbc, hcells⟩ := HB.out; have HCS := lh hcells; clear hcells
   by_cases h0 : p.b.length = 0
   ·have hbl : p.b = [] := List.eq_nil_of_length_eq_zero h0; have HBL := lh hbl; clear hbl; rw [h0]; rw [h0] at c4; clear h0
    go_wp2
    go_region
    go_wp2
    go_region
    go_wp2_with (refine wpList_append_none rfl (.tmp 68) (.tmp 70) 188 23 rfl 5 5 Tryz.underlying188 Tryz.underlying23 (by kernel_rfl) (some ⟨w.heap.size + 1, 0, none⟩) A 16 64 c rfl rfl (by omega) ?_)
    go_wp2
    go_ret
    refine ⟨.slice (some ⟨w.heap.size + 1, 0, none⟩) 16 64, w.heap.size + 1, rfl, ?_, by omega, ?_⟩
    ·exact wr_end HL.out (wrW_blk ((p.place : Int) / 256) ((p.place : Int) % 256) ((p.st.count : Int) / 256) ((p.st.count : Int) % 256) 0 HB3.out) HBL.out (by rw [byte_of]; omega) (by rw [byte_of]; omega) (by rw [byte_of]; omega) (by rw [byte_of]; omega) (by rw [HBL.out]; rfl)
    ·exact wrW_fr ((p.place : Int) / 256) ((p.place : Int) % 256) ((p.st.count : Int) / 256) ((p.st.count : Int) % 256) 0 HF.out (Nat.le_succ _)
   ·obtain ⟨rfl, hcs⟩ := HCS.out (by omega); have HC2 := lh hcs; clear hcs; obtain ⟨iu, hi, hz, hsz, hby⟩ := info_parts info_u8; have HI := lh hi; have HZ := lh hz; have HSZ := lh hsz; have HBY := lh hby; clear hi hz hsz hby; have HOW := lh (own_part64 (show L.length = 64 by rw [HL.out]; exact wRound_len p 4) (wrW_blk ((p.place : Int) / 256) ((p.place : Int) % 256) ((p.st.count : Int) / 256) ((p.st.count : Int) % 256) (p.b.length : Int) HB3.out)); have HFW := lh (wrW_fr ((p.place : Int) / 256) ((p.place : Int) % 256) ((p.st.count : Int) / 256) ((p.st.count : Int) % 256) (p.b.length : Int) HF.out (Nat.le_succ w.heap.size)); have HEQ := lh (hcells_eq p (x10 := (p.place : Int) / 256) (x11 := (p.place : Int) % 256) (x12 := (p.st.count : Int) / 256) (x13 := (p.st.count : Int) % 256) (x14 := (p.b.length : Int)) (by rw [byte_of]; omega) (by rw [byte_of]; omega) (by rw [byte_of]; omega) (by rw [byte_of]; omega) (by simp; omega)); rw [<- HL.out] at HEQ
    have HNW : ∀ (j : Nat) (u : Value), (bcells p.b)[j]? = some u -> (wrW wr (w.heap.size + 1) ((p.place : Int) / 256) ((p.place : Int) % 256) ((p.st.count : Int) / 256) ((p.st.count : Int) % 256) (p.b.length : Int)).cell? (Addr.add ⟨gb, off, none⟩ j) = some u := by
     intro j u hu; have h1 := HC2.out j u hu; rw [Addr.add_mid]; rw [HFW.out.cell (p := ⟨gb, off + j, none⟩) (World.block_lt_of_cell? w _ h1) (by simp)]; exact h1
    have HN := lh HNW; clear HNW
    go_wp2
    go_region
    go_wp2
    go_region
    go_wp2_with (refine wpList_append_two rfl (.tmp 68) (.tmp 70) 188 23 rfl 5 5 iu (.int .u8 0) 1 Tryz.underlying188 Tryz.underlying23 HI.out HZ.out HSZ.out HBY.out rfl (some ⟨w.heap.size + 1, 0, none⟩) 64 16 ?xs rfl ?own ⟨gb, off, none⟩ p.b.length c (bcells p.b) rfl (bcells_len _) ?news (bcells_one _) (by omega) (by unfold maxLen; omega) (by omega) ?_)
    case own =>
     have h := HOW.out; unfold wrW at h; exact h
    case news =>
     have h := HN.out; unfold wrW at h; exact h
    intro g cap w' hown hg hat hlt; rw [HEQ.out] at hown; have HG := lh hg; have HAT := lh hat; have HOWN := lh hown; clear hg hat hown
    go_wp2
    go_ret
    unfold wrW at HFW; refine ⟨.slice (some ⟨g, 0, none⟩) (16 + p.b.length) cap, g, rfl, BytesAt.of_own HOWN.out, ?_, HFW.out.grown HG.out ?_⟩
    ·have h1 := HF.out.size; rcases HAT.out with h | h
     ·have : w.heap.size + 1 = g := by simpa [Value.ownBlock] using h
      omega
     ·omega
    ·intro g' hg'; have : w.heap.size + 1 = g' := by simpa [Value.ownBlock] using hg'
     right; omega
structure SecsAt (w : World) (gl off : Nat) (gs : List Nat) (L : List (List UInt8)) : Prop where
 len : gs.length = L.length
 row : ∀ (j : Nat) (g : Nat), gs[j]? = some g -> w.cell? ⟨gl, off + j, none⟩ = some (secV g)
 sec : ∀ (j : Nat) (g : Nat) (s : List UInt8), gs[j]? = some g -> L[j]? = some s -> SecAt w g s
theorem SecsAt.fr {S : List Nat} {w w' : World} {gl off : Nat} {gs : List Nat} {L : List (List UInt8)} (h : SecsAt w gl off gs L) (hf : Fr S w w') (h1 : gl ∉ S) (h2 : ∀ g ∈ gs, g ∉ S) : SecsAt w' gl off gs L :=
 ⟨h.len, fun j g hg => by have := h.row j g hg; rw [hf.cell (World.block_lt_of_cell? w _ this) h1]; exact this, fun j g s hg hs => (h.sec j g s hg hs).fr hf (h2 g (List.mem_of_getElem? hg))⟩
theorem SecsAt.drop {w : World} {gl off : Nat} {gs : List Nat} {L : List (List UInt8)} (h : SecsAt w gl off gs L) (k : Nat) : SecsAt w gl (off + k) (gs.drop k) (L.drop k) :=
 ⟨by simp [h.len], fun j g hg => by rw [List.getElem?_drop] at hg; rw [Nat.add_assoc]; exact h.row _ g hg, fun j g s hg hs => by rw [List.getElem?_drop] at hg hs; exact h.sec _ g s hg hs⟩
theorem SecsAt.at_ {w : World} {gl off : Nat} {gs : List Nat} {L : List (List UInt8)} (h : SecsAt w gl off gs L) {j : Nat} (hj : j < L.length) : ∃ g s, L[j]? = some s /\ w.cell? ⟨gl, off + j, none⟩ = some (secV g) /\ SecAt w g s := by
 have h1 : j < gs.length := by rw [h.len]; exact hj
 exact ⟨gs[j], L[j], List.getElem?_eq_getElem hj, h.row j _ (List.getElem?_eq_getElem h1), h.sec j _ _ (List.getElem?_eq_getElem h1) (List.getElem?_eq_getElem hj)⟩
theorem coll_no {st : Stamp} {T : List (List UInt8)} {k : Nat} {s : List UInt8} (hs : T[k]? = some s) (h : ∀ q, pieceOf s = some q -> ¬ (q.st = st /\ q.place = k /\ (k + 1 < st.count -> q.b.length = 48))) : collect st k (T.drop k) = none := by
 have hk : k < T.length := (List.getElem?_eq_some_iff.1 hs).1; rw [List.drop_eq_getElem_cons hk]; rw [List.getElem?_eq_getElem hk] at hs; simp only [Option.some.injEq] at hs; rw [hs]; unfold collect
 cases hp : pieceOf s with
 | none => rfl
 | some q => simp only [if_neg (h q hp)]
theorem coll_yes {st : Stamp} {T : List (List UInt8)} {k : Nat} {s : List UInt8} {q : Pc} (hs : T[k]? = some s) (hp : pieceOf s = some q) (h : q.st = st /\ q.place = k /\ (k + 1 < st.count -> q.b.length = 48)) :
  collect st k (T.drop k) = (collect st (k + 1) (T.drop (k + 1))).map (q.b ++ ·) := by
 have hk : k < T.length := (List.getElem?_eq_some_iff.1 hs).1; rw [List.drop_eq_getElem_cons hk]; rw [List.getElem?_eq_getElem hk] at hs; simp only [Option.some.injEq] at hs; rw [hs]
 conv => lhs; unfold collect
 rw [hp]; simp only [if_pos h]
def noStamp : Array Value := #[.int .u32 0, .int .u32 0, .int .i64 0]
def stampV (st : Stamp) : Value := .agg #[.int .u32 (st.session : Int), .int .u32 (st.number : Int), .int .i64 (st.count : Int)]
def RecAns (w : World) (L : List (List UInt8)) (e : Ending) (w' : World) : Prop :=
 match recordOf L with
 | none => e = .returned (.tuple #[.agg noStamp, .slice none 0 0, .bool false]) /\ Fr [] w w'
 | some (st, b) => ∃ v g, e = .returned (.tuple #[stampV st, v, .bool true]) /\ BytesAt w' v b g /\ w.heap.size <= g /\ Fr [] w w'
theorem recordOf_none {L : List (List UInt8)} {s : List UInt8} (h0 : L[0]? = some s) (h : ∀ p, pieceOf s = some p -> p.st.count < 1 ∨ L.length < p.st.count) : recordOf L = none := by
 cases L with
 | nil => cases h0
 | cons x L =>
  simp only [List.getElem?_cons_zero, Option.some.injEq] at h0; subst h0
  cases hp : pieceOf x with
  | none => simp only [recordOf, hp]
  | some p => simp only [recordOf, hp, if_pos (h p hp)]
theorem recordOf_coll {L : List (List UInt8)} {s : List UInt8} {p : Pc} (h0 : L[0]? = some s) (hp : pieceOf s = some p) (h1 : 1 <= p.st.count) (h2 : p.st.count <= L.length) : recordOf L = (collect p.st 0 (L.take p.st.count)).map fun b => (p.st, b) := by
 cases L with
 | nil => cases h0
 | cons x L =>
  simp only [List.getElem?_cons_zero, Option.some.injEq] at h0; subst h0; simp only [recordOf, hp, if_neg (show ¬ (p.st.count < 1 ∨ (x :: L).length < p.st.count) by omega)]
def pzCells (g : Nat) (p : Pc) : List Value := [.int .u32 (p.st.session : Int), .int .u32 (p.st.number : Int), .int .i64 (p.st.count : Int), .int .i64 (p.place : Int), .slice (some ⟨g, 16, none⟩) p.b.length 48]
def RecRel (w w1 : World) (g0 : Nat) (p : Pc) (L : List (List UInt8)) (out i : Value) (wr : World) : Prop :=
 ∃ (k : Nat) (acc : List UInt8), k <= p.st.count /\ i = .int .i64 k /\ acc.length <= 48 * k /\ wr.ownsRow 0 5 1 out acc.length (bcells acc) /\ (∀ x, out.ownBlock = some x -> w.heap.size <= x) /\
  collect p.st 0 (L.take p.st.count) = (collect p.st k ((L.take p.st.count).drop k)).map (acc ++ ·) /\ Blk wr w.heap.size 166 [.int .u32 0, .int .u32 0, .int .i64 0] /\ Blk wr w1.heap.size 190 (pzCells g0 p) /\ Fr [] w wr
theorem piece_len {s : List UInt8} {q : Pc} (h : pieceOf s = some q) : q.b.length <= 48 := by
 unfold pieceOf at h
 split at h
 ·rename_i hh
  cases h
  show ((s.drop 16).take _).length <= 48
  rw [List.length_take]; omega
 ·cases h
theorem piece_news {w : World} {g : Nat} {s : List UInt8} {q : Pc} (h : pieceOf s = some q) (hs : SecAt w g s) : ∀ (j : Nat) (u : Value), (bcells q.b)[j]? = some u -> w.cell? (Addr.add ⟨g, 16, none⟩ j) = some u := by
 intro j u hu; unfold pieceOf at h
 split at h
 ·cases h
  rw [bcells_at] at hu; obtain ⟨c, hc, rfl⟩ := Option.map_eq_some_iff.1 hu; rw [Addr.add_mid]; exact sub_cells hs 16 _ j c hc
 ·cases h
theorem rec_no {w w' : World} {L : List (List UInt8)} {p : Pc} {k : Nat} {acc : List UInt8} (h1 : recordOf L = (collect p.st 0 (L.take p.st.count)).map fun b => (p.st, b)) (h2 : collect p.st 0 (L.take p.st.count) = (collect p.st k ((L.take p.st.count).drop k)).map (acc ++ ·)) (h3 : collect p.st k ((L.take p.st.count).drop k) = none) (hf : Fr [] w w') :
  RecAns w L (.returned (.tuple #[.agg noStamp, .slice none 0 0, .bool false])) w' := by
 unfold RecAns; rw [h1, h2, h3]; exact ⟨rfl, hf⟩
theorem bytes_of_own {w : World} {v : Value} {bs : List UInt8} {b : Nat} (h : w.ownsRow 0 5 1 v bs.length (bcells bs)) (hge : ∀ x, v.ownBlock = some x -> b <= x) : ∃ g, BytesAt w v bs g /\ b <= g := by
 obtain ⟨A, c, rfl, hc, _⟩ := own_shape h; rcases h.2 with ⟨h1, h0⟩ | ⟨g, cap, cur, hv, _, hh, hnc, hc2, hs, ht⟩
 ·injection h1 with a1 a2 a3; subst a1 a3; have : bs = [] := List.eq_nil_of_length_eq_zero h0; subst this; exact ⟨b, BytesAt.nil _ _, Nat.le_refl _⟩
 ·injection hv with a1 a2 a3; subst a1 a3; exact ⟨g, BytesAt.of_own h, hge g rfl⟩
theorem rec_yes {w w' : World} {L : List (List UInt8)} {p : Pc} {k : Nat} {acc : List UInt8} {v : Value} (h1 : recordOf L = (collect p.st 0 (L.take p.st.count)).map fun b => (p.st, b)) (h2 : collect p.st 0 (L.take p.st.count) = (collect p.st k ((L.take p.st.count).drop k)).map (acc ++ ·)) (hk : k = p.st.count) (hl : p.st.count <= L.length)
  (hge : ∀ x, v.ownBlock = some x -> w.heap.size <= x) (ho : w'.ownsRow 0 5 1 v acc.length (bcells acc)) (hf : Fr [] w w') : RecAns w L (.returned (.tuple #[stampV p.st, v, .bool true])) w' := by
 have e : (L.take p.st.count).drop k = [] := List.drop_eq_nil_of_le (by rw [List.length_take]; omega); have hr : recordOf L = some (p.st, acc) := by rw [h1, h2, e]; simp [collect]
 obtain ⟨g, hb, hg⟩ := bytes_of_own ho hge; unfold RecAns; rw [hr]; exact ⟨v, g, rfl, hb, hg, hf⟩
theorem rec_step0 {w w1 wr w2 : World} {g0 : Nat} {p q : Pc} {L : List (List UInt8)} {A : Option Addr} {co k : Nat} {acc : List UInt8} (hacc : acc.length <= 48 * k) (hge : ∀ x, (Value.slice A acc.length co).ownBlock = some x -> w.heap.size <= x) (hf : Fr [] w wr) (hf2 : Fr [] wr w2)
  (hR : Blk wr w.heap.size 166 [.int .u32 0, .int .u32 0, .int .i64 0]) (hP : Blk wr w1.heap.size 190 (pzCells g0 p)) (hown : wr.ownsRow 0 5 1 (.slice A acc.length co) acc.length (bcells acc))
  (hC : collect p.st 0 (L.take p.st.count) = (collect p.st k ((L.take p.st.count).drop k)).map (acc ++ ·)) (hY : collect p.st k ((L.take p.st.count).drop k) = (collect p.st (k + 1) ((L.take p.st.count).drop (k + 1))).map (q.b ++ ·)) (eb : q.b = []) (hk : k + 1 <= p.st.count) (X : Obj) :
  RecRel w w1 g0 p L (.slice A acc.length co) (.int .i64 ((k : Int) + 1)) (w2.alloc X) := by
 refine ⟨k + 1, acc, hk, rfl, by omega, own_fr hown (hf2.alloc _) (by simp), hge, ?_, (hR.fr hf2 (by simp)).alloc _, (hP.fr hf2 (by simp)).alloc _, (hf.trans hf2 (by simp)).alloc _⟩; rw [hC, hY, eb]
 simp
theorem rec_step {w w1 wr w2 w3 : World} {g0 : Nat} {p q : Pc} {L : List (List UInt8)} {A : Option Addr} {co k g cap : Nat} {acc : List UInt8} (hacc : acc.length <= 48 * k) (hge : ∀ x, (Value.slice A acc.length co).ownBlock = some x -> w.heap.size <= x) (hf : Fr [] w wr) (hf2 : Fr [] wr w2)
  (hR : Blk wr w.heap.size 166 [.int .u32 0, .int .u32 0, .int .i64 0]) (hP : Blk wr w1.heap.size 190 (pzCells g0 p)) (hown : wr.ownsRow 0 5 1 (.slice A acc.length co) acc.length (bcells acc))
  (hC : collect p.st 0 (L.take p.st.count) = (collect p.st k ((L.take p.st.count).drop k)).map (acc ++ ·)) (hY : collect p.st k ((L.take p.st.count).drop k) = (collect p.st (k + 1) ((L.take p.st.count).drop (k + 1))).map (q.b ++ ·)) (hql : q.b.length <= 48) (hk : k + 1 <= p.st.count) (X : Obj)
  (hO3 : w3.ownsRow 0 5 1 (.slice (some ⟨g, 0, none⟩) (acc.length + q.b.length) cap) (acc.length + q.b.length) (bcells acc ++ bcells q.b)) (hG3 : (w2.alloc X).grownBy w3 (Value.slice A acc.length co).ownBlock) (hat : (Value.slice A acc.length co).ownBlock = some g ∨ g = w2.heap.size + 1) :
  RecRel w w1 g0 p L (.slice (some ⟨g, 0, none⟩) (acc.length + q.b.length) cap) (.int .i64 ((k : Int) + 1)) w3 := by
 have hs1 := hf.size; have hs2 := hf2.size; have hsz : (w2.alloc X).heap.size = w2.heap.size + 1 := by simp
 have hge3 : w.heap.size <= g := by
  rcases hat with h | h
  ·exact hge g h
  ·omega
 refine ⟨k + 1, acc ++ q.b, hk, rfl, by rw [List.length_append]; omega, by rw [List.length_append, bcells_append]; exact hO3, by simpa [Value.ownBlock] using hge3, ?_, ((hR.fr hf2 (by simp)).alloc _).grown hG3 (fun e => own_ne hown hR (by decide) e.symm), ((hP.fr hf2 (by simp)).alloc _).grown hG3 (fun e => own_ne hown hP (by decide) e.symm), ((hf.trans hf2 (by simp)).alloc _).grown hG3 (fun g' hg' => .inr (hge g' hg'))⟩; rw [hC, hY]
 simp [Option.map_map, Function.comp_def]
theorem record_any {w : World} {gl off c : Nat} {gs : List Nat} {L : List (List UInt8)} {A : Option Addr} (h : SecsAt w gl off gs L) (hA : 0 < L.length -> A = some ⟨gl, off, none⟩) (hc : L.length <= c) (hm : L.length <= 65536) :
  Calls Tryz.prog 93 #[.slice A L.length c] w (RecAns w L) := by
 by_cases h0 : L.length = 0
 ·have e : L = [] := List.eq_nil_of_length_eq_zero h0; subst e; clear hA h hc hm
  go_enter Tryz.func93, Tryz.ntmps93
  go_wp2
  refine bodyPost_ret (v := .tuple #[.agg noStamp, .slice none 0 0, .bool false]) (by simp [results, Tryz.results93, go_sem, noStamp]) rfl ?_; exact ⟨rfl, (Fr.refl [] w).alloc _⟩
 ·obtain rfl := hA (by omega); obtain ⟨g0, s0, hs0, hc0, hsec0⟩ := h.at_ (j := 0) (by omega); rw [Nat.add_zero] at hc0; have HS := lh h; have HSEC := lh hsec0; have HS0 := lh hs0; clear h hsec0 hs0; have hlt := World.block_lt_of_cell? w _ hc0; unfold secV at hc0
  go_enter Tryz.func93, Tryz.ntmps93
  go_wp2_with fail; refine (piece_any (HSEC.out.fr ((Fr.refl [] w).alloc _) (by simp))).mono ?_; rintro e w1 ⟨rfl, hf1⟩; have hb1 : Blk w1 w.heap.size 166 [.int .u32 0, .int .u32 0, .int .i64 0] := (Blk.new w _ _).fr hf1 (by simp); have r0 := hb1.at_ (i := 0) rfl; have r1 := hb1.at_ (i := 1) rfl; have r2 := hb1.at_ (i := 2) rfl; have rf := hb1.free; have rl := hb1.lt; have hfw : Fr [] w w1 := ((Fr.refl [] w).alloc _).trans hf1 (by simp); have HFW := lh hfw; have HB1 := lh hb1; clear hfw hb1 hf1; unfold pieceV
  cases hp : pieceOf s0 with
  | none =>
   simp only [noAgg]
   go_wp2
   have hbF := (((HB1.out.set_ 0 (.int .u32 0)).set_ 1 (.int .u32 0)).set_ 2 (.int .i64 0)).alloc (.cells #[.int .u32 0, .int .u32 0, .int .i64 0, .int .i64 0, .slice none 0 0] 190); have hfF := lh ((((HFW.out.setCell (p := ⟨w.heap.size, 0, none⟩) (.inr (Nat.le_refl _)) (.int .u32 0)).setCell (p := ⟨w.heap.size, 1, none⟩) (.inr (Nat.le_refl _)) (.int .u32 0)).setCell (p := ⟨w.heap.size, 2, none⟩) (.inr (Nat.le_refl _)) (.int .i64 0)).alloc (.cells #[.int .u32 0, .int .u32 0, .int .i64 0, .int .i64 0, .slice none 0 0] 190)); have d0 := hbF.at_ (i := 0) rfl; have d1 := hbF.at_ (i := 1) rfl; have d2 := hbF.at_ (i := 2) rfl; clear hbF
   revert hfF d0 d1 d2
   generalize (World.alloc (World.setCell (World.setCell (World.setCell w1 _ _) _ _) _ _) _) = wf; intro hfF d0 d1 d2; refine bodyPost_ret (v := .tuple #[.agg noStamp, .slice none 0 0, .bool false]) (by simp [results, Tryz.results93, go_sem, noStamp, d0, d1, d2]) rfl ?_; unfold RecAns; rw [recordOf_none HS0.out (fun p h => by rw [hp] at h; cases h)]; exact ⟨rfl, hfF.out⟩
  | some p =>
   simp only [pcAgg]
   by_cases hcnt : p.st.count < 1 ∨ L.length < p.st.count
   ·have hrec : ∀ q, pieceOf s0 = some q -> q.st.count < 1 ∨ L.length < q.st.count := fun q h => by rw [hp] at h; cases h; exact hcnt
    have HREC := lh hrec; clear hrec
    by_cases h1 : p.st.count < 1
    case' pos =>
     clear hcnt
    case' neg =>
     have h2 : L.length < p.st.count := by omega
     clear hcnt
    all_goals
     go_wp2
     have hbF := (((HB1.out.set_ 0 (.int .u32 0)).set_ 1 (.int .u32 0)).set_ 2 (.int .i64 0)).alloc (.cells #[.int .u32 (p.st.session : Int), .int .u32 (p.st.number : Int), .int .i64 (p.st.count : Int), .int .i64 (p.place : Int), .slice (some ⟨g0, 16, none⟩) p.b.length 48] 190); have hfF := lh ((((HFW.out.setCell (p := ⟨w.heap.size, 0, none⟩) (.inr (Nat.le_refl _)) (.int .u32 0)).setCell (p := ⟨w.heap.size, 1, none⟩) (.inr (Nat.le_refl _)) (.int .u32 0)).setCell (p := ⟨w.heap.size, 2, none⟩) (.inr (Nat.le_refl _)) (.int .i64 0)).alloc (.cells #[.int .u32 (p.st.session : Int), .int .u32 (p.st.number : Int), .int .i64 (p.st.count : Int), .int .i64 (p.place : Int), .slice (some ⟨g0, 16, none⟩) p.b.length 48] 190)); have d0 := hbF.at_ (i := 0) rfl; have d1 := hbF.at_ (i := 1) rfl; have d2 := hbF.at_ (i := 2) rfl; clear hbF
     revert hfF d0 d1 d2
     generalize (World.alloc (World.setCell (World.setCell (World.setCell w1 _ _) _ _) _ _) _) = wf; intro hfF d0 d1 d2; refine bodyPost_ret (v := .tuple #[.agg noStamp, .slice none 0 0, .bool false]) (by simp [results, Tryz.results93, go_sem, noStamp, d0, d1, d2]) rfl ?_; unfold RecAns; rw [recordOf_none HS0.out (HREC.out)]; exact ⟨rfl, hfF.out⟩
   ·have h1 : 1 <= p.st.count := by omega
    have h2 : p.st.count <= L.length := by omega
    have h2' : (p.st.count : Int) <= (L.length : Int) := by omega
    clear hcnt; have HCOL := lh (recordOf_coll HS0.out hp h1 h2); have hd1 : decide ((p.st.count : Int) < 1) = false := by simp; omega
    have hd2 : decide (L.length < p.st.count) = false := by simp; omega
    have HD1 := lh hd1; have HD2 := lh hd2; clear hd1 hd2
    go_wp2
    go_loopw [8, 48] (RecRel w w1 g0 p L) (fun _ i _ => p.st.count - (intOf i).toNat)
    case atStart =>
     refine ⟨0, [], Nat.zero_le _, rfl, by simp, own_nil _ _ _ _, by simp [Value.ownBlock], by simp, HB1.out.alloc _, Blk.new _ _ _, HFW.out.alloc _⟩
    case round =>
     have HH2 := lh h2; clear h2 h2'; obtain ⟨k, acc, hk, rfl, hacc, hown, hge, hcol, hb1, hb2, hf⟩ := hrel; have p0 := hb2.at_ (i := 0) rfl; have p1 := hb2.at_ (i := 1) rfl; have p2 := hb2.at_ (i := 2) rfl; have HACC := lh hacc; have HOWN := lh hown; have HGE := lh hge; have HC := lh hcol; have HR := lh hb1; have HP := lh hb2; have HF := lh hf; clear hacc hown hge hcol hb1 hb2 hf; obtain ⟨A, co, rfl, hno, _⟩ := own_shape HOWN.out; obtain ⟨iu, hi, hz, hsz, hby⟩ := info_parts info_u8; have HI := lh hi; have HZ := lh hz; have HSZ := lh hsz; have HBY := lh hby; clear hi hz hsz hby
     by_cases hkc : k < p.st.count
     ·obtain ⟨gk, sk, hsk, hck, hseck⟩ := (HS.out.fr HF.out (by simp) (by simp)).at_ (j := k) (by have := HH2.out; omega); have HSK := lh hsk; have HSECK := lh hseck; clear hsk hseck; unfold secV at hck; go_wp2_with fail; refine (piece_any HSECK.out).mono ?_; rintro e w2 ⟨rfl, hf2⟩; have q0 := (HP.out.fr hf2 (by simp)).at_ (i := 0) rfl; have q1 := (HP.out.fr hf2 (by simp)).at_ (i := 1) rfl; have q2 := (HP.out.fr hf2 (by simp)).at_ (i := 2) rfl; have l2 := (HP.out.fr hf2 (by simp)).lt; have r0 := (HR.out.fr hf2 (by simp)).at_ (i := 0) rfl; have r1 := (HR.out.fr hf2 (by simp)).at_ (i := 1) rfl; have r2 := (HR.out.fr hf2 (by simp)).at_ (i := 2) rfl; have rf := (HR.out.fr hf2 (by simp)).free; have rl := (HR.out.fr hf2 (by simp)).lt; have HF2 := lh hf2; clear hf2; have HTK := lh (show (L.take p.st.count)[k]? = some sk by rw [List.getElem?_take, if_pos hkc]; exact HSK.out); unfold pieceV
      cases hq : pieceOf sk with
      | none =>
       have HNO := lh (coll_no (st := p.st) HTK.out (fun x hx => by rw [hq] at hx; cases hx)); simp only [noAgg]
       go_wp2
       have hbF := ((((HR.out.fr HF2.out (by simp)).set_ 0 (.int .u32 0)).set_ 1 (.int .u32 0)).set_ 2 (.int .i64 0)).alloc (.cells #[.int .u32 0, .int .u32 0, .int .i64 0, .int .i64 0, .slice none 0 0] 190); have hfF := lh (((((HF.out.trans HF2.out (by simp)).setCell (p := ⟨w.heap.size, 0, none⟩) (.inr (Nat.le_refl _)) (.int .u32 0)).setCell (p := ⟨w.heap.size, 1, none⟩) (.inr (Nat.le_refl _)) (.int .u32 0)).setCell (p := ⟨w.heap.size, 2, none⟩) (.inr (Nat.le_refl _)) (.int .i64 0)).alloc (.cells #[.int .u32 0, .int .u32 0, .int .i64 0, .int .i64 0, .slice none 0 0] 190)); have d0 := hbF.at_ (i := 0) rfl; have d1 := hbF.at_ (i := 1) rfl; have d2 := hbF.at_ (i := 2) rfl; clear hbF
       revert hfF d0 d1 d2
       generalize (World.alloc (World.setCell (World.setCell (World.setCell w2 _ _) _ _) _ _) _) = wf; intro hfF d0 d1 d2; refine bodyPost_ret (v := .tuple #[.agg noStamp, .slice none 0 0, .bool false]) (by simp [results, Tryz.results93, go_sem, noStamp, d0, d1, d2]) rfl ?_; exact rec_no HCOL.out HC.out (HNO.out) hfF.out
      | some q =>
       simp only [pcAgg]; have hql := piece_len hq; have HNW := lh (fun X => piece_news hq ((HSECK.out.fr HF2.out (by simp)).fr ((Fr.refl [] w2).alloc X) (by simp)))
       by_cases e1 : q.st.session = p.st.session
       ·by_cases e2 : q.st.number = p.st.number
        ·by_cases e3 : q.st.count = p.st.count
         ·have est : q.st = p.st := by
           cases hqs : q.st; cases hps : p.st
           rw [hqs, hps] at e1 e2 e3
           simp only at e1 e2 e3
           rw [e1, e2, e3]
          by_cases e4 : q.place = k
          ·by_cases e5 : k + 1 < p.st.count
           ·have e5' : (k : Int) + 1 < (p.st.count : Int) := by omega
            by_cases e6 : q.b.length = 48
            ·have e6' : ((q.b.length : Int) != 48) = false := by rw [bne_eq_false_iff_eq]; omega
             have HY := lh (coll_yes (st := p.st) HTK.out hq ⟨est, e4, fun _ => e6⟩); have hz : 0 < q.b.length := by omega
             clear e6 est
             go_wp2_with (refine wpList_append_lies _ rfl (.tmp 89) (.tmp 91) 23 rfl 0 5 iu (.int .u8 0) 1 1 Tryz.underlying23 HI.out HZ.out HSZ.out HBY.out rfl (by omega) (.slice A acc.length co) acc.length (bcells acc) rfl (own_fr HOWN.out (HF2.out.alloc _) (by simp)) ⟨gk, 16, none⟩ q.b.length 48 (bcells q.b) rfl (by rw [bcells_len, Nat.mul_one]) (HNW.out _) (bcells_one _) hz (by have := HACC.out; unfold maxLen; omega) (by have := HACC.out; omega) (Nat.zero_le _) _ rfl ?_)
             intro g cap w3 hown3 hg3 hat3 hlt3; have HO3 := lh hown3; have HG3 := lh hg3; have HAT3 := lh hat3; clear hown3 hg3 hat3
             go_wp2
             go_roundw
             case rel =>
              have hst := rec_step (w1 := w1) (g0 := g0) HACC.out HGE.out HF.out HF2.out HR.out HP.out HOWN.out HC.out HY.out hql (by omega) _ HO3.out HG3.out HAT3.out
              repeat apply Exists.intro
              refine ⟨hst, ?_⟩; simp only [HD2.out, Bool.or_false]
              repeat' (first | rfl | apply And.intro)
             case measure => simp [intOf]; omega
            ·have e6' : ((q.b.length : Int) != 48) = true := by rw [bne_iff_ne]; omega
             have HNO := lh (coll_no (st := p.st) HTK.out (fun x hx => by rw [hq] at hx; cases hx; rintro ⟨a1, a2, a3⟩; exact e6 (a3 e5))); clear est
             go_wp2
             have hbF := ((((HR.out.fr HF2.out (by simp)).set_ 0 (.int .u32 0)).set_ 1 (.int .u32 0)).set_ 2 (.int .i64 0)).alloc (.cells #[.int .u32 (p.st.session : Int), .int .u32 (p.st.number : Int), .int .i64 (p.st.count : Int), .int .i64 (k : Int), .slice (some ⟨gk, 16, none⟩) q.b.length 48] 190); have hfF := lh (((((HF.out.trans HF2.out (by simp)).setCell (p := ⟨w.heap.size, 0, none⟩) (.inr (Nat.le_refl _)) (.int .u32 0)).setCell (p := ⟨w.heap.size, 1, none⟩) (.inr (Nat.le_refl _)) (.int .u32 0)).setCell (p := ⟨w.heap.size, 2, none⟩) (.inr (Nat.le_refl _)) (.int .i64 0)).alloc (.cells #[.int .u32 (p.st.session : Int), .int .u32 (p.st.number : Int), .int .i64 (p.st.count : Int), .int .i64 (k : Int), .slice (some ⟨gk, 16, none⟩) q.b.length 48] 190)); have d0 := hbF.at_ (i := 0) rfl; have d1 := hbF.at_ (i := 1) rfl; have d2 := hbF.at_ (i := 2) rfl; clear hbF
             revert hfF d0 d1 d2
             generalize (World.alloc (World.setCell (World.setCell (World.setCell w2 _ _) _ _) _ _) _) = wf; intro hfF d0 d1 d2; refine bodyPost_ret (v := .tuple #[.agg noStamp, .slice none 0 0, .bool false]) (by simp [results, Tryz.results93, go_sem, noStamp, d0, d1, d2]) rfl ?_; exact rec_no HCOL.out HC.out (HNO.out) hfF.out
           ·have e5' : ¬ (k : Int) + 1 < (p.st.count : Int) := by omega
            have HY := lh (coll_yes (st := p.st) HTK.out hq ⟨est, e4, fun h => absurd h e5⟩); clear est; rcases Nat.eq_zero_or_pos q.b.length with hz | hz
            ·go_wp2_with (refine wpList_append_none rfl (.tmp 89) (.tmp 91) 23 23 rfl 5 5 Tryz.underlying23 Tryz.underlying23 (by kernel_rfl) A (some ⟨gk, 16, none⟩) acc.length co 48 rfl rfl hno ?_)
             go_wp2
             go_roundw
             case rel =>
              have eb : q.b = [] := List.eq_nil_of_length_eq_zero hz; have hst := rec_step0 (w1 := w1) (g0 := g0) HACC.out HGE.out HF.out HF2.out HR.out HP.out HOWN.out HC.out HY.out eb (by omega)
              repeat apply Exists.intro
              refine ⟨hst _, ?_⟩
              repeat' (first | rfl | apply And.intro)
             case measure => simp [intOf]; omega
            ·go_wp2_with (refine wpList_append_lies _ rfl (.tmp 89) (.tmp 91) 23 rfl 0 5 iu (.int .u8 0) 1 1 Tryz.underlying23 HI.out HZ.out HSZ.out HBY.out rfl (by omega) (.slice A acc.length co) acc.length (bcells acc) rfl (own_fr HOWN.out (HF2.out.alloc _) (by simp)) ⟨gk, 16, none⟩ q.b.length 48 (bcells q.b) rfl (by rw [bcells_len, Nat.mul_one]) (HNW.out _) (bcells_one _) hz (by have := HACC.out; unfold maxLen; omega) (by have := HACC.out; omega) (Nat.zero_le _) _ rfl ?_)
             intro g cap w3 hown3 hg3 hat3 hlt3; have HO3 := lh hown3; have HG3 := lh hg3; have HAT3 := lh hat3; clear hown3 hg3 hat3
             go_wp2
             go_roundw
             case rel =>
              have hst := rec_step (w1 := w1) (g0 := g0) HACC.out HGE.out HF.out HF2.out HR.out HP.out HOWN.out HC.out HY.out hql (by omega) _ HO3.out HG3.out HAT3.out
              repeat apply Exists.intro
              refine ⟨hst, ?_⟩; simp only [HD2.out, Bool.or_false]
              repeat' (first | rfl | apply And.intro)
             case measure => simp [intOf]; omega
          ·have HNO := lh (coll_no (st := p.st) HTK.out (fun x hx => by rw [hq] at hx; cases hx; rintro ⟨a1, a2, a3⟩; exact e4 a2))
           go_wp2
           have hbF := ((((HR.out.fr HF2.out (by simp)).set_ 0 (.int .u32 0)).set_ 1 (.int .u32 0)).set_ 2 (.int .i64 0)).alloc (.cells #[.int .u32 (p.st.session : Int), .int .u32 (p.st.number : Int), .int .i64 (p.st.count : Int), .int .i64 (q.place : Int), .slice (some ⟨gk, 16, none⟩) q.b.length 48] 190); have hfF := lh (((((HF.out.trans HF2.out (by simp)).setCell (p := ⟨w.heap.size, 0, none⟩) (.inr (Nat.le_refl _)) (.int .u32 0)).setCell (p := ⟨w.heap.size, 1, none⟩) (.inr (Nat.le_refl _)) (.int .u32 0)).setCell (p := ⟨w.heap.size, 2, none⟩) (.inr (Nat.le_refl _)) (.int .i64 0)).alloc (.cells #[.int .u32 (p.st.session : Int), .int .u32 (p.st.number : Int), .int .i64 (p.st.count : Int), .int .i64 (q.place : Int), .slice (some ⟨gk, 16, none⟩) q.b.length 48] 190)); have d0 := hbF.at_ (i := 0) rfl; have d1 := hbF.at_ (i := 1) rfl; have d2 := hbF.at_ (i := 2) rfl; clear hbF
           revert hfF d0 d1 d2
           generalize (World.alloc (World.setCell (World.setCell (World.setCell w2 _ _) _ _) _ _) _) = wf; intro hfF d0 d1 d2; refine bodyPost_ret (v := .tuple #[.agg noStamp, .slice none 0 0, .bool false]) (by simp [results, Tryz.results93, go_sem, noStamp, d0, d1, d2]) rfl ?_; exact rec_no HCOL.out HC.out (HNO.out) hfF.out
         ·have HNO := lh (coll_no (st := p.st) HTK.out (fun x hx => by rw [hq] at hx; cases hx; rintro ⟨a1, a2, a3⟩; exact e3 (by rw [a1])))
          go_wp2
          have hbF := ((((HR.out.fr HF2.out (by simp)).set_ 0 (.int .u32 0)).set_ 1 (.int .u32 0)).set_ 2 (.int .i64 0)).alloc (.cells #[.int .u32 (p.st.session : Int), .int .u32 (p.st.number : Int), .int .i64 (q.st.count : Int), .int .i64 (q.place : Int), .slice (some ⟨gk, 16, none⟩) q.b.length 48] 190); have hfF := lh (((((HF.out.trans HF2.out (by simp)).setCell (p := ⟨w.heap.size, 0, none⟩) (.inr (Nat.le_refl _)) (.int .u32 0)).setCell (p := ⟨w.heap.size, 1, none⟩) (.inr (Nat.le_refl _)) (.int .u32 0)).setCell (p := ⟨w.heap.size, 2, none⟩) (.inr (Nat.le_refl _)) (.int .i64 0)).alloc (.cells #[.int .u32 (p.st.session : Int), .int .u32 (p.st.number : Int), .int .i64 (q.st.count : Int), .int .i64 (q.place : Int), .slice (some ⟨gk, 16, none⟩) q.b.length 48] 190)); have d0 := hbF.at_ (i := 0) rfl; have d1 := hbF.at_ (i := 1) rfl; have d2 := hbF.at_ (i := 2) rfl; clear hbF
          revert hfF d0 d1 d2
          generalize (World.alloc (World.setCell (World.setCell (World.setCell w2 _ _) _ _) _ _) _) = wf; intro hfF d0 d1 d2; refine bodyPost_ret (v := .tuple #[.agg noStamp, .slice none 0 0, .bool false]) (by simp [results, Tryz.results93, go_sem, noStamp, d0, d1, d2]) rfl ?_; exact rec_no HCOL.out HC.out (HNO.out) hfF.out
        ·have HNO := lh (coll_no (st := p.st) HTK.out (fun x hx => by rw [hq] at hx; cases hx; rintro ⟨a1, a2, a3⟩; exact e2 (by rw [a1])))
         go_wp2
         have hbF := ((((HR.out.fr HF2.out (by simp)).set_ 0 (.int .u32 0)).set_ 1 (.int .u32 0)).set_ 2 (.int .i64 0)).alloc (.cells #[.int .u32 (p.st.session : Int), .int .u32 (q.st.number : Int), .int .i64 (q.st.count : Int), .int .i64 (q.place : Int), .slice (some ⟨gk, 16, none⟩) q.b.length 48] 190); have hfF := lh (((((HF.out.trans HF2.out (by simp)).setCell (p := ⟨w.heap.size, 0, none⟩) (.inr (Nat.le_refl _)) (.int .u32 0)).setCell (p := ⟨w.heap.size, 1, none⟩) (.inr (Nat.le_refl _)) (.int .u32 0)).setCell (p := ⟨w.heap.size, 2, none⟩) (.inr (Nat.le_refl _)) (.int .i64 0)).alloc (.cells #[.int .u32 (p.st.session : Int), .int .u32 (q.st.number : Int), .int .i64 (q.st.count : Int), .int .i64 (q.place : Int), .slice (some ⟨gk, 16, none⟩) q.b.length 48] 190)); have d0 := hbF.at_ (i := 0) rfl; have d1 := hbF.at_ (i := 1) rfl; have d2 := hbF.at_ (i := 2) rfl; clear hbF
         revert hfF d0 d1 d2
         generalize (World.alloc (World.setCell (World.setCell (World.setCell w2 _ _) _ _) _ _) _) = wf; intro hfF d0 d1 d2; refine bodyPost_ret (v := .tuple #[.agg noStamp, .slice none 0 0, .bool false]) (by simp [results, Tryz.results93, go_sem, noStamp, d0, d1, d2]) rfl ?_; exact rec_no HCOL.out HC.out (HNO.out) hfF.out
       ·have HNO := lh (coll_no (st := p.st) HTK.out (fun x hx => by rw [hq] at hx; cases hx; rintro ⟨a1, a2, a3⟩; exact e1 (by rw [a1])))
        go_wp2
        have hbF := ((((HR.out.fr HF2.out (by simp)).set_ 0 (.int .u32 0)).set_ 1 (.int .u32 0)).set_ 2 (.int .i64 0)).alloc (.cells #[.int .u32 (q.st.session : Int), .int .u32 (q.st.number : Int), .int .i64 (q.st.count : Int), .int .i64 (q.place : Int), .slice (some ⟨gk, 16, none⟩) q.b.length 48] 190); have hfF := lh (((((HF.out.trans HF2.out (by simp)).setCell (p := ⟨w.heap.size, 0, none⟩) (.inr (Nat.le_refl _)) (.int .u32 0)).setCell (p := ⟨w.heap.size, 1, none⟩) (.inr (Nat.le_refl _)) (.int .u32 0)).setCell (p := ⟨w.heap.size, 2, none⟩) (.inr (Nat.le_refl _)) (.int .i64 0)).alloc (.cells #[.int .u32 (q.st.session : Int), .int .u32 (q.st.number : Int), .int .i64 (q.st.count : Int), .int .i64 (q.place : Int), .slice (some ⟨gk, 16, none⟩) q.b.length 48] 190)); have d0 := hbF.at_ (i := 0) rfl; have d1 := hbF.at_ (i := 1) rfl; have d2 := hbF.at_ (i := 2) rfl; clear hbF
        revert hfF d0 d1 d2
        generalize (World.alloc (World.setCell (World.setCell (World.setCell w2 _ _) _ _) _ _) _) = wf; intro hfF d0 d1 d2; refine bodyPost_ret (v := .tuple #[.agg noStamp, .slice none 0 0, .bool false]) (by simp [results, Tryz.results93, go_sem, noStamp, d0, d1, d2]) rfl ?_; exact rec_no HCOL.out HC.out (HNO.out) hfF.out
     ·have hkk : k = p.st.count := by omega
      have r0 := HR.out.at_ (i := 0) rfl; have r1 := HR.out.at_ (i := 1) rfl; have r2 := HR.out.at_ (i := 2) rfl; have rf := HR.out.free; clear hkc; have HKK := lh hkk; have hkc : ¬ (k : Int) < (p.st.count : Int) := by omega
      clear hkk
      go_wp2
      have hbF := ((HR.out.set_ 0 (.int .u32 (p.st.session : Int))).set_ 1 (.int .u32 (p.st.number : Int))).set_ 2 (.int .i64 (p.st.count : Int)); have hfF := lh (((HF.out.setCell (p := ⟨w.heap.size, 0, none⟩) (.inr (Nat.le_refl _)) (.int .u32 (p.st.session : Int))).setCell (p := ⟨w.heap.size, 1, none⟩) (.inr (Nat.le_refl _)) (.int .u32 (p.st.number : Int))).setCell (p := ⟨w.heap.size, 2, none⟩) (.inr (Nat.le_refl _)) (.int .i64 (p.st.count : Int))); have hoF := lh (own_fr HOWN.out ((((Fr.refl [w.heap.size] wr).setCell (p := ⟨w.heap.size, 0, none⟩) (.inl (by simp)) (.int .u32 (p.st.session : Int))).setCell (p := ⟨w.heap.size, 1, none⟩) (.inl (by simp)) (.int .u32 (p.st.number : Int))).setCell (p := ⟨w.heap.size, 2, none⟩) (.inl (by simp)) (.int .i64 (p.st.count : Int))) (fun g hg hm => own_ne HOWN.out HR.out (by decide) (by simp only [List.mem_singleton] at hm; rw [<- hm]; exact hg))); have d0 := hbF.at_ (i := 0) rfl; have d1 := hbF.at_ (i := 1) rfl; have d2 := hbF.at_ (i := 2) rfl; clear hbF
      revert hfF hoF d0 d1 d2
      generalize (World.setCell (World.setCell (World.setCell wr _ _) _ _) _ _) = wf; intro hfF hoF d0 d1 d2; refine bodyPost_ret (v := .tuple #[stampV p.st, .slice A acc.length co, .bool true]) (by simp [results, Tryz.results93, go_sem, stampV, d0, d1, d2]) rfl ?_; exact rec_yes HCOL.out HC.out HKK.out HH2.out HGE.out hoF.out hfF.out
end
end Go.Proofs.YtpjbdpepofnleaaGreat
