/-
  The contracts of slices.Chunk at bytes and 514: its closure, as an iterator that can be ranged over.
-/
import Derived.Test.YtidpleejgalljaaPc
import Derived.Test.YtidpleejgalljaaRegIn
namespace Go.Proofs.Ytidpleejgalljaa
open Go.RowKit Go.Shelf
attribute [local go_sem] Oper.semAt_some

theorem run_slice3 (A : Option Addr) (n c lo hi : Nat) (h1 : lo ≤ hi) (h2 : hi ≤ c) (w : World) :
    (Instr.sliceAt 35 (.slice A n c) (some (.int .i64 (lo : Int))) (some (.int .i64 (hi : Int))) (some (.int .i64 (hi : Int)))).run Try.prog w = .ok (.slice (if hi = lo then A else A.map (·.add lo)) (hi - lo) (hi - lo)) w := by
  have ht := Try.underlying35
  have hel : Try.prog.elem 35 = 5 := by simp [Program.elem, ht]
  obtain ⟨i, hi1, hi2⟩ := Option.map_eq_some_iff.1 size_u8
  have h5 : ∀ w, (sizeOf 5).run Try.prog w = .ok 1 w := fun w => by simp [sizeOf, typeInfo, go_sem, hi1, hi2]
  rw [run_sliceAt_slice (h := by rw [hel]; exact ht), run_slice_lhm (ht := by rw [hel]; exact ht) (h0 := by omega) (h1 := by omega) (h2 := by omega) (h3 := by omega), hel, h5]
  simp [Result.andThen, sliced]
/-- What the iterator reads between two rounds is kept. -/
def KeepsTwo (Bs Bn : Nat) (W W' : World) : Prop := W'.cell? ⟨Bs, 0, none⟩ = W.cell? ⟨Bs, 0, none⟩ ∧ W'.cell? ⟨Bn, 0, none⟩ = W.cell? ⟨Bn, 0, none⟩
theorem KeepsTwo.trans {Bs Bn : Nat} {A B C : World} (h : KeepsTwo Bs Bn A B) (k : KeepsTwo Bs Bn B C) : KeepsTwo Bs Bn A C := ⟨k.1.trans h.1, k.2.trans h.2⟩
/-- The chunk of a number. -/
def chV (g off k : Nat) : Value := .slice (some ⟨g, off + 514 * k, none⟩) 514 514
def firstN (m k : Nat) : List (Fin m) := (List.finRange m).take k
theorem firstN_succ {m k : Nat} (h : k < m) : firstN m (k + 1) = firstN m k ++ [⟨k, h⟩] := by
  unfold firstN
  rw [List.take_succ_eq_append_getElem (by simpa using h)]
  simp
theorem firstN_len {m k : Nat} (h : k ≤ m) : (firstN m k).length = k := by simp [firstN, h]

set_option maxRecDepth 100000 in
set_option maxHeartbeats 2000000 in
theorem chunk1_in (n l Bs Bn g off m cap : Nat) (A : Option Addr) (hA : 0 < m → A = some ⟨g, off, none⟩) (hcap : 514 * m ≤ cap) (hm : m ≤ 100000) (hn : 1 ≤ n) (J Jx : List (Fin m) → World → Prop)
    (hY : ∀ pre (x : Fin m) W, J pre W → pre.length < m → YieldAt Fence.wide (n - 1) Try.prog l #[chV g off x.1] W fun e W' =>
      (e = .returned (.bool true) ∧ J (pre ++ [x]) W' ∧ KeepsTwo Bs Bn W W') ∨ (e = .returned (.bool false) ∧ Jx (pre ++ [x]) W'))
    (hJd : ∀ pre W, J pre W → J pre W.drew)
    (W : World) (cBs : W.cell? ⟨Bs, 0, none⟩ = some (.slice A (514 * m) cap)) (cBn : W.cell? ⟨Bn, 0, none⟩ = some (.int .i64 514)) (h0 : J [] W) :
    CallsIn Fence.wide n Try.prog 48 #[.func (.yield l) #[] #[], .pointer (some ⟨Bs, 0, none⟩), .pointer (some ⟨Bn, 0, none⟩)] W fun e W' => (∃ v, e = .returned v) ∧
      ((∃ ys, ys = List.finRange m ∧ J ys W') ∨ (∃ pre, True ∧ Jx pre W')) := by
  refine callsIn_of_wp Try.func48 rfl trivial ?_ rfl
  simp only [Try.ntmps48, List.size_toArray, List.length_cons, List.length_nil, Nat.reduceAdd, Nat.reduceSub, Array.replicate_succ, Array.replicate_zero, List.push_toArray, List.append_toArray, List.nil_append, List.cons_append]
  gi_wp2
  gi_loopw [4] (fun i wr => ∃ k : Nat, k ≤ m ∧ i = .int .i64 ((514 * k : Nat) : Int) ∧ J (firstN m k) wr ∧ wr.cell? ⟨Bs, 0, none⟩ = some (.slice A (514 * m) cap) ∧ wr.cell? ⟨Bn, 0, none⟩ = some (.int .i64 514))
    (fun i _ => 514 * m - (intOf i).toNat)
  case atStart => exact ⟨0, Nat.zero_le _, rfl, h0, cBs, cBn⟩
  case round =>
    obtain ⟨k, hk, rfl, hJs, cs, cn⟩ := hrel
    by_cases hlt : k < m
    · obtain ⟨fn, tmps, assign, body, hy, hR⟩ := hY _ ⟨k, hlt⟩ wr.drew (hJd _ _ hJs) (by rw [firstN_len hk]; exact hlt)
      unfold chV at hy
      obtain rfl := hA (by omega)
      have hsl0 := slice_run_from Try.underlying35 size_u8 (some ⟨g, off, none⟩) (514 * m) cap (514 * k) .i64 (by omega)
      rw [if_neg (by omega)] at hsl0
      simp only [Option.map_some, Addr.add_mid] at hsl0
      have hmin : ∀ (ts : Array TypeId) (t : TypeId) (W : World), (Builtin.min_ ts t #[.int .i64 514, .int .i64 ((514 * m - 514 * k : Nat) : Int)]).run Try.prog W = .ok (.int .i64 514) W := fun ts t W => by
        rw [run_min_int2, if_neg (by omega)]
      have x1 : IntKind.i64.wrap (((514 * k : Nat) : Int) + 514) = ((514 * (k + 1) : Nat) : Int) := by rw [IntKind.wrap_i64]; omega
      have hsl3 := run_slice3 (some ⟨g, off, none⟩) (514 * m) cap (514 * k) (514 * (k + 1)) (by omega) (by omega)
      rw [if_neg (by omega), show 514 * (k + 1) - 514 * k = 514 by omega] at hsl3
      simp only [Option.map_some, Addr.add_mid] at hsl3
      gi_wp2
      refine wpIn_region_KW (fun W => W.cell? ⟨Bs, 0, none⟩ = some (.slice (some ⟨g, off, none⟩) (514 * m) cap) ∧ W.cell? ⟨Bn, 0, none⟩ = some (.int .i64 514)) [0, 1, 2, 3, 4, 5] (by kernel_rfl) ?_
      refine wpAnyK_take (i := 0) (some 13) ?vq1_0 rfl rfl (by kernel_rfl) (fun _ _ _ h => h) ⟨cs, cn⟩ (.inl ⟨rfl, fun W hW => ?yq1_0⟩) ?_
      case yq1_0 => (obtain ⟨c1', c2'⟩ := hW; go_simp) <;> with_reducible rfl
      simp only [Act.put, List.setIfInBounds_toArray, List.set_cons_zero, List.set_cons_succ]
      refine wpAnyK_take (i := 1) (some 14) ?vq1_1 rfl rfl (by kernel_rfl) (fun _ _ _ h => h) ⟨cs, cn⟩ (.inl ⟨rfl, fun W hW => ?yq1_1⟩) ?_
      case yq1_1 => (obtain ⟨c1', c2'⟩ := hW; go_simp) <;> with_reducible rfl
      simp only [Act.put, List.setIfInBounds_toArray, List.set_cons_zero, List.set_cons_succ]
      refine wpAnyK_take (i := 2) (some 15) ?vq1_2 rfl rfl (by kernel_rfl) (fun _ _ _ h => h) ⟨cs, cn⟩ (.inl ⟨rfl, fun W hW => ?yq1_2⟩) ?_
      case yq1_2 => (obtain ⟨c1', c2'⟩ := hW; go_simp) <;> with_reducible rfl
      simp only [Act.put, List.setIfInBounds_toArray, List.set_cons_zero, List.set_cons_succ]
      refine wpAnyK_take (i := 3) (some 16) (.slice (some ⟨g, off + 514 * k, none⟩) (514 * m - 514 * k) (cap - 514 * k)) rfl rfl (by kernel_rfl) (fun _ _ _ h => h) ⟨cs, cn⟩ (.inl ⟨rfl, fun W _ => exec_slice rfl rfl rfl rfl (hsl0 W)⟩) ?_
      simp only [Act.put, List.setIfInBounds_toArray, List.set_cons_zero, List.set_cons_succ]
      refine wpAnyK_take (i := 4) (some 17) ?vq1_4 rfl rfl (by kernel_rfl) (fun _ _ _ h => h) ⟨cs, cn⟩ (.inl ⟨rfl, fun W hW => ?yq1_4⟩) ?_
      case yq1_4 => (obtain ⟨c1', c2'⟩ := hW; go_simp) <;> with_reducible rfl
      simp only [Act.put, List.setIfInBounds_toArray, List.set_cons_zero, List.set_cons_succ]
      refine wpAnyK_take (i := 5) (some 18) ?vq1_5 rfl rfl (by kernel_rfl) (fun _ _ _ h => h) ⟨cs, cn⟩ (.inl ⟨rfl, fun W hW => ?yq1_5⟩) ?_
      case yq1_5 => (obtain ⟨c1', c2'⟩ := hW; go_simp) <;> with_reducible rfl
      simp only [Act.put, List.setIfInBounds_toArray, List.set_cons_zero, List.set_cons_succ]
      refine wpAnyK_step (j := 6) (some 5) rfl rfl (by kernel_rfl) rfl fun K hK => ?_
      refine wp_run_same (v := ?aq1_6) ?yq1_6 (hK _ _ (fun h => absurd h (by decide +kernel)) ?_)
      case yq1_6 => go_simp <;> with_reducible rfl
      simp only [Act.put, List.setIfInBounds_toArray, List.set_cons_zero, List.set_cons_succ]
      refine wpAnyK_done (by kernel_rfl) ?_ _
      have cs' : wr.drew.cell? ⟨Bs, 0, none⟩ = some (.slice (some ⟨g, off, none⟩) (514 * m) cap) := cs
      have cn' : wr.drew.cell? ⟨Bn, 0, none⟩ = some (.int .i64 514) := cn
      gi_wp2
      refine hR.mono ?_
      rintro e W3 (⟨rfl, hJ3, hk3⟩ | ⟨rfl, hJx3⟩)
      · have cs3 := hk3.1.trans cs'
        have cn3 := hk3.2.trans cn'
        gi_wp2
        go_roundw
        case rel => exact ⟨k + 1, by omega, by go_num, by rw [firstN_succ hlt]; exact hJ3, cs3, cn3⟩
        case measure => simp [intOf]; omega
      · gi_wp2
        refine bodyPost_ret (results_none rfl _ _ _) rfl ?_
        exact ⟨⟨_, rfl⟩, .inr ⟨_, trivial, hJx3⟩⟩
    · obtain rfl : k = m := by omega
      gi_wp2
      go_end0
      exact ⟨⟨_, rfl⟩, .inl ⟨_, by unfold firstN; rw [List.take_of_length_le (by simp)], hJs⟩⟩

theorem drew_grown (W : World) : W.grownBy W.drew none := ⟨rfl, rfl, rfl, Nat.le_refl _, fun _ _ _ => rfl⟩
theorem cell_below {w W : World} {b : Nat} {v : Value} (h : w.cell? ⟨b, 0, none⟩ = some v) (hW : Below w.heap.size w W) : W.cell? ⟨b, 0, none⟩ = some v :=
  (hW.cell (p := ⟨b, 0, none⟩) (World.block_lt_of_cell? w _ h)).trans h
/-- What Chunk gives can be ranged over: all chunks, in their order. -/
theorem chunk_stops (n Bs Bn g off m cap : Nat) (A : Option Addr) (hA : 0 < m → A = some ⟨g, off, none⟩) (hcap : 514 * m ≤ cap) (hm : m ≤ 100000) (hn : 1 ≤ n) (w : World)
    (cBs : w.cell? ⟨Bs, 0, none⟩ = some (.slice A (514 * m) cap)) (cBn : w.cell? ⟨Bn, 0, none⟩ = some (.int .i64 514)) :
    SeqStopsK Fence.wide n Try.prog 48 #[.pointer (some ⟨Bs, 0, none⟩), .pointer (some ⟨Bn, 0, none⟩)] (fun x : Fin m => #[chV g off x.1]) (KeepsTwo Bs Bn) (fun ys => ys = List.finRange m) (fun _ => True) m w := fun l J Jx W hW hJ _ hY h0 =>
  chunk1_in n l Bs Bn g off m cap A hA hcap hm hn J Jx hY (fun pre W h => hJ pre W W.drew none h (drew_grown W) (by simp)) W (cell_below cBs hW) (cell_below cBn hW) h0
set_option maxRecDepth 100000 in
theorem chunk_any (A : Option Addr) (n c : Nat) (w : World) : Calls Try.prog 39 #[.slice A n c, .int .i64 514] w fun e w' =>
    e = .returned (.func (.func 48) #[] #[.pointer (some ⟨w.heap.size, 0, none⟩), .pointer (some ⟨w.heap.size + 1, 0, none⟩)]) ∧ w' = (w.alloc (.cells #[.slice A n c] 35)).alloc (.cells #[.int .i64 514] 3) := by
  refine calls_post fun R HQ => ?_
  go_enter Try.func39, Try.ntmps39
  go_wp2_with fail
  exact HQ.out _ _ ⟨rfl, rfl⟩

end Go.Proofs.Ytidpleejgalljaa
