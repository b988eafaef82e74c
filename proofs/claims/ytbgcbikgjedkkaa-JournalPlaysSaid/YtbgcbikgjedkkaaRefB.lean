/-
  The contracts of the reference disk's New and Write. For every disk.
-/
import Derived.Test.YtbgcbikgjedkkaaRefA
namespace Go.Proofs.Ytbgcbikgjedkkaa
open Go.RowKit

section
variable {P : Program} {o : Oper} {a : Act} {w : World} {K : Act → World → Prop} {Q : Exit → Act → World → Prop}
/-- A call of a function of the program, by its contract. -/
theorem wp_call_f {f : FuncId} {l : List Operand} {tys : Array TypeId} (ho : o.op = .call { callee := .value (.func f), args := l.toArray, argTypes := tys }) (vs : List Value) (hvs : l.map a.eval = vs)
    (he : ∀ w, (callFunc f vs.toArray).run P w = .ok (.enter f vs.toArray) w)
    (hc : Calls P f vs.toArray w (fun e w' => ∃ v, e = .returned v ∧ K (a.put o.dst v) w')) : Oper.wp P o a w K Q := by
  unfold Oper.wp
  have hm : l.toArray.map a.eval = vs.toArray := by rw [← hvs]; simp
  have hrun : (execOp a.eval o).run P w = .ok (.enter f vs.toArray) w := by
    simp only [execOp, ho, resolve, hm]
    simp [invoke, Act.eval, he, Deferred.ofValue]
  rw [hrun]
  refine hc.mono ?_
  rintro e w' ⟨v, rfl, h⟩
  exact h
end
theorem enter_zeros (vs : Array Value) (w : World) : (callFunc 48 vs).run Try.prog w = .ok (.enter 48 vs) w := by kernel_rfl
theorem info_str : (Try.prog.info? 9).map (fun i => (i.zero, i.size, i.bytes)) = some (some (.string ByteArray.empty), 1, 16) := by kernel_rfl
theorem info_write : (Try.prog.info? 81).map (fun i => (i.zero, i.size, i.bytes)) = some (some (.agg #[.int .i64 0, .string ByteArray.empty]), 2, 24) := by kernel_rfl

set_option maxRecDepth 100000 in
set_option maxHeartbeats 400000 in
theorem rnew_no (n : Int) (w : World) (h : n < 1 ∨ 65536 < n) :
    Calls Try.prog 22 #[.int .i64 n] w fun e w' => e = .returned (.tuple #[.pointer none, .int .i64 1]) ∧ w = w' := by
  by_cases h1 : n < 1
  · clear h
    go_enter Try.func22, Try.ntmps22
    go_wp2
    go_ret2
    exact ⟨rfl, rfl⟩
  · have h2 : 65536 < n := by omega
    clear h
    go_enter Try.func22, Try.ntmps22
    go_wp2
    go_ret2
    exact ⟨rfl, rfl⟩

def RNewRel (w : World) (m n : Nat) (i : Value) (wr : World) : Prop :=
  ∃ (k : Nat) (sv : Value), k ≤ n ∧ i = .int .i64 k ∧ Blk wr m 48 [sv, .slice none 0 0, .int .i64 (-1), .bool false, .int .i64 0] ∧ wr.ownsRow 0 9 1 sv k ((List.replicate k zero64).map str) ∧ Fr [] w wr ∧ ∀ g, sv.ownBlock = some g → w.heap.size ≤ g

set_option maxRecDepth 100000 in
set_option maxHeartbeats 1000000 in
theorem rnew_ok (n : Nat) (w : World) (h1 : 1 ≤ n) (hn : n ≤ 65536) :
    Calls Try.prog 22 #[.int .i64 n] w fun e w' => ∃ m f, e = .returned (.tuple #[.pointer (some ⟨m, 0, none⟩), .int .i64 0]) ∧ RefAt w' m (DM.new n) f ∧ Fr [] w w' ∧ ∀ k ∈ f, w.heap.size ≤ k := by
  obtain ⟨i0, hi0, hz0, hz1, hz2⟩ := info_parts info_str
  have HI0 := Lib.hid hi0; have HZ0 := Lib.hid hz0; have HZ1 := Lib.hid hz1; have HZ2 := Lib.hid hz2; clear hi0 hz0 hz1 hz2
  go_enter Try.func22, Try.ntmps22
  go_wp2
  go_loopw [5] (RNewRel w w.heap.size n) (fun i _ => n - (intOf i).toNat)
  case atStart => exact ⟨0, .slice none 0 0, Nat.zero_le _, rfl, Blk.new w _ _, own_nil _ _ _ _, (Fr.refl [] w).alloc _, by simp [Value.ownBlock]⟩
  case round =>
    obtain ⟨k, sv, hk, rfl, hb, hown, hf, hge⟩ := hrel
    have HB := Lib.hid hb; have HOWN := Lib.hid hown; have HF := Lib.hid hf; have HGE := Lib.hid hge
    clear hb hown hf hge
    by_cases hkn : k < n
    · go_wp2_with fail
      have c0 : wr.cell? ⟨w.heap.size, 0, none⟩ = some sv := HB.out.at_ rfl
      refine wp_region_K (fun W => W.cell? ⟨w.heap.size, 0, none⟩ = some sv) [0, 1, 2, 3, 4] (by kernel_rfl) ?_
      refine wpAnyK_take (i := 0) (some 19) ?vn0 rfl rfl (by kernel_rfl) (fun _ _ _ h => h) c0 (.inl ⟨rfl, fun W hW => ?yn0⟩) ?rn0
      case yn0 => go_simp <;> with_reducible rfl
      simp only [Act.put, List.setIfInBounds_toArray, List.set_cons_zero, List.set_cons_succ]
      refine wpAnyK_take (i := 1) (some 20) ?vn1 rfl rfl (by kernel_rfl) (fun _ _ _ h => h) c0 (.inl ⟨rfl, fun W hW => ?yn1⟩) ?rn1
      case yn1 => go_simp <;> with_reducible rfl
      simp only [Act.put, List.setIfInBounds_toArray, List.set_cons_zero, List.set_cons_succ]
      refine wpAnyK_take (i := 2) (some 21) ?vn2 rfl rfl (by kernel_rfl) (fun _ _ _ h => h) c0 (.inl ⟨rfl, fun W hW => ?yn2⟩) ?rn2
      case yn2 => go_simp <;> with_reducible rfl
      simp only [Act.put, List.setIfInBounds_toArray, List.set_cons_zero, List.set_cons_succ]
      refine wpAnyK_take (i := 3) (some 22) ?vn3 rfl rfl (by kernel_rfl) (fun _ _ _ h => h) c0 (.inl ⟨rfl, fun W hW => ?yn3⟩) ?rn3
      case yn3 => go_simp <;> with_reducible rfl
      simp only [Act.put, List.setIfInBounds_toArray, List.set_cons_zero, List.set_cons_succ]
      refine wpAnyK_take (i := 4) (some 23) ?vn4 rfl rfl (by kernel_rfl) (fun _ _ _ h => h) c0 (.inl ⟨rfl, fun W hW => ?yn4⟩) ?rn4
      case yn4 => go_simp <;> with_reducible rfl
      simp only [Act.put, List.setIfInBounds_toArray, List.set_cons_zero, List.set_cons_succ]
      refine wpAnyK_step (j := 5) (some 24) rfl rfl (by kernel_rfl) rfl fun K hK => ?_
      refine wp_call_f (l := []) rfl [] rfl (enter_zeros _) ((zeros_any _).mono ?_)
      rintro e w1 ⟨rfl, hf1⟩
      have hf1' : Fr [] wr w1 := (Fr.refl [] wr).drew.trans hf1 (by simp)
      have hb1 := HB.out.fr hf1' (by simp)
      have ho1 := own_fr HOWN.out hf1' (by simp)
      have c1 : w1.cell? ⟨w.heap.size, 0, none⟩ = some sv := hb1.at_ rfl
      refine ⟨_, rfl, hK _ _ (fun _ => c1) ?_⟩
      simp only [Act.put, List.setIfInBounds_toArray, List.set_cons_zero, List.set_cons_succ]
      obtain ⟨zs, hzs⟩ : ∃ zs, str zero64 = .string zs := ⟨_, rfl⟩
      rw [hzs]
      have hf2 : Fr [] w1 (w1.alloc (.cells #[.string zs] 9)) := (Fr.refl [] w1).alloc _
      have c2 : (w1.alloc (.cells #[.string zs] 9)).cell? ⟨w.heap.size, 0, none⟩ = some sv := (hb1.fr hf2 (by simp)).at_ rfl
      have ho2 := own_fr ho1 hf2 (by simp)
      have hnw : Blk (w1.alloc (.cells #[.string zs] 9)) w1.heap.size 9 [.string zs] := Blk.new w1 _ _
      refine wpAnyK_step (j := 6) (some 25) rfl rfl (by kernel_rfl) rfl fun K hK => ?_
      refine wp_run_value (v := .slice (some ⟨w1.heap.size, 0, none⟩) 1 1) (w' := w1.alloc (.cells #[.string zs] 9)) (by go_simp) (hK _ _ (fun _ => c2) ?_)
      simp only [Act.put, List.setIfInBounds_toArray, List.set_cons_zero, List.set_cons_succ]
      refine wpAnyK_step (j := 7) (some 26) rfl rfl (by kernel_rfl) rfl fun K hK => ?_
      refine wp_append_lies _ (.tmp 23) (.tmp 25) 45 rfl 0 9 i0 (.string ByteArray.empty) 1 16 Try.underlying45 HI0.out HZ0.out HZ1.out HZ2.out rfl (by omega) sv k ((List.replicate k zero64).map str) rfl ho2 ⟨w1.heap.size, 0, none⟩ 1 1 [.string zs] rfl rfl (fun j u hu => by rw [Addr.add_mid, Nat.zero_add]; exact hnw.at_ hu) (by intro u hu; simp at hu; subst hu; rfl) (by omega) (by unfold maxLen; omega) (by omega) (Nat.zero_le _) _ rfl ?_
      intro g cap w3 hown3 hg3 hat3 hlt3
      have hsz : (w1.alloc (.cells #[.string zs] 9)).heap.size = w1.heap.size + 1 := by simp
      have hne : sv.ownBlock ≠ some w.heap.size := own_ne HOWN.out HB.out (by decide)
      have hb3 := (hb1.fr hf2 (by simp)).grown hg3 (fun e => hne e.symm)
      have c3 : w3.cell? ⟨w.heap.size, 0, none⟩ = some sv := hb3.at_ rfl
      have f3 := hb3.free 0
      refine hK _ _ (fun _ => c3) ?_
      simp only [Act.put, List.setIfInBounds_toArray, List.set_cons_zero, List.set_cons_succ]
      refine wpAnyK_step (j := 8) (some 27) rfl rfl (by kernel_rfl) rfl fun K hK => ?_
      refine wp_run_value (v := .pointer (some ⟨w.heap.size, 0, none⟩)) (w' := w3) (rfl) (hK _ _ (fun h => absurd h (by decide +kernel)) ?_)
      simp only [Act.put, List.setIfInBounds_toArray, List.set_cons_zero, List.set_cons_succ]
      refine wpAnyK_step (j := 9) (some 28) rfl rfl (by kernel_rfl) rfl fun K hK => ?_
      refine wp_run_value (v := .pointer (some ⟨w.heap.size, 0, none⟩)) (w' := w3) (by go_simp) (hK _ _ (fun h => absurd h (by decide +kernel)) ?_)
      simp only [Act.put, List.setIfInBounds_toArray, List.set_cons_zero, List.set_cons_succ]
      refine wpAnyK_step (j := 10) none rfl rfl (by kernel_rfl) rfl fun K hK => ?_
      refine wp_run_skip (w' := w3.setCell ⟨w.heap.size, 0, none⟩ (.slice (some ⟨g, 0, none⟩) (k + 1) cap)) (by go_simp) (hK _ _ (fun h => absurd h (by decide +kernel)) ?_)
      simp only [Act.put]
      refine wpAnyK_done (by kernel_rfl) ?_ _
      have hgw : w.heap.size ≤ g ∧ g ≠ w.heap.size := by
        have h1 := hf1'.size; have h2 := HF.out.size; have h3 := HB.out.lt
        rcases hat3 with h | h
        · exact ⟨HGE.out g h, fun e => hne (e ▸ h)⟩
        · rw [hsz] at h; omega
      have hfw : Fr [] w (w3.setCell ⟨w.heap.size, 0, none⟩ (.slice (some ⟨g, 0, none⟩) (k + 1) cap)) :=
        ((((HF.out.trans hf1' (by simp)).trans hf2 (by simp)).grown hg3 (fun g' hg' => .inr (HGE.out g' hg'))).setCell (by simp) _)
      have hbF := hb3.set_ 0 (.slice (some ⟨g, 0, none⟩) (k + 1) cap)
      have hoF := own_fr hown3 ((Fr.refl [w.heap.size] w3).setCell (p := ⟨w.heap.size, 0, none⟩) (by simp) (.slice (some ⟨g, 0, none⟩) (k + 1) cap)) (by simpa [Value.ownBlock] using hgw.2)
      have eL : (List.replicate k zero64).map str ++ [.string zs] = (List.replicate (k + 1) zero64).map str := by rw [← hzs, List.replicate_succ']; simp
      rw [eL] at hoF
      have HBF := Lib.hid hbF; have HOF := Lib.hid hoF; have HFW := Lib.hid hfw; have HGW := Lib.hid hgw
      clear hbF hoF hfw hgw eL c0 c1 c2 c3 f3 hb1 ho1 ho2 hnw hb3 hown3 hg3 hat3 hlt3 hne hsz hf1 hf1' hf2
      go_wp2
      go_roundw
      case rel => exact ⟨k + 1, .slice (some ⟨g, 0, none⟩) (k + 1) cap, by omega, by go_num, HBF.out, HOF.out, HFW.out, by simpa [Value.ownBlock] using HGW.out.1⟩
      case measure => simp [intOf]; omega
    · go_wp2
      go_ret2
      have ek : k = n := by omega
      subst ek
      refine ⟨w.heap.size, rfp w.heap.size sv (.slice none 0 0), rfl, ⟨sv, _, rfl, HB.out, ?_, own_nil _ _ _ _, DM.ok_new k h1 hn⟩, HF.out, ?_⟩
      · have := HOWN.out
        simpa [DM.new, zero64] using this
      · intro x hx
        simp only [rfp, List.mem_cons, List.mem_append, Option.mem_toList] at hx
        rcases hx with rfl | hx | hx
        · exact Nat.le_refl _
        · exact HGE.out x hx
        · simp [Value.ownBlock] at hx

end Go.Proofs.Ytbgcbikgjedkkaa
