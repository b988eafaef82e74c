/-
  The contract of reach.
-/
import Derived.Test.YtnhlgjjdpappkaaSb
import Derived.Test.YtnhlgjjdpappkaaSc
namespace Go.Proofs.Ytnhlgjjdpappkaa
open Go.RowKit

/-- The places that wait, in a slice of the call's own. -/
structure Wt (w w0 : World) (gn gb : Nat) (lv fv : Value) (wl : List Nat) : Prop where
  own : w.ownsRow 0 3 1 fv wl.length (wl.map I64)
  lo : ∀ g, fv.ownBlock = some g → w0.heap.size ≤ g ∧ g ≠ gn ∧ g ≠ gb ∧ lv.ownBlock ≠ some g
theorem own_pop {w : World} {base : Nat} {e : TypeId} {A : Option Addr} {n c : Nat} {xs : List Value} {x : Value} (h : w.ownsRow base e 1 (.slice A (n + 1) c) (n + 1) (xs ++ [x])) (hx : xs.length = n) : w.ownsRow base e 1 (.slice A n c) n xs := by
  refine ⟨by omega, ?_⟩
  rcases h.2 with ⟨hv, h0⟩ | ⟨g, cap, cur, hv, hb, hh, hn, hc, hs, ht⟩
  · omega
  · injection hv with h1 h2 h3
    subst h1 h3
    refine .inr ⟨g, c, cur, rfl, hb, hh, by omega, hc, hs, ?_⟩
    have h4 := congrArg (List.take n) ht
    rw [List.take_take, show min n ((n + 1) * 1) = n by omega, List.take_left' hx] at h4
    rw [Nat.mul_one]; exact h4
theorem Wt.push {w w3 w7 w0 : World} {gn gb : Nat} {lv fv : Value} {wl new : List Nat} {n k g7 cap H : Nat} (h : Wt w w0 gn gb lv fv wl) (hnn : n = wl.length) (hnk : k = new.length) (hf3 : Fr [] w w3) (hH : w.heap.size ≤ H) (hw0 : w0.heap.size ≤ H) (hgn : gn < H) (hgb : gb < H) (hov : ∀ g, lv.ownBlock = some g → g < H) (hf7 : Fr fv.ownBlock.toList w3 w7) (ho7 : w7.ownsRow 0 3 1 (.slice (some ⟨g7, 0, none⟩) (n + k) cap) (n + k) (wl.map I64 ++ new.map I64)) (hat : fv.ownBlock = some g7 ∨ g7 = H) :
    Wt w7 w0 gn gb lv (.slice (some ⟨g7, 0, none⟩) (n + k) cap) (wl ++ new) ∧ Fr fv.ownBlock.toList w w7 := by
  refine ⟨⟨by rw [List.length_append, ← hnn, ← hnk, List.map_append]; exact ho7, fun g hg => ?_⟩, (hf3.mono (by simp)).trans hf7 (fun x hx => .inl hx)⟩
  have e : g7 = g := by simpa [Value.ownBlock] using hg
  subst e
  rcases hat with e | e
  · exact h.lo _ e
  · exact ⟨by omega, by omega, by omega, fun e' => by have := hov _ e'; omega⟩
def RcRel (w : World) (gn kb gb : Nat) (lv0 : Value) (ops : List Rop) (m0 : List Bool) (at_ : Nat) (j : Nat) (v6 : Value) (wr : World) : Prop :=
  ∃ (m : List Bool) (l : List Nat) (lv : Value) (wl : List Nat), PlAt wr gn kb ops.length lv gb m l ∧ Wt wr w gn gb lv v6 wl ∧ PStep w wr gn gb lv0 lv ∧ RInv ops m0 at_ m wl ∧ 3 * (ops.length - m.count true) + wl.length ≤ j ∧ j ≤ 3 * ops.length + 1 ∧ w.heap.size ≤ wr.heap.size

set_option maxRecDepth 100000 in
set_option maxHeartbeats 1600000 in
theorem reach_any {w : World} {gp kb gn gb at_ : Nat} {ops : List Rop} {lv0 : Value} {m0 : List Bool} {l0 : List Nat} (h : PrgAt w gp kb ops) (hK : kb ≤ w.heap.size) (hp : PlAt w gn kb ops.length lv0 gb m0 l0) (hn : ops.length ≤ 100000) (hw : WF ops) (hat : at_ < ops.length) (hc : Closed ops m0) :
    Calls Try.prog 22 #[.pointer (some ⟨gp, 0, none⟩), .pointer (some ⟨gn, 0, none⟩), .int .i64 (at_ : Int)] w fun e w' => e = .returned (.tuple #[]) ∧ ∃ m l lv, PlAt w' gn kb ops.length lv gb m l ∧ PStep w w' gn gb lv0 lv ∧ Closed ops m ∧ ∀ i, marked m i ↔ marked m0 i ∨ Eps ops at_ i := by
  refine calls_post fun R HQ => ?_
  have HPG := Lib.hid h; have HPL := Lib.hid hp; have HW := Lib.hid hw; have HCL := Lib.hid hc
  have hml0 := hp.len
  have HLO0 := Lib.hid hp.lo
  have hlt := hp.lt
  clear h hp hw hc
  go_enter Try.func22, Try.ntmps22
  go_wp2_with fail
  go_loopg [6] (3 * ops.length + 1) (RcRel w gn kb gb lv0 ops m0 at_)
  case atStart =>
    refine ⟨m0, l0, lv0, [at_], HPL.out.frn ((Fr.refl [] w).alloc _), ⟨?_, fun g hg => ?_⟩, ⟨(Fr.refl _ _).alloc _, fun g hg => .inl hg⟩, RInv.start HCL.out, by simp; omega, Nat.le_refl _, by simp⟩
    · refine ⟨rfl, .inr ⟨w.heap.size, 1, #[.int .i64 (at_ : Int)], rfl, Nat.zero_le _, heap_alloc_new w _, Nat.le_refl _, by unfold maxLen; omega, rfl, rfl⟩⟩
    · have e : w.heap.size = g := by simpa [Value.ownBlock] using hg
      subst e
      exact ⟨Nat.le_refl _, by omega, by omega, fun e => by have := hlt.2.2 _ e; omega⟩
  case round =>
    obtain ⟨m, l, lv, wl, hP, hW, hS, hR, hj, hjb, hzw⟩ := hrel
    have HP := Lib.hid hP; have HWT := Lib.hid hW; have HS := Lib.hid hS; have HR := Lib.hid hR
    have hml := hP.len
    obtain ⟨A, c, rfl, hcc, _⟩ := own_shape hW.own
    clear hP hW hS hR HPL
    rcases List.eq_nil_or_concat wl with rfl | ⟨wl', x, rfl⟩
    · have HFI := Lib.hid HR.out.final
      go_wp2_with fail
      exact bodyPost_end (results_none rfl _ _ _) rfl (HQ.out _ _ ⟨rfl, m, l, lv, HP.out, HS.out, HFI.out.1, HFI.out.2⟩)
    · rw [List.concat_eq_append] at *
      have hwl : (wl' ++ [x]).length = wl'.length + 1 := by simp
      rw [hwl] at hcc hj ⊢
      obtain ⟨n, hnn⟩ : ∃ n, n = wl'.length := ⟨_, rfl⟩
      have HNN := Lib.hid hnn
      rw [← hnn] at hcc hj ⊢
      clear hwl hnn
      have hown : wr.ownsRow 0 3 1 (.slice A (n + 1) c) (n + 1) ((wl' ++ [x]).map I64) := by have := HWT.out.own; rw [show (wl' ++ [x]).length = n + 1 by rw [HNN.out]; simp] at this; exact this
      obtain ⟨g, rfl, hcell⟩ := own_cell hown (by omega)
      have cx := hcell n (I64 x) (by rw [HNN.out]; simp)
      unfold I64 at cx
      have hpop : Wt wr w gn gb lv (.slice (some ⟨g, 0, none⟩) n c) wl' := ⟨by have := own_pop (xs := wl'.map I64) (by simpa using hown) (by rw [HNN.out]; simp); rw [HNN.out] at this ⊢; exact this, HWT.out.lo⟩
      have HPOP := Lib.hid hpop
      have hxl : x < ops.length := (HR.out.wait x (by simp)).lt HW.out hat
      obtain ⟨b, hb⟩ : ∃ b, m[x]? = some b := ⟨_, List.getElem?_eq_getElem (by omega)⟩
      have n1 := HP.out.blk.at_ (i := 1) rfl
      have mx := HP.out.bools.at_ (i := x) (v := .bool b) (by rw [List.getElem?_map, hb]; rfl)
      have HBB := Lib.hid hb
      have hnb : n ≤ 300001 := by omega
      clear hown hcell hpop hb
      cases b with
      | true =>
        have HR2 := Lib.hid (HR.out.skip HBB.out)
        go_wp2_with fail
        go_roundg (gk - 1)
        case measure => omega
        case rel => exact ⟨m, l, lv, wl', HP.out, HPOP.out, HS.out, HR2.out, by rw [← HNN.out]; omega, by omega, hzw⟩
      | false =>
        have mf := HP.out.bools.free x
        obtain ⟨lA, lc, rfl, hlc, _⟩ := own_shape HP.out.own
        have hll := HP.out.cnt
        have hcm : m.count true ≤ m.length := List.count_le_length
        have hcs := count_set HBB.out
        have hcm' : (m.set x true).count true ≤ (m.set x true).length := List.count_le_length
        rw [List.length_set] at hcm'
        have hlb : l.length ≤ ops.length ∧ m.count true + 1 ≤ ops.length := by omega
        have HLL := Lib.hid hll; have HCS := Lib.hid hcs
        clear hll hcs hcm hcm'
        have n0 := HP.out.blk.at_ (i := 0) rfl
        have hlo := HP.out.lo
        have hplt := HP.out.lt
        go_upto_region 6 with fail
        have hf1 : Fr [gb] wr (wr.setCell ⟨gb, x, none⟩ (.bool true)) := (Fr.refl _ _).setCell (.inl (by simp)) _
        have hb1 := HP.out.bools.set_ x (.bool true)
        have hn1' := HP.out.blk.fr hf1 (by simpa using hlo.2.2.1)
        have how1 := own_fr HP.out.own hf1 (fun g' hg' => by have := (hlo.2.2.2 g' hg').2.2; simpa using this)
        have hwt1 : Wt (wr.setCell ⟨gb, x, none⟩ (.bool true)) w gn gb (.slice lA l.length lc) (.slice (some ⟨g, 0, none⟩) n c) wl' := ⟨own_fr HPOP.out.own hf1 (fun g' hg' => by have := (HPOP.out.lo g' hg').2.2.1; simpa using this), HPOP.out.lo⟩
        have hz1 : (wr.setCell ⟨gb, x, none⟩ (.bool true)).heap.size = wr.heap.size := by simp
        generalize wr.setCell ⟨gb, x, none⟩ (.bool true) = w1 at *
        clear mx mf n1 n0 cx
        have n0 := hn1'.at_ (i := 0) rfl
        refine wp_region_lit ?_
        refine wpList_plain rfl fun K hK => ?_
        refine wp_run_same (v := ?au2_0) ?yu2_0 (hK _ _ ?_)
        case yu2_0 => go_simp <;> with_reducible rfl
        clear hK K
        simp only [Act.put, List.setIfInBounds_toArray, List.set_cons_zero, List.set_cons_succ]
        refine wpList_plain rfl fun K hK => ?_
        refine wp_run_same (v := ?au3_1) ?yu3_1 (hK _ _ ?_)
        case yu3_1 => go_simp <;> with_reducible rfl
        clear hK K
        simp only [Act.put, List.setIfInBounds_toArray, List.set_cons_zero, List.set_cons_succ]
        refine wpList_plain rfl fun K hK => ?_
        refine wp_run_same (v := ?au4_2) ?yu4_2 (hK _ _ ?_)
        case yu4_2 => go_simp <;> with_reducible rfl
        clear hK K
        simp only [Act.put, List.setIfInBounds_toArray, List.set_cons_zero, List.set_cons_succ]
        refine wpList_plain rfl fun K hK => ?_
        refine wp_run_same (v := ?au5_3) ?yu5_3 (hK _ _ ?_)
        case yu5_3 => go_simp <;> with_reducible rfl
        clear hK K
        simp only [Act.put, List.setIfInBounds_toArray, List.set_cons_zero, List.set_cons_succ]
        refine wpList_plain rfl fun K hK => ?_
        refine wp_run_same (v := ?au6_4) ?yu6_4 (hK _ _ ?_)
        case yu6_4 => go_simp <;> with_reducible rfl
        clear hK K
        simp only [Act.put, List.setIfInBounds_toArray, List.set_cons_zero, List.set_cons_succ]
        refine wpList_plain rfl fun K hK => ?_
        refine wp_run_same (v := ?au7_5) ?yu7_5 (hK _ _ ?_)
        case yu7_5 => go_simp <;> with_reducible rfl
        clear hK K
        simp only [Act.put, List.setIfInBounds_toArray, List.set_cons_zero, List.set_cons_succ]
        refine wpList_plain rfl fun K hK => ?_
        obtain ⟨iu, hi, hz', hsz', hby⟩ := info_parts info_int
        refine wp_build_cell (.tmp 42) rfl Try.underlying74 hi hz' hsz' rfl (.int .i64 (x : Int)) rfl rfl w1.heap.size rfl fun w2 hbn hfn2 hsn => hK _ _ ?_
        simp only [Act.put, List.setIfInBounds_toArray, List.set_cons_zero, List.set_cons_succ]
        clear hK
        refine wpList_plain rfl fun K hK => ?_
        refine wp_append_fr (.tmp 41) (.tmp 43) rfl 3 1 8 Try.underlying74 hi hz' hsz' hby rfl (by omega) (.slice lA l.length lc) l.length (l.map I64) rfl (own_fr how1 hfn2 (by simp)) ⟨w1.heap.size, 0, none⟩ 1 1 [.int .i64 (x : Int)] rfl rfl (fun j u hu => by rw [Addr.add_mid, Nat.zero_add]; exact hbn.at_ hu) (by intro u hu; simp at hu; subst hu; rfl) (by omega) (by unfold maxLen; omega) (by omega) (w1.heap.size + 1) hsn fun g7 cap w7 ho7 hf7 hat7 hlt7 => hK _ _ ?_
        simp only [Act.put, List.setIfInBounds_toArray, List.set_cons_zero, List.set_cons_succ]
        clear hK
        have hf17 : Fr (Value.slice lA l.length lc).ownBlock.toList w1 w7 := (hfn2.mono (by simp)).trans hf7 (fun x hx => .inl hx)
        have hlS : ∀ y ∈ (Value.slice lA l.length lc).ownBlock.toList, kb ≤ y ∧ y ≠ gn ∧ y ≠ gb := fun y hy => hlo.2.2.2 y (by simpa using hy)
        have hn7 := hn1'.fr hf17 (fun hm' => (hlS _ hm').2.1 rfl)
        have hb7 := hb1.fr hf17 (fun hm' => (hlS _ hm').2.2 rfl)
        have n7 := hn7.at_ (i := 0) rfl
        have n7f := hn7.free 0
        refine wpList_plain rfl fun K hK => ?_
        refine wp_run_same (v := ?au8_8) ?yu8_8 (hK _ _ ?_)
        case yu8_8 => go_simp <;> with_reducible rfl
        clear hK K
        simp only [Act.put, List.setIfInBounds_toArray, List.set_cons_zero, List.set_cons_succ]
        refine wpList_plain rfl fun K hK => ?_
        refine wp_run_same (v := ?au9_9) ?yu9_9 (hK _ _ ?_)
        case yu9_9 => go_simp <;> with_reducible rfl
        clear hK K
        simp only [Act.put, List.setIfInBounds_toArray, List.set_cons_zero, List.set_cons_succ]
        refine wpList_plain rfl fun K hK => ?_
        refine wp_run_skip (w' := w7.setCell ⟨gn, 0, none⟩ (.slice (some ⟨g7, 0, none⟩) (l.length + 1) cap)) (by go_simp) (hK _ _ ?_)
        simp only [Act.put]
        clear hK
        refine wpList_nil ?_
        have hg7 : kb ≤ g7 ∧ g7 ≠ gn ∧ g7 ≠ gb ∧ ((Value.slice lA l.length lc).ownBlock = some g7 ∨ wr.heap.size ≤ g7) ∧ ∀ y, (Value.slice (some ⟨g, 0, none⟩) n c).ownBlock = some y → g7 ≠ y := by
          rcases hat7 with e | e
          · obtain ⟨a1, a2, a3⟩ := hlo.2.2.2 g7 e
            exact ⟨a1, a2, a3, .inl e, fun y hy ey => (HPOP.out.lo y hy).2.2.2 (ey ▸ e)⟩
          · refine ⟨by omega, by omega, by omega, .inr (by omega), fun y hy ey => ?_⟩
            have := own_lt HPOP.out.own y hy
            omega
        have hf78 : Fr [gn] w7 (w7.setCell ⟨gn, 0, none⟩ (.slice (some ⟨g7, 0, none⟩) (l.length + 1) cap)) := (Fr.refl _ _).setCell (.inl (by simp)) _
        have hP8 : PlAt (w7.setCell ⟨gn, 0, none⟩ (.slice (some ⟨g7, 0, none⟩) (l.length + 1) cap)) gn kb ops.length (.slice (some ⟨g7, 0, none⟩) (l.length + 1) cap) gb (m.set x true) (l ++ [x]) := by
          refine ⟨hn7.set_ 0 _, ?_, by rw [List.length_set]; exact hml, ?_, ⟨hlo.1, hlo.2.1, hlo.2.2.1, fun g' hg' => ?_⟩, fun i => ?_, ?_⟩
          · have := hb7.fr hf78 (by simpa using (Ne.symm hlo.2.2.1))
            rwa [← List.map_set] at this
          · rw [show (l ++ [x]).length = l.length + 1 by simp, List.map_append]
            exact own_fr ho7 hf78 (fun g' hg' => by have e : g7 = g' := by simpa [Value.ownBlock] using hg'
                                                    have := hg7.2.1; simp; omega)
          · have e : g7 = g' := by simpa [Value.ownBlock] using hg'
            exact e ▸ ⟨hg7.1, hg7.2.1, hg7.2.2.1⟩
          · rw [List.mem_append, HP.out.mem i]
            have := marked_set (m := m) (x := x) (i := i) (by omega)
            unfold marked at this
            rw [this]
            simp only [List.mem_singleton]
            exact or_comm
          · rw [HCS.out, List.length_append, HLL.out]; rfl
        have hwlS : ∀ y, (Value.slice (some ⟨g, 0, none⟩) n c).ownBlock = some y → y ∉ (Value.slice lA l.length lc).ownBlock.toList ∧ y ≠ gn := fun y hy => ⟨fun hm' => (HPOP.out.lo y hy).2.2.2 (by simpa using hm'), (HPOP.out.lo y hy).2.1⟩
        have hW8 : Wt (w7.setCell ⟨gn, 0, none⟩ (.slice (some ⟨g7, 0, none⟩) (l.length + 1) cap)) w gn gb (.slice (some ⟨g7, 0, none⟩) (l.length + 1) cap) (.slice (some ⟨g, 0, none⟩) n c) wl' := by
          refine ⟨own_fr (own_fr hwt1.own hf17 (fun y hy => (hwlS y hy).1)) hf78 (fun y hy => by simpa using (hwlS y hy).2), fun y hy => ⟨(HPOP.out.lo y hy).1, (HPOP.out.lo y hy).2.1, (HPOP.out.lo y hy).2.2.1, fun e => ?_⟩⟩
          have e' : g7 = y := by simpa [Value.ownBlock] using e
          exact hg7.2.2.2.2 y hy e'
        have hS8 : PStep wr (w7.setCell ⟨gn, 0, none⟩ (.slice (some ⟨g7, 0, none⟩) (l.length + 1) cap)) gn gb (.slice lA l.length lc) (.slice (some ⟨g7, 0, none⟩) (l.length + 1) cap) := by
          refine ⟨((hf1.mono (by simp)).trans hf17 (fun y hy => .inl (List.mem_cons_of_mem _ (List.mem_cons_of_mem _ hy)))).trans hf78 (fun y hy => .inl (by simp at hy; simp [hy])), fun g' hg' => ?_⟩
          have e : g7 = g' := by simpa [Value.ownBlock] using hg'
          exact e ▸ hg7.2.2.2.1
        have HP8 := Lib.hid hP8; have HW8 := Lib.hid hW8; have HS8 := Lib.hid (HS.out.trans hS8)
        have hz8 : wr.heap.size ≤ (w7.setCell ⟨gn, 0, none⟩ (.slice (some ⟨g7, 0, none⟩) (l.length + 1) cap)).heap.size := hS8.1.size
        clear hP8 hW8 hS8 hwlS hf78 hg7 n7 n7f hb7 hn7 hlS hf17 hf7 ho7 hat7 hlt7 hbn hfn2 hsn hwt1 how1 hn1' hb1 hf1 n0 hi hz' hsz' hby
        generalize w7.setCell ⟨gn, 0, none⟩ (.slice (some ⟨g7, 0, none⟩) (l.length + 1) cap) = w8 at *
        have hpg8 := HPG.out.fr HS8.out.1 (fun y hy => by
          have h0 := HLO0.out
          rcases List.mem_cons.1 hy with rfl | hy
          · exact h0.1
          · rcases List.mem_cons.1 hy with rfl | hy
            · exact h0.2.1
            · exact (h0.2.2.2 y (by simpa using hy)).1)
        obtain ⟨hgpk, go, c', hgo, hc', hblk, hops⟩ := hpg8
        have p0 := hblk.at_ (i := 0) rfl
        obtain ⟨o, hox⟩ : ∃ o, ops[x]? = some o := ⟨_, List.getElem?_eq_getElem hxl⟩
        obtain ⟨cs, hoa, hocs⟩ := hops x o hox
        have HOX := Lib.hid hox
        have hplt8 := HP8.out.lt
        have HP8L := Lib.hid hplt8.2.2
        have hgn8 := hplt8.1
        have hgb8 := hplt8.2.1
        clear hblk hops hox hplt8
        cases o with
        | take neg set =>
          obtain ⟨sv, rfl, hsv⟩ := hoa
          obtain ⟨sA, sc, rfl⟩ := hsv.slice
          clear hsv
          have o0 := hocs 0 _ rfl
          have o1 := hocs 1 _ rfl
          have o2 := hocs 2 _ rfl
          have o3 := hocs 3 _ rfl
          rw [Nat.add_zero] at o0
          clear hocs
          have HR8 := Lib.hid (HR.out.mark (new := []) (by omega) (fun j => by unfold Succ; rw [HOX.out]; simp))
          go_wp2_with fail
          go_roundg (gk - 1)
          case measure => omega
          case rel => exact ⟨m.set x true, l ++ [x], _, wl', HP8.out.frn ((Fr.refl [] _).alloc _), ⟨own_fr HW8.out.own ((Fr.refl [] _).alloc _) (by simp), HW8.out.lo⟩, HS8.out.frS ((Fr.refl [] _).alloc _) (by simp), by simpa using HR8.out, by rw [HCS.out, ← HNN.out]; omega, by omega, by simp; omega⟩
        | done =>
          unfold OpAt at hoa
          subst hoa
          have o0 := hocs 0 _ rfl
          have o1 := hocs 1 _ rfl
          have o2 := hocs 2 _ rfl
          have o3 := hocs 3 _ rfl
          rw [Nat.add_zero] at o0
          clear hocs
          have HR8 := Lib.hid (HR.out.mark (new := []) (by omega) (fun j => by unfold Succ; rw [HOX.out]; simp))
          go_wp2_with fail
          go_roundg (gk - 1)
          case measure => omega
          case rel => exact ⟨m.set x true, l ++ [x], _, wl', HP8.out.frn ((Fr.refl [] _).alloc _), ⟨own_fr HW8.out.own ((Fr.refl [] _).alloc _) (by simp), HW8.out.lo⟩, HS8.out.frS ((Fr.refl [] _).alloc _) (by simp), by simpa using HR8.out, by rw [HCS.out, ← HNN.out]; omega, by omega, by simp; omega⟩
        | leap t =>
          unfold OpAt at hoa
          subst hoa
          have o0 := hocs 0 _ rfl
          have o1 := hocs 1 _ rfl
          have o2 := hocs 2 _ rfl
          have o3 := hocs 3 _ rfl
          rw [Nat.add_zero] at o0
          clear hocs
          have HR8 := Lib.hid (HR.out.mark (new := [t]) (by omega) (fun j => by unfold Succ; rw [HOX.out]; simp))
          go_upto_region 12 with fail
          refine wp_region_lit ?_
          refine wpList_plain rfl fun K hK => ?_
          refine wp_run_same (v := ?au11_0) ?yu11_0 (hK _ _ ?_)
          case yu11_0 => go_simp <;> with_reducible rfl
          clear hK K
          simp only [Act.put, List.setIfInBounds_toArray, List.set_cons_zero, List.set_cons_succ]
          refine wpList_plain rfl fun K hK => ?_
          refine wp_run_same (v := ?au12_1) ?yu12_1 (hK _ _ ?_)
          case yu12_1 => go_simp <;> with_reducible rfl
          clear hK K
          simp only [Act.put, List.setIfInBounds_toArray, List.set_cons_zero, List.set_cons_succ]
          refine wpList_plain rfl fun K hK => ?_
          refine wp_run_same (v := ?au13_2) ?yu13_2 (hK _ _ ?_)
          case yu13_2 => go_simp <;> with_reducible rfl
          clear hK K
          simp only [Act.put, List.setIfInBounds_toArray, List.set_cons_zero, List.set_cons_succ]
          refine wpList_plain rfl fun K hK => ?_
          obtain ⟨iu, hi, hz', hsz', hby⟩ := info_parts info_int
          refine wp_build_cell (.tmp 69) rfl Try.underlying74 hi hz' hsz' rfl (.int .i64 (t : Int)) rfl rfl (w8.heap.size + 1) (by simp) fun w10 hbn hfn2 hsn => hK _ _ ?_
          simp only [Act.put, List.setIfInBounds_toArray, List.set_cons_zero, List.set_cons_succ]
          clear hK
          have hfa : Fr [] w8 w10 := ((Fr.refl [] w8).alloc _).trans hfn2 (by simp)
          refine wpList_plain rfl fun K hK => ?_
          refine wp_append_fr (.tmp 67) (.tmp 70) rfl 3 1 8 Try.underlying74 hi hz' hsz' hby rfl (by omega) (.slice (some ⟨g, 0, none⟩) n c) n (wl'.map I64) rfl (by have := own_fr HW8.out.own hfa (by simp); rwa [← HNN.out] at this) ⟨w8.heap.size + 1, 0, none⟩ 1 1 [.int .i64 (t : Int)] rfl rfl (fun j u hu => by rw [Addr.add_mid, Nat.zero_add]; exact hbn.at_ hu) (by intro u hu; simp at hu; subst hu; rfl) (by omega) (by unfold maxLen; omega) (by omega) (w8.heap.size + 1 + 1) hsn fun g9 cap9 w12 ho9 hf9 hat9 hlt9 => hK _ _ ?_
          simp only [Act.put, List.setIfInBounds_toArray, List.set_cons_zero, List.set_cons_succ]
          clear hK
          refine wpList_plain rfl fun K hK => ?_
          refine wp_run_same (v := ?au14_5) ?yu14_5 (hK _ _ ?_)
          case yu14_5 => go_simp <;> with_reducible rfl
          clear hK K
          simp only [Act.put, List.setIfInBounds_toArray, List.set_cons_zero, List.set_cons_succ]
          refine wpList_nil ?_
          have hwp := Wt.push (new := [t]) (k := 1) (H := w8.heap.size + 1 + 1) HW8.out HNN.out rfl hfa (by omega) (by omega) (by omega) (by omega) (fun g' hg' => by have := HP8L.out g' hg'; omega) hf9 ho9 hat9
          obtain ⟨hwp1, hwp2⟩ := hwp
          have hS12 : ∀ y ∈ (Value.slice (some ⟨g, 0, none⟩) n c).ownBlock.toList, w.heap.size ≤ y ∧ y ≠ gn ∧ y ≠ gb ∧ (Value.slice (some ⟨g7, 0, none⟩) (l.length + 1) cap).ownBlock ≠ some y := fun y hy => HW8.out.lo y (by simpa using hy)
          have HP12 := Lib.hid (HP8.out.fr hwp2 (fun hm' => (hS12 _ hm').2.1 rfl) (fun hm' => (hS12 _ hm').2.2.1 rfl) (fun g' hg' hm' => (hS12 g' hm').2.2.2 hg'))
          have HS12 := Lib.hid (HS8.out.frS hwp2 (fun y hy => (hS12 y hy).1))
          have HW12 := Lib.hid hwp1
          have hz12 := hwp2.size
          clear hwp1 hwp2 hS12 hf9 ho9 hat9 hlt9 hbn hi hz' hsz' hby o0 o1 o2 o3 p0
          go_wp2_with fail
          go_roundg (gk - 1)
          case measure => omega
          case rel => exact ⟨m.set x true, l ++ [x], _, wl' ++ [t], HP12.out, HW12.out, HS12.out, HR8.out, by rw [HCS.out, List.length_append, ← HNN.out]; simp only [List.length_cons, List.length_nil]; omega, by omega, by omega⟩
        | fork t =>
          unfold OpAt at hoa
          subst hoa
          have o0 := hocs 0 _ rfl
          have o1 := hocs 1 _ rfl
          have o2 := hocs 2 _ rfl
          have o3 := hocs 3 _ rfl
          rw [Nat.add_zero] at o0
          clear hocs
          have HR8 := Lib.hid (HR.out.mark (new := [t, x + 1]) (by omega) (fun j => by unfold Succ; rw [HOX.out]; simp))
          have xw : IntKind.i64.wrap ((x : Int) + 1) = (x : Int) + 1 := by rw [IntKind.wrap_i64]; omega
          go_upto_region 10 with fail
          refine wp_region_lit ?_
          refine wpList_plain rfl fun K hK => ?_
          refine wp_run_same (v := ?au16_0) ?yu16_0 (hK _ _ ?_)
          case yu16_0 => go_simp <;> with_reducible rfl
          clear hK K
          simp only [Act.put, List.setIfInBounds_toArray, List.set_cons_zero, List.set_cons_succ]
          refine wpList_plain rfl fun K hK => ?_
          refine wp_run_same (v := ?au17_1) ?yu17_1 (hK _ _ ?_)
          case yu17_1 => go_simp <;> with_reducible rfl
          clear hK K
          simp only [Act.put, List.setIfInBounds_toArray, List.set_cons_zero, List.set_cons_succ]
          refine wpList_plain rfl fun K hK => ?_
          refine wp_run_same (v := ?au18_2) ?yu18_2 (hK _ _ ?_)
          case yu18_2 => go_simp <;> with_reducible rfl
          clear hK K
          simp only [Act.put, List.setIfInBounds_toArray, List.set_cons_zero, List.set_cons_succ]
          refine wpList_plain rfl fun K hK => ?_
          refine wp_run_same (v := ?au19_3) ?yu19_3 (hK _ _ ?_)
          case yu19_3 => go_simp <;> with_reducible rfl
          clear hK K
          simp only [Act.put, List.setIfInBounds_toArray, List.set_cons_zero, List.set_cons_succ]
          refine wpList_plain rfl fun K hK => ?_
          refine wp_run_same (v := ?au20_4) ?yu20_4 (hK _ _ ?_)
          case yu20_4 => go_simp <;> with_reducible rfl
          clear hK K
          simp only [Act.put, List.setIfInBounds_toArray, List.set_cons_zero, List.set_cons_succ]
          refine wpList_plain rfl fun K hK => ?_
          obtain ⟨iu, hi, hz', hsz', hby⟩ := info_parts info_int
          refine wp_run_value (v := .slice (some ⟨w8.heap.size + 1, 0, none⟩) 2 2) (w' := (w8.alloc (.cells #[.int .i64 1, .bool false, .slice none 0 0, .int .i64 (t : Int)] 52)).alloc (.cells #[.int .i64 (t : Int), .int .i64 ((x : Int) + 1)] 3)) (by go_simp) (hK _ _ ?_)
          simp only [Act.put, List.setIfInBounds_toArray, List.set_cons_zero, List.set_cons_succ]
          clear hK
          have hfa : Fr [] w8 ((w8.alloc (.cells #[.int .i64 1, .bool false, .slice none 0 0, .int .i64 (t : Int)] 52)).alloc (.cells #[.int .i64 (t : Int), .int .i64 ((x : Int) + 1)] 3)) := ((Fr.refl [] w8).alloc _).alloc _
          have hbn := Blk.new (w8.alloc (.cells #[.int .i64 1, .bool false, .slice none 0 0, .int .i64 (t : Int)] 52)) 3 [.int .i64 (t : Int), .int .i64 ((x : Int) + 1)]
          rw [show (w8.alloc (.cells #[.int .i64 1, .bool false, .slice none 0 0, .int .i64 (t : Int)] 52)).heap.size = w8.heap.size + 1 by simp] at hbn
          have hsn : ((w8.alloc (.cells #[.int .i64 1, .bool false, .slice none 0 0, .int .i64 (t : Int)] 52)).alloc (.cells #[.int .i64 (t : Int), .int .i64 ((x : Int) + 1)] 3)).heap.size = w8.heap.size + 1 + 1 := by simp
          generalize (w8.alloc (.cells #[.int .i64 1, .bool false, .slice none 0 0, .int .i64 (t : Int)] 52)).alloc (.cells #[.int .i64 (t : Int), .int .i64 ((x : Int) + 1)] 3) = w10 at *
          refine wpList_plain rfl fun K hK => ?_
          refine wp_append_fr (.tmp 58) (.tmp 63) rfl 3 1 8 Try.underlying74 hi hz' hsz' hby rfl (by omega) (.slice (some ⟨g, 0, none⟩) n c) n (wl'.map I64) rfl (by have := own_fr HW8.out.own hfa (by simp); rwa [← HNN.out] at this) ⟨w8.heap.size + 1, 0, none⟩ 2 2 [.int .i64 (t : Int), .int .i64 ((x : Int) + 1)] rfl rfl (fun j u hu => by rw [Addr.add_mid, Nat.zero_add]; exact hbn.at_ hu) (by intro u hu; simp at hu; rcases hu with rfl | rfl <;> rfl) (by omega) (by unfold maxLen; omega) (by omega) (w8.heap.size + 1 + 1) hsn fun g9 cap9 w12 ho9 hf9 hat9 hlt9 => hK _ _ ?_
          simp only [Act.put, List.setIfInBounds_toArray, List.set_cons_zero, List.set_cons_succ]
          clear hK xw
          refine wpList_plain rfl fun K hK => ?_
          refine wp_run_same (v := ?au21_7) ?yu21_7 (hK _ _ ?_)
          case yu21_7 => go_simp <;> with_reducible rfl
          clear hK K
          simp only [Act.put, List.setIfInBounds_toArray, List.set_cons_zero, List.set_cons_succ]
          refine wpList_nil ?_
          have hwp := Wt.push (new := [t, x + 1]) (k := 2) (H := w8.heap.size + 1 + 1) HW8.out HNN.out rfl hfa (by omega) (by omega) (by omega) (by omega) (fun g' hg' => by have := HP8L.out g' hg'; omega) hf9 ho9 hat9
          obtain ⟨hwp1, hwp2⟩ := hwp
          have hS12 : ∀ y ∈ (Value.slice (some ⟨g, 0, none⟩) n c).ownBlock.toList, w.heap.size ≤ y ∧ y ≠ gn ∧ y ≠ gb ∧ (Value.slice (some ⟨g7, 0, none⟩) (l.length + 1) cap).ownBlock ≠ some y := fun y hy => HW8.out.lo y (by simpa using hy)
          have HP12 := Lib.hid (HP8.out.fr hwp2 (fun hm' => (hS12 _ hm').2.1 rfl) (fun hm' => (hS12 _ hm').2.2.1 rfl) (fun g' hg' hm' => (hS12 g' hm').2.2.2 hg'))
          have HS12 := Lib.hid (HS8.out.frS hwp2 (fun y hy => (hS12 y hy).1))
          have HW12 := Lib.hid hwp1
          have hz12 := hwp2.size
          clear hwp1 hwp2 hS12 hf9 ho9 hat9 hlt9 hbn hi hz' hsz' hby o0 o1 o2 o3 p0
          go_wp2_with fail
          go_roundg (gk - 1)
          case measure => omega
          case rel => exact ⟨m.set x true, l ++ [x], _, wl' ++ [t, x + 1], HP12.out, HW12.out, HS12.out, HR8.out, by rw [HCS.out, List.length_append, ← HNN.out]; simp only [List.length_cons, List.length_nil]; omega, by omega, by omega⟩

end Go.Proofs.Ytnhlgjjdpappkaa
