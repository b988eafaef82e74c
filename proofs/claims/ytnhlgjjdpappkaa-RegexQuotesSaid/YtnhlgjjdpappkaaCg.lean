/-
  The contract of part: sets, rows, branches.
-/
import Derived.Test.YtnhlgjjdpappkaaCf
namespace Go.Proofs.Ytnhlgjjdpappkaa
open Go.RowKit

theorem enter_star (vs : Array Value) (w : World) : (callFunc 33 vs).run Try.prog w = .ok (.enter 33 vs) w := by kernel_rfl
theorem enter_maybe (vs : Array Value) (w : World) : (callFunc 34 vs).run Try.prog w = .ok (.enter 34 vs) w := by kernel_rfl
/-- What lies below B stays. -/
theorem CStep.cell {w w' : World} {gp B : Nat} {v v' : Value} {ops : List Rop} (k : CStep w w' gp v v') (h : CP w gp B v ops) {g o : Nat} {u : Value} (hg : g < B) (hc : w.cell? ⟨g, o, none⟩ = some u) : w'.cell? ⟨g, o, none⟩ = some u := by
  rw [k.1.cell (p := ⟨g, o, none⟩) (World.block_lt_of_cell? w _ hc) (fun hm => by
    rcases List.mem_cons.1 hm with e | e
    · have := h.lo; simp only at e; omega
    · have := (h.own g (by simpa using e)).1; omega)]
  exact hc
theorem Fr.cell_at {S : List Nat} {w w' : World} (h : Fr S w w') {g o : Nat} {u : Value} (hg : g ∉ S) (hc : w.cell? ⟨g, o, none⟩ = some u) : w'.cell? ⟨g, o, none⟩ = some u := by
  rw [h.cell (p := ⟨g, o, none⟩) (World.block_lt_of_cell? w _ hc) hg]; exact hc

set_option maxRecDepth 100000 in
set_option maxHeartbeats 1600000 in
theorem part_char {w : World} {gp B : Nat} {v : Value} {ops : List Rop} {cs : List Value} {neg : Bool} {set : List Sp} (h : CP w gp B v ops) (hp : PartAt w (fun g => g < B) (.char neg set) cs) (hB : B ≤ w.heap.size) (hn : ops.length + 1 < 90000) :
    Calls Try.prog 19 #[.pointer (some ⟨gp, 0, none⟩), .agg cs.toArray] w (LayRes w gp B v (ops ++ (Pt.char neg set).code ops.length)) := by
  -- the part (.char neg set), boxed
  refine calls_post fun R HQ => ?_
  obtain ⟨sv, lv, rfl, hs, hl⟩ := hp.inv
  have HSP := Lib.hid hs
  obtain ⟨A1, c1, rfl⟩ := hs.slice
  have HLP := Lib.hid hl
  obtain ⟨A, c, g, off, css, rfl, hc, hA, hcell, hsub⟩ := hl
  unfold pcells
  simp only [Pt.kind, Pt.neg, Pt.lo, Pt.hi, Pt.subs] at *
  have hfa : Fr [] w (w.alloc (.cells #[.int .i64 0, .bool neg, .slice A1 (Pt.set (.char neg set)).length c1, .slice A 0 c, .int .i64 0, .int .i64 0] 43)) := (Fr.refl [] w).alloc _
  have hsa : (w.alloc (.cells #[.int .i64 0, .bool neg, .slice A1 (Pt.set (.char neg set)).length c1, .slice A 0 c, .int .i64 0, .int .i64 0] 43)).heap.size = w.heap.size + 1 := by simp
  have HBX := Lib.hid (Blk.new w 43 [.int .i64 0, .bool neg, .slice A1 (Pt.set (.char neg set)).length c1, .slice A 0 c, .int .i64 0, .int .i64 0])
  have HC0 := Lib.hid (h.frn hfa); have HFA := Lib.hid hfa
  have HCELL := Lib.hid hcell; have HSUB := Lib.hid hsub; have HAA := Lib.hid hA
  have HOW : Hid (v.ownBlock ≠ some w.heap.size) := Lib.hid fun e => by have := h.lt.2 _ e; omega
  have hgp : gp < w.heap.size := h.lt.1
  clear h hs hA hcell hsub hfa hp
  go_enter Try.func19, Try.ntmps19
  go_wp2_with fail
  refine (put_any (o := .take neg set) HC0.out ⟨_, rfl, HSP.out.fr HFA.out (by simp)⟩ (by omega) (by omega)).mono ?_
  rintro e w1 ⟨rfl, v1, hC1, hS1⟩
  have HC1 := Lib.hid hC1; have HS1 := Lib.hid (CStep.pre HFA.out hS1)
  clear hC1 hS1
  go_wp2_with fail
  exact bodyPost_end (results_none rfl _ _ _) rfl (HQ.out _ _ ⟨rfl, v1, HC1.out, HS1.out⟩)

set_option maxRecDepth 100000 in
set_option maxHeartbeats 1600000 in
theorem part_pick {m : Nat} (IH : PartOK m) {w : World} {gp B : Nat} {v : Value} {ops : List Rop} {cs : List Value} {l : List Pt} (hm : ∀ p ∈ l, SizeOf.sizeOf p < m) (h : CP w gp B v ops) (hp : PartAt w (fun g => g < B) (.pick l) cs) (ho : (Pt.pick l).ok) (hB : B ≤ w.heap.size) (hn : ops.length + pickLen l < 90000) :
    Calls Try.prog 19 #[.pointer (some ⟨gp, 0, none⟩), .agg cs.toArray] w (LayRes w gp B v (ops ++ (Pt.pick l).code ops.length)) := by
  obtain ⟨o1, o2, o3⟩ := ho
  -- the part (.pick l), boxed
  refine calls_post fun R HQ => ?_
  obtain ⟨sv, lv, rfl, hs, hl⟩ := hp.inv
  have HSP := Lib.hid hs
  obtain ⟨A1, c1, rfl⟩ := hs.slice
  have HLP := Lib.hid hl
  obtain ⟨A, c, g, off, css, rfl, hc, hA, hcell, hsub⟩ := hl
  unfold pcells
  simp only [Pt.kind, Pt.neg, Pt.lo, Pt.hi, Pt.subs] at *
  have hfa : Fr [] w (w.alloc (.cells #[.int .i64 2, .bool false, .slice A1 (Pt.set (.pick l)).length c1, .slice A l.length c, .int .i64 0, .int .i64 0] 43)) := (Fr.refl [] w).alloc _
  have hsa : (w.alloc (.cells #[.int .i64 2, .bool false, .slice A1 (Pt.set (.pick l)).length c1, .slice A l.length c, .int .i64 0, .int .i64 0] 43)).heap.size = w.heap.size + 1 := by simp
  have HBX := Lib.hid (Blk.new w 43 [.int .i64 2, .bool false, .slice A1 (Pt.set (.pick l)).length c1, .slice A l.length c, .int .i64 0, .int .i64 0])
  have HC0 := Lib.hid (h.frn hfa); have HFA := Lib.hid hfa
  have HCELL := Lib.hid hcell; have HSUB := Lib.hid hsub; have HAA := Lib.hid hA
  have HOW : Hid (v.ownBlock ≠ some w.heap.size) := Lib.hid fun e => by have := h.lt.2 _ e; omega
  have hgp : gp < w.heap.size := h.lt.1
  clear h hs hA hcell hsub hfa hp
  go_enter Try.func19, Try.ntmps19
  go_wp2_with fail
  refine (pick_any IH hm HC0.out (HLP.out.fr HFA.out (by simp)) o3 o1 (by omega) hn o2).mono ?_
  rintro e w1 ⟨rfl, v1, hC1, hS1⟩
  have HC1 : Hid (CP w1 gp B v1 (ops ++ (Pt.pick l).code ops.length)) := Lib.hid (by rw [Pt.code]; exact hC1)
  have HS1 := Lib.hid (CStep.pre HFA.out hS1)
  clear hC1 hS1
  go_wp2_with fail
  exact bodyPost_end (results_none rfl _ _ _) rfl (HQ.out _ _ ⟨rfl, v1, HC1.out, HS1.out⟩)

set_option maxRecDepth 100000 in
set_option maxHeartbeats 1600000 in
theorem part_star {m : Nat} (IH : PartOK m) {w : World} {gp B : Nat} {v : Value} {ops : List Rop} {cs : List Value} {q : Pt} (hm : SizeOf.sizeOf q < m) (h : CP w gp B v ops) (hp : PartAt w (fun g => g < B) (.star q) cs) (ho : (Pt.star q).ok) (hB : B ≤ w.heap.size) (hn : ops.length + (q.len + 2) < 90000) :
    Calls Try.prog 19 #[.pointer (some ⟨gp, 0, none⟩), .agg cs.toArray] w (LayRes w gp B v (ops ++ (Pt.star q).code ops.length)) := by
  -- the part (.star q), boxed
  refine calls_post fun R HQ => ?_
  obtain ⟨sv, lv, rfl, hs, hl⟩ := hp.inv
  have HSP := Lib.hid hs
  obtain ⟨A1, c1, rfl⟩ := hs.slice
  have HLP := Lib.hid hl
  obtain ⟨A, c, g, off, css, rfl, hc, hA, hcell, hsub⟩ := hl
  unfold pcells
  simp only [Pt.kind, Pt.neg, Pt.lo, Pt.hi, Pt.subs] at *
  have hfa : Fr [] w (w.alloc (.cells #[.int .i64 3, .bool false, .slice A1 (Pt.set (.star q)).length c1, .slice A 1 c, .int .i64 0, .int .i64 0] 43)) := (Fr.refl [] w).alloc _
  have hsa : (w.alloc (.cells #[.int .i64 3, .bool false, .slice A1 (Pt.set (.star q)).length c1, .slice A 1 c, .int .i64 0, .int .i64 0] 43)).heap.size = w.heap.size + 1 := by simp
  have HBX := Lib.hid (Blk.new w 43 [.int .i64 3, .bool false, .slice A1 (Pt.set (.star q)).length c1, .slice A 1 c, .int .i64 0, .int .i64 0])
  have HC0 := Lib.hid (h.frn hfa); have HFA := Lib.hid hfa
  have HCELL := Lib.hid hcell; have HSUB := Lib.hid hsub; have HAA := Lib.hid hA
  have HOW : Hid (v.ownBlock ≠ some w.heap.size) := Lib.hid fun e => by have := h.lt.2 _ e; omega
  have hgp : gp < w.heap.size := h.lt.1
  clear h hs hA hcell hsub hfa hp
  go_enter Try.func19, Try.ntmps19
  -- the one part inside
  obtain ⟨rfl, hgB⟩ := HAA.out (by simp)
  obtain ⟨hc6, hck⟩ := HCELL.out 0 (by simp)
  have hq0 := HSUB.out 0 q rfl
  have HQ0 := Lib.hid (hq0.fr HFA.out (by simp))
  have HCK : Hid (∀ (j : Nat) (u : Value), (css 0)[j]? = some u → w.cell? ⟨g, off + j, none⟩ = some u) := Lib.hid fun j u hu => by have := hck j u hu; rwa [Nat.mul_zero, Nat.add_zero] at this
  have HQOK : Hid q.ok := Lib.hid ho.1
  clear hck hq0
  have b3 := HBX.out.at_ (i := 3) rfl
  have HGX : Hid (∀ (j : Nat) (u : Value), w.cell? ⟨g, off + j, none⟩ = some u → (w.alloc (.cells #[.int .i64 3, .bool false, .slice A1 (Pt.set (.star q)).length c1, .slice (some ⟨g, off, none⟩) 1 c, .int .i64 0, .int .i64 0] 43)).cell? ⟨g, off + j, none⟩ = some u) := Lib.hid fun j u hu => HFA.out.cell_at (by simp) hu
  have HCQ := Lib.hid (star_any IH hm HC0.out HQ0.out HQOK.out (by omega) hn)
  go_upto_region 13 with fail
  -- the part inside is loaded: region, the pointer in 42, the world WX; HFX : Fr .. w WX with g untouched
  refine wp_region_lit ?_
  refine wpList_plain rfl fun K hK => ?_
  refine wp_run_same (v := ?au2_0) ?yu2_0 (hK _ _ ?_)
  case yu2_0 => go_simp <;> with_reducible rfl
  clear hK K
  simp only [Act.put, List.setIfInBounds_toArray, List.set_cons_zero, List.set_cons_succ]
  refine wpList_plain rfl fun K hK => ?_
  refine wp_run_same (v := ?au3_1) ?yu3_1 (hK _ _ ?_)
  case yu3_1 => go_simp <;> with_reducible rfl
  clear hK K
  simp only [Act.put, List.setIfInBounds_toArray, List.set_cons_zero, List.set_cons_succ]
  refine wpList_plain rfl fun K hK => ?_
  refine wp_run_same (v := ?au4_2) ?yu4_2 (hK _ _ ?_)
  case yu4_2 => go_simp <;> with_reducible rfl
  clear hK K
  simp only [Act.put, List.setIfInBounds_toArray, List.set_cons_zero, List.set_cons_succ]
  refine wpList_plain rfl fun K hK => ?_
  refine wp_run_same (v := ?au5_3) ?yu5_3 (hK _ _ ?_)
  case yu5_3 => go_simp <;> with_reducible rfl
  clear hK K
  simp only [Act.put, List.setIfInBounds_toArray, List.set_cons_zero, List.set_cons_succ]
  refine wpList_plain rfl fun K hK => ?_
  refine wp_load_mid 43 (.tmp 42) rfl g off rfl (css 0) _ (fun j u hu => by
    have h1 := HCK.out j u hu
    exact HGX.out j u h1) Try.underlying43 rfl (by rw [hc6]; kernel_rfl) (hK _ _ ?_)
  simp only [Act.put, List.setIfInBounds_toArray, List.set_cons_zero, List.set_cons_succ]
  clear hK
  refine wpList_plain rfl fun K hK => ?_
  refine wp_callp (l := [.tmp 39, .tmp 43]) rfl [.pointer (some ⟨gp, 0, none⟩), .agg (css 0).toArray] rfl (enter_star _) (HCQ.out.mono ?_)
  rintro e w5 ⟨rfl, v5, hC5, hS5⟩
  refine .inl ⟨_, rfl, hK _ _ ?_⟩
  simp only [Act.put, List.setIfInBounds_toArray, List.set_cons_zero, List.set_cons_succ]
  clear hK
  refine wpList_nil ?_
  have HC5 : Hid (CP w5 gp B v5 (ops ++ (Pt.star q).code ops.length)) := Lib.hid (by rw [Pt.code]; exact hC5)
  have HS5 := Lib.hid (CStep.pre HFA.out hS5)
  clear hC5 hS5
  go_wp2_with fail
  exact bodyPost_end (results_none rfl _ _ _) rfl (HQ.out _ _ ⟨rfl, v5, HC5.out, HS5.out⟩)

set_option maxRecDepth 100000 in
set_option maxHeartbeats 1600000 in
theorem part_maybe {m : Nat} (IH : PartOK m) {w : World} {gp B : Nat} {v : Value} {ops : List Rop} {cs : List Value} {q : Pt} (hm : SizeOf.sizeOf q < m) (h : CP w gp B v ops) (hp : PartAt w (fun g => g < B) (.maybe q) cs) (ho : (Pt.maybe q).ok) (hB : B ≤ w.heap.size) (hn : ops.length + (1 + q.len) < 90000) :
    Calls Try.prog 19 #[.pointer (some ⟨gp, 0, none⟩), .agg cs.toArray] w (LayRes w gp B v (ops ++ (Pt.maybe q).code ops.length)) := by
  -- the part (.maybe q), boxed
  refine calls_post fun R HQ => ?_
  obtain ⟨sv, lv, rfl, hs, hl⟩ := hp.inv
  have HSP := Lib.hid hs
  obtain ⟨A1, c1, rfl⟩ := hs.slice
  have HLP := Lib.hid hl
  obtain ⟨A, c, g, off, css, rfl, hc, hA, hcell, hsub⟩ := hl
  unfold pcells
  simp only [Pt.kind, Pt.neg, Pt.lo, Pt.hi, Pt.subs] at *
  have hfa : Fr [] w (w.alloc (.cells #[.int .i64 5, .bool false, .slice A1 (Pt.set (.maybe q)).length c1, .slice A 1 c, .int .i64 0, .int .i64 0] 43)) := (Fr.refl [] w).alloc _
  have hsa : (w.alloc (.cells #[.int .i64 5, .bool false, .slice A1 (Pt.set (.maybe q)).length c1, .slice A 1 c, .int .i64 0, .int .i64 0] 43)).heap.size = w.heap.size + 1 := by simp
  have HBX := Lib.hid (Blk.new w 43 [.int .i64 5, .bool false, .slice A1 (Pt.set (.maybe q)).length c1, .slice A 1 c, .int .i64 0, .int .i64 0])
  have HC0 := Lib.hid (h.frn hfa); have HFA := Lib.hid hfa
  have HCELL := Lib.hid hcell; have HSUB := Lib.hid hsub; have HAA := Lib.hid hA
  have HOW : Hid (v.ownBlock ≠ some w.heap.size) := Lib.hid fun e => by have := h.lt.2 _ e; omega
  have hgp : gp < w.heap.size := h.lt.1
  clear h hs hA hcell hsub hfa hp
  go_enter Try.func19, Try.ntmps19
  -- the one part inside
  obtain ⟨rfl, hgB⟩ := HAA.out (by simp)
  obtain ⟨hc6, hck⟩ := HCELL.out 0 (by simp)
  have hq0 := HSUB.out 0 q rfl
  have HQ0 := Lib.hid (hq0.fr HFA.out (by simp))
  have HCK : Hid (∀ (j : Nat) (u : Value), (css 0)[j]? = some u → w.cell? ⟨g, off + j, none⟩ = some u) := Lib.hid fun j u hu => by have := hck j u hu; rwa [Nat.mul_zero, Nat.add_zero] at this
  have HQOK : Hid q.ok := Lib.hid ho.1
  clear hck hq0
  have b3 := HBX.out.at_ (i := 3) rfl
  have HGX : Hid (∀ (j : Nat) (u : Value), w.cell? ⟨g, off + j, none⟩ = some u → (w.alloc (.cells #[.int .i64 5, .bool false, .slice A1 (Pt.set (.maybe q)).length c1, .slice (some ⟨g, off, none⟩) 1 c, .int .i64 0, .int .i64 0] 43)).cell? ⟨g, off + j, none⟩ = some u) := Lib.hid fun j u hu => HFA.out.cell_at (by simp) hu
  have HCQ := Lib.hid (maybe_any (n := 1) IH hm HC0.out HQ0.out HQOK.out (by omega) (by omega) (by omega))
  go_upto_region 19 with fail
  -- the part inside is loaded: region, the pointer in 67, the world WX; HFX : Fr .. w WX with g untouched
  refine wp_region_lit ?_
  refine wpList_plain rfl fun K hK => ?_
  refine wp_run_same (v := ?au7_0) ?yu7_0 (hK _ _ ?_)
  case yu7_0 => go_simp <;> with_reducible rfl
  clear hK K
  simp only [Act.put, List.setIfInBounds_toArray, List.set_cons_zero, List.set_cons_succ]
  refine wpList_plain rfl fun K hK => ?_
  refine wp_run_same (v := ?au8_1) ?yu8_1 (hK _ _ ?_)
  case yu8_1 => go_simp <;> with_reducible rfl
  clear hK K
  simp only [Act.put, List.setIfInBounds_toArray, List.set_cons_zero, List.set_cons_succ]
  refine wpList_plain rfl fun K hK => ?_
  refine wp_run_same (v := ?au9_2) ?yu9_2 (hK _ _ ?_)
  case yu9_2 => go_simp <;> with_reducible rfl
  clear hK K
  simp only [Act.put, List.setIfInBounds_toArray, List.set_cons_zero, List.set_cons_succ]
  refine wpList_plain rfl fun K hK => ?_
  refine wp_run_same (v := ?au10_3) ?yu10_3 (hK _ _ ?_)
  case yu10_3 => go_simp <;> with_reducible rfl
  clear hK K
  simp only [Act.put, List.setIfInBounds_toArray, List.set_cons_zero, List.set_cons_succ]
  refine wpList_plain rfl fun K hK => ?_
  refine wp_load_mid 43 (.tmp 67) rfl g off rfl (css 0) _ (fun j u hu => by
    have h1 := HCK.out j u hu
    exact HGX.out j u h1) Try.underlying43 rfl (by rw [hc6]; kernel_rfl) (hK _ _ ?_)
  simp only [Act.put, List.setIfInBounds_toArray, List.set_cons_zero, List.set_cons_succ]
  clear hK
  refine wpList_plain rfl fun K hK => ?_
  refine wp_callp (l := [.tmp 64, .tmp 68, .const (.int .i64 1)]) rfl [.pointer (some ⟨gp, 0, none⟩), .agg (css 0).toArray, .int .i64 1] rfl (enter_maybe _) (HCQ.out.mono ?_)
  rintro e w5 ⟨rfl, v5, hC5, hS5⟩
  refine .inl ⟨_, rfl, hK _ _ ?_⟩
  simp only [Act.put, List.setIfInBounds_toArray, List.set_cons_zero, List.set_cons_succ]
  clear hK
  refine wpList_nil ?_
  have HC5 : Hid (CP w5 gp B v5 (ops ++ (Pt.maybe q).code ops.length)) := Lib.hid (by rw [Pt.code]; exact hC5)
  have HS5 := Lib.hid (CStep.pre HFA.out hS5)
  clear hC5 hS5
  go_wp2_with fail
  exact bodyPost_end (results_none rfl _ _ _) rfl (HQ.out _ _ ⟨rfl, v5, HC5.out, HS5.out⟩)

set_option maxRecDepth 100000 in
set_option maxHeartbeats 1600000 in
theorem part_plus {m : Nat} (IH : PartOK m) {w : World} {gp B : Nat} {v : Value} {ops : List Rop} {cs : List Value} {q : Pt} (hm : SizeOf.sizeOf q < m) (h : CP w gp B v ops) (hp : PartAt w (fun g => g < B) (.plus q) cs) (ho : (Pt.plus q).ok) (hB : B ≤ w.heap.size) (hn : ops.length + (q.len + 1) < 90000) :
    Calls Try.prog 19 #[.pointer (some ⟨gp, 0, none⟩), .agg cs.toArray] w (LayRes w gp B v (ops ++ (Pt.plus q).code ops.length)) := by
  -- the part (.plus q), boxed
  refine calls_post fun R HQ => ?_
  obtain ⟨sv, lv, rfl, hs, hl⟩ := hp.inv
  have HSP := Lib.hid hs
  obtain ⟨A1, c1, rfl⟩ := hs.slice
  have HLP := Lib.hid hl
  obtain ⟨A, c, g, off, css, rfl, hc, hA, hcell, hsub⟩ := hl
  unfold pcells
  simp only [Pt.kind, Pt.neg, Pt.lo, Pt.hi, Pt.subs] at *
  have hfa : Fr [] w (w.alloc (.cells #[.int .i64 4, .bool false, .slice A1 (Pt.set (.plus q)).length c1, .slice A 1 c, .int .i64 0, .int .i64 0] 43)) := (Fr.refl [] w).alloc _
  have hsa : (w.alloc (.cells #[.int .i64 4, .bool false, .slice A1 (Pt.set (.plus q)).length c1, .slice A 1 c, .int .i64 0, .int .i64 0] 43)).heap.size = w.heap.size + 1 := by simp
  have HBX := Lib.hid (Blk.new w 43 [.int .i64 4, .bool false, .slice A1 (Pt.set (.plus q)).length c1, .slice A 1 c, .int .i64 0, .int .i64 0])
  have HC0 := Lib.hid (h.frn hfa); have HFA := Lib.hid hfa
  have HCELL := Lib.hid hcell; have HSUB := Lib.hid hsub; have HAA := Lib.hid hA
  have HOW : Hid (v.ownBlock ≠ some w.heap.size) := Lib.hid fun e => by have := h.lt.2 _ e; omega
  have hgp : gp < w.heap.size := h.lt.1
  clear h hs hA hcell hsub hfa hp
  go_enter Try.func19, Try.ntmps19
  -- the one part inside
  obtain ⟨rfl, hgB⟩ := HAA.out (by simp)
  obtain ⟨hc6, hck⟩ := HCELL.out 0 (by simp)
  have hq0 := HSUB.out 0 q rfl
  have HQ0 := Lib.hid (hq0.fr HFA.out (by simp))
  have HCK : Hid (∀ (j : Nat) (u : Value), (css 0)[j]? = some u → w.cell? ⟨g, off + j, none⟩ = some u) := Lib.hid fun j u hu => by have := hck j u hu; rwa [Nat.mul_zero, Nat.add_zero] at this
  have HQOK : Hid q.ok := Lib.hid ho.1
  clear hck hq0
  have b3 := HBX.out.at_ (i := 3) rfl
  have HGX : Hid (∀ (j : Nat) (u : Value), w.cell? ⟨g, off + j, none⟩ = some u → (w.alloc (.cells #[.int .i64 4, .bool false, .slice A1 (Pt.set (.plus q)).length c1, .slice (some ⟨g, off, none⟩) 1 c, .int .i64 0, .int .i64 0] 43)).cell? ⟨g, off + j, none⟩ = some u) := Lib.hid fun j u hu => HFA.out.cell_at (by simp) hu
  have HCQ := Lib.hid (IH q hm _ gp B v ops (css 0) HC0.out HQ0.out HQOK.out (by omega) (by omega))
  have c0 := HC0.out.blk.at_ (i := 0) rfl
  obtain ⟨pA, pc, rfl⟩ := HC0.out.slice
  go_upto_region 16 with fail
  -- the part inside is loaded: region, the pointer in 55, the world WX; HFX : Fr .. w WX with g untouched
  refine wp_region_lit ?_
  refine wpList_plain rfl fun K hK => ?_
  refine wp_run_same (v := ?au12_0) ?yu12_0 (hK _ _ ?_)
  case yu12_0 => go_simp <;> with_reducible rfl
  clear hK K
  simp only [Act.put, List.setIfInBounds_toArray, List.set_cons_zero, List.set_cons_succ]
  refine wpList_plain rfl fun K hK => ?_
  refine wp_run_same (v := ?au13_1) ?yu13_1 (hK _ _ ?_)
  case yu13_1 => go_simp <;> with_reducible rfl
  clear hK K
  simp only [Act.put, List.setIfInBounds_toArray, List.set_cons_zero, List.set_cons_succ]
  refine wpList_plain rfl fun K hK => ?_
  refine wp_run_same (v := ?au14_2) ?yu14_2 (hK _ _ ?_)
  case yu14_2 => go_simp <;> with_reducible rfl
  clear hK K
  simp only [Act.put, List.setIfInBounds_toArray, List.set_cons_zero, List.set_cons_succ]
  refine wpList_plain rfl fun K hK => ?_
  refine wp_run_same (v := ?au15_3) ?yu15_3 (hK _ _ ?_)
  case yu15_3 => go_simp <;> with_reducible rfl
  clear hK K
  simp only [Act.put, List.setIfInBounds_toArray, List.set_cons_zero, List.set_cons_succ]
  refine wpList_plain rfl fun K hK => ?_
  refine wp_load_mid 43 (.tmp 55) rfl g off rfl (css 0) _ (fun j u hu => by
    have h1 := HCK.out j u hu
    exact HGX.out j u h1) Try.underlying43 rfl (by rw [hc6]; kernel_rfl) (hK _ _ ?_)
  simp only [Act.put, List.setIfInBounds_toArray, List.set_cons_zero, List.set_cons_succ]
  clear hK
  refine wpList_plain rfl fun K hK => ?_
  refine wp_callp (l := [.tmp 52, .tmp 56]) rfl [.pointer (some ⟨gp, 0, none⟩), .agg (css 0).toArray] rfl (enter_part _) (HCQ.out.mono ?_)
  rintro e w5 ⟨rfl, v5, hC5, hS5⟩
  refine .inl ⟨_, rfl, hK _ _ ?_⟩
  simp only [Act.put, List.setIfInBounds_toArray, List.set_cons_zero, List.set_cons_succ]
  clear hK
  refine wpList_nil ?_
  have HC5 := Lib.hid hC5; have HS5 := Lib.hid (CStep.pre HFA.out hS5)
  have hz5 := hS5.1.size
  clear hC5 hS5
  go_wp2_with fail
  refine (put_any HC5.out (fork_at w5 B ops.length) (by omega) (by rw [List.length_append, Pt.code_len]; omega)).mono ?_
  rintro e w6 ⟨rfl, v6, hC6, hS6⟩
  have HC6 : Hid (CP w6 gp B v6 (ops ++ (Pt.plus q).code ops.length)) := Lib.hid (by rw [Pt.code, ← List.append_assoc]; exact hC6)
  have HS6 := Lib.hid (HS5.out.trans hS6)
  clear hC6 hS6
  go_wp2_with fail
  exact bodyPost_end (results_none rfl _ _ _) rfl (HQ.out _ _ ⟨rfl, v6, HC6.out, HS6.out⟩)

end Go.Proofs.Ytnhlgjjdpappkaa
