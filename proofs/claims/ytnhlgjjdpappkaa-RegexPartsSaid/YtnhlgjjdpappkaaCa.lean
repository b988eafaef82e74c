/-
  A pattern's program in memory; the contracts of put and here.
-/
import Derived.Test.YtnhlgjjdpappkaaRr
namespace Go.Proofs.Ytnhlgjjdpappkaa
open Go.RowKit

/-- An op's cells; its set lies below block B. -/
def OpAt (w : World) (B : Nat) : Rop → List Value → Prop
  | .take neg set, cs => ∃ sv, cs = [.int .i64 0, .bool neg, sv, .int .i64 0] ∧ SpansAt w (fun g => g < B) sv set
  | .fork t, cs => cs = [.int .i64 1, .bool false, .slice none 0 0, .int .i64 (t : Int)]
  | .leap t, cs => cs = [.int .i64 2, .bool false, .slice none 0 0, .int .i64 (t : Int)]
  | .done, cs => cs = [.int .i64 3, .bool false, .slice none 0 0, .int .i64 0]
theorem OpAt.len {w : World} {B : Nat} {o : Rop} {cs : List Value} (h : OpAt w B o cs) : cs.length = 4 := by
  cases o with
  | take neg set => obtain ⟨sv, rfl, _⟩ := h; rfl
  | fork t => unfold OpAt at h; subst h; rfl
  | leap t => unfold OpAt at h; subst h; rfl
  | done => unfold OpAt at h; subst h; rfl
theorem OpAt.one {w : World} {B : Nat} {o : Rop} {cs : List Value} (h : OpAt w B o cs) : ∀ u ∈ cs, u.oneCell' = true := by
  cases o with
  | take neg set =>
    obtain ⟨sv, rfl, hs⟩ := h
    obtain ⟨A, c, rfl⟩ := hs.slice
    intro u hu
    simp only [List.mem_cons, List.not_mem_nil, or_false] at hu
    rcases hu with rfl | rfl | rfl | rfl <;> rfl
  | fork t => unfold OpAt at h; subst h; intro u hu; simp only [List.mem_cons, List.not_mem_nil, or_false] at hu; rcases hu with rfl | rfl | rfl | rfl <;> rfl
  | leap t => unfold OpAt at h; subst h; intro u hu; simp only [List.mem_cons, List.not_mem_nil, or_false] at hu; rcases hu with rfl | rfl | rfl | rfl <;> rfl
  | done => unfold OpAt at h; subst h; intro u hu; simp only [List.mem_cons, List.not_mem_nil, or_false] at hu; rcases hu with rfl | rfl | rfl | rfl <;> rfl
theorem OpAt.fr {S : List Nat} {w w' : World} {B : Nat} {o : Rop} {cs : List Value} (h : OpAt w B o cs) (hf : Fr S w w') (hS : ∀ x ∈ S, B ≤ x) : OpAt w' B o cs := by
  cases o with
  | take neg set => obtain ⟨sv, hc, hs⟩ := h; exact ⟨sv, hc, hs.fr hf (fun g hg hm => by have := hS g hm; omega)⟩
  | fork t => exact h
  | leap t => exact h
  | done => exact h
/-- The program at block gp: its ops, in the slice v. All that it made lies from B on. -/
structure CP (w : World) (gp B : Nat) (v : Value) (ops : List Rop) : Prop where
  blk : Blk w gp 48 [v]
  lo : B ≤ gp
  ex : ∃ css : List (List Value), css.length = ops.length ∧ w.ownsRow 0 52 4 v ops.length css.flatten ∧ ∀ (i : Nat) (o : Rop) (cs : List Value), ops[i]? = some o → css[i]? = some cs → OpAt w B o cs
  own : ∀ g, v.ownBlock = some g → B ≤ g ∧ g ≠ gp
/-- What a step of the laying leaves alone. -/
def CStep (w w' : World) (gp : Nat) (v v' : Value) : Prop := Fr (gp :: v.ownBlock.toList) w w' ∧ ∀ g, v'.ownBlock = some g → v.ownBlock = some g ∨ w.heap.size ≤ g
theorem CStep.refl (w : World) (gp : Nat) (v : Value) : CStep w w gp v v := ⟨Fr.refl _ _, fun _ h => .inl h⟩
theorem CStep.trans {a b c : World} {gp : Nat} {u v x : Value} (h : CStep a b gp u v) (k : CStep b c gp v x) : CStep a c gp u x := by
  refine ⟨h.1.trans k.1 (fun y hy => ?_), fun g hg => ?_⟩
  · rcases List.mem_cons.1 hy with rfl | hy
    · exact .inl (by simp)
    · rcases h.2 y (by simpa using hy) with h1 | h1
      · exact .inl (List.mem_cons_of_mem _ (by simpa using h1))
      · exact .inr h1
  · rcases k.2 g hg with h1 | h1
    · exact h.2 g h1
    · right; have := h.1.size; omega
theorem CStep.pre {a b c : World} {gp : Nat} {v x : Value} (h : Fr [] a b) (k : CStep b c gp v x) : CStep a c gp v x :=
  ⟨(h.mono (by simp)).trans k.1 (fun y hy => .inl hy), fun g hg => by rcases k.2 g hg with h1 | h1; exact .inl h1; right; have := h.size; omega⟩
theorem CStep.fr {a b c : World} {gp : Nat} {v x : Value} (k : CStep a b gp v x) (h : Fr [] b c) : CStep a c gp v x := ⟨k.1.trans h (by simp), k.2⟩
theorem CP.fr {S : List Nat} {w w' : World} {gp B : Nat} {v : Value} {ops : List Rop} (h : CP w gp B v ops) (hf : Fr S w w') (h1 : gp ∉ S) (h2 : ∀ g, v.ownBlock = some g → g ∉ S) (hS : ∀ x ∈ S, B ≤ x) : CP w' gp B v ops := by
  obtain ⟨css, a1, a2, a3⟩ := h.ex
  exact ⟨h.blk.fr hf h1, h.lo, ⟨css, a1, own_fr a2 hf h2, fun i o cs ho hc => (a3 i o cs ho hc).fr hf hS⟩, h.own⟩
theorem CP.frn {w w' : World} {gp B : Nat} {v : Value} {ops : List Rop} (h : CP w gp B v ops) (hf : Fr [] w w') : CP w' gp B v ops := h.fr hf (by simp) (by simp) (by simp)
/-- A part below B stays. -/
theorem CStep.part {w w' : World} {gp B : Nat} {v v' : Value} {ops : List Rop} {p : Pt} {cs : List Value} (k : CStep w w' gp v v') (h : CP w gp B v ops) (hp : PartAt w (fun g => g < B) p cs) : PartAt w' (fun g => g < B) p cs :=
  hp.fr k.1 (fun g hg hm => by
    rcases List.mem_cons.1 hm with rfl | hm
    · have := h.lo; omega
    · have := (h.own g (by simpa using hm)).1; omega)
theorem CP.slice {w : World} {gp B : Nat} {v : Value} {ops : List Rop} (h : CP w gp B v ops) : ∃ A c, v = .slice A ops.length c := by
  obtain ⟨css, a1, a2, a3⟩ := h.ex
  obtain ⟨A, c, hv, _⟩ := own_shape a2
  exact ⟨A, c, hv⟩
theorem info_op : (Try.prog.info? 52).map (fun i => (i.zero, i.size, i.bytes)) = some (some (.agg #[.int .i64 0, .bool false, .slice none 0 0, .int .i64 0]), 4, 48) := by kernel_rfl

/-- An op more. -/
theorem put_step {w w3 w7 : World} {gp B : Nat} {v : Value} {ops : List Rop} {o : Rop} {cs : List Value} {css : List (List Value)} {g7 cap H : Nat} (h : CP w gp B v ops) (ho : OpAt w B o cs) (hf3 : Fr [] w w3) (hf7 : Fr v.ownBlock.toList w3 w7) (hcl : css.length = ops.length) (hown : w.ownsRow 0 52 4 v ops.length css.flatten)
    (hel : ∀ (i : Nat) (o : Rop) (cs : List Value), ops[i]? = some o → css[i]? = some cs → OpAt w B o cs) (ho7 : w7.ownsRow 0 52 4 (.slice (some ⟨g7, 0, none⟩) (ops.length + 1) cap) (ops.length + 1) (css.flatten ++ cs)) (hat : v.ownBlock = some g7 ∨ g7 = H) (hH : B ≤ H) (hgp : gp < H - 1) (_ : 0 < H) :
    CP (w7.setCell ⟨gp, 0, none⟩ (.slice (some ⟨g7, 0, none⟩) (ops.length + 1) cap)) gp B (.slice (some ⟨g7, 0, none⟩) (ops.length + 1) cap) (ops ++ [o]) ∧ Fr (gp :: v.ownBlock.toList) w (w7.setCell ⟨gp, 0, none⟩ (.slice (some ⟨g7, 0, none⟩) (ops.length + 1) cap)) := by
  have hno : v.ownBlock ≠ some gp := fun e => (h.own gp e).2 rfl
  have hf : Fr v.ownBlock.toList w w7 := (hf3.mono (by simp)).trans hf7 (fun x hx => .inl hx)
  have hf8 : Fr (gp :: v.ownBlock.toList) w (w7.setCell ⟨gp, 0, none⟩ (.slice (some ⟨g7, 0, none⟩) (ops.length + 1) cap)) := (hf.mono (fun x hx => .inl (List.mem_cons_of_mem _ hx))).setCell (.inl (by simp)) _
  have hS : ∀ x ∈ (gp :: v.ownBlock.toList), B ≤ x := fun x hx => by
    rcases List.mem_cons.1 hx with rfl | hx
    · exact h.lo
    · exact (h.own x (by simpa using hx)).1
  have hg : B ≤ g7 ∧ g7 ≠ gp := by
    rcases hat with e | e
    · exact h.own g7 e
    · omega
  refine ⟨⟨(h.blk.fr hf (by simpa using hno)).set_ 0 _, h.lo, ⟨css ++ [cs], by simp [hcl], ?_, fun i o' cs' h1 h2 => ?_⟩, fun g hg' => ?_⟩, hf8⟩
  · rw [show (ops ++ [o]).length = ops.length + 1 by simp, List.flatten_append]
    refine own_fr (by simpa using ho7) ((Fr.refl [gp] w7).setCell (.inl (by simp)) _) (fun g hg' => ?_)
    have e : g7 = g := by simpa [Value.ownBlock] using hg'
    simp; omega
  · by_cases hi : i < ops.length
    · rw [List.getElem?_append_left hi] at h1
      rw [List.getElem?_append_left (by omega)] at h2
      exact (hel i o' cs' h1 h2).fr hf8 hS
    · have hil : i = ops.length := by have := (List.getElem?_eq_some_iff.1 h1).1; simp at this; omega
      subst hil
      simp at h1
      rw [← hcl] at h2
      simp at h2
      subst h1 h2
      exact ho.fr hf8 hS
  · have e : g7 = g := by simpa [Value.ownBlock] using hg'
    exact e ▸ hg

set_option maxRecDepth 100000 in
theorem put_any {w : World} {gp B : Nat} {v : Value} {ops : List Rop} {o : Rop} {cs : List Value} (h : CP w gp B v ops) (ho : OpAt w B o cs) (hB : B ≤ w.heap.size) (hn : ops.length < 100000) :
    Calls Try.prog 20 #[.pointer (some ⟨gp, 0, none⟩), .agg cs.toArray] w fun e w' => e = .returned (.int .i64 (ops.length : Int)) ∧ ∃ v', CP w' gp B v' (ops ++ [o]) ∧ CStep w w' gp v v' := by
  refine calls_post fun R HQ => ?_
  have hcl := ho.len
  have hone := ho.one
  have hgl := h.blk.lt
  have HH := Lib.hid h; have HO := Lib.hid ho
  obtain ⟨A, c, rfl⟩ := h.slice
  clear h ho
  obtain ⟨x0, x1, x2, x3, rfl⟩ : ∃ x0 x1 x2 x3, cs = [x0, x1, x2, x3] := by
    match cs, hcl with
    | [x0, x1, x2, x3], _ => exact ⟨x0, x1, x2, x3, rfl⟩
  have HB0 := Lib.hid (Blk.new w 52 [x0, x1, x2, x3])
  have HC0 := Lib.hid (HH.out.frn ((Fr.refl [] w).alloc (.cells #[x0, x1, x2, x3] 52)))
  have HF0 : Hid (Fr [] w (w.alloc (.cells #[x0, x1, x2, x3] 52))) := Lib.hid ((Fr.refl [] w).alloc _)
  have HO0 := Lib.hid (HO.out.fr HF0.out (by simp))
  have hz0 : (w.alloc (.cells #[x0, x1, x2, x3] 52)).heap.size = w.heap.size + 1 := by simp
  have o0 := hone x0 (by simp)
  have o1 := hone x1 (by simp)
  have o2 := hone x2 (by simp)
  have o3 := hone x3 (by simp)
  have HONE := Lib.hid hone
  clear hone hcl
  go_enter Try.func20, Try.ntmps20
  go_wp2_with fail
  generalize w.alloc (.cells #[x0, x1, x2, x3] 52) = w1 at *
  have c0 := HC0.out.blk.at_ (i := 0) rfl
  refine wp_region_K (fun W => W.cell? ⟨gp, 0, none⟩ = some (.slice A ops.length c) ∧ Blk W w.heap.size 52 [x0, x1, x2, x3]) [0, 1, 2, 3, 4, 5] (by kernel_rfl) ?_
  refine wpAnyK_take (i := 0) (some 5) ?vq1_0 rfl rfl (by kernel_rfl) (fun _ _ _ h => h) ⟨c0, HB0.out⟩ (.inl ⟨rfl, fun W hW => ?yq1_0⟩) ?_
  case yq1_0 => (obtain ⟨c0', _⟩ := hW; go_simp) <;> with_reducible rfl
  simp only [Act.put, List.setIfInBounds_toArray, List.set_cons_zero, List.set_cons_succ]
  refine wpAnyK_take (i := 1) (some 6) ?vq1_1 rfl rfl (by kernel_rfl) (fun _ _ _ h => h) ⟨c0, HB0.out⟩ (.inl ⟨rfl, fun W hW => ?yq1_1⟩) ?_
  case yq1_1 => (obtain ⟨c0', _⟩ := hW; go_simp) <;> with_reducible rfl
  simp only [Act.put, List.setIfInBounds_toArray, List.set_cons_zero, List.set_cons_succ]
  refine wpAnyK_take (i := 2) (some 7) ?vq1_2 rfl rfl (by kernel_rfl) (fun _ _ _ h => h) ⟨c0, HB0.out⟩ (.inl ⟨rfl, fun W hW => ?yq1_2⟩) ?_
  case yq1_2 => (obtain ⟨c0', _⟩ := hW; go_simp) <;> with_reducible rfl
  simp only [Act.put, List.setIfInBounds_toArray, List.set_cons_zero, List.set_cons_succ]
  refine wpAnyK_take (i := 3) (some 8) ?vq1_3 rfl rfl (by kernel_rfl) (fun _ _ _ h => h) ⟨c0, HB0.out⟩ (.inl ⟨rfl, fun W hW => ?yq1_3⟩) ?_
  case yq1_3 => (obtain ⟨c0', _⟩ := hW; go_simp) <;> with_reducible rfl
  simp only [Act.put, List.setIfInBounds_toArray, List.set_cons_zero, List.set_cons_succ]
  refine wpAnyK_take (i := 4) (some 9) ?vq1_4 rfl rfl (by kernel_rfl) (fun _ _ _ h => h) ⟨c0, HB0.out⟩ (.inl ⟨rfl, fun W hW => ?yq1_4⟩) ?_
  case yq1_4 => (obtain ⟨c0', _⟩ := hW; go_simp) <;> with_reducible rfl
  simp only [Act.put, List.setIfInBounds_toArray, List.set_cons_zero, List.set_cons_succ]
  refine wpAnyK_take (i := 5) (some 10) (.agg [x0, x1, x2, x3].toArray) rfl rfl (by kernel_rfl) (fun _ _ _ h => h) ⟨c0, HB0.out⟩ (yieldsIf_load_mid rfl 52 (.tmp 3) rfl w.heap.size 0 rfl [x0, x1, x2, x3] _ (fun W hW j v hj => by rw [Nat.zero_add]; exact hW.2.at_ hj) Try.underlying52 rfl (by kernel_rfl)) ?_
  simp only [Act.put, List.setIfInBounds_toArray, List.set_cons_zero, List.set_cons_succ]
  refine wpAnyK_step (j := 6) (some 11) rfl rfl (by kernel_rfl) rfl fun K hK => ?_
  obtain ⟨iu, hi, hz', hsz', hby⟩ := info_parts info_op
  refine wp_build_one (.tmp 10) rfl Try.underlying46 hi hz' [x0, x1, x2, x3] rfl hsz' rfl (by simp) (by simp) (hK _ _ (fun _ => ⟨(HC0.out.blk.drew.alloc _).at_ (i := 0) rfl, HB0.out.drew.alloc _⟩) ?_)
  simp only [Act.put, List.setIfInBounds_toArray, List.set_cons_zero, List.set_cons_succ]
  clear hK
  have hbn := Blk.new w1.drew 52 [x0, x1, x2, x3]
  have hfn : Fr [] w1 (w1.drew.alloc (.cells [x0, x1, x2, x3].toArray 52)) := ((Fr.refl [] w1).drew).alloc _
  have hsn : (w1.drew.alloc (.cells [x0, x1, x2, x3].toArray 52)).heap.size = w.heap.size + 1 + 1 := by simp [hz0]
  have hsn' : w1.drew.heap.size = w.heap.size + 1 := hz0
  rw [hsn'] at hbn
  rw [hsn']
  generalize w1.drew.alloc (.cells [x0, x1, x2, x3].toArray 52) = w3 at *
  obtain ⟨css, hcl, hown, hel⟩ := HC0.out.ex
  have hno : (Value.slice A ops.length c).ownBlock ≠ some gp := fun e => (HC0.out.own gp e).2 rfl
  have hbx : (Value.slice A ops.length c).ownBlock ≠ some w.heap.size := fun e => by
    obtain ⟨css', _, hown', _⟩ := HH.out.ex
    have := own_lt hown' _ e
    omega
  refine wpAnyK_step (j := 7) (some 12) rfl rfl (by kernel_rfl) rfl fun K hK => ?_
  refine wp_append_fr (.tmp 9) (.tmp 11) rfl 52 4 48 Try.underlying46 hi hz' hsz' hby rfl (by omega) (.slice A ops.length c) ops.length css.flatten rfl (own_fr hown hfn (by simp)) ⟨w.heap.size + 1, 0, none⟩ 1 1 [x0, x1, x2, x3] rfl rfl (fun j u hu => by rw [Addr.add_mid, Nat.zero_add]; exact hbn.at_ hu) HONE.out (by omega) (by unfold maxLen; omega) (by omega) (w.heap.size + 1 + 1) hsn fun g7 cap w7 ho7 hf7 hat7 hlt7 => hK _ _ (fun _ => ⟨((HC0.out.blk.fr hfn (by simp)).fr hf7 (by simpa using hno)).at_ (i := 0) rfl, (HB0.out.fr hfn (by simp)).fr hf7 (by simpa using hbx)⟩) ?_
  simp only [Act.put, List.setIfInBounds_toArray, List.set_cons_zero, List.set_cons_succ]
  clear hK
  have hO7 := (HC0.out.blk.fr hfn (by simp)).fr hf7 (by simpa using hno)
  have hB7 := (HB0.out.fr hfn (by simp)).fr hf7 (by simpa using hbx)
  refine wpAnyK_step (j := 8) (some 13) rfl rfl (by kernel_rfl) rfl fun K hK => ?_
  refine wp_run_same (v := ?aq1_8) ?yq1_8 (hK _ _ (fun h => absurd h (by decide +kernel)) ?_)
  case yq1_8 => go_simp <;> with_reducible rfl
  simp only [Act.put, List.setIfInBounds_toArray, List.set_cons_zero, List.set_cons_succ]
  refine wpAnyK_step (j := 9) (some 14) rfl rfl (by kernel_rfl) rfl fun K hK => ?_
  refine wp_run_same (v := ?aq1_9) ?yq1_9 (hK _ _ (fun h => absurd h (by decide +kernel)) ?_)
  case yq1_9 => go_simp <;> with_reducible rfl
  simp only [Act.put, List.setIfInBounds_toArray, List.set_cons_zero, List.set_cons_succ]
  refine wpAnyK_step (j := 10) none rfl rfl (by kernel_rfl) rfl fun K hK => ?_
  refine wp_run_skip (w' := w7.setCell ⟨gp, 0, none⟩ (.slice (some ⟨g7, 0, none⟩) (ops.length + 1) cap)) (by have o2 := hO7.at_ (i := 0) rfl; have of := hO7.free 0; go_simp) (hK _ _ (fun h => absurd h (by decide +kernel)) ?_)
  simp only [Act.put]
  refine wpAnyK_done (by kernel_rfl) ?_ _
  have hfin := put_step (o := o) HC0.out HO0.out hfn hf7 hcl hown hel ho7 hat7 (by omega) (by omega) (by omega)
  have hst : CStep w (w7.setCell ⟨gp, 0, none⟩ (.slice (some ⟨g7, 0, none⟩) (ops.length + 1) cap)) gp (.slice A ops.length c) (.slice (some ⟨g7, 0, none⟩) (ops.length + 1) cap) := CStep.pre HF0.out ⟨hfin.2, fun g hg => by
    have e : g7 = g := by simpa [Value.ownBlock] using hg
    rcases hat7 with h | h
    · left; rw [← e]; exact h
    · right; omega⟩
  have HFIN := Lib.hid hfin.1; have HST := Lib.hid hst
  have c1 := hfin.1.blk.at_ (i := 0) rfl
  clear hfin hst hK hO7 hB7 hf7 ho7 hat7 hlt7 hbn hfn hsn hsn' hown hel hcl hno hbx c0
  generalize w7.setCell ⟨gp, 0, none⟩ (.slice (some ⟨g7, 0, none⟩) (ops.length + 1) cap) = w8 at *
  go_wp2_with fail
  exact HQ.out _ _ ⟨ret_int64 (by omega), _, HFIN.out, HST.out⟩

end Go.Proofs.Ytnhlgjjdpappkaa
