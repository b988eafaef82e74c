/-
  Laws of single operations that the walks of this seat lean on: a variable of many cells made and filled, copy into a block that is known whole, append where the element is a struct. Over any program.
-/
import Derived.Test.YtidpleejgalljaaBase
import Derived.Deep.MidRow
import Derived.Deep.WholeRow
import Derived.StillTailTactics
namespace Go.Proofs.Ytidpleejgalljaa
open Go.RowKit

section
variable {P : Program} {ops : Array Oper} {rest : List Oper} {o : Oper} {a : Act} {w : World} {Q : Exit → Act → World → Prop}

/-- 'var p T': a new block of zero cells. -/
theorem wpList_alloc_z (hgd : o.guard = none) (t : TypeId) (ho : o.op = .alloc t) (z : Value) (zs : Array Value) (hz : (P.info? t).map (·.zero) = some (some z)) (hzs : z.cells = zs)
    (h : wpList P ops Q rest (a.put o.dst (.pointer (some ⟨w.heap.size, 0, none⟩))) (w.alloc (.cells zs t))) : wpList P ops Q (o :: rest) a w := by
  subst hzs
  refine wpList_plain hgd fun K hK => ?_
  cases hq : P.info? t with
  | none => simp [hq] at hz
  | some i =>
    have hz' : i.zero = some z := by simpa [hq] using hz
    unfold Oper.wp
    simp [execOp, ho, Instr.alloc, zeroValue, typeInfo, hq, hz', newVar, newRow, Result.andThen]
    exact hK _ _ h

/-- A struct or an array built of one part. -/
theorem wpList_build1 (hgd : o.guard = none) (t : TypeId) (i : Nat) (x : Operand) (ho : o.op = .build t #[(i, x)]) (v r : Value) (hx : a.eval x = v)
    (hrun : (Instr.build t #[(i, v)]).run P w = .ok r w) (h : wpList P ops Q rest (a.put o.dst r) w) : wpList P ops Q (o :: rest) a w := by
  refine wpList_plain hgd fun K hK => ?_
  unfold Oper.wp
  simp [execOp, ho, hx, hrun, Result.andThen]
  exact hK _ _ h

/-- A whole value stored into the block that was made last. -/
theorem wpList_store_z {W : World} {zs : Array Value} {t' : TypeId} (hgd : o.guard = none) (t : TypeId) (x y : Operand) (ho : o.op = .store t x y) (cs : List Value)
    (hx : a.eval x = .pointer (some ⟨W.heap.size, 0, none⟩)) (hy : a.eval y = .agg cs.toArray) (hw : w = W.alloc (.cells zs t'))
    (hi : (P.info? t).map (·.size) = some cs.length) (hl : zs.size = cs.length) (h1 : ∀ v ∈ cs, v.oneCell' = true)
    (h : ∀ w1, Blk w1 W.heap.size t' cs → Fr [] W w1 → w1.heap.size = W.heap.size + 1 → wpList P ops Q rest (a.put o.dst undef) w1) : wpList P ops Q (o :: rest) a w := by
  subst hw
  have hrun := run_storeVar_row (P := P) (W.alloc (.cells zs t')) W.heap.size t' t zs cs.toArray (heap_alloc_new W _) (by simpa using hi) (by simpa using hl) (all_oneCell_toArray h1)
  refine wpList_plain hgd fun K hK => ?_
  unfold Oper.wp
  simp [execOp, ho, hx, hy, Instr.storeAt, Instr.sureAddr, hrun, Result.andThen]
  refine hK _ _ (h _ ?_ ?_ ?_)
  · rw [World.setRow_alloc_new]; exact heap_alloc_new W _
  · rw [World.setRow_alloc_new]; exact (Fr.refl _ _).alloc _
  · rw [World.setRow_alloc_new]; simp

/-- copy, run: into a block that is known whole; the source whatever. -/
theorem run_copy_blk {dT sT ty elem : TypeId} (hu : P.underlying dT = some (.slice elem)) (hsz : (P.info? elem).map (·.size) = some 1)
    (dp sp : Option Addr) (dLen dCap sLen sCap : Nat) (g off : Nat) (cur : List Value) (t : TypeId) (hg : Blk w g t cur) (cs : List Value) (hn : cs.length = Nat.min sLen dLen)
    (hpos : 0 < cs.length → dp = some ⟨g, off, none⟩ ∧ ∃ ad, sp = some ad ∧ ∀ j v, cs[j]? = some v → w.cell? (ad.add j) = some v)
    (hfit : off + cs.length ≤ cur.length) (h1 : ∀ v ∈ cs, v.oneCell' = true) :
    ∃ w', (Builtin.copy_ #[dT, sT] ty #[.slice dp dLen dCap, .slice sp sLen sCap]).run P w = .ok (goInt cs.length) w' ∧ Blk w' g t (splice cur off cs) ∧ Fr [g] w w' ∧ w'.heap.size = w.heap.size := by
  by_cases h0 : cs.length = 0
  · obtain rfl : cs = [] := List.eq_nil_of_length_eq_zero h0
    refine ⟨w, by simpa using run_copy_none (P := P) w dT sT ty elem dp sp dLen dCap sLen sCap hu hsz (by simpa using hn.symm), by simpa [splice] using hg, Fr.refl _ _, rfl⟩
  · obtain ⟨rfl, ad, rfl, hsrc⟩ := hpos (by omega)
    refine ⟨_, run_copy_row (P := P) w dT sT ty elem g off dLen dCap ad sLen sCap cur.toArray t cs hu hsz hg hn hsrc (by simpa using hfit) h1, ?_, (Fr.refl _ _).setRow (by simp) _, by simp [World.setRow]⟩
    simpa [splice] using hg.row_ (cur.take off ++ (cs ++ cur.drop (off + cs.length)))

theorem wpList_copy_blk (hgd : o.guard = none) (d s : Operand) (dT sT : TypeId) (ho : o.op = .call { callee := .builtin .copy, args := #[d, s], argTypes := #[dT, sT] })
    (elem : TypeId) (hu : P.underlying dT = some (.slice elem)) (hsz : (P.info? elem).map (·.size) = some 1)
    (dp sp : Option Addr) (dLen dCap sLen sCap : Nat) (hd : a.eval d = .slice dp dLen dCap) (hs : a.eval s = .slice sp sLen sCap)
    (g off : Nat) (cur : List Value) (t : TypeId) (hg : Blk w g t cur) (cs : List Value) (hn : cs.length = Nat.min sLen dLen)
    (hpos : 0 < cs.length → dp = some ⟨g, off, none⟩ ∧ ∃ ad, sp = some ad ∧ ∀ j v, cs[j]? = some v → w.cell? (ad.add j) = some v)
    (hfit : off + cs.length ≤ cur.length) (h1 : ∀ v ∈ cs, v.oneCell' = true)
    (h : ∀ w', Blk w' g t (splice cur off cs) → Fr [g] w w' → w'.heap.size = w.heap.size → wpList P ops Q rest (a.put o.dst (goInt cs.length)) w') : wpList P ops Q (o :: rest) a w := by
  obtain ⟨w', hrun, hb, hf, hz⟩ := run_copy_blk (P := P) (w := w) (sT := sT) (ty := o.type) hu hsz dp sp dLen dCap sLen sCap g off cur t hg cs hn hpos hfit h1
  refine wpList_plain hgd fun K hK => ?_
  unfold Oper.wp
  simp [execOp, ho, resolve, invoke, builtin, hd, hs, hrun, Result.andThen]
  exact hK _ _ (h w' hb hf hz)
end

section
variable {P : Program} {o : Oper} {a : Act} {w : World} {K : Act → World → Prop} {Q : Exit → Act → World → Prop}
/-- An operation whose run is known. -/
theorem wp_run_value {v : Value} {w' : World} (hrun : (execOp a.eval o).run P w = .ok (.value v) w') (h : K (a.put o.dst v) w') : Oper.wp P o a w K Q := by
  unfold Oper.wp; rw [hrun]; exact h
theorem wp_run_skip {w' : World} (hrun : (execOp a.eval o).run P w = .ok .skip w') (h : K (a.put o.dst undef) w') : Oper.wp P o a w K Q := by
  unfold Oper.wp; rw [hrun]; exact h
/-- A slice of one element built: 'append(l, x)' lays x so. -/
theorem fill_one (cs zs : List Value) (h : zs.length = cs.length) : Instr.fill (fun i => some (i * cs.length, cs.length)) zs.toArray [(0, .agg cs.toArray)] = some cs.toArray := by
  have hf : ∀ (L pre Z : List Value), Z.length = L.length → (L.zipIdx pre.length).foldl (fun (a : Array Value) (x : Value × Nat) => a.setIfInBounds (0 * cs.length + x.2) x.1) (pre ++ Z).toArray = (pre ++ L).toArray := by
    intro L
    induction L with
    | nil => intro pre Z hZ; obtain rfl : Z = [] := List.eq_nil_of_length_eq_zero (by simpa using hZ); simp
    | cons x L ih =>
      intro pre Z hZ
      match Z, hZ with
      | z :: Z, hZ =>
        simp only [List.zipIdx_cons, List.foldl_cons]
        have e : (pre ++ z :: Z).toArray.setIfInBounds (0 * cs.length + pre.length) x = (pre ++ [x] ++ Z).toArray := by simp
        rw [e]
        have := ih (pre ++ [x]) Z (by simpa using hZ)
        simp only [List.length_append, List.length_cons, List.length_nil, Nat.zero_add] at this
        rw [this]
        simp
  have h0 := hf cs [] zs h
  simp only [List.length_nil, List.nil_append] at h0
  simp only [Instr.fill, Value.cells, List.size_toArray, Nat.zero_mul, Nat.zero_add, h, Nat.lt_irrefl, ne_eq, not_true_eq_false, decide_false, Bool.or_self, Bool.false_eq_true, if_false, gt_iff_lt]
  rw [Array.zipIdx_toArray, ← Array.foldl_toList]
  simpa using h0
theorem run_build_one {t e : TypeId} {i : TypeInfo} {z : Value} (ht : P.underlying t = some (.slice e)) (hi : P.info? e = some i) (hz : i.zero = some z) (cs : List Value) (hs : i.size = cs.length) (hzs : z.cells.size = cs.length)
    (h0 : 0 < cs.length) (hb : cs.length ≤ 16777216) :
    (Instr.buildSlice t 1 #[(0, .agg cs.toArray)]).run P w = .ok (.slice (some ⟨w.heap.size, 0, none⟩) 1 1) (w.alloc (.cells cs.toArray e)) := by
  have hl : ((Array.range (1 * cs.length)).map (z.cells[· % z.cells.size]!)).toList.length = cs.length := by simp
  have hf := fill_one cs _ hl
  rw [Array.toArray_toList] at hf
  have n0 : ¬ (1 * cs.length = 0) := by omega
  have n1 : ¬ (1 * cs.length > 2 ^ 24) := by omega
  have n2 : ¬ (16777216 < cs.length) := by omega
  have n3 : cs ≠ [] := by intro h; subst h; simp at h0
  simp only [Nat.one_mul] at hf
  simp [Instr.buildSlice, run_underlying ht, sizeOf, typeInfo, hi, hs, zeroValue, hz, newRow, n2, n3, hf]
theorem wp_build_one {t e : TypeId} (x : Operand) (ho : o.op = .buildSlice t 1 #[(0, x)]) {i : TypeInfo} {z : Value} (ht : P.underlying t = some (.slice e)) (hi : P.info? e = some i) (hz : i.zero = some z) (cs : List Value) (hx : a.eval x = .agg cs.toArray)
    (hs : i.size = cs.length) (hzs : z.cells.size = cs.length) (h0 : 0 < cs.length) (hb : cs.length ≤ 16777216)
    (h : K (a.put o.dst (.slice (some ⟨w.heap.size, 0, none⟩) 1 1)) (w.alloc (.cells cs.toArray e))) : Oper.wp P o a w K Q := by
  have hrun := run_build_one (P := P) (w := w) ht hi hz cs hs hzs h0 hb
  refine wp_run_value (v := .slice (some ⟨w.heap.size, 0, none⟩) 1 1) (w' := w.alloc (.cells cs.toArray e)) ?_ h
  simp [execOp, ho, hx, hrun, Result.andThen]
end

theorem splice_all {α : Type} (L cs : List α) (h : L.length = cs.length) : splice L 0 cs = cs := by
  simp [splice, List.drop_eq_nil_of_le, h]

end Go.Proofs.Ytidpleejgalljaa
