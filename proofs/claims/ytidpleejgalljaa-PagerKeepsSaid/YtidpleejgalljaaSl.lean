/-
  A slice expression over bytes: what it yields reads as the bytes between its bounds. Over any program.
-/
import Derived.Test.YtidpleejgalljaaLaws
namespace Go.Proofs.Ytidpleejgalljaa
open Go.RowKit

section
variable {P : Program} {o : Oper} {a : Act} {w : World} {K : Act → World → Prop} {Q : Exit → Act → World → Prop}
theorem wp_run_same {v : Value} (hrun : (execOp a.eval o).run P w = .ok (.value v) w) (h : K (a.put o.dst v) w) : Oper.wp P o a w K Q := by
  unfold Oper.wp; rw [hrun]; exact h
/-- 'var p T' in a region that draws. -/
theorem wp_alloc_z (t : TypeId) (ho : o.op = .alloc t) (z : Value) (zs : Array Value) (hz : (P.info? t).map (·.zero) = some (some z)) (hzs : z.cells = zs)
    (h : K (a.put o.dst (.pointer (some ⟨w.heap.size, 0, none⟩))) (w.alloc (.cells zs t))) : Oper.wp P o a w K Q := by
  subst hzs
  cases hq : P.info? t with
  | none => simp [hq] at hz
  | some i =>
    have hz' : i.zero = some z := by simpa [hq] using hz
    unfold Oper.wp
    simp [execOp, ho, Instr.alloc, zeroValue, typeInfo, hq, hz', newVar, newRow, Result.andThen]
    exact h
/-- The same; the new world is a letter. -/
theorem wp_alloc_blk (t : TypeId) (ho : o.op = .alloc t) (z : Value) (zs : List Value) (hz : (P.info? t).map (·.zero) = some (some z)) (hzs : z.cells = zs.toArray)
    (h : ∀ w1, Blk w1 w.heap.size t zs → Fr [] w w1 → w1.heap.size = w.heap.size + 1 → K (a.put o.dst (.pointer (some ⟨w.heap.size, 0, none⟩))) w1) : Oper.wp P o a w K Q :=
  wp_alloc_z t ho z _ hz hzs (h _ (Blk.new w t zs) ((Fr.refl [] w).alloc _) (by simp))
/-- A whole value stored into a block that is known whole; the new world is a letter. -/
theorem wp_store_blk {g : Nat} {t' : TypeId} {old : List Value} (t : TypeId) (x y : Operand) (ho : o.op = .store t x y) (cs : List Value)
    (hx : a.eval x = .pointer (some ⟨g, 0, none⟩)) (hy : a.eval y = .agg cs.toArray) (hb : Blk w g t' old)
    (hi : (P.info? t).map (·.size) = some cs.length) (hl : old.length = cs.length) (h1 : ∀ v ∈ cs, v.oneCell' = true)
    (h : ∀ w1, Blk w1 g t' cs → Fr [g] w w1 → w1.heap.size = w.heap.size → K (a.put o.dst undef) w1) : Oper.wp P o a w K Q := by
  have hrun := run_storeVar_row (P := P) w g t' t old.toArray cs.toArray hb (by simpa using hi) (by simpa using hl) (all_oneCell_toArray h1)
  unfold Oper.wp
  simp [execOp, ho, hx, hy, Instr.storeAt, Instr.sureAddr, hrun, Result.andThen]
  exact h _ (hb.row_ cs) ((Fr.refl [g] w).setRow (.inl (by simp)) _) (by simp [World.setRow])
/-- A slice of one element of one cell built: 'append(l, x)' lays x so. -/
theorem run_build_cell {t e : TypeId} {i : TypeInfo} {z : Value} (ht : P.underlying t = some (.slice e)) (hi : P.info? e = some i) (hz : i.zero = some z) (hs : i.size = 1) (hzs : z.cells.size = 1) (v : Value) (hv : v.cells = #[v]) :
    (Instr.buildSlice t 1 #[(0, v)]).run P w = .ok (.slice (some ⟨w.heap.size, 0, none⟩) 1 1) (w.alloc (.cells #[v] e)) := by
  obtain ⟨z0, hz0⟩ : ∃ z0, z.cells = #[z0] := by
    match hc : z.cells, hzs with
    | ⟨[z0]⟩, _ => exact ⟨z0, rfl⟩
  simp [Instr.buildSlice, run_underlying ht, sizeOf, typeInfo, hi, hs, zeroValue, hz, newRow, hz0, Instr.fill, hv, Array.range, Array.zipIdx]
  have e1 : ∀ (n : Nat) (_ : n = 1) (f : Fin n → Value), (Array.ofFn f).setIfInBounds 0 v = #[v] := fun n hn f => by
    subst hn
    apply Array.ext
    · simp
    · intro j hj hj'
      have : j = 0 := by simp at hj'; omega
      subst this
      simp
  exact congrArg (fun c => w.alloc (Obj.cells c e)) (e1 _ (by simp [hs]) _)
theorem wp_build_cell {t e : TypeId} (x : Operand) (ho : o.op = .buildSlice t 1 #[(0, x)]) {i : TypeInfo} {z : Value} (ht : P.underlying t = some (.slice e)) (hi : P.info? e = some i) (hz : i.zero = some z) (hs : i.size = 1) (hzs : z.cells.size = 1) (v : Value) (hx : a.eval x = v) (hv : v.cells = #[v]) (H : Nat) (hH : w.heap.size = H)
    (h : ∀ w1, Blk w1 H e [v] → Fr [] w w1 → w1.heap.size = H + 1 → K (a.put o.dst (.slice (some ⟨H, 0, none⟩) 1 1)) w1) : Oper.wp P o a w K Q := by
  subst hH
  have hrun := run_build_cell (P := P) (w := w) ht hi hz hs hzs v hv
  refine wp_run_value (v := .slice (some ⟨w.heap.size, 0, none⟩) 1 1) (w' := w.alloc (.cells #[v] e)) ?_ (h _ (Blk.new w e [v]) ((Fr.refl [] w).alloc _) (by simp))
  simp [execOp, ho, hx, hrun, Result.andThen]
/-- append in a region that draws: the new world a letter, the frame said. -/
theorem wp_append_fr {t : TypeId} (s x : Operand) (ho : o.op = .call { callee := .builtin .append, args := #[s, x], argTypes := #[t, t] })
    (e : TypeId) {i : TypeInfo} {z : Value} (size bytes : Nat) (ht : P.underlying t = some (.slice e)) (hi : P.info? e = some i) (hz : i.zero = some z) (hsize : i.size = size) (hby : i.bytes = bytes) (hzs : z.cells.size = size) (h0 : 0 < size)
    (v : Value) (n : Nat) (xs : List Value) (hs : a.eval s = v) (hown : w.ownsRow 0 e size v n xs)
    (ad : Addr) (m c : Nat) (news : List Value) (hx : a.eval x = .slice (some ad) m c) (hl : news.length = m * size) (hnews : ∀ j u, news[j]? = some u → w.cell? (ad.add j) = some u) (h1 : ∀ u ∈ news, u.oneCell' = true)
    (hm : 0 < m) (h63 : n + m ≤ maxLen) (hbytes : (n + m) * bytes ≤ 140737488355328) (H : Nat) (hH : w.heap.size = H)
    (h : ∀ g cap w', w'.ownsRow 0 e size (.slice (some ⟨g, 0, none⟩) (n + m) cap) (n + m) (xs ++ news) → Fr v.ownBlock.toList w w' → (v.ownBlock = some g ∨ g = H) → g < w'.heap.size → K (a.put o.dst (.slice (some ⟨g, 0, none⟩) (n + m) cap)) w') : Oper.wp P o a w K Q := by
  refine wp_append_lies _ s x t ho 0 e i z size bytes ht hi hz hsize hby hzs h0 v n xs hs hown ad m c news hx hl hnews h1 hm h63 hbytes (Nat.zero_le _) H hH ?_
  intro g cap w' h2 h3 h4 h5
  exact h g cap w' h2 ((Fr.refl _ w).grown h3 (fun g hg => .inl (by simp [hg]))) h4 h5
theorem exec_slice {t : TypeId} {x : Operand} {lo hi : Option Operand} (ho : o.op = .slice t x lo hi none) {vx v : Value} {vlo vhi : Option Value} (hx : a.eval x = vx) (hlo : lo.map a.eval = vlo) (hhi : hi.map a.eval = vhi)
    (h : (Instr.sliceAt t vx vlo vhi none).run P w = .ok v w) : (execOp a.eval o).run P w = .ok (.value v) w := by
  subst hx hlo hhi
  simp [execOp, ho, h, Result.andThen]
/-- b[lo:hi] of cells of one each. -/
theorem slice_run {t e : TypeId} (ht : P.underlying t = some (.slice e)) (he : (P.info? e).map (·.size) = some 1) (A : Option Addr) (n c lo hi : Nat) (k1 k2 : IntKind) (h1 : lo ≤ hi) (h2 : hi ≤ c) :
    ∀ w, (Instr.sliceAt t (.slice A n c) (some (.int k1 lo)) (some (.int k2 hi)) none).run P w = .ok (.slice (if c = lo then A else A.map (·.add lo)) (hi - lo) (c - lo)) w := by
  intro w
  have hel : P.elem t = e := by simp [Program.elem, ht]
  obtain ⟨i, hi1, hi2⟩ := Option.map_eq_some_iff.1 he
  have h5 : ∀ w, (sizeOf e).run P w = .ok 1 w := fun w => by simp [sizeOf, typeInfo, go_sem, hi1, hi2]
  rw [run_sliceAt_slice (h := by rw [hel]; exact ht), run_slice_lh (ht := by rw [hel]; exact ht) (h0 := by omega) (h1 := by omega) (h2 := by omega), hel, h5]
  simp [Result.andThen, sliced]
theorem slice_run_from {t e : TypeId} (ht : P.underlying t = some (.slice e)) (he : (P.info? e).map (·.size) = some 1) (A : Option Addr) (n c lo : Nat) (k1 : IntKind) (h1 : lo ≤ n) :
    ∀ w, (Instr.sliceAt t (.slice A n c) (some (.int k1 lo)) none none).run P w = .ok (.slice (if c = lo then A else A.map (·.add lo)) (n - lo) (c - lo)) w := by
  intro w
  have hel : P.elem t = e := by simp [Program.elem, ht]
  obtain ⟨i, hi1, hi2⟩ := Option.map_eq_some_iff.1 he
  have h5 : ∀ w, (sizeOf e).run P w = .ok 1 w := fun w => by simp [sizeOf, typeInfo, go_sem, hi1, hi2]
  rw [run_sliceAt_slice (h := by rw [hel]; exact ht), run_slice_l (ht := by rw [hel]; exact ht) (h0 := by omega) (h1 := by omega), hel, h5]
  simp [Result.andThen, sliced]
theorem slice_run_to {t e : TypeId} (ht : P.underlying t = some (.slice e)) (he : (P.info? e).map (·.size) = some 1) (A : Option Addr) (n c hi : Nat) (k1 : IntKind) (h1 : hi ≤ c) :
    ∀ w, (Instr.sliceAt t (.slice A n c) none (some (.int k1 hi)) none).run P w = .ok (.slice A hi c) w := by
  intro w
  have hel : P.elem t = e := by simp [Program.elem, ht]
  obtain ⟨i, hi1, hi2⟩ := Option.map_eq_some_iff.1 he
  have h5 : ∀ w, (sizeOf e).run P w = .ok 1 w := fun w => by simp [sizeOf, typeInfo, go_sem, hi1, hi2]
  rw [run_sliceAt_slice (h := by rw [hel]; exact ht), run_slice_h (ht := by rw [hel]; exact ht) (h0 := by omega) (h2 := by omega), hel, h5]
  have e0 : A.map (fun x => x.add 0) = A := by cases A <;> simp [Addr.add]
  simp [Result.andThen, sliced, e0]
end

theorem sub_at {α : Type} (l : List α) (lo m : Nat) (hm : lo + m ≤ l.length) : ((l.drop lo).take m).length = m := by rw [List.length_take, List.length_drop]; omega
/-- The part of bytes that a slice expression yields reads as it should. -/
theorem BytesAt.sub {w : World} {A : Option Addr} {n c g : Nat} {bs : List UInt8} (h : BytesAt w (.slice A n c) bs g) (lo m : Nat) (hm : lo + m ≤ bs.length) :
    BytesAt w (.slice (if c = lo then A else A.map (·.add lo)) m (c - lo)) ((bs.drop lo).take m) g := by
  obtain ⟨A', c', off, hv, hc, hb⟩ := h
  injection hv with h1 h2 h3
  subst h1 h3
  have hl := sub_at bs lo m hm
  refine ⟨_, _, off + lo, by rw [hl], by rw [hl]; omega, fun h0 => ?_⟩
  rw [hl] at h0
  obtain ⟨rfl, hcell⟩ := hb (by omega)
  rw [if_neg (by omega)]
  refine ⟨by simp [Addr.add_mid], fun j u hu => ?_⟩
  rw [Nat.add_assoc]
  refine hcell _ u ?_
  rw [bcells_take, bcells_drop, List.getElem?_take] at hu
  split at hu
  · rw [List.getElem?_drop] at hu; exact hu
  · cases hu
theorem BytesAt.from_ {w : World} {A : Option Addr} {n c g : Nat} {bs : List UInt8} (h : BytesAt w (.slice A n c) bs g) (lo : Nat) (hm : lo ≤ bs.length) :
    BytesAt w (.slice (if c = lo then A else A.map (·.add lo)) (bs.length - lo) (c - lo)) (bs.drop lo) g := by
  have := h.sub lo (bs.length - lo) (by omega)
  rwa [List.take_of_length_le (by simp)] at this
theorem BytesAt.len {w : World} {A : Option Addr} {n c g : Nat} {bs : List UInt8} (h : BytesAt w (.slice A n c) bs g) : n = bs.length ∧ bs.length ≤ c := by
  obtain ⟨A', c', off, hv, hc, hb⟩ := h
  injection hv with h1 h2 h3
  subst h1 h3
  exact ⟨h2, hc⟩

end Go.Proofs.Ytidpleejgalljaa
