/-
  Pages in a map of the program's: how it reads, and its operations.
-/
import Derived.Test.YtidpleejgalljaaPq
import Derived.Test.YtidpleejgalljaaCallF
import Derived.Maps.OwnSet
import Derived.Lib.SlKeysI
import Derived.Lib.SlMapMerge
namespace Go.Proofs.Ytidpleejgalljaa
open Go.RowKit Go.ChangeMaps Go.MapKept
open Go.WideElems (Fit rd rg)

/-- A page as a value. -/
def pageV (b : List UInt8) : Value := .agg (bcells b).toArray
theorem bcells_inj : ∀ {a b : List UInt8}, bcells a = bcells b → a = b
  | [], [], _ => rfl
  | [], _ :: _, h => by simp [bcells] at h
  | _ :: _, [], h => by simp [bcells] at h
  | x :: a, y :: b, h => by
    simp only [bcells, List.map_cons, List.cons.injEq] at h
    obtain ⟨h1, h2⟩ := h
    unfold B8 at h1
    injection h1 with _ h1
    rw [show x = y from UInt8.toNat.inj (by omega), bcells_inj h2]
theorem pageV_inj {a b : List UInt8} (h : pageV a = pageV b) : a = b := by
  unfold pageV at h
  injection h with h
  exact bcells_inj (List.toArray_inj h)
open Classical in
/-- How a page reads in a map. -/
noncomputable def pgR (v : Value) : Option (DataW Unit × List MemPlace) := if h : ∃ b, v = pageV b ∧ b.length = 512 then some (.lit (.string h.choose), []) else none
theorem pgR_mk {b : List UInt8} (hb : b.length = 512) : pgR (pageV b) = some (.lit (.string b), []) := by
  have h : ∃ b', pageV b = pageV b' ∧ b'.length = 512 := ⟨b, rfl, hb⟩
  unfold pgR
  rw [dif_pos h, ← pageV_inj h.choose_spec.1]
theorem pgR_inv {v : Value} {z : DataW Unit × List MemPlace} (h : pgR v = some z) : ∃ b, v = pageV b ∧ b.length = 512 ∧ z = (.lit (.string b), []) := by
  unfold pgR at h
  split at h
  · rename_i h1
    cases h
    exact ⟨_, h1.choose_spec.1, h1.choose_spec.2, rfl⟩
  · cases h
def entD (p : Nat × List UInt8) : Lit × DataW Unit := (.int .i64 (p.1 : Int), .lit (.string p.2))
def toD (m : PgM) : DataW Unit := .map (m.map entD)
theorem insert_D (x : Nat × List UInt8) : ∀ m : PgM, DataW.insert (entD x) (m.map entD) = (insP x m).map entD
  | [] => rfl
  | y :: m => by
    have e : (entD x).1.before (entD y).1 = decide (x.1 < y.1) := by
      show decide ((x.1 : Int) < (y.1 : Int)) = _
      rw [Bool.eq_iff_iff, decide_eq_true_iff, decide_eq_true_iff]
      omega
    rw [List.map_cons, DataW.insert, e, insP]
    by_cases h : x.1 < y.1
    · rw [if_pos (by simpa using h), if_pos h]; rfl
    · rw [if_neg (by simpa using h), if_neg h, List.map_cons, insert_D x m]
theorem same_D (p : Nat × List UInt8) (k : Nat) : (entD p).1.sameKey (.int .i64 (k : Int)) = decide (p.1 = k) := by
  show decide (IntKind.i64 = IntKind.i64 ∧ (p.1 : Int) = (k : Int)) = _
  rw [Bool.eq_iff_iff, decide_eq_true_iff, decide_eq_true_iff]
  exact ⟨fun h => by have := h.2; omega, fun h => ⟨rfl, by omega⟩⟩
theorem put_D (m : PgM) (k : Nat) (b : List UInt8) : (toD m).put (.int .i64 (k : Int)) (.lit (.string b)) = toD (putP m k b) := by
  unfold toD putP DataW.put
  simp only
  rw [List.filter_map, show ((fun p => !p.1.sameKey (.int .i64 (k : Int))) ∘ entD) = (fun p : Nat × List UInt8 => !decide (p.1 = k)) from funext fun p => by rw [Function.comp, same_D]]
  exact congrArg _ (insert_D (k, b) _)
theorem find_D (k : Nat) : ∀ m : PgM, (m.map entD).find? (fun p => p.1.sameKey (.int .i64 (k : Int))) = (m.find? fun p => decide (p.1 = k)).map entD
  | [] => rfl
  | p :: m => by
    rw [List.map_cons, List.find?_cons, List.find?_cons, same_D, find_D k m]
    cases decide (p.1 = k) <;> rfl
theorem at_D (m : PgM) (k : Nat) (z : DataW Unit) : (toD m).atKey (.int .i64 (k : Int)) z = match getP m k with | some b => .lit (.string b) | none => z := by
  unfold toD DataW.atKey getP
  simp only
  rw [find_D]
  cases m.find? fun p => decide (p.1 = k) <;> rfl
theorem has_D (m : PgM) (k : Nat) : Maps.has (toD m) (.int .i64 (k : Int)) = (getP m k).isSome := by
  unfold toD
  rw [Maps.has_eq, List.any_map, show ((fun p => p.1.sameKey (.int .i64 (k : Int))) ∘ entD) = (fun p : Nat × List UInt8 => decide (p.1 = k)) from funext fun p => same_D p k]
  unfold getP
  induction m with
  | nil => rfl
  | cons p m ih =>
    rw [List.any_cons, List.find?_cons]
    cases h : decide (p.1 = k)
    · simpa using ih
    · simp
theorem size_D (m : PgM) : Maps.size (toD m) = m.length := by unfold toD; rw [Maps.size_eq, List.length_map]
theorem keys_D (m : PgM) : intKeys (toD m) = m.map fun p => (p.1 : Int) := by
  unfold toD intKeys
  simp only [List.map_map]
  rfl
theorem merge_D : ∀ (s d : PgM), Lib.mergeD (toD d) (toD s) = toD (mergeP d s)
  | [], _ => rfl
  | p :: s, d => by
    have ih := merge_D s (putP d p.1 p.2)
    unfold Lib.mergeD toD at ih ⊢
    simp only [List.map_cons, List.foldl_cons] at ih ⊢
    rw [show mergeP d (p :: s) = mergeP (putP d p.1 p.2) s from rfl, ← ih]
    congr 1
    exact put_D d p.1 p.2

/-! ### In memory -/
noncomputable def MapAt (w : World) (b : Nat) (m : PgM) : Prop := w.ownsMap Try.prog 3 pgR b m.length (toD m)
section
variable {w w' : World} {b : Nat} {m : PgM}
theorem MapAt.of {n : Nat} (h : w.ownsMap Try.prog 3 pgR b n (toD m)) : MapAt w b m := by
  obtain ⟨es, clock, hb, F, _, hD⟩ := h
  refine ⟨es, clock, hb, F, ?_, hD⟩
  have := congrArg Maps.size hD
  rw [size_D, Maps.size_eq, length_read] at this
  omega
theorem MapAt.lt (h : MapAt w b m) : b < w.heap.size := World.ownsMap.lt h
theorem MapAt.fr {S : List Nat} (h : MapAt w b m) (hf : Fr S w w') (hb : b ∉ S) : MapAt w' b m := by
  have hlt := h.lt
  obtain ⟨es, clock, h1, h2⟩ := h
  exact ⟨es, clock, by rw [hf.block b hlt hb]; exact h1, h2⟩
theorem MapAt.ne_blk (h : MapAt w b m) {g : Nat} {t : TypeId} {cs : List Value} (hg : Blk w g t cs) : b ≠ g := by
  rintro rfl
  obtain ⟨es, clock, h1, _⟩ := h
  unfold Blk at hg
  rw [h1] at hg
  injection hg with hg
  cases hg
theorem MapAt.new (w : World) : MapAt (w.alloc (.map #[] 0)) w.heap.size [] := World.ownsMap_made w Try.prog 3 pgR
def zpage : List UInt8 := List.replicate 512 0
theorem zpage_len : zpage.length = 512 := List.length_replicate
theorem int_K : Maps.Keyed Try.prog 3 := Maps.int_keyed Try.underlying3
theorem key_i64 {k : Nat} (hk : k ≤ 9223372036854775807) : keyOf Try.prog 3 (.int .i64 (k : Int)) = some (.int .i64 (k : Int)) := Maps.keyOf_int_mk Try.underlying3 (by
  have h := wrap64_wf (k : Int)
  rwa [show wrap64 (k : Int) = (k : Int) by unfold wrap64; omega] at h)
theorem page_of {m : PgM} {k : Nat} {c : List UInt8} {ps : List MemPlace} (h : some ((toD m).atKey (.int .i64 (k : Int)) (.lit (.string zpage)), ps) = some (DataW.lit (.string c), [])) : c = (getP m k).getD zpage := by
  rw [at_D] at h
  injection h with h
  injection h with h _
  cases hg : getP m k with
  | none =>
    rw [hg] at h
    injection h with h
    injection h with h
    rw [Option.getD_none]
    exact h.symm
  | some x =>
    rw [hg] at h
    injection h with h
    injection h with h
    rw [Option.getD_some]
    exact h.symm
theorem zero_page (w : World) : (zeroValue 66).run Try.prog w = .ok (pageV zpage) w := by kernel_rfl
/-- 'm[k]', with 'ok'. -/
theorem MapAt.look_ok (h : MapAt w b m) {k : Nat} (hk : k ≤ 9223372036854775807) : (Instr.lookup 61 (.map (some b)) (.int .i64 (k : Int)) true).run Try.prog w = .ok (.tuple #[pageV ((getP m k).getD zpage), .bool (getP m k).isSome]) w := by
  obtain ⟨v, ps, h1, h2⟩ := World.ownsMap.look_ok h int_K Try.underlying61 (zero_page w) (pgR_mk zpage_len) (key_i64 hk)
  rw [h1, has_D]
  obtain ⟨c, rfl, _, h3⟩ := pgR_inv h2
  rw [page_of (congrArg some h3)]
/-- 'm[k]'. -/
theorem MapAt.look (h : MapAt w b m) {k : Nat} (hk : k ≤ 9223372036854775807) : (Instr.lookup 61 (.map (some b)) (.int .i64 (k : Int)) false).run Try.prog w = .ok (pageV ((getP m k).getD zpage)) w := by
  obtain ⟨v, ps, h1, h2⟩ := World.ownsMap.lookup h int_K Try.underlying61 (zero_page w) (pgR_mk zpage_len) (key_i64 hk)
  rw [h1]
  obtain ⟨c, rfl, _, h3⟩ := pgR_inv h2
  rw [page_of (congrArg some h3)]
/-- 'm[k] = v'. -/
theorem MapAt.store (h : MapAt w b m) {k : Nat} (hk : k ≤ 9223372036854775807) (hm : m.length < 9223372036854775807) {x : List UInt8} (hx : x.length = 512) :
    ∃ w', (Instr.mapUpdate 61 (.map (some b)) (.int .i64 (k : Int)) (pageV x)).run Try.prog w = .ok () w' ∧ MapAt w' b (putP m k x) ∧ Fr [b] w w' ∧ w'.heap.size = w.heap.size := by
  obtain ⟨w', h1, h2, h3⟩ := World.ownsMap.store h int_K Try.underlying61 (by unfold maxLen; exact hm) (key_i64 hk) (pgR_mk hx)
  rw [put_D] at h2
  refine ⟨w', h1, MapAt.of h2, (Fr.refl [b] w).grown h3.grown (fun g hg => by cases hg; exact .inl (by simp)), ?_⟩
  obtain ⟨es, clock, es', clock', _, rfl⟩ := h3
  simp [setBlock]
/-- 'len(m)'. -/
theorem MapAt.len (h : MapAt w b m) (ty : TypeId) : (Builtin.len_ #[61] ty #[.map (some b)]).run Try.prog w = .ok (.int .i64 (m.length : Int)) w := by
  rw [World.ownsMap.len h Try.underlying61 ty, size_D]
/-- 'clear(m)'. -/
theorem MapAt.clear (h : MapAt w b m) (ty : TypeId) : ∃ w', (Builtin.clear_ #[61] ty #[.map (some b)]).run Try.prog w = .ok (.tuple #[]) w' ∧ MapAt w' b [] ∧ Fr [b] w w' ∧ w'.heap.size = w.heap.size := by
  obtain ⟨es, clock, hb, _⟩ := h
  refine ⟨setBlock w b (.map #[] clock), ?_, ⟨#[], clock, heap_setBlock_same hb _, ⟨by simp, stamped_empty clock, by simp⟩, Nat.le_refl _, rfl⟩, ?_, by simp [setBlock]⟩
  · simp [Builtin.clear_, run_underlying Try.underlying61, MapKept.run_getObj_map hb, MapKept.run_setObj_map _ hb, Result.andThen, setBlock]
  · exact (Fr.refl [b] w).grown (row := some b) ⟨rfl, rfl, rfl, by simp [setBlock], fun i _ hi => heap_setBlock_other hb _ (fun e => hi (by rw [e]))⟩ (fun g hg => by cases hg; exact .inl (by simp))
end

end Go.Proofs.Ytidpleejgalljaa
