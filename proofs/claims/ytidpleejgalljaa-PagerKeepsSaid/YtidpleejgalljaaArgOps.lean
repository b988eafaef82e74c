/-
  An argument that is a slice of structs of four fields: two ints, bytes, bools. Over any program.
-/
import Derived.Test.YtidpleejgalljaaRow
namespace Go.Proofs.Ytidpleejgalljaa
open Go.RowKit Go.ChangeShapes Go.WideShapes Go.Deep

/-- One thing that is done, as it came in. -/
structure OpA where
  what : Int
  place : Int
  bv : Value
  kv : Value
  bs : List UInt8
  ks : List Bool

structure OpA.at_ (W : World) (g off : Nat) (o : OpA) : Prop where
  c0 : W.cell? ⟨g, off, none⟩ = some (.int .i64 o.what)
  c1 : W.cell? ⟨g, off + 1, none⟩ = some (.int .i64 o.place)
  c2 : W.cell? ⟨g, off + 2, none⟩ = some o.bv
  c3 : W.cell? ⟨g, off + 3, none⟩ = some o.kv
  b : ArgBytes W o.bv o.bs
  k : ArgBools W o.kv o.ks
  w0 : (Lit.int .i64 o.what).wf = true
  w1 : (Lit.int .i64 o.place).wf = true

def ArgOps (W : World) (v : Value) (l : List OpA) : Prop :=
  ∃ A c g off, v = .slice A l.length c ∧ l.length ≤ maxLen ∧ ∀ (j : Nat) (o : OpA), l[j]? = some o → A = some ⟨g, off, none⟩ ∧ o.at_ W g (off + j * 4)

theorem Fr.keep {W w : World} (hf : Fr [] W w) {p : Addr} {v : Value} (h : W.cell? p = some v) : w.cell? p = some v := by
  rw [hf.cell (World.block_lt_of_cell? W _ h) (by simp)]; exact h
theorem OpA.at_.fr {W w : World} {g off : Nat} {o : OpA} (h : o.at_ W g off) (hf : Fr [] W w) :
    w.cell? ⟨g, off, none⟩ = some (.int .i64 o.what) ∧ w.cell? ⟨g, off + 1, none⟩ = some (.int .i64 o.place) ∧ w.cell? ⟨g, off + 2, none⟩ = some o.bv ∧ w.cell? ⟨g, off + 3, none⟩ = some o.kv := by
  exact ⟨hf.keep h.c0, hf.keep h.c1, hf.keep h.c2, hf.keep h.c3⟩

section
variable {H : Type} {enc : TypeId × Value → H} {P : Program}
/-- Each field of each element. -/
theorem slice_fields {W : World} {t e : TypeId} {fs : Array Field} {fuel : Nat} {v : Value} {x : DataW H × List MemPlace} (ht : P.underlying t = some (.slice e)) (he : P.underlying e = some (.struct fs))
    (hone : oneCellFields P fs = true) (hC : P.cellsOf e = fs.size) (h : DataW.trod enc P W 0 (fun _ => true) true fuel t [v] = some x) :
    ∃ (A : Option Addr) (len cap : Nat), v = .slice A len cap ∧ len ≤ cap ∧ cap ≤ maxLen ∧ (A = none → len = 0) ∧
      ∀ i, i < len → ∃ a, A = some a ∧ ∀ (j : Nat) (f : Field), fs[j]? = some f → ∃ (u : Value) (n : Nat) (y : DataW H × List MemPlace), W.cell? (a.add (i * fs.size + j)) = some u ∧ DataW.trod enc P W 0 (fun _ => true) true n f.type [u] = some y := by
  rcases open_slice ht h with ⟨hcs, _⟩ | ⟨a, len, cap, m, n, D, Pl, hcs, _, hl, hm, hmm, _, hi⟩
  · obtain rfl : v = .slice none 0 0 := by simpa using hcs
    exact ⟨none, 0, 0, rfl, Nat.le_refl _, Nat.zero_le _, fun _ => rfl, fun i hi => absurd hi (by omega)⟩
  · obtain rfl : v = .slice (some a) len cap := by simpa using hcs
    simp only [if_true] at hmm
    subst hmm
    refine ⟨some a, len, m, rfl, hl, hm, fun h => (by cases h), fun i hil => ⟨a, rfl, fun j f hj => ?_⟩⟩
    obtain ⟨cs', hc, ht'⟩ := hi i (by omega)
    rw [hC] at hc
    obtain ⟨ys, n', hn', hy, hlen, hyl, hf⟩ := DataW.trod_struct he ht'
    obtain ⟨_, hcl, hat⟩ := World.cells?_some hc
    obtain ⟨ho, hk⟩ := hone_of hone j f hj
    have hjl : j < fs.size := (Array.getElem?_eq_some_iff.1 hj).1
    have hcell := hat j hjl
    have hv : cs'[j]? = some (cs'[j]'(by omega)) := List.getElem?_eq_getElem (by omega)
    have h1 := hf j f hj
    rw [ho, hk] at h1
    have h2 : (cs'.drop j).take 1 = [cs'[j]'(by omega)] := by
      rw [List.drop_eq_getElem_cons (by omega)]
      rfl
    rw [h2] at h1
    have hys : ys[j]? = some (ys[j]'(by omega)) := List.getElem?_eq_getElem (by omega)
    refine ⟨_, n', _, ?_, h1.trans hys⟩
    rw [← Go.Deep.add_add, hcell, hv]

theorem arg_ops {W : World} {t e ti tb te tk tke : TypeId} {f0 f1 f2 f3 : Field} {fuel : Nat} {v : Value} {x : DataW H × List MemPlace} (ht : P.underlying t = some (.slice e)) (he : P.underlying e = some (.struct #[f0, f1, f2, f3]))
    (hone : oneCellFields P #[f0, f1, f2, f3] = true) (hC : P.cellsOf e = 4) (h0 : f0.type = ti) (h1 : f1.type = ti) (h2 : f2.type = tb) (h3 : f3.type = tk)
    (hti : P.underlying ti = some (.int .i64)) (htb : P.underlying tb = some (.slice te)) (hte : P.underlying te = some (.int .u8)) (hCe : P.cellsOf te = 1) (htk : P.underlying tk = some (.slice tke)) (htke : P.underlying tke = some .bool) (hCk : P.cellsOf tke = 1)
    (h : DataW.trod enc P W 0 (fun _ => true) true fuel t [v] = some x) : ∃ l, ArgOps W v l := by
  obtain ⟨A, len, cap, rfl, hlc, hcm, hA0, hf⟩ := slice_fields ht he hone hC h
  by_cases hz : len = 0
  · subst hz
    exact ⟨[], A, cap, 0, 0, rfl, by simp, fun j o hj => by simp at hj⟩
  · obtain ⟨a, rfl, hf0⟩ := hf 0 (by omega)
    obtain ⟨u, _, _, hu, _⟩ := hf0 0 f0 rfl
    obtain ⟨g, off, rfl⟩ := add_form (w := W) (a := a) (v := u) (by simpa using hu)
    obtain ⟨l, hl, hp⟩ := list_of (p := fun i (o : OpA) => o.at_ W g (off + i * 4)) len (fun i hi => by
      obtain ⟨a', ha, hfi⟩ := hf i hi
      obtain rfl : a' = ⟨g, off, none⟩ := by injection ha with ha; exact ha.symm
      obtain ⟨u0, n0, y0, hc0, hy0⟩ := hfi 0 f0 rfl
      obtain ⟨u1, n1, y1, hc1, hy1⟩ := hfi 1 f1 rfl
      obtain ⟨u2, n2, y2, hc2, hy2⟩ := hfi 2 f2 rfl
      obtain ⟨u3, n3, y3, hc3, hy3⟩ := hfi 3 f3 rfl
      rw [add_eq] at hc0 hc1 hc2 hc3
      rw [h0] at hy0; rw [h1] at hy1; rw [h2] at hy2; rw [h3] at hy3
      obtain ⟨z0, e0, _, w0⟩ := DataW.trod_int hti hy0
      obtain ⟨z1, e1, _, w1⟩ := DataW.trod_int hti hy1
      obtain ⟨bs, hbs⟩ := arg_bytes htb hte hCe hy2
      obtain ⟨ks, hks⟩ := arg_bools htk htke hCk hy3
      have e0' : u0 = .int .i64 z0 := by simpa using e0
      have e1' : u1 = .int .i64 z1 := by simpa using e1
      subst e0'; subst e1'
      exact ⟨⟨z0, z1, u2, u3, bs, ks⟩, by simpa using hc0, by simpa [Nat.add_assoc] using hc1, by simpa [Nat.add_assoc] using hc2, by simpa [Nat.add_assoc] using hc3, hbs, hks, w0, w1⟩)
    exact ⟨l, some ⟨g, off, none⟩, cap, g, off, by rw [hl], by omega, fun j o hj => ⟨rfl, hp j o hj⟩⟩
end

end Go.Proofs.Ytidpleejgalljaa
