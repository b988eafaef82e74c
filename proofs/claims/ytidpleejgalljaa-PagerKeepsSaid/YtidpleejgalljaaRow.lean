/-
  From a walk to a row: what a law's row asks behind the call, and how its arguments are opened. Over any program.
-/
import Derived.Test.YtidpleejgalljaaBase
import Derived.ProofKit
import Derived.OpenShut
import Derived.Deep.Slices
import Derived.Deep.Fields
import Derived.ChangeSame
import Derived.Carry
namespace Go.Proofs.Ytidpleejgalljaa
open Go.RowKit Go.ChangeShapes Go.WideShapes

section
variable {H : Type} {enc : TypeId × Value → H} {P : Program}

theorem trodAll_stays (hl : laidOutB P = true) {W W' : World} {sp : Nat → Bool} : ∀ {ts : List TypeId} {vs : List Value} {ds : List (DataW H)} {ps : List MemPlace},
    ts.all (fun t => P.readableRec t && decide (t < P.types.size)) = true → DataW.TrodAll enc P W 0 (fun _ => true) true ts vs ds ps → (∀ p ∈ ps, W.sameAt W' p) → (∀ p ∈ ps, sp p.block = true) → DataW.TrodAll enc P W' 0 sp true ts vs ds ps
  | [], [], [], _, _, h, _, _ => h
  | t :: ts, v :: vs, d :: ds, _, hr, h, hsame, hs => by
    obtain ⟨p, q, h1, h2, rfl⟩ := h
    simp only [List.all_cons, Bool.and_eq_true, decide_eq_true_eq] at hr
    exact ⟨p, q, WideElems.Trod_stays hl hr.1.1 hr.1.2 h1 (fun x hx => hsame x (List.mem_append_left _ hx)) (fun x hx => hs x (List.mem_append_left _ hx)),
      trodAll_stays hl (by simpa using hr.2) h2 (fun x hx => hsame x (List.mem_append_right _ hx)) (fun x hx => hs x (List.mem_append_right _ hx)), rfl⟩
  | [], [], _ :: _, _, _, h, _, _ => h.elim
  | [], _ :: _, _, _, _, h, _, _ => by cases h
  | _ :: _, [], _, _, _, h, _, _ => by cases h
  | _ :: _, _ :: _, [], _, _, h, _, _ => by cases h

/-- What a law's row asks: true is answered, each argument reads as it did, nothing old has turned. -/
theorem law_post {f : Func} {s : ChangeSpec} {W W' : World} {args : Array Value} {ds : List (DataW H)} {before : List MemPlace} {tb : TypeId}
    (hl : laidOutB P = true) (hpar : f.params.toList.all (fun t => P.readableRec t && decide (t < P.types.size)) = true) (hrt : f.resultTypes = #[tb]) (hub : P.underlying tb = some .bool) (hvs : s.vars = [])
    (hW : DataW.Whole enc P f.params.toList s.vars false W args.toList ds [] before)
    (hres : (s.fn H (ds ++ [])).results = [.lit (.bool true)]) (hargs : (s.fn H (ds ++ [])).args = ds) (hvars : (s.fn H (ds ++ [])).vars = []) (hf : Fr [] W W') :
    s.post enc P f false true false false W args (.bool true) W' := by
  have hlt : ∀ p ∈ before, p.block < W.heap.size := fun p hp => hW.lt p hp
  have hb : Below W.heap.size W W' := hf.below (Nat.le_refl _) (by simp)
  obtain ⟨p, q, hA, hV, hpq, hfz, hnd⟩ := id hW
  have hq : q = [] := by rw [hvs] at hV; exact hV
  subst hq
  simp only [List.append_nil] at hpq
  subst hpq
  refine ⟨ds, [], before, [], before, [], hW, ?_, ?_, ?_, World.keptBut_mono (fun x hx => ⟨hx, .inr (.inl hx)⟩) (hb.frame (· ∈ before)), fun h => by cases h⟩
  · rw [hres, hrt]
    exact trodAll_cons_mk (shut_bool hub true) trodAll_mk0
  · rw [hargs]
    exact trodAll_stays hl hpar hA (fun x hx => hb.same (hlt x hx)) (fun x hx => by simpa using hlt x hx)
  · rw [hvars, hvs]; rfl

theorem list_of {α : Type} {p : Nat → α → Prop} : ∀ n : Nat, (∀ i, i < n → ∃ b, p i b) → ∃ l : List α, l.length = n ∧ ∀ (j : Nat) (u : α), l[j]? = some u → p j u
  | 0, _ => ⟨[], rfl, fun j u h => by simp at h⟩
  | n + 1, h => by
    obtain ⟨l, hl, hp⟩ := list_of n (fun i hi => h i (by omega))
    obtain ⟨b, hb⟩ := h n (by omega)
    refine ⟨l ++ [b], by simp [hl], fun j u hu => ?_⟩
    by_cases hj : j < n
    · exact hp j u (by rwa [List.getElem?_append_left (by omega)] at hu)
    · have hjl := (List.getElem?_eq_some_iff.1 hu).1
      simp only [List.length_append, List.length_cons, List.length_nil] at hjl
      obtain rfl : j = n := by omega
      rw [List.getElem?_append_right (by omega)] at hu
      simp [hl] at hu
      rw [← hu]; exact hb

/-! ### Arguments -/
/-- A slice of bytes that came in. -/
def ArgBytes (W : World) (v : Value) (bs : List UInt8) : Prop := bs.length ≤ maxLen ∧ ∃ g, BytesAt W v bs g ∧ (bs = [] ∨ g < W.heap.size)
theorem ArgBytes.here {W w : World} {v : Value} {bs : List UInt8} (h : ArgBytes W v bs) (hf : Fr [] W w) : ∃ g, BytesAt w v bs g ∧ (g < W.heap.size ∨ w.heap.size ≤ g) := by
  obtain ⟨_, g, hb, h0⟩ := h
  by_cases hn : bs = []
  · obtain ⟨A, c, off, rfl, hc, _⟩ := hb
    subst hn
    exact ⟨w.heap.size, ⟨A, c, off, rfl, hc, fun h => by simp at h⟩, .inr (Nat.le_refl _)⟩
  · rcases h0 with h0 | h0
    · exact absurd h0 hn
    · exact ⟨g, hb.fr hf (by simp), .inl h0⟩
def ArgBools (W : World) (v : Value) (bs : List Bool) : Prop := bs.length ≤ maxLen ∧ ∃ g, BoolsAt W v bs g ∧ (bs = [] ∨ g < W.heap.size)
theorem ArgBools.here {W w : World} {v : Value} {bs : List Bool} (h : ArgBools W v bs) (hf : Fr [] W w) : ∃ g, BoolsAt w v bs g ∧ (g < W.heap.size ∨ w.heap.size ≤ g) := by
  obtain ⟨_, g, hb, h0⟩ := h
  by_cases hn : bs = []
  · obtain ⟨A, c, off, rfl, hc, _⟩ := hb
    subst hn
    exact ⟨w.heap.size, ⟨A, c, off, rfl, hc, fun h => by simp at h⟩, .inr (Nat.le_refl _)⟩
  · rcases h0 with h0 | h0
    · exact absurd h0 hn
    · exact ⟨g, hb.fr hf (by simp), .inl h0⟩

theorem add_form {w : World} {a : Addr} {v : Value} (h : w.cell? (a.add 0) = some v) : ∃ g off, a = ⟨g, off, none⟩ := by
  obtain ⟨g, off, sp⟩ := a
  cases sp with
  | none => exact ⟨g, off, rfl⟩
  | some x =>
    exfalso
    simp only [Addr.add, if_true, World.cell?] at h
    split at h <;> simp at h
theorem add_eq (g off j : Nat) : (⟨g, off, none⟩ : Addr).add j = ⟨g, off + j, none⟩ := by unfold Addr.add; split <;> simp_all

theorem u8_of_wf {z : Int} (h : (Lit.int .u8 z).wf = true) : Value.int .u8 z = B8 (UInt8.ofNat z.toNat) := by
  have h' := bounds_u8 h
  unfold B8
  congr 1
  rw [UInt8.toNat_ofNat']
  omega

theorem arg_bytes {W : World} {t e : TypeId} {v : Value} {fuel : Nat} {x : DataW H × List MemPlace} (ht : P.underlying t = some (.slice e)) (he : P.underlying e = some (.int .u8)) (hC : P.cellsOf e = 1)
    (h : DataW.trod enc P W 0 (fun _ => true) true fuel t [v] = some x) : ∃ bs, ArgBytes W v bs := by
  rcases open_ints ht he hC h with ⟨hcs, _⟩ | ⟨a, len, cap, zs, hcs, _, hl, hm, hz, _, hcell, hwf⟩
  · obtain rfl : v = .slice none 0 0 := by simpa using hcs
    exact ⟨[], by simp, 0, BytesAt.nil _ _, .inl rfl⟩
  · obtain rfl : v = .slice (some a) len cap := by simpa using hcs
    simp only [if_true] at hz
    have hl0 : ((zs.take len).map fun z => UInt8.ofNat z.toNat).length = len := by simp; omega
    by_cases h0 : len = 0
    · subst h0
      exact ⟨[], by simp, 0, ⟨some a, cap, 0, rfl, by simp, fun h => by simp at h⟩, .inl rfl⟩
    · obtain ⟨g, off, rfl⟩ := add_form (hcell 0 (by omega))
      refine ⟨(zs.take len).map fun z => UInt8.ofNat z.toNat, by rw [hl0]; omega, g, ⟨some ⟨g, off, none⟩, cap, off, by rw [hl0], by rw [hl0]; exact hl, fun _ => ⟨rfl, fun j u hu => ?_⟩⟩, .inr ?_⟩
      · have hj : j < len := by have := (List.getElem?_eq_some_iff.1 hu).1; rw [bcells_len, hl0] at this; exact this
        have hc := hcell j (by omega)
        rw [add_eq] at hc
        rw [hc]
        rw [bcells_at, List.getElem?_map, List.getElem?_take, if_pos hj, List.getElem?_eq_getElem (by omega : j < zs.length)] at hu
        simp only [Option.map_some, Option.some.injEq] at hu
        rw [List.getD_eq_getElem?_getD, List.getElem?_eq_getElem (by omega : j < zs.length), Option.getD_some, u8_of_wf (hwf _ (List.getElem_mem _)), ← hu]
      · have hc := hcell 0 (by omega)
        rw [add_eq] at hc
        exact World.block_lt_of_cell? W _ hc

theorem arg_bools {W : World} {t e : TypeId} {v : Value} {fuel : Nat} {x : DataW H × List MemPlace} (ht : P.underlying t = some (.slice e)) (he : P.underlying e = some .bool) (hC : P.cellsOf e = 1)
    (h : DataW.trod enc P W 0 (fun _ => true) true fuel t [v] = some x) : ∃ bs, ArgBools W v bs := by
  rcases Go.Deep.open_slice ht h with ⟨hcs, _⟩ | ⟨a, len, cap, m, n, D, Pl, hcs, _, hl, hm, hmm, _, hi⟩
  · obtain rfl : v = .slice none 0 0 := by simpa using hcs
    exact ⟨[], by simp, 0, BoolsAt.nil _ _, .inl rfl⟩
  · obtain rfl : v = .slice (some a) len cap := by simpa using hcs
    simp only [if_true] at hmm
    subst hmm
    rw [hC] at hi
    have hb : ∀ i, i < m → ∃ b : Bool, W.cell? (a.add i) = some (.bool b) := by
      intro i him
      obtain ⟨cs', hc, ht'⟩ := hi i him
      obtain ⟨_, hcl, hat⟩ := World.cells?_some hc
      obtain ⟨b, hb, _⟩ := DataW.trod_bool he ht'
      have h1 := hat 0 (by omega)
      rw [hb] at h1
      refine ⟨b, ?_⟩
      have e1 : (a.add (i * 1)).add 0 = a.add i := by rw [Nat.mul_one]; simp [Addr.add]
      rw [e1] at h1
      simpa using h1
    by_cases h0 : len = 0
    · subst h0
      exact ⟨[], by simp, 0, ⟨some a, m, 0, rfl, by simp, fun h => by simp at h⟩, .inl rfl⟩
    · obtain ⟨b0, hb0⟩ := hb 0 (by omega)
      obtain ⟨g, off, rfl⟩ := add_form hb0
      obtain ⟨bs, hbl, hbs⟩ := list_of (p := fun i (b : Bool) => W.cell? ⟨g, off + i, none⟩ = some (.bool b)) len (fun i hi => by
        obtain ⟨b, hb⟩ := hb i (by omega)
        rw [add_eq] at hb
        exact ⟨b, hb⟩)
      rw [add_eq] at hb0
      exact ⟨bs, by omega, g, ⟨some ⟨g, off, none⟩, m, off, by rw [hbl], by omega, fun _ => ⟨rfl, hbs⟩⟩, .inr (World.block_lt_of_cell? W _ hb0)⟩
end

end Go.Proofs.Ytidpleejgalljaa
