/-
  What every proof of this seat leans on: blocks known whole, footprints, frames, rows of bytes. No program in sight.
-/
import Derived.WalkKit
import Derived.WalkSpells
import Derived.WalkLawsBesides
import Derived.Lib.Hide
import Derived.Deep.AppendLies
import Derived.Deep.QuietTactic
import Derived.BigQuiet
import Derived.Laws.CopyOwn
import Derived.Deep.OwnRows
import Derived.Deep.DeepCutAuto
import Derived.Deep.LoopGhost
namespace Go.Proofs.Ytidpleejgalljaa
open Go.RowKit

/-! ### Frames: all old blocks but those listed are as they were -/
structure Fr (S : List Nat) (w w' : World) : Prop where
  os : w'.os = w.os
  tape : w'.tape = w.tape
  output : w'.output = w.output
  size : w.heap.size ≤ w'.heap.size
  block : ∀ k, k < w.heap.size → k ∉ S → w'.heap[k]? = w.heap[k]?

theorem Fr.refl (S : List Nat) (w : World) : Fr S w w := ⟨rfl, rfl, rfl, Nat.le_refl _, fun _ _ _ => rfl⟩
theorem Fr.trans {S T : List Nat} {a b c : World} (h : Fr S a b) (k : Fr T b c) (hT : ∀ x ∈ T, x ∈ S ∨ a.heap.size ≤ x) : Fr S a c :=
  ⟨k.os.trans h.os, k.tape.trans h.tape, k.output.trans h.output, Nat.le_trans h.size k.size, fun i hi hn =>
    (k.block i (Nat.lt_of_lt_of_le hi h.size) (fun hm => by
      rcases hT i hm with h1 | h1
      · exact hn h1
      · omega)).trans (h.block i hi hn)⟩
theorem Fr.mono {S T : List Nat} {a b : World} (h : Fr S a b) (hS : ∀ x ∈ S, x ∈ T ∨ a.heap.size ≤ x) : Fr T a b :=
  ⟨h.os, h.tape, h.output, h.size, fun i hi hn => h.block i hi (fun hm => by
    rcases hS i hm with h1 | h1
    · exact hn h1
    · omega)⟩
theorem Fr.drew {S : List Nat} {a b : World} (h : Fr S a b) : Fr S a b.drew := ⟨h.os, h.tape, h.output, h.size, h.block⟩
theorem Fr.drewN {S : List Nat} {a b : World} (h : Fr S a b) (n : Nat) : Fr S a (b.drewN n) := ⟨h.os, h.tape, h.output, h.size, h.block⟩
theorem Fr.alloc {S : List Nat} {a b : World} (h : Fr S a b) (o : Obj) : Fr S a (b.alloc o) :=
  ⟨h.os, h.tape, h.output, Nat.le_trans h.size (by simp), fun i hi hn => (Below.heap_alloc b o i (Nat.lt_of_lt_of_le hi h.size)).trans (h.block i hi hn)⟩
theorem Fr.setCell {S : List Nat} {a b : World} (h : Fr S a b) {p : Addr} (hp : p.block ∈ S ∨ a.heap.size ≤ p.block) (u : Value) : Fr S a (b.setCell p u) :=
  ⟨h.os, h.tape, h.output, by simpa [World.setCell] using h.size, fun i hi hn => (Below.heap_setCell b p u i (fun e => by
    rcases hp with hp | hp
    · exact hn (e ▸ hp)
    · omega)).trans (h.block i hi hn)⟩
theorem Fr.setRow {S : List Nat} {a b : World} (h : Fr S a b) {g : Nat} (hp : g ∈ S ∨ a.heap.size ≤ g) (cs : Array Value) : Fr S a (b.setRow g cs) :=
  ⟨h.os, h.tape, h.output, by simpa [World.setRow] using h.size, fun i hi hn => (setRow_other b g i cs (fun e => by
    rcases hp with hp | hp
    · exact hn (e ▸ hp)
    · omega)).trans (h.block i hi hn)⟩
theorem Fr.grown {S : List Nat} {a b c : World} (h : Fr S a b) {row : Option Nat} (hg : b.grownBy c row) (hr : ∀ g, row = some g → g ∈ S ∨ a.heap.size ≤ g) : Fr S a c :=
  ⟨hg.os.trans h.os, hg.tape.trans h.tape, hg.output.trans h.output, Nat.le_trans h.size hg.size, fun i hi hn =>
    (hg.block i (Nat.lt_of_lt_of_le hi h.size) (fun e => by
      rcases hr i e.symm with h1 | h1
      · exact hn h1
      · omega)).trans (h.block i hi hn)⟩
theorem Fr.below {S : List Nat} {a b : World} {B : Nat} (h : Fr S a b) (hB : B ≤ a.heap.size) (hS : ∀ x ∈ S, B ≤ x) : Below B a b :=
  ⟨h.os, h.tape, h.output, h.size, fun k hk => h.block k (by omega) (fun hm => by have := hS k hm; omega)⟩
theorem Fr.of_below {a b : World} (h : Below a.heap.size a b) (S : List Nat) : Fr S a b := ⟨h.os, h.tape, h.output, h.size, fun k hk _ => h.block k hk⟩
theorem Fr.cell {S : List Nat} {a b : World} (h : Fr S a b) {p : Addr} (hp : p.block < a.heap.size) (hn : p.block ∉ S) : b.cell? p = a.cell? p := World.cell?_of_block (w := a) (h.block p.block hp hn)
theorem Fr.frozen {S : List Nat} {a b : World} (h : Fr S a b) {p : Addr} (hp : p.block < a.heap.size) (hn : p.block ∉ S) : b.frozen? p = a.frozen? p := World.frozen?_of_block (w := a) (h.block p.block hp hn)

/-! ### A block that is known whole -/
def Blk (w : World) (g : Nat) (t : TypeId) (cs : List Value) : Prop := w.heap[g]? = some (.cells cs.toArray t (0, 0))
section
variable {w w' : World} {g : Nat} {t : TypeId} {cs : List Value}
theorem Blk.lt (h : Blk w g t cs) : g < w.heap.size := by
  rcases Nat.lt_or_ge g w.heap.size with hlt | hge
  · exact hlt
  · unfold Blk at h; rw [Array.getElem?_eq_none hge] at h; cases h
theorem Blk.cell (h : Blk w g t cs) (i : Nat) : w.cell? ⟨g, i, none⟩ = cs[i]? := by
  unfold Blk at h; simp [World.cell?, h]
theorem Blk.at_ (h : Blk w g t cs) {i : Nat} {v : Value} (hv : cs[i]? = some v) : w.cell? ⟨g, i, none⟩ = some v := (h.cell i).trans hv
theorem Blk.free (h : Blk w g t cs) (i : Nat) : w.frozen? ⟨g, i, none⟩ = false := by
  unfold Blk at h; simp [World.frozen?, h]
theorem Blk.new (w : World) (t : TypeId) (cs : List Value) : Blk (w.alloc (.cells cs.toArray t)) w.heap.size t cs := by
  exact heap_alloc_new w _
theorem Blk.fr {S : List Nat} (h : Blk w g t cs) (hf : Fr S w w') (hg : g ∉ S) : Blk w' g t cs := (hf.block g h.lt hg).trans h
theorem Blk.drew (h : Blk w g t cs) : Blk w.drew g t cs := h
theorem Blk.drewN (h : Blk w g t cs) (n : Nat) : Blk (w.drewN n) g t cs := h
theorem Blk.alloc (h : Blk w g t cs) (o : Obj) : Blk (w.alloc o) g t cs := (Below.heap_alloc w o g h.lt).trans h
theorem Blk.set_ (h : Blk w g t cs) (i : Nat) (u : Value) : Blk (w.setCell ⟨g, i, none⟩ u) g t (cs.set i u) := by
  unfold Blk at h ⊢
  simp [World.setCell, Array.getElem?_modify, h]
theorem Blk.far (h : Blk w g t cs) {p : Addr} (hp : g ≠ p.block) (u : Value) : Blk (w.setCell p u) g t cs := (Below.heap_setCell w p u g hp).trans h
theorem Blk.row_ (h : Blk w g t cs) (ds : List Value) : Blk (w.setRow g ds.toArray) g t ds := setRow_heap w g _ _ t _ h
theorem Blk.row_far (h : Blk w g t cs) {q : Nat} (hq : g ≠ q) (ds : Array Value) : Blk (w.setRow q ds) g t cs := (setRow_other w q g ds hq).trans h
theorem Blk.grown {row : Option Nat} (h : Blk w g t cs) (hb : w.grownBy w' row) (hg : some g ≠ row) : Blk w' g t cs := (hb.block g h.lt hg).trans h
theorem Blk.ne_ {g' : Nat} {t' : TypeId} {cs' : List Value} (h : Blk w g t cs) (h' : Blk w g' t' cs') (hne : t ≠ t') : g ≠ g' := by
  rintro rfl
  unfold Blk at h h'
  rw [h] at h'
  injection h' with h'
  injection h' with _ ht
  exact hne ht
end

/-! ### Rows that are owned -/
theorem own_fr {S : List Nat} {w w' : World} {base : Nat} {e : TypeId} {size n : Nat} {v : Value} {xs : List Value} (h : w.ownsRow base e size v n xs) (hf : Fr S w w') (hS : ∀ g, v.ownBlock = some g → g ∉ S) : w'.ownsRow base e size v n xs := by
  refine ⟨h.1, ?_⟩
  rcases h.2 with h2 | ⟨g, cap, cur, hv, hg, hh, r⟩
  · exact .inl h2
  · refine .inr ⟨g, cap, cur, hv, hg, ?_, r⟩
    have hlt : g < w.heap.size := by
      rcases Nat.lt_or_ge g w.heap.size with hlt | hge
      · exact hlt
      · rw [Array.getElem?_eq_none hge] at hh; cases hh
    rw [hf.block g hlt (hS g (by subst hv; rfl))]
    exact hh
theorem own_lt {w : World} {base : Nat} {e : TypeId} {size n : Nat} {v : Value} {xs : List Value} (h : w.ownsRow base e size v n xs) : ∀ g, v.ownBlock = some g → g < w.heap.size := by
  intro g hg
  rcases h.2 with ⟨rfl, _⟩ | ⟨g', cap, cur, rfl, _, hh, _⟩
  · simp [Value.ownBlock] at hg
  · have : g' = g := by simpa [Value.ownBlock] using hg
    subst this
    rcases Nat.lt_or_ge g' w.heap.size with hlt | hge
    · exact hlt
    · rw [Array.getElem?_eq_none hge] at hh; cases hh
theorem own_ne {w : World} {base : Nat} {e : TypeId} {size n : Nat} {v : Value} {xs : List Value} {g : Nat} {t : TypeId} {cs : List Value} (h : w.ownsRow base e size v n xs) (hg : Blk w g t cs) (hne : e ≠ t) : v.ownBlock ≠ some g := by
  rcases h.2 with ⟨rfl, _⟩ | ⟨g', cap, cur, rfl, _, hh, _⟩
  · simp [Value.ownBlock]
  · intro he
    have : g' = g := by simpa [Value.ownBlock] using he
    subst this
    have hg' := hg
    unfold Blk at hg'
    rw [hh] at hg'
    injection hg' with hg'
    injection hg' with _ ht
    exact hne ht
theorem own_nil (w : World) (base : Nat) (e : TypeId) (size : Nat) : w.ownsRow base e size (.slice none 0 0) 0 [] := ⟨by simp, .inl ⟨rfl, rfl⟩⟩
theorem own_shape {w : World} {base : Nat} {e : TypeId} {size n : Nat} {v : Value} {xs : List Value} (h : w.ownsRow base e size v n xs) : ∃ a c, v = .slice a n c ∧ n ≤ c ∧ c ≤ maxLen := by
  rcases h.2 with ⟨rfl, rfl⟩ | ⟨g', cap, cur, rfl, _, hh, hn, hc, _⟩
  · exact ⟨_, _, rfl, Nat.le_refl _, Nat.zero_le _⟩
  · exact ⟨_, _, rfl, hn, hc⟩
theorem own_cell {w : World} {base : Nat} {e : TypeId} {size n : Nat} {a : Option Addr} {c : Nat} {xs : List Value} (h : w.ownsRow base e size (.slice a n c) n xs) (hn : 0 < n) :
    ∃ g, a = some ⟨g, 0, none⟩ ∧ ∀ (j : Nat) (u : Value), xs[j]? = some u → w.cell? ⟨g, j, none⟩ = some u := by
  rcases h.2 with ⟨h1, h0⟩ | ⟨g, cap, cur, hv, _, hh, hnc, hc, hs, ht⟩
  · omega
  · injection hv with h1 h2 h3
    refine ⟨g, h1, fun j u hj => ?_⟩
    simp only [World.cell?, hh]
    rw [← ht] at hj
    rw [List.getElem?_take] at hj
    split at hj
    · simpa using hj
    · cases hj

/-! ### Bytes -/
def B8 (c : UInt8) : Value := .int .u8 (c.toNat : Int)
def bcells (l : List UInt8) : List Value := l.map B8
theorem bcells_len (l : List UInt8) : (bcells l).length = l.length := by simp [bcells]
theorem bcells_at (l : List UInt8) (i : Nat) : (bcells l)[i]? = (l[i]?).map B8 := by simp [bcells]
theorem bcells_one (l : List UInt8) : ∀ u ∈ bcells l, u.oneCell' = true := by
  intro u hu
  simp only [bcells, List.mem_map] at hu
  obtain ⟨c, _, rfl⟩ := hu
  rfl
theorem bcells_append (a b : List UInt8) : bcells (a ++ b) = bcells a ++ bcells b := by simp [bcells]
theorem bcells_take (a : List UInt8) (k : Nat) : bcells (a.take k) = (bcells a).take k := by simp [bcells]
theorem bcells_drop (a : List UInt8) (k : Nat) : bcells (a.drop k) = (bcells a).drop k := by simp [bcells]

/-- A slice value that reads as these bytes; they lie in block g (if there are any). -/
def BytesAt (w : World) (v : Value) (bs : List UInt8) (g : Nat) : Prop :=
  ∃ A c off, v = .slice A bs.length c ∧ bs.length ≤ c ∧ (0 < bs.length → A = some ⟨g, off, none⟩ ∧ ∀ (j : Nat) (u : Value), (bcells bs)[j]? = some u → w.cell? ⟨g, off + j, none⟩ = some u)
theorem BytesAt.fr {S : List Nat} {w w' : World} {v : Value} {bs : List UInt8} {g : Nat} (h : BytesAt w v bs g) (hf : Fr S w w') (hg : g ∉ S) : BytesAt w' v bs g := by
  obtain ⟨A, c, off, hv, hc, hb⟩ := h
  refine ⟨A, c, off, hv, hc, fun h0 => ⟨(hb h0).1, fun j u hu => ?_⟩⟩
  have h1 := (hb h0).2 j u hu
  rw [hf.cell (World.block_lt_of_cell? w _ h1) hg]
  exact h1
theorem BytesAt.nil (w : World) (g : Nat) : BytesAt w (.slice none 0 0) [] g := ⟨none, 0, 0, rfl, Nat.le_refl _, fun h => by simp at h⟩
theorem BytesAt.of_blk {w : World} {g : Nat} {t : TypeId} {bs : List UInt8} (h : Blk w g t (bcells bs)) (c : Nat) (hc : bs.length ≤ c) : BytesAt w (.slice (some ⟨g, 0, none⟩) bs.length c) bs g :=
  ⟨_, c, 0, rfl, hc, fun _ => ⟨rfl, fun j u hu => by rw [Nat.zero_add]; exact h.at_ hu⟩⟩

/-- A slice value that reads as these bools; they lie in block g (if there are any). -/
def BoolsAt (w : World) (v : Value) (bs : List Bool) (g : Nat) : Prop :=
  ∃ A c off, v = .slice A bs.length c ∧ bs.length ≤ c ∧ (0 < bs.length → A = some ⟨g, off, none⟩ ∧ ∀ (j : Nat) (u : Bool), bs[j]? = some u → w.cell? ⟨g, off + j, none⟩ = some (.bool u))
theorem BoolsAt.fr {S : List Nat} {w w' : World} {v : Value} {bs : List Bool} {g : Nat} (h : BoolsAt w v bs g) (hf : Fr S w w') (hg : g ∉ S) : BoolsAt w' v bs g := by
  obtain ⟨A, c, off, hv, hc, hb⟩ := h
  refine ⟨A, c, off, hv, hc, fun h0 => ⟨(hb h0).1, fun j u hu => ?_⟩⟩
  have h1 := (hb h0).2 j u hu
  rw [hf.cell (World.block_lt_of_cell? w _ h1) hg]
  exact h1
theorem BoolsAt.nil (w : World) (g : Nat) : BoolsAt w (.slice none 0 0) [] g := ⟨none, 0, 0, rfl, Nat.le_refl _, fun h => by simp at h⟩

end Go.Proofs.Ytidpleejgalljaa
