/-
  Joined by join.py: Base Row ArgOps Dm DiskA Laws DiskB
-/
import Derived.WalkKit
import Derived.WalkSpells
import Derived.WalkLawsBesides
import Derived.Lib.Hide
import Derived.Deep.AppendLies
import Derived.Deep.QuietTactic
import Derived.BigQuiet
import Derived.Laws.CopyOwn
import Derived.Deep.OwnRows
import Derived.Deep.DeepCutAuto
import Derived.Deep.LoopGhost
import Derived.ProofKit
import Derived.OpenShut
import Derived.Deep.Slices
import Derived.Deep.Fields
import Derived.ChangeSame
import Derived.Carry
import Derived.Test.YtpjbdpepofnleaaGreatProg
import Derived.Deep.MidRow
import Derived.Deep.WholeRow
import Derived.StillTailTactics
set_option maxRecDepth 100000
set_option maxHeartbeats 32000000
namespace Go.Proofs.YtpjbdpepofnleaaGreat
section
open Go.RowKit
structure Fr (S : List Nat) (w w' : World) : Prop where
 os : w'.os = w.os
 tape : w'.tape = w.tape
 output : w'.output = w.output
 size : w.heap.size <= w'.heap.size
 block : ∀ k, k < w.heap.size -> k ∉ S -> w'.heap[k]? = w.heap[k]?
theorem Fr.refl (S : List Nat) (w : World) : Fr S w w := ⟨rfl, rfl, rfl, Nat.le_refl _, fun _ _ _ => rfl⟩
theorem Fr.trans {S T : List Nat} {a b c : World} (h : Fr S a b) (k : Fr T b c) (hT : ∀ x ∈ T, x ∈ S ∨ a.heap.size <= x) : Fr S a c :=
 ⟨k.os.trans h.os, k.tape.trans h.tape, k.output.trans h.output, Nat.le_trans h.size k.size, fun i hi hn =>
  (k.block i (Nat.lt_of_lt_of_le hi h.size) (fun hm => by
   rcases hT i hm with h1 | h1
   ·exact hn h1
   ·omega)).trans (h.block i hi hn)⟩
theorem Fr.mono {S T : List Nat} {a b : World} (h : Fr S a b) (hS : ∀ x ∈ S, x ∈ T ∨ a.heap.size <= x) : Fr T a b :=
 ⟨h.os, h.tape, h.output, h.size, fun i hi hn => h.block i hi (fun hm => by
  rcases hS i hm with h1 | h1
  ·exact hn h1
  ·omega)⟩
theorem Fr.drew {S : List Nat} {a b : World} (h : Fr S a b) : Fr S a b.drew := ⟨h.os, h.tape, h.output, h.size, h.block⟩
theorem Fr.drewN {S : List Nat} {a b : World} (h : Fr S a b) (n : Nat) : Fr S a (b.drewN n) := ⟨h.os, h.tape, h.output, h.size, h.block⟩
theorem Fr.alloc {S : List Nat} {a b : World} (h : Fr S a b) (o : Obj) : Fr S a (b.alloc o) :=
 ⟨h.os, h.tape, h.output, Nat.le_trans h.size (by simp), fun i hi hn => (Below.heap_alloc b o i (Nat.lt_of_lt_of_le hi h.size)).trans (h.block i hi hn)⟩
theorem Fr.setCell {S : List Nat} {a b : World} (h : Fr S a b) {p : Addr} (hp : p.block ∈ S ∨ a.heap.size <= p.block) (u : Value) : Fr S a (b.setCell p u) :=
 ⟨h.os, h.tape, h.output, by simpa [World.setCell] using h.size, fun i hi hn => (Below.heap_setCell b p u i (fun e => by
  rcases hp with hp | hp
  ·exact hn (e ▸ hp)
  ·omega)).trans (h.block i hi hn)⟩
theorem Fr.setRow {S : List Nat} {a b : World} (h : Fr S a b) {g : Nat} (hp : g ∈ S ∨ a.heap.size <= g) (cs : Array Value) : Fr S a (b.setRow g cs) :=
 ⟨h.os, h.tape, h.output, by simpa [World.setRow] using h.size, fun i hi hn => (setRow_other b g i cs (fun e => by
  rcases hp with hp | hp
  ·exact hn (e ▸ hp)
  ·omega)).trans (h.block i hi hn)⟩
theorem Fr.grown {S : List Nat} {a b c : World} (h : Fr S a b) {row : Option Nat} (hg : b.grownBy c row) (hr : ∀ g, row = some g -> g ∈ S ∨ a.heap.size <= g) : Fr S a c :=
 ⟨hg.os.trans h.os, hg.tape.trans h.tape, hg.output.trans h.output, Nat.le_trans h.size hg.size, fun i hi hn =>
  (hg.block i (Nat.lt_of_lt_of_le hi h.size) (fun e => by
   rcases hr i e.symm with h1 | h1
   ·exact hn h1
   ·omega)).trans (h.block i hi hn)⟩
theorem Fr.below {S : List Nat} {a b : World} {B : Nat} (h : Fr S a b) (hB : B <= a.heap.size) (hS : ∀ x ∈ S, B <= x) : Below B a b :=
 ⟨h.os, h.tape, h.output, h.size, fun k hk => h.block k (by omega) (fun hm => by have := hS k hm; omega)⟩
theorem Fr.of_below {a b : World} (h : Below a.heap.size a b) (S : List Nat) : Fr S a b := ⟨h.os, h.tape, h.output, h.size, fun k hk _ => h.block k hk⟩
theorem Fr.cell {S : List Nat} {a b : World} (h : Fr S a b) {p : Addr} (hp : p.block < a.heap.size) (hn : p.block ∉ S) : b.cell? p = a.cell? p := World.cell?_of_block (w := a) (h.block p.block hp hn)
def Blk (w : World) (g : Nat) (t : TypeId) (cs : List Value) : Prop := w.heap[g]? = some (.cells cs.toArray t (0, 0))
section
variable {w w' : World} {g : Nat} {t : TypeId} {cs : List Value}
theorem Blk.lt (h : Blk w g t cs) : g < w.heap.size := by
 rcases Nat.lt_or_ge g w.heap.size with hlt | hge
 ·exact hlt
 ·unfold Blk at h; rw [Array.getElem?_eq_none hge] at h; cases h
theorem Blk.cell (h : Blk w g t cs) (i : Nat) : w.cell? ⟨g, i, none⟩ = cs[i]? := by
 unfold Blk at h; simp [World.cell?, h]
theorem Blk.at_ (h : Blk w g t cs) {i : Nat} {v : Value} (hv : cs[i]? = some v) : w.cell? ⟨g, i, none⟩ = some v := (h.cell i).trans hv
theorem Blk.free (h : Blk w g t cs) (i : Nat) : w.frozen? ⟨g, i, none⟩ = false := by
 unfold Blk at h; simp [World.frozen?, h]
theorem Blk.new (w : World) (t : TypeId) (cs : List Value) : Blk (w.alloc (.cells cs.toArray t)) w.heap.size t cs := by
 exact heap_alloc_new w _
theorem Blk.fr {S : List Nat} (h : Blk w g t cs) (hf : Fr S w w') (hg : g ∉ S) : Blk w' g t cs := (hf.block g h.lt hg).trans h
theorem Blk.drew (h : Blk w g t cs) : Blk w.drew g t cs := h
theorem Blk.drewN (h : Blk w g t cs) (n : Nat) : Blk (w.drewN n) g t cs := h
theorem Blk.alloc (h : Blk w g t cs) (o : Obj) : Blk (w.alloc o) g t cs := (Below.heap_alloc w o g h.lt).trans h
theorem Blk.set_ (h : Blk w g t cs) (i : Nat) (u : Value) : Blk (w.setCell ⟨g, i, none⟩ u) g t (cs.set i u) := by
 unfold Blk at h ⊢
 simp [World.setCell, Array.getElem?_modify, h]
theorem Blk.far (h : Blk w g t cs) {p : Addr} (hp : g ≠ p.block) (u : Value) : Blk (w.setCell p u) g t cs := (Below.heap_setCell w p u g hp).trans h
theorem Blk.row_ (h : Blk w g t cs) (ds : List Value) : Blk (w.setRow g ds.toArray) g t ds := setRow_heap w g _ _ t _ h
theorem Blk.row_far (h : Blk w g t cs) {q : Nat} (hq : g ≠ q) (ds : Array Value) : Blk (w.setRow q ds) g t cs := (setRow_other w q g ds hq).trans h
theorem Blk.grown {row : Option Nat} (h : Blk w g t cs) (hb : w.grownBy w' row) (hg : some g ≠ row) : Blk w' g t cs := (hb.block g h.lt hg).trans h
theorem Blk.ne_ {g' : Nat} {t' : TypeId} {cs' : List Value} (h : Blk w g t cs) (h' : Blk w g' t' cs') (hne : t ≠ t') : g ≠ g' := by
 rintro rfl; unfold Blk at h h'; rw [h] at h'; injection h' with h'; injection h' with _ ht; exact hne ht
end
theorem own_fr {S : List Nat} {w w' : World} {base : Nat} {e : TypeId} {size n : Nat} {v : Value} {xs : List Value} (h : w.ownsRow base e size v n xs) (hf : Fr S w w') (hS : ∀ g, v.ownBlock = some g -> g ∉ S) : w'.ownsRow base e size v n xs := by
 refine ⟨h.1, ?_⟩; rcases h.2 with h2 | ⟨g, cap, cur, hv, hg, hh, r⟩
 ·exact .inl h2
 ·refine .inr ⟨g, cap, cur, hv, hg, ?_, r⟩
  have hlt : g < w.heap.size := by
   rcases Nat.lt_or_ge g w.heap.size with hlt | hge
   ·exact hlt
   ·rw [Array.getElem?_eq_none hge] at hh; cases hh
  rw [hf.block g hlt (hS g (by subst hv; rfl))]; exact hh
theorem own_lt {w : World} {base : Nat} {e : TypeId} {size n : Nat} {v : Value} {xs : List Value} (h : w.ownsRow base e size v n xs) : ∀ g, v.ownBlock = some g -> g < w.heap.size := by
 intro g hg; rcases h.2 with ⟨rfl, _⟩ | ⟨g', cap, cur, rfl, _, hh, _⟩
 ·simp [Value.ownBlock] at hg
 ·have : g' = g := by simpa [Value.ownBlock] using hg
  subst this; rcases Nat.lt_or_ge g' w.heap.size with hlt | hge
  ·exact hlt
  ·rw [Array.getElem?_eq_none hge] at hh; cases hh
theorem own_ne {w : World} {base : Nat} {e : TypeId} {size n : Nat} {v : Value} {xs : List Value} {g : Nat} {t : TypeId} {cs : List Value} (h : w.ownsRow base e size v n xs) (hg : Blk w g t cs) (hne : e ≠ t) : v.ownBlock ≠ some g := by
 rcases h.2 with ⟨rfl, _⟩ | ⟨g', cap, cur, rfl, _, hh, _⟩
 ·simp [Value.ownBlock]
 ·intro he; have : g' = g := by simpa [Value.ownBlock] using he
  subst this; have hg' := hg; unfold Blk at hg'; rw [hh] at hg'; injection hg' with hg'; injection hg' with _ ht; exact hne ht
theorem own_nil (w : World) (base : Nat) (e : TypeId) (size : Nat) : w.ownsRow base e size (.slice none 0 0) 0 [] := ⟨by simp, .inl ⟨rfl, rfl⟩⟩
theorem own_shape {w : World} {base : Nat} {e : TypeId} {size n : Nat} {v : Value} {xs : List Value} (h : w.ownsRow base e size v n xs) : ∃ a c, v = .slice a n c /\ n <= c /\ c <= maxLen := by
 rcases h.2 with ⟨rfl, rfl⟩ | ⟨g', cap, cur, rfl, _, hh, hn, hc, _⟩
 ·exact ⟨_, _, rfl, Nat.le_refl _, Nat.zero_le _⟩
 ·exact ⟨_, _, rfl, hn, hc⟩
theorem own_cell {w : World} {base : Nat} {e : TypeId} {size n : Nat} {a : Option Addr} {c : Nat} {xs : List Value} (h : w.ownsRow base e size (.slice a n c) n xs) (hn : 0 < n) :
  ∃ g, a = some ⟨g, 0, none⟩ /\ ∀ (j : Nat) (u : Value), xs[j]? = some u -> w.cell? ⟨g, j, none⟩ = some u := by
 rcases h.2 with ⟨h1, h0⟩ | ⟨g, cap, cur, hv, _, hh, hnc, hc, hs, ht⟩
 ·omega
 ·injection hv with h1 h2 h3; refine ⟨g, h1, fun j u hj => ?_⟩; simp only [World.cell?, hh]; rw [<- ht] at hj; rw [List.getElem?_take] at hj
  split at hj
  ·simpa using hj
  ·cases hj
def B8 (c : UInt8) : Value := .int .u8 (c.toNat : Int)
def bcells (l : List UInt8) : List Value := l.map B8
theorem bcells_len (l : List UInt8) : (bcells l).length = l.length := by simp [bcells]
theorem bcells_at (l : List UInt8) (i : Nat) : (bcells l)[i]? = (l[i]?).map B8 := by simp [bcells]
theorem bcells_one (l : List UInt8) : ∀ u ∈ bcells l, u.oneCell' = true := by
 intro u hu; simp only [bcells, List.mem_map] at hu; obtain ⟨c, _, rfl⟩ := hu
 rfl
theorem bcells_append (a b : List UInt8) : bcells (a ++ b) = bcells a ++ bcells b := by simp [bcells]
theorem bcells_take (a : List UInt8) (k : Nat) : bcells (a.take k) = (bcells a).take k := by simp [bcells]
theorem bcells_drop (a : List UInt8) (k : Nat) : bcells (a.drop k) = (bcells a).drop k := by simp [bcells]
def BytesAt (w : World) (v : Value) (bs : List UInt8) (g : Nat) : Prop :=
 ∃ A c off, v = .slice A bs.length c /\ bs.length <= c /\ (0 < bs.length -> A = some ⟨g, off, none⟩ /\ ∀ (j : Nat) (u : Value), (bcells bs)[j]? = some u -> w.cell? ⟨g, off + j, none⟩ = some u)
theorem BytesAt.fr {S : List Nat} {w w' : World} {v : Value} {bs : List UInt8} {g : Nat} (h : BytesAt w v bs g) (hf : Fr S w w') (hg : g ∉ S) : BytesAt w' v bs g := by
 obtain ⟨A, c, off, hv, hc, hb⟩ := h; refine ⟨A, c, off, hv, hc, fun h0 => ⟨(hb h0).1, fun j u hu => ?_⟩⟩; have h1 := (hb h0).2 j u hu; rw [hf.cell (World.block_lt_of_cell? w _ h1) hg]; exact h1
theorem BytesAt.nil (w : World) (g : Nat) : BytesAt w (.slice none 0 0) [] g := ⟨none, 0, 0, rfl, Nat.le_refl _, fun h => by simp at h⟩
theorem BytesAt.of_blk {w : World} {g : Nat} {t : TypeId} {bs : List UInt8} (h : Blk w g t (bcells bs)) (c : Nat) (hc : bs.length <= c) : BytesAt w (.slice (some ⟨g, 0, none⟩) bs.length c) bs g :=
 ⟨_, c, 0, rfl, hc, fun _ => ⟨rfl, fun j u hu => by rw [Nat.zero_add]; exact h.at_ hu⟩⟩
theorem lh {p : Prop} (h : p) : Hid p := Lib.hid h
theorem nm {α : Type} (a : α) : ∃ x, x = a := ⟨a, rfl⟩
theorem wi (i : Nat) (h : i < 9223372036854775807) : IntKind.i64.wrap ((i : Int) + 1) = (i : Int) + 1 := by rw [IntKind.wrap_i64]; omega
theorem gx {α : Type} {l : List α} {i : Nat} (h : i < l.length) : ∃ x, l[i]? = some x := ⟨_, List.getElem?_eq_getElem h⟩
end
section
open Go.RowKit Go.ChangeShapes Go.WideShapes
section
variable {H : Type} {enc : TypeId × Value -> H} {P : Program}
theorem trodAll_stays (hl : laidOutB P = true) {W W' : World} {sp : Nat -> Bool} : ∀ {ts : List TypeId} {vs : List Value} {ds : List (DataW H)} {ps : List MemPlace},
  ts.all (fun t => P.readableRec t && decide (t < P.types.size)) = true -> DataW.TrodAll enc P W 0 (fun _ => true) true ts vs ds ps -> (∀ p ∈ ps, W.sameAt W' p) -> (∀ p ∈ ps, sp p.block = true) -> DataW.TrodAll enc P W' 0 sp true ts vs ds ps
 | [], [], [], _, _, h, _, _ => h
 | t :: ts, v :: vs, d :: ds, _, hr, h, hsame, hs => by
  obtain ⟨p, q, h1, h2, rfl⟩ := h; simp only [List.all_cons, Bool.and_eq_true, decide_eq_true_eq] at hr
  exact ⟨p, q, WideElems.Trod_stays hl hr.1.1 hr.1.2 h1 (fun x hx => hsame x (List.mem_append_left _ hx)) (fun x hx => hs x (List.mem_append_left _ hx)),
   trodAll_stays hl (by simpa using hr.2) h2 (fun x hx => hsame x (List.mem_append_right _ hx)) (fun x hx => hs x (List.mem_append_right _ hx)), rfl⟩
 | [], [], _ :: _, _, _, h, _, _ => h.elim
 | [], _ :: _, _, _, _, h, _, _ => by cases h
 | _ :: _, [], _, _, _, h, _, _ => by cases h
 | _ :: _, _ :: _, [], _, _, h, _, _ => by cases h
theorem law_post {f : Func} {s : ChangeSpec} {W W' : World} {args : Array Value} {ds : List (DataW H)} {before : List MemPlace} {tb : TypeId}
  (hl : laidOutB P = true) (hpar : f.params.toList.all (fun t => P.readableRec t && decide (t < P.types.size)) = true) (hrt : f.resultTypes = #[tb]) (hub : P.underlying tb = some .bool) (hvs : s.vars = [])
  (hW : DataW.Whole enc P f.params.toList s.vars false W args.toList ds [] before)
  (hres : (s.fn H (ds ++ [])).results = [.lit (.bool true)]) (hargs : (s.fn H (ds ++ [])).args = ds) (hvars : (s.fn H (ds ++ [])).vars = []) (hf : Fr [] W W') :
  s.post enc P f false true false false W args (.bool true) W' := by
 have hlt : ∀ p ∈ before, p.block < W.heap.size := fun p hp => hW.lt p hp; have hb : Below W.heap.size W W' := hf.below (Nat.le_refl _) (by simp); obtain ⟨p, q, hA, hV, hpq, hfz, hnd⟩ := id hW; have hq : q = [] := by rw [hvs] at hV; exact hV
 subst hq; simp only [List.append_nil] at hpq; subst hpq; refine ⟨ds, [], before, [], before, [], hW, ?_, ?_, ?_, World.keptBut_mono (fun x hx => ⟨hx, .inr (.inl hx)⟩) (hb.frame (· ∈ before)), fun h => by cases h⟩
 ·rw [hres, hrt]; exact trodAll_cons_mk (shut_bool hub true) trodAll_mk0
 ·rw [hargs]; exact trodAll_stays hl hpar hA (fun x hx => hb.same (hlt x hx)) (fun x hx => by simpa using hlt x hx)
 ·rw [hvars, hvs]; rfl
theorem list_of {α : Type} {p : Nat -> α -> Prop} : ∀ n : Nat, (∀ i, i < n -> ∃ b, p i b) -> ∃ l : List α, l.length = n /\ ∀ (j : Nat) (u : α), l[j]? = some u -> p j u
 | 0, _ => ⟨[], rfl, fun j u h => by simp at h⟩
 | n + 1, h => by
  obtain ⟨l, hl, hp⟩ := list_of n (fun i hi => h i (by omega)); obtain ⟨b, hb⟩ := h n (by omega); refine ⟨l ++ [b], by simp [hl], fun j u hu => ?_⟩
  by_cases hj : j < n
  ·exact hp j u (by rwa [List.getElem?_append_left (by omega)] at hu)
  ·have hjl := (List.getElem?_eq_some_iff.1 hu).1; simp only [List.length_append, List.length_cons, List.length_nil] at hjl; obtain rfl : j = n := by omega
   rw [List.getElem?_append_right (by omega)] at hu
   simp [hl] at hu
   rw [<- hu]; exact hb
def ArgBytes (W : World) (v : Value) (bs : List UInt8) : Prop := bs.length <= maxLen /\ ∃ g, BytesAt W v bs g /\ (bs = [] ∨ g < W.heap.size)
theorem add_form {w : World} {a : Addr} {v : Value} (h : w.cell? (a.add 0) = some v) : ∃ g off, a = ⟨g, off, none⟩ := by
 obtain ⟨g, off, sp⟩ := a
 cases sp with
 | none => exact ⟨g, off, rfl⟩
 | some x =>
  exfalso
  simp only [Addr.add, if_true, World.cell?] at h
  split at h <;> simp at h
theorem add_eq (g off j : Nat) : (⟨g, off, none⟩ : Addr).add j = ⟨g, off + j, none⟩ := by unfold Addr.add; split <;> simp_all
theorem u8_of_wf {z : Int} (h : (Lit.int .u8 z).wf = true) : Value.int .u8 z = B8 (UInt8.ofNat z.toNat) := by
 have h' := bounds_u8 h; unfold B8
 congr 1
 rw [UInt8.toNat_ofNat']; omega
theorem arg_bytes {W : World} {t e : TypeId} {v : Value} {fuel : Nat} {x : DataW H × List MemPlace} (ht : P.underlying t = some (.slice e)) (he : P.underlying e = some (.int .u8)) (hC : P.cellsOf e = 1)
  (h : DataW.trod enc P W 0 (fun _ => true) true fuel t [v] = some x) : ∃ bs, ArgBytes W v bs := by
 rcases open_ints ht he hC h with ⟨hcs, _⟩ | ⟨a, len, cap, zs, hcs, _, hl, hm, hz, _, hcell, hwf⟩
 ·obtain rfl : v = .slice none 0 0 := by simpa using hcs
  exact ⟨[], by simp, 0, BytesAt.nil _ _, .inl rfl⟩
 ·obtain rfl : v = .slice (some a) len cap := by simpa using hcs
  simp only [if_true] at hz; have hl0 : ((zs.take len).map fun z => UInt8.ofNat z.toNat).length = len := by simp; omega
  by_cases h0 : len = 0
  ·subst h0; exact ⟨[], by simp, 0, ⟨some a, cap, 0, rfl, by simp, fun h => by simp at h⟩, .inl rfl⟩
  ·obtain ⟨g, off, rfl⟩ := add_form (hcell 0 (by omega)); refine ⟨(zs.take len).map fun z => UInt8.ofNat z.toNat, by rw [hl0]; omega, g, ⟨some ⟨g, off, none⟩, cap, off, by rw [hl0], by rw [hl0]; exact hl, fun _ => ⟨rfl, fun j u hu => ?_⟩⟩, .inr ?_⟩
   ·have hj : j < len := by have := (List.getElem?_eq_some_iff.1 hu).1; rw [bcells_len, hl0] at this; exact this
    have hc := hcell j (by omega); rw [add_eq] at hc; rw [hc]; rw [bcells_at, List.getElem?_map, List.getElem?_take, if_pos hj, List.getElem?_eq_getElem (by omega : j < zs.length)] at hu; simp only [Option.map_some, Option.some.injEq] at hu; rw [List.getD_eq_getElem?_getD, List.getElem?_eq_getElem (by omega : j < zs.length), Option.getD_some, u8_of_wf (hwf _ (List.getElem_mem _)), <- hu]
   ·have hc := hcell 0 (by omega); rw [add_eq] at hc; exact World.block_lt_of_cell? W _ hc
end
end
section
open Go.RowKit Go.ChangeShapes Go.WideShapes Go.Deep
theorem Fr.keep {W w : World} (hf : Fr [] W w) {p : Addr} {v : Value} (h : W.cell? p = some v) : w.cell? p = some v := by
 rw [hf.cell (World.block_lt_of_cell? W _ h) (by simp)]; exact h
section
variable {H : Type} {enc : TypeId × Value -> H} {P : Program}
theorem slice_fields {W : World} {t e : TypeId} {fs : Array Field} {fuel : Nat} {v : Value} {x : DataW H × List MemPlace} (ht : P.underlying t = some (.slice e)) (he : P.underlying e = some (.struct fs))
  (hone : oneCellFields P fs = true) (hC : P.cellsOf e = fs.size) (h : DataW.trod enc P W 0 (fun _ => true) true fuel t [v] = some x) :
  ∃ (A : Option Addr) (len cap : Nat), v = .slice A len cap /\ len <= cap /\ cap <= maxLen /\ (A = none -> len = 0) /\
   ∀ i, i < len -> ∃ a, A = some a /\ ∀ (j : Nat) (f : Field), fs[j]? = some f -> ∃ (u : Value) (n : Nat) (y : DataW H × List MemPlace), W.cell? (a.add (i * fs.size + j)) = some u /\ DataW.trod enc P W 0 (fun _ => true) true n f.type [u] = some y := by
 rcases open_slice ht h with ⟨hcs, _⟩ | ⟨a, len, cap, m, n, D, Pl, hcs, _, hl, hm, hmm, _, hi⟩
 ·obtain rfl : v = .slice none 0 0 := by simpa using hcs
  exact ⟨none, 0, 0, rfl, Nat.le_refl _, Nat.zero_le _, fun _ => rfl, fun i hi => absurd hi (by omega)⟩
 ·obtain rfl : v = .slice (some a) len cap := by simpa using hcs
  simp only [if_true] at hmm; subst hmm; refine ⟨some a, len, m, rfl, hl, hm, fun h => (by cases h), fun i hil => ⟨a, rfl, fun j f hj => ?_⟩⟩; obtain ⟨cs', hc, ht'⟩ := hi i (by omega); rw [hC] at hc; obtain ⟨ys, n', hn', hy, hlen, hyl, hf⟩ := DataW.trod_struct he ht'; obtain ⟨_, hcl, hat⟩ := World.cells?_some hc; obtain ⟨ho, hk⟩ := hone_of hone j f hj; have hjl : j < fs.size := (Array.getElem?_eq_some_iff.1 hj).1; have hcell := hat j hjl; have hv : cs'[j]? = some (cs'[j]'(by omega)) := List.getElem?_eq_getElem (by omega); have h1 := hf j f hj; rw [ho, hk] at h1
  have h2 : (cs'.drop j).take 1 = [cs'[j]'(by omega)] := by
   rw [List.drop_eq_getElem_cons (by omega)]
   rfl
  rw [h2] at h1; have hys : ys[j]? = some (ys[j]'(by omega)) := List.getElem?_eq_getElem (by omega); refine ⟨_, n', _, ?_, h1.trans hys⟩; rw [<- Go.Deep.add_add, hcell, hv]
end
end
section
open Go.RowKit
structure DM where
 S : List (List UInt8)
 P : List (Nat × List UInt8)
 limit : Int
 dead : Bool
 done : Nat
structure DM.ok (D : DM) : Prop where
 some_ : 1 <= D.S.length
 most : D.S.length <= 65536
 sec : ∀ s ∈ D.S, s.length = 64
 pend : ∀ p ∈ D.P, p.1 < D.S.length /\ p.2.length = 64
 lim : -1 <= D.limit
 lim' : D.limit <= 9223372036854775807
 few : D.P.length <= D.done
def pad (b : List UInt8) : List UInt8 := b ++ List.replicate (64 - b.length) 0
theorem pad_len {b : List UInt8} (h : b.length <= 64) : (pad b).length = 64 := by simp [pad]; omega
def DM.new (n : Nat) : DM := { S := List.replicate n (List.replicate 64 0), P := [], limit := -1, dead := false, done := 0 }
def DM.spent (D : DM) : DM := { D with limit := if 0 < D.limit then D.limit - 1 else D.limit, done := D.done + 1 }
def DM.died (D : DM) : DM := { D with dead := true }
def DM.writeE (D : DM) (k : Int) (b : List UInt8) : Int :=
 if D.dead then 10 else if k < 0 ∨ (D.S.length : Int) <= k ∨ 64 < b.length then 1 else if D.limit = 0 then 10 else 0
def DM.write (D : DM) (k : Int) (b : List UInt8) : DM :=
 if D.dead then D else if k < 0 ∨ (D.S.length : Int) <= k ∨ 64 < b.length then D else if D.limit = 0 then D.died else { D.spent with P := D.P ++ [(k.toNat, pad b)] }
def layAll (S : List (List UInt8)) (P : List (Nat × List UInt8)) : List (List UInt8) := P.foldl (fun S p => S.set p.1 p.2) S
def DM.syncE (D : DM) : Int := if D.dead then 10 else if D.limit = 0 then 10 else 0
def DM.sync (D : DM) : DM := if D.dead then D else if D.limit = 0 then D.died else { D.spent with S := layAll D.S D.P, P := [] }
def keptOf : List (Nat × List UInt8) -> List Bool -> List (Nat × List UInt8)
 | [], _ => []
 | _, [] => []
 | p :: P, b :: K => if b then p :: keptOf P K else keptOf P K
def DM.reopen (D : DM) (keep : List Bool) : DM := { D with S := layAll D.S (keptOf D.P keep), P := [], dead := false, limit := -1 }
def lookAll (s : List UInt8) (P : List (Nat × List UInt8)) (k : Nat) : List UInt8 := P.foldl (fun s p => if p.1 = k then p.2 else s) s
def DM.look (D : DM) (k : Nat) : List UInt8 := lookAll (D.S.getD k []) D.P k
def DM.readE (D : DM) (k : Int) : Int := if D.dead then 10 else if k < 0 ∨ (D.S.length : Int) <= k then 1 else 0
def DM.read (D : DM) (k : Int) : List UInt8 := if D.readE k = 0 then D.look k.toNat else []
theorem layAll_len (P : List (Nat × List UInt8)) : ∀ S, (layAll S P).length = S.length := by
 induction P with
 | nil => intro S; rfl
 | cons p P ih => intro S; show (layAll (S.set p.1 p.2) P).length = _; rw [ih]; simp
theorem layAll_sec (P : List (Nat × List UInt8)) : ∀ S, (∀ s ∈ S, s.length = 64) -> (∀ p ∈ P, p.2.length = 64) -> ∀ s ∈ layAll S P, s.length = 64 := by
 induction P with
 | nil => intro S h _; exact h
 | cons p P ih =>
  intro S h hp; refine ih (S.set p.1 p.2) (fun s hs => ?_) (fun q hq => hp q (List.mem_cons_of_mem _ hq)); rcases List.mem_or_eq_of_mem_set hs with h1 | h1
  ·exact h s h1
  ·rw [h1]; exact hp p (List.mem_cons_self ..)
theorem keptOf_mem : ∀ (P : List (Nat × List UInt8)) (K : List Bool), ∀ p ∈ keptOf P K, p ∈ P
 | [], _, p, h => by simp [keptOf] at h
 | q :: P, [], p, h => by simp [keptOf] at h
 | q :: P, b :: K, p, h => by
  unfold keptOf at h
  split at h
  ·rcases List.mem_cons.1 h with h | h
   ·rw [h]; exact List.mem_cons_self ..
   ·exact List.mem_cons_of_mem _ (keptOf_mem P K p h)
  ·exact List.mem_cons_of_mem _ (keptOf_mem P K p h)
theorem DM.ok_new (n : Nat) (h1 : 1 <= n) (h2 : n <= 65536) : (DM.new n).ok :=
 ⟨by simpa [DM.new] using h1, by simpa [DM.new] using h2, fun s hs => by simp [DM.new] at hs; rw [hs.2]; simp, fun p hp => by simp [DM.new] at hp, by simp [DM.new], by simp [DM.new], by simp [DM.new]⟩
theorem DM.ok_died {D : DM} (h : D.ok) : D.died.ok := ⟨h.some_, h.most, h.sec, h.pend, h.lim, h.lim', h.few⟩
theorem DM.ok_write {D : DM} (h : D.ok) (k : Int) (b : List UInt8) : (D.write k b).ok := by
 unfold DM.write
 split
 ·exact h
 ·split
  ·exact h
  ·rename_i hk
   split
   ·exact DM.ok_died h
   ·have h1 := h.lim; have h2 := h.lim'; have h3 := h.few; refine ⟨h.some_, h.most, h.sec, fun p hp => ?_, ?_, ?_, ?_⟩
    ·simp only [List.mem_append, List.mem_singleton] at hp; rcases hp with hp | hp
     ·exact h.pend p hp
     ·subst hp; exact ⟨by show k.toNat < D.S.length; omega, pad_len (by omega)⟩
    ·show -1 <= (if 0 < D.limit then D.limit - 1 else D.limit); split <;> omega
    ·show (if 0 < D.limit then D.limit - 1 else D.limit) <= _; split <;> omega
    ·simp [DM.spent]; omega
theorem DM.ok_sync {D : DM} (h : D.ok) : D.sync.ok := by
 unfold DM.sync
 split
 ·exact h
 ·split
  ·exact DM.ok_died h
  ·have h1 := h.lim; have h2 := h.lim'; have h3 := h.few; refine ⟨?_, ?_, ?_, ?_, ?_, ?_, ?_⟩
   ·simpa [layAll_len] using h.some_
   ·simpa [layAll_len] using h.most
   ·exact layAll_sec _ _ h.sec (fun p hp => (h.pend p hp).2)
   ·intro p hp; simp at hp
   ·show -1 <= (if 0 < D.limit then D.limit - 1 else D.limit); split <;> omega
   ·show (if 0 < D.limit then D.limit - 1 else D.limit) <= _; split <;> omega
   ·simp
theorem DM.ok_reopen {D : DM} (h : D.ok) (K : List Bool) : (D.reopen K).ok :=
 ⟨by simpa [DM.reopen, layAll_len] using h.some_, by simpa [DM.reopen, layAll_len] using h.most,
  layAll_sec _ _ h.sec (fun p hp => (h.pend p (keptOf_mem _ _ p hp)).2), fun p hp => by simp [DM.reopen] at hp, by simp [DM.reopen], by simp [DM.reopen], by simp [DM.reopen]⟩
theorem lookAll_len (P : List (Nat × List UInt8)) (k : Nat) : ∀ s, s.length = 64 -> (∀ p ∈ P, p.2.length = 64) -> (lookAll s P k).length = 64 := by
 induction P with
 | nil => intro s h _; exact h
 | cons p P ih =>
  intro s h hp; refine ih (if p.1 = k then p.2 else s) ?_ (fun q hq => hp q (List.mem_cons_of_mem _ hq))
  split
  ·exact hp p (List.mem_cons_self ..)
  ·exact h
theorem DM.look_len {D : DM} (h : D.ok) {k : Nat} (hk : k < D.S.length) : (D.look k).length = 64 := by
 refine lookAll_len _ _ _ ?_ (fun p hp => (h.pend p hp).2); rw [List.getD_eq_getElem?_getD, List.getElem?_eq_getElem hk]; exact h.sec _ (List.getElem_mem _)
theorem flat_len {S : List (List UInt8)} (h : ∀ s ∈ S, s.length = 64) : S.flatten.length = S.length * 64 := by
 induction S with
 | nil => rfl
 | cons s S ih =>
  simp only [List.flatten_cons, List.length_append, List.length_cons]; rw [ih (fun x hx => h x (List.mem_cons_of_mem _ hx)), h s (List.mem_cons_self ..)]; omega
theorem flat_at {S : List (List UInt8)} (h : ∀ s ∈ S, s.length = 64) {k : Nat} (hk : k < S.length) : (S.flatten.drop (k * 64)).take 64 = S.getD k [] := by
 induction S generalizing k with
 | nil => simp at hk
 | cons s S ih =>
  have hs := h s (List.mem_cons_self ..)
  cases k with
  | zero => simp [hs]
  | succ k =>
   have e : (k + 1) * 64 = s.length + k * 64 := by omega
   rw [List.flatten_cons, e, List.drop_length_add_append, ih (fun x hx => h x (List.mem_cons_of_mem _ hx)) (by simpa using hk)]
   rfl
theorem flat_set {S : List (List UInt8)} (h : ∀ s ∈ S, s.length = 64) {k : Nat} (hk : k < S.length) {b : List UInt8} :
  S.flatten.take (k * 64) ++ (b ++ S.flatten.drop (k * 64 + 64)) = (S.set k b).flatten := by
 induction S generalizing k with
 | nil => simp at hk
 | cons s S ih =>
  have hs := h s (List.mem_cons_self ..)
  cases k with
  | zero =>
   simp only [List.flatten_cons, Nat.zero_mul, List.take_zero, List.nil_append, Nat.zero_add, List.set_cons_zero]; rw [<- hs, List.drop_left]
  | succ k =>
   have e : (k + 1) * 64 = s.length + k * 64 := by omega
   have e2 : (k + 1) * 64 + 64 = s.length + (k * 64 + 64) := by omega
   have hS : ∀ x ∈ S, x.length = 64 := fun x hx => h x (List.mem_cons_of_mem _ hx); rw [List.flatten_cons, e2, List.drop_length_add_append, e, List.take_length_add_append, List.set_cons_succ, List.flatten_cons, List.append_assoc, ih hS (by simpa using hk)]
theorem info_u8 : (Tryz.prog.info? 5).map (fun i => (i.zero, i.size, i.bytes)) = some (some (.int .u8 0), 1, 1) := by kernel_rfl
def pcells (P : List (Nat × List UInt8)) : List Value := P.flatMap fun p => .int .i64 (p.1 : Int) :: bcells p.2
def DiskIn (w : World) (d bb : Nat) (lv : Value) (D : DM) : Prop :=
 Blk w d 129 [.slice (some ⟨bb, 0, none⟩) (D.S.length * 64) (D.S.length * 64), lv, .int .i64 D.limit, .bool D.dead, .int .i64 (D.done : Int)] /\
 Blk w bb 5 (bcells D.S.flatten) /\ w.ownsRow 0 203 65 lv D.P.length (pcells D.P) /\ D.ok
def dfp (d bb : Nat) (lv : Value) : List Nat := d :: bb :: lv.ownBlock.toList
def DiskAt (w : World) (d : Nat) (D : DM) (fp : List Nat) : Prop := ∃ bb lv, fp = dfp d bb lv /\ DiskIn w d bb lv D
def DStep (w w' : World) (d : Nat) (D : DM) (fp : List Nat) : Prop := ∃ fp', DiskAt w' d D fp' /\ Fr fp w w' /\ ∀ k ∈ fp', k ∈ fp ∨ w.heap.size <= k
section
variable {w w' : World} {d bb : Nat} {lv : Value} {D : DM}
theorem DiskIn.c0 (h : DiskIn w d bb lv D) : w.cell? ⟨d, 0, none⟩ = some (.slice (some ⟨bb, 0, none⟩) (D.S.length * 64) (D.S.length * 64)) := h.1.at_ rfl
theorem DiskIn.c1 (h : DiskIn w d bb lv D) : w.cell? ⟨d, 1, none⟩ = some lv := h.1.at_ rfl
theorem DiskIn.c2 (h : DiskIn w d bb lv D) : w.cell? ⟨d, 2, none⟩ = some (.int .i64 D.limit) := h.1.at_ rfl
theorem DiskIn.c3 (h : DiskIn w d bb lv D) : w.cell? ⟨d, 3, none⟩ = some (.bool D.dead) := h.1.at_ rfl
theorem DiskIn.c4 (h : DiskIn w d bb lv D) : w.cell? ⟨d, 4, none⟩ = some (.int .i64 (D.done : Int)) := h.1.at_ rfl
theorem DiskIn.free (h : DiskIn w d bb lv D) (i : Nat) : w.frozen? ⟨d, i, none⟩ = false := h.1.free i
theorem DiskIn.ne1 (h : DiskIn w d bb lv D) : d ≠ bb := h.1.ne_ h.2.1 (by decide)
theorem DiskIn.ne2 (h : DiskIn w d bb lv D) : lv.ownBlock ≠ some d := own_ne h.2.2.1 h.1 (by decide)
theorem DiskIn.ne3 (h : DiskIn w d bb lv D) : lv.ownBlock ≠ some bb := own_ne h.2.2.1 h.2.1 (by decide)
theorem DiskIn.fr {S : List Nat} (h : DiskIn w d bb lv D) (hf : Fr S w w') (hS : ∀ k ∈ dfp d bb lv, k ∉ S) : DiskIn w' d bb lv D :=
 ⟨h.1.fr hf (hS d (by simp [dfp])), h.2.1.fr hf (hS bb (by simp [dfp])), own_fr h.2.2.1 hf (fun g hg => hS g (by simp [dfp, hg])), h.2.2.2⟩
theorem DiskIn.lt (h : DiskIn w d bb lv D) : ∀ k ∈ dfp d bb lv, k < w.heap.size := by
 intro k hk; simp only [dfp, List.mem_cons, Option.mem_toList] at hk; rcases hk with rfl | rfl | hk
 ·exact h.1.lt
 ·exact h.2.1.lt
 ·exact own_lt h.2.2.1 k hk
theorem DiskAt.fr {S fp : List Nat} (h : DiskAt w d D fp) (hf : Fr S w w') (hS : ∀ k ∈ fp, k ∉ S) : DiskAt w' d D fp := by
 obtain ⟨bb, lv, rfl, h⟩ := h; exact ⟨bb, lv, rfl, h.fr hf hS⟩
theorem DiskAt.lt {fp : List Nat} (h : DiskAt w d D fp) : ∀ k ∈ fp, k < w.heap.size := by
 obtain ⟨bb, lv, rfl, h⟩ := h; exact h.lt
theorem DiskAt.ok {fp : List Nat} (h : DiskAt w d D fp) : D.ok := by
 obtain ⟨bb, lv, rfl, h⟩ := h; exact h.2.2.2
theorem DiskIn.turn {D' : DM} (h : DiskIn w d bb lv D) (hS : D'.S = D.S) (hP : D'.P = D.P) (hok : D'.ok)
  (hb : Blk w' d 129 [.slice (some ⟨bb, 0, none⟩) (D.S.length * 64) (D.S.length * 64), lv, .int .i64 D'.limit, .bool D'.dead, .int .i64 (D'.done : Int)]) (hf : Fr [d] w w') : DiskIn w' d bb lv D' := by
 have hn : ∀ g, lv.ownBlock = some g -> g ∉ [d] := by
  intro g hg hm; simp only [List.mem_singleton] at hm; subst hm; exact h.ne2 hg
 exact ⟨by rw [hS]; exact hb, by rw [hS]; exact h.2.1.fr hf (by simp [h.ne1.symm]), by rw [hP]; exact own_fr h.2.2.1 hf hn, hok⟩
end
theorem gone_in {w : World} {d bb : Nat} {lv : Value} {D : DM} (h : DiskIn w d bb lv D) :
  Calls Tryz.prog 90 #[.pointer (some ⟨d, 0, none⟩)] w fun e w' => e = .returned (.bool D.dead) /\ w = w' := by
 have c0 := h.c0; have c3 := h.c3; have g1 := h.2.2.2.some_; have e0 : (((D.S.length : Int) * 64) == 0) = false := beq_eq_false_iff_ne.2 (by omega); clear h
 go_enter Tryz.func90, Tryz.ntmps90
 go_wp2
 go_ret
 exact ⟨rfl, rfl⟩
theorem dead_in {w : World} {d bb : Nat} {lv : Value} {D : DM} (h : DiskIn w d bb lv D) :
  Calls Tryz.prog 56 #[.pointer (some ⟨d, 0, none⟩)] w fun e w' => e = .returned (.bool D.dead) /\ w = w' := by
 go_enter Tryz.func56, Tryz.ntmps56
 go_wp2_with (go_at_call 90; refine (gone_in h).mono ?_; rintro e w' ⟨rfl, rfl⟩)
 go_ret
 exact ⟨rfl, rfl⟩
theorem size_in {w : World} {d bb : Nat} {lv : Value} {D : DM} (h : DiskIn w d bb lv D) :
  Calls Tryz.prog 57 #[.pointer (some ⟨d, 0, none⟩)] w fun e w' => e = .returned (.int .i64 (D.S.length : Int)) /\ w = w' := by
 have c0 := h.c0; have g1 := h.2.2.2.some_; have g2 := h.2.2.2.most; clear h
 go_enter Tryz.func57, Tryz.ntmps57
 go_wp2
 go_ret
 exact ⟨by simp, rfl⟩
theorem spend_no {w : World} {d bb : Nat} {lv : Value} {D : DM} (h : DiskIn w d bb lv D) (h0 : D.limit = 0) :
  Calls Tryz.prog 146 #[.pointer (some ⟨d, 0, none⟩)] w fun e w' => e = .returned (.bool false) /\ DiskIn w' d bb lv D.died /\ Fr [d] w w' := by
 have c2 := h.c2; have c3 := h.c3; have f3 := h.free 3; rw [h0] at c2; have H := lh h; clear h; have H0 := lh h0; clear h0
 go_enter Tryz.func146, Tryz.ntmps146
 go_wp2
 go_ret
 have hf : Fr [d] w (w.setCell ⟨d, 3, none⟩ (.bool true)) := (Fr.refl _ _).setCell (by simp) _; exact ⟨rfl, H.out.turn rfl rfl (DM.ok_died H.out.2.2.2) (by simpa [DM.died] using H.out.1.set_ 3 (.bool true)) hf, hf⟩
theorem spend_yes {w : World} {d bb : Nat} {lv : Value} {D : DM} (h : DiskIn w d bb lv D) (h0 : D.limit ≠ 0) (hd : D.done < 1099511627776) :
  Calls Tryz.prog 146 #[.pointer (some ⟨d, 0, none⟩)] w fun e w' => e = .returned (.bool true) /\ DiskIn w' d bb lv D.spent /\ Fr [d] w w' := by
 have c2 := h.c2; have c4 := h.c4; have f2 := h.free 2; have f4 := h.free 4; have g1 := h.2.2.2.lim; have g2 := h.2.2.2.lim'; have e0 : (D.limit == 0) = false := by simpa using h0
 have hok : D.spent.ok := ⟨h.2.2.2.some_, h.2.2.2.most, h.2.2.2.sec, h.2.2.2.pend, by simp only [DM.spent]; split <;> omega, by simp only [DM.spent]; split <;> omega, by have := h.2.2.2.few; simp only [DM.spent]; omega⟩; have H := lh h; clear h; have HOK := lh hok; clear hok
 by_cases hp : 0 < D.limit
 ·have c4' : (w.setCell ⟨d, 2, none⟩ (.int .i64 (D.limit - 1))).cell? ⟨d, 4, none⟩ = some (.int .i64 (D.done : Int)) := by rw [World.cell?_setCell_other _ _ _ _ (by simp)]; exact c4
  clear h0
  go_enter Tryz.func146, Tryz.ntmps146
  go_wp2
  go_ret
  have hf : Fr [d] w ((w.setCell ⟨d, 2, none⟩ (.int .i64 (D.limit - 1))).setCell ⟨d, 4, none⟩ (.int .i64 ((D.done : Int) + 1))) := ((Fr.refl _ _).setCell (by simp) _).setCell (by simp) _; exact ⟨rfl, H.out.turn rfl rfl HOK.out (by simpa [DM.spent, hp] using (H.out.1.set_ 2 (.int .i64 (D.limit - 1))).set_ 4 (.int .i64 ((D.done : Int) + 1))) hf, hf⟩
 ·clear h0
  go_enter Tryz.func146, Tryz.ntmps146
  go_wp2
  go_ret
  have hf : Fr [d] w (w.setCell ⟨d, 4, none⟩ (.int .i64 ((D.done : Int) + 1))) := (Fr.refl _ _).setCell (by simp) _; exact ⟨rfl, H.out.turn rfl rfl HOK.out (by simpa [DM.spent, show ¬ (0 < D.limit) from by omega] using H.out.1.set_ 4 (.int .i64 ((D.done : Int) + 1))) hf, hf⟩
section
variable {P : Program} {ops : Array Oper} {rest : List Oper} {o : Oper} {a : Act} {w : World} {Q : Exit -> Act -> World -> Prop}
theorem wpList_alloc_z (hgd : o.guard = none) (t : TypeId) (ho : o.op = .alloc t) (z : Value) (zs : Array Value) (hz : (P.info? t).map (·.zero) = some (some z)) (hzs : z.cells = zs)
  (h : wpList P ops Q rest (a.put o.dst (.pointer (some ⟨w.heap.size, 0, none⟩))) (w.alloc (.cells zs t))) : wpList P ops Q (o :: rest) a w := by
 subst hzs; refine wpList_plain hgd fun K hK => ?_
 cases hq : P.info? t with
 | none => simp [hq] at hz
 | some i =>
  have hz' : i.zero = some z := by simpa [hq] using hz
  unfold Oper.wp
  simp [execOp, ho, Instr.alloc, zeroValue, typeInfo, hq, hz', newVar, newRow, Result.andThen]
  exact hK _ _ h
theorem wpList_build1 (hgd : o.guard = none) (t : TypeId) (i : Nat) (x : Operand) (ho : o.op = .build t #[(i, x)]) (v r : Value) (hx : a.eval x = v)
  (hrun : (Instr.build t #[(i, v)]).run P w = .ok r w) (h : wpList P ops Q rest (a.put o.dst r) w) : wpList P ops Q (o :: rest) a w := by
 refine wpList_plain hgd fun K hK => ?_; unfold Oper.wp
 simp [execOp, ho, hx, hrun, Result.andThen]
 exact hK _ _ h
theorem wpList_store_z {W : World} {zs : Array Value} {t' : TypeId} (hgd : o.guard = none) (t : TypeId) (x y : Operand) (ho : o.op = .store t x y) (cs : List Value)
  (hx : a.eval x = .pointer (some ⟨W.heap.size, 0, none⟩)) (hy : a.eval y = .agg cs.toArray) (hw : w = W.alloc (.cells zs t'))
  (hi : (P.info? t).map (·.size) = some cs.length) (hl : zs.size = cs.length) (h1 : ∀ v ∈ cs, v.oneCell' = true)
  (h : ∀ w1, Blk w1 W.heap.size t' cs -> Fr [] W w1 -> w1.heap.size = W.heap.size + 1 -> wpList P ops Q rest (a.put o.dst undef) w1) : wpList P ops Q (o :: rest) a w := by
 subst hw; have hrun := run_storeVar_row (P := P) (W.alloc (.cells zs t')) W.heap.size t' t zs cs.toArray (heap_alloc_new W _) (by simpa using hi) (by simpa using hl) (all_oneCell_toArray h1); refine wpList_plain hgd fun K hK => ?_; unfold Oper.wp
 simp [execOp, ho, hx, hy, Instr.storeAt, Instr.sureAddr, hrun, Result.andThen]
 refine hK _ _ (h _ ?_ ?_ ?_)
 ·rw [World.setRow_alloc_new]; exact heap_alloc_new W _
 ·rw [World.setRow_alloc_new]; exact (Fr.refl _ _).alloc _
 ·rw [World.setRow_alloc_new]; simp
theorem run_copy_blk {dT sT ty elem : TypeId} (hu : P.underlying dT = some (.slice elem)) (hsz : (P.info? elem).map (·.size) = some 1)
  (dp sp : Option Addr) (dLen dCap sLen sCap : Nat) (g off : Nat) (cur : List Value) (t : TypeId) (hg : Blk w g t cur) (cs : List Value) (hn : cs.length = Nat.min sLen dLen)
  (hpos : 0 < cs.length -> dp = some ⟨g, off, none⟩ /\ ∃ ad, sp = some ad /\ ∀ j v, cs[j]? = some v -> w.cell? (ad.add j) = some v)
  (hfit : off + cs.length <= cur.length) (h1 : ∀ v ∈ cs, v.oneCell' = true) :
  ∃ w', (Builtin.copy_ #[dT, sT] ty #[.slice dp dLen dCap, .slice sp sLen sCap]).run P w = .ok (goInt cs.length) w' /\ Blk w' g t (splice cur off cs) /\ Fr [g] w w' /\ w'.heap.size = w.heap.size := by
 by_cases h0 : cs.length = 0
 ·obtain rfl : cs = [] := List.eq_nil_of_length_eq_zero h0; refine ⟨w, by simpa using run_copy_none (P := P) w dT sT ty elem dp sp dLen dCap sLen sCap hu hsz (by simpa using hn.symm), by simpa [splice] using hg, Fr.refl _ _, rfl⟩
 ·obtain ⟨rfl, ad, rfl, hsrc⟩ := hpos (by omega); refine ⟨_, run_copy_row (P := P) w dT sT ty elem g off dLen dCap ad sLen sCap cur.toArray t cs hu hsz hg hn hsrc (by simpa using hfit) h1, ?_, (Fr.refl _ _).setRow (by simp) _, by simp [World.setRow]⟩
  simpa [splice] using hg.row_ (cur.take off ++ (cs ++ cur.drop (off + cs.length)))
theorem wpList_copy_blk (hgd : o.guard = none) (d s : Operand) (dT sT : TypeId) (ho : o.op = .call { callee := .builtin .copy, args := #[d, s], argTypes := #[dT, sT] })
  (elem : TypeId) (hu : P.underlying dT = some (.slice elem)) (hsz : (P.info? elem).map (·.size) = some 1)
  (dp sp : Option Addr) (dLen dCap sLen sCap : Nat) (hd : a.eval d = .slice dp dLen dCap) (hs : a.eval s = .slice sp sLen sCap)
  (g off : Nat) (cur : List Value) (t : TypeId) (hg : Blk w g t cur) (cs : List Value) (hn : cs.length = Nat.min sLen dLen)
  (hpos : 0 < cs.length -> dp = some ⟨g, off, none⟩ /\ ∃ ad, sp = some ad /\ ∀ j v, cs[j]? = some v -> w.cell? (ad.add j) = some v)
  (hfit : off + cs.length <= cur.length) (h1 : ∀ v ∈ cs, v.oneCell' = true)
  (h : ∀ w', Blk w' g t (splice cur off cs) -> Fr [g] w w' -> w'.heap.size = w.heap.size -> wpList P ops Q rest (a.put o.dst (goInt cs.length)) w') : wpList P ops Q (o :: rest) a w := by
 obtain ⟨w', hrun, hb, hf, hz⟩ := run_copy_blk (P := P) (w := w) (sT := sT) (ty := o.type) hu hsz dp sp dLen dCap sLen sCap g off cur t hg cs hn hpos hfit h1; refine wpList_plain hgd fun K hK => ?_; unfold Oper.wp
 simp [execOp, ho, resolve, invoke, builtin, hd, hs, hrun, Result.andThen]
 exact hK _ _ (h w' hb hf hz)
end
section
variable {P : Program} {o : Oper} {a : Act} {w : World} {K : Act -> World -> Prop} {Q : Exit -> Act -> World -> Prop}
theorem wp_run_value {v : Value} {w' : World} (hrun : (execOp a.eval o).run P w = .ok (.value v) w') (h : K (a.put o.dst v) w') : Oper.wp P o a w K Q := by
 unfold Oper.wp; rw [hrun]; exact h
theorem wp_run_skip {w' : World} (hrun : (execOp a.eval o).run P w = .ok .skip w') (h : K (a.put o.dst undef) w') : Oper.wp P o a w K Q := by
 unfold Oper.wp; rw [hrun]; exact h
theorem fill_one (cs zs : List Value) (h : zs.length = cs.length) : Instr.fill (fun i => some (i * cs.length, cs.length)) zs.toArray [(0, .agg cs.toArray)] = some cs.toArray := by
 have hf : ∀ (L pre Z : List Value), Z.length = L.length -> (L.zipIdx pre.length).foldl (fun (a : Array Value) (x : Value × Nat) => a.setIfInBounds (0 * cs.length + x.2) x.1) (pre ++ Z).toArray = (pre ++ L).toArray := by
  intro L
  induction L with
  | nil => intro pre Z hZ; obtain rfl : Z = [] := List.eq_nil_of_length_eq_zero (by simpa using hZ); simp
  | cons x L ih =>
   intro pre Z hZ
   match Z, hZ with
   | z :: Z, hZ =>
    simp only [List.zipIdx_cons, List.foldl_cons]; have e : (pre ++ z :: Z).toArray.setIfInBounds (0 * cs.length + pre.length) x = (pre ++ [x] ++ Z).toArray := by simp
    rw [e]; have := ih (pre ++ [x]) Z (by simpa using hZ); simp only [List.length_append, List.length_cons, List.length_nil, Nat.zero_add] at this; rw [this]
    simp
 have h0 := hf cs [] zs h; simp only [List.length_nil, List.nil_append] at h0; simp only [Instr.fill, Value.cells, List.size_toArray, Nat.zero_mul, Nat.zero_add, h, Nat.lt_irrefl, ne_eq, not_true_eq_false, decide_false, Bool.or_self, Bool.false_eq_true, if_false, gt_iff_lt]; rw [Array.zipIdx_toArray, <- Array.foldl_toList]
 simpa using h0
theorem run_build_one {t e : TypeId} {i : TypeInfo} {z : Value} (ht : P.underlying t = some (.slice e)) (hi : P.info? e = some i) (hz : i.zero = some z) (cs : List Value) (hs : i.size = cs.length) (hzs : z.cells.size = cs.length)
  (h0 : 0 < cs.length) (hb : cs.length <= 16777216) :
  (Instr.buildSlice t 1 #[(0, .agg cs.toArray)]).run P w = .ok (.slice (some ⟨w.heap.size, 0, none⟩) 1 1) (w.alloc (.cells cs.toArray e)) := by
 have hl : ((Array.range (1 * cs.length)).map (z.cells[· % z.cells.size]!)).toList.length = cs.length := by simp
 have hf := fill_one cs _ hl; rw [Array.toArray_toList] at hf; have n0 : ¬ (1 * cs.length = 0) := by omega
 have n1 : ¬ (1 * cs.length > 2 ^ 24) := by omega
 have n2 : ¬ (16777216 < cs.length) := by omega
 have n3 : cs ≠ [] := by intro h; subst h; simp at h0
 simp only [Nat.one_mul] at hf
 simp [Instr.buildSlice, run_underlying ht, sizeOf, typeInfo, hi, hs, zeroValue, hz, newRow, n2, n3, hf]
theorem wp_build_one {t e : TypeId} (x : Operand) (ho : o.op = .buildSlice t 1 #[(0, x)]) {i : TypeInfo} {z : Value} (ht : P.underlying t = some (.slice e)) (hi : P.info? e = some i) (hz : i.zero = some z) (cs : List Value) (hx : a.eval x = .agg cs.toArray)
  (hs : i.size = cs.length) (hzs : z.cells.size = cs.length) (h0 : 0 < cs.length) (hb : cs.length <= 16777216)
  (h : K (a.put o.dst (.slice (some ⟨w.heap.size, 0, none⟩) 1 1)) (w.alloc (.cells cs.toArray e))) : Oper.wp P o a w K Q := by
 have hrun := run_build_one (P := P) (w := w) ht hi hz cs hs hzs h0 hb; refine wp_run_value (v := .slice (some ⟨w.heap.size, 0, none⟩) 1 1) (w' := w.alloc (.cells cs.toArray e)) ?_ h
 simp [execOp, ho, hx, hrun, Result.andThen]
end
theorem splice_all {α : Type} (L cs : List α) (h : L.length = cs.length) : splice L 0 cs = cs := by
 simp [splice, List.drop_eq_nil_of_le, h]
theorem info_pend : (Tryz.prog.info? 203).map (fun i => (i.size, i.bytes)) = some (65, 72) := by kernel_rfl
def zpc : Array Value := (.int .i64 0 :: List.replicate 64 (.int .u8 0)).toArray
def zp : Value := .agg zpc
theorem zero_pend : (Tryz.prog.info? 203).map (·.zero) = some (some zp) := by kernel_rfl
theorem size_pend : (Tryz.prog.info? 203).map (·.size) = some 65 := by kernel_rfl
theorem size_u8 : (Tryz.prog.info? 5).map (·.size) = some 1 := by kernel_rfl
theorem new_no (n : Int) (w : World) (h : n < 1 ∨ 65536 < n) :
  Calls Tryz.prog 28 #[.int .i64 n] w fun e w' => e = .returned (.tuple #[.pointer none, .int .i64 1]) /\ w = w' := by
 by_cases h1 : n < 1
 ·clear h
  go_enter Tryz.func28, Tryz.ntmps28
  go_wp2
  go_ret2
  exact ⟨rfl, rfl⟩
 ·have h2 : 65536 < n := by omega
  clear h
  go_enter Tryz.func28, Tryz.ntmps28
  go_wp2
  go_ret2
  exact ⟨rfl, rfl⟩
theorem made_zero (n : Nat) : (madeCells #[Value.int .u8 0] (n * 64)).toList = bcells (DM.new n).S.flatten := by
 have e1 : (DM.new n).S.flatten = List.replicate (n * 64) 0 := List.flatten_replicate_replicate; rw [e1]
 apply List.ext_getElem?
 intro i; simp only [madeCells, bcells, List.map_replicate, List.getElem?_replicate, Array.getElem?_toList]
 by_cases hi : i < n * 64
 ·simp [hi, B8, Nat.mod_one]
 ·simp [hi]
theorem new_ok (n : Nat) (w : World) (h1 : 1 <= n) (hn : n <= 65536) :
  Calls Tryz.prog 28 #[.int .i64 n] w fun e w' => ∃ d fp, e = .returned (.tuple #[.pointer (some ⟨d, 0, none⟩), .int .i64 0]) /\ DiskAt w' d (DM.new n) fp /\ Fr [] w w' /\ ∀ k ∈ fp, w.heap.size <= k := by
 have hmk := run_make_row' (P := Tryz.prog) 23 5 (.int .u8 0) 1 Tryz.underlying23 info_u8 rfl .i64 .i64 (n * 64) (by omega) (by omega); simp only [Int.natCast_mul, Int.cast_ofNat_Int] at hmk
 go_enter Tryz.func28, Tryz.ntmps28
 go_wp2
 go_ret2
 refine ⟨w.heap.size + 1, dfp (w.heap.size + 1) w.heap.size (.slice none 0 0), rfl, ⟨w.heap.size, .slice none 0 0, rfl, ?_, ?_, own_nil _ _ _ _, DM.ok_new n h1 hn⟩, ((Fr.refl _ _).alloc _).alloc _, by simp [dfp, Value.ownBlock]⟩
 ·have hl : (DM.new n).S.length = n := by simp [DM.new]
  rw [hl]; exact heap_alloc2_new w _ _
 ·have := heap_alloc2_old w (.cells (madeCells #[Value.int .u8 0] (n * 64)) 5) (.cells #[Value.slice (some ⟨w.heap.size, 0, none⟩) (n * 64) (n * 64), Value.slice none 0 0, Value.int IntKind.i64 (-1), Value.bool false, Value.int IntKind.i64 0] 129); unfold Blk; rw [<- made_zero]
  simpa using this
theorem sector_in {w : World} {d bb : Nat} {lv : Value} {D : DM} (h : DiskIn w d bb lv D) (k : Nat) (hk : k < D.S.length) :
  Calls Tryz.prog 131 #[.pointer (some ⟨d, 0, none⟩), .int .i64 k] w fun e w' => e = .returned (.slice (some ⟨bb, k * 64, none⟩) 64 64) /\ w = w' := by
 have c0 := h.c0; have g2 := h.2.2.2.most; clear h
 go_enter Tryz.func131, Tryz.ntmps131
 go_wp2
 go_ret
 refine ⟨?_, rfl⟩
 show Ending.returned (.slice (some ⟨bb, k * 64, none⟩) ((k + 1) * 64 - k * 64) ((k + 1) * 64 - k * 64)) = _
 rw [show (k + 1) * 64 - k * 64 = 64 from by omega]
theorem pcells_at {Ps : List (Nat × List UInt8)} (h : ∀ p ∈ Ps, p.2.length = 64) {k : Nat} {p : Nat × List UInt8} (hk : Ps[k]? = some p) {j : Nat} (hj : j < 65) :
  (pcells Ps)[k * 65 + j]? = (Value.int .i64 (p.1 : Int) :: bcells p.2)[j]? := by
 induction Ps generalizing k with
 | nil => simp at hk
 | cons q Ps ih =>
  have h0 := h q (List.mem_cons_self ..); have hl : (Value.int .i64 (q.1 : Int) :: bcells q.2).length = 65 := by simp [bcells_len, h0]
  simp only [pcells, List.flatMap_cons] at ih ⊢
  cases k with
  | zero =>
   obtain rfl : q = p := by simpa using hk
   rw [Nat.zero_mul, Nat.zero_add, List.getElem?_append_left (by rw [hl]; exact hj)]
  | succ k =>
   rw [List.getElem?_append_right (by rw [hl]; omega), hl, show (k + 1) * 65 + j - 65 = k * 65 + j from by omega]; exact ih (fun x hx => h x (List.mem_cons_of_mem _ hx)) (by simpa using hk)
theorem pcells_append (A B : List (Nat × List UInt8)) : pcells (A ++ B) = pcells A ++ pcells B := by simp [pcells]
theorem pend_one (p : Nat × List UInt8) : ∀ v ∈ (Value.int .i64 (p.1 : Int) :: bcells p.2), v.oneCell' = true := by
 intro v hv; rcases List.mem_cons.1 hv with h | h
 ·subst h; rfl
 ·exact bcells_one _ v h
def z64 : List Value := bcells (List.replicate 64 0)
theorem z64_len : z64.length = 64 := by simp [z64, bcells_len]
theorem make64 (w : World) : (Instr.makeSlice 23 (.int .i64 64) (.int .i64 64)).run Tryz.prog w = .ok (.slice (some ⟨w.heap.size, 0, none⟩) 64 64) (w.alloc (.cells z64.toArray 5)) := by
 have h := run_make_row' (P := Tryz.prog) 23 5 (.int .u8 0) 1 Tryz.underlying23 info_u8 rfl .i64 .i64 64 (by omega) (by omega) w
 have e : madeCells #[Value.int .u8 0] 64 = z64.toArray := by
  have := made_zero 1; have e1 : (DM.new 1).S.flatten = List.replicate 64 0 := by simp [DM.new]
  rw [e1, Nat.one_mul] at this; rw [z64, <- this]
 rw [e] at h; exact h
def ReadPost (w : World) (b : List UInt8) (e : Ending) (w' : World) : Prop :=
 ∃ g, e = .returned (.tuple #[.slice (some ⟨g, 0, none⟩) 64 64, .int .i64 0]) /\ w.heap.size <= g /\ Blk w' g 5 (bcells b) /\ Fr [] w w'
theorem look_step (s : List UInt8) (Ps : List (Nat × List UInt8)) (k j : Nat) (p : Nat × List UInt8) (hj : Ps[j]? = some p) : lookAll s (Ps.take (j + 1)) k = if p.1 = k then p.2 else lookAll s (Ps.take j) k := by
 have hlt : j < Ps.length := (List.getElem?_eq_some_iff.1 hj).1
 have e : Ps.take (j + 1) = Ps.take j ++ [p] := by
  rw [List.take_succ_eq_append_getElem hlt]; rw [List.getElem?_eq_getElem hlt] at hj; simp only [Option.some.injEq] at hj; rw [hj]
 simp [e, lookAll, List.foldl_append]
def LookRel (w : World) (d bb g : Nat) (lv : Value) (D : DM) (s0 : List UInt8) (k : Nat) (i : Value) (wr : World) : Prop :=
 ∃ j : Nat, j <= D.P.length /\ i = .int .i64 j /\ Blk wr g 5 (bcells (lookAll s0 (D.P.take j) k)) /\ Fr [] w wr /\ DiskIn wr d bb lv D
theorem read_in {w : World} {d bb : Nat} {lv : Value} {D : DM} (h : DiskIn w d bb lv D) (hdead : D.dead = false) (k : Nat) (hk : k < D.S.length) :
  Calls Tryz.prog 116 #[.pointer (some ⟨d, 0, none⟩), .int .i64 k] w (ReadPost w (D.look k)) := by
 have hok := h.2.2.2; have g2 := hok.most; have hmk := make64; obtain ⟨A, c, rfl, hnc, hcm⟩ := own_shape h.2.2.1; have hlt := h.lt
 have hsec : (D.S.getD k []).length = 64 := by
  rw [List.getD_eq_getElem?_getD, List.getElem?_eq_getElem hk]; exact hok.sec _ (List.getElem_mem _)
 have hsc : ∀ j v, (bcells (D.S.getD k []))[j]? = some v -> w.cell? ⟨bb, k * 64 + j, none⟩ = some v := by
  intro j v hj; refine h.2.1.at_ ?_; have hj' : j < 64 := by have := (List.getElem?_eq_some_iff.1 hj).1; rw [bcells_len, hsec] at this; exact this
  rw [<- flat_at hok.sec hk, bcells_take, bcells_drop, List.getElem?_take, if_pos hj', List.getElem?_drop] at hj; exact hj
 have hlook : D.look k = lookAll (D.S.getD k []) D.P k := rfl; generalize D.S.getD k [] = s0 at hsec hsc hlook; have hbb := h.2.1.lt; have hnn : ∀ x ∈ dfp d bb (.slice A D.P.length c), x ∉ [w.heap.size] := fun x hx hm => by have := hlt x hx; simp only [List.mem_singleton] at hm; omega
 have h1 : ∀ X, DiskIn (w.alloc X) d bb (.slice A D.P.length c) D := fun X => h.fr ((Fr.refl [] w).alloc X) (by simp); have H1 := lh h1; clear h1; have HNN := lh hnn; clear hnn; have HSC := lh hsc; clear hsc; have HLK := lh hlook; clear hlook; have HSEC := lh hsec; clear hsec; have H := lh h; have HOK := lh hok; clear hlt h hok; have hP0 : D.P.length <= 9223372036854775807 := by unfold maxLen at hcm; omega
 clear hcm
 go_enter Tryz.func116, Tryz.ntmps116
 go_wp2_with (first
  | (go_at_call 90; refine (gone_in H.out).mono ?_; rintro e w' ⟨rfl, rfl⟩)
  | (go_at_call 57; refine (size_in H.out).mono ?_; rintro e w' ⟨rfl, rfl⟩)
  | (go_at_call 131; refine (sector_in (H1.out _) k hk).mono ?_; rintro e w' ⟨rfl, rfl⟩)
  | (with_reducible refine wpList_copy_blk rfl (.tmp 22) (.tmp 25) 23 23 rfl 5 Tryz.underlying23 size_u8 _ _ _ _ _ _ rfl rfl w.heap.size 0 z64 5 ?cg (bcells s0) ?cn ?cp ?cf (bcells_one _) ?_))
 case cg => exact Blk.new w _ z64
 case cn => rw [bcells_len, HSEC.out]; rfl
 case cp =>
  intro _ j v hj; exact HSC.out j v hj
 case cf => rw [bcells_len, HSEC.out, z64_len]; omega
 intro w1 hb1 hf1 hz1; rw [splice_all _ _ (by rw [bcells_len, HSEC.out, z64_len])] at hb1; have hf1' : Fr [] w w1 := ((Fr.refl [] w).alloc _).trans hf1 (by simp); have hd1 : DiskIn w1 d bb (.slice A D.P.length c) D := (H1.out _).fr hf1 HNN.out; have c1 := hd1.c1; have HB1 := lh hb1; clear hb1; have HF1 := lh hf1'; clear hf1' hf1; have HD1 := lh hd1; clear hd1; have HZ1 := lh hz1; clear hz1; go_wp2_with fail
 go_loopw [32] (LookRel w d bb w.heap.size (.slice A D.P.length c) D s0 k) (fun i _ => D.P.length - (intOf i).toNat)
 case atStart => exact ⟨0, Nat.zero_le _, rfl, HB1.out, HF1.out, HD1.out⟩
 case round =>
  obtain ⟨j, hj, rfl, hb, hf, hd⟩ := hrel
  by_cases hjn : j < D.P.length
  ·obtain ⟨p, hp⟩ := gx hjn; obtain ⟨g, rfl, hcell⟩ := own_cell hd.2.2.1 (by omega); have hp2 := (HOK.out.pend p (List.mem_of_getElem? hp)).2
   have hc : wr.rangeAt g (j * 65) (Value.int .i64 (p.1 : Int) :: bcells p.2) := fun i v hi => by
    have hi' : i < 65 := by have := (List.getElem?_eq_some_iff.1 hi).1; simpa [bcells_len, hp2] using this
    exact hcell _ v (by rw [pcells_at (fun q hq => (HOK.out.pend q hq).2) hp hi']; exact hi)
   have hlen : (Value.int .i64 (p.1 : Int) :: bcells p.2).length = 65 := by simp [bcells_len, hp2]
   have HC := lh hc; clear hc hcell; have HLEN := lh hlen; clear hlen; have HB := lh hb; clear hb; have HF := lh hf; clear hf; have HDR := lh hd; clear hd; have HP := lh hp; clear hp; have HP2 := lh hp2; clear hp2
   go_wp2_with (first
    | (with_reducible refine wpList_load_mid rfl 203 (.tmp 34) rfl g (j * 65) rfl (Value.int .i64 (p.1 : Int) :: bcells p.2) _ HC.out Tryz.underlying203 rfl (size_pend.trans (by rw [HLEN.out])) ?_)
    | (with_reducible refine wpList_alloc_z rfl 203 rfl zp zpc zero_pend rfl ?_)
    | (with_reducible refine wpList_store_z (W := wr) rfl 203 (.tmp 8) (.tmp 35) rfl (Value.int .i64 (p.1 : Int) :: bcells p.2) rfl rfl rfl (size_pend.trans (by rw [HLEN.out])) ?zl (pend_one p) ?_))
   case zl => rw [HLEN.out]; rfl
   intro w1 hb1 hf1 hz1; have cp0 : w1.cell? ⟨wr.heap.size, 0, none⟩ = some (.int .i64 (p.1 : Int)) := hb1.at_ rfl; have hsrc : ∀ i v, (bcells p.2)[i]? = some v -> w1.cell? ⟨wr.heap.size, 1 + i, none⟩ = some v := fun i v hi => hb1.at_ (by rw [Nat.add_comm]; simpa using hi); have hob : Blk w1 w.heap.size 5 (bcells (lookAll s0 (D.P.take j) k)) := HB.out.fr hf1 (by simp); have hd1 : DiskIn w1 d bb (.slice (some ⟨g, 0, none⟩) D.P.length c) D := HDR.out.fr hf1 (by simp); have hfw : Fr [] w w1 := HF.out.trans hf1 (by simp); have hstep := look_step s0 D.P k j p HP.out
   have hll : (bcells (lookAll s0 (D.P.take j) k)).length = 64 := by
    rw [bcells_len]; exact lookAll_len _ _ _ HSEC.out (fun q hq => (HOK.out.pend q (List.mem_of_mem_take hq)).2)
   have HSTEP := lh hstep; clear hstep; have HSRC := lh hsrc; clear hsrc; have HOB := lh hob; clear hob; have HLL := lh hll; clear hll; have HD1 := lh hd1; clear hd1; have HFW := lh hfw; clear hfw; clear hb1 HDR HB HF H1
   by_cases hpk : p.1 = k
   ·have e1 : (((p.1 : Int)) == (k : Int)) = true := beq_iff_eq.2 (by omega); have HPK := lh hpk; clear hpk
    go_wp2_with (with_reducible refine wpList_copy_blk rfl (.tmp 40) (.tmp 42) 23 23 rfl 5 Tryz.underlying23 size_u8 _ _ _ _ _ _ rfl rfl w.heap.size 0 (bcells (lookAll s0 (D.P.take j) k)) 5 HOB.out (bcells p.2) ?cn2 ?cp2 ?cf2 (bcells_one _) ?_)
    case cn2 => rw [bcells_len, HP2.out]; rfl
    case cp2 => exact fun _ i v hi => HSRC.out i v hi
    case cf2 => rw [bcells_len, HP2.out, HLL.out]; omega
    intro w2 hb2 hf2 hz2; rw [splice_all _ _ (by rw [HLL.out, bcells_len, HP2.out])] at hb2; have hd2 := HD1.out.fr hf2 HNN.out; have hfw2 : Fr [] w w2 := HFW.out.trans hf2 (by simp); have R : Blk w2 w.heap.size 5 (bcells (lookAll s0 (D.P.take (j + 1)) k)) := by rw [HSTEP.out, if_pos HPK.out]; exact hb2
    have HR := lh R; clear R; have HF2 := lh hfw2; clear hfw2; have HD2 := lh hd2; clear hd2 hb2 hf2 hz2 cp0 c1 HD1 HFW
    go_wp2
    go_roundw
    case rel => exact ⟨j + 1, by omega, by go_num, HR.out, HF2.out, HD2.out⟩
    case measure => simp [intOf]; omega
   ·have e1 : (((p.1 : Int)) == (k : Int)) = false := beq_eq_false_iff_ne.2 (by omega); have R : Blk w1 w.heap.size 5 (bcells (lookAll s0 (D.P.take (j + 1)) k)) := by rw [HSTEP.out, if_neg hpk]; exact HOB.out
    have HR := lh R; clear R hpk
    go_wp2
    go_roundw
    case rel => exact ⟨j + 1, by omega, by go_num, HR.out, HFW.out, HD1.out⟩
    case measure => simp [intOf]; omega
  ·have HB := lh hb; clear hb; have HF := lh hf; clear hf; clear hd c1
   go_wp2
   go_ret2
   refine ⟨w.heap.size, rfl, Nat.le_refl _, ?_, HF.out⟩; have e : D.P.take j = D.P := List.take_of_length_le (by omega); have := HB.out; rw [e, <- HLK.out] at this; exact this
end
end Go.Proofs.YtpjbdpepofnleaaGreat
