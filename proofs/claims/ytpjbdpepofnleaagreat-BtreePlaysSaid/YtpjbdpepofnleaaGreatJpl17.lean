/-
  Joined by join.py: Ol Om On Op Oq
-/
import Derived.Test.YtpjbdpepofnleaaGreatJpl16
set_option maxRecDepth 100000
set_option maxHeartbeats 32000000
namespace Go.Proofs.YtpjbdpepofnleaaGreat
section
open Go.RowKit Go.ChangeMaps Go.MapKept Go.Maps Go.Sort Go.Shelf
def heldR (v : Value) : Option (DataW Value × List MemPlace) := some (.held v, [])
def entV (p : Nat × Value) : Lit × DataW Value := (.int .i64 (p.1 : Int), .held p.2)
def toV (m : List (Nat × Value)) : DataW Value := .map (m.map entV)
theorem insert_V (x : Nat × Value) : ∀ m : List (Nat × Value), DataW.insert (entV x) (m.map entV) = (insA x m).map entV
 | [] => rfl
 | y :: m => by
  have e : (entV x).1.before (entV y).1 = decide (x.1 < y.1) := by
   show decide ((x.1 : Int) < (y.1 : Int)) = _
   rw [Bool.eq_iff_iff, decide_eq_true_iff, decide_eq_true_iff]; omega
  rw [List.map_cons, DataW.insert, e, insA]
  by_cases h : x.1 < y.1
  ·rw [if_pos (by simpa using h), if_pos h]; rfl
  ·rw [if_neg (by simpa using h), if_neg h, List.map_cons, insert_V x m]
theorem same_V (p : Nat × Value) (k : Nat) : (entV p).1.sameKey (.int .i64 (k : Int)) = decide (p.1 = k) := by
 show decide (IntKind.i64 = IntKind.i64 /\ (p.1 : Int) = (k : Int)) = _
 rw [Bool.eq_iff_iff, decide_eq_true_iff, decide_eq_true_iff]; exact ⟨fun h => by have := h.2; omega, fun h => ⟨rfl, by omega⟩⟩
theorem del_V (m : List (Nat × Value)) (k : Nat) : (toV m).del (.int .i64 (k : Int)) = toV (delA m k) := by
 unfold toV delA DataW.del
 simp only
 rw [List.filter_map, show ((fun p => !p.1.sameKey (.int .i64 (k : Int))) ∘ entV) = (fun p : Nat × Value => !decide (p.1 = k)) from funext fun p => by rw [Function.comp, same_V]]
theorem put_V (m : List (Nat × Value)) (k : Nat) (b : Value) : (toV m).put (.int .i64 (k : Int)) (.held b) = toV (putA m k b) := by
 unfold toV putA DataW.put
 simp only
 rw [List.filter_map, show ((fun p => !p.1.sameKey (.int .i64 (k : Int))) ∘ entV) = (fun p : Nat × Value => !decide (p.1 = k)) from funext fun p => by rw [Function.comp, same_V]]; exact congrArg _ (insert_V (k, b) _)
theorem find_V (k : Nat) : ∀ m : List (Nat × Value), (m.map entV).find? (fun p => p.1.sameKey (.int .i64 (k : Int))) = (m.find? fun p => decide (p.1 = k)).map entV
 | [] => rfl
 | p :: m => by
  rw [List.map_cons, List.find?_cons, List.find?_cons, same_V, find_V k m]
  cases decide (p.1 = k) <;> rfl
theorem at_V (m : List (Nat × Value)) (k : Nat) (z : Value) : (toV m).atKey (.int .i64 (k : Int)) (.held z) = .held ((getA m k).getD z) := by
 unfold toV DataW.atKey getA
 simp only
 rw [find_V]
 cases m.find? fun p => decide (p.1 = k) <;> rfl
theorem has_V (m : List (Nat × Value)) (k : Nat) : Maps.has (toV m) (.int .i64 (k : Int)) = (getA m k).isSome := by
 unfold toV; rw [Maps.has_eq, List.any_map, show ((fun p => p.1.sameKey (.int .i64 (k : Int))) ∘ entV) = (fun p : Nat × Value => decide (p.1 = k)) from funext fun p => same_V p k]; unfold getA
 induction m with
 | nil => rfl
 | cons p m ih =>
  rw [List.any_cons, List.find?_cons]
  cases h : decide (p.1 = k)
  ·simpa using ih
  ·simp
theorem size_V (m : List (Nat × Value)) : Maps.size (toV m) = m.length := by unfold toV; rw [Maps.size_eq, List.length_map]
theorem keys_V (m : List (Nat × Value)) : intKeys (toV m) = m.map fun p => (p.1 : Int) := by
 unfold toV intKeys; simp only [List.map_map]
 rfl
def VAt (w : World) (b : Nat) (m : List (Nat × Value)) : Prop := w.ownsMap Tryz.prog 3 heldR b m.length (toV m)
section
variable {w w' : World} {b : Nat} {m : List (Nat × Value)}
theorem VAt.of {n : Nat} (h : w.ownsMap Tryz.prog 3 heldR b n (toV m)) : VAt w b m := by
 obtain ⟨es, clock, hb, F, _, hD⟩ := h; refine ⟨es, clock, hb, F, ?_, hD⟩; have := congrArg Maps.size hD; rw [size_V, Maps.size_eq, length_read] at this; omega
theorem VAt.lt (h : VAt w b m) : b < w.heap.size := World.ownsMap.lt h
theorem VAt.fr {S : List Nat} (h : VAt w b m) (hf : Fr S w w') (hb : b ∉ S) : VAt w' b m := by
 have hlt := h.lt; obtain ⟨es, clock, h1, h2⟩ := h; exact ⟨es, clock, by rw [hf.block b hlt hb]; exact h1, h2⟩
theorem VAt.ne_blk (h : VAt w b m) {g : Nat} {t : TypeId} {cs : List Value} (hg : Blk w g t cs) : b ≠ g := by
 rintro rfl; obtain ⟨es, clock, h1, _⟩ := h; unfold Blk at hg; rw [h1] at hg; injection hg with hg
 cases hg
theorem VAt.new (w : World) : VAt (w.alloc (.map #[] 0)) w.heap.size [] := World.ownsMap_made w Tryz.prog 3 heldR
theorem held_out {v u : Value} {ps : List MemPlace} (h : heldR v = some (.held u, ps)) : v = u := by
 unfold heldR at h; injection h with h; injection h with h _; injection h
theorem VAt.look_ok {t e : TypeId} {z : Value} (h : VAt w b m) (ht : Tryz.prog.underlying t = some (.map 3 e)) (hz : (zeroValue e).run Tryz.prog w = .ok z w) {k : Nat} (hk : k <= 9223372036854775807) :
  (Instr.lookup t (.map (some b)) (.int .i64 (k : Int)) true).run Tryz.prog w = .ok (.tuple #[(getA m k).getD z, .bool (getA m k).isSome]) w := by
 obtain ⟨v, ps, h1, h2⟩ := World.ownsMap.look_ok h int_K ht hz (zd := .held z) (zp := []) rfl (key_i64 hk); rw [h1, has_V]; rw [at_V] at h2; rw [held_out h2]
theorem VAt.look {t e : TypeId} {z : Value} (h : VAt w b m) (ht : Tryz.prog.underlying t = some (.map 3 e)) (hz : (zeroValue e).run Tryz.prog w = .ok z w) {k : Nat} (hk : k <= 9223372036854775807) :
  (Instr.lookup t (.map (some b)) (.int .i64 (k : Int)) false).run Tryz.prog w = .ok ((getA m k).getD z) w := by
 obtain ⟨v, ps, h1, h2⟩ := World.ownsMap.lookup h int_K ht hz (zd := .held z) (zp := []) rfl (key_i64 hk); rw [h1]; rw [at_V] at h2; rw [held_out h2]
theorem VAt.store {t e : TypeId} (h : VAt w b m) (ht : Tryz.prog.underlying t = some (.map 3 e)) {k : Nat} (hk : k <= 9223372036854775807) (hm : m.length < 9223372036854775807) (x : Value) :
  ∃ w', (Instr.mapUpdate t (.map (some b)) (.int .i64 (k : Int)) x).run Tryz.prog w = .ok () w' /\ VAt w' b (putA m k x) /\ Fr [b] w w' /\ w'.heap.size = w.heap.size := by
 obtain ⟨w', h1, h2, h3⟩ := World.ownsMap.store h int_K ht (by unfold maxLen; exact hm) (key_i64 hk) (val := x) (d := .held x) (ps := []) rfl; rw [put_V] at h2; refine ⟨w', h1, VAt.of h2, (Fr.refl [b] w).grown h3.grown (fun g hg => by cases hg; exact .inl (by simp)), ?_⟩; obtain ⟨es, clock, es', clock', _, rfl⟩ := h3
 simp [setBlock]
theorem VAt.drop {t e : TypeId} (h : VAt w b m) (ht : Tryz.prog.underlying t = some (.map 3 e)) {k : Nat} (hk : k <= 9223372036854775807) (ty : TypeId) :
  ∃ w', (Builtin.delete_ #[t, 3] ty #[.map (some b), .int .i64 (k : Int)]).run Tryz.prog w = .ok (.tuple #[]) w' /\ VAt w' b (delA m k) /\ Fr [b] w w' /\ w'.heap.size = w.heap.size := by
 obtain ⟨w', h1, h2, h3⟩ := World.ownsMap.drop h int_K ht (key_i64 hk) ty; rw [del_V] at h2; refine ⟨w', h1, VAt.of h2, (Fr.refl [b] w).grown h3.grown (fun g hg => by cases hg; exact .inl (by simp)), ?_⟩; obtain ⟨es, clock, es', clock', _, rfl⟩ := h3
 simp [setBlock]
end
section
variable {α : Type}
def Vals (R : Value -> α -> Prop) : List (Nat × Value) -> List (Nat × α) -> Prop
 | [], [] => True
 | p :: vs, q :: m => p.1 = q.1 /\ R p.2 q.2 /\ Vals R vs m
 | _, _ => False
theorem Vals.mono {R R' : Value -> α -> Prop} : ∀ {vs : List (Nat × Value)} {m : List (Nat × α)}, Vals R vs m -> (∀ v a k, (k, a) ∈ m -> R v a -> R' v a) -> Vals R' vs m
 | [], [], _, _ => trivial
 | _p :: _vs, q :: _m, h, hR => ⟨h.1, hR _ _ q.1 (List.mem_cons_self ..) h.2.1, Vals.mono h.2.2 fun v a k hk => hR v a k (List.mem_cons_of_mem _ hk)⟩
 | [], _ :: _, h, _ => h.elim
 | _ :: _, [], h, _ => h.elim
theorem Vals.len {R : Value -> α -> Prop} : ∀ {vs : List (Nat × Value)} {m : List (Nat × α)}, Vals R vs m -> vs.length = m.length
 | [], [], _ => rfl
 | p :: vs, q :: m, h => by rw [List.length_cons, List.length_cons, Vals.len h.2.2]
 | [], _ :: _, h => h.elim
 | _ :: _, [], h => h.elim
theorem Vals.keys {R : Value -> α -> Prop} : ∀ {vs : List (Nat × Value)} {m : List (Nat × α)}, Vals R vs m -> (vs.map fun p => p.1) = m.map fun p => p.1
 | [], [], _ => rfl
 | p :: vs, q :: m, h => by rw [List.map_cons, List.map_cons, Vals.keys h.2.2, h.1]
 | [], _ :: _, h => h.elim
 | _ :: _, [], h => h.elim
theorem Vals.get {R : Value -> α -> Prop} (k : Nat) : ∀ {vs : List (Nat × Value)} {m : List (Nat × α)}, Vals R vs m -> (getA m k = none /\ getA vs k = none) ∨ ∃ a v, getA m k = some a /\ getA vs k = some v /\ R v a
 | [], [], _ => .inl ⟨rfl, rfl⟩
 | p :: vs, q :: m, h => by
  have ih := Vals.get k h.2.2; unfold getA at ih ⊢; rw [List.find?_cons, List.find?_cons, h.1]
  cases hk : decide (q.1 = k)
  ·exact ih
  ·exact .inr ⟨q.2, p.2, rfl, rfl, h.2.1⟩
 | [], _ :: _, h => h.elim
 | _ :: _, [], h => h.elim
theorem Vals.del {R : Value -> α -> Prop} (k : Nat) : ∀ {vs : List (Nat × Value)} {m : List (Nat × α)}, Vals R vs m -> Vals R (delA vs k) (delA m k)
 | [], [], _ => trivial
 | p :: vs, q :: m, h => by
  have ih := Vals.del k h.2.2; unfold delA at ih ⊢; rw [List.filter_cons, List.filter_cons, h.1]
  cases hk : !decide (q.1 = k)
  ·simpa [hk] using ih
  ·simpa [hk] using ⟨h.1, h.2.1, ih⟩
 | [], _ :: _, h => h.elim
 | _ :: _, [], h => h.elim
theorem Vals.ins {R : Value -> α -> Prop} {k : Nat} {v : Value} {a : α} (hv : R v a) : ∀ {vs : List (Nat × Value)} {m : List (Nat × α)}, Vals R vs m -> Vals R (insA (k, v) vs) (insA (k, a) m)
 | [], [], _ => ⟨rfl, hv, trivial⟩
 | p :: vs, q :: m, h => by
  unfold insA; rw [h.1]
  by_cases hk : k < q.1
  ·simp only [hk, if_true]; exact ⟨rfl, hv, h⟩
  ·simp only [hk, if_false]; exact ⟨h.1, h.2.1, Vals.ins hv h.2.2⟩
 | [], _ :: _, h => h.elim
 | _ :: _, [], h => h.elim
theorem Vals.put {R : Value -> α -> Prop} {k : Nat} {v : Value} {a : α} (hv : R v a) {vs : List (Nat × Value)} {m : List (Nat × α)} (h : Vals R vs m) : Vals R (putA vs k v) (putA m k a) := by
 unfold putA; exact Vals.ins hv (Vals.del k h)
end
def kcellsA {α : Type} (m : List (Nat × α)) : List Value := m.map fun p => .int .i64 (p.1 : Int)
theorem Vals.kcells {α : Type} {R : Value -> α -> Prop} {vs : List (Nat × Value)} {m : List (Nat × α)} (h : Vals R vs m) : kcellsA vs = kcellsA m := by
 have := congrArg (List.map fun k : Nat => Value.int .i64 (k : Int)) h.keys; rw [List.map_map, List.map_map] at this; exact this
theorem sort_keysA {m : List (Nat × Value)} (hm : RiseA m) {ss : List Int} (h : ss.Perm (intKeys (toV m))) : (ss.mergeSort fun x y => decide (x <= y)).map encZ = kcellsA m := by
 rw [mergeSort_of_perm_i h, keys_V]
 have e : (m.map fun p => (p.1 : Int)).mergeSort leI = m.map fun p => (p.1 : Int) := by
  refine List.mergeSort_of_pairwise ?_; rw [List.pairwise_map]; exact hm.imp fun {a b} hab => by simp only [leI, decide_eq_true_eq]; omega
 rw [e]
 simp [kcellsA, encZ]
theorem keysN_any (b : Nat) (w : World) : Calls Tryz.prog 65 #[.map (some b)] w fun e w' => e = .returned (.func (.func 98) #[] #[.pointer (some ⟨w.heap.size, 0, none⟩)]) /\ w' = w.alloc (.cells #[.map (some b)] 81) :=
 (callsIn_wide (n := 5)).1 (AnyZI.keys_in Tryz.keysN Fence.wide 5 trivial rfl (some b) w)
theorem keysI_any (b : Nat) (w : World) : Calls Tryz.prog 68 #[.map (some b)] w fun e w' => e = .returned (.func (.func 99) #[] #[.pointer (some ⟨w.heap.size, 0, none⟩)]) /\ w' = w.alloc (.cells #[.map (some b)] 82) :=
 (callsIn_wide (n := 5)).1 (AnyZI.keys_in Tryz.keysI Fence.wide 5 trivial rfl (some b) w)
theorem sortedN_any {b : Nat} {m : List (Nat × Value)} {w : World} (h : VAt w b m) (hm : RiseA m) (hfew : m.length <= 65536) (w1 : World) (hw1 : w1 = w.alloc (.cells #[.map (some b)] 81)) :
  Calls Tryz.prog 64 #[.func (.func 98) #[] #[.pointer (some ⟨w.heap.size, 0, none⟩)]] w1 fun e w' => ∃ v, e = .returned v /\ w'.ownsRow w1.heap.size 3 1 v m.length (kcellsA m) /\ Fr [] w1 w' := by
 subst hw1; have hbl := h.lt; have hsz : Maps.size (toV m) = m.length := size_V m
 have hseq : SeqGives Fence.wide 2 Tryz.prog 98 #[.pointer (some ⟨w.heap.size, 0, none⟩)] encZ (fun ss => ss.Perm (intKeys (toV m))) (Maps.size (toV m)) (w.alloc (.cells #[.map (some b)] 81)) :=
  AnyZI.keys_gives (R := heldR) (nn := m.length) (ρ := Tryz.keysN_ren) { Tryz.keysN with } Fence.wide _ trivial rfl (by omega) w.heap.size b (toV m) _ (by simp) (by simp) (h.fr ((Fr.refl [] w).alloc _) (by simp))
 have cS := AnyZI.sorted_in Tryz.sortedA Fence.wide 5 trivial trivial trivial trivial rfl (by omega) (sortsA _) (enters_of Tryz.func97 (by kernel_rfl) rfl) 98 #[.pointer (some ⟨w.heap.size, 0, none⟩)] trivial (enters_of Tryz.func98 (by kernel_rfl) rfl) _ _ (by rw [hsz]; unfold maxLen; omega) (by rw [hsz]; omega) _ hseq; have cS' := (callsIn_wide (n := 5)).1 cS; refine Calls.mono (P := Tryz.prog) (f := 64) cS' ?_; rintro e w' ⟨v, ss, rfl, hS, hrow, _, hb⟩
 have hl : ss.length = m.length := by
  have := hS.length_eq; rw [keys_V, List.length_map] at this; exact this
 rw [sort_keysA hm hS, hl] at hrow; exact ⟨v, rfl, hrow, Fr.of_below hb []⟩
theorem sortedI_any {b : Nat} {m : List (Nat × Value)} {w : World} (h : VAt w b m) (hm : RiseA m) (hfew : m.length <= 65536) (w1 : World) (hw1 : w1 = w.alloc (.cells #[.map (some b)] 82)) :
  Calls Tryz.prog 64 #[.func (.func 99) #[] #[.pointer (some ⟨w.heap.size, 0, none⟩)]] w1 fun e w' => ∃ v, e = .returned v /\ w'.ownsRow w1.heap.size 3 1 v m.length (kcellsA m) /\ Fr [] w1 w' := by
 subst hw1; have hbl := h.lt; have hsz : Maps.size (toV m) = m.length := size_V m
 have hseq : SeqGives Fence.wide 2 Tryz.prog 99 #[.pointer (some ⟨w.heap.size, 0, none⟩)] encZ (fun ss => ss.Perm (intKeys (toV m))) (Maps.size (toV m)) (w.alloc (.cells #[.map (some b)] 82)) :=
  AnyZI.keys_gives (R := heldR) (nn := m.length) (ρ := Tryz.keysI_ren) { Tryz.keysI with } Fence.wide _ trivial rfl (by omega) w.heap.size b (toV m) _ (by simp) (by simp) (h.fr ((Fr.refl [] w).alloc _) (by simp))
 have cS := AnyZI.sorted_in Tryz.sortedA Fence.wide 5 trivial trivial trivial trivial rfl (by omega) (sortsA _) (enters_of Tryz.func97 (by kernel_rfl) rfl) 99 #[.pointer (some ⟨w.heap.size, 0, none⟩)] trivial (enters_of Tryz.func99 (by kernel_rfl) rfl) _ _ (by rw [hsz]; unfold maxLen; omega) (by rw [hsz]; omega) _ hseq; have cS' := (callsIn_wide (n := 5)).1 cS; refine Calls.mono (P := Tryz.prog) (f := 64) cS' ?_; rintro e w' ⟨v, ss, rfl, hS, hrow, _, hb⟩
 have hl : ss.length = m.length := by
  have := hS.length_eq; rw [keys_V, List.length_map] at this; exact this
 rw [sort_keysA hm hS, hl] at hrow; exact ⟨v, rfl, hrow, Fr.of_below hb []⟩
def chC (c : CD) (g bn bs : Nat) : List Value :=
 [.int .i64 (c.next : Int), .int .i64 (c.head : Int), .int .i64 (c.roots 0 : Int), .int .i64 (c.roots 1 : Int), .int .i64 (c.roots 2 : Int), .int .i64 (c.roots 3 : Int), .int .i64 (c.roots 4 : Int), .int .i64 (c.roots 5 : Int), .int .i64 (c.roots 6 : Int), .int .i64 (c.roots 7 : Int),
  .pointer (some ⟨g, 0, none⟩), .map (some bn), .map (some bs), .int .i64 (c.e : Int)]
structure WfW (c : CD) : Prop where
 n : c.n <= 4096
 next : c.next <= c.n
 head : c.head < 65536
 pg : ∀ k, k < c.n -> (c.pg k).length = 512
 rM : RiseA c.M
 rS : RiseA c.S
 mM : ∀ p ∈ c.M, p.1 < c.n /\ p.2.ok /\ p.2.size <= 512
 mS : ∀ p ∈ c.S, p.1 < c.n /\ p.2 < 65536
 roots : ∀ t, c.roots t < 65536
structure ChAt (wS w : World) (g bc bn bs : Nat) (D : Nat -> Prop) (c : CD) : Prop where
 fr : Fr [] wS w
 l1 : wS.heap.size <= bc
 l2 : wS.heap.size <= bn
 l3 : wS.heap.size <= bs
 ne : bn ≠ bs
 blk : Blk w bc 84 (chC c g bn bs)
 nodes : ∃ vs, VAt w bn vs /\ Vals (fun v n => NdV D w 0 v n) vs c.M
 spare : ∃ vs, VAt w bs vs /\ Vals (fun v n => v = .int .i64 ((n : Nat) : Int)) vs c.S
 dom : ∀ q, D q -> q ≠ bc /\ q ≠ bn /\ q ≠ bs
 wf : WfW c
theorem rise_few {α : Type} {n : Nat} : ∀ {m : List (Nat × α)} {lo : Nat}, RiseA m -> (∀ p ∈ m, lo <= p.1 /\ p.1 < n) -> m.length <= n - lo
 | [], _, _, _ => Nat.zero_le _
 | p :: m, lo, h, hm => by
  obtain ⟨h1, h2⟩ := List.pairwise_cons.1 h; have ih := rise_few (lo := p.1 + 1) h2 fun q hq => ⟨h1 q hq, (hm q (List.mem_cons_of_mem _ hq)).2⟩; have := hm p (List.mem_cons_self ..); rw [List.length_cons]; omega
theorem WfW.fewM {c : CD} (h : WfW c) : c.M.length <= 4096 := by
 have := rise_few (lo := 0) h.rM fun p hp => ⟨Nat.zero_le _, (h.mM p hp).1⟩; have := h.n; omega
theorem WfW.fewS {c : CD} (h : WfW c) : c.S.length <= 4096 := by
 have := rise_few (lo := 0) h.rS fun p hp => ⟨Nat.zero_le _, (h.mS p hp).1⟩; have := h.n; omega
theorem WfW.write {c : CD} (h : WfW c) {k : Nat} {n : Nd} (h1 : k < c.n) (h2 : n.ok) (h3 : n.size <= 512) : WfW (c.write k n) := ⟨h.n, h.next, h.head, h.pg, h.rM.put k n, h.rS.del k, fun p hp => by
 rcases mem_putA hp with rfl | hp
 ·exact ⟨h1, h2, h3⟩
 ·exact h.mM p hp, fun p hp => h.mS p (mem_delA hp), h.roots⟩
theorem WfW.free {c : CD} (h : WfW c) {k : Nat} (h1 : k < c.n) : WfW (c.free k) := ⟨h.n, h.next, by have := h.n; show k < 65536; omega, h.pg, h.rM.del k, h.rS.put k _, fun p hp => h.mM p (mem_delA hp), fun p hp => by
 rcases mem_putA hp with rfl | hp
 ·exact ⟨h1, h.head⟩
 ·exact h.mS p hp, h.roots⟩
section
variable {wS w w' : World} {g bc bn bs : Nat} {D D' : Nat -> Prop} {c : CD}
theorem ChAt.ne2 (h : ChAt wS w g bc bn bs D c) : bn ≠ bc /\ bs ≠ bc := by
 obtain ⟨_, h1, _⟩ := h.nodes; obtain ⟨_, h2, _⟩ := h.spare; exact ⟨h1.ne_blk h.blk, h2.ne_blk h.blk⟩
theorem ChAt.frS {S : List Nat} (h : ChAt wS w g bc bn bs D c) (hf : Fr S w w') (h0 : ∀ q ∈ S, w.heap.size <= q ∨ (wS.heap.size <= q /\ ¬ D q /\ q ≠ bc /\ q ≠ bn /\ q ≠ bs)) : ChAt wS w' g bc bn bs D c := by
 obtain ⟨vs, h1, h2⟩ := h.nodes; obtain ⟨ss, h3, h4⟩ := h.spare
 have hS : ∀ q, D q -> q ∈ S -> w.heap.size <= q := fun q hq hm => by
  rcases h0 q hm with h | h
  ·exact h
  ·exact absurd hq h.2.1
 have no : ∀ q, q < w.heap.size -> (q = bc ∨ q = bn ∨ q = bs) -> q ∉ S := fun q hl hq hm => by
  rcases h0 q hm with h | h
  ·omega
  ·omega
 refine ⟨h.fr.trans hf fun q hq => .inr ?_, h.l1, h.l2, h.l3, h.ne, h.blk.fr hf (no _ h.blk.lt (.inl rfl)), ⟨vs, h1.fr hf (no _ h1.lt (.inr (.inl rfl))), h2.mono fun v a k _ hv => hv.fr hf hS⟩, ⟨ss, h3.fr hf (no _ h3.lt (.inr (.inr rfl))), h4⟩, h.dom, h.wf⟩; have := h.fr.size; rcases h0 q hq with h | h <;> omega
theorem ChAt.frame (h : ChAt wS w g bc bn bs D c) (hf : Fr [] w w') : ChAt wS w' g bc bn bs D c := h.frS hf (fun q hq => by cases hq)
theorem ChAt.re (h : ChAt wS w g bc bn bs D c) (hD : ∀ q, D q -> q < w.heap.size -> D' q) (h0 : ∃ q, D' q /\ w.heap.size <= q) (hdom : ∀ q, D' q -> q ≠ bc /\ q ≠ bn /\ q ≠ bs) : ChAt wS w g bc bn bs D' c := by
 obtain ⟨vs, h1, h2⟩ := h.nodes; obtain ⟨q0, hq0, hz0⟩ := h0; refine ⟨h.fr, h.l1, h.l2, h.l3, h.ne, h.blk, ⟨vs, h1, h2.mono fun v a k _ hv => ?_⟩, h.spare, hdom, h.wf⟩; obtain ⟨sv, cs, e1, e2, e3, e4⟩ := hv; refine ⟨sv, cs, e1, e2, e3.re (fun q hq hl => ⟨hD q hq.1 hl, hq.2⟩) ⟨q0, hq0, fun e => by have := own_lt e2 _ e; omega⟩, fun q hq => hD q (e4 q hq) (own_lt e2 q hq)⟩
theorem ChAt.weak (h : ChAt wS w g bc bn bs D c) (hD : ∀ q, D q -> D' q) (hdom : ∀ q, D' q -> q ≠ bc /\ q ≠ bn /\ q ≠ bs) : ChAt wS w g bc bn bs D' c := by
 obtain ⟨vs, h1, h2⟩ := h.nodes; exact ⟨h.fr, h.l1, h.l2, h.l3, h.ne, h.blk, ⟨vs, h1, h2.mono fun v a k _ hv => hv.weak hD⟩, h.spare, hdom, h.wf⟩
theorem ChAt.lts (h : ChAt wS w g bc bn bs D c) : bc < w.heap.size /\ bn < w.heap.size /\ bs < w.heap.size := by
 obtain ⟨_, h1, _⟩ := h.nodes; obtain ⟨_, h2, _⟩ := h.spare; exact ⟨h.blk.lt, h1.lt, h2.lt⟩
theorem ChAt.set (h : ChAt wS w g bc bn bs D c) {c' : CD} {_cs : List Value} (hb : Blk w' bc 84 (chC c' g bn bs)) (hf : Fr [bc] w w') (hM : c'.M = c.M) (hS : c'.S = c.S) (hw : WfW c') : ChAt wS w' g bc bn bs D c' := by
 obtain ⟨vs, h1, h2⟩ := h.nodes; obtain ⟨ss, h3, h4⟩ := h.spare; have hz := h.fr.size; refine ⟨h.fr.trans hf fun q hq => .inr (by have := List.mem_singleton.1 hq; have := h.l1; omega), h.l1, h.l2, h.l3, h.ne, hb, ⟨vs, h1.fr hf (by simpa using h.ne2.1), by rw [hM]; exact h2.mono fun v a k _ hv => hv.fr hf (fun q hq hm => absurd (List.mem_singleton.1 hm) (h.dom q hq).1)⟩, ⟨ss, h3.fr hf (by simpa using h.ne2.2), by rw [hS]; exact h4⟩, h.dom, hw⟩
theorem nz_int (k : Nat) : decide (k ≠ 0) = ((k : Int) != 0) := by
 rw [Bool.eq_iff_iff, decide_eq_true_iff, bne_iff_ne]; omega
def CD.fail (c : CD) (e : Nat) : CD := if c.e = 0 then { c with e := e } else c
theorem fail_ch (h : ChAt wS w g bc bn bs D c) (k : Nat) :
  Calls Tryz.prog 63 #[.pointer (some ⟨bc, 0, none⟩), .int .i64 (k : Int)] w fun e w' => e = .returned (.bool (decide ((c.fail k).e ≠ 0))) /\ ChAt wS w' g bc bn bs D (c.fail k) /\ Fr [bc] w w' /\ w'.heap.size = w.heap.size := by
 have c13 := h.blk.at_ (i := 13) rfl; have hfz := h.blk.free 13; have hlt := h.blk.lt
 by_cases h0 : c.e = 0
 ·have e1 : c.fail k = { c with e := k } := by unfold CD.fail; rw [if_pos h0]
  have hfs : Fr [bc] w (w.setCell ⟨bc, 13, none⟩ (.int .i64 (k : Int))) := (Fr.refl [bc] w).setCell (.inl (by simp)) _
  have hx : ChAt wS (w.setCell ⟨bc, 13, none⟩ (.int .i64 (k : Int))) g bc bn bs D (c.fail k) := by
   rw [e1]; exact h.set (c' := { c with e := k }) (_cs := []) (h.blk.set_ 13 (.int .i64 (k : Int))) hfs rfl rfl ⟨h.wf.n, h.wf.next, h.wf.head, h.wf.pg, h.wf.rM, h.wf.rS, h.wf.mM, h.wf.mS, h.wf.roots⟩
  have hE : (c.fail k).e = k := by rw [e1]
  have HX := lh hx; have HFS := lh hfs; rw [hE]; clear hx hfs h e1 hE; rw [h0] at c13; clear h0
  go_enter Tryz.func63, Tryz.ntmps63
  go_wp2
  go_ret
  exact ⟨by rw [nz_int]; rfl, HX.out, HFS.out, by simp [World.setCell]⟩
 ·have e1 : c.fail k = c := by unfold CD.fail; rw [if_neg h0]
  rw [e1]; have HX := lh h; have hne : ¬ ((c.e : Nat) : Int) = 0 := by omega
  clear h e1 h0
  go_enter Tryz.func63, Tryz.ntmps63
  go_wp2
  go_ret
  exact ⟨by rw [nz_int]; rfl, HX.out, Fr.refl _ _, rfl⟩
end
section
variable {wS w w' : World} {g bc bn bs : Nat} {D D' : Nat -> Prop} {c : CD}
theorem zero_int (w : World) : (zeroValue 3).run Tryz.prog w = .ok (.int .i64 0) w := by kernel_rfl
theorem zero_node (w : World) : (zeroValue 88).run Tryz.prog w = .ok (.agg #[.int .i64 0, .int .i64 0, .slice none 0 0]) w := by kernel_rfl
/-- A node laid. -/
theorem write_ch (h : ChAt wS w g bc bn bs D c) {v : Value} {n : Nd} {k base : Nat} (hv : NdV D w base v n) (hk : k < c.n) (hok : n.ok) (hsz : n.size <= 512) :
  Calls Tryz.prog 34 #[.pointer (some ⟨bc, 0, none⟩), .int .i64 (k : Int), v] w fun e w' => e = .returned (.tuple #[]) /\ ChAt wS w' g bc bn bs D (c.write k n) /\ Fr [bn, bs] w w' := by
 have hv0 : NdV D w 0 v n := by
  obtain ⟨sv, cs, e1, e2, e3⟩ := hv; exact ⟨sv, cs, e1, own_base e2 (fun _ _ => Nat.zero_le _), e3⟩
 obtain ⟨A, ca, cs, rfl, _, _, _, _⟩ := hv.parts; have hn4 := h.wf.n; have hfewS := h.wf.fewS; have hfewM := h.wf.fewM; have hlts := h.lts; obtain ⟨wb, hwb⟩ := nm (w.alloc (.cells #[.int .i64 (kindOf n), .int .i64 (n.first : Int), .slice A n.l.length ca] 88)); have hf0 : Fr [] w wb := by rw [hwb]; exact (Fr.refl [] w).alloc _
 have hb0 : Blk wb w.heap.size 88 [.int .i64 (kindOf n), .int .i64 (n.first : Int), .slice A n.l.length ca] := by rw [hwb]; exact Blk.new w _ [.int .i64 (kindOf n), .int .i64 (n.first : Int), .slice A n.l.length ca]
 have hcb := h.frame hf0; obtain ⟨ss, hs1, hs2⟩ := hcb.spare; obtain ⟨w1, hr1, hs3, hf1, hz1⟩ := hs1.drop Tryz.underlying82 (k := k) (by omega) 0; have hr1' : ∀ ty, (Builtin.delete_ #[82, 3] ty #[.map (some bs), .int .i64 (k : Int)]).run Tryz.prog wb = .ok (.tuple #[]) w1 := fun ty => hr1; have c12 := hcb.blk.at_ (i := 12) rfl; obtain ⟨vs, hn1, hn2⟩ := hcb.nodes; have hn3 := hn1.fr hf1 (by have := h.ne; simpa using this); have hbq := hcb.blk.fr hf1 (by have := h.ne2.2; simp; omega); have c11 := hbq.at_ (i := 11) rfl; have hb1 := hb0.fr hf1 (by simp; omega); have b0 := hb1.at_ (i := 0) rfl; have b1 := hb1.at_ (i := 1) rfl; have b2 := hb1.at_ (i := 2) rfl; obtain ⟨w2, hr2, hn4', hf2, hz2⟩ := (hn3.fr ((Fr.refl [] w1).drew) (by simp)).store Tryz.underlying81 (k := k) (by omega) (by have := hn2.len; omega) (.agg #[.int .i64 (kindOf n), .int .i64 (n.first : Int), .slice A n.l.length ca]); have hfw2 : Fr [bn, bs] w w2 := (((hf0.mono (T := [bn, bs]) (by simp)).trans (hf1.mono (T := [bn, bs]) (by simp)) (fun q hq => .inl hq)).drew).trans hf2 (fun q hq => .inl (by simp at hq ⊢; omega)); have hdom : ∀ q, D q -> q ∉ [bn, bs] := fun q hq hm => by have := h.dom q hq; simp at hm; omega
 have HX : Hid (ChAt wS w2 g bc bn bs D (c.write k n) /\ Fr [bn, bs] w w2) := lh ⟨⟨h.fr.trans hfw2 (fun q hq => .inr (by have h1 := h.l2; have h2 := h.l3; simp at hq; omega)), h.l1, h.l2, h.l3, h.ne, h.blk.fr hfw2 (by have := h.ne2; simp; omega),
  ⟨_, hn4', Vals.put (hv0.fr hfw2 (fun q hq hm => absurd hm (hdom q hq))) (hn2.mono fun v a j _ hw => (hw.fr hf1 (fun q hq hm => absurd (List.mem_cons_of_mem _ hm) (hdom q hq))).fr (((Fr.refl [bn] w1).drew).trans hf2 (fun q hq => .inl hq)) (fun q hq hm => absurd (List.mem_cons.2 (.inl (List.mem_singleton.1 hm))) (hdom q hq)))⟩,
  ⟨_, hs3.fr (((Fr.refl [bn] w1).drew).trans hf2 (fun q hq => .inl hq)) (by have := h.ne; simp; omega), Vals.del k hs2⟩, h.dom, h.wf.write hk hok hsz⟩, hfw2⟩
 have HR2 := lh hr2; clear hv hv0 hs1 hs2 hs3 hn1 hn2 hn3 hn4' hf1 hf2 hz1 hz2 hf0 hb0 hb1 hbq hcb hfw2 hdom h hr1 hr2
 go_enter Tryz.func34, Tryz.ntmps34
 go_upto_region 1 with fail
 rw [<- hwb]; clear hwb; go_wp2_with fail; refine wp_region_K (fun W => W.cell? ⟨bc, 11, none⟩ = some (.map (some bn)) /\ W.cell? ⟨w.heap.size, 0, none⟩ = some (.int .i64 (kindOf n)) /\ W.cell? ⟨w.heap.size, 1, none⟩ = some (.int .i64 (n.first : Int)) /\ W.cell? ⟨w.heap.size, 2, none⟩ = some (.slice A n.l.length ca)) [0, 1, 2, 3, 4, 5] (by kernel_rfl) ?_; refine tks [0, 1, 2, 3, 4, 5] ?_
 iterate 6 (refine tk rfl rfl ⟨c11, b0, b1, b2⟩ rfl (fun _ hW => by (obtain ⟨q1, q2, q3, q4⟩ := hW; go_simp) <;> with_reducible rfl) ?_; simp only [nrm])
 refine tke ?_; refine wpAnyK_step (j := 6) none rfl rfl (by kernel_rfl) rfl fun K hK => ?_; have hr := HR2.out; refine wp_run_skip (w' := w2) (by simp [execOp, Act.eval, hr, Result.andThen]) (hK _ _ (fun h => absurd h (by decide +kernel)) ?_); simp only [Act.put]; refine wd ?_ _; clear hK hr; go_wp2_with fail
 go_end0
 exact ⟨rfl, HX.out.1, HX.out.2⟩
/-- A page let go. -/
theorem free_ch (h : ChAt wS w g bc bn bs D c) {k : Nat} (hk : k < c.n) :
  Calls Tryz.prog 82 #[.pointer (some ⟨bc, 0, none⟩), .int .i64 (k : Int)] w fun e w' => e = .returned (.tuple #[]) /\ ChAt wS w' g bc bn bs D (c.free k) /\ Fr [bc, bn, bs] w w' := by
 have hn4 := h.wf.n; have hfewS := h.wf.fewS; have hfewM := h.wf.fewM; obtain ⟨vs, hn1, hn2⟩ := h.nodes; obtain ⟨w1, hr1, hn3, hf1, hz1⟩ := hn1.drop Tryz.underlying81 (k := k) (by omega) 0; have hr1' : ∀ ty, (Builtin.delete_ #[81, 3] ty #[.map (some bn), .int .i64 (k : Int)]).run Tryz.prog w = .ok (.tuple #[]) w1 := fun ty => hr1; have c11 := h.blk.at_ (i := 11) rfl; obtain ⟨ss, hs1, hs2⟩ := h.spare; have hs3 := hs1.fr hf1 (by have := h.ne; simp; omega); have hb1 := h.blk.fr hf1 (by have := h.ne2.1; simp; omega); have d12 := hb1.at_ (i := 12) rfl; have d1 := hb1.at_ (i := 1) rfl; obtain ⟨w2, hr2, hs4, hf2, hz2⟩ := (hs3.fr ((Fr.refl [] w1).drew) (by simp)).store Tryz.underlying82 (k := k) (by omega) (by have := hs2.len; omega) (.int .i64 ((c.head : Nat) : Int)); have hf2' : Fr [bs] w1 w2 := ((Fr.refl [bs] w1).drew).trans hf2 (fun q hq => .inl hq); have hb2 := hb1.fr hf2' (by have := h.ne2.2; simp; omega); have hbf := hb2.free 1; have hbl := hb2.lt; have e1 := hb2.at_ (i := 1) rfl; have hf3 : Fr [bc] w2 (w2.setCell ⟨bc, 1, none⟩ (.int .i64 (k : Int))) := (Fr.refl [bc] w2).setCell (.inl (by simp)) _; have hfw : Fr [bc, bn, bs] w (w2.setCell ⟨bc, 1, none⟩ (.int .i64 (k : Int))) := ((hf1.mono (T := [bc, bn, bs]) (fun q hq => .inl (by simp at hq ⊢; omega))).trans hf2' (fun q hq => .inl (by simp at hq ⊢; omega))).trans hf3 (fun q hq => .inl (by simp at hq ⊢; omega)); have hdom : ∀ q, D q -> q ∉ [bc, bn, bs] := fun q hq hm => by have := h.dom q hq; simp at hm; omega
 have HX : Hid (ChAt wS (w2.setCell ⟨bc, 1, none⟩ (.int .i64 (k : Int))) g bc bn bs D (c.free k) /\ Fr [bc, bn, bs] w (w2.setCell ⟨bc, 1, none⟩ (.int .i64 (k : Int)))) := lh ⟨⟨h.fr.trans hfw (fun q hq => .inr (by have h0 := h.l1; have h1 := h.l2; have h2 := h.l3; simp at hq; omega)), h.l1, h.l2, h.l3, h.ne, hb2.set_ 1 (.int .i64 (k : Int)),
  ⟨_, (hn3.fr hf2' (by have := h.ne; simp; omega)).fr hf3 (by have := h.ne2.1; simp; omega), (Vals.del k hn2).mono fun v a j _ hw => hw.fr hfw (fun q hq hm => absurd hm (hdom q hq))⟩,
  ⟨_, hs4.fr hf3 (by have := h.ne2.2; simp; omega), Vals.put (R := fun v n => v = .int .i64 ((n : Nat) : Int)) (a := c.head) rfl hs2⟩, h.dom, h.wf.free hk⟩, hfw⟩
 have HR2 := lh hr2; clear hs1 hs2 hs3 hs4 hn1 hn2 hn3 hf1 hf2 hf2' hz1 hz2 hf3 hb1 hb2 hfw hdom h hr1 hr2
 go_enter Tryz.func82, Tryz.ntmps82
 go_wp2_with fail; refine wp_region_K (fun W => W.cell? ⟨bc, 12, none⟩ = some (.map (some bs)) /\ W.cell? ⟨bc, 1, none⟩ = some (.int .i64 ((c.head : Nat) : Int))) [0, 1, 2, 3, 4, 5, 6, 7, 8, 9] (by kernel_rfl) ?_; refine tks [0, 1, 2, 3, 4, 5, 6, 7, 8, 9] ?_
 iterate 10 (refine tk rfl rfl ⟨d12, d1⟩ rfl (fun _ hW => by (obtain ⟨q1, q2⟩ := hW; go_simp) <;> with_reducible rfl) ?_; simp only [nrm])
 refine tke ?_; refine wpAnyK_step (j := 10) none rfl rfl (by kernel_rfl) rfl fun K hK => ?_; have hr := HR2.out; refine wp_run_skip (w' := w2) (by simp [execOp, Act.eval, hr, Result.andThen]) (hK _ _ (fun h => absurd h (by decide +kernel)) ?_); simp only [Act.put]; refine wd ?_ _; clear hK hr; go_wp2_with fail
 go_end0
 exact ⟨rfl, HX.out.1, HX.out.2⟩
end
structure PgC (w0 wS : World) (dk g : Nat) (s : PS) (X : Nat -> Prop) (c : CD) : Prop where
 px : PgX w0 wS dk g s X
 br : s.br = false
 calm : Calm s
 pg : c.pg = s.page
 n : c.n = s.n
theorem pages_Y {w0 w : World} {d g : Nat} {s : PS} {X : Nat -> Prop} (h : PgX w0 w d g s X) : Calls Tryz.prog 62 #[.pointer (some ⟨g, 0, none⟩)] w fun e w' => e = .returned (.int .i64 (s.n : Int)) /\ w = w' := by
 obtain ⟨lg, bl, bh, fp, h1, _⟩ := h; exact pages_P h1
theorem three_cells {a b : Int} {A : Option Addr} {n c : Nat} : ∀ u ∈ [Value.int .i64 a, .int .i64 b, .slice A n c], u.oneCell' = true := by
 intro u hu
 simp at hu
 rcases hu with rfl | rfl | rfl <;> rfl
theorem NdV.low {D : Nat -> Prop} {w : World} {b b' : Nat} {v : Value} {n : Nd} (h : NdV D w b v n) (hb : b' <= b) : NdV D w b' v n := by
 obtain ⟨sv, cs, e1, e2, e3⟩ := h; exact ⟨sv, cs, e1, own_base e2 (fun q hq => by have := (e2.lt q hq).1; omega), e3⟩
section
variable {w0 wS w w' : World} {dk g bc bn bs : Nat} {s : PS} {X D D' : Nat -> Prop} {c : CD}
theorem N_cases {k : Nat} {n : Nd} (h : c.N k = some n) : getA c.M k = some n ∨ (getA c.M k = none /\ 1 <= k /\ k < c.n /\ decP (c.pg k) = some n) := by
 unfold CD.N at h
 split at h
 ·cases h
 ·cases hm : getA c.M k with
  | some m =>
   rw [hm] at h; simp only [Option.some.injEq] at h; exact .inl (by rw [h])
  | none =>
   rw [hm] at h
   simp only at h
   split at h
   ·rename_i h1
    exact .inr ⟨rfl, h1.1, h1.2, h⟩
   ·cases h
theorem WfW.getM (h : WfW c) {k : Nat} {n : Nd} (hm : getA c.M k = some n) : k < c.n /\ n.ok /\ n.size <= 512 := h.mM _ (getA_mem hm)
theorem WfW.N_ok (h : WfW c) {k : Nat} {n : Nd} (hN : c.N k = some n) : k < c.n /\ n.ok /\ n.size <= 512 := by
 rcases N_cases hN with hm | ⟨_, _, h2, h3⟩
 ·exact h.getM hm
 ·obtain ⟨a, _, b⟩ := decP_inv h3; exact ⟨h2, a, b⟩
/-- A page as a node. -/
theorem node_ch (hp : PgC w0 wS dk g s X c) (h : ChAt wS w g bc bn bs D c) {k : Nat} {n : Nd} (hN : c.N k = some n) (hD : ∀ q, w.heap.size <= q -> D q) :
  Calls Tryz.prog 44 #[.pointer (some ⟨bc, 0, none⟩), .int .i64 (k : Int)] w fun e w' => ∃ nv, e = .returned (.tuple #[nv, .int .i64 0]) /\ NdV D w' w.heap.size nv n /\ Fr [] w w' := by
 obtain ⟨hkn, hok, hsz⟩ := h.wf.N_ok hN; have hn4 := h.wf.n; obtain ⟨w1, hw1⟩ := nm (w.alloc (.cells znd.toArray 88)); have hf1 : Fr [] w w1 := by rw [hw1]; exact (Fr.refl [] w).alloc _
 have hb4 : Blk w1 w.heap.size 88 znd := by rw [hw1]; exact Blk.new w _ znd
 have hc1 := h.frame hf1; obtain ⟨vs, hn0, hn2⟩ := h.nodes; have hn1 := hn0.fr hf1 (by simp); have hlk := hn1.look_ok Tryz.underlying81 (zero_node w1) (k := k) (by omega); have c11 := hc1.blk.at_ (i := 11) rfl; have HZ1 : Hid (w1.heap.size = w.heap.size + 1) := lh (by rw [hw1, World.size_alloc]); have hfew := items_few hsz; refine calls_post fun R HQ => ?_; rcases N_cases hN with hm | ⟨hm, hk1, hk2, hdec⟩
 ·rcases Vals.get k hn2 with ⟨h1, _⟩ | ⟨n', v, h1, h2, hv⟩
  ·rw [hm] at h1; cases h1
  ·rw [hm] at h1; injection h1 with h1; subst h1; obtain ⟨A, ca, cs, rfl, hca, hown, hits, hcell⟩ := hv.parts; rw [h2] at hlk; simp only [Option.getD_some, Option.isSome_some] at hlk; obtain ⟨gs, hsl, _, _⟩ := SlAt.of_own hown w.heap.size; have HSL := lh (hsl.fr hf1 (by simp)); have HLEN := lh hits.len; have HON := lh hits.one; have HI := lh hits; have HF1 := lh hf1; have HB4 := lh hb4; have HD := lh hD; clear hv hsl hits hown hcell hf1 hb4 hn0 hn1 hn2 hc1 h hp hN hm hok hsz h2 hD
   go_enter Tryz.func44, Tryz.ntmps44
   go_upto_region 1 with (with_reducible refine wpList_alloc_z rfl 88 rfl (.agg #[.int .i64 0, .int .i64 0, .slice none 0 0]) znd.toArray zero_nd rfl ?_)
   rw [<- hw1]; clear hw1
   go_wp2_with (first
    | (with_reducible refine wpList_alloc_z rfl 88 rfl (.agg #[.int .i64 0, .int .i64 0, .slice none 0 0]) znd.toArray zero_nd rfl ?_)
    | (refine wpList_store_z (W := w1) rfl 88 (.tmp 6) (.tmp 19) rfl [.int .i64 (kindOf n), .int .i64 (n.first : Int), .slice A n.l.length ca] rfl rfl rfl size_nd rfl three_cells ?_))
   intro w2 hb6 hf2 hz2; have b0 := hb6.at_ (i := 0) rfl; have b1 := hb6.at_ (i := 1) rfl; have b2 := hb6.at_ (i := 2) rfl; have HF2 := lh hf2; have HZ2 := lh hz2; have HB42 := lh (HB4.out.fr hf2 (by simp)); clear hb6 hf2 hz2 hlk c11; go_wp2_with fail; refine wp_region_K (fun W => W.cell? ⟨w1.heap.size, 0, none⟩ = some (.int .i64 (kindOf n)) /\ W.cell? ⟨w1.heap.size, 1, none⟩ = some (.int .i64 (n.first : Int)) /\ W.cell? ⟨w1.heap.size, 2, none⟩ = some (.slice A n.l.length ca)) [0, 1, 2, 3, 4, 5, 7] (by kernel_rfl) ?_; refine tks [0, 1, 2, 3, 4, 5] ?_
   iterate 6 (refine tk rfl rfl ⟨b0, b1, b2⟩ rfl (fun _ hW => by (obtain ⟨q0, q1, q2⟩ := hW; go_simp) <;> with_reducible rfl) ?_; simp only [nrm])
   refine tke ?_; refine sp 6 rfl rfl rfl fun K hK => ?_; refine wp_call_f (l := [.tmp 27]) rfl [.slice A n.l.length ca] rfl (enter_iclone _) ((items_clone (HSL.out.fr (S := []) (HF2.out.drew) (by simp)) HLEN.out HON.out (by omega)).mono ?_); rintro e w4 ⟨sl, rfl, hown4, hf4⟩; obtain ⟨A', c', rfl, _, _⟩ := own_shape hown4; have hz0 : w2.drew.heap.size = w2.heap.size := rfl; rw [hz0] at hown4; have hf4' : Fr [] w2 w4 := ((Fr.refl [] w2).drew).trans hf4 (by simp); refine ⟨_, rfl, hK _ _ (fun _ => ⟨fr_keep hf4' b0, fr_keep hf4' b1, fr_keep hf4' b2⟩) ?_⟩; simp only [nrm]; clear hK; refine tks [7] ?_; refine tk rfl rfl ⟨fr_keep hf4' b0, fr_keep hf4' b1, fr_keep hf4' b2⟩ rfl (fun _ _ => by go_simp <;> with_reducible rfl) ?_; simp only [nrm]; refine tke ?_; refine wpAnyK_step (j := 8) none rfl rfl (by kernel_rfl) rfl fun K hK => ?_; refine wp_store_blk 88 (.tmp 4) (.tmp 29) rfl [.int .i64 (kindOf n), .int .i64 (n.first : Int), .slice A' n.l.length c'] rfl rfl (HB42.out.fr hf4' (by simp)) size_nd rfl three_cells fun w6 hb6 hf6 hz6 => hK _ _ (fun h => absurd h (by decide +kernel)) ?_; simp only [Act.put]; clear hK; refine sp 9 rfl rfl rfl fun K hK => ?_; refine wp_run_same (v := ?aq1_9) ?yq1_9 (hK _ _ (fun h => absurd h (by decide +kernel)) ?_)
   case yq1_9 => go_simp <;> with_reducible rfl
   simp only [nrm]; refine wd ?_ _; have hw6 : Fr [] w w6 := (((HF1.out.trans HF2.out (by simp)).trans hf4' (by simp))).trans hf6 (fun q hq => .inr (by have := List.mem_singleton.1 hq; omega)); have HE : Hid (R (.returned (.tuple #[.agg #[.int .i64 (kindOf n), .int .i64 (n.first : Int), .slice A' n.l.length c'], .int .i64 0])) w6) := lh (HQ.out _ _ ⟨_, rfl, NdV.make HI.out (own_base (own_fr hown4 hf6 (fun q hq hm => by have := (hown4.lt q hq).1; have := List.mem_singleton.1 hm; have := HZ2.out; have := HZ1.out; omega)) (fun q hq => by have := (hown4.lt q hq).1; have := HZ2.out; have := HZ1.out; omega)) hw6 HD.out, hw6⟩); have HB6 := lh hb6; clear hb6 hf6 hz6 hw6 hown4 hf4 hf4'; go_wp2_with fail; exact bodyPost_ret (results_ct2 rfl rfl HB6.out Tryz.underlying88 rfl size_nd) rfl HE.out
 ·have h2 : getA vs k = none := by
   rcases Vals.get k hn2 with ⟨_, h2⟩ | ⟨n', v, h1, _⟩
   ·exact h2
   ·rw [hm] at h1; cases h1
  rw [h2] at hlk; simp only [Option.getD_none, Option.isSome_none] at hlk; obtain ⟨_, hpg, _⟩ := decP_inv hdec; have hpgs : s.page k = n.written ++ List.replicate (512 - n.written.length) 0 := by rw [<- hp.pg, hpg]; rfl
  have hlen : (n.written ++ List.replicate (512 - n.written.length) (0 : UInt8)).length = 512 := by rw [List.length_append, List.length_replicate, n.written_len]; omega
  have HPX : Hid (∀ W, Fr [] w1 W -> PgX w0 W dk g s X) := lh fun W hW => hp.px.stay ((h.fr.trans hf1 (by simp)).trans hW (by simp)); have HP := lh hp; have hks : (k : Int) < (s.n : Int) := by have := hp.n; omega
  have hk0 : ¬ (k : Int) < 1 := by omega
  have HKS : Hid (k < s.n) := lh (by omega); have HCB := lh hc1.blk; have HF1 := lh hf1; have HB4 := lh hb4; have HD := lh hD; have HPS := lh hpgs; have HLEN := lh hlen; have HOK := lh hok; clear hf1 hb4 hn0 hn1 hn2 hc1 h hp hN hm hok hsz h2 hD hpgs hlen hpg hdec
  go_enter Tryz.func44, Tryz.ntmps44
  go_upto_region 1 with (with_reducible refine wpList_alloc_z rfl 88 rfl (.agg #[.int .i64 0, .int .i64 0, .slice none 0 0]) znd.toArray zero_nd rfl ?_)
  rw [<- hw1]; clear hw1
  go_wp2_with (first
   | (with_reducible refine wpList_alloc_z rfl 88 rfl (.agg #[.int .i64 0, .int .i64 0, .slice none 0 0]) znd.toArray zero_nd rfl ?_)
   | (refine wpList_store_z (W := w1) rfl 88 (.tmp 6) (.tmp 19) rfl [.int .i64 0, .int .i64 0, .slice none 0 0] rfl rfl rfl size_nd rfl three_cells ?_))
  intro w2 hb6 hf2 hz2; have HF2 := lh hf2; have HZ2 := lh hz2; have c10 := (HCB.out.fr hf2 (by simp)).at_ (i := 10) rfl; clear hb6 hf2 hz2 hlk c11; go_wp2_with fail; refine (pages_Y (HPX.out w2 HF2.out)).mono ?_; rintro e w2' ⟨rfl, rfl⟩; go_wp2_with fail; refine (read_Y (HPX.out w2 HF2.out) HP.out.br HP.out.calm k HKS.out).mono ?_; rintro e w3 ⟨rv, gb, rfl, hrv, hgb, hf3⟩; rw [HPS.out] at hrv; have HRD := lh (read_any hrv HLEN.out HOK.out); have HF3 := lh (HF2.out.trans hf3 (by simp)); clear hrv hgb hf3 c10; go_wp2_with fail; refine HRD.out.mono ?_; rintro e w4 ⟨nv, rfl, hnv, hf4⟩; obtain ⟨A, ca, cs, rfl, hca, hown, _, _⟩ := hnv.parts; have HF4 := lh (HF3.out.trans hf4 (by simp)); have HNV := lh hnv; have HZ3 : Hid (w.heap.size <= w3.heap.size) := lh (by have := HF3.out.size; have := HZ1.out; omega); clear hf4 hnv hown HRD
  go_wp2_with (first
   | (with_reducible refine wpList_alloc_z rfl 88 rfl (.agg #[.int .i64 0, .int .i64 0, .slice none 0 0]) znd.toArray zero_nd rfl ?_)
   | (refine wpList_store_z (W := w4) rfl 88 (.tmp 10) (.tmp 58) rfl [.int .i64 (kindOf n), .int .i64 (n.first : Int), .slice A n.l.length ca] rfl rfl rfl size_nd rfl three_cells ?_))
  intro w5 hb5 hf5 hz5; have HB5 := lh hb5; have HB45 := lh ((HB4.out.fr HF4.out (by simp)).fr hf5 (by simp)); have HF5 := lh (HF4.out.trans hf5 (by simp)); have HNV5 := lh (HNV.out.fr hf5 (by simp)); clear hb5 hf5 hz5
  go_wp2_with (first
   | (refine wpL_load rfl 88 (.tmp 10) rfl rfl HB5.out Tryz.underlying88 rfl size_nd ?_)
   | (refine wpL_store rfl 88 (.tmp 4) (.tmp 63) rfl [.int .i64 (kindOf n), .int .i64 (n.first : Int), .slice A n.l.length ca] rfl rfl HB45.out size_nd rfl three_cells ?_))
  intro w6 hb6 hf6 hz6; have hw6 : Fr [] w w6 := (HF1.out.trans HF5.out (by simp)).trans hf6 (fun q hq => .inr (by have := List.mem_singleton.1 hq; omega))
  have HE : Hid (R (.returned (.tuple #[.agg #[.int .i64 (kindOf n), .int .i64 (n.first : Int), .slice A n.l.length ca], .int .i64 0])) w6) := lh (HQ.out _ _ ⟨_, rfl, ((HNV5.out.fr hf6 (fun q hq hm => by
   have h1 := List.mem_singleton.1 hm; have h2 := HZ1.out; have h3 := HF3.out.size; have h4 : w3.heap.size <= q := hq; omega)).weak (fun q hq => HD.out q (Nat.le_trans HZ3.out hq))).low HZ3.out, hw6⟩)
  have HB6 := lh hb6; clear hb6 hf6 hz6 hw6; go_wp2_with fail; exact bodyPost_ret (results_ct2 rfl rfl HB6.out Tryz.underlying88 rfl size_nd) rfl HE.out
end
section
variable {w0 wS w w' : World} {dk g bc bn bs : Nat} {s : PS} {X D D' : Nat -> Prop} {c : CD}
def CD.nxC (c : CD) (k : Nat) : Nat := match getA c.S k with | some j => j | none => r16 (c.pg k)
theorem nxC_of {k j : Nat} (h : c.nx k = some j) : c.nxC k = j := by
 unfold CD.nx at h; unfold CD.nxC
 cases hs : getA c.S k with
 | some i => rw [hs] at h; simp only [Option.some.injEq] at h; exact h
 | none =>
  rw [hs] at h
  simp only at h
  split at h
  ·cases h
  ·simpa using h
theorem r16_lt (b : List UInt8) : r16 b < 65536 := by
 unfold r16; have := (b.getD 0 0).toNat_lt; have := (b.getD 1 0).toNat_lt; omega
theorem nxC_lt (h : WfW c) (k : Nat) : c.nxC k < 65536 := by
 unfold CD.nxC
 cases hs : getA c.S k with
 | some i => exact (h.mS _ (getA_mem hs)).2
 | none => exact r16_lt _
theorem fail_zero (he : c.e = 0) : c.fail 0 = c := by
 unfold CD.fail; rw [if_pos he]
 cases c
 simp only at he
 rw [he]
/-- The free page behind one. -/
theorem behind_ch (hp : PgC w0 wS dk g s X c) (h : ChAt wS w g bc bn bs D c) {k : Nat} (hk : k < c.n) (he : c.e = 0) :
  Calls Tryz.prog 46 #[.pointer (some ⟨bc, 0, none⟩), .int .i64 (k : Int)] w fun e w' => e = .returned (.int .i64 ((c.nxC k : Nat) : Int)) /\ ChAt wS w' g bc bn bs D c /\ Fr [bc] w w' := by
 have hn4 := h.wf.n; obtain ⟨ss, hs1, hs2⟩ := h.spare; have hlk := hs1.look_ok Tryz.underlying82 (zero_int w) (k := k) (by omega); have c12 := h.blk.at_ (i := 12) rfl; refine calls_post fun R HQ => ?_; rcases Vals.get k hs2 with ⟨h1, h2⟩ | ⟨j, v, h1, h2, hv⟩
 ·rw [h2] at hlk; simp only [Option.getD_none, Option.isSome_none] at hlk; have hnx : c.nxC k = r16 (s.page k) := by unfold CD.nxC; rw [h1, <- hp.pg]
  have hlen : (s.page k).length = 512 := by rw [<- hp.pg]; exact h.wf.pg k hk
  have HH := lh h; have HP := lh hp; have HN := lh hnx; have HL := lh hlen; have HE := lh he; have HKS : Hid (k < s.n) := lh (by rw [<- hp.n]; exact hk); have c10 := h.blk.at_ (i := 10) rfl; clear hs1 hs2 h hp hnx h1 h2 hlen he
  go_enter Tryz.func46, Tryz.ntmps46
  go_wp2_with fail; refine (read_Y (HP.out.px.stay HH.out.fr) HP.out.br HP.out.calm k HKS.out).mono ?_; rintro e w3 ⟨rv, gb, rfl, hrv, hgb, hf3⟩; have HF3 := lh hf3; have HRV := lh hrv; have HGB := lh hgb; have HFA := lh (fail_ch (HH.out.frame hf3) 0); clear hf3 hrv hgb c10 c12 hlk; go_wp2_with fail; refine HFA.out.mono ?_; rintro e w4 ⟨rfl, hc4, hf4, hz4⟩; rw [fail_zero HE.out] at hc4 ⊢; have hd : decide (c.e ≠ 0) = false := by rw [HE.out]; rfl
  rw [hd]; have HC4 := lh hc4; have HF4 := lh hf4; have HHF := lh (half16_any (HRV.out.fr hf4 (fun hm => by have := List.mem_singleton.1 hm; have := HGB.out; have := HH.out.lts.1; omega)) (by rw [HL.out]; omega)); clear hc4 hf4 hz4 HFA hd; go_wp2_with fail; refine HHF.out.mono ?_; rintro e w5 ⟨rfl, q5, rfl⟩; have HX : Hid (R (.returned (.int .i64 ((r16 (s.page k) : Nat) : Int))) (w4.drewN q5)) := lh (HQ.out _ _ ⟨by rw [HN.out], HC4.out.frame ((Fr.refl [] w4).drewN q5), ((HF3.out.mono (T := [bc]) (by simp)).trans HF4.out (fun q hq => .inl hq)).drewN q5⟩); clear HHF; go_wp2_with fail; exact HX.out
 ·rw [h2, hv] at hlk; simp only [Option.getD_some, Option.isSome_some] at hlk; have hnx : c.nxC k = j := by unfold CD.nxC; rw [h1]
  have HX : Hid (R (.returned (.int .i64 ((j : Nat) : Int))) w) := lh (HQ.out _ _ ⟨by rw [hnx], h, Fr.refl _ _⟩); clear hs1 hs2 h hp hnx h1 h2 he
  go_enter Tryz.func46, Tryz.ntmps46
  go_wp2_with fail; exact HX.out
theorem WfW.with_head (h : WfW c) {j : Nat} (hj : j < 65536) : WfW { c with head := j } := ⟨h.n, h.next, hj, h.pg, h.rM, h.rS, h.mM, h.mS, h.roots⟩
theorem WfW.with_next (h : WfW c) {j : Nat} (hj : j <= c.n) : WfW { c with next := j } := ⟨h.n, hj, h.head, h.pg, h.rM, h.rS, h.mM, h.mS, h.roots⟩
/-- A page that nothing uses; none: 0, and the error. -/
theorem alloc_ch (hp : PgC w0 wS dk g s X c) (h : ChAt wS w g bc bn bs D c) (he : c.e = 0) (hh : c.head ≠ 0 -> c.head < c.n /\ ∃ j, c.nx c.head = some j) :
  Calls Tryz.prog 33 #[.pointer (some ⟨bc, 0, none⟩)] w fun e w' => e = .returned (.int .i64 ((c.alloc.2 : Nat) : Int)) /\ ChAt wS w' g bc bn bs D c.alloc.1 /\ Fr [bc] w w' := by
 have hn4 := h.wf.n; have hnx4 := h.wf.next; have c0 := h.blk.at_ (i := 0) rfl; have c1 := h.blk.at_ (i := 1) rfl; have c10 := h.blk.at_ (i := 10) rfl; have hfr := h.blk.free; have hlt := h.blk.lt; refine calls_post fun R HQ => ?_
 by_cases h0 : c.head ≠ 0
 ·obtain ⟨hk, j, hj⟩ := hh h0; have ea : c.alloc = ({ c with head := j }, c.head) := by unfold CD.alloc; rw [if_pos h0, hj]; rfl
  rw [ea] at HQ; have hnc := nxC_of hj; have HB := behind_ch hp h hk he; rw [hnc] at HB; have HBH := lh HB; have hjl : j < 65536 := by rw [<- hnc]; exact nxC_lt h.wf _
  have HJL := lh hjl; have hci : ¬ ((c.head : Nat) : Int) = 0 := by omega
  clear h hp hj ea hnc HB hjl hh hfr c10 c0
  go_enter Tryz.func33, Tryz.ntmps33
  go_wp2_with fail; refine HBH.out.mono ?_; rintro e w3 ⟨rfl, hc3, hf3⟩; have d1 := hc3.blk.at_ (i := 1) rfl; have dfr := hc3.blk.free 1; have dlt := hc3.blk.lt; have hfs : Fr [bc] w3 (w3.setCell ⟨bc, 1, none⟩ (.int .i64 (j : Int))) := (Fr.refl [bc] w3).setCell (.inl (by simp)) _; have HX : Hid (R (.returned (.int .i64 ((c.head : Nat) : Int))) (w3.setCell ⟨bc, 1, none⟩ (.int .i64 (j : Int)))) := lh (HQ.out _ _ ⟨rfl, hc3.set (c' := { c with head := j }) (_cs := []) (hc3.blk.set_ 1 (.int .i64 (j : Int))) hfs rfl rfl (hc3.wf.with_head HJL.out), hf3.trans hfs (fun q hq => .inl hq)⟩); clear hc3 hf3 hfs HBH; go_wp2_with fail; exact HX.out
 ·have h00 : c.head = 0 := by omega
  have HC := lh h; have HP := lh hp; have hnn := hp.n; rw [h00] at c1
  have r1 : Hid (∀ nq, Calls Tryz.prog 62 #[.pointer (some ⟨g, 0, none⟩)] (w.drewN nq) fun e w' => e = .returned (.int .i64 (s.n : Int)) /\ ∃ m, w' = w.drewN m) := lh fun nq => Calls.quiet_of_same (by
   have h := pages_Y ((HP.out.px.stay HC.out.fr).stay ((Fr.refl [] w).drewN nq)); exact h.mono fun e w' ⟨h1, h2⟩ => ⟨h1, h2.symm⟩)
  by_cases hn : c.next < c.n
  ·have ea : c.alloc = ({ c with next := c.next + 1 }, c.next) := by unfold CD.alloc; rw [if_neg h0, if_pos hn]
   rw [ea] at HQ; have hci : ((c.next : Nat) : Int) < (s.n : Int) := by omega
   have hw1 : IntKind.i64.wrap (((c.next : Nat) : Int) + 1) = ((c.next : Nat) : Int) + 1 := by rw [IntKind.wrap_i64]; omega
   have HF : Hid (∀ nq, R (.returned (.int .i64 ((c.next : Nat) : Int))) ((w.drewN nq).setCell ⟨bc, 0, none⟩ (.int .i64 (((c.next : Nat) : Int) + 1)))) := lh fun nq => HQ.out _ _ ⟨rfl, by
    have hfs : Fr [bc] w ((w.drewN nq).setCell ⟨bc, 0, none⟩ (.int .i64 (((c.next : Nat) : Int) + 1))) := ((Fr.refl [bc] w).drewN nq).setCell (.inl (by simp)) _; exact ⟨HC.out.set (c' := { c with next := c.next + 1 }) (_cs := []) ((HC.out.blk.drewN nq).set_ 0 (.int .i64 (((c.next : Nat) : Int) + 1))) hfs rfl rfl (HC.out.wf.with_next hn), hfs⟩⟩
   clear h hp hh hn ea h0
   go_enter Tryz.func33, Tryz.ntmps33
   go_wp2_with fail
   go_quiet (first | with_reducible exact r1.out _)
   go_wp2_with fail; exact HF.out _
  ·have ea : c.alloc = (c.fail 5, 0) := by unfold CD.alloc; rw [if_neg h0, if_neg hn]; rfl
   rw [ea] at HQ; have hci : ¬ ((c.next : Nat) : Int) < (s.n : Int) := by omega
   clear h hp hh hn ea h0
   go_enter Tryz.func33, Tryz.ntmps33
   go_wp2_with fail
   go_quiet (first | with_reducible exact r1.out _)
   go_wp2_with fail; refine (fail_ch (HC.out.frame ((Fr.refl [] w).drewN _)) 5).mono ?_; rintro e w4 ⟨rfl, hc4, hf4, hz4⟩; have HX : Hid (R (.returned (.int .i64 0)) w4) := lh (HQ.out _ _ ⟨rfl, hc4, ((Fr.refl [bc] w).drewN _).trans hf4 (fun q hq => .inl hq)⟩); clear hc4 hf4 hz4; go_wp2_with fail; exact HX.out
end
end
end Go.Proofs.YtpjbdpepofnleaaGreat
