/-
  Joined by join.py: Er Id Ij Ik Il Em En
-/
import Derived.OpenShut
import Derived.SizedLaws
import Derived.Test.YtbggkiebfflcdaaGreatDoorJpb16
set_option maxRecDepth 100000
set_option maxHeartbeats 32000000
namespace Go.Proofs.YtbggkiebfflcdaaGreatDoor
section
mutual
def Qry.fw : Qry -> Nat
 | .mk _ l => bE l
 termination_by structural q => q
def bE : List Sgm -> Nat
 | [] => 0
 | x :: l => x.fw + 1 + bE l
 termination_by structural l => l
def Sgm.fw : Sgm -> Nat
 | .mk _ l => cE l
 termination_by structural q => q
def cE : List Slr -> Nat
 | [] => 0
 | x :: l => x.fw + 1 + cE l
 termination_by structural l => l
def Slr.fw : Slr -> Nat
 | .mk _ name _ _ _ f => name.length + zC f
 termination_by structural q => q
def Xpr.fw : Xpr -> Nat
 | .mk _ l op q v => 1 + op.length + v.s.length + v.n.digits.length + q.fw + zC l
 termination_by structural e => e
def zC : List Xpr -> Nat
 | [] => 0
 | x :: l => x.fw + zC l
 termination_by structural l => l
end
def iO (l : List UInt8) : Bool := decide (l.length <= 140737488355328)
def Cl.isR (k : Nat) : Cl -> Bool
 | .leaf _ => false
 | .rows n _ => n == k
def Vlu.stV (v : Vlu) : Bool := iO v.n.digits && (v.l.isR 8 && v.m.isR 9)
mutual
def Qry.stB : Qry -> Bool
 | .mk _ l => mX l
 termination_by structural q => q
def mX : List Sgm -> Bool
 | [] => true
 | x :: l => x.stB && mX l
 termination_by structural l => l
def Sgm.stB : Sgm -> Bool
 | .mk _ l => nX l
 termination_by structural q => q
def nX : List Slr -> Bool
 | [] => true
 | x :: l => x.stB && nX l
 termination_by structural l => l
def Slr.stB : Slr -> Bool
 | .mk _ name _ _ _ f => iO name && yL f
 termination_by structural q => q
def yL : List Xpr -> Bool
 | [] => true
 | x :: l => x.stB && yL l
 termination_by structural l => l
def Xpr.stB : Xpr -> Bool
 | .mk _ l op q v => iO op && iO v.s && v.stV && q.stB && yL l
 termination_by structural e => e
end
theorem uH : ∀ l : List Sgm, mX l = l.all Sgm.stB
 | [] => rfl
 | x :: l => by rw [mX, uH l]; rfl
theorem vH : ∀ l : List Slr, nX l = l.all Slr.stB
 | [] => rfl
 | x :: l => by rw [nX, vH l]; rfl
theorem kF : ∀ l : List Xpr, yL l = l.all Xpr.stB
 | [] => rfl
 | x :: l => by rw [yL, kF l]; rfl
theorem Xpr.fw_eq (e : Xpr) : e.fw = 1 + e.op.length + e.v.s.length + e.v.n.digits.length + e.q.fw + zC e.l := by obtain ⟨_, _, _, _, _⟩ := e; rfl
theorem Qry.fw_eq (q : Qry) : q.fw = bE q.l := by obtain ⟨_, _⟩ := q; rfl
theorem Sgm.fw_eq (s : Sgm) : s.fw = cE s.l := by obtain ⟨_, _⟩ := s; rfl
theorem Slr.fw_eq (s : Slr) : s.fw = s.name.length + zC s.f := by obtain ⟨_, _, _, _, _, _⟩ := s; rfl
theorem Xpr.fw_pos (e : Xpr) : 1 <= e.fw := by rw [e.fw_eq]; omega
theorem zL {x : Sgm} : ∀ {l : List Sgm}, x ∈ l -> x.fw + 1 <= bE l
 | [], h => by simp at h
 | y :: l, h => by
  rw [bE]; rcases List.mem_cons.1 h with rfl | h
  ·omega
  ·have := zL h; omega
theorem aM {x : Slr} : ∀ {l : List Slr}, x ∈ l -> x.fw + 1 <= cE l
 | [], h => by simp at h
 | y :: l, h => by
  rw [cE]; rcases List.mem_cons.1 h with rfl | h
  ·omega
  ·have := aM h; omega
theorem wH {x : Xpr} : ∀ {l : List Xpr}, x ∈ l -> x.fw <= zC l
 | [], h => by simp at h
 | y :: l, h => by
  rw [zC]; rcases List.mem_cons.1 h with rfl | h
  ·omega
  ·have := wH h; omega
theorem vJ : ∀ l : List Sgm, l.length <= bE l
 | [] => Nat.le_refl _
 | x :: l => by have := vJ l; rw [bE]; simp; omega
theorem iP : ∀ l : List Slr, l.length <= cE l
 | [] => Nat.le_refl _
 | x :: l => by have := iP l; rw [cE]; simp; omega
theorem jP : ∀ l : List Xpr, l.length <= zC l
 | [] => Nat.le_refl _
 | x :: l => by have := jP l; have := x.fw_pos; rw [zC]; simp; omega
theorem wt_fw : ∀ n : Nat, (∀ q : Qry, q.fw <= n -> q.wt <= q.fw) /\ ∀ x : Xpr, x.fw <= n -> x.wt <= x.fw := by
 have hl : ∀ (n : Nat), (∀ x : Xpr, x.fw <= n -> x.wt <= x.fw) -> ∀ l : List Xpr, zC l <= n -> uB l <= zC l := fun n h l => by
  induction l with
  | nil => intro _; exact Nat.le_refl _
  | cons x l ih => intro hn; rw [zC] at hn ⊢; rw [uB]; have := h x (by omega); have := ih (by omega); omega
 have hs : ∀ (n : Nat), (∀ x : Xpr, x.fw <= n -> x.wt <= x.fw) -> ∀ l : List Slr, cE l <= n -> yD l <= cE l := fun n h l => by
  induction l with
  | nil => intro _; exact Nat.le_refl _
  | cons x l ih =>
   intro hn; rw [cE] at hn ⊢; rw [yD]; have h1 := x.fw_eq; have := hl n h x.f (by omega); have h2 := x.wt_eq; have := ih (by omega); omega
 have hg : ∀ (n : Nat), (∀ x : Xpr, x.fw <= n -> x.wt <= x.fw) -> ∀ l : List Sgm, bE l <= n -> cF l <= bE l := fun n h l => by
  induction l with
  | nil => intro _; exact Nat.le_refl _
  | cons x l ih =>
   intro hn; rw [bE] at hn ⊢; rw [cF]; have h1 := x.fw_eq; have := hs n h x.l (by omega); have h2 := x.wt_eq; have := ih (by omega); omega
 intro n
 induction n with
 | zero => exact ⟨fun q hq => by rw [q.fw_eq] at hq ⊢; rw [q.wt_eq]; exact hg 0 (fun x hx => by have := x.fw_pos; omega) _ hq, fun x hx => by have := x.fw_pos; omega⟩
 | succ n ih =>
  have hx : ∀ x : Xpr, x.fw <= n + 1 -> x.wt <= x.fw := fun x hx => by
   have h1 := x.fw_eq; have := ih.1 x.q (by omega); have := hl n ih.2 x.l (by omega); have := x.wt_eq; omega
  exact ⟨fun q hq => by rw [q.fw_eq] at hq ⊢; rw [q.wt_eq]; exact hg _ hx _ hq, hx⟩
theorem Qry.wt_le (q : Qry) : q.wt <= q.fw := (wt_fw _).1 q (Nat.le_refl _)
theorem sO : ∀ a b : List Sgm, bE (a ++ b) = bE a + bE b
 | [], b => by simp [bE]
 | x :: a, b => by rw [List.cons_append, bE, bE, sO a b]; omega
theorem tO : ∀ a b : List Slr, cE (a ++ b) = cE a + cE b
 | [], b => by simp [cE]
 | x :: a, b => by rw [List.cons_append, cE, cE, tO a b]; omega
theorem uO : ∀ a b : List Xpr, zC (a ++ b) = zC a + zC b
 | [], b => by simp [zC]
 | x :: a, b => by rw [List.cons_append, zC, zC, uO a b]; omega
theorem eR {α : Type} {l : List α} {k : Nat} {x : α} (h : l[k]? = some x) : l.take (k + 1) = l.take k ++ [x] := by
 obtain ⟨hk', hx'⟩ := List.getElem?_eq_some_iff.1 h; rw [List.take_succ_eq_append_getElem hk', hx']
theorem rZ {l : List Sgm} {k : Nat} {x : Sgm} (h : l[k]? = some x) : bE (l.take (k + 1)) = bE (l.take k) + (x.fw + 1) := by rw [eR h, sO]; rfl
theorem sZ {l : List Slr} {k : Nat} {x : Slr} (h : l[k]? = some x) : cE (l.take (k + 1)) = cE (l.take k) + (x.fw + 1) := by rw [eR h, tO]; rfl
theorem tZ {l : List Xpr} {k : Nat} {x : Xpr} (h : l[k]? = some x) : zC (l.take (k + 1)) = zC (l.take k) + x.fw := by rw [eR h, uO]; rfl
end
section
open Go.RowKit Go.ChangeShapes Go.WideShapes Go.Deep
section
variable {H : Type} {enc : TypeId × Value -> H} {W : World}
def Tr (enc : TypeId × Value -> H) (W : World) (fuel : Nat) (t : TypeId) (cs : List Value) : Prop := ∃ x, DataW.trod enc Tryz.prog W 0 (fun _ => true) true fuel t cs = some x /\ (x.1.weights Tryz.prog t).all (· <= reachBytes) = true
theorem wJ {P : Program} {e : TypeId} : ∀ {l : List (DataW H)} {d : DataW H}, d ∈ l -> ∀ n ∈ d.weights P e, n ∈ DataW.weightsAll P e l
 | [], d, h, n, hn => by simp at h
 | x :: l, d, h, n, hn => by
  unfold DataW.weightsAll; rcases List.mem_cons.1 h with rfl | h
  ·exact List.mem_append_left _ hn
  ·exact List.mem_append_right _ (wJ h n hn)
def Old (W : World) (g : Nat) : Prop := g < W.heap.size
theorem wG {t : TypeId} {fs : Array Field} {fuel : Nat} {cs : List Value} (he : Tryz.prog.underlying t = some (.struct fs)) (h : Tr enc W fuel t cs) :
  ∃ n, fuel = n + 1 /\ cs.length = Tryz.prog.cellsOf t /\ ∀ (j : Nat) (f : Field) (o k : Nat), fs[j]? = some f -> f.offset = o -> Tryz.prog.cellsOf f.type = k -> Tr enc W n f.type ((cs.drop o).take k) := by
 obtain ⟨x, h, hw⟩ := h; obtain ⟨ys, n, hn, rfl, hlen, hyl, hf⟩ := DataW.trod_struct he h; refine ⟨n, hn, hlen, fun j f o k hj ho hk => ?_⟩; subst ho hk; have hjl : j < ys.length := by rw [hyl]; exact (Array.getElem?_eq_some_iff.1 hj).1
 refine ⟨_, (hf j f hj).trans (List.getElem?_eq_getElem hjl), List.all_eq_true.2 fun m hm => List.all_eq_true.1 hw m ?_⟩; simp only [DataW.weights, he]; exact DataW.weights_mem_each (j := j) (t := f.type) (by rw [List.getElem?_map, Array.getElem?_toList, hj]; rfl) (by rw [List.getElem?_map, List.getElem?_eq_getElem hjl]; rfl) m hm
theorem bJ {α : Type} {t e : TypeId} {k fuel : Nat} {cs : List Value} (ht : Tryz.prog.underlying t = some (.slice e)) (hk : Tryz.prog.cellsOf e = k) (hk0 : 0 < k) (f : α -> List Cl) (p : α -> Prop) (h : Tr enc W fuel t cs)
  (hel : ∀ n cs', n < fuel -> Tr enc W n e cs' -> ∃ a, fA W (Old W) (f a) cs' /\ p a) : ∃ (l : List α) (v : Value), cs = [v] /\ CAt W (Old W) (.rows k (l.map f)) v /\ (∀ a ∈ l, p a) /\ l.length <= maxLen := by
 obtain ⟨x, h, hw⟩ := h; rcases DataW.trod_slice ht h with ⟨hcs, _⟩ | ⟨a, len, cap, elems, rest, n, hfu, hcs, rfl, _, hlc, hcm, hel', hi, _⟩
 ·exact ⟨[], _, hcs, CAt.nil W _ hk0 none 0, by simp, by simp⟩
 ·obtain ⟨L, hL, hp⟩ := aBA (p := fun i (b : α × List Value) => b.2.length = k /\ (∀ j, j < k -> W.cell? (a.add (i * k + j)) = b.2[j]?) /\ fA W (Old W) (f b.1) b.2 /\ p b.1) len (fun i hil => by
   have h1 := hi i hil; rw [List.getElem?_eq_getElem (by omega)] at h1; obtain ⟨cs', hc, ht'⟩ := Option.bind_eq_some_iff.1 h1
   obtain ⟨b, hb, hpb⟩ := hel n cs' (by omega) ⟨_, ht', List.all_eq_true.2 fun m hm => List.all_eq_true.1 hw m (by
    simp only [DataW.weights, ht]; exact List.mem_cons_of_mem _ (List.mem_append_left _ (wJ (List.mem_map.2 ⟨_, List.getElem_mem _, rfl⟩) m hm)))⟩
   rw [hk] at hc; obtain ⟨_, hcl, hat⟩ := World.cells?_some hc; exact ⟨(b, cs'), hcl, fun j hj => by rw [<- hat j hj, Go.Deep.add_add], hb, hpb⟩)
  have hlen : (L.map fun b => b.1).length = len := by simp [hL]
  refine ⟨L.map fun b => b.1, _, hcs, ?_, fun x hx => ?_, by omega⟩
  ·have hform : 0 < len -> ∃ g off, a = ⟨g, off, none⟩ /\ g < W.heap.size := fun h0 => by
    have hb := List.getElem?_eq_getElem (l := L) (i := 0) (by omega); obtain ⟨h1, h2, _, _⟩ := hp 0 _ hb; have h3 := h2 0 hk0; rw [List.getElem?_eq_getElem (by omega)] at h3; rw [Nat.zero_mul, Nat.zero_add] at h3; obtain ⟨g, off, rfl⟩ := aDo h3; rw [aDp] at h3; exact ⟨g, off, rfl, World.block_lt_of_cell? W _ h3⟩
   have key : ∀ g off, (0 < len -> a = ⟨g, off, none⟩ /\ g < W.heap.size) -> CAt W (Old W) (.rows k ((L.map fun b => b.1).map f)) (.slice (some a) ((L.map fun b => b.1).map f).length cap) := fun g off hg => by
    refine .rows k _ _ cap g off (fun i => ((L[i]?).map fun b => b.2).getD []) hk0 (by simp; omega) (fun h0 => ?_) (fun row hr => ?_) (fun i hil => ?_) (fun i row j y u h1 h2 h3 => ?_)
    ·obtain ⟨e9, h9⟩ := hg (by simpa [hL] using h0); exact ⟨by rw [e9], h9⟩
    ·obtain ⟨b, hb, rfl⟩ := List.mem_map.1 hr; obtain ⟨c, hc, rfl⟩ := List.mem_map.1 hb; obtain ⟨j, hj⟩ := List.mem_iff_getElem?.1 hc; obtain ⟨h1, _, h3, _⟩ := hp j c hj; rw [<- h3.1]; exact h1
    ·have hil' : i < L.length := by simpa using hil
     have hb := List.getElem?_eq_getElem hil'; obtain ⟨h1, h2, _, _⟩ := hp i _ hb; obtain ⟨rfl, _⟩ := hg (by omega); simp only [hb, Option.map_some, Option.getD_some]; refine ⟨h1, fun j u hu => ?_⟩; have hjk : j < k := by rw [<- h1]; exact (List.getElem?_eq_some_iff.1 hu).1
     have h4 := h2 j hjk; rw [aDp, hu] at h4; rw [show off + k * i + j = off + (i * k + j) by rw [Nat.mul_comm]; omega]; exact h4
    ·simp only [List.getElem?_map, Option.map_eq_some_iff] at h1; obtain ⟨_, ⟨b, hb, rfl⟩, rfl⟩ := h1; simp only [hb, Option.map_some, Option.getD_some] at h3; exact (hp i b hb).2.2.1.2 j y u h2 h3
   have hl2 : ((L.map fun b => b.1).map f).length = len := by simp [hL]
   rw [hl2] at key
   by_cases h0 : 0 < len
   ·obtain ⟨g, off, h1, h2⟩ := hform h0; exact key g off fun _ => ⟨h1, h2⟩
   ·exact key 0 0 fun h => absurd h h0
  ·obtain ⟨b, hb, rfl⟩ := List.mem_map.1 hx; obtain ⟨j, hj⟩ := List.mem_iff_getElem?.1 hb; exact (hp j b hj).2.2.2
theorem uZ {t e : TypeId} {n fuel : Nat} {cs : List Value} (ht : Tryz.prog.underlying t = some (.array n e)) (hc : Tryz.prog.cellsOf e = 1) (h : Tr enc W fuel t cs) : ∃ m, fuel = m + 1 /\ ∀ i, i < n -> Tr enc W m e ((cs.drop (i * 1)).take 1) := by
 obtain ⟨x, h, hw⟩ := h; obtain ⟨ys, m, hm, rfl, _, hyl, hg⟩ := DataW.trod_array ht h; rw [hc] at hg; refine ⟨m, hm, fun i hi => ⟨_, (hg i hi).trans (List.getElem?_eq_getElem (by omega)), List.all_eq_true.2 fun k hk => List.all_eq_true.1 hw k ?_⟩⟩; simp only [DataW.weights, ht]; exact wJ (List.mem_map.2 ⟨_, List.getElem_mem _, rfl⟩) k hk
theorem aFP {N : Nat -> Prop} {cs : List Value} (h : ∀ u ∈ cs, u.oneCell' = true) : fA W N (cs.map Cl.leaf) cs := by
 induction cs with
 | nil => exact fA.nil W N
 | cons u cs ih => exact fA.tl (h u (by simp)) (ih fun x hx => h x (by simp [hx]))
theorem fA.app {N : Nat -> Prop} {r1 r2 : List Cl} {c1 c2 : List Value} (h1 : fA W N r1 c1) (h2 : fA W N r2 c2) : fA W N (r1 ++ r2) (c1 ++ c2) := by
 induction r1 generalizing c1 with
 | nil => rw [h1.nil_inv]; exact h2
 | cons x r ih =>
  obtain ⟨v, cs', rfl, hx, hr⟩ := h1.inv; exact fA.cons hx (ih hr)
end
section
variable {H : Type} {enc : TypeId × Value -> H} {W : World} {fuel : Nat} {cs : List Value}
theorem eN (h : Tr enc W fuel 3 cs) : ∃ z : Int, cs = [.int .i64 z] /\ rF z = true := by
 obtain ⟨x, h, -⟩ := h; obtain ⟨z, rfl, _, hw⟩ := DataW.trod_int Tryz.underlying3 h; refine ⟨z, rfl, ?_⟩; simp only [Lit.wf, IntKind.min, IntKind.max, IntKind.signed, IntKind.bits, Bool.and_eq_true, decide_eq_true_eq, if_true] at hw; unfold rF; rw [decide_eq_true_eq]; omega
theorem bM (h : Tr enc W fuel 4 cs) : ∃ b : Bool, cs = [.bool b] := by
 obtain ⟨x, h, -⟩ := h; obtain ⟨z, rfl, _⟩ := DataW.trod_bool Tryz.underlying4 h; exact ⟨z, rfl⟩
theorem cL (h : Tr enc W fuel 9 cs) : ∃ s : List UInt8, cs = [S8 s] /\ iO s = true := by
 obtain ⟨x, h, hw⟩ := h; obtain ⟨s, rfl, rfl, _⟩ := DataW.trod_string Tryz.underlying9 h; refine ⟨s.data.toList, rfl, ?_⟩; have := List.all_eq_true.1 hw _ (by simp only [DataW.weights]; exact List.mem_singleton_self _); unfold iO; rw [decide_eq_true_eq] at this ⊢; unfold reachBytes at this; omega
theorem wT (h : Tr enc W fuel 107 cs) : ∃ n kind b neg dg ex s lv mv, fuel = n + 1 /\ cs = [.int .i64 kind, .bool b, .bool neg, S8 dg, .int .i64 ex, S8 s, lv, mv] /\ rF ex = true /\ iO dg = true /\ iO s = true /\ Tr enc W n 104 [lv] /\ Tr enc W n 105 [mv] := by
 obtain ⟨n, rfl, hlen, hf⟩ := wG Tryz.underlying107 h; rw [show Tryz.prog.cellsOf 107 = 8 by kernel_rfl] at hlen
 match cs, hlen with
 | [c0, c1, c2, c3, c4, c5, c6, c7], _ =>
  obtain ⟨kind, e0, _⟩ := eN (hf 0 _ 0 1 rfl rfl (by kernel_rfl)); obtain ⟨b, e1⟩ := bM (hf 1 _ 1 1 rfl rfl (by kernel_rfl)); obtain ⟨m, rfl, _, hg⟩ := wG Tryz.underlying93 (hf 2 _ 2 3 rfl rfl (by kernel_rfl)); obtain ⟨neg, e2⟩ := bM (hg 0 _ 0 1 rfl rfl (by kernel_rfl)); obtain ⟨dg, e3, hdg⟩ := cL (hg 1 _ 1 1 rfl rfl (by kernel_rfl)); obtain ⟨ex, e4, hex⟩ := eN (hg 2 _ 2 1 rfl rfl (by kernel_rfl)); obtain ⟨s, e5, hss⟩ := cL (hf 3 _ 5 1 rfl rfl (by kernel_rfl)); have h6 := hf 4 _ 6 1 rfl rfl (by kernel_rfl); have h7 := hf 5 _ 7 1 rfl rfl (by kernel_rfl); simp only [List.drop_succ_cons, List.drop_zero, List.take_succ_cons, List.take_zero, List.cons.injEq, and_true] at e0 e1 e2 e3 e4 e5 h6 h7; exact ⟨_, kind, b, neg, dg, ex, s, c6, c7, rfl, by rw [e0, e1, e2, e3, e4, e5], hex, hdg, hss, h6, h7⟩
theorem xV {t e : TypeId} {v : Value} (ht : Tryz.prog.underlying t = some (.slice e)) (h : Tr enc W fuel t [v]) : v.oneCell' = true := by
 obtain ⟨x, h, -⟩ := h; rcases DataW.trod_slice ht h with ⟨hcs, _⟩ | ⟨a, len, cap, elems, rest, n, hfu, hcs, _⟩ <;> (obtain rfl := List.singleton_inj.1 hcs; rfl)
theorem aBU (h : Tr enc W fuel 107 cs) : ∃ l : List Value, fA W (Old W) (l.map Cl.leaf) cs /\ l.length = 8 := by
 obtain ⟨n, kind, b, neg, dg, ex, s, lv, mv, rfl, rfl, _, _, _, h6, h7⟩ := wT h
 exact ⟨_, aFP (by
  have := xV Tryz.underlying104 h6; have := xV Tryz.underlying105 h7; intro u hu; simp only [List.mem_cons, List.not_mem_nil, or_false] at hu; rcases hu with rfl | rfl | rfl | rfl | rfl | rfl | rfl | rfl <;> first | assumption | rfl), rfl⟩
theorem aFQ (h : Tr enc W fuel 290 cs) : ∃ l : List Value, fA W (Old W) (l.map Cl.leaf) cs /\ l.length = 9 := by
 obtain ⟨n, rfl, hlen, hf⟩ := wG Tryz.underlying290 h; rw [show Tryz.prog.cellsOf 290 = 9 by kernel_rfl] at hlen
 match cs, hlen with
 | c0 :: c1 :: c2 :: c3 :: c4 :: c5 :: c6 :: c7 :: c8 :: [], _ =>
  obtain ⟨s, e0, _⟩ := cL (hf 0 _ 0 1 rfl rfl (by kernel_rfl)); obtain ⟨l, hl, h8⟩ := aBU (hf 1 _ 1 8 rfl rfl (by kernel_rfl)); simp only [List.drop_succ_cons, List.drop_zero, List.take_succ_cons, List.take_zero, List.cons.injEq, and_true] at e0 hl; subst e0; exact ⟨S8 s :: l, fA.tl rfl hl, by simp [h8]⟩
theorem aEB (h : Tr enc W fuel 107 cs) : ∃ v : Vlu, fA W (Old W) v.cells cs /\ v.inR = true /\ iO v.s = true /\ v.stV = true := by
 obtain ⟨n, kind, b, neg, dg, ex, s, lv, mv, rfl, rfl, hex, hdg, hss, h6, h7⟩ := wT h; obtain ⟨L, v, e6, hL, _, hLl⟩ := bJ (k := 8) (α := List Value) Tryz.underlying104 (by kernel_rfl) (by decide) (fun l => l.map Cl.leaf) (fun l => l.length = 8) h6 (fun n cs' _ h => aBU h); obtain rfl := List.singleton_inj.1 e6; obtain ⟨M, u, e7, hM, _, hMl⟩ := bJ (k := 9) (α := List Value) Tryz.underlying105 (by kernel_rfl) (by decide) (fun l => l.map Cl.leaf) (fun l => l.length = 9) h7 (fun n cs' _ h => aFQ h); obtain rfl := List.singleton_inj.1 e7; have hdl := hdg; unfold iO at hdl; refine ⟨⟨kind, b, ⟨neg, dg, ex⟩, s, .rows 8 (L.map fun l => l.map Cl.leaf), .rows 9 (M.map fun l => l.map Cl.leaf)⟩, ?_, ?_, hss, by unfold Vlu.stV; rw [hdg]; rfl⟩
 ·exact .tl rfl (.tl rfl (.tl rfl (.tl rfl (.tl rfl (.tl rfl (.cons hL (.cons hM (.nil _ _))))))))
 ·unfold maxLen at hLl hMl; simp only [Vlu.inR, Dcm.inR, Cl.rowsB, List.length_map, Bool.and_eq_true, decide_eq_true_eq] at hdl ⊢; exact ⟨⟨⟨hex, hdl⟩, by omega⟩, by omega⟩
end
section
variable {H : Type} {enc : TypeId × Value -> H} {W : World}
theorem aEC {fuel : Nat} (hX : ∀ n cs', n < fuel -> Tr enc W n 117 cs' -> ∃ e : Xpr, fA W (Old W) e.cells cs' /\ (e.inR = true /\ e.stB = true)) {cs : List Value} (h : Tr enc W fuel 80 cs) : ∃ x : Slr, fA W (Old W) x.cells cs /\ (x.inR = true /\ x.stB = true) := by
 obtain ⟨n, rfl, hlen, hf⟩ := wG Tryz.underlying80 h; rw [show Tryz.prog.cellsOf 80 = 10 by kernel_rfl] at hlen
 match cs, hlen with
 | c0 :: c1 :: c2 :: c3 :: c4 :: c5 :: c6 :: c7 :: c8 :: c9 :: [], _ =>
  obtain ⟨what, e0, _⟩ := eN (hf 0 _ 0 1 rfl rfl (by kernel_rfl)); obtain ⟨name, e1, hnm⟩ := cL (hf 1 _ 1 1 rfl rfl (by kernel_rfl)); obtain ⟨at_, e2, ha⟩ := eN (hf 2 _ 2 1 rfl rfl (by kernel_rfl)); obtain ⟨m, rfl, hg⟩ := uZ Tryz.underlying46 (show Tryz.prog.cellsOf 4 = 1 by kernel_rfl) (hf 3 _ 3 3 rfl rfl (by kernel_rfl)); obtain ⟨m', hm', hz⟩ := uZ Tryz.underlying47 (show Tryz.prog.cellsOf 3 = 1 by kernel_rfl) (hf 4 _ 6 3 rfl rfl (by kernel_rfl)); obtain rfl : m' = m := by omega
  obtain ⟨h0, e3⟩ := bM (hg 0 (by decide)); obtain ⟨h1, e4⟩ := bM (hg 1 (by decide)); obtain ⟨h2, e5⟩ := bM (hg 2 (by decide)); obtain ⟨s0, e6, w0⟩ := eN (hz 0 (by decide)); obtain ⟨s1, e7, w1⟩ := eN (hz 1 (by decide)); obtain ⟨s2, e8, w2⟩ := eN (hz 2 (by decide)); obtain ⟨f, v, e9, hF, hp, _⟩ := bJ (k := 13) (α := Xpr) Tryz.underlying78 (by kernel_rfl) (by decide) Xpr.cells (fun e => e.inR = true /\ e.stB = true) (hf 5 _ 9 1 rfl rfl (by kernel_rfl)) (fun k cs' hk h => hX k cs' (by omega) h); simp only [Nat.zero_mul, Nat.one_mul, Nat.reduceMul, List.drop_succ_cons, List.drop_zero, List.take_succ_cons, List.take_zero, List.cons.injEq, and_true] at e0 e1 e2 e3 e4 e5 e6 e7 e8 e9; subst e0 e1 e2 e3 e4 e5 e6 e7 e8 e9; refine ⟨.mk what name at_ (h0, h1, h2) (s0, s1, s2) f, ?_, ?_⟩
  ·show fA W (Old W) [.leaf (.int .i64 what), .leaf (S8 name), .leaf (.int .i64 at_), .leaf (.bool h0), .leaf (.bool h1), .leaf (.bool h2), .leaf (.int .i64 s0), .leaf (.int .i64 s1), .leaf (.int .i64 s2), .rows 13 (nE f)] _
   rw [pB]; exact .tl rfl (.tl rfl (.tl rfl (.tl rfl (.tl rfl (.tl rfl (.tl rfl (.tl rfl (.tl rfl (.cons hF (.nil _ _))))))))))
  ·refine ⟨?_, ?_⟩
   ·show ((rF at_ && rF s0 && rF s1 && rF s2) && tJ f) = true
    rw [oF, ha, w0, w1, w2, List.all_eq_true.2 fun y hy => (hp y hy).1]
    rfl
   ·show (iO name && yL f) = true
    rw [kF, hnm, List.all_eq_true.2 fun y hy => (hp y hy).2]
    rfl
theorem aCS : ∀ fuel : Nat, (∀ cs, Tr enc W fuel 31 cs -> ∃ q : Qry, fA W (Old W) q.cells cs /\ (q.inR = true /\ q.stB = true)) /\ (∀ cs, Tr enc W fuel 117 cs -> ∃ e : Xpr, fA W (Old W) e.cells cs /\ (e.inR = true /\ e.stB = true)) := by
 intro fuel
 induction fuel using Nat.strongRecOn with
 | _ fuel ih =>
  refine ⟨fun cs h => ?_, fun cs h => ?_⟩
  ·obtain ⟨n, rfl, hlen, hf⟩ := wG Tryz.underlying31 h; rw [show Tryz.prog.cellsOf 31 = 2 by kernel_rfl] at hlen
   match cs, hlen with
   | c0 :: c1 :: [], _ =>
    obtain ⟨rel, e0⟩ := bM (hf 0 _ 0 1 rfl rfl (by kernel_rfl))
    obtain ⟨l, v, e1, hL, hp, _⟩ := bJ (k := 2) (α := Sgm) Tryz.underlying29 (by kernel_rfl) (by decide) Sgm.cells (fun e => e.inR = true /\ e.stB = true) (hf 1 _ 1 1 rfl rfl (by kernel_rfl)) (fun k cs' hk h => by
     obtain ⟨n', rfl, hlen', hf'⟩ := wG Tryz.underlying77 h; rw [show Tryz.prog.cellsOf 77 = 2 by kernel_rfl] at hlen'
     match cs', hlen' with
     | c0 :: c1 :: [], _ =>
      obtain ⟨dp, e0⟩ := bM (hf' 0 _ 0 1 rfl rfl (by kernel_rfl)); obtain ⟨l, v, e1, hL, hp, _⟩ := bJ (k := 10) (α := Slr) Tryz.underlying75 (by kernel_rfl) (by decide) Slr.cells (fun e => e.inR = true /\ e.stB = true) (hf' 1 _ 1 1 rfl rfl (by kernel_rfl)) (fun k' cs'' hk' h => aEC (fun n2 cs2 h2 h => (ih n2 (by omega)).2 cs2 h) h); simp only [List.drop_succ_cons, List.drop_zero, List.take_succ_cons, List.take_zero, List.cons.injEq, and_true] at e0 e1; subst e0 e1; refine ⟨.mk dp l, ?_, ?_⟩
      ·show fA W (Old W) [.leaf (.bool dp), .rows 10 (eG l)] _
       rw [rE]; exact .tl rfl (.cons hL (.nil _ _))
      ·exact ⟨(jI l).trans (List.all_eq_true.2 fun y hy => (hp y hy).1), (vH l).trans (List.all_eq_true.2 fun y hy => (hp y hy).2)⟩)
    simp only [List.drop_succ_cons, List.drop_zero, List.take_succ_cons, List.take_zero, List.cons.injEq, and_true] at e0 e1; subst e0 e1; refine ⟨.mk rel l, ?_, ?_⟩
    ·show fA W (Old W) [.leaf (.bool rel), .rows 2 (sH l)] _
     rw [qC]; exact .tl rfl (.cons hL (.nil _ _))
    ·exact ⟨(iI l).trans (List.all_eq_true.2 fun y hy => (hp y hy).1), (uH l).trans (List.all_eq_true.2 fun y hy => (hp y hy).2)⟩
  ·obtain ⟨n, rfl, hlen, hf⟩ := wG Tryz.underlying117 h; rw [show Tryz.prog.cellsOf 117 = 13 by kernel_rfl] at hlen
   match cs, hlen with
   | c0 :: c1 :: c2 :: c3 :: c4 :: c5 :: c6 :: c7 :: c8 :: c9 :: c10 :: c11 :: c12 :: [], _ =>
    obtain ⟨what, e0, _⟩ := eN (hf 0 _ 0 1 rfl rfl (by kernel_rfl)); obtain ⟨l, v, e1, hL, hp, _⟩ := bJ (k := 13) (α := Xpr) Tryz.underlying78 (by kernel_rfl) (by decide) Xpr.cells (fun e => e.inR = true /\ e.stB = true) (hf 1 _ 1 1 rfl rfl (by kernel_rfl)) (fun k cs' hk h => (ih k (by omega)).2 cs' h); obtain ⟨op, e2, hop⟩ := cL (hf 2 _ 2 1 rfl rfl (by kernel_rfl)); obtain ⟨q, hq, iq⟩ := (ih n (by omega)).1 _ (hf 3 _ 3 2 rfl rfl (by kernel_rfl)); obtain ⟨u, hv, iv⟩ := aEB (hf 4 _ 5 8 rfl rfl (by kernel_rfl)); simp only [List.drop_succ_cons, List.drop_zero, List.take_succ_cons, List.take_zero, List.cons.injEq, and_true] at e0 e1 e2 hq hv; subst e0 e1 e2; refine ⟨.mk what l op q u, ?_, ?_⟩
    ·show fA W (Old W) (.leaf (.int .i64 what) :: .rows 13 (nE l) :: .leaf (S8 op) :: (q.cells ++ u.cells)) _
     rw [pB]; exact .tl rfl (.cons hL (.tl rfl (hq.app hv)))
    ·refine ⟨?_, ?_⟩
     ·show (u.inR && q.inR && tJ l) = true
      rw [oF, iv.1, iq.1, List.all_eq_true.2 fun y hy => (hp y hy).1]
      rfl
     ·show (iO op && iO u.s && u.stV && q.stB && yL l) = true
      rw [kF, hop, iv.2.1, iv.2.2, iq.2, List.all_eq_true.2 fun y hy => (hp y hy).2]
      rfl
theorem aED {fuel : Nat} {v : Value} {x : DataW H × List MemPlace} (h : DataW.trod enc Tryz.prog W 0 (fun _ => true) true fuel 31 v.cells.toList = some x) (hw : (x.1.weights Tryz.prog 31).all (· <= reachBytes) = true) : ∃ q : Qry, fA W (Old W) q.cells v.cells.toList /\ (q.inR = true /\ q.stB = true) := (aCS fuel).1 _ ⟨x, h, hw⟩
end
end
section
open Go.RowKit Go.Shelf
theorem aBV : ∀ n : Fin 16, (⟨#[48, 49, 50, 51, 52, 53, 54, 55, 56, 57, 97, 98, 99, 100, 101, 102]⟩ : ByteArray).extract n.val (n.val + 1) = ⟨#[sI n.val]⟩ := by decide +kernel
theorem aFR (O : List UInt8) (a b : Nat) (ha : a < 16) (hb : b < 16) : (⟨(O ++ [92, 117, 48, 48]).toArray⟩ : ByteArray) ++ (⟨#[48, 49, 50, 51, 52, 53, 54, 55, 56, 57, 97, 98, 99, 100, 101, 102]⟩ : ByteArray).extract a (a + 1) ++ (⟨#[48, 49, 50, 51, 52, 53, 54, 55, 56, 57, 97, 98, 99, 100, 101, 102]⟩ : ByteArray).extract b (b + 1) = ⟨(O ++ [92, 117, 48, 48, sI a, sI b]).toArray⟩ := by
 rw [aBV ⟨a, ha⟩, aBV ⟨b, hb⟩, show (⟨#[sI a]⟩ : ByteArray) = ⟨[sI a].toArray⟩ from rfl, show (⟨#[sI b]⟩ : ByteArray) = ⟨[sI b].toArray⟩ from rfl, nF, nF]
 simp
def aGB (f : UInt8 -> List UInt8) (h : UInt8) (l : List UInt8) (n : Nat) (w : World) (j : Nat) (u v : Value) (wr : World) : Prop :=
 ∃ k : Nat, k + j = n /\ u = .string ⟨(h :: (l.take k).flatMap f).toArray⟩ /\ v = .int .i64 (k : Int) /\ Fr [] w wr
theorem vZ {w : World} (s : ByteArray) (hz : s.size <= 100000000) : RV 137 #[.string s] w (.string ⟨(pK (aA s)).toArray⟩) := by
 refine cA fun R HQ => ?_; have hlen := dA s; obtain ⟨l, hl⟩ : ∃ l, aA s = l := ⟨_, rfl⟩; obtain ⟨n, hn⟩ : ∃ n, s.size = n := ⟨_, rfl⟩; have HL := lh hl; rw [hl, hn] at hlen; rw [hl] at HQ; rw [hn] at hz; have HN := lh hn; have HLN := lh hlen
 go_enter Tryz.func137, Tryz.ntmps137
 go_wp2_with fail; clear hl hn hlen
 go_loopg [3, 5] n (fun j u v wr => aGB cD 34 l n w j u v wr)
 case atStart => exact ⟨0, by omega, rfl, rfl, Fr.refl [] w⟩
 case round =>
  obtain ⟨k, hk, rfl, rfl, hF⟩ := hrel; have HF := lh hF; clear hF
  have hlk : (34 :: (l.take k).flatMap cD).length <= 600000001 := by
   have := kX (l.take k); rw [List.length_take, HLN.out] at this; rw [List.length_cons]; omega
  obtain ⟨O, hO⟩ : ∃ O, (34 :: (l.take k).flatMap cD) = O := ⟨_, rfl⟩; have HO := lh hO; rw [hO] at hlk ⊢
  by_cases hkn : k < n
  ·have hkn' : k < s.size := by rw [HN.out]; exact hkn
   obtain ⟨c, hc⟩ : ∃ c, l[k]? = some c := gx (by rw [HLN.out]; exact hkn); have hix := fun W => eC (s := s) (by rw [HL.out]; exact hc) .i64 W; have HNX : Hid (34 :: (l.take (k + 1)).flatMap cD = O ++ cD c) := lh (by rw [dO cD hc, <- HO.out]; rfl); obtain ⟨t1, ht1, htz, hsl⟩ := eQ s k (k + 1) (by omega) (by rw [HN.out]; omega); rw [HL.out, tC hc, show k + 1 - k = 1 by omega] at ht1; have ht2 : aA t1 = [c] := by simpa using ht1
   have hsl1 := fun W => hsl .i64 .i64 W; rw [show ((k + 1 : Nat) : Int) = (k : Int) + 1 by omega, sJ ht2] at hsl1; clear hc ht1 hsl ht2 htz
   by_cases h34 : c = 34
   ·have HEB : Hid (cD c = [92, c]) := lh (by subst h34; rfl); have d1 : ((c.toNat : Int) == 34) = true := by subst h34; rfl
    clear h34; have ha := fun W => rA O [92] (by simp only [LN]; omega) W; have hb := fun W => rA (O ++ [92]) [c] (by simp only [LN]; omega) W; simp only [List.append_assoc] at hb; go_wp2_with fail
    go_roundg (n - (k + 1))
    case measure => omega
    case rel => exact ⟨k + 1, by omega, by rw [HNX.out, HEB.out], by go_num, HF.out⟩
   ·have d1 : ((c.toNat : Int) == 34) = false := by rw [beq_eq_false_iff_ne]; intro h; exact h34 (UInt8.toNat_inj.1 (by show c.toNat = 34; omega))
    by_cases h92 : c = 92
    ·have HEB : Hid (cD c = [92, c]) := lh (by subst h92; rfl); have d2 : ((c.toNat : Int) == 92) = true := by subst h92; rfl
     clear h34 h92; have ha := fun W => rA O [92] (by simp only [LN]; omega) W; have hb := fun W => rA (O ++ [92]) [c] (by simp only [LN]; omega) W; simp only [List.append_assoc] at hb; go_wp2_with fail
     go_roundg (n - (k + 1))
     case measure => omega
     case rel => exact ⟨k + 1, by omega, by rw [HNX.out, HEB.out], by go_num, HF.out⟩
    ·have d2 : ((c.toNat : Int) == 92) = false := by rw [beq_eq_false_iff_ne]; intro h; exact h92 (UInt8.toNat_inj.1 (by show c.toNat = 92; omega))
     by_cases h8 : c = 8
     ·have HEB : Hid (cD c = [92, 98]) := lh (by subst h8; rfl); have d3 : ((c.toNat : Int) == 8) = true := by subst h8; rfl
      clear h34 h92 h8 hsl1; have ha := fun W => rA O [92, 98] (by simp only [LN]; omega) W; go_wp2_with fail
      go_roundg (n - (k + 1))
      case measure => omega
      case rel => exact ⟨k + 1, by omega, by rw [HNX.out, HEB.out], by go_num, HF.out⟩
     ·have d3 : ((c.toNat : Int) == 8) = false := by rw [beq_eq_false_iff_ne]; intro h; exact h8 (UInt8.toNat_inj.1 (by show c.toNat = 8; omega))
      by_cases h9 : c = 9
      ·have HEB : Hid (cD c = [92, 116]) := lh (by subst h9; rfl); have d4 : ((c.toNat : Int) == 9) = true := by subst h9; rfl
       clear h34 h92 h8 h9 hsl1; have ha := fun W => rA O [92, 116] (by simp only [LN]; omega) W; go_wp2_with fail
       go_roundg (n - (k + 1))
       case measure => omega
       case rel => exact ⟨k + 1, by omega, by rw [HNX.out, HEB.out], by go_num, HF.out⟩
      ·have d4 : ((c.toNat : Int) == 9) = false := by rw [beq_eq_false_iff_ne]; intro h; exact h9 (UInt8.toNat_inj.1 (by show c.toNat = 9; omega))
       by_cases h10 : c = 10
       ·have HEB : Hid (cD c = [92, 110]) := lh (by subst h10; rfl); have d5 : ((c.toNat : Int) == 10) = true := by subst h10; rfl
        clear h34 h92 h8 h9 h10 hsl1; have ha := fun W => rA O [92, 110] (by simp only [LN]; omega) W; go_wp2_with fail
        go_roundg (n - (k + 1))
        case measure => omega
        case rel => exact ⟨k + 1, by omega, by rw [HNX.out, HEB.out], by go_num, HF.out⟩
       ·have d5 : ((c.toNat : Int) == 10) = false := by rw [beq_eq_false_iff_ne]; intro h; exact h10 (UInt8.toNat_inj.1 (by show c.toNat = 10; omega))
        by_cases h12 : c = 12
        ·have HEB : Hid (cD c = [92, 102]) := lh (by subst h12; rfl); have d6 : ((c.toNat : Int) == 12) = true := by subst h12; rfl
         clear h34 h92 h8 h9 h10 h12 hsl1; have ha := fun W => rA O [92, 102] (by simp only [LN]; omega) W; go_wp2_with fail
         go_roundg (n - (k + 1))
         case measure => omega
         case rel => exact ⟨k + 1, by omega, by rw [HNX.out, HEB.out], by go_num, HF.out⟩
        ·have d6 : ((c.toNat : Int) == 12) = false := by rw [beq_eq_false_iff_ne]; intro h; exact h12 (UInt8.toNat_inj.1 (by show c.toNat = 12; omega))
         by_cases h13 : c = 13
         ·have HEB : Hid (cD c = [92, 114]) := lh (by subst h13; rfl); have d7 : ((c.toNat : Int) == 13) = true := by subst h13; rfl
          clear h34 h92 h8 h9 h10 h12 h13 hsl1; have ha := fun W => rA O [92, 114] (by simp only [LN]; omega) W; go_wp2_with fail
          go_roundg (n - (k + 1))
          case measure => omega
          case rel => exact ⟨k + 1, by omega, by rw [HNX.out, HEB.out], by go_num, HF.out⟩
         ·have d7 : ((c.toNat : Int) == 13) = false := by rw [beq_eq_false_iff_ne]; intro h; exact h13 (UInt8.toNat_inj.1 (by show c.toNat = 13; omega))
          by_cases h32 : c.toNat < 32
          ·have HEB : Hid (cD c = [92, 117, 48, 48] ++ ([sI (c.toNat / 16)] ++ [sI (c.toNat % 16)])) := lh (by rw [cD, if_neg (by simp [h34, h92]), if_neg h8, if_neg h9, if_neg h10, if_neg h12, if_neg h13, if_pos h32]; rfl); have d8 : decide ((c.toNat : Int) < 32) = true := dT (by omega)
           clear h34 h92 h8 h9 h10 h12 h13 hsl1; have ha := fun W => rA O [92, 117, 48, 48] (by simp only [LN]; omega) W; go_upto_region 21 with fail
           go_quiet (fail)
           have hfq : Fr [] wr (wr.drewN nq) := (Fr.refl [] wr).drewN nq; have HF2 := lh (HF.out.trans hfq); have HSE := lh (aFR O (c.toNat / 16) (c.toNat % 16) (by have := of_decide_eq_true d8; omega) (by omega)); generalize wr.drewN nq = w1 at *; clear hfq; rw [HSE.out]; go_wp2_with fail
           go_roundg (n - (k + 1))
           case measure => omega
           case rel => exact ⟨k + 1, by omega, by rw [HNX.out, HEB.out]; simp, by go_num, HF2.out⟩
          ·have HEB : Hid (cD c = [c]) := lh (by rw [cD, if_neg (by simp [h34, h92]), if_neg h8, if_neg h9, if_neg h10, if_neg h12, if_neg h13, if_neg h32]); have d8 : decide ((c.toNat : Int) < 32) = false := dF (by omega)
           clear h34 h92 h8 h9 h10 h12 h13; have ha := fun W => rA O [c] (by simp only [LN]; omega) W; go_wp2_with fail
           go_roundg (n - (k + 1))
           case measure => omega
           case rel => exact ⟨k + 1, by omega, by rw [HNX.out, HEB.out], by go_num, HF.out⟩
  ·have hkn' : ¬ k < s.size := by rw [HN.out]; exact hkn
   have hte : l.take k = l := List.take_of_length_le (by rw [HLN.out]; omega); have hol : O = 34 :: l.flatMap cD := by rw [<- HO.out, hte]
   have HOL := lh hol; have ha := fun W => rA O [34] (by simp only [LN]; omega) W; clear hte hol; go_wp2_with fail; exact HQ.out _ _ ⟨by rw [HOL.out]; unfold pK; simp, HF.out⟩
theorem xZ {w : World} (s : ByteArray) (hz : s.size <= 100000000) : RV 88 #[.string s] w (.string ⟨(qE (aA s)).toArray⟩) := by
 refine cA fun R HQ => ?_; have hlen := dA s; obtain ⟨l, hl⟩ : ∃ l, aA s = l := ⟨_, rfl⟩; obtain ⟨n, hn⟩ : ∃ n, s.size = n := ⟨_, rfl⟩; have HL := lh hl; rw [hl, hn] at hlen; rw [hl] at HQ; rw [hn] at hz; have HN := lh hn; have HLN := lh hlen
 go_enter Tryz.func88, Tryz.ntmps88
 go_wp2_with fail; clear hl hn hlen
 go_loopg [3, 4] n (fun j u v wr => aGB aD 39 l n w j u v wr)
 case atStart => exact ⟨0, by omega, rfl, rfl, Fr.refl [] w⟩
 case round =>
  obtain ⟨k, hk, rfl, rfl, hF⟩ := hrel; have HF := lh hF; clear hF
  have hlk : (39 :: (l.take k).flatMap aD).length <= 600000001 := by
   have := kQ (l.take k); rw [List.length_take, HLN.out] at this; rw [List.length_cons]; omega
  obtain ⟨O, hO⟩ : ∃ O, (39 :: (l.take k).flatMap aD) = O := ⟨_, rfl⟩; have HO := lh hO; rw [hO] at hlk ⊢; clear hO
  by_cases hkn : k < n
  ·have hkn' : k < s.size := by rw [HN.out]; exact hkn
   obtain ⟨c, hc⟩ : ∃ c, l[k]? = some c := gx (by rw [HLN.out]; exact hkn); have hix := fun W => eC (s := s) (by rw [HL.out]; exact hc) .i64 W; have HNX : Hid (39 :: (l.take (k + 1)).flatMap aD = O ++ aD c) := lh (by rw [dO aD hc, <- HO.out]; rfl); obtain ⟨t1, ht1, htz, hsl⟩ := eQ s k (k + 1) (by omega) (by rw [HN.out]; omega); rw [HL.out, tC hc, show k + 1 - k = 1 by omega] at ht1; have ht2 : aA t1 = [c] := by simpa using ht1
   have hsl1 := fun W => hsl .i64 .i64 W; rw [show ((k + 1 : Nat) : Int) = (k : Int) + 1 by omega] at hsl1; clear hc ht1 hsl
   by_cases h39 : c = 39
   ·have HEB : Hid (aD c = [92, 39]) := lh (by subst h39; rfl); have d1 : ((c.toNat : Int) == 39) = true := by subst h39; rfl
    clear h39 hsl1 ht2 htz; have ha := fun W => rA O [92, 39] (by simp only [LN]; omega) W; go_wp2_with fail
    go_roundg (n - (k + 1))
    case measure => omega
    case rel => exact ⟨k + 1, by omega, by rw [HNX.out, HEB.out], by go_num, HF.out⟩
   ·have d1 : ((c.toNat : Int) == 39) = false := by rw [beq_eq_false_iff_ne]; intro h; exact h39 (UInt8.toNat_inj.1 (by show c.toNat = 39; omega))
    by_cases h34 : c = 34
    ·have HEB : Hid (aD c = [34]) := lh (by subst h34; rfl); have d2 : ((c.toNat : Int) == 34) = true := by subst h34; rfl
     clear h39 h34 hsl1 ht2 htz; have ha := fun W => rA O [34] (by simp only [LN]; omega) W; go_wp2_with fail
     go_roundg (n - (k + 1))
     case measure => omega
     case rel => exact ⟨k + 1, by omega, by rw [HNX.out, HEB.out], by go_num, HF.out⟩
    ·have HEB : Hid (aD c = cD c) := lh (by unfold aD; rw [if_neg h39, if_neg h34]); have d2 : ((c.toNat : Int) == 34) = false := by rw [beq_eq_false_iff_ne]; intro h; exact h34 (UInt8.toNat_inj.1 (by show c.toNat = 34; omega))
     have hq : pK (aA t1) = 34 :: cD c ++ [34] := by rw [ht2]; unfold pK; simp
     obtain ⟨qs, hqs⟩ : ∃ qs : ByteArray, qs = ⟨(pK (aA t1)).toArray⟩ := ⟨_, rfl⟩; have hqb : aA qs = 34 :: cD c ++ [34] := by rw [hqs]; exact hq
     have hel := tT c; have hqz : qs.size = (cD c).length + 2 := by rw [<- dA, hqb]; simp
     have hx5 : qs.extract 1 ((cD c).length + 1) = ⟨(cD c).toArray⟩ := sJ (by rw [sB, hqb]; simp); have HQU := lh (fun W => vZ (w := W) t1 (by omega)); rw [<- hqs] at HQU; obtain ⟨E, hE⟩ : ∃ E, cD c = E := ⟨_, rfl⟩; rw [hE] at hx5 hel hqz HEB; obtain ⟨el, hel2⟩ : ∃ el, E.length = el := ⟨_, rfl⟩; rw [hel2] at hx5 hel hqz; have HX5 := lh hx5; have hzw : IntKind.i64.wrap ((qs.size : Int) - 1) = (el : Int) + 1 := by rw [IntKind.wrap_i64]; omega
     clear h39 h34 hqs hq hqb ht2 htz hx5 hE hel2; go_wp2_with fail; refine (HQU.out _).mono ?_; rintro e w2 ⟨rfl, hf2⟩; have HF2 := lh (HF.out.trans hf2); clear hf2; go_wp2_with fail
     go_roundg (n - (k + 1))
     case measure => omega
     case rel => exact ⟨k + 1, by omega, by rw [HX5.out, nF, HNX.out, HEB.out], by go_num, HF2.out⟩
  ·have hkn' : ¬ k < s.size := by rw [HN.out]; exact hkn
   have hte : l.take k = l := List.take_of_length_le (by rw [HLN.out]; omega); have hol : O = 39 :: l.flatMap aD := by rw [<- HO.out, hte]
   have HOL := lh hol; have ha := fun W => rA O [39] (by simp only [LN]; omega) W; clear hte hol; go_wp2_with fail; exact HQ.out _ _ ⟨by rw [HOL.out]; unfold qE; simp, HF.out⟩
theorem aFS (c : UInt8) (w : World) : Calls Tryz.prog 173 #[.int .u8 (c.toNat : Int)] w fun e w' => e = .returned (.bool (bB c)) /\ w = w' := by
 refine cA fun R HQ => ?_; have HFG : Hid (bB c = decide (48 <= c.toNat /\ c.toNat <= 57)) := lh rfl
 go_enter Tryz.func173, Tryz.ntmps173
 by_cases h1 : 48 <= c.toNat
 ·by_cases h2 : c.toNat <= 57
  ·have d1 : decide ((48 : Int) <= (c.toNat : Int)) = true := dT (by omega)
   have d2 : decide ((c.toNat : Int) <= 57) = true := dT (by omega)
   have HB : Hid (bB c = true) := lh (by rw [HFG.out, decide_eq_true_eq]; exact ⟨h1, h2⟩); clear h1 h2; go_wp2_with fail; exact HQ.out _ _ ⟨by rw [HB.out]; rfl, rfl⟩
  ·have d1 : decide ((48 : Int) <= (c.toNat : Int)) = true := dT (by omega)
   have d2 : decide ((c.toNat : Int) <= 57) = false := dF (by omega)
   have HB : Hid (bB c = false) := lh (by rw [HFG.out, decide_eq_false_iff_not]; exact fun h => h2 h.2); clear h1 h2; go_wp2_with fail; exact HQ.out _ _ ⟨by rw [HB.out]; rfl, rfl⟩
 ·have d1 : decide ((48 : Int) <= (c.toNat : Int)) = false := dF (by omega)
  have HB : Hid (bB c = false) := lh (by rw [HFG.out, decide_eq_false_iff_not]; exact fun h => h1 h.1); clear h1; go_wp2_with fail; exact HQ.out _ _ ⟨by rw [HB.out]; rfl, rfl⟩
def ZoRel (n : Nat) (w : World) (j : Nat) (u v : Value) (wr : World) : Prop := ∃ k : Nat, k + j = n /\ u = .string ⟨(zA k).toArray⟩ /\ v = .int .i64 (k : Int) /\ w = wr
theorem aBW (n : Nat) (hn : n <= 100000) (w : World) : Calls Tryz.prog 135 #[.int .i64 (n : Int)] w fun e w' => e = .returned (.string ⟨(zA n).toArray⟩) /\ w = w' := by
 refine cA fun R HQ => ?_
 go_enter Tryz.func135, Tryz.ntmps135
 go_wp2_with fail
 go_loopg [3, 4] n (fun j u v wr => ZoRel n w j u v wr)
 case atStart => exact ⟨0, by omega, rfl, rfl, rfl⟩
 case round =>
  obtain ⟨k, hk, rfl, rfl, rfl⟩ := hrel
  by_cases hkn : k < n
  ·have hkl : (k : Int) < (n : Int) := by omega
   have hzl : (zA k).length = k := by unfold zA; simp
   have ha := fun W => rA (zA k) [48] (by rw [hzl]; simp only [LN]; omega) W; have HNX : Hid (zA (k + 1) = zA k ++ [48]) := lh (by unfold zA; rw [List.replicate_succ']); clear hzl; go_wp2_with fail
   go_roundg (n - (k + 1))
   case measure => omega
   case rel => exact ⟨k + 1, by omega, by rw [HNX.out], by go_num, rfl⟩
  ·have hkl : ¬ (k : Int) < (n : Int) := by omega
   have HE : Hid (k = n) := lh (by omega); go_wp2_with fail; exact HQ.out _ _ ⟨by rw [HE.out], rfl⟩
theorem aBX : ∀ n : Fin 10, (⟨#[48, 49, 50, 51, 52, 53, 54, 55, 56, 57]⟩ : ByteArray).extract n.val (n.val + 1) = ⟨#[UInt8.ofNat (48 + n.val)]⟩ := by decide +kernel
theorem aBY : ∀ (u : Nat), u <= 1000000 -> ∀ w : World, RV 136 #[.int .i64 (u : Int)] w (.string ⟨(Lib.decDigits u).toArray⟩) := by
 intro u
 induction u using Nat.strongRecOn with
 | _ u ih =>
  intro hu w; refine cA fun R HQ => ?_
  by_cases h : u < 10
  ·have hd := Lib.decDigits_one h; have hx := aBX ⟨u, h⟩; have HD := lh hd; have HX := lh hx; have d1 : decide ((u : Int) < 10) = true := dT (by omega)
   clear hd hx
   go_enter Tryz.func136, Tryz.ntmps136
   go_wp2_with fail; exact HQ.out _ _ ⟨by rw [HD.out]; exact congrArg (fun s => Ending.returned (Value.string s)) HX.out, Fr.refl _ _⟩
  ·have hd : Lib.decDigits u = Lib.decDigits (u / 10) ++ [UInt8.ofNat (48 + u % 10)] := by rw [Lib.decDigits, dif_neg h]
   have hq : (u : Int).tdiv 10 = ((u / 10 : Nat) : Int) := rfl; have hr : (u : Int).tmod 10 = ((u % 10 : Nat) : Int) := rfl; have HIH := lh (ih (u / 10) (by omega) (by omega)); have hq9 : u / 10 <= 100000 := by omega
   have hr9 : u % 10 < 10 := by omega
   have d1 : decide ((u : Int) < 10) = false := dF (by omega)
   clear ih h; generalize u / 10 = qn at *; generalize u % 10 = r at *; have hx := aBX ⟨r, hr9⟩; obtain ⟨ch, hch⟩ : ∃ ch, UInt8.ofNat (48 + r) = ch := ⟨_, rfl⟩; rw [hch] at hd; simp only [hch] at hx; have HD := lh hd; have hwq : IntKind.i64.wrap (qn : Int) = (qn : Int) := by rw [IntKind.wrap_i64]; omega
   have hw := wi r (by omega)
   obtain ⟨t, ht, htz, hsl0⟩ := eQ ⟨#[48, 49, 50, 51, 52, 53, 54, 55, 56, 57]⟩ r (r + 1) (by omega) (show r + 1 <= 10 by omega)
   have hte : t = ⟨[ch].toArray⟩ := by
    refine sJ ?_; rw [ht, <- sB, hx]
    rfl
   rw [hte] at hsl0; have hsl : ∀ W, (Instr.slice 9 (.string ⟨#[48, 49, 50, 51, 52, 53, 54, 55, 56, 57]⟩) (some (.int .i64 (r : Int))) (some (.int .i64 ((r : Int) + 1))) none).run Tryz.prog W = .ok (.string ⟨[ch].toArray⟩) W := fun W => hsl0 .i64 .i64 W; have ha := fun W => rA (Lib.decDigits qn) [ch] (by have := (qP qn).2.2.2.2 9 (by omega); simp only [LN]; omega) W; clear hd hx ht htz hsl0 hte hch
   go_enter Tryz.func136, Tryz.ntmps136
   go_upto_region 3 with fail
   refine iA (fun W => True /\ True) [0, 1, 3, 4, 5, 6, 7, 8, 9] (by kernel_rfl) ?_; refine tks [0, 1, 3, 4, 5, 6, 7, 8] ?_
   iterate 8 (refine tk rfl rfl ⟨trivial, trivial⟩ rfl (fun _ hW => by (obtain ⟨_, _⟩ := hW; go_simp) <;> with_reducible rfl) ?_; simp only [nrm])
   refine tke ?_; refine sp 2 rfl rfl rfl fun K hK => ?_
   trace_state
   refine mA (l := [.tmp 10]) rfl [.int .i64 (qn : Int)] rfl (fun W => by kernel_rfl) ((HIH.out _).mono ?_); rintro e w2 ⟨rfl, hf2⟩; have hf02 : Fr [] w w2 := ((Fr.refl [] w).drew).trans hf2; refine ⟨_, rfl, hK _ _ (fun _ => ⟨trivial, trivial⟩) ?_⟩; simp only [nrm]; clear hK; refine tks [9] ?_; refine tk rfl rfl ⟨trivial, trivial⟩ rfl (fun _ hW => by (obtain ⟨_, _⟩ := hW; go_simp) <;> with_reducible rfl) ?_; simp only [nrm]; refine tke ?_; refine sp 10 rfl rfl rfl fun K hK => ?_; refine eA (v := ?aq1_10) ?yq1_10 (hK _ _ (fun _ => ⟨trivial, trivial⟩) ?_)
   case yq1_10 => go_simp <;> with_reducible rfl
   simp only [nrm]; refine wd ?_ _; have HF2 := lh hf02; clear hf2 hf02; go_wp2_with fail; exact HQ.out _ _ ⟨by rw [HD.out]; rfl, HF2.out⟩
end
section
open Go.RowKit
def dE (a : Nat) (l : List UInt8) (ts : List Tkn) : Prop := ∀ n, l.length < n -> mC n a l = .ok ts
theorem aEE (a : Nat) : dE a [] [] := fun n hn => by
 match n, hn with
 | n + 1, _ => simp [mC, kG]
theorem yZ {a : Nat} {c : UInt8} {l : List UInt8} (hc : uD c = true) : kG a (c :: l) = kG (a + 1) l := by
 have hl := rD uD l; unfold kG; simp only [List.dropWhile_cons, hc, if_true, List.length_cons]; have : a + (l.length + 1 - (l.dropWhile uD).length) = a + 1 + (l.length - (l.dropWhile uD).length) := by omega
 rw [this]
theorem cM {a : Nat} {c : UInt8} {l : List UInt8} {ts : List Tkn} (hc : uD c = true) (h : dE (a + 1) l ts) : dE a (c :: l) ts := fun n hn => by
 match n, hn with
 | n + 1, hn =>
  have h1 := h (n + 1) (by simp at hn; omega); unfold mC at h1 ⊢; rw [yZ hc]
  match hx : kG (a + 1) l with
  | .error e => rw [hx] at h1; simp at h1
  | .ok t =>
   rw [hx] at h1; have ht := (tM hx).1; have hf := tM hx
   dsimp only at h1 ⊢
   by_cases hk : t.kind = 0
   ·rw [if_pos hk] at h1 ⊢; exact h1
   ·rw [if_neg hk] at h1 ⊢
    have htl : a + 1 <= t.til := by
     have := hf.2.2.2; have h3 := (this hk).1; omega
    have : (c :: l).drop (t.til - a) = l.drop (t.til - (a + 1)) := by
     obtain ⟨j, hj⟩ : ∃ j, t.til = a + 1 + j := ⟨t.til - (a + 1), by omega⟩; rw [hj, show a + 1 + j - a = j + 1 by omega, show a + 1 + j - (a + 1) = j by omega, List.drop_succ_cons]
    rw [this]; exact h1
theorem fC {a k m : Nat} {c : UInt8} {u l s : List UInt8} {d : Dcm} {ts : List Tkn} (hw : uD c = false) (hr : gB (c :: (u ++ l)) = .ok (k, s, d, m)) (hm : m = u.length + 1) (hk : k ≠ 0)
  (h : dE (a + m) l ts) : dE a (c :: (u ++ l)) (⟨k, s, d, a, a + m⟩ :: ts) := fun n hn => by
 match n, hn with
 | n + 1, hn =>
  have e1 : kG a (c :: (u ++ l)) = .ok ⟨k, s, d, a, a + m⟩ := by
   unfold kG; have : (c :: (u ++ l)).dropWhile uD = c :: (u ++ l) := by simp [hw]
   simp only [this, Nat.sub_self, Nat.add_zero, hr]
  unfold mC; rw [e1]; simp only [hk, if_false]; have : (c :: (u ++ l)).drop (a + m - a) = l := by rw [Nat.add_sub_cancel_left, hm]; simp
  rw [this, h n (by simp at hn; omega)]
def yV : List UInt8 := [36, 64, 44, 59, 63, 42, 91, 93, 40, 41, 123, 125, 43]
theorem aBk {c : UInt8} (h : c ∈ yV) (l : List UInt8) : gB (c :: l) = .ok (4, [c], .zero, 1) := by
 simp only [yV, List.mem_cons, List.not_mem_nil, or_false] at h; rcases h with h | h | h | h | h | h | h | h | h | h | h | h | h <;> subst h <;> rfl
theorem aBl {c : UInt8} (h : c ∈ yV) : uD c = false := by
 simp only [yV, List.mem_cons, List.not_mem_nil, or_false] at h; rcases h with h | h | h | h | h | h | h | h | h | h | h | h | h <;> subst h <;> rfl
theorem jF {a : Nat} {c : UInt8} {l : List UInt8} {ts : List Tkn} (hc : c ∈ yV) (h : dE (a + 1) l ts) : dE a (c :: l) (⟨4, [c], .zero, a, a + 1⟩ :: ts) :=
 fC (u := []) (aBl hc) (aBk hc l) rfl (by decide) h
theorem aBm (l : List UInt8) : gB (46 :: 46 :: l) = .ok (4, [46, 46], .zero, 2) := rfl
theorem aCT {a : Nat} {l : List UInt8} {ts : List Tkn} (h : dE (a + 2) l ts) : dE a (46 :: 46 :: l) (⟨4, [46, 46], .zero, a, a + 2⟩ :: ts) :=
 fC (u := [46]) rfl (aBm l) rfl (by decide) h
theorem zV {x y c : UInt8} {l : List UInt8} (h : gA y l = false) : [x, y].isPrefixOf (c :: l) = false := by
 match l with
 | [] => simp [List.isPrefixOf]
 | d :: l =>
  have : y ≠ d := fun e => by subst e; simp [gA] at h
  simp [List.isPrefixOf, this]
theorem zZ {l : List UInt8} (h : gA 61 l = false) : gB (58 :: l) = .ok (4, [58], .zero, 1) := by
 have e : jG (58 :: l) = 1 := by
  unfold jG
  have : xO.any (fun x => x.isPrefixOf (58 :: l)) = false := by
   simp only [xO, List.any_cons, List.any_nil, zV h, Bool.or_false, Bool.false_or]; rfl
  rw [this]; rfl
 unfold gB; simp only [e]
 rfl
theorem xT {a : Nat} {l : List UInt8} {ts : List Tkn} (hl : gA 61 l = false) (h : dE (a + 1) l ts) : dE a (58 :: l) (⟨4, [58], .zero, a, a + 1⟩ :: ts) :=
 fC (u := []) rfl (zZ hl) rfl (by decide) h
theorem aEF {c : UInt8} (h : c.toNat < 128) : uE 0 c = true /\ gC (c.toNat : Int) = true := by
 have := wC (fun c => !decide (c.toNat < 128) || (uE 0 c && gC (c.toNat : Int))) (by decide +kernel) c
 simpa [h] using this
theorem dM {c : UInt8} (h : c.toNat < 128) (l : List UInt8) : nC (c :: l) = some (c.toNat, 1) := by
 obtain ⟨h1, h2⟩ := aEF h; unfold nC
 dsimp only
 rw [if_pos h1]; unfold kD; have : jD (yB 0 c) (l.take 0) = some c.toNat := by simp [jD, yB, vF]
 rw [this]
 dsimp only
 rw [h2, if_neg (by simp [rB])]
theorem yT : ∀ (n : Nat) (l : List UInt8), l.length <= n -> (∀ c ∈ l, c.toNat < 128) -> fH n l = true
 | 0, l, h, _ => by have : l = [] := List.length_eq_zero_iff.mp (by omega); subst this; rfl
 | n + 1, [], _, _ => rfl
 | n + 1, c :: l, h, hc => by
  unfold fH
  dsimp only
  rw [dM (hc c (by simp)) l]; exact yT n l (by simp at h; omega) fun d hd => hc d (by simp [hd])
theorem aBn {l : List UInt8} (h : ∀ c ∈ l, c.toNat < 128) : lE l = true := yT _ l (Nat.le_refl _) h
def aCU (c : UInt8) : Bool := decide (97 <= c.toNat /\ c.toNat <= 122)
theorem eM {c : UInt8} (h : aCU c = true) : rR c = true /\ lD c = true /\ uD c = false /\ c.toNat < 128 /\ c ≠ 39 /\ c ≠ 46 /\ c.toNat ≠ 92 /\ 32 <= c.toNat /\ pF c.toNat = [c] := by
 have := wC (fun c => !aCU c || (rR c && lD c && !uD c && decide (c.toNat < 128) && decide (c ≠ 39) && decide (c ≠ 46) && decide (c.toNat ≠ 92) && decide (32 <= c.toNat) && (pF c.toNat == [c]))) (by decide +kernel) c
 simp [h] at this
 simp [this]
theorem aCV {l : List UInt8} (h : l.all aCU = true) : lE l = true :=
 aBn fun c hc => (eM (List.all_eq_true.mp h c hc)).2.2.2.1
theorem zT {p : UInt8 -> Bool} : ∀ {l : List UInt8}, l.all p = true -> l.takeWhile p = l /\ l.dropWhile p = []
 | [], _ => ⟨rfl, rfl⟩
 | c :: l, h => by
  simp only [List.all_cons, Bool.and_eq_true] at h; obtain ⟨i1, i2⟩ := zT h.2; rw [List.takeWhile_cons, List.dropWhile_cons, h.1, if_pos rfl, if_pos rfl, i1, i2]; exact ⟨rfl, rfl⟩
theorem aU (p : UInt8 -> Bool) (l : List UInt8) : eE p l <+: l /\ (∀ c, (eE p l).getLast? = some c -> p c = false) := by
 unfold eE
 constructor
 ·have := (List.dropWhile_suffix p (l := l.reverse)); have := List.reverse_prefix.mpr this
  simpa using this
 ·intro c hc; rw [List.getLast?_reverse] at hc
  match hd : l.reverse.dropWhile p with
  | [] => rw [hd] at hc; cases hc
  | x :: xs =>
   rw [hd] at hc; have : x = c := by simpa using hc
   subst this; have := List.head?_dropWhile_not p l.reverse; rw [hd] at this
   simpa using this
theorem aEG {neg : Bool} {d : List UInt8} {exp : Int} (h1 : d.length <= 40) (h2 : d.all bB = true) (h3 : -300 <= exp) (h4 : exp <= 300) : ∃ x, sE neg d exp = .ok x := by
 unfold sE
 dsimp only
 have hd : d.dropWhile wE <:+ d := List.dropWhile_suffix wE; obtain ⟨hp, hl⟩ := aU wE (d.dropWhile wE); have hn : (d.dropWhile wE).length <= 40 := Nat.le_trans hd.length_le h1; have hm := hp.length_le
 by_cases h0 : eE wE (d.dropWhile wE) = []
 ·rw [if_pos h0]; exact ⟨_, rfl⟩
 ·rw [if_neg h0, if_pos]
  ·exact ⟨_, rfl⟩
  ·unfold Dcm.sane Dcm.high; rw [if_neg h0]; simp only [Bool.and_eq_true, decide_eq_true_eq]; refine ⟨⟨⟨⟨by omega, ?_⟩, by omega, by omega⟩, ?_⟩, ?_⟩
   ·rw [List.all_eq_true]; intro c hc; exact List.all_eq_true.mp h2 c (hd.subset (hp.subset hc))
   ·intro hc; have := List.head?_dropWhile_not wE d; obtain ⟨t, ht⟩ := hp
    match hx : eE wE (d.dropWhile wE), h0 with
    | y :: ys, _ =>
     rw [hx] at hc ht; rw [<- ht] at this; have e : y = 48 := by simpa using hc
     subst e
     simp [wE] at this
   ·intro hc; have := hl 48 hc
    simp [wE] at this
theorem aCW (v : Int) (h1 : -9007199254740991 <= v) (h2 : v <= 9007199254740991) : ∃ (u : Nat), u <= 9007199254740991 /\ (Lib.itoa v = Lib.decDigits u ∨ Lib.itoa v = 45 :: Lib.decDigits u) := by
 by_cases hv : v < 0
 ·refine ⟨v.natAbs, by omega, .inr ?_⟩; have : v = -(v.natAbs : Int) := by omega
  conv => lhs; rw [this]
  exact Lib.itoa_neg _ (by omega)
 ·refine ⟨v.toNat, by omega, .inl ?_⟩; have : v = (v.toNat : Int) := by omega
  conv => lhs; rw [this]
  exact Lib.itoa_nonneg _
theorem aBZ (u : Nat) : ∃ c l, Lib.decDigits u = c :: l /\ bB c = true /\ l.all bB = true /\ ¬ (1 < (c :: l).length /\ gA 48 (c :: l) = true) := by
 obtain ⟨i1, i2, i3, i4, i5⟩ := qP u
 match hd : Lib.decDigits u, i2 with
 | c :: l, _ =>
  rw [hd] at i1; simp only [List.all_cons, Bool.and_eq_true] at i1; refine ⟨c, l, rfl, i1.1, i1.2, fun hh => ?_⟩
  by_cases h0 : 0 < u
  ·rw [hd] at i4; rw [i4 h0] at hh; exact absurd hh.2 (by simp)
  ·have := i5 0 (by omega); rw [hd] at this; omega
theorem aGQ {u : Nat} (h : u <= 9007199254740991) : (Lib.decDigits u).length <= 16 := (qP u).2.2.2.2 15 (by have := rS; omega)
theorem fM {c : UInt8} (h : bB c = true) : rR c = false /\ uD c = false /\ c ≠ 45 /\ c.toNat ≠ 45 /\ c ≠ 61 /\ c ≠ 46 := by
 have := wC (fun c => !bB c || (!rR c && !uD c && decide (c ≠ 45) && decide (c.toNat ≠ 45) && decide (c ≠ 61) && decide (c ≠ 46))) (by decide +kernel) c
 simp [h] at this
 simp [this]
theorem bU (neg : Bool) {d : List UInt8} (h1 : d.length <= 40) (h2 : d.all bB = true) (h3 : d ≠ []) (h4 : ¬ (1 < d.length /\ gA 48 d = true)) : ∃ x, xE (if neg then 45 :: d else d) = .ok x := by
 obtain ⟨x, hx⟩ := aEG (neg := neg) (exp := 0) h1 h2 (by decide) (by decide); refine ⟨x, ?_⟩; obtain ⟨e1, e2⟩ := zT h2
 have hneg : gA 45 (if neg then 45 :: d else d) = neg := by
  cases neg
  ·match d, h3 with
   | c :: l, _ =>
    simp only [List.all_cons, Bool.and_eq_true] at h2; have := (fM h2.1).2.2.1
    simp [gA, this]
  ·rfl
 have hs : (if neg then (if neg then 45 :: d else d).drop 1 else (if neg then 45 :: d else d)) = d := by cases neg <;> rfl
 have hlen : ¬ 1000 < (if neg then 45 :: d else d).length := by cases neg <;> simp <;> omega
 have h4' : (decide (1 < d.length) && gA 48 d) = false := by
  rw [Bool.eq_false_iff]; intro h; simp only [Bool.and_eq_true, decide_eq_true_eq] at h; exact h4 h
 have h3' : d.isEmpty = false := by cases d with | nil => exact absurd rfl h3 | cons _ _ => rfl
 unfold xE; rw [if_neg hlen]; simp only [hneg, hs, e1, e2, h4', h3']
 simp [gA, lK, hx]
def vO : List UInt8 -> Bool
 | [] => true
 | c :: _ => !bB c && !eB c && !(c.toNat == 43) && !(c.toNat == 45) && !(c.toNat == 46)
theorem oR {l : List UInt8} (h : vO l = true) (p : Option UInt8) : pA p l = 0 := by
 match l with
 | [] => cases p <;> rfl
 | c :: l =>
  simp only [vO, Bool.and_eq_true, Bool.not_eq_true'] at h; obtain ⟨⟨⟨⟨a1, a2⟩, a3⟩, a4⟩, a5⟩ := h; unfold pA
  simp [a1, a2, a3, a4, a5]
theorem lI : ∀ (d r : List UInt8) (p : Option UInt8), d.all bB = true -> vO r = true -> pA p (d ++ r) = d.length
 | [], r, p, _, h => by simpa using oR h p
 | c :: d, r, p, hd, h => by
  simp only [List.all_cons, Bool.and_eq_true] at hd; have ih := lI d r (some c) hd.2 h; rw [List.cons_append]; unfold pA; rw [hd.1, Bool.true_or, Bool.true_or, Bool.true_or, if_pos rfl, ih, List.length_cons]
theorem aCX {a : Nat} {v : Int} {r : List UInt8} {ts : List Tkn} (h1 : -9007199254740991 <= v) (h2 : v <= 9007199254740991) (hr : vO r = true) (h : dE (a + (Lib.itoa v).length) r ts) :
  ∃ d, dE a (Lib.itoa v ++ r) (⟨3, [], d, a, a + (Lib.itoa v).length⟩ :: ts) := by
 obtain ⟨u, hu, hi⟩ := aCW v h1 h2; obtain ⟨c, l, e, k1, k2, k3⟩ := aBZ u; have hl := aGQ hu; have hall : (c :: l).all bB = true := by simp [k1, k2]
 rw [e] at hi hl; rcases hi with hi | hi
 ·rw [hi] at h ⊢; obtain ⟨x, hx⟩ := bU false (d := c :: l) (by omega) hall (by simp) k3; refine ⟨x, ?_⟩; refine fC (u := l) (fM k1).2.1 ?_ rfl (by decide) h; have hn : pA none (c :: (l ++ r)) = (c :: l).length := lI (c :: l) r none hall hr; unfold gB
  dsimp only
  rw [(fM k1).1, if_neg (by simp), k1, Bool.true_or, if_pos rfl, hn]; have : List.take (c :: l).length (c :: (l ++ r)) = c :: l := by simp
  rw [this]; simp only [Bool.false_eq_true, if_false] at hx; rw [hx]
 ·rw [hi] at h ⊢; obtain ⟨x, hx⟩ := bU true (d := c :: l) (by omega) hall (by simp) k3; refine ⟨x, ?_⟩; refine fC (c := 45) (u := c :: l) rfl ?_ rfl (by decide) h
  have hn : pA none (45 :: (c :: l ++ r)) = (c :: l).length + 1 := by
   have := lI (c :: l) r (some 45) hall hr; unfold pA; rw [this]
   rfl
  unfold gB
  dsimp only
  rw [hn, if_neg (show ¬ rR 45 = true by decide), if_pos (show (bB 45 || ((45 : UInt8).toNat == 45 && cG (c :: l ++ r))) = true by simp [cG, k1])]; have : List.take ((c :: l).length + 1) (45 :: (c :: l ++ r)) = 45 :: c :: l := by simp
  rw [this]; simp only [if_true] at hx; rw [hx]
  rfl
theorem aCY {l : List UInt8} {ts : List Tkn} (h : dE 0 l ts) (hl : l.length <= 8192) : vD l = .ok ts := by
 unfold vD; rw [if_neg (by omega)]; exact h _ (Nat.lt_succ_self _)
theorem aCZ {l : List UInt8} {ts : List Tkn} {q : Qry} {m : Int} (h : vD l = .ok ts) (hq : xR l ts = some (q, m)) (hm : m <= 32) (ht : q.typed = true) (hp : q.parts <= 512) : qD l = .ok q := by
 unfold qD; rw [h]
 dsimp only
 rw [hq]
 dsimp only
 rw [if_neg (by omega), ht, if_neg (by simp), if_neg (by omega)]
def iG (h : Bool) (v : Int) : List UInt8 := if h = true then Lib.itoa v else []
def fR (h : Bool) (d : Dcm) (a t : Nat) : List Tkn := if h = true then [⟨3, [], d, a, t⟩] else []
theorem gS {txt r : List UInt8} {ts : List Tkn} {a : Nat} {h : Bool} {v : Int} (ht : txt.drop a = iG h v ++ r) (h1 : -9007199254740991 <= v) (h2 : v <= 9007199254740991) (hs : vO r = true)
  (hk : ∀ t ∈ ts.head?, t.kind ≠ 3) (hr : dE (a + (iG h v).length) r ts) :
  ∃ d, dE a (iG h v ++ r) (fR h d a (a + (iG h v).length) ++ ts) /\ ∀ m, cB txt ⟨fR h d a (a + (iG h v).length) ++ ts, m⟩ = (if h = true then v else 0, h, ⟨ts, m⟩) := by
 match h with
 | false =>
  refine ⟨.zero, by simpa [iG, fR] using hr, fun m => ?_⟩; unfold cB
  match ts with
  | [] => rfl
  | t :: ts =>
   have := hk t (by simp)
   simp [fR, QS.peek, this]
 | true =>
  simp only [iG, if_true] at ht hr ⊢; obtain ⟨d, hd⟩ := aCX h1 h2 hs hr; refine ⟨d, by simpa [fR] using hd, fun m => ?_⟩
  have hw : eJ ((txt.drop a).take (a + (Lib.itoa v).length - a)) = some v := by
   rw [ht, Nat.add_sub_cancel_left, List.take_left]; exact fY rfl h1 h2
  unfold cB; simp only [fR, if_true, List.cons_append, List.nil_append, QS.peek, hw, QS.go, List.drop_succ_cons, List.drop_zero]
theorem aAa (h : Bool) (v : Int) (r : List UInt8) (hr : gA 61 r = false) : gA 61 (iG h v ++ r) = false := by
 cases h with
 | false => exact hr
 | true =>
  unfold iG; rw [if_pos rfl]; unfold Lib.itoa
  by_cases hv : v < 0
  ·rw [if_pos hv]; rfl
  ·rw [if_neg hv]; obtain ⟨c, l, e, k1, _, _⟩ := aBZ v.toNat; rw [e]; have := (fM k1).2.2.2.2.1
   simp [gA, this]
theorem bI (x : List UInt8) (d : Dcm) (a b : Nat) (l : List Tkn) (m : Int) : QS.next ⟨⟨4, x, d, a, b⟩ :: l, m⟩ x = true := by simp [QS.next, QS.peek]
def aEH (txt : List UInt8) (n : Int) (has : Bool) (bv : Int) (bh : Bool) (s : QS) : Option (Slr × QS) :=
 if s.next [58] = true then some (.ofSlice (has, bh, (cB txt s.go).2.1) (n, bv, (cB txt s.go).1), (cB txt s.go).2.2) else some (.ofSlice (has, bh, false) (n, bv, 0), s)
end
end Go.Proofs.YtbggkiebfflcdaaGreatDoor
