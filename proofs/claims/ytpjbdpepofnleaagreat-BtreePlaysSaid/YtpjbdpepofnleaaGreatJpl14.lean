/-
  Joined by join.py: Oc Od Oe
-/
import Derived.Test.YtpjbdpepofnleaaGreatJpl13
set_option maxRecDepth 100000
set_option maxHeartbeats 32000000
namespace Go.Proofs.YtpjbdpepofnleaaGreat
section
open Go.RowKit Go.Sort Go.Shelf
theorem BytesAt.frD {S : List Nat} {w w' : World} {v : Value} {bs : List UInt8} {g : Nat} (h : BytesAt w v bs g) (hf : Fr S w w') (hS : g ∈ S -> w.heap.size <= g) : BytesAt w' v bs g := by
 by_cases hg : g ∈ S
 ·have hge := hS hg; obtain ⟨A, c, off, hv, hc, hb⟩ := h; refine ⟨A, c, off, hv, hc, fun h0 => ?_⟩
  exfalso
  obtain ⟨_, hcell⟩ := hb h0; obtain ⟨u, hu⟩ : ∃ u, (bcells bs)[0]? = some u := gx (by rw [bcells_len]; exact h0); have := World.block_lt_of_cell? w _ (hcell 0 u hu)
  simp only at this
  omega
 ·exact h.fr hf hg
def ItC (D : Nat -> Prop) (w : World) (x : It) (kv vv av : Value) : Prop := (∃ g, BytesAt w kv x.key g /\ D g) /\ (∃ g, BytesAt w vv x.v g /\ D g) /\ av = .int .i64 (x.at_ : Int)
def ItsC (D : Nat -> Prop) (w : World) : List It -> List Value -> Prop
 | [], [] => True
 | x :: l, kv :: vv :: av :: cs => ItC D w x kv vv av /\ ItsC D w l cs
 | _, _ => False
def kindOf (n : Nd) : Int := if n.lf then 1 else 2
def NdV (D : Nat -> Prop) (w : World) (base : Nat) (v : Value) (n : Nd) : Prop :=
 ∃ sv cs, v = .agg #[.int .i64 (kindOf n), .int .i64 (n.first : Int), sv] /\ w.ownsRow base 77 3 sv n.l.length cs /\ ItsC (fun q => D q /\ sv.ownBlock ≠ some q) w n.l cs /\ ∀ g, sv.ownBlock = some g -> D g
section
variable {D D' : Nat -> Prop} {w w' : World}
theorem ItC.fr {S : List Nat} {x : It} {kv vv av : Value} (h : ItC D w x kv vv av) (hf : Fr S w w') (hS : ∀ g, D g -> g ∈ S -> w.heap.size <= g) : ItC D w' x kv vv av := by
 obtain ⟨⟨g1, h1, d1⟩, ⟨g2, h2, d2⟩, h3⟩ := h; exact ⟨⟨g1, h1.frD hf (hS g1 d1), d1⟩, ⟨g2, h2.frD hf (hS g2 d2), d2⟩, h3⟩
theorem ItC.weak {x : It} {kv vv av : Value} (h : ItC D w x kv vv av) (hD : ∀ g, D g -> D' g) : ItC D' w x kv vv av := by
 obtain ⟨⟨g1, h1, d1⟩, ⟨g2, h2, d2⟩, h3⟩ := h; exact ⟨⟨g1, h1, hD g1 d1⟩, ⟨g2, h2, hD g2 d2⟩, h3⟩
theorem ItC.one {x : It} {kv vv av : Value} (h : ItC D w x kv vv av) : Three [kv, vv, av] := by
 obtain ⟨⟨g1, ⟨_, _, _, rfl, _⟩, _⟩, ⟨g2, ⟨_, _, _, rfl, _⟩, _⟩, rfl⟩ := h; intro u hu; simp only [List.mem_cons, List.not_mem_nil, or_false] at hu; rcases hu with rfl | rfl | rfl <;> rfl
theorem ItsC.fr {S : List Nat} (hf : Fr S w w') (hS : ∀ g, D g -> g ∈ S -> w.heap.size <= g) : ∀ {l : List It} {cs : List Value}, ItsC D w l cs -> ItsC D w' l cs
 | [], [], _ => trivial
 | _x :: _l, _kv :: _vv :: _av :: _cs, h => ⟨h.1.fr hf hS, ItsC.fr hf hS h.2⟩
 | [], _ :: _, h => h.elim
 | _ :: _, [], h => h.elim
 | _ :: _, [_], h => h.elim
 | _ :: _, [_, _], h => h.elim
theorem ItsC.weak (hD : ∀ g, D g -> D' g) : ∀ {l : List It} {cs : List Value}, ItsC D w l cs -> ItsC D' w l cs
 | [], [], _ => trivial
 | _x :: _l, _kv :: _vv :: _av :: _cs, h => ⟨h.1.weak hD, ItsC.weak hD h.2⟩
 | [], _ :: _, h => h.elim
 | _ :: _, [], h => h.elim
 | _ :: _, [_], h => h.elim
 | _ :: _, [_, _], h => h.elim
theorem ItsC.len : ∀ {l : List It} {cs : List Value}, ItsC D w l cs -> cs.length = l.length * 3
 | [], [], _ => rfl
 | x :: l, kv :: vv :: av :: cs, h => by have := ItsC.len h.2; simp only [List.length_cons]; omega
 | [], _ :: _, h => h.elim
 | _ :: _, [], h => h.elim
 | _ :: _, [_], h => h.elim
 | _ :: _, [_, _], h => h.elim
theorem ItsC.one : ∀ {l : List It} {cs : List Value}, ItsC D w l cs -> Three cs
 | [], [], _ => fun u hu => by cases hu
 | x :: l, kv :: vv :: av :: cs, h => fun u hu => by
  have h1 := h.1.one; have h2 := ItsC.one h.2; rcases List.mem_cons.1 hu with rfl | hu
  ·exact h1 _ (by simp)
  ·rcases List.mem_cons.1 hu with rfl | hu
   ·exact h1 _ (by simp)
   ·rcases List.mem_cons.1 hu with rfl | hu
    ·exact h1 _ (by simp)
    ·exact h2 u hu
 | [], _ :: _, h => h.elim
 | _ :: _, [], h => h.elim
 | _ :: _, [_], h => h.elim
 | _ :: _, [_, _], h => h.elim
theorem ItsC.append : ∀ {l l2 : List It} {cs cs2 : List Value}, ItsC D w l cs -> ItsC D w l2 cs2 -> ItsC D w (l ++ l2) (cs ++ cs2)
 | [], _, [], _, _, h2 => h2
 | _x :: _l, _, _kv :: _vv :: _av :: _cs, _, h, h2 => ⟨h.1, ItsC.append h.2 h2⟩
 | [], _, _ :: _, _, h, _ => h.elim
 | _ :: _, _, [], _, h, _ => h.elim
 | _ :: _, _, [_], _, h, _ => h.elim
 | _ :: _, _, [_, _], _, h, _ => h.elim
theorem ItsC.take : ∀ (k : Nat) {l : List It} {cs : List Value}, ItsC D w l cs -> ItsC D w (l.take k) (cs.take (3 * k)) /\ ItsC D w (l.drop k) (cs.drop (3 * k))
 | 0, _, _, h => ⟨by simp [ItsC], h⟩
 | k + 1, [], [], _ => by simp [ItsC]
 | k + 1, x :: l, kv :: vv :: av :: cs, h => by
  obtain ⟨h1, h2⟩ := ItsC.take k h.2; rw [show 3 * (k + 1) = 3 * k + 1 + 1 + 1 by omega]; simp only [List.take_succ_cons, List.drop_succ_cons]; exact ⟨⟨h.1, h1⟩, h2⟩
 | _, [], _ :: _, h => h.elim
 | _, _ :: _, [], h => h.elim
 | _, _ :: _, [_], h => h.elim
 | _, _ :: _, [_, _], h => h.elim
theorem ItsC.at_ : ∀ {l : List It} {cs : List Value} {k : Nat} {x : It}, ItsC D w l cs -> l[k]? = some x -> ∃ kv vv av, cs[k * 3]? = some kv /\ cs[k * 3 + 1]? = some vv /\ cs[k * 3 + 2]? = some av /\ ItC D w x kv vv av
 | x :: l, kv :: vv :: av :: cs, 0, y, h, hk => by
  simp only [List.getElem?_cons_zero, Option.some.injEq] at hk; subst hk; exact ⟨kv, vv, av, rfl, rfl, rfl, h.1⟩
 | x :: l, kv :: vv :: av :: cs, k + 1, y, h, hk => by
  obtain ⟨a, b, c, h1, h2, h3, h4⟩ := ItsC.at_ (k := k) h.2 (by simpa using hk); refine ⟨a, b, c, ?_, ?_, ?_, h4⟩
  ·rw [show (k + 1) * 3 = k * 3 + 1 + 1 + 1 by omega]; simpa using h1
  ·rw [show (k + 1) * 3 + 1 = k * 3 + 1 + 1 + 1 + 1 by omega]; simpa using h2
  ·rw [show (k + 1) * 3 + 2 = k * 3 + 2 + 1 + 1 + 1 by omega]; simpa using h3
 | [], [], _, _, _, hk => by simp at hk
 | [], _ :: _, _, _, h, _ => h.elim
 | _ :: _, [], _, _, h, _ => h.elim
 | _ :: _, [_], _, _, h, _ => h.elim
 | _ :: _, [_, _], _, _, h, _ => h.elim
theorem NdV.fr {S : List Nat} {base : Nat} {v : Value} {n : Nd} (h : NdV D w base v n) (hf : Fr S w w') (hS : ∀ g, D g -> g ∈ S -> w.heap.size <= g) : NdV D w' base v n := by
 obtain ⟨sv, cs, h1, h2, h3, h4⟩ := h; refine ⟨sv, cs, h1, own_fr h2 hf (fun g hg hm => ?_), h3.fr hf (fun g hg => hS g hg.1), h4⟩; have := own_lt h2 g hg; have := hS g (h4 g hg) hm; omega
theorem NdV.weak {base : Nat} {v : Value} {n : Nd} (h : NdV D w base v n) (hD : ∀ g, D g -> D' g) : NdV D' w base v n := by
 obtain ⟨sv, cs, h1, h2, h3, h4⟩ := h; exact ⟨sv, cs, h1, h2, h3.weak (fun g hg => ⟨hD g hg.1, hg.2⟩), fun g hg => hD g (h4 g hg)⟩
theorem BytesAt.re {v : Value} {bs : List UInt8} (h : ∃ g, BytesAt w v bs g /\ D g) (hD : ∀ q, D q -> q < w.heap.size -> D' q) (h0 : ∃ q, D' q) : ∃ g, BytesAt w v bs g /\ D' g := by
 obtain ⟨g, hb, hd⟩ := h; obtain ⟨A, c, off, hv, hc, hcell⟩ := id hb
 by_cases hn : 0 < bs.length
 ·obtain ⟨_, hc2⟩ := hcell hn; obtain ⟨u, hu⟩ : ∃ u, (bcells bs)[0]? = some u := gx (by rw [bcells_len]; exact hn); have := World.block_lt_of_cell? w _ (hc2 0 u hu); exact ⟨g, hb, hD g hd this⟩
 ·obtain ⟨q, hq⟩ := h0; exact ⟨q, ⟨A, c, off, hv, hc, fun h => absurd h hn⟩, hq⟩
theorem ItC.re {x : It} {kv vv av : Value} (h : ItC D w x kv vv av) (hD : ∀ q, D q -> q < w.heap.size -> D' q) (h0 : ∃ q, D' q) : ItC D' w x kv vv av := ⟨BytesAt.re h.1 hD h0, BytesAt.re h.2.1 hD h0, h.2.2⟩
theorem ItsC.re (hD : ∀ q, D q -> q < w.heap.size -> D' q) (h0 : ∃ q, D' q) : ∀ {l : List It} {cs : List Value}, ItsC D w l cs -> ItsC D' w l cs
 | [], [], _ => trivial
 | _x :: _l, _kv :: _vv :: _av :: _cs, h => ⟨h.1.re hD h0, ItsC.re hD h0 h.2⟩
 | [], _ :: _, h => h.elim
 | _ :: _, [], h => h.elim
 | _ :: _, [_], h => h.elim
 | _ :: _, [_, _], h => h.elim
theorem own_base {b b' : Nat} {e : TypeId} {size n : Nat} {v : Value} {xs : List Value} (h : w.ownsRow b e size v n xs) (hb : ∀ g, v.ownBlock = some g -> b' <= g) : w.ownsRow b' e size v n xs := by
 refine ⟨h.1, ?_⟩; rcases h.2 with h2 | ⟨g, cap, cur, rfl, _, r⟩
 ·exact .inl h2
 ·exact .inr ⟨g, cap, cur, rfl, hb g rfl, r⟩
end
theorem half16_any {w : World} {v : Value} {bs : List UInt8} {g : Nat} (h : BytesAt w v bs g) (h2 : 2 <= bs.length) :
  Calls Tryz.prog 85 #[v] w fun e w' => e = .returned (.int .i64 ((r16 bs : Nat) : Int)) /\ ∃ m, w' = w.drewN m := by
 obtain ⟨A, c, off, rfl, hc, hb⟩ := h; obtain ⟨rfl, hb'⟩ := hb (by omega)
 match bs, h2 with
 | u :: v :: r, _ =>
  have c0 : w.cell? ⟨g, off, none⟩ = some (.int .u8 (u.toNat : Int)) := hb' 0 (B8 u) rfl; have c1 : w.cell? ⟨g, off + 1, none⟩ = some (.int .u8 (v.toNat : Int)) := hb' 1 (B8 v) rfl; have hub : u.toNat < 256 := u.toNat_lt; have hvb : v.toNat < 256 := v.toNat_lt; have hor := or_i64 u.toNat v.toNat hub hvb; have HOR := lh hor; have hn : 2 <= (u :: v :: r).length := by simp
  generalize (u :: v :: r).length = n at hn hc ⊢; have hn0 : (0 : Int) < (n : Int) := by omega
  have hn1 : (1 : Int) < (n : Int) := by omega
  clear hor hb hb'
  go_enter Tryz.func85, Tryz.ntmps85
  go_wp2
  go_quiet (fail)
  go_wp2
  go_ret
  refine ⟨?_, _, rfl⟩
  show Ending.returned (.int .i64 (bits .or .i64 ((u.toNat : Int) * 256) (v.toNat : Int))) = _
  rw [HOR.out]
  rfl
def Rd (w : World) (rb g : Nat) (rest : List UInt8) : Prop :=
 ∃ off c, Blk w rb 183 [.slice (some ⟨g, off, none⟩) rest.length c, .bool false] /\ rest.length <= c /\ ∀ (j : Nat) (u : Value), (bcells rest)[j]? = some u -> w.cell? ⟨g, off + j, none⟩ = some u
theorem take_rd {w : World} {rb g k : Nat} {rest : List UInt8} (h : Rd w rb g rest) (hk : k <= rest.length) (hg : g ≠ rb) :
  Calls Tryz.prog 108 #[.pointer (some ⟨rb, 0, none⟩), .int .i64 (k : Int)] w fun e w' => ∃ v, e = .returned v /\ BytesAt w' v (rest.take k) g /\ Rd w' rb g (rest.drop k) /\ Fr [rb] w w' /\ w'.heap.size = w.heap.size := by
 obtain ⟨off, c, hb, hc, hcell⟩ := h; have c0 := hb.at_ (i := 0) rfl; have c1 := hb.at_ (i := 1) rfl; have hfz := hb.free; have hlt := hb.lt; have HB := lh hb; have HC := lh hcell; clear hb hcell; obtain ⟨n, hn⟩ := nm (rest.length); rw [<- hn] at hc hk c0
 have fin : ∀ off' c', (n = k ∨ off' = off + k) -> n - k <= c' -> BytesAt (w.setCell ⟨rb, 0, none⟩ (.slice (some ⟨g, off', none⟩) (n - k) c')) (.slice (some ⟨g, off, none⟩) k c) (rest.take k) g /\ Rd (w.setCell ⟨rb, 0, none⟩ (.slice (some ⟨g, off', none⟩) (n - k) c')) rb g (rest.drop k) := fun off' c' ho h1 => by
  have hf : Fr [rb] w (w.setCell ⟨rb, 0, none⟩ (.slice (some ⟨g, off', none⟩) (n - k) c')) := (Fr.refl [rb] w).setCell (.inl (by simp)) _
  have keep : ∀ (j : Nat) (u : Value), (bcells rest)[j]? = some u -> (w.setCell ⟨rb, 0, none⟩ (.slice (some ⟨g, off', none⟩) (n - k) c')).cell? ⟨g, off + j, none⟩ = some u := fun j u hj => by
   rw [hf.cell (World.block_lt_of_cell? w _ (HC.out j u hj)) (by simpa using hg)]; exact HC.out j u hj
  refine ⟨⟨_, c, off, by rw [List.length_take, Nat.min_eq_left (by omega)], by rw [List.length_take]; omega, fun _ => ⟨rfl, fun j u hj => keep j u ?_⟩⟩, off', c', ?_, by rw [List.length_drop]; omega, fun j u hj => ?_⟩
  ·rw [bcells, List.map_take] at hj; rw [List.getElem?_take] at hj
   split at hj
   ·exact hj
   ·cases hj
  ·have := HB.out.set_ 0 (.slice (some ⟨g, off', none⟩) (n - k) c'); rw [List.length_drop, <- hn]; exact this
  ·rcases ho with ho | rfl
   ·rw [List.drop_of_length_le (by omega)] at hj; cases hj
   ·rw [bcells, List.map_drop, List.getElem?_drop] at hj; rw [Nat.add_assoc]; exact keep (k + j) u hj
 have FIN := lh fin; have hk1 : ¬ ((n : Int) < (k : Int)) := by omega
 have hk2 : (k : Int) <= (c : Int) := by omega
 have hk3 : (k : Int) <= (n : Int) := by omega
 clear fin
 by_cases hck : c = k
 ·obtain rfl : n = k := by omega
  subst hck
  go_enter Tryz.func108, Tryz.ntmps108
  go_wp2
  go_ret
  obtain ⟨f1, f2⟩ := FIN.out off 0 (.inl (by first | rfl | trivial)) (by omega); rw [Nat.sub_self] at f1 f2; subst hn; exact ⟨_, rfl, by simpa using f1, by simpa using f2, (Fr.refl [rb] w).setCell (.inl (by simp)) _, by simp [World.setCell]⟩
 ·go_enter Tryz.func108, Tryz.ntmps108
  go_wp2
  go_ret
  obtain ⟨f1, f2⟩ := FIN.out (off + k) (c - k) (.inr rfl) (by omega); subst hn; exact ⟨_, rfl, f1, f2, (Fr.refl [rb] w).setCell (.inl (by simp)) _, by simp [World.setCell]⟩
theorem Rd.fr {S : List Nat} {w w' : World} {rb g : Nat} {rest : List UInt8} (h : Rd w rb g rest) (hf : Fr S w w') (h1 : rb ∉ S) (h2 : g ∉ S) : Rd w' rb g rest := by
 obtain ⟨off, c, k1, k2, k4⟩ := h; exact ⟨off, c, k1.fr hf h1, k2, fun j u hj => by rw [hf.cell (World.block_lt_of_cell? w _ (k4 j u hj)) h2]; exact k4 j u hj⟩
theorem one_rd {w : World} {rb g : Nat} {x : UInt8} {rest : List UInt8} (h : Rd w rb g (x :: rest)) (hg : g ≠ rb) :
  Calls Tryz.prog 107 #[.pointer (some ⟨rb, 0, none⟩)] w fun e w' => e = .returned (.int .i64 (x.toNat : Int)) /\ Rd w' rb g rest /\ Fr [rb] w w' /\ w'.heap.size = w.heap.size := by
 have HT := lh (take_rd (k := 1) h (by simp) hg); clear h; refine calls_post fun R HQ => ?_
 go_enter Tryz.func107, Tryz.ntmps107
 go_wp2_with fail; refine HT.out.mono ?_; rintro e w1 ⟨v, rfl, hb, hr, hf, hz⟩; obtain ⟨A, c, off, rfl, hc, hcell⟩ := hb; obtain ⟨rfl, hc0⟩ := hcell (by simp); have k0 := hc0 0 (B8 x) rfl; rw [Nat.add_zero] at k0; have HQ1 : Hid (R (.returned (.int .i64 (x.toNat : Int))) w1) := lh (HQ.out _ _ ⟨rfl, hr, hf, hz⟩); have hx : x.toNat < 256 := x.toNat_lt; unfold B8 at k0; rw [show (List.take 1 (x :: rest)).length = 1 from rfl] at hc ⊢; clear hcell hc0 hr hf hz HT
 go_wp2
 exact HQ1.out
section
variable {P : Program} {ops : Array Oper} {rest : List Oper} {o : Oper} {a : Act} {w : World} {Q : Exit -> Act -> World -> Prop}
theorem wpL_load {g : Nat} {t' : TypeId} {cs : List Value} {d : TypeDesc} (hgd : o.guard = none) (t : TypeId) (x : Operand) (ho : o.op = .load t x) (hx : a.eval x = .pointer (some ⟨g, 0, none⟩)) (hb : Blk w g t' cs)
  (hu : P.underlying t = some d) (hd : d.isRow = true) (hi : (P.info? t).map (·.size) = some cs.length) (h : wpList P ops Q rest (a.put o.dst (.agg cs.toArray)) w) : wpList P ops Q (o :: rest) a w := by
 have hl := run_loadVar_row (P := P) w g t' t cs.toArray (0, 0) d hb hu (by cases d <;> simp_all) (by simpa using hi); refine wpList_plain hgd fun K hK => ?_; unfold Oper.wp
 simp [execOp, ho, hx, Instr.loadAt, Instr.sureAddr, hl, Result.andThen]
 exact hK _ _ h
theorem wpL_store {g : Nat} {t' : TypeId} {old : List Value} (hgd : o.guard = none) (t : TypeId) (x y : Operand) (ho : o.op = .store t x y) (cs : List Value)
  (hx : a.eval x = .pointer (some ⟨g, 0, none⟩)) (hy : a.eval y = .agg cs.toArray) (hb : Blk w g t' old)
  (hi : (P.info? t).map (·.size) = some cs.length) (hl : old.length = cs.length) (h1 : ∀ v ∈ cs, v.oneCell' = true)
  (h : ∀ w1, Blk w1 g t' cs -> Fr [g] w w1 -> w1.heap.size = w.heap.size -> wpList P ops Q rest (a.put o.dst undef) w1) : wpList P ops Q (o :: rest) a w := by
 refine wpList_plain hgd fun K hK => wp_store_row t x y ho cs hx hy hb hi hl h1 (hK _ _ (h _ (hb.row_ cs) ((Fr.refl _ _).setRow (by simp) _) (by simp [World.setRow])))
end
/-- An item read. -/
theorem item_rd {w : World} {rb g : Nat} {lf : Bool} {x : It} {rest : List UInt8} (h : Rd w rb g (ib lf x ++ rest)) (hx : x.ok lf) (hg : g ≠ rb) (hgl : g < w.heap.size) :
  Calls Tryz.prog 109 #[.pointer (some ⟨rb, 0, none⟩), .int .i64 (if lf then 1 else 2)] w fun e w' => ∃ kv vv, e = .returned (.agg #[kv, vv, .int .i64 (x.at_ : Int)]) /\ ItC (fun q => w.heap.size <= q) w' x kv vv (.int .i64 (x.at_ : Int)) /\ Rd w' rb g rest /\ Fr [rb] w w' := by
 have hrl : rb < w.heap.size := by obtain ⟨_, _, hb, _⟩ := h; exact hb.lt
 obtain ⟨u, hu⟩ := nm (UInt8.ofNat x.key.length); have hku : u.toNat = x.key.length := by rw [hu, UInt8.toNat_ofNat']; have := hx.k2; omega
 refine calls_post fun R HQ => ?_; have hf0 : Fr [] w ((w.alloc (.cells zit.toArray 77)).alloc (.cells zit.toArray 77)) := ((Fr.refl [] w).alloc _).alloc _; have hb4 : Blk ((w.alloc (.cells zit.toArray 77)).alloc (.cells zit.toArray 77)) w.heap.size 77 zit := (Blk.new w _ zit).alloc _
 have hb5 : Blk ((w.alloc (.cells zit.toArray 77)).alloc (.cells zit.toArray 77)) (w.heap.size + 1) 77 zit := by
  have := Blk.new (w.alloc (.cells zit.toArray 77)) 77 zit
  rwa [show (w.alloc (.cells zit.toArray 77)).heap.size = w.heap.size + 1 by simp] at this
 have hz0 : ((w.alloc (.cells zit.toArray 77)).alloc (.cells zit.toArray 77)).heap.size = w.heap.size + 2 := by simp
 have hr0 := h.fr hf0 (by simp) (by simp); have HX := lh hx; clear h hx
 cases lf with
 | true =>
  have e0 : ib true x ++ rest = u :: (UInt8.ofNat x.v.length :: (x.key ++ (x.v ++ rest))) := by rw [hu]; simp [ib]
  obtain ⟨u2, hu2⟩ := nm (UInt8.ofNat x.v.length); have hvu : u2.toNat = x.v.length := by rw [hu2, UInt8.toNat_ofNat']; have := HX.out.v; omega
  rw [e0, <- hu2] at hr0; have HO1 := lh (one_rd hr0 hg); have HF0 := lh hf0; have HB4 := lh hb4; have HB5 := lh hb5; have HZ0 := lh hz0; have HKU := lh hku; have HVU := lh hvu; clear hf0 hb4 hb5 hz0 hr0 e0 hu hu2 hku hvu
  go_enter Tryz.func109, Tryz.ntmps109
  go_wp2_with (with_reducible refine wpList_alloc_z rfl 77 rfl (.agg #[.slice none 0 0, .slice none 0 0, .int .i64 0]) zit.toArray zero_it rfl ?_)
  refine HO1.out.mono ?_; rintro e w1 ⟨rfl, hr1, hf1, hz1⟩; have HO2 := lh (one_rd hr1 hg); have HF1 := lh hf1; have HZ1 := lh hz1; clear hr1 hf1 hz1; go_wp2_with fail; refine HO2.out.mono ?_; rintro e w2 ⟨rfl, hr2, hf2, hz2⟩; have HO3 := lh (take_rd (k := u.toNat) hr2 (by rw [HKU.out, List.length_append]; omega) hg); have HF2 := lh (HF1.out.trans hf2 (by simp)); have HZ2 := lh (hz2.trans HZ1.out); clear hr2 hf2 hz2; go_wp2_with fail; refine HO3.out.mono ?_; rintro e w3 ⟨v3, rfl, hb3, hr3, hf3, hz3⟩; rw [HKU.out, List.take_left] at hb3; rw [HKU.out, List.drop_left] at hr3; have HO4 := lh (bytes_clone hb3 (by have := HX.out.k2; omega)); have HF3 := lh (HF2.out.trans hf3 (by simp)); have HZ3 := lh (hz3.trans HZ2.out); have HR3 := lh hr3; clear hb3 hr3 hf3 hz3; go_wp2_with fail; refine HO4.out.mono ?_; rintro e w4 ⟨_, rfl, ⟨g4, hb4', hg4⟩, hf4⟩; obtain ⟨A4, c4, o4, rfl, hc4, hcc4⟩ := id hb4'; clear hc4 hcc4; have hf04 : Fr [rb] ((w.alloc (.cells zit.toArray 77)).alloc (.cells zit.toArray 77)) w4 := HF3.out.trans hf4 (by simp); have hfw4 : Fr [rb] w w4 := (HF0.out.mono (by simp)).trans hf04 (by simp); have hB5 := HB5.out.fr hf04 (by simp; omega); have hB4 := HB4.out.fr hf04 (by simp; omega); have k50 := hB5.at_ (i := 0) rfl; have hfz := hB5.free; have hl5 := hB5.lt; have hz4 := hf4.size; have hzw : w.heap.size + 2 <= w4.heap.size := by have := HZ3.out; have := HZ0.out; omega
  have HS5 : ∀ vv : Value, Fr [w.heap.size + 1] w4 (w4.setCell ⟨w.heap.size + 1, 0, none⟩ vv) := fun vv => (Fr.refl _ _).setCell (.inl (by simp)) _; have hr4 := (HR3.out.fr hf4 (by simp) (by simp)).fr (HS5 (.slice A4 x.key.length c4)) (by simp; omega) (by simp; omega); have hg4' : w.heap.size + 2 <= g4 := by have := HZ3.out; have := HZ0.out; omega
  have HC4 : Hid (BytesAt (w4.setCell ⟨w.heap.size + 1, 0, none⟩ (.slice A4 x.key.length c4)) (.slice A4 x.key.length c4) x.key g4) := lh (hb4'.fr (HS5 (.slice A4 x.key.length c4)) (by simp; omega)); have HB5' := lh (hB5.set_ 0 (.slice A4 x.key.length c4)); have HB4' := lh (hB4.fr (HS5 (.slice A4 x.key.length c4)) (by simp)); have HF4 := lh (hfw4.setCell (p := ⟨w.heap.size + 1, 0, none⟩) (.inr (by simp)) (.slice A4 x.key.length c4)); have HO5 := lh (take_rd (k := u2.toNat) hr4 (by rw [HVU.out, List.length_append]; omega) hg); have HZ4 : Hid (w.heap.size + 2 <= (w4.setCell ⟨w.heap.size + 1, 0, none⟩ (.slice A4 x.key.length c4)).heap.size) := lh (by simpa [World.setCell] using hzw); clear hf04 hfw4 hB5 hB4 hz4 hzw HS5 hr4 hb4' hg4 hf4 HR3 HF3; go_wp2_with fail; clear k50 hfz hl5; refine HO5.out.mono ?_; rintro e w6 ⟨v6, rfl, hb6, hr6, hf6, hz6⟩; rw [HVU.out, List.take_left] at hb6; rw [HVU.out, List.drop_left] at hr6; have HO6 := lh (bytes_clone hb6 (by have := HX.out.v; omega)); have hg4s : g4 ∉ [rb] := by simp; omega
  have HC6 := lh (HC4.out.fr hf6 hg4s); have HF6 := lh (HF4.out.trans hf6 (by simp)); have HR6 := lh hr6; have HB56 := lh (HB5'.out.fr hf6 (by simp; omega)); have HB46 := lh (HB4'.out.fr hf6 (by simp; omega)); have HZ6 : Hid (w.heap.size + 2 <= w6.heap.size) := lh (by have := HZ4.out; omega); clear hb6 hr6 hf6 hz6 HC4 HF4 HB5' HB4' HZ4 HO5 hg4s; go_wp2_with fail; refine HO6.out.mono ?_; rintro e w7 ⟨_, rfl, ⟨g7, hb7, hg7⟩, hf7⟩; obtain ⟨A7, c7, o7, rfl, hc7, hcc7⟩ := id hb7; clear hc7 hcc7; have hB5 := HB56.out.fr hf7 (by simp); have k51 := hB5.at_ (i := 1) rfl; have hfz := hB5.free; have hl5 := hB5.lt; have hs5 : Fr [w.heap.size + 1] w7 (w7.setCell ⟨w.heap.size + 1, 1, none⟩ (.slice A7 x.v.length c7)) := (Fr.refl _ _).setCell (.inl (by simp)) _; have hzw := HZ6.out; have hg7' : w.heap.size + 2 <= g7 := by omega
  have hz7 := hf7.size; have HB58 : Hid (Blk (w7.setCell ⟨w.heap.size + 1, 1, none⟩ (.slice A7 x.v.length c7)) (w.heap.size + 1) 77 [(.slice A4 x.key.length c4), (.slice A7 x.v.length c7), .int .i64 0]) := lh (hB5.set_ 1 (.slice A7 x.v.length c7)); have HB48 := lh ((HB46.out.fr hf7 (by simp)).fr hs5 (by simp)); have HC8 : Hid (ItC (fun q => w.heap.size + 2 <= q) (w7.setCell ⟨w.heap.size + 1, 1, none⟩ (.slice A7 x.v.length c7)) x (.slice A4 x.key.length c4) (.slice A7 x.v.length c7) (.int .i64 (x.at_ : Int))) := lh ⟨⟨g4, (HC6.out.fr hf7 (by simp)).fr hs5 (by simp; omega), by omega⟩, ⟨g7, hb7.fr hs5 (by simp; omega), by omega⟩, rfl⟩; have HR8 := lh ((HR6.out.fr hf7 (by simp) (by simp)).fr hs5 (by simp; omega) (by simp; omega)); have HF8 := lh ((HF6.out.trans hf7 (by simp)).setCell (p := ⟨w.heap.size + 1, 1, none⟩) (.inr (by simp)) (.slice A7 x.v.length c7)); have hat : x.at_ = 0 := by have := HX.out.bare; simpa using this
  have HT : Hid (Three [(.slice A4 x.key.length c4), (.slice A7 x.v.length c7), .int .i64 0]) := lh (by have := HC8.out.one; rw [hat] at this; exact this); have HAT := lh hat; clear hb7 hf7 hs5 hB5 HC6 HF6 HR6 HB56 HB46 hg7 hat; go_upto_region 9 with fail
  clear k51 hfz hl5
  go_wp2_with (first
   | (refine wpL_load rfl 77 (.tmp 5) rfl rfl HB58.out Tryz.underlying77 rfl size_it ?_)
   | (refine wpL_store rfl 77 (.tmp 4) (.tmp 32) rfl [(.slice A4 x.key.length c4), (.slice A7 x.v.length c7), .int .i64 0] rfl rfl HB48.out size_it rfl HT.out ?_))
  intro w9 hb9 hf9 hz9; have HE : Hid (∃ kv vv, Ending.returned (.agg #[(.slice A4 x.key.length c4), (.slice A7 x.v.length c7), .int .i64 0]) = .returned (.agg #[kv, vv, .int .i64 (x.at_ : Int)]) /\ ItC (fun q => w.heap.size <= q) w9 x kv vv (.int .i64 (x.at_ : Int)) /\ Rd w9 rb g rest /\ Fr [rb] w w9) := lh ⟨(.slice A4 x.key.length c4), (.slice A7 x.v.length c7), by rw [HAT.out]; rfl, (HC8.out.fr hf9 (fun q (hq : w.heap.size + 2 <= q) hm => by have := List.mem_singleton.1 hm; omega)).weak (fun q (hq : w.heap.size + 2 <= q) => by show w.heap.size <= q; omega), HR8.out.fr hf9 (by simp; omega) (by simp; omega), HF8.out.trans hf9 (by simp)⟩; have HB9 := lh hb9; clear hb9 hf9 hz9; go_wp2_with fail; refine ret_blk (g := w.heap.size) (t' := 77) (cs := [(.slice A4 x.key.length c4), (.slice A7 x.v.length c7), .int .i64 0]) (d := _) rfl rfl HB9.out Tryz.underlying77 rfl size_it (HQ.out _ _ HE.out)
 | false =>
  have e0 : ib false x ++ rest = u :: (x.key ++ (b16 x.at_ ++ rest)) := by rw [hu]; simp [ib]
  rw [e0] at hr0; have HO1 := lh (one_rd hr0 hg); have HF0 := lh hf0; have HB4 := lh hb4; have HB5 := lh hb5; have HZ0 := lh hz0; have HKU := lh hku; clear hf0 hb4 hb5 hz0 hr0 e0 hu hku
  go_enter Tryz.func109, Tryz.ntmps109
  go_wp2_with (with_reducible refine wpList_alloc_z rfl 77 rfl (.agg #[.slice none 0 0, .slice none 0 0, .int .i64 0]) zit.toArray zero_it rfl ?_)
  refine HO1.out.mono ?_; rintro e w2 ⟨rfl, hr2, hf2, hz2⟩; have HO3 := lh (take_rd (k := u.toNat) hr2 (by rw [HKU.out, List.length_append]; omega) hg); have HF2 := lh hf2; have HZ2 := lh hz2; clear hr2 hf2 hz2; go_wp2_with fail; refine HO3.out.mono ?_; rintro e w3 ⟨v3, rfl, hb3, hr3, hf3, hz3⟩; rw [HKU.out, List.take_left] at hb3; rw [HKU.out, List.drop_left] at hr3; have HO4 := lh (bytes_clone hb3 (by have := HX.out.k2; omega)); have HF3 := lh (HF2.out.trans hf3 (by simp)); have HZ3 := lh (hz3.trans HZ2.out); have HR3 := lh hr3; clear hb3 hr3 hf3 hz3; go_wp2_with fail; refine HO4.out.mono ?_; rintro e w4 ⟨_, rfl, ⟨g4, hb4', hg4⟩, hf4⟩; obtain ⟨A4, c4, o4, rfl, hc4, hcc4⟩ := id hb4'; clear hc4 hcc4; have hf04 : Fr [rb] ((w.alloc (.cells zit.toArray 77)).alloc (.cells zit.toArray 77)) w4 := HF3.out.trans hf4 (by simp); have hfw4 : Fr [rb] w w4 := (HF0.out.mono (by simp)).trans hf04 (by simp); have hB5 := HB5.out.fr hf04 (by simp; omega); have hB4 := HB4.out.fr hf04 (by simp; omega); have k50 := hB5.at_ (i := 0) rfl; have hfz := hB5.free; have hl5 := hB5.lt; have hz4 := hf4.size; have hzw : w.heap.size + 2 <= w4.heap.size := by have := HZ3.out; have := HZ0.out; omega
  have HS5 : ∀ vv : Value, Fr [w.heap.size + 1] w4 (w4.setCell ⟨w.heap.size + 1, 0, none⟩ vv) := fun vv => (Fr.refl _ _).setCell (.inl (by simp)) _; have hr4 := (HR3.out.fr hf4 (by simp) (by simp)).fr (HS5 (.slice A4 x.key.length c4)) (by simp; omega) (by simp; omega); have hg4' : w.heap.size + 2 <= g4 := by have := HZ3.out; have := HZ0.out; omega
  have HC4 : Hid (BytesAt (w4.setCell ⟨w.heap.size + 1, 0, none⟩ (.slice A4 x.key.length c4)) (.slice A4 x.key.length c4) x.key g4) := lh (hb4'.fr (HS5 (.slice A4 x.key.length c4)) (by simp; omega)); have HB5' := lh (hB5.set_ 0 (.slice A4 x.key.length c4)); have HB4' := lh (hB4.fr (HS5 (.slice A4 x.key.length c4)) (by simp)); have HF4 := lh (hfw4.setCell (p := ⟨w.heap.size + 1, 0, none⟩) (.inr (by simp)) (.slice A4 x.key.length c4)); have HO5 := lh (take_rd (k := 2) hr4 (by rw [List.length_append]; show 2 <= 2 + _; omega) hg); have HZ4 : Hid (w.heap.size + 2 <= (w4.setCell ⟨w.heap.size + 1, 0, none⟩ (.slice A4 x.key.length c4)).heap.size) := lh (by simpa [World.setCell] using hzw); clear hf04 hfw4 hB5 hB4 hz4 hzw HS5 hr4 hb4' hg4 hf4 HR3 HF3; go_wp2_with fail; clear k50 hfz hl5; refine HO5.out.mono ?_; rintro e w6 ⟨v6, rfl, hb6, hr6, hf6, hz6⟩; have et : (b16 x.at_ ++ rest).take 2 = b16 x.at_ := rfl; have ed : (b16 x.at_ ++ rest).drop 2 = rest := rfl; rw [et] at hb6; rw [ed] at hr6; have hr16 : r16 (b16 x.at_) = x.at_ := by have := r16_b16 HX.out.at_ []; rwa [List.append_nil] at this
  have hh := half16_any hb6 (by show 2 <= 2; omega); rw [hr16] at hh; have HO6 := lh hh; have hg4s : g4 ∉ [rb] := by simp; omega
  have HC6 := lh (HC4.out.fr hf6 hg4s); have HF6 := lh (HF4.out.trans hf6 (by simp)); have HR6 := lh hr6; have HB56 := lh (HB5'.out.fr hf6 (by simp; omega)); have HB46 := lh (HB4'.out.fr hf6 (by simp; omega)); have HZ6 : Hid (w.heap.size + 2 <= w6.heap.size) := lh (by have := HZ4.out; omega); clear hb6 hr6 hf6 hz6 HC4 HF4 HB5' HB4' HZ4 HO5 hg4s et ed hr16 hh; go_wp2_with fail; refine HO6.out.mono ?_; rintro e w7 ⟨rfl, q7, hq7⟩; have hf7 : Fr [] w6 w7 := by rw [hq7]; exact (Fr.refl _ _).drewN _
  have hB5 := HB56.out.fr hf7 (by simp); have k51 := hB5.at_ (i := 2) rfl; have hfz := hB5.free; have hl5 := hB5.lt; have hs5 : Fr [w.heap.size + 1] w7 (w7.setCell ⟨w.heap.size + 1, 2, none⟩ (.int .i64 (x.at_ : Int))) := (Fr.refl _ _).setCell (.inl (by simp)) _; have hzw := HZ6.out; have hz7 := hf7.size; have hv0 : x.v = [] := by have := HX.out.bare; simpa using this
  have HB58 : Hid (Blk (w7.setCell ⟨w.heap.size + 1, 2, none⟩ (.int .i64 (x.at_ : Int))) (w.heap.size + 1) 77 [.slice A4 x.key.length c4, .slice none 0 0, .int .i64 (x.at_ : Int)]) := lh (hB5.set_ 2 (.int .i64 (x.at_ : Int))); have HB48 := lh ((HB46.out.fr hf7 (by simp)).fr hs5 (by simp)); have HC8 : Hid (ItC (fun q => w.heap.size + 2 <= q) (w7.setCell ⟨w.heap.size + 1, 2, none⟩ (.int .i64 (x.at_ : Int))) x (.slice A4 x.key.length c4) (.slice none 0 0) (.int .i64 (x.at_ : Int))) := lh ⟨⟨g4, (HC6.out.fr hf7 (by simp)).fr hs5 (by simp; omega), by omega⟩, ⟨w.heap.size + 2, by rw [hv0]; exact BytesAt.nil _ _, by omega⟩, rfl⟩; have HR8 := lh ((HR6.out.fr hf7 (by simp) (by simp)).fr hs5 (by simp; omega) (by simp; omega)); have HF8 := lh ((HF6.out.trans hf7 (by simp)).setCell (p := ⟨w.heap.size + 1, 2, none⟩) (.inr (by simp)) (.int .i64 (x.at_ : Int))); have HT : Hid (Three [.slice A4 x.key.length c4, .slice none 0 0, .int .i64 (x.at_ : Int)]) := lh HC8.out.one; clear hf7 hs5 hB5 HC6 HF6 HR6 HB56 HB46 hv0 hq7; go_upto_region 9 with fail
  clear k51 hfz hl5
  go_wp2_with (first
   | (refine wpL_load rfl 77 (.tmp 5) rfl rfl HB58.out Tryz.underlying77 rfl size_it ?_)
   | (refine wpL_store rfl 77 (.tmp 4) (.tmp 32) rfl [.slice A4 x.key.length c4, .slice none 0 0, .int .i64 (x.at_ : Int)] rfl rfl HB48.out size_it rfl HT.out ?_))
  intro w9 hb9 hf9 hz9; have HE : Hid (∃ kv vv, Ending.returned (.agg #[.slice A4 x.key.length c4, .slice none 0 0, .int .i64 (x.at_ : Int)]) = .returned (.agg #[kv, vv, .int .i64 (x.at_ : Int)]) /\ ItC (fun q => w.heap.size <= q) w9 x kv vv (.int .i64 (x.at_ : Int)) /\ Rd w9 rb g rest /\ Fr [rb] w w9) := lh ⟨_, _, rfl, (HC8.out.fr hf9 (fun q (hq : w.heap.size + 2 <= q) hm => by have := List.mem_singleton.1 hm; omega)).weak (fun q (hq : w.heap.size + 2 <= q) => by show w.heap.size <= q; omega), HR8.out.fr hf9 (by simp; omega) (by simp; omega), HF8.out.trans hf9 (by simp)⟩; have HB9 := lh hb9; clear hb9 hf9 hz9; go_wp2_with fail; refine ret_blk (g := w.heap.size) (t' := 77) (cs := [.slice A4 x.key.length c4, .slice none 0 0, .int .i64 (x.at_ : Int)]) (d := _) rfl rfl HB9.out Tryz.underlying77 rfl size_it (HQ.out _ _ HE.out)
def znd : List Value := [.int .i64 0, .int .i64 0, .slice none 0 0]
theorem zero_nd : (Tryz.prog.info? 88).map (·.zero) = some (some (.agg #[.int .i64 0, .int .i64 0, .slice none 0 0])) := by kernel_rfl
theorem size_nd : (Tryz.prog.info? 88).map (·.size) = some 3 := by kernel_rfl
theorem enter_item (vs : Array Value) (w : World) : (callFunc 109 vs).run Tryz.prog w = .ok (.enter 109 vs) w := by kernel_rfl
theorem results_ct2 {P : Program} {fn : Func} {tmps : Array Value} {w : World} {k k2 : Tmp} {t t' : TypeId} {g : Nat} {cs : List Value} {d : TypeDesc} (hr : fn.results = #[.cell k t, .tmp k2]) (ha : tmps.getD k undef = .pointer (some ⟨g, 0, none⟩)) (hb : Blk w g t' cs)
  (hu : P.underlying t = some d) (hd : d.isRow = true) (hi : (P.info? t).map (·.size) = some cs.length) : (results fn tmps).run P w = .ok (.tuple #[.agg cs.toArray, tmps.getD k2 undef]) w := by
 have hl := run_loadVar_row (P := P) w g t' t cs.toArray (0, 0) d hb hu (by cases d <;> simp_all) (by simpa using hi); have ha' : tmps[k]?.getD undef = .pointer (some ⟨g, 0, none⟩) := by simpa using ha
 simp [results, hr, ha', hl, asAddr]
theorem leaf_any (w : World) (k : Int) (a b : Value) : Calls Tryz.prog 45 #[.agg #[.int .i64 k, a, b]] w fun e w' => e = .returned (.bool (k == 1)) /\ w' = w.alloc (.cells #[.int .i64 k, a, b] 88) := by
 go_enter Tryz.func45, Tryz.ntmps45
 go_wp2
 go_ret
 exact ⟨rfl, rfl⟩
theorem kind_one (n : Nd) : (kindOf n == 1) = n.lf := by unfold kindOf; cases n.lf <;> rfl
theorem leaf_nd {w : World} {a b : Value} (n : Nd) : Calls Tryz.prog 45 #[.agg #[.int .i64 (kindOf n), a, b]] w fun e w' => e = .returned (.bool n.lf) /\ Fr [] w w' :=
 (leaf_any w (kindOf n) a b).mono fun e w' ⟨he, hw⟩ => ⟨by rw [he, kind_one], by rw [hw]; exact (Fr.refl [] w).alloc _⟩
def ReadRel (W : World) (B2 rb B5 g : Nat) (n : Nd) (r : List UInt8) (iv : Value) (wr : World) : Prop :=
 ∃ (k : Nat) (sv : Value) (cs : List Value), k <= n.l.length /\ iv = .int .i64 (k : Int) /\ Blk wr B2 88 znd /\ Blk wr B5 88 [.int .i64 (kindOf n), .int .i64 (n.first : Int), sv] /\
  wr.ownsRow (W.heap.size + 3) 77 3 sv k cs /\ ItsC (fun q => W.heap.size + 3 <= q /\ sv.ownBlock ≠ some q) wr (n.l.take k) cs /\ Rd wr rb g ((n.l.drop k).flatMap (ib n.lf) ++ r) /\ Fr [] W wr /\ W.heap.size + 3 <= wr.heap.size
/-- A page read as the node that it is. -/
theorem read_any {w : World} {v : Value} {n : Nd} {r : List UInt8} {g : Nat} (hv : BytesAt w v (n.written ++ r) g) (hlen : (n.written ++ r).length = 512) (hok : n.ok) :
  Calls Tryz.prog 84 #[v] w fun e w' => ∃ nv, e = .returned (.tuple #[nv, .bool true]) /\ NdV (fun q => w.heap.size <= q) w' w.heap.size nv n /\ Fr [] w w' := by
 obtain ⟨A, c, off, rfl, hc, hcell0⟩ := hv; obtain ⟨rfl, hcell⟩ := hcell0 (by omega); clear hcell0
 have hgl : g < w.heap.size := by
  have := World.block_lt_of_cell? w _ (hcell 0 _ (List.getElem?_eq_getElem (by rw [bcells_len]; omega))); exact this
 refine calls_post fun R HQ => ?_; rw [hlen] at hc ⊢; obtain ⟨W1, hW1⟩ := nm ((w.alloc (.cells znd.toArray 88)).alloc (.cells #[.slice (some ⟨g, off, none⟩) 512 c, .bool false] 183)); have hf1 : Fr [] w W1 := by rw [hW1]; exact ((Fr.refl [] w).alloc _).alloc _
 have hb2 : Blk W1 w.heap.size 88 znd := by rw [hW1]; exact (Blk.new w _ znd).alloc _
 have hrd : Rd W1 (w.heap.size + 1) g (n.written ++ r) := by
  refine ⟨off, c, ?_, by omega, fun j u hj => fr_keep hf1 (hcell j u hj)⟩; rw [hlen, hW1]; have := Blk.new (w.alloc (.cells znd.toArray 88)) 183 [.slice (some ⟨g, off, none⟩) 512 c, .bool false]
  rwa [show (w.alloc (.cells znd.toArray 88)).heap.size = w.heap.size + 1 by simp] at this
 have hz1 : W1.heap.size = w.heap.size + 2 := by rw [hW1]; simp
 have hgr : g ≠ w.heap.size + 1 := by omega
 obtain ⟨u, hu⟩ : ∃ u : UInt8, u = if n.lf then 1 else 2 := ⟨_, rfl⟩
 have huk : ((u.toNat : Nat) : Int) = kindOf n := by rw [hu]; unfold kindOf; cases n.lf <;> rfl
 have e0 : n.written ++ r = u :: (b16 n.l.length ++ ((if n.lf then [] else b16 n.first) ++ (n.l.flatMap (ib n.lf) ++ r))) := by rw [hu]; unfold Nd.written Nd.head; simp
 rw [e0] at hrd; have HO1 := lh (one_rd hrd hgr); have HF1 := lh hf1; have HB2 := lh hb2; have HZ1 := lh hz1; have HOK := lh hok; have HUK := lh huk; have HW1 := lh hW1; clear hcell hf1 hb2 hrd hz1 hok e0 huk hu hW1
 go_enter Tryz.func84, Tryz.ntmps84
 go_wp2_with (with_reducible refine wpList_alloc_z rfl 88 rfl (.agg #[.int .i64 0, .int .i64 0, .slice none 0 0]) znd.toArray zero_nd rfl ?_)
 rw [<- HW1.out]; refine HO1.out.mono ?_; rintro e w2 ⟨rfl, hr2, hf2, hz2⟩; rw [HUK.out]; have HR2 := lh hr2; have HF2 := lh ((HF1.out.mono (S := []) (T := [w.heap.size + 1]) (by simp)).trans hf2 (by simp)); have HB22 := lh (HB2.out.fr hf2 (by simp)); have HZ2 : Hid (w2.heap.size = w.heap.size + 2) := lh (by have := HZ1.out; omega); clear hr2 hf2 hz2 HO1
 go_wp2_with (first
  | (with_reducible refine wpList_alloc_z rfl 88 rfl (.agg #[.int .i64 0, .int .i64 0, .slice none 0 0]) znd.toArray zero_nd rfl ?_)
  | (refine wpList_store_z (W := w2) rfl 88 (.tmp 5) (.tmp 13) rfl [.int .i64 (kindOf n), .int .i64 0, .slice none 0 0] rfl rfl rfl size_nd rfl ?z1 ?_))
 case z1 => intro x hx; simp at hx; rcases hx with rfl | rfl | rfl <;> rfl
 intro w3 hb3 hf3 hz3; have HB3 := lh hb3; have HF3 := lh (HF2.out.trans hf3 (by simp)); have HR3 := lh (HR2.out.fr hf3 (by simp) (by simp)); have HB23 := lh (HB22.out.fr hf3 (by simp)); have HZ3 : Hid (w3.heap.size = w.heap.size + 3) := lh (by have := HZ2.out; omega); have k0 := hb3.at_ (i := 0) rfl; have HO3 := lh (take_rd (k := 2) HR3.out (by rw [List.length_append]; show 2 <= 2 + _; omega) hgr); clear hb3 hf3 hz3 HF2 HR2 HB22
 cases hlf : n.lf
 case' true =>
  have hkn : kindOf n = 1 := by unfold kindOf; rw [hlf]; rfl
  rw [hkn] at k0; go_wp2_with fail; refine HO3.out.mono ?_; rintro e w4 ⟨v4, rfl, hb4, hr4, hf4, hz4⟩
  have er : r16 ((b16 n.l.length ++ ((if n.lf then [] else b16 n.first) ++ (n.l.flatMap (ib n.lf) ++ r))).take 2) = n.l.length := by
   have := r16_b16 HOK.out.few []
   rwa [List.append_nil] at this
  have hh := half16_any hb4 (by rw [List.length_take, List.length_append]; show 2 <= min 2 (2 + _); omega); rw [er] at hh; have HH := lh hh; have HF4 := lh hf4; have HZ4 := lh hz4; have HR4 := lh hr4; clear hb4 hr4 hf4 hz4 er hh k0; go_wp2_with fail; refine HH.out.mono ?_; rintro e w5 ⟨rfl, q5, hq5⟩; have hf5 : Fr [w.heap.size + 1] w3 w5 := by rw [hq5]; exact HF4.out.drewN _
  have hb5 := HB3.out.fr hf5 (by have := HZ2.out; simp; omega); have k0 := hb5.at_ (i := 0) rfl; rw [hkn] at k0; have k1 := hb5.at_ (i := 1) rfl; have k2 := hb5.at_ (i := 2) rfl; have HB5 := lh hb5; have HF5 := lh hf5; have HQ5 := lh hq5; clear hb5 hf5 hq5 HH; go_wp2_with fail; refine (leaf_any w5 1 _ _).mono ?_; rintro e w6 ⟨rfl, hw6⟩; have hf6 : Fr [] w5 w6 := by rw [hw6]; exact (Fr.refl [] w5).alloc _
  have hz6 := hf6.size; have hfirst : n.first = 0 := HOK.out.bare hlf; have HB25 := lh ((HB23.out.fr HF5.out (by simp)).fr hf6 (by simp)); have HB55 : Hid (Blk w6 w2.heap.size 88 [.int .i64 (kindOf n), .int .i64 (n.first : Int), .slice none 0 0]) := lh (by rw [hfirst]; exact HB5.out.fr hf6 (by simp))
  have HR5 : Hid (Rd w6 (w.heap.size + 1) g ((n.l.drop 0).flatMap (ib n.lf) ++ r)) := lh (by
   have h0 : (b16 n.l.length ++ ((if n.lf then [] else b16 n.first) ++ (n.l.flatMap (ib n.lf) ++ r))).drop 2 = n.l.flatMap (ib n.lf) ++ r := by rw [hlf]; rfl
   have h1 := HR4.out; rw [h0] at h1; have h2 : Fr [] w4 w5 := by rw [HQ5.out]; exact (Fr.refl [] w4).drewN _
   exact (h1.fr h2 (by simp) (by simp)).fr hf6 (by simp) (by simp))
  have HF5' : Hid (Fr [] w w6) := lh (((HF3.out.trans HF5.out (by simp)).trans hf6 (by simp)).mono (fun x hx => .inr (by simp at hx; omega))); have HZ5 : Hid (w.heap.size + 3 <= w6.heap.size) := lh (by have := HZ3.out; have := HF5.out.size; omega); have HLF := lh hlf; clear hf6 hz6 hfirst hw6 k0 k1 k2 HB5 HF5 HQ5 HF4 HZ4 HR4 HB3 HR3 HB23 HZ3 HF3 HO3 hkn hlf; go_wp2_with fail
 case' false =>
  have hkn : kindOf n = 2 := by unfold kindOf; rw [hlf]; rfl
  rw [hkn] at k0; go_wp2_with fail; refine HO3.out.mono ?_; rintro e w4 ⟨v4, rfl, hb4, hr4, hf4, hz4⟩
  have er : r16 ((b16 n.l.length ++ ((if n.lf then [] else b16 n.first) ++ (n.l.flatMap (ib n.lf) ++ r))).take 2) = n.l.length := by
   have := r16_b16 HOK.out.few []
   rwa [List.append_nil] at this
  have hh := half16_any hb4 (by rw [List.length_take, List.length_append]; show 2 <= min 2 (2 + _); omega); rw [er] at hh; have HH := lh hh; have HF4 := lh hf4; have HZ4 := lh hz4; have HR4 := lh hr4; clear hb4 hr4 hf4 hz4 er hh k0; go_wp2_with fail; refine HH.out.mono ?_; rintro e w5 ⟨rfl, q5, hq5⟩; have hf5 : Fr [w.heap.size + 1] w3 w5 := by rw [hq5]; exact HF4.out.drewN _
  have hb5 := HB3.out.fr hf5 (by have := HZ2.out; simp; omega); have k0 := hb5.at_ (i := 0) rfl; rw [hkn] at k0; have k1 := hb5.at_ (i := 1) rfl; have k2 := hb5.at_ (i := 2) rfl; have HB5 := lh hb5; have HF5 := lh hf5; have HQ5 := lh hq5; clear hb5 hf5 hq5 HH; go_wp2_with fail; refine (leaf_any w5 2 _ _).mono ?_; rintro e w6 ⟨rfl, hw6⟩; have hf6 : Fr [] w5 w6 := by rw [hw6]; exact (Fr.refl [] w5).alloc _
  have hb56 := HB5.out.fr hf6 (by simp)
  have HR6 : Hid (Rd w6 (w.heap.size + 1) g (b16 n.first ++ (n.l.flatMap (ib n.lf) ++ r))) := lh (by
   have h0 : (b16 n.l.length ++ ((if n.lf then [] else b16 n.first) ++ (n.l.flatMap (ib n.lf) ++ r))).drop 2 = b16 n.first ++ (n.l.flatMap (ib n.lf) ++ r) := by rw [hlf]; rfl
   have h1 := HR4.out; rw [h0] at h1; have h2 : Fr [] w4 w5 := by rw [HQ5.out]; exact (Fr.refl [] w4).drewN _
   exact (h1.fr h2 (by simp) (by simp)).fr hf6 (by simp) (by simp))
  have HB26 := lh ((HB23.out.fr HF5.out (by simp)).fr hf6 (by simp)); have HB56 := lh hb56; have HF6 := lh ((HF3.out.trans HF5.out (by simp)).trans hf6 (by simp)); have HZ6 : Hid (w.heap.size + 3 <= w6.heap.size) := lh (by have := HZ3.out; have := HF5.out.size; have := hf6.size; omega); have HO6 := lh (take_rd (k := 2) HR6.out (by rw [List.length_append]; show 2 <= 2 + _; omega) hgr); clear k0 k1 k2 hf6 hb56 hw6 HB5 HF5 HQ5 HF4 HZ4 HR4 HB3 HR3 HB23 HZ3 HF3 HO3 HR6; go_wp2_with fail; refine HO6.out.mono ?_; rintro e w7 ⟨v7, rfl, hb7, hr7, hf7, hz7⟩
  have er7 : r16 ((b16 n.first ++ (n.l.flatMap (ib n.lf) ++ r)).take 2) = n.first := by
   have := r16_b16 HOK.out.first []
   rwa [List.append_nil] at this
  have hh7 := half16_any hb7 (by rw [List.length_take, List.length_append]; show 2 <= min 2 (2 + _); omega); rw [er7] at hh7; have HH7 := lh hh7; have HF7 := lh hf7; have HR7 := lh hr7; have hz7' : w.heap.size + 3 <= w7.heap.size := by have := HZ6.out; omega
  have HZ7 := lh hz7'; clear hb7 hr7 hf7 hz7 hh7 hz7' HO6 HZ6; go_wp2_with fail; refine HH7.out.mono ?_; rintro e w8 ⟨rfl, q8, hq8⟩; have hf8' : Fr [] w7 w8 := by rw [hq8]; exact (Fr.refl [] w7).drewN _
  have hf8 : Fr [w.heap.size + 1] w6 w8 := HF7.out.trans hf8' (by simp); have hz8 := hf8'.size; have hz7 := HZ7.out; have hb8 := HB56.out.fr hf8 (by have := HZ2.out; simp; omega); have k81 := hb8.at_ (i := 1) rfl; have kf8 := hb8.free; have kl8 := hb8.lt; have hs8 : Fr [w2.heap.size] w8 (w8.setCell ⟨w2.heap.size, 1, none⟩ (.int .i64 (n.first : Int))) := (Fr.refl _ _).setCell (.inl (by simp)) _; have HB25 := lh ((HB26.out.fr hf8 (by simp)).fr hs8 (by have := HZ2.out; simp; omega)); have HB55 : Hid (Blk (w8.setCell ⟨w2.heap.size, 1, none⟩ (.int .i64 (n.first : Int))) w2.heap.size 88 [.int .i64 (kindOf n), .int .i64 (n.first : Int), .slice none 0 0]) := lh (hb8.set_ 1 (.int .i64 (n.first : Int)))
  have HR5 : Hid (Rd (w8.setCell ⟨w2.heap.size, 1, none⟩ (.int .i64 (n.first : Int))) (w.heap.size + 1) g ((n.l.drop 0).flatMap (ib n.lf) ++ r)) := lh (by
   have h0 : (b16 n.first ++ (n.l.flatMap (ib n.lf) ++ r)).drop 2 = n.l.flatMap (ib n.lf) ++ r := rfl; have h1 := HR7.out; rw [h0] at h1; exact (h1.fr hf8' (by simp) (by simp)).fr hs8 (by have := HZ2.out; simp; omega) (by have := HZ2.out; simp; omega))
  have HF5' : Hid (Fr [] w (w8.setCell ⟨w2.heap.size, 1, none⟩ (.int .i64 (n.first : Int)))) := lh (((HF6.out.trans hf8 (by simp)).mono (fun x hx => .inr (by simp at hx; omega))).trans hs8 (fun x hx => .inr (by have := HZ2.out; simp at hx; omega))); have HZ5 : Hid (w.heap.size + 3 <= (w8.setCell ⟨w2.heap.size, 1, none⟩ (.int .i64 (n.first : Int))).heap.size) := lh (by simp [World.setCell]; omega); have HLF := lh hlf; clear hf8' hf8 hb8 hs8 HB26 HB56 HF6 HR7 HF7 HZ7 HH7 hq8 hkn hlf; go_wp2_with fail; clear k81 kf8 kl8; generalize w8.setCell ⟨w2.heap.size, 1, none⟩ (.int .i64 (n.first : Int)) = w9' at *
 all_goals
  go_loopw [7] (fun v wr => ReadRel w w.heap.size (w.heap.size + 1) w2.heap.size g n r v wr) (fun v _ => n.l.length - (intOf v).toNat)
  case atStart => exact ⟨0, .slice none 0 0, [], Nat.zero_le _, rfl, HB25.out, HB55.out, own_nil _ _ _ _, trivial, HR5.out, HF5'.out, HZ5.out⟩
  case round =>
   obtain ⟨k, sv, cs, hk, rfl, hb2, hb5, hown, hits, hrd, hfw, hzw⟩ := hrel; clear HB25 HB55 HR5 HF5' HZ5; have c0 := hb5.at_ (i := 0) rfl; have c1 := hb5.at_ (i := 1) rfl; have c2 := hb5.at_ (i := 2) rfl; have r1 : wr.cell? ⟨w.heap.size + 1, 1, none⟩ = some (.bool false) := by obtain ⟨_, _, hb, _⟩ := id hrd; exact hb.at_ (i := 1) rfl
   obtain ⟨As, cs', rfl, hsn, hsc⟩ := own_shape hown; have HB2W := lh hb2; have HB5W := lh hb5; have HOWN := lh hown; have HITS := lh hits; have HRD := lh hrd; have HFW := lh hfw; have hnl := HOK.out.few; have hcmp : (((k : Nat) : Int) < (n.l.length : Int)) ↔ k < n.l.length := by omega
   clear hb2 hb5 hown hits hrd hfw
   by_cases hkn : k < n.l.length
   ·obtain ⟨x, hx⟩ := gx hkn; have hxo := HOK.out.item x (List.mem_of_getElem? hx)
    have hdrop : n.l.drop k = x :: n.l.drop (k + 1) := by
     obtain ⟨h1, h2⟩ := List.getElem?_eq_some_iff.1 hx; rw [List.drop_eq_getElem_cons h1, h2]
    have htake : n.l.take (k + 1) = n.l.take k ++ [x] := by
     obtain ⟨h1, h2⟩ := List.getElem?_eq_some_iff.1 hx; rw [List.take_succ_eq_append_getElem h1, h2]
    have hrd' := HRD.out.fr ((Fr.refl [] wr).drew) (by simp) (by simp); rw [hdrop, List.flatMap_cons, List.append_assoc] at hrd'; have HI := lh (item_rd hrd' hxo hgr (by show g < wr.heap.size; omega)); have HTK := lh htake; clear hx hdrop htake hrd' hxo; go_wp2_with fail; refine wp_region_K (fun W => W.cell? ⟨w2.heap.size, 0, none⟩ = some (.int .i64 (kindOf n)) /\ W.cell? ⟨w2.heap.size, 2, none⟩ = some (.slice As k cs')) [0, 1, 2, 3, 4, 8] (by kernel_rfl) ?_; refine tks [0, 1, 2, 3, 4] ?_
    iterate 5 (refine tk rfl rfl ⟨c0, c2⟩ rfl (fun _ hW => by (obtain ⟨q0, q2⟩ := hW; go_simp) <;> with_reducible rfl) ?_; simp only [nrm])
    refine tke ?_; refine sp 5 rfl rfl rfl fun K hK => ?_; refine wp_call_f (l := [.tmp 47, .tmp 49]) rfl [.pointer (some ⟨w.heap.size + 1, 0, none⟩), .int .i64 (kindOf n)] rfl (enter_item _) (HI.out.mono ?_); rintro e w7 ⟨kv, vv, rfl, hic, hr7, hf7⟩; have hf7' : Fr [w.heap.size + 1] wr w7 := ((Fr.refl [w.heap.size + 1] wr).drew).trans hf7 (by simp); have hlx := HOWN.out; have hol := own_lt HOWN.out; have hoge : ∀ q, (Value.slice As k cs').ownBlock = some q -> w.heap.size + 3 <= q := fun q hq => (HOWN.out.lt q hq).1; have hz2 : w.heap.size + 1 < w2.heap.size /\ w2.heap.size < w.heap.size + 3 := by have := HZ2.out; omega
    have hB57 := HB5W.out.fr hf7' (by simp; omega); have hB27 := HB2W.out.fr hf7' (by simp); have HOWN7 := lh (own_fr HOWN.out hf7' (fun q hq => by have := hoge q hq; simp; omega)); have HITS7 := lh (HITS.out.fr hf7' (fun q hq hm => by have := hq.1; have := List.mem_singleton.1 hm; omega)); have HR7 := lh hr7; have HF7 := lh (HFW.out.trans hf7' (fun x hx => .inr (by simp at hx; omega))); have hz7 := hf7'.size; have HIC := lh hic; have HB57 := lh hB57; have HB27 := lh hB27; have hone := hic.one; refine ⟨_, rfl, hK _ _ (fun _ => ⟨hB57.at_ (i := 0) rfl, hB57.at_ (i := 2) rfl⟩) ?_⟩; simp only [nrm]; clear hr7 hf7 hf7' hB57 hB27 hK hic hlx; refine sp 6 rfl rfl rfl fun K hK => ?_; obtain ⟨ti, hti, hz', hsz', hby⟩ := info_get info_it; refine wp_build_one (.tmp 50) rfl Tryz.underlying86 hti hz' [kv, vv, .int .i64 (x.at_ : Int)] rfl hsz' rfl (by simp) (by simp) (hK _ _ (fun _ => ⟨(HB57.out.alloc _).at_ (i := 0) rfl, (HB57.out.alloc _).at_ (i := 2) rfl⟩) ?_); simp only [nrm]; clear hK; have hbn := Blk.new w7 77 [kv, vv, .int .i64 (x.at_ : Int)]; have hfn : Fr [] w7 (w7.alloc (.cells [kv, vv, .int .i64 (x.at_ : Int)].toArray 77)) := (Fr.refl [] w7).alloc _; have hsn : (w7.alloc (.cells [kv, vv, .int .i64 (x.at_ : Int)].toArray 77)).heap.size = w7.heap.size + 1 := by simp
    generalize w7.alloc (.cells [kv, vv, .int .i64 (x.at_ : Int)].toArray 77) = w8 at *; have hne : (Value.slice As k cs').ownBlock ≠ some w2.heap.size := fun e => by have := hoge _ e; omega
    refine sp 7 rfl rfl rfl fun K hK => ?_; refine wp_append_fr (.tmp 46) (.tmp 51) rfl 77 3 56 Tryz.underlying86 hti hz' hsz' hby rfl (by omega) (.slice As k cs') k cs rfl (own_base (own_fr HOWN7.out hfn (by simp)) (fun _ _ => Nat.zero_le _)) ⟨w7.heap.size, 0, none⟩ 1 1 [kv, vv, .int .i64 (x.at_ : Int)] rfl rfl (fun j u hu => by rw [Addr.add_mid, Nat.zero_add]; exact hbn.at_ hu) hone (by omega) (by unfold maxLen; omega) (by omega) (w7.heap.size + 1) hsn fun g9 c9 w9 ho9 F9 hat9 hlt9 => hK _ _ (fun _ => ⟨((HB57.out.fr hfn (by simp)).fr F9 (by simpa using hne)).at_ (i := 0) rfl, ((HB57.out.fr hfn (by simp)).fr F9 (by simpa using hne)).at_ (i := 2) rfl⟩) ?_; simp only [nrm]; clear hK; have hS9 : ∀ q, q ∈ (Value.slice As k cs').ownBlock.toList -> w.heap.size + 3 <= q := fun q hq => hoge q (by simpa using hq); have hO9 := (HB57.out.fr hfn (by simp)).fr F9 (fun hm => by have := hS9 _ hm; omega)
    have hg9 : w.heap.size + 3 <= g9 := by
     rcases hat9 with h | h
     ·exact hoge _ h
     ·omega
    have hol' : ∀ q, (Value.slice As k cs').ownBlock = some q -> q < wr.heap.size := hol
    have hi9 : ItsC (fun q => w.heap.size + 3 <= q /\ (Value.slice As k cs').ownBlock ≠ some q /\ q ≠ g9) w8 (n.l.take k) cs := (HITS7.out.fr hfn (fun q hq hm => by cases hm)).re (fun q hq hlt => ⟨hq.1, hq.2, fun e => by
     rcases hat9 with h | h
     ·exact hq.2 (by rw [e]; exact h)
     ·omega⟩) ⟨w.heap.size + 3 + g9 + wr.heap.size, by omega, fun e => by have := hol' _ e; omega, by omega⟩
    have hx9 : ItC (fun q => w.heap.size + 3 <= q /\ (Value.slice As k cs').ownBlock ≠ some q /\ q ≠ g9) w8 x kv vv (.int .i64 (x.at_ : Int)) := (HIC.out.re (D' := fun q => w.heap.size + 3 <= q /\ (Value.slice As k cs').ownBlock ≠ some q /\ q ≠ g9) (fun q (hq : wr.heap.size <= q) hlt => ⟨by omega, fun e => by have := hol' _ e; omega, fun e => by
     rcases hat9 with h | h
     ·have := hol' _ h; omega
     ·omega⟩) ⟨w.heap.size + 3 + g9 + wr.heap.size, by omega, fun e => by have := hol' _ e; omega, by omega⟩).fr hfn (fun q hq hm => by cases hm)
    refine tks [8] ?_; refine tk rfl rfl ⟨hO9.at_ (i := 0) rfl, hO9.at_ (i := 2) rfl⟩ rfl (fun _ hW => by (obtain ⟨q0, q2⟩ := hW; go_simp) <;> with_reducible rfl) ?_; simp only [nrm]; refine tke ?_; refine wpAnyK_step (j := 9) none rfl rfl (by kernel_rfl) rfl fun K hK => ?_; refine wp_run_skip (w' := w9.setCell ⟨w2.heap.size, 2, none⟩ (.slice (some ⟨g9, 0, none⟩) (k + 1) c9)) (by have o2 := hO9.at_ (i := 2) rfl; have of := hO9.free 2; go_simp) (hK _ _ (fun h => absurd h (by decide +kernel)) ?_); simp only [Act.put]; refine wd ?_ _; have hfs : Fr [w2.heap.size] w9 (w9.setCell ⟨w2.heap.size, 2, none⟩ (.slice (some ⟨g9, 0, none⟩) (k + 1) c9)) := (Fr.refl _ _).setCell (.inl (by simp)) _; have hzf := F9.size
    have HX : Hid (ReadRel w w.heap.size (w.heap.size + 1) w2.heap.size g n r (.int .i64 ((k : Int) + 1)) (w9.setCell ⟨w2.heap.size, 2, none⟩ (.slice (some ⟨g9, 0, none⟩) (k + 1) c9))) := lh ⟨k + 1, .slice (some ⟨g9, 0, none⟩) (k + 1) c9, cs ++ [kv, vv, .int .i64 (x.at_ : Int)], hkn, by go_num,
     (((HB27.out.fr hfn (by simp)).fr F9 (fun hm => by have := hS9 _ hm; omega)).fr hfs (by simp; omega)), hO9.set_ 2 (.slice (some ⟨g9, 0, none⟩) (k + 1) c9),
     own_fr (own_base ho9 (fun q hq => by have : g9 = q := Option.some.inj hq; omega)) hfs (fun q hq hm => by have : g9 = q := Option.some.inj hq; have := List.mem_singleton.1 hm; omega), by
      rw [HTK.out]; exact (((ItsC.append (l2 := [x]) (cs2 := [kv, vv, .int .i64 (x.at_ : Int)]) hi9 ⟨hx9, trivial⟩).fr F9 (fun q hq hm => absurd (by simpa using hm) hq.2.1)).fr hfs (fun q hq hm => by have := hq.1; have := List.mem_singleton.1 hm; omega)).weak (fun q hq => ⟨hq.1, fun e => hq.2.2 (Option.some.inj e).symm⟩),
     ((HR7.out.fr hfn (by simp) (by simp)).fr F9 (fun hm => by have := hS9 _ hm; omega) (fun hm => by have := hS9 _ hm; omega)).fr hfs (by simp; omega) (by simp; omega),
     ((HF7.out.trans hfn (by simp)).trans F9 (fun q hq => .inr (by have := hS9 q hq; omega))).trans hfs (fun q hq => .inr (by simp at hq; omega)), by simp [World.setCell]; omega⟩
    clear hK hfs hO9 F9 hS9 ho9 hg9 hbn hfn hsn hne hone hi9 hx9 hat9 hlt9; generalize w9.setCell ⟨w2.heap.size, 2, none⟩ (.slice (some ⟨g9, 0, none⟩) (k + 1) c9) = w10 at *; go_wp2_with fail
    go_roundw
    case rel => exact HX.out
    case measure => simp [intOf]; omega
   ·obtain rfl : k = n.l.length := by omega
    have hz2 := HZ2.out; rw [hz2] at c0 c1 c2; have d0 := HB2W.out.at_ (i := 0) rfl; have d1 := HB2W.out.at_ (i := 1) rfl; have d2 := HB2W.out.at_ (i := 2) rfl; have df := HB2W.out.free; have dl := HB2W.out.lt; have hfs : Fr [w.heap.size] wr ((((wr.setCell ⟨w.heap.size, 0, none⟩ (.int .i64 (kindOf n))).setCell ⟨w.heap.size, 1, none⟩ (.int .i64 (n.first : Int))).setCell ⟨w.heap.size, 2, none⟩ (.slice As n.l.length cs')).drew) := ((((Fr.refl [w.heap.size] wr).setCell (.inl (by simp)) _).setCell (.inl (by simp)) _).setCell (.inl (by simp)) _).drew; have HBF : Hid (Blk ((((wr.setCell ⟨w.heap.size, 0, none⟩ (.int .i64 (kindOf n))).setCell ⟨w.heap.size, 1, none⟩ (.int .i64 (n.first : Int))).setCell ⟨w.heap.size, 2, none⟩ (.slice As n.l.length cs')).drew) w.heap.size 88 [.int .i64 (kindOf n), .int .i64 (n.first : Int), .slice As n.l.length cs']) := lh (((HB2W.out.set_ 0 (.int .i64 (kindOf n))).set_ 1 (.int .i64 (n.first : Int))).set_ 2 (.slice As n.l.length cs')).drew
    have HRES : Hid (∃ nv, Ending.returned (.tuple #[.agg #[.int .i64 (kindOf n), .int .i64 (n.first : Int), .slice As n.l.length cs'], .bool true]) = .returned (.tuple #[nv, .bool true]) /\ NdV (fun q => w.heap.size <= q) ((((wr.setCell ⟨w.heap.size, 0, none⟩ (.int .i64 (kindOf n))).setCell ⟨w.heap.size, 1, none⟩ (.int .i64 (n.first : Int))).setCell ⟨w.heap.size, 2, none⟩ (.slice As n.l.length cs')).drew) w.heap.size nv n /\ Fr [] w ((((wr.setCell ⟨w.heap.size, 0, none⟩ (.int .i64 (kindOf n))).setCell ⟨w.heap.size, 1, none⟩ (.int .i64 (n.first : Int))).setCell ⟨w.heap.size, 2, none⟩ (.slice As n.l.length cs')).drew)) := lh ⟨_, rfl, ⟨.slice As n.l.length cs', cs, rfl, own_base (own_fr HOWN.out hfs (fun q hq hm => by have := (HOWN.out.lt q hq).1; have := List.mem_singleton.1 hm; omega)) (fun q hq => by have := (HOWN.out.lt q hq).1; omega), by
     have h := HITS.out; rw [List.take_of_length_le (Nat.le_refl _)] at h; exact (h.fr hfs (fun q hq hm => by have := hq.1; have := List.mem_singleton.1 hm; omega)).weak (fun q hq => ⟨by have := hq.1; show w.heap.size <= q; omega, hq.2⟩), fun q hq => by have := (HOWN.out.lt q hq).1; show w.heap.size <= q; omega⟩, HFW.out.trans hfs (fun q hq => .inr (by have := List.mem_singleton.1 hq; omega))⟩
    clear hfs; go_wp2_with fail
    go_region
    all_goals go_wp2_with fail
    all_goals exact bodyPost_ret (results_ct2 rfl rfl HBF.out Tryz.underlying88 rfl size_nd) rfl (HQ.out _ _ HRES.out)
theorem NdV.parts {D : Nat -> Prop} {w : World} {base : Nat} {v : Value} {n : Nd} (h : NdV D w base v n) :
  ∃ A c cs, v = .agg #[.int .i64 (kindOf n), .int .i64 (n.first : Int), .slice A n.l.length c] /\ n.l.length <= c /\ w.ownsRow base 77 3 (.slice A n.l.length c) n.l.length cs /\ ItsC D w n.l cs /\ (0 < n.l.length -> ∃ g, A = some ⟨g, 0, none⟩ /\ ∀ (j : Nat) (u : Value), cs[j]? = some u -> w.cell? ⟨g, j, none⟩ = some u) := by
 obtain ⟨sv, cs, rfl, h2, h3, h4⟩ := h; obtain ⟨A, c, rfl, h5, _⟩ := own_shape h2; exact ⟨A, c, cs, rfl, h5, h2, h3.weak fun q hq => hq.1, fun h0 => own_cell h2 h0⟩
theorem chOf_last (c : Nat) : ∀ (A : List It) (y : It), chOf c (A ++ [y]) = y.at_
 | [], _ => rfl
 | x :: A, y => chOf_last x.at_ A y
/-- A node's child. -/
theorem child_nd {D : Nat -> Prop} {w : World} {base k : Nat} {v : Value} {n : Nd} (h : NdV D w base v n) (hk : k <= n.l.length) (hfew : n.l.length <= 65536) :
  Calls Tryz.prog 74 #[v, .int .i64 (k : Int)] w fun e w' => e = .returned (.int .i64 ((n.child k : Nat) : Int)) /\ Fr [] w w' := by
 obtain ⟨A, c, cs, rfl, hc, hown, hits, hcell⟩ := h.parts; clear h
 by_cases h0 : k = 0
 ·subst h0; have e : n.child 0 = n.first := rfl; rw [e]; clear hown hits hcell
  go_enter Tryz.func74, Tryz.ntmps74
  go_wp2
  go_ret
  exact ⟨rfl, (Fr.refl [] w).alloc _⟩
 ·obtain ⟨m, rfl⟩ : ∃ m, k = m + 1 := ⟨k - 1, by omega⟩; obtain ⟨x, hx⟩ : ∃ x, n.l[m]? = some x := gx (by omega); obtain ⟨kv, vv, av, c0, c1, c2, hic⟩ := hits.at_ hx; obtain ⟨g, rfl, hcg⟩ := hcell (by omega); have hav := hic.2.2; subst hav; have k2 := fr_keep ((Fr.refl [] w).alloc (.cells #[.int .i64 (kindOf n), .int .i64 (n.first : Int), .slice (some ⟨g, 0, none⟩) n.l.length c] 88)) (hcg _ _ c2)
  have e : n.child (m + 1) = x.at_ := by
   unfold Nd.child; obtain ⟨h1, h2⟩ := List.getElem?_eq_some_iff.1 hx; rw [List.take_succ_eq_append_getElem h1, h2, chOf_last]
  rw [e]; have hz1 : (m : Int) + 1 - 1 = (m : Int) := by omega
  have hz2 : (m : Int) < (n.l.length : Int) := by omega
  have hz3 : ¬ ((m : Int) + 1 = 0) := by omega
  have hw : IntKind.i64.wrap ((m : Int) + 1 - 1) = (m : Int) := by rw [IntKind.wrap_i64]; omega
  clear hown hits hcell hcg c0 c1 c2 hic hx e
  go_enter Tryz.func74, Tryz.ntmps74
  go_wp2
  go_ret
  exact ⟨rfl, (Fr.refl [] w).alloc _⟩
theorem count_while {f : It -> Bool} : ∀ {l : List It}, l.Pairwise (fun x y => f x = true -> f y = true) -> (List.range l.length).countP (fun i => !((l[i]?).map f).getD false) = (l.takeWhile fun x => !f x).length
 | [], _ => rfl
 | x :: l, h => by
  obtain ⟨h1, h2⟩ := List.pairwise_cons.1 h; have ih := count_while h2; rw [List.length_cons, List.range_succ_eq_map, List.countP_cons, List.countP_map]; have e : ((fun i => !(((x :: l)[i]?).map f).getD false) ∘ Nat.succ) = fun i => !((l[i]?).map f).getD false := rfl; rw [e, ih]
  cases hx : f x with
  | false =>
   rw [List.takeWhile_cons_of_pos (by simp [hx])]
   simp [hx]
  | true =>
   rw [List.takeWhile_cons_of_neg (by simp [hx])]
   have h0 : l.takeWhile (fun x => !f x) = [] := by
    cases l with
    | nil => rfl
    | cons y l => rw [List.takeWhile_cons_of_neg (by simp [h1 y (List.mem_cons_self ..) hx])]
   rw [h0]
   simp [hx]
theorem cmp_pos (a b : Ky) : (decide (0 < Lib.compareBytes a b)) = decide (klt b a) := by
 have e : klt b a ↔ 0 < Lib.compareBytes a b := by have := cmp_anti a b; unfold klt; omega
 rw [Bool.eq_iff_iff, decide_eq_true_iff, decide_eq_true_iff]; exact e.symm
theorem cmp_nonneg (a b : Ky) : (decide (0 <= Lib.compareBytes a b)) = !decide (klt a b) := by
 have e : klt a b ↔ ¬ 0 <= Lib.compareBytes a b := by unfold klt; omega
 rw [Bool.eq_iff_iff, decide_eq_true_iff, Bool.not_eq_true', decide_eq_false_iff_not, e, Classical.not_not]
theorem way_clos {w : World} {bn bk g i n c gk gi : Nat} {kv iv : Value} {key ik : Ky} (h2 : w.cell? ⟨bn, 2, none⟩ = some (.slice (some ⟨g, 0, none⟩) n c)) (hk : w.cell? ⟨bk, 0, none⟩ = some kv) (hkb : BytesAt w kv key gk)
  (hi : w.cell? ⟨g, i * 3, none⟩ = some iv) (hib : BytesAt w iv ik gi) (hin : i < n) (_hn : n <= 65536) :
  Calls Tryz.prog 104 (#[.int .i64 (i : Int)] ++ #[.pointer (some ⟨bn, 0, none⟩), .pointer (some ⟨bk, 0, none⟩)]) w fun e w' => e = .returned (.bool (decide (klt key ik))) /\ ∃ q, w' = w.drewN q := by
 have r1 : Hid (∀ nq, Calls Tryz.prog 78 #[iv, kv] (w.drewN nq) fun e w' => e = .returned (.int .i64 (Lib.compareBytes ik key)) /\ ∃ m, w' = w.drewN m) := lh fun nq => Calls.quiet_of_same (by
  have h := bytes_compare (hib.fr ((Fr.refl [] w).drewN nq) (by simp)) (hkb.fr ((Fr.refl [] w).drewN nq) (by simp)); exact h.mono fun e w' ⟨h1, h2⟩ => ⟨h1, h2.symm⟩)
 have hcp := cmp_pos ik key; have HCP := lh hcp; obtain ⟨Ak, ck, ok, rfl, _, _⟩ := hkb; obtain ⟨Ai, ci, oi, rfl, _, _⟩ := hib; generalize Lib.compareBytes ik key = cb at *; have hz : (i : Int) < (n : Int) := by omega
 clear hcp
 go_enter Tryz.func104, Tryz.ntmps104
 go_wp2
 go_quiet (first | with_reducible exact r1.out _)
 go_wp2
 go_ret
 exact ⟨by rw [<- HCP.out]; rfl, _, rfl⟩
end
end Go.Proofs.YtpjbdpepofnleaaGreat
