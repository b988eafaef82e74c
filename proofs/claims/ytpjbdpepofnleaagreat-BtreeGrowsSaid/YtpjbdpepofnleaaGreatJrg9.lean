/-
  Joined by join.py: Oc
-/
import Derived.Test.YtpjbdpepofnleaaGreatJrg8
section
namespace Go.Proofs.YtpjbdpepofnleaaGreat
open Go.RowKit Go.Sort Go.Shelf
theorem BytesAt.frD {S : List Nat} {w w' : World} {v : Value} {bs : List UInt8} {g : Nat} (h : BytesAt w v bs g) (hf : Fr S w w') (hS : g ∈ S → w.heap.size ≤ g) : BytesAt w' v bs g := by
  by_cases hg : g ∈ S
  · have hge := hS hg
    obtain ⟨A, c, off, hv, hc, hb⟩ := h
    refine ⟨A, c, off, hv, hc, fun h0 => ?_⟩
    exfalso
    obtain ⟨_, hcell⟩ := hb h0
    obtain ⟨u, hu⟩ : ∃ u, (bcells bs)[0]? = some u := ⟨_, List.getElem?_eq_getElem (by rw [bcells_len]; exact h0)⟩
    have := World.block_lt_of_cell? w _ (hcell 0 u hu)
    simp only at this
    omega
  · exact h.fr hf hg
def ItC (D : Nat → Prop) (w : World) (x : It) (kv vv av : Value) : Prop := (∃ g, BytesAt w kv x.key g ∧ D g) ∧ (∃ g, BytesAt w vv x.v g ∧ D g) ∧ av = .int .i64 (x.at_ : Int)
def ItsC (D : Nat → Prop) (w : World) : List It → List Value → Prop
  | [], [] => True
  | x :: l, kv :: vv :: av :: cs => ItC D w x kv vv av ∧ ItsC D w l cs
  | _, _ => False
def kindOf (n : Nd) : Int := if n.lf then 1 else 2
def NdV (D : Nat → Prop) (w : World) (base : Nat) (v : Value) (n : Nd) : Prop :=
  ∃ sv cs, v = .agg #[.int .i64 (kindOf n), .int .i64 (n.first : Int), sv] ∧ w.ownsRow base 77 3 sv n.l.length cs ∧ ItsC (fun q => D q ∧ sv.ownBlock ≠ some q) w n.l cs ∧ ∀ g, sv.ownBlock = some g → D g
section
variable {D D' : Nat → Prop} {w w' : World}
theorem ItC.fr {S : List Nat} {x : It} {kv vv av : Value} (h : ItC D w x kv vv av) (hf : Fr S w w') (hS : ∀ g, D g → g ∈ S → w.heap.size ≤ g) : ItC D w' x kv vv av := by
  obtain ⟨⟨g1, h1, d1⟩, ⟨g2, h2, d2⟩, h3⟩ := h
  exact ⟨⟨g1, h1.frD hf (hS g1 d1), d1⟩, ⟨g2, h2.frD hf (hS g2 d2), d2⟩, h3⟩
theorem ItC.weak {x : It} {kv vv av : Value} (h : ItC D w x kv vv av) (hD : ∀ g, D g → D' g) : ItC D' w x kv vv av := by
  obtain ⟨⟨g1, h1, d1⟩, ⟨g2, h2, d2⟩, h3⟩ := h
  exact ⟨⟨g1, h1, hD g1 d1⟩, ⟨g2, h2, hD g2 d2⟩, h3⟩
theorem ItC.one {x : It} {kv vv av : Value} (h : ItC D w x kv vv av) : Three [kv, vv, av] := by
  obtain ⟨⟨g1, ⟨_, _, _, rfl, _⟩, _⟩, ⟨g2, ⟨_, _, _, rfl, _⟩, _⟩, rfl⟩ := h
  intro u hu
  simp only [List.mem_cons, List.not_mem_nil, or_false] at hu
  rcases hu with rfl | rfl | rfl <;> rfl
theorem ItsC.fr {S : List Nat} (hf : Fr S w w') (hS : ∀ g, D g → g ∈ S → w.heap.size ≤ g) : ∀ {l : List It} {cs : List Value}, ItsC D w l cs → ItsC D w' l cs
  | [], [], _ => trivial
  | _x :: _l, _kv :: _vv :: _av :: _cs, h => ⟨h.1.fr hf hS, ItsC.fr hf hS h.2⟩
  | [], _ :: _, h => h.elim
  | _ :: _, [], h => h.elim
  | _ :: _, [_], h => h.elim
  | _ :: _, [_, _], h => h.elim
theorem ItsC.weak (hD : ∀ g, D g → D' g) : ∀ {l : List It} {cs : List Value}, ItsC D w l cs → ItsC D' w l cs
  | [], [], _ => trivial
  | _x :: _l, _kv :: _vv :: _av :: _cs, h => ⟨h.1.weak hD, ItsC.weak hD h.2⟩
  | [], _ :: _, h => h.elim
  | _ :: _, [], h => h.elim
  | _ :: _, [_], h => h.elim
  | _ :: _, [_, _], h => h.elim
theorem ItsC.len : ∀ {l : List It} {cs : List Value}, ItsC D w l cs → cs.length = l.length * 3
  | [], [], _ => rfl
  | x :: l, kv :: vv :: av :: cs, h => by have := ItsC.len h.2; simp only [List.length_cons]; omega
  | [], _ :: _, h => h.elim
  | _ :: _, [], h => h.elim
  | _ :: _, [_], h => h.elim
  | _ :: _, [_, _], h => h.elim
theorem ItsC.one : ∀ {l : List It} {cs : List Value}, ItsC D w l cs → Three cs
  | [], [], _ => fun u hu => by cases hu
  | x :: l, kv :: vv :: av :: cs, h => fun u hu => by
    have h1 := h.1.one
    have h2 := ItsC.one h.2
    rcases List.mem_cons.1 hu with rfl | hu
    · exact h1 _ (by simp)
    · rcases List.mem_cons.1 hu with rfl | hu
      · exact h1 _ (by simp)
      · rcases List.mem_cons.1 hu with rfl | hu
        · exact h1 _ (by simp)
        · exact h2 u hu
  | [], _ :: _, h => h.elim
  | _ :: _, [], h => h.elim
  | _ :: _, [_], h => h.elim
  | _ :: _, [_, _], h => h.elim
theorem ItsC.append : ∀ {l l2 : List It} {cs cs2 : List Value}, ItsC D w l cs → ItsC D w l2 cs2 → ItsC D w (l ++ l2) (cs ++ cs2)
  | [], _, [], _, _, h2 => h2
  | _x :: _l, _, _kv :: _vv :: _av :: _cs, _, h, h2 => ⟨h.1, ItsC.append h.2 h2⟩
  | [], _, _ :: _, _, h, _ => h.elim
  | _ :: _, _, [], _, h, _ => h.elim
  | _ :: _, _, [_], _, h, _ => h.elim
  | _ :: _, _, [_, _], _, h, _ => h.elim
theorem ItsC.take : ∀ (k : Nat) {l : List It} {cs : List Value}, ItsC D w l cs → ItsC D w (l.take k) (cs.take (3 * k)) ∧ ItsC D w (l.drop k) (cs.drop (3 * k))
  | 0, _, _, h => ⟨by simp [ItsC], h⟩
  | k + 1, [], [], _ => by simp [ItsC]
  | k + 1, x :: l, kv :: vv :: av :: cs, h => by
    obtain ⟨h1, h2⟩ := ItsC.take k h.2
    rw [show 3 * (k + 1) = 3 * k + 1 + 1 + 1 by omega]
    simp only [List.take_succ_cons, List.drop_succ_cons]
    exact ⟨⟨h.1, h1⟩, h2⟩
  | _, [], _ :: _, h => h.elim
  | _, _ :: _, [], h => h.elim
  | _, _ :: _, [_], h => h.elim
  | _, _ :: _, [_, _], h => h.elim
theorem ItsC.at_ : ∀ {l : List It} {cs : List Value} {k : Nat} {x : It}, ItsC D w l cs → l[k]? = some x → ∃ kv vv av, cs[k * 3]? = some kv ∧ cs[k * 3 + 1]? = some vv ∧ cs[k * 3 + 2]? = some av ∧ ItC D w x kv vv av
  | x :: l, kv :: vv :: av :: cs, 0, y, h, hk => by
    simp only [List.getElem?_cons_zero, Option.some.injEq] at hk
    subst hk
    exact ⟨kv, vv, av, rfl, rfl, rfl, h.1⟩
  | x :: l, kv :: vv :: av :: cs, k + 1, y, h, hk => by
    obtain ⟨a, b, c, h1, h2, h3, h4⟩ := ItsC.at_ (k := k) h.2 (by simpa using hk)
    refine ⟨a, b, c, ?_, ?_, ?_, h4⟩
    · rw [show (k + 1) * 3 = k * 3 + 1 + 1 + 1 by omega]; simpa using h1
    · rw [show (k + 1) * 3 + 1 = k * 3 + 1 + 1 + 1 + 1 by omega]; simpa using h2
    · rw [show (k + 1) * 3 + 2 = k * 3 + 2 + 1 + 1 + 1 by omega]; simpa using h3
  | [], [], _, _, _, hk => by simp at hk
  | [], _ :: _, _, _, h, _ => h.elim
  | _ :: _, [], _, _, h, _ => h.elim
  | _ :: _, [_], _, _, h, _ => h.elim
  | _ :: _, [_, _], _, _, h, _ => h.elim
theorem NdV.fr {S : List Nat} {base : Nat} {v : Value} {n : Nd} (h : NdV D w base v n) (hf : Fr S w w') (hS : ∀ g, D g → g ∈ S → w.heap.size ≤ g) : NdV D w' base v n := by
  obtain ⟨sv, cs, h1, h2, h3, h4⟩ := h
  refine ⟨sv, cs, h1, own_fr h2 hf (fun g hg hm => ?_), h3.fr hf (fun g hg => hS g hg.1), h4⟩
  have := own_lt h2 g hg
  have := hS g (h4 g hg) hm
  omega
theorem NdV.weak {base : Nat} {v : Value} {n : Nd} (h : NdV D w base v n) (hD : ∀ g, D g → D' g) : NdV D' w base v n := by
  obtain ⟨sv, cs, h1, h2, h3, h4⟩ := h
  exact ⟨sv, cs, h1, h2, h3.weak (fun g hg => ⟨hD g hg.1, hg.2⟩), fun g hg => hD g (h4 g hg)⟩
theorem BytesAt.re {v : Value} {bs : List UInt8} (h : ∃ g, BytesAt w v bs g ∧ D g) (hD : ∀ q, D q → q < w.heap.size → D' q) (h0 : ∃ q, D' q) : ∃ g, BytesAt w v bs g ∧ D' g := by
  obtain ⟨g, hb, hd⟩ := h
  obtain ⟨A, c, off, hv, hc, hcell⟩ := id hb
  by_cases hn : 0 < bs.length
  · obtain ⟨_, hc2⟩ := hcell hn
    obtain ⟨u, hu⟩ : ∃ u, (bcells bs)[0]? = some u := ⟨_, List.getElem?_eq_getElem (by rw [bcells_len]; exact hn)⟩
    have := World.block_lt_of_cell? w _ (hc2 0 u hu)
    exact ⟨g, hb, hD g hd this⟩
  · obtain ⟨q, hq⟩ := h0
    exact ⟨q, ⟨A, c, off, hv, hc, fun h => absurd h hn⟩, hq⟩
theorem ItC.re {x : It} {kv vv av : Value} (h : ItC D w x kv vv av) (hD : ∀ q, D q → q < w.heap.size → D' q) (h0 : ∃ q, D' q) : ItC D' w x kv vv av := ⟨BytesAt.re h.1 hD h0, BytesAt.re h.2.1 hD h0, h.2.2⟩
theorem ItsC.re (hD : ∀ q, D q → q < w.heap.size → D' q) (h0 : ∃ q, D' q) : ∀ {l : List It} {cs : List Value}, ItsC D w l cs → ItsC D' w l cs
  | [], [], _ => trivial
  | _x :: _l, _kv :: _vv :: _av :: _cs, h => ⟨h.1.re hD h0, ItsC.re hD h0 h.2⟩
  | [], _ :: _, h => h.elim
  | _ :: _, [], h => h.elim
  | _ :: _, [_], h => h.elim
  | _ :: _, [_, _], h => h.elim
theorem own_base {b b' : Nat} {e : TypeId} {size n : Nat} {v : Value} {xs : List Value} (h : w.ownsRow b e size v n xs) (hb : ∀ g, v.ownBlock = some g → b' ≤ g) : w.ownsRow b' e size v n xs := by
  refine ⟨h.1, ?_⟩
  rcases h.2 with h2 | ⟨g, cap, cur, rfl, _, r⟩
  · exact .inl h2
  · exact .inr ⟨g, cap, cur, rfl, hb g rfl, r⟩
end
set_option maxRecDepth 100000 in
set_option maxHeartbeats 400000 in
theorem half16_any {w : World} {v : Value} {bs : List UInt8} {g : Nat} (h : BytesAt w v bs g) (h2 : 2 ≤ bs.length) :
    Calls Tryz.prog 85 #[v] w fun e w' => e = .returned (.int .i64 ((r16 bs : Nat) : Int)) ∧ ∃ m, w' = w.drewN m := by
  obtain ⟨A, c, off, rfl, hc, hb⟩ := h
  obtain ⟨rfl, hb'⟩ := hb (by omega)
  match bs, h2 with
  | u :: v :: r, _ =>
    have c0 : w.cell? ⟨g, off, none⟩ = some (.int .u8 (u.toNat : Int)) := hb' 0 (B8 u) rfl
    have c1 : w.cell? ⟨g, off + 1, none⟩ = some (.int .u8 (v.toNat : Int)) := hb' 1 (B8 v) rfl
    have hub : u.toNat < 256 := u.toNat_lt
    have hvb : v.toNat < 256 := v.toNat_lt
    have hor := or_i64 u.toNat v.toNat hub hvb
    have HOR := Lib.hid hor
    have hn : 2 ≤ (u :: v :: r).length := by simp
    generalize (u :: v :: r).length = n at hn hc ⊢
    have hn0 : (0 : Int) < (n : Int) := by omega
    have hn1 : (1 : Int) < (n : Int) := by omega
    clear hor hb hb'
    go_enter Tryz.func85, Tryz.ntmps85
    go_wp2
    go_quiet (fail)
    go_wp2
    go_ret
    refine ⟨?_, _, rfl⟩
    show Ending.returned (.int .i64 (bits .or .i64 ((u.toNat : Int) * 256) (v.toNat : Int))) = _
    rw [HOR.out]
    rfl
def Rd (w : World) (rb g : Nat) (rest : List UInt8) : Prop :=
  ∃ off c, Blk w rb 183 [.slice (some ⟨g, off, none⟩) rest.length c, .bool false] ∧ rest.length ≤ c ∧ ∀ (j : Nat) (u : Value), (bcells rest)[j]? = some u → w.cell? ⟨g, off + j, none⟩ = some u
set_option maxRecDepth 100000 in
set_option maxHeartbeats 1000000 in
theorem take_rd {w : World} {rb g k : Nat} {rest : List UInt8} (h : Rd w rb g rest) (hk : k ≤ rest.length) (hg : g ≠ rb) :
    Calls Tryz.prog 108 #[.pointer (some ⟨rb, 0, none⟩), .int .i64 (k : Int)] w fun e w' => ∃ v, e = .returned v ∧ BytesAt w' v (rest.take k) g ∧ Rd w' rb g (rest.drop k) ∧ Fr [rb] w w' ∧ w'.heap.size = w.heap.size := by
  obtain ⟨off, c, hb, hc, hcell⟩ := h
  have c0 := hb.at_ (i := 0) rfl
  have c1 := hb.at_ (i := 1) rfl
  have hfz := hb.free
  have hlt := hb.lt
  have HB := Lib.hid hb; have HC := Lib.hid hcell
  clear hb hcell
  obtain ⟨n, hn⟩ : ∃ n, n = rest.length := ⟨_, rfl⟩
  rw [← hn] at hc hk c0
  have fin : ∀ off' c', (n = k ∨ off' = off + k) → n - k ≤ c' → BytesAt (w.setCell ⟨rb, 0, none⟩ (.slice (some ⟨g, off', none⟩) (n - k) c')) (.slice (some ⟨g, off, none⟩) k c) (rest.take k) g ∧ Rd (w.setCell ⟨rb, 0, none⟩ (.slice (some ⟨g, off', none⟩) (n - k) c')) rb g (rest.drop k) := fun off' c' ho h1 => by
    have hf : Fr [rb] w (w.setCell ⟨rb, 0, none⟩ (.slice (some ⟨g, off', none⟩) (n - k) c')) := (Fr.refl [rb] w).setCell (.inl (by simp)) _
    have keep : ∀ (j : Nat) (u : Value), (bcells rest)[j]? = some u → (w.setCell ⟨rb, 0, none⟩ (.slice (some ⟨g, off', none⟩) (n - k) c')).cell? ⟨g, off + j, none⟩ = some u := fun j u hj => by
      rw [hf.cell (World.block_lt_of_cell? w _ (HC.out j u hj)) (by simpa using hg)]
      exact HC.out j u hj
    refine ⟨⟨_, c, off, by rw [List.length_take, Nat.min_eq_left (by omega)], by rw [List.length_take]; omega, fun _ => ⟨rfl, fun j u hj => keep j u ?_⟩⟩, off', c', ?_, by rw [List.length_drop]; omega, fun j u hj => ?_⟩
    · rw [bcells, List.map_take] at hj
      rw [List.getElem?_take] at hj
      split at hj
      · exact hj
      · cases hj
    · have := HB.out.set_ 0 (.slice (some ⟨g, off', none⟩) (n - k) c')
      rw [List.length_drop, ← hn]
      exact this
    · rcases ho with ho | rfl
      · rw [List.drop_of_length_le (by omega)] at hj; cases hj
      · rw [bcells, List.map_drop, List.getElem?_drop] at hj
        rw [Nat.add_assoc]
        exact keep (k + j) u hj
  have FIN := Lib.hid fin
  have hk1 : ¬ ((n : Int) < (k : Int)) := by omega
  have hk2 : (k : Int) ≤ (c : Int) := by omega
  have hk3 : (k : Int) ≤ (n : Int) := by omega
  clear fin
  by_cases hck : c = k
  · obtain rfl : n = k := by omega
    subst hck
    go_enter Tryz.func108, Tryz.ntmps108
    go_wp2
    go_ret
    obtain ⟨f1, f2⟩ := FIN.out off 0 (.inl (by first | rfl | trivial)) (by omega)
    rw [Nat.sub_self] at f1 f2
    subst hn
    exact ⟨_, rfl, by simpa using f1, by simpa using f2, (Fr.refl [rb] w).setCell (.inl (by simp)) _, by simp [World.setCell]⟩
  · go_enter Tryz.func108, Tryz.ntmps108
    go_wp2
    go_ret
    obtain ⟨f1, f2⟩ := FIN.out (off + k) (c - k) (.inr rfl) (by omega)
    subst hn
    exact ⟨_, rfl, f1, f2, (Fr.refl [rb] w).setCell (.inl (by simp)) _, by simp [World.setCell]⟩
theorem Rd.fr {S : List Nat} {w w' : World} {rb g : Nat} {rest : List UInt8} (h : Rd w rb g rest) (hf : Fr S w w') (h1 : rb ∉ S) (h2 : g ∉ S) : Rd w' rb g rest := by
  obtain ⟨off, c, k1, k2, k4⟩ := h
  exact ⟨off, c, k1.fr hf h1, k2, fun j u hj => by rw [hf.cell (World.block_lt_of_cell? w _ (k4 j u hj)) h2]; exact k4 j u hj⟩
set_option maxRecDepth 100000 in
set_option maxHeartbeats 1000000 in
theorem one_rd {w : World} {rb g : Nat} {x : UInt8} {rest : List UInt8} (h : Rd w rb g (x :: rest)) (hg : g ≠ rb) :
    Calls Tryz.prog 107 #[.pointer (some ⟨rb, 0, none⟩)] w fun e w' => e = .returned (.int .i64 (x.toNat : Int)) ∧ Rd w' rb g rest ∧ Fr [rb] w w' ∧ w'.heap.size = w.heap.size := by
  have HT := Lib.hid (take_rd (k := 1) h (by simp) hg)
  clear h
  refine calls_post fun R HQ => ?_
  go_enter Tryz.func107, Tryz.ntmps107
  go_wp2_with fail
  refine HT.out.mono ?_
  rintro e w1 ⟨v, rfl, hb, hr, hf, hz⟩
  obtain ⟨A, c, off, rfl, hc, hcell⟩ := hb
  obtain ⟨rfl, hc0⟩ := hcell (by simp)
  have k0 := hc0 0 (B8 x) rfl
  rw [Nat.add_zero] at k0
  have HQ1 : Hid (R (.returned (.int .i64 (x.toNat : Int))) w1) := Lib.hid (HQ.out _ _ ⟨rfl, hr, hf, hz⟩)
  have hx : x.toNat < 256 := x.toNat_lt
  unfold B8 at k0
  rw [show (List.take 1 (x :: rest)).length = 1 from rfl] at hc ⊢
  clear hcell hc0 hr hf hz HT
  go_wp2
  exact HQ1.out
section
variable {P : Program} {ops : Array Oper} {rest : List Oper} {o : Oper} {a : Act} {w : World} {Q : Exit → Act → World → Prop}
theorem wpL_load {g : Nat} {t' : TypeId} {cs : List Value} {d : TypeDesc} (hgd : o.guard = none) (t : TypeId) (x : Operand) (ho : o.op = .load t x) (hx : a.eval x = .pointer (some ⟨g, 0, none⟩)) (hb : Blk w g t' cs)
    (hu : P.underlying t = some d) (hd : d.isRow = true) (hi : (P.info? t).map (·.size) = some cs.length) (h : wpList P ops Q rest (a.put o.dst (.agg cs.toArray)) w) : wpList P ops Q (o :: rest) a w := by
  have hl := run_loadVar_row (P := P) w g t' t cs.toArray (0, 0) d hb hu (by cases d <;> simp_all) (by simpa using hi)
  refine wpList_plain hgd fun K hK => ?_
  unfold Oper.wp
  simp [execOp, ho, hx, Instr.loadAt, Instr.sureAddr, hl, Result.andThen]
  exact hK _ _ h
theorem wpL_store {g : Nat} {t' : TypeId} {old : List Value} (hgd : o.guard = none) (t : TypeId) (x y : Operand) (ho : o.op = .store t x y) (cs : List Value)
    (hx : a.eval x = .pointer (some ⟨g, 0, none⟩)) (hy : a.eval y = .agg cs.toArray) (hb : Blk w g t' old)
    (hi : (P.info? t).map (·.size) = some cs.length) (hl : old.length = cs.length) (h1 : ∀ v ∈ cs, v.oneCell' = true)
    (h : ∀ w1, Blk w1 g t' cs → Fr [g] w w1 → w1.heap.size = w.heap.size → wpList P ops Q rest (a.put o.dst undef) w1) : wpList P ops Q (o :: rest) a w := by
  refine wpList_plain hgd fun K hK => wp_store_row t x y ho cs hx hy hb hi hl h1 (hK _ _ (h _ (hb.row_ cs) ((Fr.refl _ _).setRow (by simp) _) (by simp [World.setRow])))
end
set_option maxRecDepth 100000 in
set_option maxHeartbeats 4000000 in
/-- An item read. -/
theorem item_rd {w : World} {rb g : Nat} {lf : Bool} {x : It} {rest : List UInt8} (h : Rd w rb g (ib lf x ++ rest)) (hx : x.ok lf) (hg : g ≠ rb) (hgl : g < w.heap.size) :
    Calls Tryz.prog 109 #[.pointer (some ⟨rb, 0, none⟩), .int .i64 (if lf then 1 else 2)] w fun e w' => ∃ kv vv, e = .returned (.agg #[kv, vv, .int .i64 (x.at_ : Int)]) ∧ ItC (fun q => w.heap.size ≤ q) w' x kv vv (.int .i64 (x.at_ : Int)) ∧ Rd w' rb g rest ∧ Fr [rb] w w' := by
  have hrl : rb < w.heap.size := by obtain ⟨_, _, hb, _⟩ := h; exact hb.lt
  obtain ⟨u, hu⟩ : ∃ u, u = UInt8.ofNat x.key.length := ⟨_, rfl⟩
  have hku : u.toNat = x.key.length := by rw [hu, UInt8.toNat_ofNat']; have := hx.k2; omega
  refine calls_post fun R HQ => ?_
  have hf0 : Fr [] w ((w.alloc (.cells zit.toArray 77)).alloc (.cells zit.toArray 77)) := ((Fr.refl [] w).alloc _).alloc _
  have hb4 : Blk ((w.alloc (.cells zit.toArray 77)).alloc (.cells zit.toArray 77)) w.heap.size 77 zit := (Blk.new w _ zit).alloc _
  have hb5 : Blk ((w.alloc (.cells zit.toArray 77)).alloc (.cells zit.toArray 77)) (w.heap.size + 1) 77 zit := by
    have := Blk.new (w.alloc (.cells zit.toArray 77)) 77 zit
    rwa [show (w.alloc (.cells zit.toArray 77)).heap.size = w.heap.size + 1 by simp] at this
  have hz0 : ((w.alloc (.cells zit.toArray 77)).alloc (.cells zit.toArray 77)).heap.size = w.heap.size + 2 := by simp
  have hr0 := h.fr hf0 (by simp) (by simp)
  have HX := Lib.hid hx
  clear h hx
  cases lf with
  | true =>
    have e0 : ib true x ++ rest = u :: (UInt8.ofNat x.v.length :: (x.key ++ (x.v ++ rest))) := by rw [hu]; simp [ib]
    obtain ⟨u2, hu2⟩ : ∃ u2, u2 = UInt8.ofNat x.v.length := ⟨_, rfl⟩
    have hvu : u2.toNat = x.v.length := by rw [hu2, UInt8.toNat_ofNat']; have := HX.out.v; omega
    rw [e0, ← hu2] at hr0
    have HO1 := Lib.hid (one_rd hr0 hg)
    have HF0 := Lib.hid hf0; have HB4 := Lib.hid hb4; have HB5 := Lib.hid hb5; have HZ0 := Lib.hid hz0
    have HKU := Lib.hid hku; have HVU := Lib.hid hvu
    clear hf0 hb4 hb5 hz0 hr0 e0 hu hu2 hku hvu
    go_enter Tryz.func109, Tryz.ntmps109
    go_wp2_with (with_reducible refine wpList_alloc_z rfl 77 rfl (.agg #[.slice none 0 0, .slice none 0 0, .int .i64 0]) zit.toArray zero_it rfl ?_)
    refine HO1.out.mono ?_
    rintro e w1 ⟨rfl, hr1, hf1, hz1⟩
    have HO2 := Lib.hid (one_rd hr1 hg)
    have HF1 := Lib.hid hf1; have HZ1 := Lib.hid hz1
    clear hr1 hf1 hz1
    go_wp2_with fail
    refine HO2.out.mono ?_
    rintro e w2 ⟨rfl, hr2, hf2, hz2⟩
    have HO3 := Lib.hid (take_rd (k := u.toNat) hr2 (by rw [HKU.out, List.length_append]; omega) hg)
    have HF2 := Lib.hid (HF1.out.trans hf2 (by simp)); have HZ2 := Lib.hid (hz2.trans HZ1.out)
    clear hr2 hf2 hz2
    go_wp2_with fail
    refine HO3.out.mono ?_
    rintro e w3 ⟨v3, rfl, hb3, hr3, hf3, hz3⟩
    rw [HKU.out, List.take_left] at hb3
    rw [HKU.out, List.drop_left] at hr3
    have HO4 := Lib.hid (bytes_clone hb3 (by have := HX.out.k2; omega))
    have HF3 := Lib.hid (HF2.out.trans hf3 (by simp)); have HZ3 := Lib.hid (hz3.trans HZ2.out); have HR3 := Lib.hid hr3
    clear hb3 hr3 hf3 hz3
    go_wp2_with fail
    refine HO4.out.mono ?_
    rintro e w4 ⟨_, rfl, ⟨g4, hb4', hg4⟩, hf4⟩
    obtain ⟨A4, c4, o4, rfl, hc4, hcc4⟩ := id hb4'
    clear hc4 hcc4
    have hf04 : Fr [rb] ((w.alloc (.cells zit.toArray 77)).alloc (.cells zit.toArray 77)) w4 := HF3.out.trans hf4 (by simp)
    have hfw4 : Fr [rb] w w4 := (HF0.out.mono (by simp)).trans hf04 (by simp)
    have hB5 := HB5.out.fr hf04 (by simp; omega)
    have hB4 := HB4.out.fr hf04 (by simp; omega)
    have k50 := hB5.at_ (i := 0) rfl
    have hfz := hB5.free
    have hl5 := hB5.lt
    have hz4 := hf4.size
    have hzw : w.heap.size + 2 ≤ w4.heap.size := by have := HZ3.out; have := HZ0.out; omega
    have HS5 : ∀ vv : Value, Fr [w.heap.size + 1] w4 (w4.setCell ⟨w.heap.size + 1, 0, none⟩ vv) := fun vv => (Fr.refl _ _).setCell (.inl (by simp)) _
    have hr4 := (HR3.out.fr hf4 (by simp) (by simp)).fr (HS5 (.slice A4 x.key.length c4)) (by simp; omega) (by simp; omega)
    have hg4' : w.heap.size + 2 ≤ g4 := by have := HZ3.out; have := HZ0.out; omega
    have HC4 : Hid (BytesAt (w4.setCell ⟨w.heap.size + 1, 0, none⟩ (.slice A4 x.key.length c4)) (.slice A4 x.key.length c4) x.key g4) := Lib.hid (hb4'.fr (HS5 (.slice A4 x.key.length c4)) (by simp; omega))
    have HB5' := Lib.hid (hB5.set_ 0 (.slice A4 x.key.length c4))
    have HB4' := Lib.hid (hB4.fr (HS5 (.slice A4 x.key.length c4)) (by simp))
    have HF4 := Lib.hid (hfw4.setCell (p := ⟨w.heap.size + 1, 0, none⟩) (.inr (by simp)) (.slice A4 x.key.length c4))
    have HO5 := Lib.hid (take_rd (k := u2.toNat) hr4 (by rw [HVU.out, List.length_append]; omega) hg)
    have HZ4 : Hid (w.heap.size + 2 ≤ (w4.setCell ⟨w.heap.size + 1, 0, none⟩ (.slice A4 x.key.length c4)).heap.size) := Lib.hid (by simpa [World.setCell] using hzw)
    clear hf04 hfw4 hB5 hB4 hz4 hzw HS5 hr4 hb4' hg4 hf4 HR3 HF3
    go_wp2_with fail
    clear k50 hfz hl5
    refine HO5.out.mono ?_
    rintro e w6 ⟨v6, rfl, hb6, hr6, hf6, hz6⟩
    rw [HVU.out, List.take_left] at hb6
    rw [HVU.out, List.drop_left] at hr6
    have HO6 := Lib.hid (bytes_clone hb6 (by have := HX.out.v; omega))
    have hg4s : g4 ∉ [rb] := by simp; omega
    have HC6 := Lib.hid (HC4.out.fr hf6 hg4s); have HF6 := Lib.hid (HF4.out.trans hf6 (by simp)); have HR6 := Lib.hid hr6
    have HB56 := Lib.hid (HB5'.out.fr hf6 (by simp; omega)); have HB46 := Lib.hid (HB4'.out.fr hf6 (by simp; omega))
    have HZ6 : Hid (w.heap.size + 2 ≤ w6.heap.size) := Lib.hid (by have := HZ4.out; omega)
    clear hb6 hr6 hf6 hz6 HC4 HF4 HB5' HB4' HZ4 HO5 hg4s
    go_wp2_with fail
    refine HO6.out.mono ?_
    rintro e w7 ⟨_, rfl, ⟨g7, hb7, hg7⟩, hf7⟩
    obtain ⟨A7, c7, o7, rfl, hc7, hcc7⟩ := id hb7
    clear hc7 hcc7
    have hB5 := HB56.out.fr hf7 (by simp)
    have k51 := hB5.at_ (i := 1) rfl
    have hfz := hB5.free
    have hl5 := hB5.lt
    have hs5 : Fr [w.heap.size + 1] w7 (w7.setCell ⟨w.heap.size + 1, 1, none⟩ (.slice A7 x.v.length c7)) := (Fr.refl _ _).setCell (.inl (by simp)) _
    have hzw := HZ6.out
    have hg7' : w.heap.size + 2 ≤ g7 := by omega
    have hz7 := hf7.size
    have HB58 : Hid (Blk (w7.setCell ⟨w.heap.size + 1, 1, none⟩ (.slice A7 x.v.length c7)) (w.heap.size + 1) 77 [(.slice A4 x.key.length c4), (.slice A7 x.v.length c7), .int .i64 0]) := Lib.hid (hB5.set_ 1 (.slice A7 x.v.length c7))
    have HB48 := Lib.hid ((HB46.out.fr hf7 (by simp)).fr hs5 (by simp))
    have HC8 : Hid (ItC (fun q => w.heap.size + 2 ≤ q) (w7.setCell ⟨w.heap.size + 1, 1, none⟩ (.slice A7 x.v.length c7)) x (.slice A4 x.key.length c4) (.slice A7 x.v.length c7) (.int .i64 (x.at_ : Int))) := Lib.hid ⟨⟨g4, (HC6.out.fr hf7 (by simp)).fr hs5 (by simp; omega), by omega⟩, ⟨g7, hb7.fr hs5 (by simp; omega), by omega⟩, rfl⟩
    have HR8 := Lib.hid ((HR6.out.fr hf7 (by simp) (by simp)).fr hs5 (by simp; omega) (by simp; omega))
    have HF8 := Lib.hid ((HF6.out.trans hf7 (by simp)).setCell (p := ⟨w.heap.size + 1, 1, none⟩) (.inr (by simp)) (.slice A7 x.v.length c7))
    have hat : x.at_ = 0 := by have := HX.out.bare; simpa using this
    have HT : Hid (Three [(.slice A4 x.key.length c4), (.slice A7 x.v.length c7), .int .i64 0]) := Lib.hid (by have := HC8.out.one; rw [hat] at this; exact this)
    have HAT := Lib.hid hat
    clear hb7 hf7 hs5 hB5 HC6 HF6 HR6 HB56 HB46 hg7 hat
    go_upto_region 9 with fail
    clear k51 hfz hl5
    go_wp2_with (first
      | (refine wpL_load rfl 77 (.tmp 5) rfl rfl HB58.out Tryz.underlying77 rfl size_it ?_)
      | (refine wpL_store rfl 77 (.tmp 4) (.tmp 32) rfl [(.slice A4 x.key.length c4), (.slice A7 x.v.length c7), .int .i64 0] rfl rfl HB48.out size_it rfl HT.out ?_))
    intro w9 hb9 hf9 hz9
    have HE : Hid (∃ kv vv, Ending.returned (.agg #[(.slice A4 x.key.length c4), (.slice A7 x.v.length c7), .int .i64 0]) = .returned (.agg #[kv, vv, .int .i64 (x.at_ : Int)]) ∧ ItC (fun q => w.heap.size ≤ q) w9 x kv vv (.int .i64 (x.at_ : Int)) ∧ Rd w9 rb g rest ∧ Fr [rb] w w9) := Lib.hid ⟨(.slice A4 x.key.length c4), (.slice A7 x.v.length c7), by rw [HAT.out]; rfl, (HC8.out.fr hf9 (fun q (hq : w.heap.size + 2 ≤ q) hm => by have := List.mem_singleton.1 hm; omega)).weak (fun q (hq : w.heap.size + 2 ≤ q) => by show w.heap.size ≤ q; omega), HR8.out.fr hf9 (by simp; omega) (by simp; omega), HF8.out.trans hf9 (by simp)⟩
    have HB9 := Lib.hid hb9
    clear hb9 hf9 hz9
    go_wp2_with fail
    refine ret_blk (g := w.heap.size) (t' := 77) (cs := [(.slice A4 x.key.length c4), (.slice A7 x.v.length c7), .int .i64 0]) (d := _) rfl rfl HB9.out Tryz.underlying77 rfl size_it (HQ.out _ _ HE.out)
  | false =>
    have e0 : ib false x ++ rest = u :: (x.key ++ (b16 x.at_ ++ rest)) := by rw [hu]; simp [ib]
    rw [e0] at hr0
    have HO1 := Lib.hid (one_rd hr0 hg)
    have HF0 := Lib.hid hf0; have HB4 := Lib.hid hb4; have HB5 := Lib.hid hb5; have HZ0 := Lib.hid hz0
    have HKU := Lib.hid hku
    clear hf0 hb4 hb5 hz0 hr0 e0 hu hku
    go_enter Tryz.func109, Tryz.ntmps109
    go_wp2_with (with_reducible refine wpList_alloc_z rfl 77 rfl (.agg #[.slice none 0 0, .slice none 0 0, .int .i64 0]) zit.toArray zero_it rfl ?_)
    refine HO1.out.mono ?_
    rintro e w2 ⟨rfl, hr2, hf2, hz2⟩
    have HO3 := Lib.hid (take_rd (k := u.toNat) hr2 (by rw [HKU.out, List.length_append]; omega) hg)
    have HF2 := Lib.hid hf2; have HZ2 := Lib.hid hz2
    clear hr2 hf2 hz2
    go_wp2_with fail
    refine HO3.out.mono ?_
    rintro e w3 ⟨v3, rfl, hb3, hr3, hf3, hz3⟩
    rw [HKU.out, List.take_left] at hb3
    rw [HKU.out, List.drop_left] at hr3
    have HO4 := Lib.hid (bytes_clone hb3 (by have := HX.out.k2; omega))
    have HF3 := Lib.hid (HF2.out.trans hf3 (by simp)); have HZ3 := Lib.hid (hz3.trans HZ2.out); have HR3 := Lib.hid hr3
    clear hb3 hr3 hf3 hz3
    go_wp2_with fail
    refine HO4.out.mono ?_
    rintro e w4 ⟨_, rfl, ⟨g4, hb4', hg4⟩, hf4⟩
    obtain ⟨A4, c4, o4, rfl, hc4, hcc4⟩ := id hb4'
    clear hc4 hcc4
    have hf04 : Fr [rb] ((w.alloc (.cells zit.toArray 77)).alloc (.cells zit.toArray 77)) w4 := HF3.out.trans hf4 (by simp)
    have hfw4 : Fr [rb] w w4 := (HF0.out.mono (by simp)).trans hf04 (by simp)
    have hB5 := HB5.out.fr hf04 (by simp; omega)
    have hB4 := HB4.out.fr hf04 (by simp; omega)
    have k50 := hB5.at_ (i := 0) rfl
    have hfz := hB5.free
    have hl5 := hB5.lt
    have hz4 := hf4.size
    have hzw : w.heap.size + 2 ≤ w4.heap.size := by have := HZ3.out; have := HZ0.out; omega
    have HS5 : ∀ vv : Value, Fr [w.heap.size + 1] w4 (w4.setCell ⟨w.heap.size + 1, 0, none⟩ vv) := fun vv => (Fr.refl _ _).setCell (.inl (by simp)) _
    have hr4 := (HR3.out.fr hf4 (by simp) (by simp)).fr (HS5 (.slice A4 x.key.length c4)) (by simp; omega) (by simp; omega)
    have hg4' : w.heap.size + 2 ≤ g4 := by have := HZ3.out; have := HZ0.out; omega
    have HC4 : Hid (BytesAt (w4.setCell ⟨w.heap.size + 1, 0, none⟩ (.slice A4 x.key.length c4)) (.slice A4 x.key.length c4) x.key g4) := Lib.hid (hb4'.fr (HS5 (.slice A4 x.key.length c4)) (by simp; omega))
    have HB5' := Lib.hid (hB5.set_ 0 (.slice A4 x.key.length c4))
    have HB4' := Lib.hid (hB4.fr (HS5 (.slice A4 x.key.length c4)) (by simp))
    have HF4 := Lib.hid (hfw4.setCell (p := ⟨w.heap.size + 1, 0, none⟩) (.inr (by simp)) (.slice A4 x.key.length c4))
    have HO5 := Lib.hid (take_rd (k := 2) hr4 (by rw [List.length_append]; show 2 ≤ 2 + _; omega) hg)
    have HZ4 : Hid (w.heap.size + 2 ≤ (w4.setCell ⟨w.heap.size + 1, 0, none⟩ (.slice A4 x.key.length c4)).heap.size) := Lib.hid (by simpa [World.setCell] using hzw)
    clear hf04 hfw4 hB5 hB4 hz4 hzw HS5 hr4 hb4' hg4 hf4 HR3 HF3
    go_wp2_with fail
    clear k50 hfz hl5
    refine HO5.out.mono ?_
    rintro e w6 ⟨v6, rfl, hb6, hr6, hf6, hz6⟩
    have et : (b16 x.at_ ++ rest).take 2 = b16 x.at_ := rfl
    have ed : (b16 x.at_ ++ rest).drop 2 = rest := rfl
    rw [et] at hb6
    rw [ed] at hr6
    have hr16 : r16 (b16 x.at_) = x.at_ := by have := r16_b16 HX.out.at_ []; rwa [List.append_nil] at this
    have hh := half16_any hb6 (by show 2 ≤ 2; omega)
    rw [hr16] at hh
    have HO6 := Lib.hid hh
    have hg4s : g4 ∉ [rb] := by simp; omega
    have HC6 := Lib.hid (HC4.out.fr hf6 hg4s); have HF6 := Lib.hid (HF4.out.trans hf6 (by simp)); have HR6 := Lib.hid hr6
    have HB56 := Lib.hid (HB5'.out.fr hf6 (by simp; omega)); have HB46 := Lib.hid (HB4'.out.fr hf6 (by simp; omega))
    have HZ6 : Hid (w.heap.size + 2 ≤ w6.heap.size) := Lib.hid (by have := HZ4.out; omega)
    clear hb6 hr6 hf6 hz6 HC4 HF4 HB5' HB4' HZ4 HO5 hg4s et ed hr16 hh
    go_wp2_with fail
    refine HO6.out.mono ?_
    rintro e w7 ⟨rfl, q7, hq7⟩
    have hf7 : Fr [] w6 w7 := by rw [hq7]; exact (Fr.refl _ _).drewN _
    have hB5 := HB56.out.fr hf7 (by simp)
    have k51 := hB5.at_ (i := 2) rfl
    have hfz := hB5.free
    have hl5 := hB5.lt
    have hs5 : Fr [w.heap.size + 1] w7 (w7.setCell ⟨w.heap.size + 1, 2, none⟩ (.int .i64 (x.at_ : Int))) := (Fr.refl _ _).setCell (.inl (by simp)) _
    have hzw := HZ6.out
    have hz7 := hf7.size
    have hv0 : x.v = [] := by have := HX.out.bare; simpa using this
    have HB58 : Hid (Blk (w7.setCell ⟨w.heap.size + 1, 2, none⟩ (.int .i64 (x.at_ : Int))) (w.heap.size + 1) 77 [.slice A4 x.key.length c4, .slice none 0 0, .int .i64 (x.at_ : Int)]) := Lib.hid (hB5.set_ 2 (.int .i64 (x.at_ : Int)))
    have HB48 := Lib.hid ((HB46.out.fr hf7 (by simp)).fr hs5 (by simp))
    have HC8 : Hid (ItC (fun q => w.heap.size + 2 ≤ q) (w7.setCell ⟨w.heap.size + 1, 2, none⟩ (.int .i64 (x.at_ : Int))) x (.slice A4 x.key.length c4) (.slice none 0 0) (.int .i64 (x.at_ : Int))) := Lib.hid ⟨⟨g4, (HC6.out.fr hf7 (by simp)).fr hs5 (by simp; omega), by omega⟩, ⟨w.heap.size + 2, by rw [hv0]; exact BytesAt.nil _ _, by omega⟩, rfl⟩
    have HR8 := Lib.hid ((HR6.out.fr hf7 (by simp) (by simp)).fr hs5 (by simp; omega) (by simp; omega))
    have HF8 := Lib.hid ((HF6.out.trans hf7 (by simp)).setCell (p := ⟨w.heap.size + 1, 2, none⟩) (.inr (by simp)) (.int .i64 (x.at_ : Int)))
    have HT : Hid (Three [.slice A4 x.key.length c4, .slice none 0 0, .int .i64 (x.at_ : Int)]) := Lib.hid HC8.out.one
    clear hf7 hs5 hB5 HC6 HF6 HR6 HB56 HB46 hv0 hq7
    go_upto_region 9 with fail
    clear k51 hfz hl5
    go_wp2_with (first
      | (refine wpL_load rfl 77 (.tmp 5) rfl rfl HB58.out Tryz.underlying77 rfl size_it ?_)
      | (refine wpL_store rfl 77 (.tmp 4) (.tmp 32) rfl [.slice A4 x.key.length c4, .slice none 0 0, .int .i64 (x.at_ : Int)] rfl rfl HB48.out size_it rfl HT.out ?_))
    intro w9 hb9 hf9 hz9
    have HE : Hid (∃ kv vv, Ending.returned (.agg #[.slice A4 x.key.length c4, .slice none 0 0, .int .i64 (x.at_ : Int)]) = .returned (.agg #[kv, vv, .int .i64 (x.at_ : Int)]) ∧ ItC (fun q => w.heap.size ≤ q) w9 x kv vv (.int .i64 (x.at_ : Int)) ∧ Rd w9 rb g rest ∧ Fr [rb] w w9) := Lib.hid ⟨_, _, rfl, (HC8.out.fr hf9 (fun q (hq : w.heap.size + 2 ≤ q) hm => by have := List.mem_singleton.1 hm; omega)).weak (fun q (hq : w.heap.size + 2 ≤ q) => by show w.heap.size ≤ q; omega), HR8.out.fr hf9 (by simp; omega) (by simp; omega), HF8.out.trans hf9 (by simp)⟩
    have HB9 := Lib.hid hb9
    clear hb9 hf9 hz9
    go_wp2_with fail
    refine ret_blk (g := w.heap.size) (t' := 77) (cs := [.slice A4 x.key.length c4, .slice none 0 0, .int .i64 (x.at_ : Int)]) (d := _) rfl rfl HB9.out Tryz.underlying77 rfl size_it (HQ.out _ _ HE.out)
end Go.Proofs.YtpjbdpepofnleaaGreat
end
