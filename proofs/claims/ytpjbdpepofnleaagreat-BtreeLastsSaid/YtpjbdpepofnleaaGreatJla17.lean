/-
  Joined by join.py: Qc Qd
-/
import Derived.Test.YtpjbdpepofnleaaGreatJla16
section
namespace Go.Proofs.YtpjbdpepofnleaaGreat
open Go.RowKit Go.ChangeMaps Go.MapKept Go.Maps Go.Sort Go.Shelf
def setV (l : List It) (k : Nat) (v : List UInt8) : List It := l.take k ++ match l.drop k with | y :: B => { y with v := v } :: B | [] => []
theorem place_take (l : List It) (key : Ky) : l.take (placeOf l key) = (l.takeWhile fun y => decide (klt y.key key)) ∧ l.drop (placeOf l key) = l.dropWhile fun y => decide (klt y.key key) := by
  have e := List.takeWhile_append_dropWhile (p := fun y : It => decide (klt y.key key)) (l := l)
  have h1 : l.take (placeOf l key) = ((l.takeWhile fun y => decide (klt y.key key)) ++ l.dropWhile fun y => decide (klt y.key key)).take (l.takeWhile fun y => decide (klt y.key key)).length := by rw [e]; rfl
  have h2 : l.drop (placeOf l key) = ((l.takeWhile fun y => decide (klt y.key key)) ++ l.dropWhile fun y => decide (klt y.key key)).drop (l.takeWhile fun y => decide (klt y.key key)).length := by rw [e]; rfl
  rw [h1, h2, List.take_left, List.drop_left]
  exact ⟨rfl, rfl⟩
theorem leafPut_is {l : List It} {x : It} (h : isAt l x.key = true) : leafPut l x = setV l (placeOf l x.key) x.v := by
  obtain ⟨h1, h2⟩ := place_take l x.key
  unfold isAt at h
  unfold leafPut setV
  rw [h1, h2]
  cases hd : l.dropWhile fun y => decide (klt y.key x.key) with
  | nil => rw [hd] at h; cases h
  | cons y B =>
    rw [hd] at h
    have hk : y.key = x.key := by simpa [headIs] using h
    simp only
    rw [if_pos hk]
theorem leafPut_no {l : List It} {x : It} (h : isAt l x.key = false) : leafPut l x = insAt l (placeOf l x.key) x := by
  obtain ⟨h1, h2⟩ := place_take l x.key
  unfold isAt at h
  unfold leafPut insAt
  rw [h1, h2]
  cases hd : l.dropWhile fun y => decide (klt y.key x.key) with
  | nil => rfl
  | cons y B =>
    rw [hd] at h
    have hk : ¬ y.key = x.key := by simpa [headIs] using h
    simp only
    rw [if_neg hk]
theorem isAt_lt {l : List It} {key : Ky} (h : isAt l key = true) : placeOf l key < l.length := by
  rcases place_head (l := l) (key := key) with h1 | h1
  · exact h1.1
  · rw [h1.2] at h; cases h
theorem setV_len (l : List It) (k : Nat) (v : List UInt8) : (setV l k v).length = l.length := by
  unfold setV
  have h : (l.take k).length + (l.drop k).length = l.length := by rw [← List.length_append, List.take_append_drop]
  cases hd : l.drop k with
  | nil => rw [hd] at h; simpa using h
  | cons y B => rw [hd] at h; simpa using h
theorem reKey_len (l : List It) (k : Nat) (v : Ky) : (reKey l k v).length = l.length := by
  unfold reKey
  have h : (l.take k).length + (l.drop k).length = l.length := by rw [← List.length_append, List.take_append_drop]
  cases hd : l.drop k with
  | nil => rw [hd] at h; simpa using h
  | cons y B => rw [hd] at h; simpa using h
theorem insAt_len (l : List It) {k : Nat} (x : It) (h : k ≤ l.length) : (insAt l k x).length = l.length + 1 := by
  unfold insAt; rw [List.length_append, List.length_cons, List.length_take, List.length_drop]; omega
theorem delAt_len (l : List It) {k : Nat} (h : k < l.length) : (delAt l k).length = l.length - 1 := by
  unfold delAt; rw [List.length_append, List.length_take, List.length_drop]; omega
theorem lay_same (c : CD) (k : Nat) (n : Nd) : (c.lay k n).1.pg = c.pg ∧ (c.lay k n).1.n = c.n := by
  unfold CD.lay
  have ha : c.alloc.1.pg = c.pg := by
    unfold CD.alloc
    split
    · rfl
    · split
      · rfl
      · unfold CD.full; split <;> rfl
  split
  · exact ⟨rfl, rfl⟩
  · exact ⟨ha, alloc_n c⟩
theorem lay_eq {c c' : CD} {k : Nat} {n : Nd} {u : Ky × Nat} (h : (c', u) = c.lay k n) : c'.pg = c.pg ∧ c'.n = c.n := by
  have h1 : c' = (c.lay k n).1 := congrArg Prod.fst h
  rw [h1]
  exact lay_same c k n
theorem PutW.same : ∀ {f : Nat} {c : CD} {k : Nat} {x : It} {c' : CD} {u : Ky × Nat}, PutW f c k x c' u → c'.pg = c.pg ∧ c'.n = c.n
  | 0, _, _, _, _, _, h => h.elim
  | f + 1, c, k, x, c', u, ⟨n, _, _, _, h⟩ => by
    rcases h with ⟨_, _, h⟩ | ⟨_, c1, u1, h1, h⟩
    · exact lay_eq h
    · obtain ⟨a, b⟩ := PutW.same h1
      rcases h with ⟨_, rfl, _⟩ | ⟨_, _, h⟩
      · exact ⟨a, b⟩
      · exact ⟨(lay_eq h).1.trans a, (lay_eq h).2.trans b⟩
theorem JoinW.same {c : CD} {k : Nat} {n : Nd} {i : Nat} {c' : CD} {u' : Ky × Nat} (h : JoinW c k n i c' u') : c'.pg = c.pg ∧ c'.n = c.n := by
  obtain ⟨a, b, y, m, _, _, _, _, _, _, h⟩ := h
  rcases h with ⟨_, _, h⟩ | ⟨_, _, _, h⟩
  · obtain ⟨a1, a2⟩ := lay_eq h; exact ⟨a1, a2⟩
  · obtain ⟨a1, a2⟩ := lay_eq h; exact ⟨a1, a2⟩
theorem MendW.same {c : CD} {k : Nat} {n : Nd} {i : Nat} {u : Ky × Nat} {c' : CD} {u' : Ky × Nat} (h : MendW c k n i u c' u') : c'.pg = c.pg ∧ c'.n = c.n := by
  obtain ⟨_, _, _, h⟩ := h
  rcases h with ⟨_, _, h⟩ | ⟨_, x, _, h⟩
  · exact lay_eq h
  · rcases h with ⟨_, h, _⟩ | ⟨_, _, _, h⟩
    · rw [h]; exact ⟨rfl, rfl⟩
    · exact h.same
theorem CutW.same : ∀ {f : Nat} {c : CD} {k : Nat} {key : Ky} {c' : CD} {is : Bool} {u : Ky × Nat}, CutW f c k key c' is u → c'.pg = c.pg ∧ c'.n = c.n
  | 0, _, _, _, _, _, _, h => h.elim
  | f + 1, c, k, key, c', is, u, ⟨n, _, _, _, h⟩ => by
    rcases h with ⟨_, _, _, h⟩ | ⟨_, c1, is1, u1, h1, h⟩
    · rcases h with ⟨_, h, _⟩ | ⟨_, h⟩
      · rw [h]; exact ⟨rfl, rfl⟩
      · rw [h]; exact ⟨rfl, rfl⟩
    · obtain ⟨a, b⟩ := CutW.same h1
      rcases h with ⟨_, _, h, _⟩ | ⟨_, _, h⟩
      · rw [h]; exact ⟨a, b⟩
      · obtain ⟨a2, b2⟩ := h.same
        exact ⟨a2.trans a, b2.trans b⟩
section
variable {w0 wS w w' : World} {dk g bc bn bs : Nat} {s : PS} {X D D' : Nat → Prop} {c : CD}
theorem PgC.to {c' : CD} (h : PgC w0 wS dk g s X c) (hs : c'.pg = c.pg ∧ c'.n = c.n) : PgC w0 wS dk g s X c' := ⟨h.px, h.br, h.calm, hs.1.trans h.pg, hs.2.trans h.n⟩
theorem ItsC.setV {y : It} {kv vv av : Value} : ∀ {l : List It} {cs : List Value} {k : Nat} {v : List UInt8}, ItsC D w l cs → l[k]? = some y → (∃ g, BytesAt w vv v g ∧ D g) → ItsC D w (Go.Proofs.YtpjbdpepofnleaaGreat.setV l k v) (cs.set (k * 3 + 1) vv)
  | z :: l, a :: b :: d :: cs, 0, v, h, hk, hv => by
    have e : Go.Proofs.YtpjbdpepofnleaaGreat.setV (z :: l) 0 v = { z with v := v } :: l := rfl
    rw [e]
    exact ⟨⟨h.1.1, hv, h.1.2.2⟩, h.2⟩
  | z :: l, a :: b :: d :: cs, k + 1, v, h, hk, hv => by
    have ih := ItsC.setV (kv := kv) (av := av) (k := k) (v := v) h.2 (by simpa using hk) hv
    have e : Go.Proofs.YtpjbdpepofnleaaGreat.setV (z :: l) (k + 1) v = z :: Go.Proofs.YtpjbdpepofnleaaGreat.setV l k v := rfl
    rw [e, show (k + 1) * 3 + 1 = k * 3 + 1 + 1 + 1 + 1 by omega]
    exact ⟨h.1, ih⟩
  | [], [], _, _, _, hk, _ => by simp at hk
  | [], _ :: _, _, _, h, _, _ => h.elim
  | _ :: _, [], _, _, h, _, _ => h.elim
  | _ :: _, [_], _, _, h, _, _ => h.elim
  | _ :: _, [_, _], _, _, h, _, _ => h.elim
theorem ItsC.setK {y : It} {kv vv av : Value} : ∀ {l : List It} {cs : List Value} {k : Nat} {v : Ky}, ItsC D w l cs → l[k]? = some y → (∃ g, BytesAt w kv v g ∧ D g) → ItsC D w (reKey l k v) (cs.set (k * 3) kv)
  | z :: l, a :: b :: d :: cs, 0, v, h, hk, hv => by
    have e : reKey (z :: l) 0 v = { z with key := v } :: l := rfl
    rw [e]
    exact ⟨⟨hv, h.1.2.1, h.1.2.2⟩, h.2⟩
  | z :: l, a :: b :: d :: cs, k + 1, v, h, hk, hv => by
    have ih := ItsC.setK (vv := vv) (av := av) (k := k) (v := v) h.2 (by simpa using hk) hv
    have e : reKey (z :: l) (k + 1) v = z :: reKey l k v := rfl
    rw [e, show (k + 1) * 3 = k * 3 + 1 + 1 + 1 by omega]
    exact ⟨h.1, ih⟩
  | [], [], _, _, _, hk, _ => by simp at hk
  | [], _ :: _, _, _, h, _, _ => h.elim
  | _ :: _, [], _, _, h, _, _ => h.elim
  | _ :: _, [_], _, _, h, _, _ => h.elim
  | _ :: _, [_, _], _, _, h, _, _ => h.elim
structure Parts (D : Nat → Prop) (w : World) (base : Nat) (A : Option Addr) (ca : Nat) (n : Nd) (cs : List Value) : Prop where
  own : w.ownsRow base 77 3 (.slice A n.l.length ca) n.l.length cs
  its : ItsC (fun q => D q ∧ (Value.slice A n.l.length ca).ownBlock ≠ some q) w n.l cs
  dom : ∀ q, (Value.slice A n.l.length ca).ownBlock = some q → D q
  cap : n.l.length ≤ ca
theorem NdV.open_ {base : Nat} {v : Value} {n : Nd} (h : NdV D w base v n) : ∃ A ca cs, v = .agg #[.int .i64 (kindOf n), .int .i64 (n.first : Int), .slice A n.l.length ca] ∧ Parts D w base A ca n cs := by
  obtain ⟨sv, cs, rfl, h2, h3, h4⟩ := h
  obtain ⟨A, c, rfl, h5, _⟩ := own_shape h2
  exact ⟨A, c, cs, rfl, h2, h3, h4, h5⟩
section
variable {base : Nat} {A : Option Addr} {ca : Nat} {n : Nd} {cs : List Value}
theorem Parts.nd (h : Parts D w base A ca n cs) : NdV D w base (.agg #[.int .i64 (kindOf n), .int .i64 (n.first : Int), .slice A n.l.length ca]) n := ⟨_, cs, rfl, h.own, h.its, h.dom⟩
theorem Parts.fr {S : List Nat} (h : Parts D w base A ca n cs) (hf : Fr S w w') (hS : ∀ q, D q → q ∈ S → w.heap.size ≤ q) : Parts D w' base A ca n cs :=
  ⟨own_fr h.own hf (fun q hq hm => by have := own_lt h.own q hq; have := hS q (h.dom q hq) hm; omega), h.its.fr hf (fun q hq => hS q hq.1), h.dom, h.cap⟩
theorem Parts.len (h : Parts D w base A ca n cs) : cs.length = n.l.length * 3 := h.own.1
theorem Parts.one (h : Parts D w base A ca n cs) : Three cs := h.its.one
theorem Parts.ge (h : Parts D w base A ca n cs) : ∀ q, (Value.slice A n.l.length ca).ownBlock = some q → base ≤ q ∧ q < w.heap.size := fun q hq => ⟨by have := (h.own.lt q hq).1; omega, own_lt h.own q hq⟩
theorem Parts.at_ (h : Parts D w base A ca n cs) (h0 : 0 < n.l.length) : ∃ g, A = some ⟨g, 0, none⟩ ∧ D g ∧ base ≤ g ∧ g < w.heap.size ∧ ∀ (j : Nat) (u : Value), cs[j]? = some u → w.cell? ⟨g, j, none⟩ = some u := by
  obtain ⟨q, rfl, hc⟩ := own_cell h.own h0
  have := h.ge q rfl
  exact ⟨q, rfl, h.dom q rfl, this.1, this.2, hc⟩
theorem Parts.ins (h : Parts D w base A ca n cs) {i : Nat} (hi : i ≤ n.l.length) {x : It} {kv vv av : Value} (hx : ItC D w x kv vv av) (hxn : ∀ q, (Value.slice A n.l.length ca).ownBlock = some q → (∃ q', BytesAt w kv x.key q' ∧ D q' ∧ q' ≠ q) ∧ ∃ q', BytesAt w vv x.v q' ∧ D q' ∧ q' ≠ q)
    (hD : ∀ q, w.heap.size ≤ q → D q) {sv' : Value} (ho : w'.ownsRow base 77 3 sv' (n.l.length + 1) (cs.take (3 * i) ++ ([kv, vv, av] ++ cs.drop (3 * i)))) (hf : Fr (Value.slice A n.l.length ca).ownBlock.toList w w')
    (hq : ∀ q, sv'.ownBlock = some q → (Value.slice A n.l.length ca).ownBlock = some q ∨ w.heap.size ≤ q) :
    ∃ A' ca', sv' = .slice A' (n.l.length + 1) ca' ∧ Parts D w' base A' ca' { n with l := insAt n.l i x } (cs.take (3 * i) ++ ([kv, vv, av] ++ cs.drop (3 * i))) := by
  obtain ⟨A', ca', rfl, h5, _⟩ := own_shape ho
  have hln : (insAt n.l i x).length = n.l.length + 1 := insAt_len _ _ hi
  have hx2 : ItC (fun q => D q ∧ (Value.slice A n.l.length ca).ownBlock ≠ some q) w x kv vv av := by
    cases ho : (Value.slice A n.l.length ca).ownBlock with
    | none => exact hx.weak fun q hq => ⟨hq, by simp⟩
    | some q0 =>
      obtain ⟨⟨q1, a1, a2, a3⟩, q2, b1, b2, b3⟩ := hxn q0 ho
      exact ⟨⟨q1, a1, a2, fun e => a3 (Option.some.inj e).symm⟩, ⟨q2, b1, b2, fun e => b3 (Option.some.inj e).symm⟩, hx.2.2⟩
  have hfz : ∀ q, (D q ∧ (Value.slice A n.l.length ca).ownBlock ≠ some q) → q ∈ (Value.slice A n.l.length ca).ownBlock.toList → w.heap.size ≤ q := fun q hq hm => absurd (by simpa using hm) hq.2
  have hI : ItsC (fun q => D q ∧ (Value.slice A n.l.length ca).ownBlock ≠ some q) w (insAt n.l i x) (cs.take (3 * i) ++ ([kv, vv, av] ++ cs.drop (3 * i))) := by
    obtain ⟨t1, t2⟩ := h.its.take i
    exact t1.append (show ItsC _ _ (x :: n.l.drop i) (kv :: vv :: av :: cs.drop (3 * i)) from ⟨hx2, t2⟩)
  have hz := hf.size
  have hI2 : ItsC (fun q => (D q ∧ (Value.slice A n.l.length ca).ownBlock ≠ some q) ∧ (Value.slice A' (n.l.length + 1) ca').ownBlock ≠ some q) w (insAt n.l i x) (cs.take (3 * i) ++ ([kv, vv, av] ++ cs.drop (3 * i))) :=
    hI.re (fun q hd hl => ⟨hd, fun e => by
      rcases hq q e with h1 | h1
      · exact hd.2 h1
      · omega⟩) ⟨w'.heap.size, ⟨hD _ hz, fun e => by have := own_lt h.own _ e; omega⟩, fun e => by have := own_lt ho _ e; omega⟩
  refine ⟨A', ca', rfl, ⟨by show w'.ownsRow base _ 3 (.slice A' (insAt n.l i x).length ca') (insAt n.l i x).length _; rw [hln]; exact ho, ?_, fun q hq' => ?_, by show (insAt n.l i x).length ≤ ca'; rw [hln]; exact h5⟩⟩
  · show ItsC (fun q => D q ∧ (Value.slice A' (insAt n.l i x).length ca').ownBlock ≠ some q) w' (insAt n.l i x) _
    rw [hln]
    exact (hI2.fr hf fun q hd hm => hfz q hd.1 hm).weak fun q hd => ⟨hd.1.1, hd.2⟩
  · have hq2 : (Value.slice A' (n.l.length + 1) ca').ownBlock = some q := by
      have : (Value.slice A' (insAt n.l i x).length ca').ownBlock = some q := hq'
      rwa [hln] at this
    rcases hq q hq2 with h1 | h1
    · exact h.dom q h1
    · exact hD q h1
theorem Parts.del (h : Parts D w base A ca n cs) {i : Nat} (hi : i < n.l.length) {sv' : Value} (ho : w'.ownsRow base 77 3 sv' (n.l.length - 1) (cs.take (3 * i) ++ cs.drop (3 * i + 3))) (hq : sv'.ownBlock = (Value.slice A n.l.length ca).ownBlock) (hf : Fr (Value.slice A n.l.length ca).ownBlock.toList w w') :
    ∃ A' ca', sv' = .slice A' (n.l.length - 1) ca' ∧ Parts D w' base A' ca' { n with l := delAt n.l i } (cs.take (3 * i) ++ cs.drop (3 * i + 3)) := by
  obtain ⟨A', ca', rfl, h5, _⟩ := own_shape ho
  have hln : (delAt n.l i).length = n.l.length - 1 := delAt_len _ hi
  have hI : ItsC (fun q => D q ∧ (Value.slice A n.l.length ca).ownBlock ≠ some q) w (delAt n.l i) (cs.take (3 * i) ++ cs.drop (3 * i + 3)) := by
    have t1 := (h.its.take i).1
    have t2 := (h.its.take (i + 1)).2
    rw [show 3 * (i + 1) = 3 * i + 3 by omega] at t2
    exact t1.append t2
  refine ⟨A', ca', rfl, ⟨by show w'.ownsRow base _ 3 (.slice A' (delAt n.l i).length ca') (delAt n.l i).length _; rw [hln]; exact ho, ?_, fun q hq' => ?_, by show (delAt n.l i).length ≤ ca'; rw [hln]; exact h5⟩⟩
  · show ItsC (fun q => D q ∧ (Value.slice A' (delAt n.l i).length ca').ownBlock ≠ some q) w' (delAt n.l i) _
    rw [hln, hq]
    exact hI.fr hf fun q hd hm => absurd (by simpa using hm) hd.2
  · refine h.dom q ?_
    rw [← hq, ← hln]
    exact hq'
theorem Parts.set_ (h : Parts D w base A ca n cs) {i : Nat} (_hi : i < n.l.length) {q : Nat} (hA : A = some ⟨q, 0, none⟩) {j : Nat} {u : Value} {l' : List It} (hl' : l'.length = n.l.length) (hits : ItsC (fun q' => D q' ∧ q ≠ q') w l' (cs.set j u)) :
    Parts D (w.setCell ⟨q, j, none⟩ u) base A ca { n with l := l' } (cs.set j u) ∧ Fr [q] w (w.setCell ⟨q, j, none⟩ u) := by
  subst hA
  have hf : Fr [q] w (w.setCell ⟨q, j, none⟩ u) := (Fr.refl [q] w).setCell (.inl (by simp)) _
  have h1 := (h.own.stored j u).1
  refine ⟨⟨by show World.ownsRow _ base _ 3 (.slice _ l'.length ca) l'.length _; rw [hl']; exact h1, ?_, fun q' hq' => h.dom q' (by show some q = some q'; exact hq'), by show l'.length ≤ ca; rw [hl']; exact h.cap⟩, hf⟩
  refine (hits.fr hf fun q' hd hm => absurd (List.mem_singleton.1 hm).symm hd.2).weak fun q' hd => ⟨hd.1, fun e => hd.2 (Option.some.inj e)⟩
end
end
end Go.Proofs.YtpjbdpepofnleaaGreat
end
section
namespace Go.Proofs.YtpjbdpepofnleaaGreat
open Go.RowKit Go.ChangeMaps Go.MapKept Go.Maps Go.Sort Go.Shelf
abbrev LB := Nat × TypeId × List Value
structure NP where
  A : Option Addr
  ca : Nat
  n : Nd
  cs : List Value
def NP.sv (p : NP) : Value := .slice p.A p.n.l.length p.ca
def NP.v (p : NP) : Value := .agg #[.int .i64 (kindOf p.n), .int .i64 (p.n.first : Int), p.sv]
def Off (D : Nat → Prop) (L : List LB) (N : List NP) : Nat → Prop := fun q => D q ∧ (∀ l ∈ L, q ≠ l.1) ∧ ∀ p ∈ N, p.sv.ownBlock ≠ some q
inductive Kq where
  | by_ (v : Value) (bs : List UInt8)
  | nd (v : Value) (n : Nd)
def Kq.ok (D : Nat → Prop) (w : World) : Kq → Prop
  | .by_ v bs => ∃ q, BytesAt w v bs q ∧ D q
  | .nd v n => NdV D w 0 v n
theorem Kq.ok.weak {D D' : Nat → Prop} {w : World} {k : Kq} (h : k.ok D w) (hD : ∀ q, D q → D' q) : k.ok D' w := by
  cases k with
  | by_ v bs => exact Exists.imp (fun q hq => ⟨hq.1, hD q hq.2⟩) h
  | nd v n => exact NdV.weak h hD
theorem Kq.ok.re {D D' : Nat → Prop} {w : World} {k : Kq} (h : k.ok D w) (hD : ∀ q, D q → q < w.heap.size → D' q) (h0 : ∃ q, D' q ∧ w.heap.size ≤ q) : k.ok D' w := by
  cases k with
  | by_ v bs => exact BytesAt.re h hD (h0.imp fun q hq => hq.1)
  | nd v n => exact NdV.re h hD h0
theorem Kq.ok.fr {D : Nat → Prop} {S : List Nat} {w w' : World} {k : Kq} (h : k.ok D w) (hf : Fr S w w') (hS : ∀ q, D q → q ∈ S → w.heap.size ≤ q) : k.ok D w' := by
  cases k with
  | by_ v bs => exact Exists.imp (fun q hq => ⟨hq.1.frD hf (hS q hq.2), hq.2⟩) h
  | nd v n => exact NdV.fr h hf hS
structure Sx (wS w : World) (g bc bn bs : Nat) (D : Nat → Prop) (L : List LB) (N : List NP) (K : List Kq) (c : CD) (w' : World) : Prop where
  fr : Fr [bc, bn, bs] w w'
  ch : ChAt wS w' g bc bn bs (Off D L N) c
  loc : ∀ l ∈ L, Blk w' l.1 l.2.1 l.2.2 ∧ w.heap.size ≤ l.1
  lap : (L.map fun l => l.1).Nodup
  row : ∀ p ∈ N, w'.ownsRow w.heap.size 77 3 p.sv p.n.l.length p.cs
  its : ∀ p ∈ N, ItsC (Off D L N) w' p.n.l p.cs
  nap : N.Pairwise fun p p' => ∀ q, p.sv.ownBlock = some q → p'.sv.ownBlock ≠ some q
  rl : ∀ p ∈ N, ∀ l ∈ L, p.sv.ownBlock ≠ some l.1
  ks : ∀ k ∈ K, k.ok (Off D L N) w'
  hD : ∀ q, w.heap.size ≤ q → D q
  dom : ∀ q, D q → q ≠ bc ∧ q ≠ bn ∧ q ≠ bs
  low : bc < w.heap.size ∧ bn < w.heap.size ∧ bs < w.heap.size ∧ wS.heap.size ≤ w.heap.size
theorem Off.mono {D : Nat → Prop} {L L' : List LB} {N N' : List NP} (hL : ∀ l ∈ L', l ∈ L) (hN : ∀ p ∈ N', p ∈ N) : ∀ q, Off D L N q → Off D L' N' q := fun _ h => ⟨h.1, fun l hl => h.2.1 l (hL l hl), fun p hp => h.2.2 p (hN p hp)⟩
theorem Off.d {D : Nat → Prop} {L : List LB} {N : List NP} : ∀ q, Off D L N q → D q := fun _ h => h.1
section
variable {wS w w1 w2 : World} {g bc bn bs : Nat} {D : Nat → Prop} {L L' : List LB} {N N' : List NP} {K K' : List Kq} {c c' : CD}
theorem Sx.start (h : ChAt wS w g bc bn bs D c) (hD : ∀ q, w.heap.size ≤ q → D q) : Sx wS w g bc bn bs D [] [] [] c w := by
  have := h.lts
  exact ⟨Fr.refl _ _, h.weak (fun q hq => ⟨hq, fun _ h => by simp at h, fun _ h => by simp at h⟩) fun q hq => h.dom q hq.1, fun _ h => by simp at h, List.nodup_nil, fun _ h => by simp at h, fun _ h => by simp at h, List.Pairwise.nil, fun _ h => by simp at h, fun _ h => by simp at h, hD, h.dom, this.1, this.2.1, this.2.2, h.fr.size⟩
theorem Sx.less (h : Sx wS w g bc bn bs D L N K c w1) (hL : L'.Sublist L) (hN : N'.Sublist N) (hK : ∀ k ∈ K', k ∈ K) : Sx wS w g bc bn bs D L' N' K' c w1 := by
  have hm := Off.mono (D := D) (fun l hl => hL.mem hl) (fun p hp => hN.mem hp)
  exact ⟨h.fr, h.ch.weak hm fun q hq => h.dom q hq.1, fun l hl => h.loc l (hL.mem hl), h.lap.sublist (hL.map _), fun p hp => h.row p (hN.mem hp), fun p hp => (h.its p (hN.mem hp)).weak hm, h.nap.sublist hN, fun p hp l hl => h.rl p (hN.mem hp) l (hL.mem hl),
    fun k hk => (h.ks k (hK k hk)).weak hm, h.hD, h.dom, h.low⟩
theorem Sx.own (h : Sx wS w g bc bn bs D L N K c w1) {p : NP} (hp : p ∈ N) : ∀ q, p.sv.ownBlock = some q → w.heap.size ≤ q ∧ q < w1.heap.size := fun q hq => ⟨((h.row p hp).lt q hq).1, own_lt (h.row p hp) q hq⟩
theorem Sx.offD (h : Sx wS w g bc bn bs D L N K c w1) : ∀ q, w1.heap.size ≤ q → Off D L N q := fun q hq =>
  ⟨h.hD q (by have := h.fr.size; omega), fun l hl e => by have := (h.loc l hl).1.lt; omega, fun p hp e => by have := (h.own hp q e).2; omega⟩
theorem Sx.new (h : Sx wS w g bc bn bs D L N K c w1) (hf : Fr [] w1 w2) (hL : ∀ l ∈ L', Blk w2 l.1 l.2.1 l.2.2 ∧ w1.heap.size ≤ l.1) (hn : (L'.map fun l => l.1).Nodup) : Sx wS w g bc bn bs D (L' ++ L) N K c w2 := by
  have hz := hf.size
  have hz1 := h.fr.size
  have hre : ∀ q, Off D L N q → q < w1.heap.size → Off D (L' ++ L) N q := fun q hq hl => ⟨hq.1, fun l hl' => by
    rcases List.mem_append.1 hl' with h1 | h1
    · have := (hL l h1).2; omega
    · exact hq.2.1 l h1, hq.2.2⟩
  have hbig : ∃ q, Off D (L' ++ L) N q ∧ w2.heap.size ≤ q := ⟨w2.heap.size, ⟨h.hD _ (by omega), fun l hl e => by
    rcases List.mem_append.1 hl with h1 | h1
    · have := (hL l h1).1.lt; omega
    · have := (h.loc l h1).1.lt; omega, fun p hp e => by have := (h.own hp _ e).2; omega⟩, Nat.le_refl _⟩
  obtain ⟨q0, hq0, hq0z⟩ := hbig
  refine ⟨h.fr.trans hf (by simp), (h.ch.re hre ⟨q0, hq0, by omega⟩ fun q hq => h.dom q hq.1).frame hf, fun l hl => ?_, ?_, fun p hp => own_fr (h.row p hp) hf (by simp), fun p hp => ((h.its p hp).re hre ⟨q0, hq0⟩).fr hf (by simp), h.nap, fun p hp l hl e => ?_, fun k hk => ?_, h.hD, h.dom, h.low⟩
  · rcases List.mem_append.1 hl with h1 | h1
    · exact ⟨(hL l h1).1, by have := (hL l h1).2; omega⟩
    · exact ⟨(h.loc l h1).1.fr hf (by simp), (h.loc l h1).2⟩
  · rw [List.map_append]
    refine List.nodup_append.2 ⟨hn, h.lap, fun a ha b hb e => ?_⟩
    obtain ⟨l, hl, rfl⟩ := List.mem_map.1 ha
    obtain ⟨l2, hl2, rfl⟩ := List.mem_map.1 hb
    have := (hL l hl).2
    have := (h.loc l2 hl2).1.lt
    omega
  · rcases List.mem_append.1 hl with h1 | h1
    · have := (hL l h1).2; have := (h.own hp _ e).2; omega
    · exact h.rl p hp l h1 e
  · exact ((h.ks k hk).re hre ⟨q0, hq0, by omega⟩).fr hf (by simp)
theorem Sx.new1 (h : Sx wS w g bc bn bs D L N K c w1) (hf : Fr [] w1 w2) {p : Nat} {t : TypeId} {cs : List Value} (hb : Blk w2 p t cs) (hp : w1.heap.size ≤ p) : Sx wS w g bc bn bs D ((p, t, cs) :: L) N K c w2 :=
  h.new (L' := [(p, t, cs)]) hf (fun l hl => by obtain rfl := List.mem_singleton.1 hl; exact ⟨hb, hp⟩) (by simp)
theorem Sx.quiet (h : Sx wS w g bc bn bs D L N K c w1) (hf : Fr [] w1 w2) : Sx wS w g bc bn bs D L N K c w2 := h.new (L' := []) hf (by simp) (by simp)
theorem Sx.drewN (h : Sx wS w g bc bn bs D L N K c w1) (q : Nat) : Sx wS w g bc bn bs D L N K c (w1.drewN q) := h.quiet ((Fr.refl [] w1).drewN q)
theorem Sx.node (h : Sx wS w g bc bn bs D L N K c w1) (hf : Fr [] w1 w2) {nv : Value} {n : Nd} {b : Nat} (hb : w1.heap.size ≤ b) (hnv : NdV (Off D L N) w2 b nv n) :
    ∃ A ca cs, nv = .agg #[.int .i64 (kindOf n), .int .i64 (n.first : Int), .slice A n.l.length ca] ∧ n.l.length ≤ ca ∧ Sx wS w g bc bn bs D L (⟨A, ca, n, cs⟩ :: N) K c w2 := by
  obtain ⟨A, ca, cs, rfl, hpt⟩ := hnv.open_
  refine ⟨A, ca, cs, rfl, hpt.cap, ?_⟩
  have hz := hf.size
  have hz1 := h.fr.size
  have hge : ∀ q, (Value.slice A n.l.length ca).ownBlock = some q → w1.heap.size ≤ q ∧ q < w2.heap.size := fun q hq => by have := hpt.ge q hq; omega
  have hre : ∀ q, Off D L N q → q < w1.heap.size → Off D L (⟨A, ca, n, cs⟩ :: N) q := fun q hq hl => ⟨hq.1, hq.2.1, fun p hp => by
    rcases List.mem_cons.1 hp with rfl | hp
    · exact fun e => by have := (hge q e).1; omega
    · exact hq.2.2 p hp⟩
  have hbig : ∃ q, Off D L (⟨A, ca, n, cs⟩ :: N) q ∧ w2.heap.size ≤ q := ⟨w2.heap.size, ⟨h.hD _ (by omega), fun l hl e => by have := (h.loc l hl).1.lt; omega, fun p hp e => by
    rcases List.mem_cons.1 hp with rfl | hp
    · have := (hge _ e).2; omega
    · have := (h.own hp _ e).2; omega⟩, Nat.le_refl _⟩
  obtain ⟨q0, hq0, hq0z⟩ := hbig
  refine ⟨h.fr.trans hf (by simp), (h.ch.re hre ⟨q0, hq0, by omega⟩ fun q hq => h.dom q hq.1).frame hf, fun l hl => ⟨(h.loc l hl).1.fr hf (by simp), (h.loc l hl).2⟩, h.lap, fun p hp => ?_, fun p hp => ?_, ?_, fun p hp l hl e => ?_, fun k hk => ?_, h.hD, h.dom, h.low⟩
  · rcases List.mem_cons.1 hp with rfl | hp
    · exact own_base hpt.own fun q hq => by have := (hge q hq).1; omega
    · exact own_fr (h.row p hp) hf (by simp)
  · rcases List.mem_cons.1 hp with rfl | hp
    · exact hpt.its.weak fun q hq => ⟨hq.1.1, hq.1.2.1, fun p hp => by
        rcases List.mem_cons.1 hp with rfl | hp
        · exact hq.2
        · exact hq.1.2.2 p hp⟩
    · exact ((h.its p hp).re hre ⟨q0, hq0⟩).fr hf (by simp)
  · refine List.pairwise_cons.2 ⟨fun p hp q hq e => ?_, h.nap⟩
    have := (hge q hq).1; have := (h.own hp q e).2; omega
  · rcases List.mem_cons.1 hp with rfl | hp
    · have := (hge _ e).1; have := (h.loc l hl).1.lt; omega
    · exact h.rl p hp l hl e
  · exact ((h.ks k hk).re hre ⟨q0, hq0, by omega⟩).fr hf (by simp)
theorem Sx.kp (h : Sx wS w g bc bn bs D L N K c w1) {k : Kq} (hk : k.ok (Off D L N) w1) : Sx wS w g bc bn bs D L N (k :: K) c w1 :=
  ⟨h.fr, h.ch, h.loc, h.lap, h.row, h.its, h.nap, h.rl, fun k hk' => by
    rcases List.mem_cons.1 hk' with rfl | hk'
    · exact hk
    · exact h.ks k hk', h.hD, h.dom, h.low⟩
theorem Sx.key (h : Sx wS w g bc bn bs D L N K c w1) {v : Value} {b : List UInt8} (hk : ∃ q, BytesAt w1 v b q ∧ Off D L N q) : Sx wS w g bc bn bs D L N (.by_ v b :: K) c w1 := h.kp (k := .by_ v b) hk
theorem Sx.nd (h : Sx wS w g bc bn bs D L N K c w1) {v : Value} {n : Nd} {b : Nat} (hk : NdV (Off D L N) w1 b v n) : Sx wS w g bc bn bs D L N (.nd v n :: K) c w1 := h.kp (k := .nd v n) (hk.low (Nat.zero_le _))
theorem Sx.kb (h : Sx wS w g bc bn bs D L N K c w1) {v : Value} {b : List UInt8} (hk : Kq.by_ v b ∈ K) : ∃ q, BytesAt w1 v b q ∧ Off D L N q := h.ks _ hk
theorem Sx.kn (h : Sx wS w g bc bn bs D L N K c w1) {v : Value} {n : Nd} (hk : Kq.nd v n ∈ K) : NdV (Off D L N) w1 0 v n := h.ks _ hk
theorem Sx.nil_key (h : Sx wS w g bc bn bs D L N K c w1) : ∃ q, BytesAt w1 (.slice none 0 0) [] q ∧ Off D L N q := ⟨w1.heap.size, BytesAt.nil _ _, h.offD _ (Nat.le_refl _)⟩
theorem Sx.give0 {p : NP} (h : Sx wS w g bc bn bs D L (p :: N) K c w1) : ChAt wS w1 g bc bn bs (Off D L N) c ∧ NdV (Off D L N) w1 w.heap.size p.v p.n ∧ ∀ q, w1.heap.size ≤ q → Off D L N q := by
  refine ⟨h.ch.weak (Off.mono (fun _ h => h) fun p hp => List.mem_cons_of_mem _ hp) fun q hq => h.dom q hq.1, ⟨p.sv, p.cs, rfl, h.row p (List.mem_cons_self ..), (h.its p (List.mem_cons_self ..)).weak fun q hq => ⟨⟨hq.1, hq.2.1, fun p' hp' => hq.2.2 p' (List.mem_cons_of_mem _ hp')⟩, hq.2.2 p (List.mem_cons_self ..)⟩, fun q hq => ?_⟩, ?_⟩
  · exact ⟨h.hD q (h.own (List.mem_cons_self ..) q hq).1, fun l hl e => h.rl p (List.mem_cons_self ..) l hl (by rw [← e]; exact hq), fun p' hp' => (List.pairwise_cons.1 h.nap).1 p' hp' q hq⟩
  · exact (h.less (N' := N) (List.Sublist.refl _) (List.sublist_cons_self ..) fun _ h => h).offD
theorem Sx.give {A : Option Addr} {ca : Nat} {n : Nd} {cs : List Value} (h : Sx wS w g bc bn bs D L (⟨A, ca, n, cs⟩ :: N) K c w1) : ChAt wS w1 g bc bn bs (Off D L N) c ∧ NdV (Off D L N) w1 w.heap.size (.agg #[.int .i64 (kindOf n), .int .i64 (n.first : Int), .slice A n.l.length ca]) n ∧ ∀ q, w1.heap.size ≤ q → Off D L N q := h.give0
theorem Sx.bytes (h : Sx wS w g bc bn bs D L N K c w1) {A : Option Addr} {ca : Nat} {n : Nd} {cs : List Value} (hp : (⟨A, ca, n, cs⟩ : NP) ∈ N) : NdV (fun q => D q) w1 w.heap.size (.agg #[.int .i64 (kindOf n), .int .i64 (n.first : Int), .slice A n.l.length ca]) n :=
  ⟨.slice A n.l.length ca, cs, rfl, h.row _ hp, (h.its _ hp).weak fun _q hq => ⟨hq.1, hq.2.2 _ hp⟩, fun q hq => h.hD q (h.own hp q hq).1⟩
theorem Sx.row' (h : Sx wS w g bc bn bs D L N K c w1) {A : Option Addr} {ca : Nat} {n : Nd} {cs : List Value} (hp : (⟨A, ca, n, cs⟩ : NP) ∈ N) : w1.ownsRow w.heap.size 77 3 (.slice A n.l.length ca) n.l.length cs := h.row _ hp
theorem Sx.its' (h : Sx wS w g bc bn bs D L N K c w1) {A : Option Addr} {ca : Nat} {n : Nd} {cs : List Value} (hp : (⟨A, ca, n, cs⟩ : NP) ∈ N) : ItsC (Off D L N) w1 n.l cs := h.its _ hp
theorem Sx.own' (h : Sx wS w g bc bn bs D L N K c w1) {A : Option Addr} {ca : Nat} {n : Nd} {cs : List Value} (hp : (⟨A, ca, n, cs⟩ : NP) ∈ N) : ∀ q, (Value.slice A n.l.length ca).ownBlock = some q → w.heap.size ≤ q ∧ q < w1.heap.size := h.own hp
theorem Sx.call (h : Sx wS w g bc bn bs D L N K c w1) {S : List Nat} (hf : Fr S w1 w2) (hS : ∀ q ∈ S, q = bc ∨ q = bn ∨ q = bs) (hc : ChAt wS w2 g bc bn bs (Off D L N) c') : Sx wS w g bc bn bs D L N K c' w2 := by
  have hlo := h.low
  have hno : ∀ q, Off D L N q → q ∈ S → w1.heap.size ≤ q := fun q hq hm => by have := h.dom q hq.1; have := hS q hm; omega
  have hnl : ∀ q, w.heap.size ≤ q → q ∉ S := fun q hq hm => by have := hS q hm; omega
  exact ⟨h.fr.trans hf fun q hq => .inl (by have := hS q hq; simp; omega), hc, fun l hl => ⟨(h.loc l hl).1.fr hf (hnl _ (h.loc l hl).2), (h.loc l hl).2⟩, h.lap, fun p hp => own_fr (h.row p hp) hf fun q hq => hnl q (h.own hp q hq).1, fun p hp => (h.its p hp).fr hf hno, h.nap, h.rl,
    fun k hk => (h.ks k hk).fr hf hno, h.hD, h.dom, h.low⟩
theorem Sx.set_ {l : LB} (h : Sx wS w g bc bn bs D (l :: L) N K c w1) {cs : List Value} (hf : Fr [l.1] w1 w2) (hb : Blk w2 l.1 l.2.1 cs) : Sx wS w g bc bn bs D ((l.1, l.2.1, cs) :: L) N K c w2 := by
  have hlo := h.low
  have hl1 := (h.loc l (List.mem_cons_self ..)).2
  have hoff : ∀ q, Off D (l :: L) N q → Off D ((l.1, l.2.1, cs) :: L) N q := fun q hq => ⟨hq.1, fun l' hl' => by
    rcases List.mem_cons.1 hl' with rfl | hl'
    · exact hq.2.1 l (List.mem_cons_self ..)
    · exact hq.2.1 l' (List.mem_cons_of_mem _ hl'), hq.2.2⟩
  have hno : ∀ q, Off D (l :: L) N q → q ∈ [l.1] → w1.heap.size ≤ q := fun q hq hm => absurd (List.mem_singleton.1 hm) (hq.2.1 l (List.mem_cons_self ..))
  have hap := List.nodup_cons.1 h.lap
  refine ⟨h.fr.trans hf fun q hq => .inr (by have := List.mem_singleton.1 hq; omega), (h.ch.frS hf fun q hq => .inr ?_).weak hoff fun q hq => h.dom q hq.1, fun l' hl' => ?_, h.lap, fun p hp => own_fr (h.row p hp) hf fun q hq hm => h.rl p hp l (List.mem_cons_self ..) (by rw [← List.mem_singleton.1 hm]; exact hq), fun p hp => ((h.its p hp).fr hf hno).weak hoff, h.nap, fun p hp l' hl' => ?_,
    fun k hk => ((h.ks k hk).fr hf hno).weak hoff, h.hD, h.dom, h.low⟩
  · have := List.mem_singleton.1 hq
    exact ⟨by omega, fun hx => hx.2.1 l (List.mem_cons_self ..) this, by omega⟩
  · rcases List.mem_cons.1 hl' with rfl | hl'
    · exact ⟨hb, hl1⟩
    · refine ⟨(h.loc l' (List.mem_cons_of_mem _ hl')).1.fr hf fun hm => hap.1 ?_, (h.loc l' (List.mem_cons_of_mem _ hl')).2⟩
      exact List.mem_map.2 ⟨l', hl', List.mem_singleton.1 hm⟩
  · rcases List.mem_cons.1 hl' with rfl | hl'
    · exact h.rl p hp l (List.mem_cons_self ..)
    · exact h.rl p hp l' (List.mem_cons_of_mem _ hl')
theorem Sx.perm (h : Sx wS w g bc bn bs D L N K c w1) (hp : L'.Perm L) : Sx wS w g bc bn bs D L' N K c w1 := by
  have hoff : ∀ q, Off D L N q → Off D L' N q := Off.mono (fun l hl => hp.mem_iff.1 hl) fun _ h => h
  exact ⟨h.fr, h.ch.weak hoff fun q hq => h.dom q hq.1, fun l hl => h.loc l (hp.mem_iff.1 hl), (hp.map _).nodup_iff.2 h.lap, h.row, fun p hp => (h.its p hp).weak hoff, h.nap, fun p hp' l hl => h.rl p hp' l (hp.mem_iff.1 hl), fun k hk => (h.ks k hk).weak hoff, h.hD, h.dom, h.low⟩
theorem Sx.rows {p p' : NP} (h : Sx wS w g bc bn bs D L (p :: N) K c w1) (hf : Fr p.sv.ownBlock.toList w1 w2) (hq : ∀ q, p'.sv.ownBlock = some q → p.sv.ownBlock = some q ∨ w1.heap.size ≤ q)
    (ho : w2.ownsRow w.heap.size 77 3 p'.sv p'.n.l.length p'.cs) (hi : ItsC (Off D L (p :: N)) w1 p'.n.l p'.cs) : Sx wS w g bc bn bs D L (p' :: N) K c w2 := by
  have hlo := h.low
  have hz := hf.size
  have hz1 := h.fr.size
  have hown := h.own (List.mem_cons_self ..)
  have hm1 : ∀ q, q ∈ p.sv.ownBlock.toList → p.sv.ownBlock = some q := fun q hm => by simpa using hm
  have hno : ∀ q, Off D L (p :: N) q → q ∈ p.sv.ownBlock.toList → w1.heap.size ≤ q := fun q hq hm => absurd (hm1 q hm) (hq.2.2 p (List.mem_cons_self ..))
  have hre : ∀ q, Off D L (p :: N) q → q < w1.heap.size → Off D L (p :: p' :: N) q := fun q hx hl => ⟨hx.1, hx.2.1, fun p2 hp2 => by
    rcases List.mem_cons.1 hp2 with rfl | hp2
    · exact hx.2.2 _ (List.mem_cons_self ..)
    · rcases List.mem_cons.1 hp2 with rfl | hp2
      · intro e
        rcases hq q e with h1 | h1
        · exact hx.2.2 p (List.mem_cons_self ..) h1
        · omega
      · exact hx.2.2 p2 (List.mem_cons_of_mem _ hp2)⟩
  have h2 := own_lt ho
  have hbig : Off D L (p :: p' :: N) w2.heap.size := ⟨h.hD _ (by omega), fun l hl e => by have := (h.loc l hl).1.lt; omega, fun p2 hp2 e => by
    rcases List.mem_cons.1 hp2 with rfl | hp2
    · have := (hown _ e).2; omega
    · rcases List.mem_cons.1 hp2 with rfl | hp2
      · have := h2 _ e; omega
      · have := (h.own (List.mem_cons_of_mem _ hp2) _ e).2; omega⟩
  have hwk : ∀ q, Off D L (p :: p' :: N) q → Off D L (p' :: N) q := fun q hq => ⟨hq.1, hq.2.1, fun p2 hp2 => hq.2.2 p2 (List.mem_cons_of_mem _ hp2)⟩
  have hno2 : ∀ q, Off D L (p :: p' :: N) q → q ∈ p.sv.ownBlock.toList → w1.heap.size ≤ q := fun q hq hm => absurd (hm1 q hm) (hq.2.2 p (List.mem_cons_self ..))
  refine ⟨h.fr.trans hf fun q hm => .inr (hown q (hm1 q hm)).1, ((h.ch.re hre ⟨w2.heap.size, hbig, hz⟩ fun q hq => h.dom q hq.1).frS hf fun q hm => .inr ?_).weak hwk fun q hq => h.dom q hq.1,
    fun l hl => ⟨(h.loc l hl).1.fr hf fun hm => h.rl p (List.mem_cons_self ..) l hl (hm1 _ hm), (h.loc l hl).2⟩, h.lap, fun p2 hp2 => ?_, fun p2 hp2 => ?_, ?_, fun p2 hp2 l hl e => ?_, fun k hk => ?_, h.hD, h.dom, h.low⟩
  · have h1 := hown q (hm1 q hm)
    exact ⟨by omega, fun hx => hx.2.2 p (List.mem_cons_self ..) (hm1 q hm), by omega⟩
  · rcases List.mem_cons.1 hp2 with rfl | hp2
    · exact ho
    · exact own_fr (h.row p2 (List.mem_cons_of_mem _ hp2)) hf fun q hq hm => (List.pairwise_cons.1 h.nap).1 p2 hp2 q (hm1 q hm) hq
  · rcases List.mem_cons.1 hp2 with rfl | hp2
    · exact ((hi.re hre ⟨_, hbig⟩).fr hf hno2).weak hwk
    · exact (((h.its p2 (List.mem_cons_of_mem _ hp2)).re hre ⟨_, hbig⟩).fr hf hno2).weak hwk
  · refine List.pairwise_cons.2 ⟨fun p2 hp2 q hq' e => ?_, (List.pairwise_cons.1 h.nap).2⟩
    rcases hq q hq' with h1 | h1
    · exact (List.pairwise_cons.1 h.nap).1 p2 hp2 q h1 e
    · have := (h.own (List.mem_cons_of_mem _ hp2) q e).2; omega
  · rcases List.mem_cons.1 hp2 with rfl | hp2
    · rcases hq _ e with h1 | h1
      · exact h.rl p (List.mem_cons_self ..) l hl h1
      · have := (h.loc l hl).1.lt; omega
    · exact h.rl p2 (List.mem_cons_of_mem _ hp2) l hl e
  · exact (((h.ks k hk).re hre ⟨_, hbig, hz⟩).fr hf hno2).weak hwk
theorem Sx.ins {A : Option Addr} {ca : Nat} {n : Nd} {cs : List Value} (h : Sx wS w g bc bn bs D L (⟨A, ca, n, cs⟩ :: N) K c w1) {i : Nat} (hi : i ≤ n.l.length) {x : It} {kv vv av : Value} (hk : ∃ q, BytesAt w1 kv x.key q ∧ Off D L (⟨A, ca, n, cs⟩ :: N) q) (hv : ∃ q, BytesAt w1 vv x.v q ∧ Off D L (⟨A, ca, n, cs⟩ :: N) q) (hav : av = .int .i64 (x.at_ : Int))
    {sv' : Value} (ho : w2.ownsRow w.heap.size 77 3 sv' (n.l.length + 1) (cs.take (3 * i) ++ ([kv, vv, av] ++ cs.drop (3 * i)))) (hf : Fr (Value.slice A n.l.length ca).ownBlock.toList w1 w2)
    (hq : ∀ q, sv'.ownBlock = some q → (Value.slice A n.l.length ca).ownBlock = some q ∨ w1.heap.size ≤ q) :
    ∃ A' ca', sv' = .slice A' (n.l.length + 1) ca' ∧ Sx wS w g bc bn bs D L (⟨A', ca', { n with l := insAt n.l i x }, cs.take (3 * i) ++ ([kv, vv, av] ++ cs.drop (3 * i))⟩ :: N) K c w2 := by
  obtain ⟨A', ca', rfl, h5, _⟩ := own_shape ho
  have hln : (insAt n.l i x).length = n.l.length + 1 := insAt_len _ _ hi
  refine ⟨A', ca', rfl, h.rows (p' := ⟨A', ca', { n with l := insAt n.l i x }, _⟩) hf (fun q hq' => hq q ?_) ?_ ?_⟩
  · unfold NP.sv at hq'
    simp only at hq'
    rw [hln] at hq'
    exact hq'
  · show w2.ownsRow w.heap.size _ 3 (.slice A' (insAt n.l i x).length ca') (insAt n.l i x).length _
    rw [hln]; exact ho
  · obtain ⟨t1, t2⟩ := (h.its _ (List.mem_cons_self ..)).take i
    exact t1.append (show ItsC _ _ (x :: n.l.drop i) (kv :: vv :: av :: cs.drop (3 * i)) from ⟨⟨hk, hv, hav⟩, t2⟩)
theorem Sx.del {A : Option Addr} {ca : Nat} {n : Nd} {cs : List Value} (h : Sx wS w g bc bn bs D L (⟨A, ca, n, cs⟩ :: N) K c w1) {i : Nat} (hi : i < n.l.length)
    {sv' : Value} (ho : w2.ownsRow w.heap.size 77 3 sv' (n.l.length - 1) (cs.take (3 * i) ++ cs.drop (3 * i + 3))) (hq : sv'.ownBlock = (Value.slice A n.l.length ca).ownBlock) (hf : Fr (Value.slice A n.l.length ca).ownBlock.toList w1 w2) :
    ∃ A' ca', sv' = .slice A' (n.l.length - 1) ca' ∧ Sx wS w g bc bn bs D L (⟨A', ca', { n with l := delAt n.l i }, cs.take (3 * i) ++ cs.drop (3 * i + 3)⟩ :: N) K c w2 := by
  obtain ⟨A', ca', rfl, h5, _⟩ := own_shape ho
  have hln : (delAt n.l i).length = n.l.length - 1 := delAt_len _ hi
  refine ⟨A', ca', rfl, h.rows (p' := ⟨A', ca', { n with l := delAt n.l i }, _⟩) hf (fun q hq' => .inl ?_) ?_ ?_⟩
  · unfold NP.sv at hq'
    simp only at hq'
    rw [hln, hq] at hq'
    exact hq'
  · show w2.ownsRow w.heap.size _ 3 (.slice A' (delAt n.l i).length ca') (delAt n.l i).length _
    rw [hln]; exact ho
  · have t1 := ((h.its _ (List.mem_cons_self ..)).take i).1
    have t2 := ((h.its _ (List.mem_cons_self ..)).take (i + 1)).2
    rw [show 3 * (i + 1) = 3 * i + 3 by omega] at t2
    exact t1.append t2
theorem Sx.cell {q ca : Nat} {n : Nd} {cs : List Value} (h : Sx wS w g bc bn bs D L (⟨some ⟨q, 0, none⟩, ca, n, cs⟩ :: N) K c w1) {j : Nat} {u : Value} {l' : List It} (hl : l'.length = n.l.length) (hi : ItsC (Off D L (⟨some ⟨q, 0, none⟩, ca, n, cs⟩ :: N)) w1 l' (cs.set j u)) :
    Sx wS w g bc bn bs D L (⟨some ⟨q, 0, none⟩, ca, { n with l := l' }, cs.set j u⟩ :: N) K c (w1.setCell ⟨q, j, none⟩ u) := by
  have hr : w1.ownsRow w.heap.size 77 3 (.slice (some ⟨q, 0, none⟩) n.l.length ca) n.l.length cs := h.row _ (List.mem_cons_self ..)
  refine h.rows (p := ⟨some ⟨q, 0, none⟩, ca, n, cs⟩) (p' := ⟨some ⟨q, 0, none⟩, ca, { n with l := l' }, cs.set j u⟩) ((Fr.refl _ w1).setCell (.inl (show q ∈ [q] by simp)) _) (fun q' hq' => .inl hq') ?_ hi
  show World.ownsRow _ _ _ 3 (.slice _ l'.length ca) l'.length _
  rw [hl]
  exact (hr.stored j u).1
theorem UpV.open_ {v : Value} {u : Ky × Nat} (h : UpV D w v u) : ∃ A ca, v = .agg #[.slice A u.1.length ca, .int .i64 ((u.2 : Nat) : Int)] ∧ ∃ q, BytesAt w (.slice A u.1.length ca) u.1 q ∧ D q := by
  obtain ⟨kv, rfl, q, hb, hd⟩ := h
  obtain ⟨A, ca, off, rfl, _⟩ := id hb
  exact ⟨A, ca, rfl, q, hb, hd⟩
theorem Sx.fin (h : Sx wS w g bc bn bs D L N K c w1) : ChAt wS w1 g bc bn bs D c ∧ Fr [bc, bn, bs] w w1 := ⟨h.ch.weak Off.d h.dom, h.fr⟩
theorem Sx.upv {A : Option Addr} {ca : Nat} {u : Ky × Nat} (h : Sx wS w g bc bn bs D L N (.by_ (.slice A u.1.length ca) u.1 :: K) c w1) : UpV D w1 (.agg #[.slice A u.1.length ca, .int .i64 ((u.2 : Nat) : Int)]) u ∧ ChAt wS w1 g bc bn bs D c ∧ Fr [bc, bn, bs] w w1 :=
  ⟨⟨_, rfl, (h.kb (List.mem_cons_self ..)).imp fun _q hq => ⟨hq.1, hq.2.1⟩⟩, h.fin⟩
theorem Sx.upv0 (h : Sx wS w g bc bn bs D L N K c w1) : UpV D w1 (.agg #[.slice none 0 0, .int .i64 0]) ([], 0) ∧ ChAt wS w1 g bc bn bs D c ∧ Fr [bc, bn, bs] w w1 :=
  ⟨⟨_, rfl, w1.heap.size, BytesAt.nil _ _, h.hD _ h.fr.size⟩, h.fin⟩
theorem Sx.node_r (h : Sx wS w g bc bn bs D L N K c w1) (hf : Fr [] w1 w2) {nv : Value} {n : Nd} {b : Nat} (hnv : NdV (Off D L N) w2 b nv n) :
    ∃ A ca, nv = .agg #[.int .i64 (kindOf n), .int .i64 (n.first : Int), .slice A n.l.length ca] ∧ Sx wS w g bc bn bs D L N (.nd (.agg #[.int .i64 (kindOf n), .int .i64 (n.first : Int), .slice A n.l.length ca]) n :: K) c w2 := by
  obtain ⟨A, ca, cs, rfl, _⟩ := hnv.open_
  exact ⟨A, ca, rfl, (h.quiet hf).nd hnv⟩
end
end Go.Proofs.YtpjbdpepofnleaaGreat
end
