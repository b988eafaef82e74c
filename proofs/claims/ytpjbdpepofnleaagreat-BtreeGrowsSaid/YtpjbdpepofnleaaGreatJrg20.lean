/-
  Joined by join.py: Qs
-/
import Derived.Test.YtpjbdpepofnleaaGreatJrg19
section
namespace Go.Proofs.YtpjbdpepofnleaaGreat
open Go.RowKit Go.ChangeMaps Go.MapKept Go.Maps Go.Sort Go.Shelf
theorem kids_drop {S : SubT} (hS : Fine S) {hi : Option Ky} {B : List It} : ∀ {A : List It} {lo : Option Ky} {c : Nat} {E : En} {P : List Nat}, Kids S lo c (A ++ B) hi E P →
    ∃ lo' EA ER PA PR, E = EA ++ ER ∧ P = PA ++ PR ∧ Kids S lo' (chOf c A) B hi ER PR ∧ ∀ e ∈ EA, ∃ x ∈ A, klt e.1 x.key
  | [], lo, c, E, P, h => ⟨lo, [], E, [], P, rfl, rfl, h, fun e he => (by cases he)⟩
  | x :: A, lo, c, _, _, ⟨E1, P1, E2, P2, h1, h2, rfl, rfl⟩ => by
    obtain ⟨lo', EA, ER, PA, PR, rfl, rfl, h3, h4⟩ := kids_drop hS (A := A) h2
    refine ⟨lo', E1 ++ EA, ER, P1 ++ PA, PR, by rw [List.append_assoc], by rw [List.append_assoc], h3, fun e he => ?_⟩
    rcases List.mem_append.1 he with he | he
    · exact ⟨x, List.mem_cons_self .., ((hS.all _ _ _ _ _ h1).2.1 e he).2 _ rfl⟩
    · obtain ⟨y, hy, hk⟩ := h4 e he
      exact ⟨y, List.mem_cons_of_mem _ hy, hk⟩
theorem klt_le_trans {a b d : Ky} (h1 : klt a b) (h2 : ¬ klt d b) : klt a d := by
  by_cases h : klt a d
  · exact h
  · by_cases hd : klt d a
    · exact absurd (klt_trans hd h1) h2
    · rw [klt_tri h hd] at h1
      exact absurd h1 h2
theorem way_rest {n : Nd} (low : Ky) : ∃ A B, n.l = A ++ B ∧ A.length = n.way low ∧ n.l.take (n.way low) = A ∧ n.l.drop (n.way low) = B ∧ ∀ x ∈ A, ¬ klt low x.key := by
  obtain ⟨A, hA⟩ : ∃ A, A = n.l.takeWhile fun x => !decide (klt low x.key) := ⟨_, rfl⟩
  obtain ⟨B, hB⟩ : ∃ B, B = n.l.dropWhile fun x => !decide (klt low x.key) := ⟨_, rfl⟩
  have hl : n.l = A ++ B := by rw [hA, hB, List.takeWhile_append_dropWhile]
  have hw : A.length = n.way low := by rw [hA]; rfl
  refine ⟨A, B, hl, hw, by rw [← hw, hl, List.take_left' rfl], by rw [← hw, hl, List.drop_left' rfl], fun x hx => ?_⟩
  rw [hA] at hx
  simpa using takeWhile_all x hx
theorem goE_len (low : Ky) (up : Option Ky) (most : Nat) : ∀ (E out : En), (goE low up most out E).1.length ≤ out.length + E.length
  | [], out => by simp [goE]
  | e :: E, out => by
    rw [goE_cons]
    have h1 := goE_len low up most E out
    have h2 := goE_len low up most E (out ++ [e])
    rw [List.length_append, List.length_singleton] at h2
    simp only [List.length_cons]
    split
    · omega
    · split
      · show out.length ≤ _; omega
      · omega
def EntC (D : Nat → Prop) (w : World) (e : Ky × List UInt8) (kv vv : Value) : Prop := (∃ g, BytesAt w kv e.1 g ∧ D g) ∧ ∃ g, BytesAt w vv e.2 g ∧ D g
def EntsC (D : Nat → Prop) (w : World) : En → List Value → Prop
  | [], [] => True
  | e :: E, kv :: vv :: cs => EntC D w e kv vv ∧ EntsC D w E cs
  | _, _ => False
theorem EntsC.len {D : Nat → Prop} {w : World} : ∀ {E : En} {cs : List Value}, EntsC D w E cs → cs.length = 2 * E.length
  | [], [], _ => rfl
  | _ :: E, _ :: _ :: cs, h => by
    have := EntsC.len h.2
    simp only [List.length_cons]
    omega
theorem EntsC.fr {D : Nat → Prop} {w w' : World} {S : List Nat} (hf : Fr S w w') (hS : ∀ q, D q → q ∈ S → w.heap.size ≤ q) : ∀ {E : En} {cs : List Value}, EntsC D w E cs → EntsC D w' E cs
  | [], [], _ => trivial
  | _ :: _E, _ :: _ :: _cs, ⟨⟨⟨g1, a1, b1⟩, ⟨g2, a2, b2⟩⟩, h⟩ => ⟨⟨⟨g1, a1.frD hf (hS _ b1), b1⟩, ⟨g2, a2.frD hf (hS _ b2), b2⟩⟩, EntsC.fr hf hS h⟩
theorem EntsC.re {D D' : Nat → Prop} {w : World} (hD : ∀ q, D q → q < w.heap.size → D' q) (h0 : ∃ q, D' q) : ∀ {E : En} {cs : List Value}, EntsC D w E cs → EntsC D' w E cs
  | [], [], _ => trivial
  | _ :: _E, _ :: _ :: _cs, h => ⟨⟨BytesAt.re h.1.1 hD h0, BytesAt.re h.1.2 hD h0⟩, EntsC.re hD h0 h.2⟩
theorem EntsC.snoc {D : Nat → Prop} {w : World} {e : Ky × List UInt8} {kv vv : Value} (he : EntC D w e kv vv) : ∀ {E : En} {cs : List Value}, EntsC D w E cs → EntsC D w (E ++ [e]) (cs ++ [kv, vv])
  | [], [], _ => ⟨he, trivial⟩
  | _ :: _E, _ :: _ :: _cs, h => ⟨h.1, EntsC.snoc he h.2⟩
theorem EntsC.at_ {D : Nat → Prop} {w : World} : ∀ {E : En} {cs : List Value} {i : Nat} {e : Ky × List UInt8}, EntsC D w E cs → E[i]? = some e → ∃ kv vv, cs[i * 2]? = some kv ∧ cs[i * 2 + 1]? = some vv ∧ EntC D w e kv vv
  | [], [], i, e, _, h => by simp at h
  | a :: E, kv :: vv :: cs, 0, e, h, he => by
    simp only [List.getElem?_cons_zero, Option.some.injEq] at he
    subst he
    exact ⟨kv, vv, rfl, rfl, h.1⟩
  | a :: E, kv :: vv :: cs, i + 1, e, h, he => by
    simp only [List.getElem?_cons_succ] at he
    obtain ⟨k1, v1, h1, h2, h3⟩ := EntsC.at_ h.2 he
    refine ⟨k1, v1, ?_, ?_, h3⟩
    · rw [show (i + 1) * 2 = i * 2 + 1 + 1 by omega]; simpa using h1
    · rw [show (i + 1) * 2 + 1 = i * 2 + 1 + 1 + 1 by omega]; simpa using h2
def Dv (D : Nat → Prop) (ov : Value) : Nat → Prop := fun q => D q ∧ ov.ownBlock ≠ some q
def UpK (D : Nat → Prop) (w : World) (tv : Value) : Option Ky → Prop
  | none => tv = .slice none 0 0
  | some b => ∃ a n c q, tv = .slice (some a) n c ∧ BytesAt w tv b q ∧ D q
def walkC (bc : Nat) (fv tv ov : Value) (most : Nat) : List Value := [.pointer (some ⟨bc, 0, none⟩), fv, tv, .int .i64 (most : Int), ov]
structure Wst (H : Nat) (wS : World) (g bc bn bs bw : Nat) (D : Nat → Prop) (c : CD) (fv tv : Value) (low : Ky) (up : Option Ky) (most : Nat) (out : En) (ov : Value) (w : World) : Prop where
  ch : ChAt wS w g bc bn bs (Dv D ov) c
  bwk : Blk w bw 95 (walkC bc fv tv ov most)
  low : ∃ q, BytesAt w fv low q ∧ Dv D ov q
  up : UpK (Dv D ov) w tv up
  row : ∃ cs, w.ownsRow H 39 2 ov out.length cs ∧ EntsC (Dv D ov) w out cs
  nb : ∀ q, D q → q ≠ bw ∧ q ≠ bc ∧ q ≠ bn ∧ q ≠ bs
  top : ∀ q, w.heap.size ≤ q → D q
  own : ∀ q, ov.ownBlock = some q → q ≠ bw ∧ q ≠ bc ∧ q ≠ bn ∧ q ≠ bs
  hb : bw ≠ bc ∧ bw ≠ bn ∧ bw ≠ bs
  hH : wS.heap.size ≤ H
  hw : wS.heap.size ≤ bw
  hz : H ≤ w.heap.size
structure WFr (bc bw : Nat) (ov : Value) (w : World) (ov' : Value) (w' : World) : Prop where
  fr : Fr (bc :: bw :: ov.ownBlock.toList) w w'
  own : ∀ q, ov'.ownBlock = some q → ov.ownBlock = some q ∨ w.heap.size ≤ q
section
variable {H g bc bn bs bw : Nat} {wS w w1 w2 w3 : World} {D : Nat → Prop} {c c' : CD} {fv tv ov ov' ov1 ov2 : Value} {low : Ky} {up : Option Ky} {most : Nat} {out : En}
theorem WFr.refl : WFr bc bw ov w ov w := ⟨Fr.refl _ _, fun _ h => .inl h⟩
theorem WFr.trans (h : WFr bc bw ov w ov1 w1) (h' : WFr bc bw ov1 w1 ov2 w2) : WFr bc bw ov w ov2 w2 := by
  have hz := h.fr.size
  refine ⟨h.fr.trans h'.fr fun q hq => ?_, fun q hq => ?_⟩
  · simp only [List.mem_cons] at hq ⊢
    rcases hq with rfl | rfl | hq
    · exact .inl (.inl rfl)
    · exact .inl (.inr (.inl rfl))
    · rcases h.own q (by simpa using hq) with h1 | h1
      · exact .inl (.inr (.inr (by simpa using h1)))
      · exact .inr h1
  · rcases h'.own q hq with h1 | h1
    · exact h.own q h1
    · exact .inr (by omega)
theorem WFr.quiet (h : WFr bc bw ov w ov1 w1) (hf : Fr [] w1 w2) : WFr bc bw ov w ov1 w2 := ⟨h.fr.trans hf (by simp), h.own⟩
theorem WFr.pre (hf : Fr [] w w1) (h : WFr bc bw ov w1 ov1 w2) : WFr bc bw ov w ov1 w2 := ⟨(hf.mono (by simp)).trans h.fr (fun q hq => .inl hq), fun q hq => by
  rcases h.own q hq with h1 | h1
  · exact .inl h1
  · exact .inr (by have := hf.size; omega)⟩
theorem WFr.keep (h : WFr bc bw ov w ov1 w1) {p : Nat} {t : TypeId} {cs : List Value} (hb : Blk w p t cs) (h1 : p ≠ bc) (h2 : p ≠ bw) (h3 : ov.ownBlock ≠ some p) : Blk w1 p t cs :=
  hb.fr h.fr (by simp only [List.mem_cons, Option.mem_toList]; rintro (h | h | h); exact h1 h; exact h2 h; exact h3 h)
theorem Wst.shape (h : Wst H wS g bc bn bs bw D c fv tv low up most out ov w) : ∃ A ca, ov = .slice A out.length ca := by
  obtain ⟨cs, h1, _⟩ := h.row
  obtain ⟨A, ca, e, _⟩ := own_shape h1
  exact ⟨A, ca, e⟩
theorem Wst.lt (h : Wst H wS g bc bn bs bw D c fv tv low up most out ov w) : ∀ q, ov.ownBlock = some q → H ≤ q ∧ q < w.heap.size := by
  obtain ⟨cs, h1, _⟩ := h.row
  exact fun q hq => ⟨(h1.lt q hq).1, own_lt h1 q hq⟩
theorem Wst.topv (h : Wst H wS g bc bn bs bw D c fv tv low up most out ov w) : ∀ q, w.heap.size ≤ q → Dv D ov q := fun q hq => ⟨h.top q hq, fun e => by have := (h.lt q e).2; omega⟩
theorem UpK.fr {S : List Nat} (h : UpK D w tv up) (hf : Fr S w w1) (hS : ∀ q, D q → q ∈ S → w.heap.size ≤ q) : UpK D w1 tv up := by
  cases up with
  | none => exact h
  | some b =>
    obtain ⟨a, n, ca, q, h1, h2, h3⟩ := h
    exact ⟨a, n, ca, q, h1, h2.frD hf (hS _ h3), h3⟩
theorem UpK.re {D' : Nat → Prop} (h : UpK D w tv up) (hD : ∀ q, D q → q < w.heap.size → D' q) (h0 : ∃ q, D' q) : UpK D' w tv up := by
  cases up with
  | none => exact h
  | some b =>
    obtain ⟨a, n, ca, q, h1, h2, h3⟩ := h
    obtain ⟨q', h4, h5⟩ := BytesAt.re ⟨q, h2, h3⟩ hD h0
    exact ⟨a, n, ca, q', h1, h4, h5⟩
theorem Wst.quiet (h : Wst H wS g bc bn bs bw D c fv tv low up most out ov w1) (hf : Fr [] w1 w2) : Wst H wS g bc bn bs bw D c fv tv low up most out ov w2 := by
  have hz := hf.size
  have hz1 := h.hz
  obtain ⟨q, l1, l2⟩ := h.low
  obtain ⟨cs, r1, r2⟩ := h.row
  exact ⟨h.ch.frame hf, h.bwk.fr hf (by simp), ⟨q, l1.fr hf (by simp), l2⟩, h.up.fr hf (by simp), ⟨cs, own_fr r1 hf (by simp), r2.fr hf (by simp)⟩, h.nb, fun q hq => h.top q (by omega), h.own, h.hb, h.hH, h.hw, by omega⟩
theorem Wst.failed (h : Wst H wS g bc bn bs bw D c fv tv low up most out ov w1) (hf : Fr [bc] w1 w2) (hc : ChAt wS w2 g bc bn bs (Dv D ov) c') : Wst H wS g bc bn bs bw D c' fv tv low up most out ov w2 := by
  have hz := hf.size
  have hz1 := h.hz
  obtain ⟨q, l1, l2⟩ := h.low
  obtain ⟨cs, r1, r2⟩ := h.row
  have hn : ∀ q, Dv D ov q → q ∈ [bc] → w1.heap.size ≤ q := fun q hq hm => absurd (List.mem_singleton.1 hm) (h.nb q hq.1).2.1
  exact ⟨hc, h.bwk.fr hf (by simpa using h.hb.1), ⟨q, l1.frD hf (hn _ l2), l2⟩, h.up.fr hf hn, ⟨cs, own_fr r1 hf (fun q hq hm => (h.own q hq).2.1 (List.mem_singleton.1 hm)), r2.fr hf hn⟩, h.nb, fun q hq => h.top q (by omega), h.own, h.hb, h.hH, h.hw, by omega⟩
theorem Wst.push (h : Wst H wS g bc bn bs bw D c fv tv low up most out ov w1) {cs : List Value} (hents : EntsC (Dv D ov) w1 out cs) {e : Ky × List UInt8} {kv vv : Value} (he : EntC (Dv D ov) w1 e kv vv) (hf : Fr ov.ownBlock.toList w1 w2)
    (hrow : w2.ownsRow 0 39 2 ov' (out.length + 1) (cs ++ [kv, vv])) (hq : ∀ q, ov'.ownBlock = some q → ov.ownBlock = some q ∨ q = w1.heap.size) :
    Wst H wS g bc bn bs bw D c fv tv low up most (out ++ [e]) ov' (w2.setCell ⟨bw, 4, none⟩ ov') ∧ WFr bc bw ov w1 ov' (w2.setCell ⟨bw, 4, none⟩ ov') := by
  have hz := hf.size
  have hz1 := h.hz
  have hlt := h.lt
  have hbl := h.bwk.lt
  have hcl := h.ch.lts
  have hf3 : Fr [bw] w2 (w2.setCell ⟨bw, 4, none⟩ ov') := (Fr.refl [bw] w2).setCell (.inl (by simp)) _
  have hz3 := hf3.size
  obtain ⟨D2, hD2⟩ : ∃ D2 : Nat → Prop, D2 = fun q => Dv D ov q ∧ ov'.ownBlock ≠ some q := ⟨_, rfl⟩
  have d1 : ∀ q, Dv D ov q → q < w1.heap.size → D2 q := fun q hq' hl => by
    rw [hD2]
    refine ⟨hq', fun e => ?_⟩
    rcases hq _ e with h1 | h1
    · exact hq'.2 h1
    · omega
  have d0 : ∃ q, D2 q ∧ w1.heap.size ≤ q := ⟨w1.heap.size + 1, by
    rw [hD2]
    refine ⟨h.topv _ (by omega), fun e => ?_⟩
    rcases hq _ e with h1 | h1
    · have := (hlt _ h1).2; omega
    · omega, by omega⟩
  have d0' : ∃ q, D2 q := d0.imp fun q hq => hq.1
  have dS : ∀ q, D2 q → q ∈ ov.ownBlock.toList → w1.heap.size ≤ q := fun q hq' hm => by
    rw [hD2] at hq'
    exact absurd (by simpa using hm) hq'.1.2
  have dV : ∀ q, D2 q → Dv D ov' q := fun q hq' => by
    rw [hD2] at hq'
    exact ⟨hq'.1.1, hq'.2⟩
  have dB : ∀ q, Dv D ov' q → q ∈ [bw] → w2.heap.size ≤ q := fun q hq' hm => absurd (List.mem_singleton.1 hm) (h.nb q hq'.1).1
  have dom2 : ∀ q, D2 q → q ≠ bc ∧ q ≠ bn ∧ q ≠ bs := fun q hq' => (h.nb q (dV q hq').1).2
  have hown' : ∀ q, ov'.ownBlock = some q → q ≠ bw ∧ q ≠ bc ∧ q ≠ bn ∧ q ≠ bs := fun q e => by
    rcases hq _ e with h1 | h1
    · exact h.own q h1
    · omega
  have c1 : ChAt wS w2 g bc bn bs D2 c := (h.ch.re d1 d0 dom2).frS hf fun q hm => by
    have hm' : ov.ownBlock = some q := by simpa using hm
    have := (hlt q hm').1
    have h5 := h.own q hm'
    refine .inr ⟨by have := h.hH; omega, fun hq' => ?_, h5.2⟩
    rw [hD2] at hq'
    exact hq'.1.2 hm'
  have c2 : ChAt wS (w2.setCell ⟨bw, 4, none⟩ ov') g bc bn bs (Dv D ov') c := (c1.weak dV fun q hq' => (h.nb q hq'.1).2).frS hf3 fun q hm => by
    obtain rfl := List.mem_singleton.1 hm
    exact .inr ⟨h.hw, fun hq' => (h.nb _ hq'.1).1 rfl, h.hb⟩
  obtain ⟨ql, l1, l2⟩ := BytesAt.re h.low d1 d0'
  have u2 : UpK (Dv D ov') (w2.setCell ⟨bw, 4, none⟩ ov') tv up := by
    have u1 := ((h.up.re d1 d0').fr hf dS)
    have u1' : UpK (Dv D ov') w2 tv up := by
      cases up with
      | none => exact u1
      | some b => obtain ⟨a, n, ca, q, a1, a2, a3⟩ := u1; exact ⟨a, n, ca, q, a1, a2, dV q a3⟩
    exact u1'.fr hf3 dB
  have e1 : EntsC D2 w1 (out ++ [e]) (cs ++ [kv, vv]) := (hents.snoc he).re d1 d0'
  have e2 : EntsC (Dv D ov') w2 (out ++ [e]) (cs ++ [kv, vv]) := by
    have := e1.fr hf dS
    exact this.re (fun q hq' _ => dV q hq') (d0'.imp fun q hq' => dV q hq')
  refine ⟨⟨c2, ?_, ⟨ql, (l1.frD hf (dS _ l2)).frD hf3 (dB _ (dV _ l2)), dV _ l2⟩, u2, ⟨cs ++ [kv, vv], ?_, e2.fr hf3 dB⟩, h.nb, fun q hq' => h.top q (by omega), hown', h.hb, h.hH, h.hw, by omega⟩, ?_⟩
  · have hb := (h.bwk.fr hf (fun hm => (h.own bw (by simpa using hm)).1 rfl)).set_ 4 ov'
    exact hb
  · have hl : (out ++ [e]).length = out.length + 1 := by simp
    rw [hl]
    refine own_fr (own_base hrow fun q hq' => ?_) hf3 fun q hq' hm => (hown' q hq').1 (List.mem_singleton.1 hm)
    rcases hq _ hq' with h1 | h1
    · exact (hlt q h1).1
    · omega
  · refine ⟨(hf.mono fun q hm => .inl (by simp only [List.mem_cons]; exact .inr (.inr hm))).trans hf3 fun q hm => .inl (by simp only [List.mem_cons]; exact .inr (.inl (List.mem_singleton.1 hm))), fun q hq' => ?_⟩
    rcases hq _ hq' with h1 | h1
    · exact .inl h1
    · exact .inr (by omega)
end
end Go.Proofs.YtpjbdpepofnleaaGreat
end
