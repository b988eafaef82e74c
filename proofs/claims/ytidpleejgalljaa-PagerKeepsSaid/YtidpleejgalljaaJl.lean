/-
  The laws of layer 7: a disk of the call's own and what is none of it; Open and Append over it; 'bytes'; 'awake'.
-/
import Derived.Test.YtidpleejgalljaaJk
import Derived.Test.YtidpleejgalljaaDiskX
import Derived.Test.YtidpleejgalljaaStr
import Derived.Lib.SlBytesConst
namespace Go.Proofs.Ytidpleejgalljaa
open Go.RowKit

/-- A disk of the call's own, that began in world w0; the blocks of X are none of its. -/
def DkX (w0 w : World) (d : Nat) (D : DM) (X : Nat → Prop) : Prop := ∃ fp, DiskAt w d D fp ∧ (∀ k ∈ fp, w0.heap.size ≤ k ∧ ¬ X k) ∧ Fr [] w0 w ∧ ∀ k, X k → k < w.heap.size
/-- What X has stays. -/
def Kp (X : Nat → Prop) (w w' : World) : Prop := ∃ S, Fr S w w' ∧ ∀ x ∈ S, ¬ X x
section
variable {w0 w w' : World} {d : Nat} {D D' : DM} {X Y : Nat → Prop}
theorem Kp.blk (h : Kp X w w') {g : Nat} {t : TypeId} {cs : List Value} (hb : Blk w g t cs) (hx : X g) : Blk w' g t cs := by
  obtain ⟨S, hf, hS⟩ := h; exact hb.fr hf (fun hm => hS _ hm hx)
theorem Kp.bytes (h : Kp X w w') {g : Nat} {v : Value} {bs : List UInt8} (hb : BytesAt w v bs g) (hx : X g) : BytesAt w' v bs g := by
  obtain ⟨S, hf, hS⟩ := h; exact hb.fr hf (fun hm => hS _ hm hx)
theorem Kp.of (hf : Fr [] w w') : Kp X w w' := ⟨[], hf, by simp⟩
theorem DkX.fr (h : DkX w0 w d D X) (hf : Fr [] w w') : DkX w0 w' d D (fun k => X k ∨ w.heap.size ≤ k ∧ k < w'.heap.size) := by
  obtain ⟨fp, h1, h2, h3, h4⟩ := h
  have hz := hf.size
  refine ⟨fp, h1.fr hf (by simp), fun k hk => ⟨(h2 k hk).1, ?_⟩, h3.trans hf (by simp), ?_⟩
  · rintro (hx | hx)
    · exact (h2 k hk).2 hx
    · have := h1.lt k hk; omega
  · rintro k (hx | hx)
    · have := h4 k hx; omega
    · exact hx.2
theorem DkX.weak (h : DkX w0 w d D X) (hY : ∀ k, Y k → X k) : DkX w0 w d D Y := by
  obtain ⟨fp, h1, h2, h3, h4⟩ := h
  exact ⟨fp, h1, fun k hk => ⟨(h2 k hk).1, fun hy => (h2 k hk).2 (hY k hy)⟩, h3, fun k hk => h4 k (hY k hk)⟩
theorem DkX.stay (h : DkX w0 w d D X) (hf : Fr [] w w') : DkX w0 w' d D X := (h.fr hf).weak fun _ hk => .inl hk
theorem DkX.frame (h : DkX w0 w d D X) : Fr [] w0 w := by obtain ⟨_, _, _, h, _⟩ := h; exact h
theorem DkX.ok (h : DkX w0 w d D X) : D.ok := by obtain ⟨_, h, _⟩ := h; exact h.ok
theorem DkX.step {fp : List Nat} (h2 : ∀ k ∈ fp, w0.heap.size ≤ k ∧ ¬ X k) (h3 : Fr [] w0 w) (h4 : ∀ k, X k → k < w.heap.size) (hs : DStep w w' d D' fp) : DkX w0 w' d D' X ∧ Kp X w w' := by
  obtain ⟨fp', h1, hf, hn⟩ := hs
  have hz := h3.size
  have hz' := hf.size
  refine ⟨⟨fp', h1, fun k hk => ?_, h3.trans hf (fun x hx => .inr (h2 x hx).1), fun k hk => Nat.lt_of_lt_of_le (h4 k hk) hz'⟩, fp, hf, fun x hx => (h2 x hx).2⟩
  rcases hn k hk with h | h
  · exact h2 k h
  · exact ⟨by omega, fun hx => by have := h4 k hx; omega⟩
theorem new_X (w0 w : World) (n : Nat) (h1 : 1 ≤ n) (hn : n ≤ 65536) (hf : Fr [] w0 w) (hX : ∀ k, X k → k < w.heap.size) :
    Calls Try.prog 10 #[.int .i64 n] w fun e w' => ∃ d, e = .returned (.tuple #[.pointer (some ⟨d, 0, none⟩), .int .i64 0]) ∧ DkX w0 w' d (DM.new n) X ∧ Fr [] w w' := by
  refine (new_ok n w h1 hn).mono ?_
  rintro e w' ⟨d, fp, he, hd, hf', hk⟩
  have hz := hf'.size
  exact ⟨d, he, ⟨fp, hd, fun k hm => ⟨Nat.le_trans hf.size (hk k hm), fun hx => by have := hX k hx; have := hk k hm; omega⟩, hf.trans hf' (by simp), fun k hx => Nat.lt_of_lt_of_le (hX k hx) hz⟩, hf'⟩
theorem limit_X (h : DkX w0 w d D X) (k : Int) (hk : k ≤ 9223372036854775807) :
    Calls Try.prog 12 #[.pointer (some ⟨d, 0, none⟩), .int .i64 k] w fun e w' => e = .returned (.tuple #[]) ∧ DkX w0 w' d (D.limited k) X ∧ Kp X w w' := by
  obtain ⟨fp, h1, h2, h3, h4⟩ := h
  exact (limit_at h1 k hk).mono fun e w' ⟨he, hs⟩ => ⟨he, DkX.step h2 h3 h4 hs⟩
theorem reopen_X (h : DkX w0 w d D X) (v : Value) (K : List Bool) (gs : Nat) (hv : BoolsAt w v K gs) (hgs : gs < w0.heap.size ∨ w.heap.size ≤ gs) (hK : K.length ≤ 9223372036854775807) :
    Calls Try.prog 17 #[.pointer (some ⟨d, 0, none⟩), v] w fun e w' => e = .returned (.tuple #[]) ∧ DkX w0 w' d (D.reopen K) X ∧ Kp X w w' := by
  obtain ⟨fp, h1, h2, h3, h4⟩ := h
  refine (reopen_at h1 v K _ hv ?_ hK).mono fun e w' ⟨he, hs⟩ => ⟨he, DkX.step h2 h3 h4 hs⟩
  intro hm
  have h5 := h1.lt _ hm
  have h6 := (h2 _ hm).1
  omega
theorem dead_X (h : DkX w0 w d D X) : Calls Try.prog 13 #[.pointer (some ⟨d, 0, none⟩)] w fun e w' => e = .returned (.bool D.dead) ∧ w = w' := by
  obtain ⟨fp, h1, _⟩ := h; exact dead_at h1
theorem writes_X (h : DkX w0 w d D X) : Calls Try.prog 21 #[.pointer (some ⟨d, 0, none⟩)] w fun e w' => e = .returned (.int .i64 (D.done : Int)) ∧ w = w' := by
  obtain ⟨fp, h1, _⟩ := h; exact writes_at h1
end

/-- The log that Open makes, and the records that it tells. -/
def openR (D : DM) (f n : Nat) : List (Stamp × List UInt8) := recordsOf n none (D.part f n)
def openL (D : DM) (f n : Nat) : LG :=
  { f := f, n := n, at_ := ((openR D f n).map (·.1.count)).sum, num := numAfter (((newestOf (D.part f n)).2 + 1) % 4294967296) (lastOf (openR D f n)), ses := (newestOf (D.part f n)).1 + 1, br := false }
structure LG.ok (l : LG) (D : DM) : Prop where
  at_ : l.at_ ≤ l.n
  fit : l.f + l.n ≤ D.S.length
  num : l.num < 4294967296
  ses : l.ses < 4294967296

theorem recs_sum : ∀ (k : Nat) (last : Option Stamp) (L : List (List UInt8)), ((recordsOf k last L).map (·.1.count)).sum ≤ L.length
  | 0, _, L => by simp [recordsOf]
  | k + 1, last, L => by
    cases hr : recordOf L with
    | none => rw [recs_none hr]; simp
    | some x =>
      obtain ⟨st, b⟩ := x
      have hb := recordOf_bd hr
      cases hs : stops last st with
      | true => rw [recs_stop hr hs]; simp
      | false =>
        rw [recs_on hr hs]
        have := recs_sum k (some st) (L.drop st.count)
        simp only [List.map_cons, List.sum_cons, List.length_drop] at this ⊢
        omega
theorem recs_bd : ∀ (k : Nat) (last : Option Stamp) (L : List (List UInt8)), ∀ x ∈ recordsOf k last L, x.1.session < 4294967296 ∧ x.1.number < 4294967296
  | 0, _, L => by simp [recordsOf]
  | k + 1, last, L => by
    cases hr : recordOf L with
    | none => rw [recs_none hr]; simp
    | some x =>
      obtain ⟨st, b⟩ := x
      have hb := recordOf_bd hr
      cases hs : stops last st with
      | true => rw [recs_stop hr hs]; simp
      | false =>
        rw [recs_on hr hs]
        intro x hx
        rcases List.mem_cons.1 hx with rfl | hx
        · exact ⟨hb.2.2.1, hb.2.2.2.1⟩
        · exact recs_bd k (some st) _ x hx
theorem openL_ok {D : DM} {f n : Nat} (hfit : f + n ≤ D.S.length) (hnew : (newestOf (D.part f n)).1 < 4294967295) : (openL D f n).ok D := by
  refine ⟨?_, hfit, ?_, ?_⟩
  · have := recs_sum n none (D.part f n); rw [D.part_len] at this; exact this
  · show numAfter _ _ < _
    unfold numAfter
    split <;> omega
  · show _ + 1 < _; omega

section
variable {w0 w w' : World} {d : Nat} {D D' : DM} {X Y : Nat → Prop}
theorem open_X (h : DkX w0 w d D X) {f n : Nat} (hdead : D.dead = false) (h1 : 1 ≤ n) (hfit : f + n ≤ D.S.length) (hnew : (newestOf (D.part f n)).1 < 4294967295) :
    Calls Try.prog 26 #[.pointer (some ⟨d, 0, none⟩), .int .i64 (f : Int), .int .i64 (n : Int)] w fun e w' => ∃ out,
      e = .returned (.tuple #[.pointer (some ⟨w.heap.size, 0, none⟩), out, .int .i64 0]) ∧ DkX w0 w' d D (fun k => X k ∨ w.heap.size ≤ k ∧ k < w'.heap.size) ∧
      RowsAt w' out ((openR D f n).map (·.2)) (w.heap.size + 1) ∧ Blk w' w.heap.size 77 ((openL D f n).cells d) ∧ Fr [] w w' := by
  obtain ⟨fp, h2, _⟩ := id h
  refine (open_ok h2 hdead h1 hfit hnew).mono ?_
  rintro e w' ⟨out, he, hr, hb, hf⟩
  exact ⟨out, he, h.fr hf, hr, hb, hf⟩
theorem append_X (h : DkX w0 w d D X) {lg : Nat} {l : LG} (hl : Blk w lg 77 (l.cells d)) (hX : X lg) (hl0 : w0.heap.size ≤ lg) (hok : l.ok D) {v : Value} {b : List UInt8} {gb : Nat} (hv : BytesAt w v b gb) (hgX : X gb) (hbl : b.length ≤ 9223372036854775807) (hdone : D.done + 65536 < 1099511627776) :
    Calls Try.prog 40 #[.pointer (some ⟨lg, 0, none⟩), v] w fun e w' => e = .returned (.int .i64 (appendE D l b)) ∧ DkX w0 w' d (appendD D l b) X ∧ Blk w' lg 77 ((appendL D l b).cells d) ∧ (appendL D l b).ok (appendD D l b) ∧ Kp (fun k => X k ∧ k ≠ lg) w w' := by
  obtain ⟨fp, h1, h2, h3, h4⟩ := h
  refine (append_at (gb := gb) ⟨hl, h1, fun hm => (h2 _ hm).2 hX, hok.at_, hok.fit, hok.num, hok.ses⟩ hv (fun hm => (h2 _ hm).2 hgX) (h4 _ hgX) hbl hdone).mono ?_
  rintro e w' ⟨he, fp', hj, hf, hn⟩
  have hz := h3.size
  have hz' := hf.size
  have hlw := hl.lt
  refine ⟨he, ⟨fp', hj.disk, fun k hk => ?_, h3.trans hf (fun x hx => .inr ?_), fun k hk => Nat.lt_of_lt_of_le (h4 k hk) hz'⟩, hj.log, ⟨hj.at_, hj.fit, hj.num, hj.ses⟩, lg :: fp, hf, fun x hx hxx => ?_⟩
  · rcases hn k hk with h | h
    · exact h2 k h
    · exact ⟨by omega, fun hx => by have := h4 k hx; omega⟩
  · rcases List.mem_cons.1 hx with rfl | hx
    · exact hl0
    · exact (h2 x hx).1
  · rcases List.mem_cons.1 hx with rfl | hx
    · exact hxx.2 rfl
    · exact (h2 x hx).2 hxx.1
end
end Go.Proofs.Ytidpleejgalljaa
