/-
  The contracts of the pattern's reader, the small ones: need, peek, take, is, last.
-/
import Derived.Test.YtnhlgjjdpappkaaGen
import Derived.Test.YtnhlgjjdpappkaaRm
import Derived.Test.YtnhlgjjdpappkaaChecked
namespace Go.Proofs.Ytnhlgjjdpappkaa
open Go.RowKit

def R32 (c : Int) : Value := .int .i32 c
def rcellsR (l : List Int) : List Value := l.map R32
/-- The reader lies at block r; its characters in block gl. -/
def RdAt (w : World) (r gl : Nat) (s : RS) : Prop :=
  (0 < s.l.length → gl < r) ∧ ∃ v, Blk w r 66 [v, .int .i64 (s.deep : Int), .int .i64 (s.most : Int)] ∧ SlAt w v s.l.length (rcellsR s.l) gl
theorem RdAt.fr {S : List Nat} {w w' : World} {r gl : Nat} {s : RS} (h : RdAt w r gl s) (hf : Fr S w w') (hS : ∀ x ∈ S, r < x) : RdAt w' r gl s := by
  obtain ⟨h0, v, hb, hs⟩ := h
  exact ⟨h0, v, hb.fr hf (fun hm => absurd (hS r hm) (by omega)), hs.fr hf (fun h hm => absurd (hS gl hm) (by have := h0 h; omega))⟩
def badEntry : PanicEntry := { v := .iface 85 (.agg #[]), recovered := false }
/-- What a function of the reader's answers: it panics with 'bad', or it hands a value back. -/
def PRes {α : Type} (V : World → α → Value → Prop) (w : World) (r gl : Nat) (x : Option (α × RS)) (e : Ending) (w' : World) : Prop :=
  match x with
  | none => e = .panicked [badEntry] ∧ Fr [r] w w'
  | some (y, s) => ∃ v, e = .returned v ∧ V w' y v ∧ RdAt w' r gl s ∧ Fr [r] w w'

theorem pres_some {α : Type} {V : World → α → Value → Prop} {w w' : World} {r gl : Nat} {x : Option (α × RS)} {y : α} {s : RS} {v : Value} (h : x = some (y, s)) (hv : V w' y v) (hr : RdAt w' r gl s) (hf : Fr [r] w w') : PRes V w r gl x (.returned v) w' := by
  subst h; exact ⟨v, rfl, hv, hr, hf⟩
theorem pres_none {α : Type} {V : World → α → Value → Prop} {w w' : World} {r gl : Nat} {x : Option (α × RS)} (h : x = none) (hf : Fr [r] w w') : PRes V w r gl x (.panicked [badEntry]) w' := by
  subst h; exact ⟨rfl, hf⟩

theorem need_true (w : World) : Calls Try.prog 54 #[.bool true] w fun e w' => e = .returned (.tuple #[]) ∧ w = w' := by
  go_enter Try.func54, Try.ntmps54
  go_wp2
  go_end0
  exact ⟨rfl, rfl⟩
theorem need_false (w : World) : Calls Try.prog 54 #[.bool false] w fun e w' => e = .panicked [badEntry] ∧ w = w' := by
  go_enter Try.func54, Try.ntmps54
  go_wp2
  exact ⟨rfl, rfl, rfl⟩

theorem peek_any {w : World} {r gl : Nat} {s : RS} (h : RdAt w r gl s) : Calls Try.prog 44 #[.pointer (some ⟨r, 0, none⟩)] w fun e w' => e = .returned (.int .i32 s.peek) ∧ w = w' := by
  obtain ⟨_, v, hb, A, c, off, rfl, hc, hs⟩ := h
  have b0 := hb.at_ (i := 0) rfl
  clear hb
  cases hl : s.l with
  | nil =>
    rw [RS.peek_nil hl]
    rw [hl] at b0
    clear hs hc hl
    go_enter Try.func44, Try.ntmps44
    go_wp2
    go_ret
    exact ⟨rfl, rfl⟩
  | cons x l =>
    rw [RS.peek_cons hl]
    rw [hl] at b0 hs
    obtain ⟨rfl, hx⟩ := hs (by simp)
    have h0 := hx 0 (R32 x) rfl
    unfold R32 at h0
    rw [Nat.add_zero] at h0
    have e0 : (((x :: l).length : Int) == 0) = false := by simp; omega
    have e1 : 0 < (x :: l).length := by simp
    generalize (x :: l).length = n at *
    clear hx hs hc hl
    go_enter Try.func44, Try.ntmps44
    go_wp2
    go_ret
    exact ⟨rfl, rfl⟩

/-- r.l = r.l[1:]: the reader behind a character. -/
theorem RdAt.step {w : World} {r gl : Nat} {s : RS} {A : Option Addr} {c : Nat} (h0 : 0 < s.l.length → gl < r) (hb : Blk w r 66 [.slice A s.l.length c, .int .i64 (s.deep : Int), .int .i64 (s.most : Int)]) (hs : SlAt w (.slice A s.l.length c) s.l.length (rcellsR s.l) gl) (hl : 0 < s.l.length) :
    RdAt (w.setCell ⟨r, 0, none⟩ (.slice (if c = 1 then A else A.map (·.add 1)) (s.l.length - 1) (c - 1))) r gl s.next := by
  refine ⟨fun _ => h0 hl, _, hb.set_ 0 _, ?_⟩
  have h1 := hs.from_ 1 hl
  have h2 : rcellsR s.next.l = (rcellsR s.l).drop 1 := by simp [rcellsR, RS.next]
  rw [h2, RS.next_len]
  exact h1.fr ((Fr.refl [r] w).setCell (.inl (by simp)) _) (fun _ => by have := h0 hl; simp; omega)

theorem take_any {w : World} {r gl : Nat} {s : RS} (h : RdAt w r gl s) : Calls Try.prog 49 #[.pointer (some ⟨r, 0, none⟩)] w (PRes (fun _ c v => v = .int .i32 c) w r gl s.take) := by
  obtain ⟨hne, v, hb, hs⟩ := h
  have HS := Lib.hid hs
  obtain ⟨A, c, off, rfl, hc, hs⟩ := hs
  have b0 := hb.at_ (i := 0) rfl
  have bf := hb.free 0
  have HB := Lib.hid hb
  clear hb
  cases hl : s.l with
  | nil =>
    rw [hl] at b0
    have HR : Hid (∀ e w', e = .panicked [badEntry] → Fr [r] w w' → PRes (fun _ c v => v = .int .i32 c) w r gl s.take e w') := Lib.hid fun e w' h1 h2 => by unfold RS.take; rw [hl]; exact ⟨h1, h2⟩
    clear hs hc hl
    go_enter Try.func49, Try.ntmps49
    go_wp2_with fail
    refine (need_false _).mono ?_
    rintro e w1 ⟨rfl, rfl⟩
    exact ⟨rfl, HR.out _ _ rfl (Fr.refl _ _)⟩
  | cons x l =>
    have HR : Hid (∀ w', RdAt w' r gl s.next → Fr [r] w w' → PRes (fun _ c v => v = .int .i32 c) w r gl s.take (.returned (.int .i32 x)) w') := Lib.hid fun w' h2 h3 => by unfold RS.take; rw [hl]; exact ⟨_, rfl, rfl, h2, h3⟩
    have hpos : 0 < s.l.length := by rw [hl]; simp
    have HST := Lib.hid (RdAt.step hne HB.out HS.out hpos)
    have hx := (hs hpos).2 0 (R32 x) (by simp [rcellsR, hl])
    obtain ⟨rfl, _⟩ := hs hpos
    unfold R32 at hx
    rw [Nat.add_zero] at hx
    have HST1 : Hid (c = 1 → RdAt (w.setCell ⟨r, 0, none⟩ (.slice (some ⟨gl, off, none⟩) (s.l.length - 1) 0)) r gl s.next) := Lib.hid fun h => by have := HST.out; rw [if_pos h, h] at this; exact this
    have HST2 : Hid (¬ c = 1 → RdAt (w.setCell ⟨r, 0, none⟩ (.slice (some ⟨gl, off + 1, none⟩) (s.l.length - 1) (c - 1))) r gl s.next) := Lib.hid fun h => by have := HST.out; rw [if_neg h] at this; exact this
    clear HST
    generalize hn : s.l.length = n at *
    have e1 : decide (0 < n) = true := by simpa using hpos
    clear hs hc hl hn
    go_enter Try.func49, Try.ntmps49
    go_wp2_with fail
    refine (need_true _).mono ?_
    rintro e w1 ⟨rfl, rfl⟩
    go_wp2
    all_goals
      go_ret
      first | exact HR.out _ (HST1.out ‹_›) ((Fr.refl [r] w).setCell (.inl (by simp)) _) | exact HR.out _ (HST2.out ‹_›) ((Fr.refl [r] w).setCell (.inl (by simp)) _)

theorem is_any {w : World} {r gl : Nat} {s : RS} {c : Int} (h : RdAt w r gl s) (hc0 : 0 ≤ c) : Calls Try.prog 46 #[.pointer (some ⟨r, 0, none⟩), .int .i32 c] w fun e w' => e = .returned (.bool (s.isB c)) ∧ RdAt w' r gl (s.isS c) ∧ Fr [r] w w' ∧ w'.heap.size = w.heap.size := by
  have H := Lib.hid h
  obtain ⟨hne, v, hb, hs⟩ := h
  have HS := Lib.hid hs
  obtain ⟨A, cc, off, rfl, hc, hs⟩ := hs
  have b0 := hb.at_ (i := 0) rfl
  have bf := hb.free 0
  have HB := Lib.hid hb
  clear hb
  unfold RS.isB RS.isS
  by_cases hp : s.peek = c
  · have hpos : 0 < s.l.length := RS.peek_pos hp hc0
    have e1 : (s.peek != c) = false := by simpa using hp
    rw [if_pos hp, decide_eq_true hp]
    obtain ⟨rfl, _⟩ := hs hpos
    have HST := Lib.hid (RdAt.step hne HB.out HS.out hpos)
    have HST1 : Hid (cc = 1 → RdAt (w.setCell ⟨r, 0, none⟩ (.slice (some ⟨gl, off, none⟩) (s.l.length - 1) 0)) r gl s.next) := Lib.hid fun h => by have := HST.out; rw [if_pos h, h] at this; exact this
    have HST2 : Hid (¬ cc = 1 → RdAt (w.setCell ⟨r, 0, none⟩ (.slice (some ⟨gl, off + 1, none⟩) (s.l.length - 1) (cc - 1))) r gl s.next) := Lib.hid fun h => by have := HST.out; rw [if_neg h] at this; exact this
    generalize hn : s.l.length = n at *
    clear hs HST hp hn hc
    go_enter Try.func46, Try.ntmps46
    go_wp2_with fail
    refine (peek_any H.out).mono ?_
    rintro e w1 ⟨rfl, rfl⟩
    go_wp2
    all_goals
      go_ret
      first | exact ⟨rfl, HST1.out ‹_›, (Fr.refl [r] w).setCell (.inl (by simp)) _, by simp [World.setCell]⟩ | exact ⟨rfl, HST2.out ‹_›, (Fr.refl [r] w).setCell (.inl (by simp)) _, by simp [World.setCell]⟩
  · have e1 : (s.peek != c) = true := by simpa using hp
    rw [if_neg hp, decide_eq_false hp]
    clear hs hp
    go_enter Try.func46, Try.ntmps46
    go_wp2_with fail
    refine (peek_any H.out).mono ?_
    rintro e w1 ⟨rfl, rfl⟩
    go_wp2
    go_ret
    exact ⟨rfl, H.out, Fr.refl _ _, rfl⟩

theorem last_any {w : World} {r gl : Nat} {s : RS} (h : RdAt w r gl s) : Calls Try.prog 60 #[.pointer (some ⟨r, 0, none⟩)] w fun e w' => e = .returned (.bool s.last) ∧ w = w' := by
  obtain ⟨_, v, hb, A, c, off, rfl, hc, hs⟩ := h
  have b0 := hb.at_ (i := 0) rfl
  clear hb
  unfold RS.last
  cases hl : s.l[1]? with
  | none =>
    have hn := List.getElem?_eq_none_iff.1 hl
    have e1 : decide (1 < s.l.length) = false := by simp; omega
    clear hs hl
    generalize s.l.length = n at *
    go_enter Try.func60, Try.ntmps60
    go_wp2
    go_ret
    exact ⟨rfl, rfl⟩
  | some x =>
    obtain ⟨hn, hx⟩ := List.getElem?_eq_some_iff.1 hl
    have e1 : decide (1 < s.l.length) = true := by simpa using hn
    obtain ⟨rfl, hs'⟩ := hs (by omega)
    have h1 := hs' 1 (R32 x) (by simp [rcellsR, hl])
    unfold R32 at h1
    have e2 : decide (some x = some (93 : Int)) = (x == 93) := by rw [Bool.eq_iff_iff]; simp
    rw [e2]
    clear hs hs' hl hx e2
    generalize s.l.length = n at *
    go_enter Try.func60, Try.ntmps60
    go_wp2
    go_ret
    exact ⟨rfl, rfl⟩

end Go.Proofs.Ytnhlgjjdpappkaa
