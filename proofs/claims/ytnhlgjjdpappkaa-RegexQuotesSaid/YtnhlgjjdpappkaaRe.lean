/-
  The contracts of the pattern's reader: number.
-/
import Derived.Test.YtnhlgjjdpappkaaRd
namespace Go.Proofs.Ytnhlgjjdpappkaa
open Go.RowKit

def NumV (_ : World) (n : Nat) (v : Value) : Prop := v = .int .i64 (n : Int)
def NumRel (w : World) (r gl : Nat) (s : RS) (j : Nat) (v3 v4 : Value) (wr : World) : Prop :=
  ∃ (k n : Nat) (sk : RS), k + j = 2 ∧ v3 = .int .i64 (n : Int) ∧ v4 = .int .i64 (k : Int) ∧ RdAt wr r gl sk ∧ Fr [r] w wr ∧
    ((k = 0 ∧ n = 0 ∧ sk = s) ∨ (k = 1 ∧ isDig s.peek ∧ n = (s.peek - 48).toNat ∧ sk = s.next) ∨ (k = 2 ∧ isDig s.peek ∧ isDig s.next.peek ∧ n = 10 * (s.peek - 48).toNat + (s.next.peek - 48).toNat ∧ sk = s.next.next))

set_option maxHeartbeats 800000 in
theorem number_any {w : World} {r gl : Nat} {s : RS} (h : RdAt w r gl s) : Calls Try.prog 56 #[.pointer (some ⟨r, 0, none⟩)] w (PRes NumV w r gl s.number) := by
  refine calls_post fun R HQ => ?_
  have H := Lib.hid h
  clear h
  go_enter Try.func56, Try.ntmps56
  go_wp2_with fail
  go_loopg [3, 4] 2 (NumRel w r gl s)
  case atStart => exact ⟨0, 0, s, rfl, rfl, rfl, H.out, Fr.refl _ _, .inl ⟨rfl, rfl, rfl⟩⟩
  case round =>
    obtain ⟨k, n, sk, hk, rfl, rfl, hr, hf, hc⟩ := hrel
    have HR := Lib.hid hr; have HF := Lib.hid hf
    clear hr hf H
    rcases hc with ⟨rfl, rfl, rfl⟩ | ⟨rfl, hd, hn, hs⟩ | ⟨rfl, hd1, hd2, hn, hs⟩
    · by_cases hd : isDig sk.peek
      · have HDG := Lib.hid hd
        clear hd
        -- a digit more
        obtain ⟨q1, q2⟩ := HDG.out
        have HT := Lib.hid (take_any HR.out)
        rw [RS.take_of_peek (s := sk) rfl (by omega)] at HT
        go_wp2_with fail
        refine (peek_any HR.out).mono ?_
        rintro e w3 ⟨rfl, rfl⟩
        go_wp2_with fail
        refine (peek_any HR.out).mono ?_
        rintro e w3 ⟨rfl, rfl⟩
        go_wp2_with fail
        refine HT.out.mono ?_
        rintro e w3 ⟨_, rfl, rfl, hr3, hf3⟩
        have HR3 := Lib.hid hr3; have HF3 := Lib.hid (HF.out.trans hf3 (fun x hx => .inl hx))
        clear hr3 hf3
        go_wp2_with fail
        go_roundg 1
        case measure => omega
        case rel => exact ⟨1, (sk.peek - 48).toNat, sk.next, rfl, by rw [Int.toNat_of_nonneg (by omega)], rfl, HR3.out, HF3.out, .inr (.inl ⟨rfl, HDG.out, rfl, rfl⟩)⟩
      · have HE : Hid (sk.number = none) := Lib.hid (by unfold RS.number; rw [if_neg hd])
        -- no digit more: KV: how many there were
        have HNG := Lib.hid (True.intro)
        rcases Classical.em (48 ≤ sk.peek) with q1 | q1
        · have q2 : ¬ sk.peek ≤ 57 := fun q => hd ⟨q1, q⟩
          clear hd
          go_wp2_with fail
          refine (peek_any HR.out).mono ?_
          rintro e w3 ⟨rfl, rfl⟩
          go_wp2_with fail
          refine (peek_any HR.out).mono ?_
          rintro e w3 ⟨rfl, rfl⟩
          go_wp2_with fail
          refine (need_false _).mono ?_
          rintro e w3 ⟨rfl, rfl⟩
          exact ⟨rfl, HQ.out _ _ (pres_none HE.out HF.out)⟩
        · clear hd
          go_wp2_with fail
          refine (peek_any HR.out).mono ?_
          rintro e w3 ⟨rfl, rfl⟩
          go_wp2_with fail
          refine (need_false _).mono ?_
          rintro e w3 ⟨rfl, rfl⟩
          exact ⟨rfl, HQ.out _ _ (pres_none HE.out HF.out)⟩
    · have HDG0 := Lib.hid hd
      have HN := Lib.hid hn; have HS := Lib.hid hs
      clear hd hn hs
      by_cases hd2 : isDig sk.peek
      · have HDG := Lib.hid hd2
        have hn9 : n ≤ 9 := by rw [HN.out]; have := HDG0.out; unfold isDig at this; omega
        clear hd2
        -- a digit more
        obtain ⟨q1, q2⟩ := HDG.out
        have HT := Lib.hid (take_any HR.out)
        rw [RS.take_of_peek (s := sk) rfl (by omega)] at HT
        go_wp2_with fail
        refine (peek_any HR.out).mono ?_
        rintro e w3 ⟨rfl, rfl⟩
        go_wp2_with fail
        refine (peek_any HR.out).mono ?_
        rintro e w3 ⟨rfl, rfl⟩
        go_wp2_with fail
        refine HT.out.mono ?_
        rintro e w3 ⟨_, rfl, rfl, hr3, hf3⟩
        have HR3 := Lib.hid hr3; have HF3 := Lib.hid (HF.out.trans hf3 (fun x hx => .inl hx))
        clear hr3 hf3
        go_wp2_with fail
        go_roundg 0
        case measure => omega
        case rel => exact ⟨2, 10 * n + (sk.peek - 48).toNat, sk.next, rfl, by rw [show ((10 * n + (sk.peek - 48).toNat : Nat) : Int) = 10 * (n : Int) + (sk.peek - 48) by omega], rfl, HR3.out, HF3.out, .inr (.inr ⟨rfl, HDG0.out, HS.out ▸ HDG.out, by rw [HN.out, HS.out], by rw [HS.out]⟩)⟩
      · have HE : Hid (s.number = some (n, sk)) := Lib.hid (by unfold RS.number; rw [if_pos HDG0.out, if_neg (by rw [← HS.out]; exact hd2), HN.out, HS.out])
        -- no digit more: KV: how many there were
        have HNG := Lib.hid (True.intro)
        rcases Classical.em (48 ≤ sk.peek) with q1 | q1
        · have q2 : ¬ sk.peek ≤ 57 := fun q => hd2 ⟨q1, q⟩
          clear hd2
          go_wp2_with fail
          refine (peek_any HR.out).mono ?_
          rintro e w3 ⟨rfl, rfl⟩
          go_wp2_with fail
          refine (peek_any HR.out).mono ?_
          rintro e w3 ⟨rfl, rfl⟩
          go_wp2_with fail
          refine (need_true _).mono ?_
          rintro e w3 ⟨rfl, rfl⟩
          go_wp2_with fail
          exact HQ.out _ _ (pres_some HE.out rfl HR.out HF.out)
        · clear hd2
          go_wp2_with fail
          refine (peek_any HR.out).mono ?_
          rintro e w3 ⟨rfl, rfl⟩
          go_wp2_with fail
          refine (need_true _).mono ?_
          rintro e w3 ⟨rfl, rfl⟩
          go_wp2_with fail
          exact HQ.out _ _ (pres_some HE.out rfl HR.out HF.out)
    · have HE : Hid (s.number = some (n, sk)) := Lib.hid (by unfold RS.number; rw [if_pos hd1, if_pos hd2, hn, hs])
      clear hd1 hd2 hn hs
      go_wp2_with fail
      refine (need_true _).mono ?_
      rintro e w3 ⟨rfl, rfl⟩
      go_wp2_with fail
      exact HQ.out _ _ (pres_some HE.out rfl HR.out HF.out)

/-- A part's value, in blocks that N lets. -/
def PartVN (N : Nat → Prop) (w' : World) (p : Pt) (v : Value) : Prop := ∃ cs, v = .agg cs.toArray ∧ PartAt w' N p cs
theorem PartsAt.slice {w : World} {N : Nat → Prop} {l : List Pt} {v : Value} (h : PartsAt w N l v) : ∃ A c, v = .slice A l.length c := by
  obtain ⟨A, c, g, off, css, hv, _⟩ := h
  exact ⟨A, c, hv⟩
theorem SpansAt.slice {w : World} {N : Nat → Prop} {l : List Sp} {v : Value} (h : SpansAt w N v l) : ∃ A c, v = .slice A l.length c := by
  obtain ⟨g, ⟨A, c, off, hv, _⟩, _⟩ := h
  exact ⟨A, c, hv⟩

theorem SpansAt.bound {w : World} {N : Nat → Prop} {v : Value} {l : List Sp} (h : SpansAt w N v l) : SpansAt w (fun g => N g ∧ g < w.heap.size) v l := by
  obtain ⟨g, ⟨A, c, off, hv, hc, hb⟩, hn⟩ := h
  refine ⟨g, ⟨A, c, off, hv, hc, hb⟩, fun h0 => ⟨hn h0, ?_⟩⟩
  match l, h0 with
  | x :: l, h0 => exact World.block_lt_of_cell? w _ ((hb h0).2 0 (R32 x.lo) rfl)
theorem PartAt.bound {w : World} {N : Nat → Prop} {p : Pt} {cs : List Value} (h : PartAt w N p cs) : PartAt w (fun g => N g ∧ g < w.heap.size) p cs := by
  induction h with
  | mk p sv A c g off css hs hc hA hcell hsub ih =>
    refine .mk p sv A c g off css hs.bound hc (fun h0 => ⟨(hA h0).1, (hA h0).2, ?_⟩) hcell ih
    obtain ⟨h6, hc6⟩ := hcell 0 h0
    match hcs : css 0, h6 with
    | u :: us, _ => exact World.block_lt_of_cell? w _ (hc6 0 u (by rw [hcs]; rfl))

set_option maxRecDepth 100000 in
set_option maxHeartbeats 1600000 in
theorem times_any {w : World} {r gl : Nat} {s : RS} {N : Nat → Prop} {a : Pt} {cs : List Value} (h : RdAt w r gl s) (ha : PartAt w N a cs) (hN : ∀ g, w.heap.size ≤ g → N g) (hr : ∀ g, N g → g ≠ r) : Calls Try.prog 48 #[.pointer (some ⟨r, 0, none⟩), .agg cs.toArray] w (PRes (PartVN N) w r gl (s.times a)) := by
  refine calls_post fun R HQ => ?_
  have HPA := Lib.hid ha.bound
  obtain ⟨sv, lv, rfl, hs, hl⟩ := ha.inv
  obtain ⟨A1, c1, rfl⟩ := hs.slice
  obtain ⟨A2, c2, rfl⟩ := hl.slice
  have HN := Lib.hid hN; have HNR := Lib.hid hr
  have hlt := h.lt
  have H := Lib.hid h
  clear h ha hs hl hN hr
  unfold pcells at HPA ⊢
  generalize a.kind = pk at *
  generalize a.neg = pn at *
  generalize a.lo = plo at *
  generalize a.hi = phi at *
  generalize a.set.length = n1 at *
  generalize a.subs.length = n2 at *
  go_enter Try.func48, Try.ntmps48
  go_wp2_with fail
  have HC := Lib.hid (number_any (H.out.fr (((Fr.refl [] w).alloc (.cells #[.int .i64 pk, .bool pn, .slice A1 n1 c1, .slice A2 n2 c2, .int .i64 plo, .int .i64 phi] 43)).alloc (.cells zero6.toArray 43)) (by simp)))
  cases hn : s.number with
  | none =>
    have HE : Hid (RS.times a s = none) := Lib.hid (by unfold RS.times; rw [hn])
    rw [hn] at HC
    refine HC.out.mono ?_
    rintro e w1 ⟨rfl, hf⟩
    exact ⟨rfl, HQ.out _ _ (pres_none HE.out ((((Fr.refl [r] w).alloc _).alloc _).trans hf (fun x hx => .inl hx)))⟩
  | some y =>
    obtain ⟨n, s1⟩ := y
    have hn99 := (RS.number_len hn).2
    have HE : Hid (RS.times a s = match s1.upper n with
      | none => none
      | some (hi, s) => if s.peek = 125 then some (.times a n hi, s.next) else none) := Lib.hid (by unfold RS.times; rw [hn]; rfl)
    rw [hn] at HC
    clear hn
    refine HC.out.mono ?_
    rintro e w1 ⟨_, rfl, rfl, hr1, hf1⟩
    have hg1 := ((Blk.new w 43 [.int .i64 pk, .bool pn, .slice A1 n1 c1, .slice A2 n2 c2, .int .i64 plo, .int .i64 phi]).alloc _).fr hf1 (by simp; omega)
    have hz1 := (Blk.new (w.alloc (.cells #[.int .i64 pk, .bool pn, .slice A1 n1 c1, .slice A2 n2 c2, .int .i64 plo, .int .i64 phi] 43)) 43 zero6).fr hf1 (by simp; omega)
    rw [show (w.alloc (.cells #[.int .i64 pk, .bool pn, .slice A1 n1 c1, .slice A2 n2 c2, .int .i64 plo, .int .i64 phi] 43)).heap.size = w.heap.size + 1 by simp] at hz1
    have HZ1 := Lib.hid hz1; have HR1 := Lib.hid hr1
    have HF1 := Lib.hid ((((Fr.refl [r] w).alloc _).alloc _).trans hf1 (fun x hx => .inl hx))
    have hlt1 := hz1.lt
    have b0 := hg1.at_ (i := 0) rfl
    have b1 := hg1.at_ (i := 1) rfl
    have b2 := hg1.at_ (i := 2) rfl
    have b3 := hg1.at_ (i := 3) rfl
    have b4 := hg1.at_ (i := 4) rfl
    have b5 := hg1.at_ (i := 5) rfl
    clear hg1 hz1 hr1 hf1 HC
    go_wp2_with fail
    refine (is_any (HR1.out.fr (((Fr.refl [] w1).alloc _).alloc _) (by simp)) (by omega)).mono ?_
    rintro e w3 ⟨rfl, hr3, hf3, _⟩
    have hg3 := ((Blk.new w1 43 [.int .i64 pk, .bool pn, .slice A1 n1 c1, .slice A2 n2 c2, .int .i64 plo, .int .i64 phi]).alloc _).fr hf3 (by simp; omega)
    have ho3 := (Blk.new (w1.alloc (.cells #[.int .i64 pk, .bool pn, .slice A1 n1 c1, .slice A2 n2 c2, .int .i64 plo, .int .i64 phi] 43)) 43 [.int .i64 6, .bool false, .slice none 0 0, .slice (some ⟨w1.heap.size, 0, none⟩) 1 1, .int .i64 (n : Int), .int .i64 (n : Int)]).fr hf3 (by simp; omega)
    rw [show (w1.alloc (.cells #[.int .i64 pk, .bool pn, .slice A1 n1 c1, .slice A2 n2 c2, .int .i64 plo, .int .i64 phi] 43)).heap.size = w1.heap.size + 1 by simp] at ho3
    have HG3 := Lib.hid hg3; have HO3 := Lib.hid ho3
    have HZ3 := Lib.hid (((HZ1.out.alloc _).alloc _).fr hf3 (by simp; omega))
    have HF3 := Lib.hid (((HF1.out.alloc _).alloc _).trans hf3 (fun x hx => .inl hx))
    clear hg3 ho3 hf3 b0 b1 b2 b3 b4 b5
    by_cases h44 : s1.peek = 44
    · have e5 : s1.isB 44 = true := by simpa [RS.isB] using h44
      have e6 : s1.isS 44 = s1.next := by simp [RS.isS, h44]
      rw [e6] at hr3
      rw [e5]
      have o5 := HO3.out.at_ (i := 5) rfl
      have of := HO3.out.free
      have HO4 := Lib.hid (HO3.out.set_ 5 (.int .i64 (-1)))
      have hfs : Fr [w1.heap.size + 1] w3 (w3.setCell ⟨w1.heap.size + 1, 5, none⟩ (.int .i64 (-1))) := (Fr.refl _ _).setCell (.inl (by simp)) _
      have HG4 := Lib.hid (HG3.out.fr hfs (by simp)); have HZ4 := Lib.hid (HZ3.out.fr hfs (by simp; omega)); have HR4 := Lib.hid (hr3.fr hfs (by simp; omega)); have HF4 := Lib.hid (HF3.out.trans hfs (fun x hx => .inr (by simp at hx; omega)))
      clear hr3 hfs e5 e6
      go_wp2_with fail
      simp only [List.set_cons_succ, List.set_cons_zero] at HO4
      generalize w3.setCell ⟨w1.heap.size + 1, 5, none⟩ (.int .i64 (-1)) = w4 at *
      refine (peek_any HR4.out).mono ?_
      rintro e w5 ⟨rfl, rfl⟩
      clear o5 of
      by_cases h125 : s1.next.peek = 125
      · have e7 : (s1.next.peek != 125) = false := by simpa using h125
        have hup : s1.upper n = some (none, s1.next) := by unfold RS.upper; rw [if_pos h44, if_pos h125]
        have HUP := Lib.hid hup
        clear hup h44 h125
        -- '}' and the end. WT: the world; (-1): the last cell
        have HE2 : Hid (RS.times a s = if s1.next.peek = 125 then some (.times a n none, s1.next.next) else none) := Lib.hid (by rw [HE.out, HUP.out])
        go_wp2_with fail
        refine (is_any HR4.out (by omega)).mono ?_
        rintro e w8 ⟨rfl, hr8, hf8, _⟩
        have HG8 := Lib.hid (HG4.out.fr hf8 (by simp; omega)); have HO8 := Lib.hid (HO4.out.fr hf8 (by simp; omega)); have HZ8 := Lib.hid (HZ4.out.fr hf8 (by simp; omega))
        have HF8 := Lib.hid (HF4.out.trans hf8 (fun x hx => .inl hx))
        by_cases hp : s1.next.peek = 125
        · have e5 : s1.next.isB 125 = true := by simpa [RS.isB] using hp
          have e6 : s1.next.isS 125 = s1.next.next := by simp [RS.isS, hp]
          rw [e6] at hr8
          rw [e5]
          rw [if_pos hp] at HE2
          have HR8 := Lib.hid hr8
          clear hr8 hf8 e5 e6 hp
          go_wp2_with fail
          refine (need_true _).mono ?_
          rintro e w9 ⟨rfl, rfl⟩
          have c0 := HO8.out.at_ (i := 0) rfl
          have c1' := HO8.out.at_ (i := 1) rfl
          have c2' := HO8.out.at_ (i := 2) rfl
          have c3 := HO8.out.at_ (i := 3) rfl
          have c4 := HO8.out.at_ (i := 4) rfl
          have c5 := HO8.out.at_ (i := 5) rfl
          have z0 := HZ8.out.at_ (i := 0) rfl
          have z1 := HZ8.out.at_ (i := 1) rfl
          have z2 := HZ8.out.at_ (i := 2) rfl
          have z3 := HZ8.out.at_ (i := 3) rfl
          have z4 := HZ8.out.at_ (i := 4) rfl
          have z5 := HZ8.out.at_ (i := 5) rfl
          have zf := HZ8.out.free
          have hne3 : ¬ w.heap.size + 1 = w1.heap.size + 1 := by omega
          go_wp2_with fail
          have hfz := Fr.set6 w8 (w.heap.size + 1) (.int .i64 6) (.bool false) (.slice none 0 0) (.slice (some ⟨w1.heap.size, 0, none⟩) 1 1) (.int .i64 (n : Int)) (.int .i64 (-1))
          have hfz' := HF8.out.trans hfz (fun x hx => .inr (by simp at hx; omega))
          have hpa := (HPA.out.fr hfz' (fun g hg => by simpa using HNR.out g hg.1)).mono (fun g hg => hg.1)
          have hpt := PartAt.of (p := .times a n none) (SpansAt.nil _ N) (PartsAt.of_blk (HG8.out.fr hfz (by simp; omega)) hpa (HN.out _ (by omega)))
          refine ret_blk (g := w.heap.size + 1) (t' := 43) (d := _) rfl rfl (HZ8.out.set6 (.int .i64 6) (.bool false) (.slice none 0 0) (.slice (some ⟨w1.heap.size, 0, none⟩) 1 1) (.int .i64 (n : Int)) (.int .i64 (-1))) Try.underlying43 rfl (by kernel_rfl) (HQ.out _ _ (pres_some HE2.out ⟨_, rfl, hpt⟩ (HR8.out.fr hfz (by simp; omega)) hfz'))
        · have e5 : s1.next.isB 125 = false := by simpa [RS.isB] using hp
          rw [e5]
          rw [if_neg hp] at HE2
          clear hr8 hf8 e5 hp
          go_wp2_with fail
          refine (need_false _).mono ?_
          rintro e w9 ⟨rfl, rfl⟩
          exact ⟨rfl, HQ.out _ _ (pres_none HE2.out HF8.out)⟩
      · have e7 : (s1.next.peek != 125) = true := by simpa using h125
        have HC := Lib.hid (number_any HR4.out)
        go_wp2_with fail
        cases hn2 : s1.next.number with
        | none =>
          have HE2 : Hid (RS.times a s = none) := Lib.hid (by rw [HE.out]; unfold RS.upper; rw [if_pos h44, if_neg h125, hn2])
          rw [hn2] at HC
          refine HC.out.mono ?_
          rintro e w6 ⟨rfl, hf⟩
          exact ⟨rfl, HQ.out _ _ (pres_none HE2.out (HF4.out.trans hf (fun x hx => .inl hx)))⟩
        | some y =>
          obtain ⟨m, s2⟩ := y
          have HUP : Hid (s1.upper n = if n ≤ m then some (some m, s2) else none) := Lib.hid (by unfold RS.upper; rw [if_pos h44, if_neg h125, hn2])
          have hm99 := (RS.number_len hn2).2
          rw [hn2] at HC
          clear hn2 h44 h125
          refine HC.out.mono ?_
          rintro e w6 ⟨_, rfl, rfl, hr6, hf6⟩
          have ho6 := HO4.out.fr hf6 (by simp; omega)
          have hg6 := HG4.out.fr hf6 (by simp; omega)
          have hz6 := HZ4.out.fr hf6 (by simp; omega)
          have o5 := ho6.at_ (i := 5) rfl
          have of := ho6.free
          have hfs : Fr [w1.heap.size + 1] w6 (w6.setCell ⟨w1.heap.size + 1, 5, none⟩ (.int .i64 (m : Int))) := (Fr.refl _ _).setCell (.inl (by simp)) _
          have ho7 := ho6.set_ 5 (.int .i64 (m : Int))
          simp only [List.set_cons_succ, List.set_cons_zero] at ho7
          have HO7 := Lib.hid ho7
          have HG7 := Lib.hid (hg6.fr hfs (by simp)); have HZ7 := Lib.hid (hz6.fr hfs (by simp; omega)); have HR7 := Lib.hid (hr6.fr hfs (by simp; omega)); have HF7 := Lib.hid ((HF4.out.trans hf6 (fun x hx => .inl hx)).trans hfs (fun x hx => .inr (by simp at hx; omega)))
          clear hr6 hf6 ho6 hg6 hz6 hfs ho7
          by_cases hnm : n ≤ m
          · rw [if_pos hnm] at HUP
            have e8 : decide ((n : Int) ≤ (m : Int)) = true := by simpa using hnm
            go_wp2_with fail
            refine (need_true _).mono ?_
            rintro e w9 ⟨rfl, rfl⟩
            clear o5 of
            generalize w6.setCell ⟨w1.heap.size + 1, 5, none⟩ (.int .i64 (m : Int)) = w7 at *
            -- '}' and the end. WT: the world; (m : Int): the last cell
            have HE2 : Hid (RS.times a s = if s2.peek = 125 then some (.times a n (some m), s2.next) else none) := Lib.hid (by rw [HE.out, HUP.out])
            go_wp2_with fail
            refine (is_any HR7.out (by omega)).mono ?_
            rintro e w8 ⟨rfl, hr8, hf8, _⟩
            have HG8 := Lib.hid (HG7.out.fr hf8 (by simp; omega)); have HO8 := Lib.hid (HO7.out.fr hf8 (by simp; omega)); have HZ8 := Lib.hid (HZ7.out.fr hf8 (by simp; omega))
            have HF8 := Lib.hid (HF7.out.trans hf8 (fun x hx => .inl hx))
            by_cases hp : s2.peek = 125
            · have e5 : s2.isB 125 = true := by simpa [RS.isB] using hp
              have e6 : s2.isS 125 = s2.next := by simp [RS.isS, hp]
              rw [e6] at hr8
              rw [e5]
              rw [if_pos hp] at HE2
              have HR8 := Lib.hid hr8
              clear hr8 hf8 e5 e6 hp
              go_wp2_with fail
              refine (need_true _).mono ?_
              rintro e w9 ⟨rfl, rfl⟩
              have c0 := HO8.out.at_ (i := 0) rfl
              have c1' := HO8.out.at_ (i := 1) rfl
              have c2' := HO8.out.at_ (i := 2) rfl
              have c3 := HO8.out.at_ (i := 3) rfl
              have c4 := HO8.out.at_ (i := 4) rfl
              have c5 := HO8.out.at_ (i := 5) rfl
              have z0 := HZ8.out.at_ (i := 0) rfl
              have z1 := HZ8.out.at_ (i := 1) rfl
              have z2 := HZ8.out.at_ (i := 2) rfl
              have z3 := HZ8.out.at_ (i := 3) rfl
              have z4 := HZ8.out.at_ (i := 4) rfl
              have z5 := HZ8.out.at_ (i := 5) rfl
              have zf := HZ8.out.free
              have hne3 : ¬ w.heap.size + 1 = w1.heap.size + 1 := by omega
              go_wp2_with fail
              have hfz := Fr.set6 w8 (w.heap.size + 1) (.int .i64 6) (.bool false) (.slice none 0 0) (.slice (some ⟨w1.heap.size, 0, none⟩) 1 1) (.int .i64 (n : Int)) (.int .i64 (m : Int))
              have hfz' := HF8.out.trans hfz (fun x hx => .inr (by simp at hx; omega))
              have hpa := (HPA.out.fr hfz' (fun g hg => by simpa using HNR.out g hg.1)).mono (fun g hg => hg.1)
              have hpt := PartAt.of (p := .times a n (some m)) (SpansAt.nil _ N) (PartsAt.of_blk (HG8.out.fr hfz (by simp; omega)) hpa (HN.out _ (by omega)))
              refine ret_blk (g := w.heap.size + 1) (t' := 43) (d := _) rfl rfl (HZ8.out.set6 (.int .i64 6) (.bool false) (.slice none 0 0) (.slice (some ⟨w1.heap.size, 0, none⟩) 1 1) (.int .i64 (n : Int)) (.int .i64 (m : Int))) Try.underlying43 rfl (by kernel_rfl) (HQ.out _ _ (pres_some HE2.out ⟨_, rfl, hpt⟩ (HR8.out.fr hfz (by simp; omega)) hfz'))
            · have e5 : s2.isB 125 = false := by simpa [RS.isB] using hp
              rw [e5]
              rw [if_neg hp] at HE2
              clear hr8 hf8 e5 hp
              go_wp2_with fail
              refine (need_false _).mono ?_
              rintro e w9 ⟨rfl, rfl⟩
              exact ⟨rfl, HQ.out _ _ (pres_none HE2.out HF8.out)⟩
          · rw [if_neg hnm] at HUP
            have HE2 : Hid (RS.times a s = none) := Lib.hid (by rw [HE.out, HUP.out])
            have e8 : decide ((n : Int) ≤ (m : Int)) = false := by simp; omega
            go_wp2_with fail
            refine (need_false _).mono ?_
            rintro e w9 ⟨rfl, rfl⟩
            exact ⟨rfl, HQ.out _ _ (pres_none HE2.out HF7.out)⟩
    · have e5 : s1.isB 44 = false := by simpa [RS.isB] using h44
      have e6 : s1.isS 44 = s1 := by simp [RS.isS, h44]
      rw [e6] at hr3
      rw [e5]
      have HR3 := Lib.hid hr3
      have HUP : Hid (s1.upper n = some (some n, s1)) := Lib.hid (by unfold RS.upper; rw [if_neg h44])
      clear hr3 e5 e6 h44
      -- '}' and the end. WT: the world; (n : Int): the last cell
      have HE2 : Hid (RS.times a s = if s1.peek = 125 then some (.times a n (some n), s1.next) else none) := Lib.hid (by rw [HE.out, HUP.out])
      go_wp2_with fail
      refine (is_any HR3.out (by omega)).mono ?_
      rintro e w8 ⟨rfl, hr8, hf8, _⟩
      have HG8 := Lib.hid (HG3.out.fr hf8 (by simp; omega)); have HO8 := Lib.hid (HO3.out.fr hf8 (by simp; omega)); have HZ8 := Lib.hid (HZ3.out.fr hf8 (by simp; omega))
      have HF8 := Lib.hid (HF3.out.trans hf8 (fun x hx => .inl hx))
      by_cases hp : s1.peek = 125
      · have e5 : s1.isB 125 = true := by simpa [RS.isB] using hp
        have e6 : s1.isS 125 = s1.next := by simp [RS.isS, hp]
        rw [e6] at hr8
        rw [e5]
        rw [if_pos hp] at HE2
        have HR8 := Lib.hid hr8
        clear hr8 hf8 e5 e6 hp
        go_wp2_with fail
        refine (need_true _).mono ?_
        rintro e w9 ⟨rfl, rfl⟩
        have c0 := HO8.out.at_ (i := 0) rfl
        have c1' := HO8.out.at_ (i := 1) rfl
        have c2' := HO8.out.at_ (i := 2) rfl
        have c3 := HO8.out.at_ (i := 3) rfl
        have c4 := HO8.out.at_ (i := 4) rfl
        have c5 := HO8.out.at_ (i := 5) rfl
        have z0 := HZ8.out.at_ (i := 0) rfl
        have z1 := HZ8.out.at_ (i := 1) rfl
        have z2 := HZ8.out.at_ (i := 2) rfl
        have z3 := HZ8.out.at_ (i := 3) rfl
        have z4 := HZ8.out.at_ (i := 4) rfl
        have z5 := HZ8.out.at_ (i := 5) rfl
        have zf := HZ8.out.free
        have hne3 : ¬ w.heap.size + 1 = w1.heap.size + 1 := by omega
        go_wp2_with fail
        have hfz := Fr.set6 w8 (w.heap.size + 1) (.int .i64 6) (.bool false) (.slice none 0 0) (.slice (some ⟨w1.heap.size, 0, none⟩) 1 1) (.int .i64 (n : Int)) (.int .i64 (n : Int))
        have hfz' := HF8.out.trans hfz (fun x hx => .inr (by simp at hx; omega))
        have hpa := (HPA.out.fr hfz' (fun g hg => by simpa using HNR.out g hg.1)).mono (fun g hg => hg.1)
        have hpt := PartAt.of (p := .times a n (some n)) (SpansAt.nil _ N) (PartsAt.of_blk (HG8.out.fr hfz (by simp; omega)) hpa (HN.out _ (by omega)))
        refine ret_blk (g := w.heap.size + 1) (t' := 43) (d := _) rfl rfl (HZ8.out.set6 (.int .i64 6) (.bool false) (.slice none 0 0) (.slice (some ⟨w1.heap.size, 0, none⟩) 1 1) (.int .i64 (n : Int)) (.int .i64 (n : Int))) Try.underlying43 rfl (by kernel_rfl) (HQ.out _ _ (pres_some HE2.out ⟨_, rfl, hpt⟩ (HR8.out.fr hfz (by simp; omega)) hfz'))
      · have e5 : s1.isB 125 = false := by simpa [RS.isB] using hp
        rw [e5]
        rw [if_neg hp] at HE2
        clear hr8 hf8 e5 hp
        go_wp2_with fail
        refine (need_false _).mono ?_
        rintro e w9 ⟨rfl, rfl⟩
        exact ⟨rfl, HQ.out _ _ (pres_none HE2.out HF8.out)⟩

end Go.Proofs.Ytnhlgjjdpappkaa
