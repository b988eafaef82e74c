/-
  Compile, Match, Search, and the law's match, by the pattern's language.
-/
import Derived.Test.YtnhlgjjdpappkaaTc
import Derived.Test.YtnhlgjjdpappkaaTd
namespace Go.Proofs.Ytnhlgjjdpappkaa
open Go.RowKit

/-- A pattern's program that lies in a world. -/
def Pg (w : World) (gp : Nat) (p : Pt) : Prop := ∃ K, K ≤ w.heap.size ∧ PrgAt w gp K (progOf p) ∧ Good (progOf p) ∧ p.ok
theorem Pg.fr {w w' : World} {gp : Nat} {p : Pt} (h : Pg w gp p) (hf : Fr [] w w') : Pg w' gp p := by
  obtain ⟨K, h1, h2, h3, h4⟩ := h
  exact ⟨K, Nat.le_trans h1 hf.size, h2.fr hf (by simp), h3, h4⟩
/-- A text as a pattern. -/
def parsedT (s : ByteArray) : Int × Option Pt := parsedOf s.size (runesOf (strBytes s))
/-- A text's characters. -/
def chars (s : ByteArray) : List Int := runesOf (strBytes s)
noncomputable def langB (p : Pt) (l : List Int) : Bool := @decide (Lang p l) (Classical.propDecidable _)
noncomputable def findB (p : Pt) (l : List Int) : Bool := @decide (∃ x t y, l = x ++ t ++ y ∧ Lang p t) (Classical.propDecidable _)
theorem langB_iff {p : Pt} {l : List Int} : langB p l = true ↔ Lang p l := by unfold langB; exact @decide_eq_true_iff _ (Classical.propDecidable _)
theorem findB_iff {p : Pt} {l : List Int} : findB p l = true ↔ ∃ x t y, l = x ++ t ++ y ∧ Lang p t := by unfold findB; exact @decide_eq_true_iff _ (Classical.propDecidable _)
theorem chars_len (s : ByteArray) : (chars s).length ≤ s.size := by
  have := runesF_len (strBytes s).length (strBytes s) (Nat.le_refl _)
  rw [strBytes_len] at this
  unfold chars runesOf
  rw [strBytes_len]; exact this
theorem parsedT_ok {s : ByteArray} {er : Int} {p : Pt} (h : parsedT s = (er, some p)) : p.ok := parsed_ok (chars_len s) (fun c hc => runesF_pos _ _ c hc) h

theorem Compile_l {w : World} (s : ByteArray) (hsz : s.size ≤ 9223372036854775807) : Calls Try.prog 10 #[.string s] w fun e w' => Fr [] w w' ∧
    ((∃ er, parsedT s = (er, none) ∧ er ≠ 0 ∧ e = .returned (.tuple #[.pointer none, .int .i64 er])) ∨ ∃ p gp, parsedT s = (0, some p) ∧ e = .returned (.tuple #[.pointer (some ⟨gp, 0, none⟩), .int .i64 0]) ∧ Pg w' gp p) := by
  refine (Compile_any s hsz).mono ?_
  rintro e w' ⟨hf, h⟩
  refine ⟨hf, ?_⟩
  cases hp : parsedT s with
  | mk er x =>
    have hp' : parsedOf s.size (runesOf (strBytes s)) = (er, x) := hp
    rw [hp'] at h
    cases x with
    | none => exact .inl ⟨er, rfl, h.2, h.1⟩
    | some p =>
      obtain ⟨gp, rfl, _, hpr, hlen⟩ := h
      have h0 := parsedOf_some hp'
      subst h0
      exact .inr ⟨p, gp, rfl, rfl, w'.heap.size, Nat.le_refl _, hpr, prog_good (parsedT_ok hp) hlen, parsedT_ok hp⟩
theorem Match_l {w : World} {gp : Nat} {p : Pt} (h : Pg w gp p) (s : ByteArray) (hs : s.size ≤ 1000000) : Calls Try.prog 11 #[.pointer (some ⟨gp, 0, none⟩), .string s] w fun e w' => e = .returned (.bool (langB p (chars s))) ∧ Fr [] w w' := by
  obtain ⟨K, h1, h2, h3, h4⟩ := h
  refine (Match_any s h2 h1 h3 hs).mono ?_
  rintro e w' ⟨b, rfl, hb, hf⟩
  rw [accepts_lang h4] at hb
  have : b = langB p (chars s) := Bool.eq_iff_iff.2 (hb.trans langB_iff.symm)
  rw [this]
  exact ⟨rfl, hf⟩
theorem Search_l {w : World} {gp : Nat} {p : Pt} (h : Pg w gp p) (s : ByteArray) (hs : s.size ≤ 1000000) : Calls Try.prog 12 #[.pointer (some ⟨gp, 0, none⟩), .string s] w fun e w' => e = .returned (.bool (findB p (chars s))) ∧ Fr [] w w' := by
  obtain ⟨K, h1, h2, h3, h4⟩ := h
  refine (Search_any s h2 h1 h3 hs).mono ?_
  rintro e w' ⟨b, rfl, hb, hf⟩
  rw [finds_lang h4] at hb
  have : b = findB p (chars s) := Bool.eq_iff_iff.2 (hb.trans findB_iff.symm)
  rw [this]
  exact ⟨rfl, hf⟩

/-- Is a text one of a pattern's? -/
noncomputable def matchB (s t : ByteArray) : Bool := match (parsedT s).2 with | none => false | some p => langB p (chars t)
theorem matchB_none {s t : ByteArray} {er : Int} (h : parsedT s = (er, none)) : matchB s t = false := by unfold matchB; rw [h]
theorem matchB_some {s t : ByteArray} {er : Int} {p : Pt} (h : parsedT s = (er, some p)) : matchB s t = langB p (chars t) := by unfold matchB; rw [h]
set_option maxRecDepth 100000 in
theorem match_l {w : World} (s t : ByteArray) (hsz : s.size ≤ 9223372036854775807) (ht : t.size ≤ 1000000) : Calls Try.prog 14 #[.string s, .string t] w fun e w' => e = .returned (.bool (matchB s t)) ∧ Fr [] w w' := by
  refine calls_post fun R HQ => ?_
  go_enter Try.func14, Try.ntmps14
  go_wp2_with fail
  refine (Compile_l s hsz).mono ?_
  rintro e w1 ⟨hf1, ⟨er, hp, her, rfl⟩ | ⟨p, gp, hp, rfl, hg⟩⟩
  · have d0 : (er == 0) = false := by simpa using her
    have HE := Lib.hid (matchB_none (t := t) hp); have HF1 := Lib.hid hf1
    clear hp hf1
    go_wp2_with fail
    exact HQ.out _ _ ⟨by rw [HE.out]; rfl, HF1.out⟩
  · have HE := Lib.hid (matchB_some (t := t) hp); have HF1 := Lib.hid hf1; have HG := Lib.hid hg
    clear hp hf1 hg
    go_wp2_with fail
    refine (Match_l HG.out t ht).mono ?_
    rintro e w2 ⟨rfl, hf2⟩
    have HF2 := Lib.hid (HF1.out.trans hf2 (by simp))
    clear hf2
    go_wp2_with fail
    exact HQ.out _ _ ⟨by rw [HE.out]; rfl, HF2.out⟩

end Go.Proofs.Ytnhlgjjdpappkaa
