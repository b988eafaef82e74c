/-
  The law's awake: the document's examples.
-/
import Derived.Test.YtnhlgjjdpappkaaWa
namespace Go.Proofs.Ytnhlgjjdpappkaa
open Go.RowKit

def sBp : ByteArray := { data := #[98, 43] }
def sAll : ByteArray := { data := #[97, 40, 98, 124, 99, 41, 42, 100] }
def sAb : ByteArray := { data := #[97, 98] }
def pBp : Pt := .pick [.row [.plus (charPt 98)]]
def pAll : Pt := .pick [.row [charPt 97, .star (.pick [.row [charPt 98], .row [charPt 99]]), charPt 100]]
def pAb : Pt := .pick [.row [charPt 97, charPt 98]]
theorem parsed_Bp : parsedT sBp = (0, some pBp) := by kernel_rfl
theorem parsed_All : parsedT sAll = (0, some pAll) := by kernel_rfl
theorem size_Ab : sizeOfText sAb.size (runesOf (strBytes sAb)) = 3 := by kernel_rfl
theorem lang_char (c : Int) (l : List Int) : Lang (charPt c) l ↔ l = [c] := by
  unfold charPt
  rw [Lang]
  constructor
  · rintro ⟨d, rfl, hd⟩
    have : d = c := by
      simp [hasB, inSp] at hd
      omega
    rw [this]
  · rintro rfl
    exact ⟨c, rfl, by simp [hasB, inSp]⟩
theorem cat_char (c : Int) (B : List Int → Prop) (l : List Int) : Cat (Lang (charPt c)) B l ↔ ∃ t, l = c :: t ∧ B t := by
  constructor
  · rintro ⟨a, b, rfl, ha, hb⟩
    rw [lang_char] at ha
    subst ha
    exact ⟨b, rfl, hb⟩
  · rintro ⟨t, rfl, ht⟩
    exact ⟨[c], t, rfl, (lang_char c _).2 rfl, ht⟩
theorem lang_one (p : Pt) (l : List Int) : Lang (.pick [.row [p]]) l ↔ Lang p l := by
  rw [Lang, LangPick, LangPick, Lang, LangRow]
  constructor
  · rintro (⟨a, b, rfl, h1, h2⟩ | h)
    · rw [LangRow] at h2; subst h2; rwa [List.append_nil]
    · exact h.elim
  · intro h
    exact .inl ⟨l, [], by simp, h, by rw [LangRow]⟩
theorem lang_all (l : List Int) : Lang pAll l ↔ ∃ t, l = 97 :: t ∧ Cat (Star (Lang (.pick [.row [charPt 98], .row [charPt 99]]))) (fun u => u = [100]) t := by
  unfold pAll
  rw [Lang, LangPick, LangPick, Lang, LangRow, cat_char]
  have h1 : ∀ t, LangRow [.star (.pick [.row [charPt 98], .row [charPt 99]]), charPt 100] t ↔ Cat (Star (Lang (.pick [.row [charPt 98], .row [charPt 99]]))) (fun u => u = [100]) t := fun t => by
    rw [LangRow]
    have h2 : ∀ u, LangRow [charPt 100] u ↔ u = [100] := fun u => by
      rw [LangRow, cat_char]
      constructor
      · rintro ⟨t, rfl, ht⟩; rw [LangRow] at ht; subst ht; rfl
      · rintro rfl; exact ⟨[], rfl, by rw [LangRow]⟩
    constructor
    · rintro ⟨a, b, rfl, ha, hb⟩
      rw [Lang] at ha
      exact ⟨a, b, rfl, ha, (h2 b).1 hb⟩
    · rintro ⟨a, b, rfl, ha, hb⟩
      exact ⟨a, b, rfl, by rw [Lang]; exact ha, (h2 b).2 hb⟩
  simp only [h1, or_false]
theorem lang_bc (c : Int) (h : c = 98 ∨ c = 99) : Lang (.pick [.row [charPt 98], .row [charPt 99]]) [c] := by
  rw [Lang, LangPick, LangPick, LangPick, Lang, Lang, LangRow, LangRow, cat_char, cat_char]
  rcases h with rfl | rfl
  · exact .inl ⟨[], rfl, by rw [LangRow]⟩
  · exact .inr (.inl ⟨[], rfl, by rw [LangRow]⟩)
theorem awake_1 : matchB sAll { data := #[97, 100] } = true := by
  rw [matchB_some parsed_All, langB_iff, lang_all]
  exact ⟨[100], by decide +kernel, [], [100], rfl, .nil, rfl⟩
theorem awake_2 : matchB sAll { data := #[97, 98, 99, 100] } = true := by
  rw [matchB_some parsed_All, langB_iff, lang_all]
  exact ⟨[98, 99, 100], by decide +kernel, [98] ++ ([99] ++ []), [100], rfl, .cons (lang_bc 98 (.inl rfl)) (.cons (lang_bc 99 (.inr rfl)) .nil), rfl⟩
theorem awake_3 : matchB sAll { data := #[97] } = false := by
  rw [matchB_some parsed_All, Bool.eq_false_iff]
  rw [Ne, langB_iff, lang_all]
  rintro ⟨t, h, a, b, rfl, _, rfl⟩
  rw [show chars { data := #[97] } = [97] by decide +kernel] at h
  simp at h
theorem awake_4 : findB pBp (chars { data := #[97, 98, 99] }) = true := by
  rw [findB_iff]
  refine ⟨[97], [98], [99], by decide +kernel, ?_⟩
  unfold pBp
  rw [lang_one, Lang]
  exact ⟨[98], [], rfl, (lang_char 98 _).2 rfl, .nil⟩

set_option maxRecDepth 100000 in
theorem awake14 (w : World) : Calls Try.prog 8 #[] w fun e w' => e = .returned (.bool true) ∧ Fr [] w w' := by
  refine calls_post fun R HQ => ?_
  have HF0 := Lib.hid (Fr.refl [] w)
  go_enter Try.func8, Try.ntmps8
  go_wp2_with fail
  refine (Compile_l sBp (by decide)).mono ?_
  rintro e w1 ⟨hf1, ⟨er, hp, her, rfl⟩ | ⟨p, gp, hp, rfl, hg⟩⟩
  · rw [parsed_Bp] at hp; cases hp
  · rw [parsed_Bp] at hp
    have hp' : pBp = p := by injection hp with _ h; injection h
    subst hp'
    have HF1 := Lib.hid (HF0.out.trans hf1 (by simp)); have HG := Lib.hid hg; have HS1 := Lib.hid (Fr.refl [] w1)
    clear hp hf1 hg
    go_wp2_with fail
    -- a contract match_l sAll { data := #[97, 100] } (by decide) (by decide) of a call; 2: the number of the world; 1: the one ahead
    refine (match_l sAll { data := #[97, 100] } (by decide) (by decide)).mono ?_
    rintro e w2 ⟨rfl, hf2⟩
    have HF2 := Lib.hid (HF1.out.trans hf2 (by simp)); have HS2 := Lib.hid (HS1.out.trans hf2 (by simp))
    clear hf2
    rw [awake_1]
    go_wp2_with fail
    -- a contract match_l sAll { data := #[97, 98, 99, 100] } (by decide) (by decide) of a call; 3: the number of the world; 2: the one ahead
    refine (match_l sAll { data := #[97, 98, 99, 100] } (by decide) (by decide)).mono ?_
    rintro e w3 ⟨rfl, hf3⟩
    have HF3 := Lib.hid (HF2.out.trans hf3 (by simp)); have HS3 := Lib.hid (HS2.out.trans hf3 (by simp))
    clear hf3
    rw [awake_2]
    go_wp2_with fail
    -- a contract match_l sAll { data := #[97] } (by decide) (by decide) of a call; 4: the number of the world; 3: the one ahead
    refine (match_l sAll { data := #[97] } (by decide) (by decide)).mono ?_
    rintro e w4 ⟨rfl, hf4⟩
    have HF4 := Lib.hid (HF3.out.trans hf4 (by simp)); have HS4 := Lib.hid (HS3.out.trans hf4 (by simp))
    clear hf4
    rw [awake_3]
    go_wp2_with fail
    -- a contract Search_l (HG.out.fr (HS4.out)) { data := #[97, 98, 99] } (by decide) of a call; 5: the number of the world; 4: the one ahead
    refine (Search_l (HG.out.fr (HS4.out)) { data := #[97, 98, 99] } (by decide)).mono ?_
    rintro e w5 ⟨rfl, hf5⟩
    have HF5 := Lib.hid (HF4.out.trans hf5 (by simp)); have HS5 := Lib.hid (HS4.out.trans hf5 (by simp))
    clear hf5
    rw [awake_4]
    go_wp2_with fail
    -- a contract Size_any sAb (by decide) of a call; 6: the number of the world; 5: the one ahead
    refine (Size_any sAb (by decide)).mono ?_
    rintro e w6 ⟨rfl, hf6⟩
    have HF6 := Lib.hid (HF5.out.trans hf6 (by simp)); have HS6 := Lib.hid (HS5.out.trans hf6 (by simp))
    clear hf6
    rw [size_Ab]
    go_wp2_with fail
    exact HQ.out _ _ ⟨rfl, HF6.out⟩

end Go.Proofs.Ytnhlgjjdpappkaa
