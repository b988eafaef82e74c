/-
  The contracts of the pattern's reader: piece.
-/
import Derived.Test.YtnhlgjjdpappkaaRf
namespace Go.Proofs.Ytnhlgjjdpappkaa
open Go.RowKit

set_option maxRecDepth 100000 in
set_option maxHeartbeats 1600000 in
theorem piece_any {n : Nat} (IH : PatOK n) {w : World} {r gl : Nat} {s : RS} (h : RdAt w r gl s) (hok : s.ok) (hn : s.l.length ≤ n) :
    Calls Try.prog 45 #[.pointer (some ⟨r, 0, none⟩)] w (PRes (PartV w) w r gl (s.piece (RS.pattern n))) := by
  refine calls_post fun R HQ => ?_
  have hlt := h.lt
  have HT := Lib.hid (atom_any IH (h.fr ((Fr.refl [] w).alloc (.cells zero6.toArray 43)) (by simp)) hok hn)
  have HZ0 := Lib.hid (Blk.new w 43 zero6)
  have HF0 := Lib.hid ((Fr.refl [r] w).alloc (.cells zero6.toArray 43))
  have hsz0 : (w.alloc (.cells zero6.toArray 43)).heap.size = w.heap.size + 1 := by simp
  unfold zero6 at HT HZ0 HF0 hsz0
  clear h
  go_enter Try.func45, Try.ntmps45
  go_wp2_with fail
  cases ht : s.atom (RS.pattern n) with
  | none =>
    have HE : Hid (s.piece (RS.pattern n) = none) := Lib.hid (by unfold RS.piece; rw [ht])
    rw [ht] at HT
    refine HT.out.mono ?_
    rintro e w1 ⟨rfl, hf⟩
    exact ⟨rfl, HQ.out _ _ (pres_none HE.out (HF0.out.trans hf (fun x hx => .inl hx)))⟩
  | some y =>
    obtain ⟨a, s1⟩ := y
    have HE0 : Hid (s.piece (RS.pattern n) = if s1.peek = 42 then some (.star a, s1.next) else if s1.peek = 43 then some (.plus a, s1.next) else if s1.peek = 63 then some (.maybe a, s1.next)
      else if s1.peek = 123 then s1.next.times a else some (a, s1)) := Lib.hid (by unfold RS.piece; rw [ht])
    rw [ht] at HT
    clear ht
    refine HT.out.mono ?_
    rintro e w1 ⟨_, rfl, ⟨cs, rfl, hpa⟩, hr1, hf1⟩
    have hpa1 : PartAt w1 (fun g => w.heap.size < g ∧ g < w1.heap.size) a cs := hpa.bound.mono (fun g hg => by have := hg.1; rw [hsz0] at this; omega)
    clear hpa
    have hpa := hpa1
    clear hpa1
    have HZ1 := Lib.hid (HZ0.out.fr hf1 (by simp <;> omega))
    have hz1 := HZ1.out.lt
    have HF1 := Lib.hid (HF0.out.trans hf1 (fun x hx => .inl hx))
    -- a part came back: hpa : PartAt WZ (..) p cs with blocks from WB on
    obtain ⟨sv, lv, rfl, hs, hl⟩ := hpa.inv
    obtain ⟨A1, c1, rfl⟩ := hs.slice
    obtain ⟨A2, c2, rfl⟩ := hl.slice
    clear hs hl
    unfold pcells at hpa ⊢
    generalize a.kind = pk at *
    generalize a.neg = pn at *
    generalize a.lo = plo at *
    generalize a.hi = phi at *
    generalize a.set.length = n1 at *
    generalize a.subs.length = n2 at *
    have HRa := Lib.hid (hr1.fr ((Fr.refl [] w1).alloc (.cells #[.int .i64 pk, .bool pn, .slice A1 n1 c1, .slice A2 n2 c2, .int .i64 plo, .int .i64 phi] 43)) (by simp))
    have HOa := Lib.hid (Blk.new w1 43 [.int .i64 pk, .bool pn, .slice A1 n1 c1, .slice A2 n2 c2, .int .i64 plo, .int .i64 phi])
    have HZa := Lib.hid (HZ1.out.alloc (.cells #[.int .i64 pk, .bool pn, .slice A1 n1 c1, .slice A2 n2 c2, .int .i64 plo, .int .i64 phi] 43))
    have HFa := Lib.hid (HF1.out.alloc (.cells #[.int .i64 pk, .bool pn, .slice A1 n1 c1, .slice A2 n2 c2, .int .i64 plo, .int .i64 phi] 43))
    have HPa := Lib.hid (hpa.fr ((Fr.refl [] w1).alloc (.cells #[.int .i64 pk, .bool pn, .slice A1 n1 c1, .slice A2 n2 c2, .int .i64 plo, .int .i64 phi] 43)) (by simp))
    clear hpa hr1 hf1 hsz0 HT
    by_cases h1 : s1.peek = 42
    · have HE : Hid (s.piece (RS.pattern n) = some (.star a, s1.next)) := Lib.hid (by rw [HE0.out, if_pos h1])
      go_wp2_with fail
      refine (is_any HRa.out (by omega)).mono ?_
      rintro e w2 ⟨rfl, hr, hf, -⟩
      rw [show s1.isB 42 = true by simpa [RS.isB] using h1]
      rw [show s1.isS 42 = s1.next by simp [RS.isS, h1]] at hr
      have HRb := Lib.hid hr; have HFb := Lib.hid (HFa.out.trans hf (fun x hx => .inl hx)); have HZb := Lib.hid (HZa.out.fr hf (by simp <;> omega)); have HOb := Lib.hid (HOa.out.fr hf (by simp <;> omega)); have HPb := Lib.hid (HPa.out.fr hf (fun g hg => by simp <;> omega))
      clear hr hf
      -- the part, wrapped, is the result
      have y0 := HOb.out.at_ (i := 0) rfl
      have y1 := HOb.out.at_ (i := 1) rfl
      have y2 := HOb.out.at_ (i := 2) rfl
      have y3 := HOb.out.at_ (i := 3) rfl
      have y4 := HOb.out.at_ (i := 4) rfl
      have y5 := HOb.out.at_ (i := 5) rfl
      have z0 := HZb.out.at_ (i := 0) rfl
      have z1 := HZb.out.at_ (i := 1) rfl
      have z2 := HZb.out.at_ (i := 2) rfl
      have z3 := HZb.out.at_ (i := 3) rfl
      have z4 := HZb.out.at_ (i := 4) rfl
      have z5 := HZb.out.at_ (i := 5) rfl
      have zf := HZb.out.free
      have hne : ¬ w.heap.size = w1.heap.size := by omega
      have hlw := HOb.out.lt
      have hlv : w.heap.size < w2.heap.size := HZb.out.lt
      have hnv : ¬ w.heap.size = w2.heap.size := by omega
      go_wp2_with fail
      have hfz := Fr.set6 w2 w.heap.size (.int .i64 3) (.bool false) (.slice none 0 0) (.slice (some ⟨w2.heap.size, 0, none⟩) 1 1) (.int .i64 0) (.int .i64 0)
      have hsz : (set6 w2 w.heap.size (.int .i64 3) (.bool false) (.slice none 0 0) (.slice (some ⟨w2.heap.size, 0, none⟩) 1 1) (.int .i64 0) (.int .i64 0)).heap.size = w2.heap.size := by simp [set6]
      have hbs := Blk.new (set6 w2 w.heap.size (.int .i64 3) (.bool false) (.slice none 0 0) (.slice (some ⟨w2.heap.size, 0, none⟩) 1 1) (.int .i64 0) (.int .i64 0)) 43 [.int .i64 pk, .bool pn, .slice A1 n1 c1, .slice A2 n2 c2, .int .i64 plo, .int .i64 phi]
      rw [hsz] at hbs
      have hfz' := (Fr.refl [] _).alloc (a := set6 w2 w.heap.size (.int .i64 3) (.bool false) (.slice none 0 0) (.slice (some ⟨w2.heap.size, 0, none⟩) 1 1) (.int .i64 0) (.int .i64 0)) (.cells #[.int .i64 pk, .bool pn, .slice A1 n1 c1, .slice A2 n2 c2, .int .i64 plo, .int .i64 phi] 43)
      have hpa := ((HPb.out.fr hfz (fun g hg => by simp <;> omega)).fr hfz' (by simp)).mono (M := fun g => w.heap.size ≤ g) (fun g hg => by omega)
      have hpt := PartAt.of (p := .star a) (SpansAt.nil _ _) (PartsAt.of_blk hbs hpa (by omega))
      refine ret_blk (g := w.heap.size) (t' := 43) (d := _) rfl rfl ((HZb.out.set6 (.int .i64 3) (.bool false) (.slice none 0 0) (.slice (some ⟨w2.heap.size, 0, none⟩) 1 1) (.int .i64 0) (.int .i64 0)).fr hfz' (by simp)) Try.underlying43 rfl (by kernel_rfl) (HQ.out _ _ (pres_some HE.out ⟨_, rfl, hpt⟩ ((HRb.out.fr hfz (by simpa using hlt)).fr hfz' (by simp)) ((HFb.out.trans hfz (fun x hx => .inr (by simp at hx; omega))).trans hfz' (by simp))))
    · skip
      -- the next character is not 42: world X to Y
      go_wp2_with fail
      refine (is_any HRa.out (by omega)).mono ?_
      rintro e w2 ⟨rfl, hr, hf, -⟩
      rw [show s1.isB 42 = false by simpa [RS.isB] using h1]
      rw [show s1.isS 42 = s1 by simp [RS.isS, h1]] at hr
      have HRb := Lib.hid hr; have HFb := Lib.hid (HFa.out.trans hf (fun x hx => .inl hx)); have HZb := Lib.hid (HZa.out.fr hf (by simp <;> omega)); have HOb := Lib.hid (HOa.out.fr hf (by simp <;> omega)); have HPb := Lib.hid (HPa.out.fr hf (fun g hg => by simp <;> omega))
      clear hr hf
      by_cases h2 : s1.peek = 43
      · have HE : Hid (s.piece (RS.pattern n) = some (.plus a, s1.next)) := Lib.hid (by rw [HE0.out, if_neg h1, if_pos h2])
        go_wp2_with fail
        refine (is_any HRb.out (by omega)).mono ?_
        rintro e w3 ⟨rfl, hr, hf, -⟩
        rw [show s1.isB 43 = true by simpa [RS.isB] using h2]
        rw [show s1.isS 43 = s1.next by simp [RS.isS, h2]] at hr
        have HRc := Lib.hid hr; have HFc := Lib.hid (HFb.out.trans hf (fun x hx => .inl hx)); have HZc := Lib.hid (HZb.out.fr hf (by simp <;> omega)); have HOc := Lib.hid (HOb.out.fr hf (by simp <;> omega)); have HPc := Lib.hid (HPb.out.fr hf (fun g hg => by simp <;> omega))
        clear hr hf
        -- the part, wrapped, is the result
        have y0 := HOc.out.at_ (i := 0) rfl
        have y1 := HOc.out.at_ (i := 1) rfl
        have y2 := HOc.out.at_ (i := 2) rfl
        have y3 := HOc.out.at_ (i := 3) rfl
        have y4 := HOc.out.at_ (i := 4) rfl
        have y5 := HOc.out.at_ (i := 5) rfl
        have z0 := HZc.out.at_ (i := 0) rfl
        have z1 := HZc.out.at_ (i := 1) rfl
        have z2 := HZc.out.at_ (i := 2) rfl
        have z3 := HZc.out.at_ (i := 3) rfl
        have z4 := HZc.out.at_ (i := 4) rfl
        have z5 := HZc.out.at_ (i := 5) rfl
        have zf := HZc.out.free
        have hne : ¬ w.heap.size = w1.heap.size := by omega
        have hlw := HOc.out.lt
        have hlv : w.heap.size < w3.heap.size := HZc.out.lt
        have hnv : ¬ w.heap.size = w3.heap.size := by omega
        go_wp2_with fail
        have hfz := Fr.set6 w3 w.heap.size (.int .i64 4) (.bool false) (.slice none 0 0) (.slice (some ⟨w3.heap.size, 0, none⟩) 1 1) (.int .i64 0) (.int .i64 0)
        have hsz : (set6 w3 w.heap.size (.int .i64 4) (.bool false) (.slice none 0 0) (.slice (some ⟨w3.heap.size, 0, none⟩) 1 1) (.int .i64 0) (.int .i64 0)).heap.size = w3.heap.size := by simp [set6]
        have hbs := Blk.new (set6 w3 w.heap.size (.int .i64 4) (.bool false) (.slice none 0 0) (.slice (some ⟨w3.heap.size, 0, none⟩) 1 1) (.int .i64 0) (.int .i64 0)) 43 [.int .i64 pk, .bool pn, .slice A1 n1 c1, .slice A2 n2 c2, .int .i64 plo, .int .i64 phi]
        rw [hsz] at hbs
        have hfz' := (Fr.refl [] _).alloc (a := set6 w3 w.heap.size (.int .i64 4) (.bool false) (.slice none 0 0) (.slice (some ⟨w3.heap.size, 0, none⟩) 1 1) (.int .i64 0) (.int .i64 0)) (.cells #[.int .i64 pk, .bool pn, .slice A1 n1 c1, .slice A2 n2 c2, .int .i64 plo, .int .i64 phi] 43)
        have hpa := ((HPc.out.fr hfz (fun g hg => by simp <;> omega)).fr hfz' (by simp)).mono (M := fun g => w.heap.size ≤ g) (fun g hg => by omega)
        have hpt := PartAt.of (p := .plus a) (SpansAt.nil _ _) (PartsAt.of_blk hbs hpa (by omega))
        refine ret_blk (g := w.heap.size) (t' := 43) (d := _) rfl rfl ((HZc.out.set6 (.int .i64 4) (.bool false) (.slice none 0 0) (.slice (some ⟨w3.heap.size, 0, none⟩) 1 1) (.int .i64 0) (.int .i64 0)).fr hfz' (by simp)) Try.underlying43 rfl (by kernel_rfl) (HQ.out _ _ (pres_some HE.out ⟨_, rfl, hpt⟩ ((HRc.out.fr hfz (by simpa using hlt)).fr hfz' (by simp)) ((HFc.out.trans hfz (fun x hx => .inr (by simp at hx; omega))).trans hfz' (by simp))))
      · skip
        -- the next character is not 43: world X to Y
        go_wp2_with fail
        refine (is_any HRb.out (by omega)).mono ?_
        rintro e w3 ⟨rfl, hr, hf, -⟩
        rw [show s1.isB 43 = false by simpa [RS.isB] using h2]
        rw [show s1.isS 43 = s1 by simp [RS.isS, h2]] at hr
        have HRc := Lib.hid hr; have HFc := Lib.hid (HFb.out.trans hf (fun x hx => .inl hx)); have HZc := Lib.hid (HZb.out.fr hf (by simp <;> omega)); have HOc := Lib.hid (HOb.out.fr hf (by simp <;> omega)); have HPc := Lib.hid (HPb.out.fr hf (fun g hg => by simp <;> omega))
        clear hr hf
        by_cases h3 : s1.peek = 63
        · have HE : Hid (s.piece (RS.pattern n) = some (.maybe a, s1.next)) := Lib.hid (by rw [HE0.out, if_neg h1, if_neg h2, if_pos h3])
          go_wp2_with fail
          refine (is_any HRc.out (by omega)).mono ?_
          rintro e w4 ⟨rfl, hr, hf, -⟩
          rw [show s1.isB 63 = true by simpa [RS.isB] using h3]
          rw [show s1.isS 63 = s1.next by simp [RS.isS, h3]] at hr
          have HRd := Lib.hid hr; have HFd := Lib.hid (HFc.out.trans hf (fun x hx => .inl hx)); have HZd := Lib.hid (HZc.out.fr hf (by simp <;> omega)); have HOd := Lib.hid (HOc.out.fr hf (by simp <;> omega)); have HPd := Lib.hid (HPc.out.fr hf (fun g hg => by simp <;> omega))
          clear hr hf
          -- the part, wrapped, is the result
          have y0 := HOd.out.at_ (i := 0) rfl
          have y1 := HOd.out.at_ (i := 1) rfl
          have y2 := HOd.out.at_ (i := 2) rfl
          have y3 := HOd.out.at_ (i := 3) rfl
          have y4 := HOd.out.at_ (i := 4) rfl
          have y5 := HOd.out.at_ (i := 5) rfl
          have z0 := HZd.out.at_ (i := 0) rfl
          have z1 := HZd.out.at_ (i := 1) rfl
          have z2 := HZd.out.at_ (i := 2) rfl
          have z3 := HZd.out.at_ (i := 3) rfl
          have z4 := HZd.out.at_ (i := 4) rfl
          have z5 := HZd.out.at_ (i := 5) rfl
          have zf := HZd.out.free
          have hne : ¬ w.heap.size = w1.heap.size := by omega
          have hlw := HOd.out.lt
          have hlv : w.heap.size < w4.heap.size := HZd.out.lt
          have hnv : ¬ w.heap.size = w4.heap.size := by omega
          go_wp2_with fail
          have hfz := Fr.set6 w4 w.heap.size (.int .i64 5) (.bool false) (.slice none 0 0) (.slice (some ⟨w4.heap.size, 0, none⟩) 1 1) (.int .i64 0) (.int .i64 0)
          have hsz : (set6 w4 w.heap.size (.int .i64 5) (.bool false) (.slice none 0 0) (.slice (some ⟨w4.heap.size, 0, none⟩) 1 1) (.int .i64 0) (.int .i64 0)).heap.size = w4.heap.size := by simp [set6]
          have hbs := Blk.new (set6 w4 w.heap.size (.int .i64 5) (.bool false) (.slice none 0 0) (.slice (some ⟨w4.heap.size, 0, none⟩) 1 1) (.int .i64 0) (.int .i64 0)) 43 [.int .i64 pk, .bool pn, .slice A1 n1 c1, .slice A2 n2 c2, .int .i64 plo, .int .i64 phi]
          rw [hsz] at hbs
          have hfz' := (Fr.refl [] _).alloc (a := set6 w4 w.heap.size (.int .i64 5) (.bool false) (.slice none 0 0) (.slice (some ⟨w4.heap.size, 0, none⟩) 1 1) (.int .i64 0) (.int .i64 0)) (.cells #[.int .i64 pk, .bool pn, .slice A1 n1 c1, .slice A2 n2 c2, .int .i64 plo, .int .i64 phi] 43)
          have hpa := ((HPd.out.fr hfz (fun g hg => by simp <;> omega)).fr hfz' (by simp)).mono (M := fun g => w.heap.size ≤ g) (fun g hg => by omega)
          have hpt := PartAt.of (p := .maybe a) (SpansAt.nil _ _) (PartsAt.of_blk hbs hpa (by omega))
          refine ret_blk (g := w.heap.size) (t' := 43) (d := _) rfl rfl ((HZd.out.set6 (.int .i64 5) (.bool false) (.slice none 0 0) (.slice (some ⟨w4.heap.size, 0, none⟩) 1 1) (.int .i64 0) (.int .i64 0)).fr hfz' (by simp)) Try.underlying43 rfl (by kernel_rfl) (HQ.out _ _ (pres_some HE.out ⟨_, rfl, hpt⟩ ((HRd.out.fr hfz (by simpa using hlt)).fr hfz' (by simp)) ((HFd.out.trans hfz (fun x hx => .inr (by simp at hx; omega))).trans hfz' (by simp))))
        · skip
          -- the next character is not 63: world X to Y
          go_wp2_with fail
          refine (is_any HRc.out (by omega)).mono ?_
          rintro e w4 ⟨rfl, hr, hf, -⟩
          rw [show s1.isB 63 = false by simpa [RS.isB] using h3]
          rw [show s1.isS 63 = s1 by simp [RS.isS, h3]] at hr
          have HRd := Lib.hid hr; have HFd := Lib.hid (HFc.out.trans hf (fun x hx => .inl hx)); have HZd := Lib.hid (HZc.out.fr hf (by simp <;> omega)); have HOd := Lib.hid (HOc.out.fr hf (by simp <;> omega)); have HPd := Lib.hid (HPc.out.fr hf (fun g hg => by simp <;> omega))
          clear hr hf
          by_cases h4 : s1.peek = 123
          · have HE1 : Hid (s.piece (RS.pattern n) = s1.next.times a) := Lib.hid (by rw [HE0.out, if_neg h1, if_neg h2, if_neg h3, if_pos h4])
            go_wp2_with fail
            refine (is_any HRd.out (by omega)).mono ?_
            rintro e w5 ⟨rfl, hr, hf, -⟩
            rw [show s1.isB 123 = true by simpa [RS.isB] using h4]
            rw [show s1.isS 123 = s1.next by simp [RS.isS, h4]] at hr
            have HRe := Lib.hid hr; have HFe := Lib.hid (HFd.out.trans hf (fun x hx => .inl hx)); have HZe := Lib.hid (HZd.out.fr hf (by simp <;> omega)); have HOe := Lib.hid (HOd.out.fr hf (by simp <;> omega)); have HPe := Lib.hid (HPd.out.fr hf (fun g hg => by simp <;> omega))
            clear hr hf
            have hl5 := HOe.out.lt
            have HC := Lib.hid (times_any HRe.out (HPe.out.mono (M := fun g => w.heap.size < g) (fun g hg => hg.1)) (fun g hg => by omega) (fun g hg => by omega))
            have y0 := HOe.out.at_ (i := 0) rfl
            have y1 := HOe.out.at_ (i := 1) rfl
            have y2 := HOe.out.at_ (i := 2) rfl
            have y3 := HOe.out.at_ (i := 3) rfl
            have y4 := HOe.out.at_ (i := 4) rfl
            have y5 := HOe.out.at_ (i := 5) rfl
            go_wp2_with fail
            cases hy : s1.next.times a with
            | none =>
              have HE : Hid (s.piece (RS.pattern n) = none) := Lib.hid (by rw [HE1.out, hy])
              rw [hy] at HC
              refine HC.out.mono ?_
              rintro e w6 ⟨rfl, hf⟩
              exact ⟨rfl, HQ.out _ _ (pres_none HE.out (HFe.out.trans hf (fun x hx => .inl hx)))⟩
            | some y =>
              obtain ⟨p, s2⟩ := y
              have HE : Hid (s.piece (RS.pattern n) = some (p, s2)) := Lib.hid (by rw [HE1.out, hy])
              rw [hy] at HC
              clear hy HE1 y0 y1 y2 y3 y4 y5
              refine HC.out.mono ?_
              rintro e w6 ⟨_, rfl, ⟨cs, rfl, hpa⟩, hr6, hf6⟩
              have HZ6 := Lib.hid (HZe.out.fr hf6 (by simp <;> omega)); have HR6 := Lib.hid hr6; have HF6 := Lib.hid (HFe.out.trans hf6 (fun x hx => .inl hx))
              have hpz : PartAt w6 (fun g => w.heap.size < g ∧ g < w6.heap.size) p cs := hpa.bound
              obtain ⟨sv, lv, rfl, hs, hl⟩ := hpa.inv
              obtain ⟨B1, d1, rfl⟩ := hs.slice
              obtain ⟨B2, d2, rfl⟩ := hl.slice
              have HPA6 := Lib.hid hpz
              clear hs hl hpa hpz hr6 hf6
              unfold pcells at HPA6 ⊢
              generalize p.kind = qk at *
              generalize p.neg = qn at *
              generalize p.lo = qlo at *
              generalize p.hi = qhi at *
              generalize p.set.length = m1 at *
              generalize p.subs.length = m2 at *
              have z0 := HZ6.out.at_ (i := 0) rfl
              have z1 := HZ6.out.at_ (i := 1) rfl
              have z2 := HZ6.out.at_ (i := 2) rfl
              have z3 := HZ6.out.at_ (i := 3) rfl
              have z4 := HZ6.out.at_ (i := 4) rfl
              have z5 := HZ6.out.at_ (i := 5) rfl
              have zf := HZ6.out.free
              go_wp2_with fail
              have hfz := Fr.set6 w6 w.heap.size (.int .i64 qk) (.bool qn) (.slice B1 m1 d1) (.slice B2 m2 d2) (.int .i64 qlo) (.int .i64 qhi)
              refine ret_blk (g := w.heap.size) (t' := 43) (d := _) rfl rfl (HZ6.out.set6 (.int .i64 qk) (.bool qn) (.slice B1 m1 d1) (.slice B2 m2 d2) (.int .i64 qlo) (.int .i64 qhi)) Try.underlying43 rfl (by kernel_rfl) (HQ.out _ _ (pres_some HE.out ⟨_, rfl, (HPA6.out.fr hfz (fun g hg => by simp <;> omega)).mono (fun g hg => by omega)⟩ (HR6.out.fr hfz (by simpa using hlt)) (HF6.out.trans hfz (fun x hx => .inr (by simp at hx; omega)))))
          · have HE : Hid (s.piece (RS.pattern n) = some (a, s1)) := Lib.hid (by rw [HE0.out, if_neg h1, if_neg h2, if_neg h3, if_neg h4])
            -- the next character is not 123: world X to Y
            go_wp2_with fail
            refine (is_any HRd.out (by omega)).mono ?_
            rintro e w5 ⟨rfl, hr, hf, -⟩
            rw [show s1.isB 123 = false by simpa [RS.isB] using h4]
            rw [show s1.isS 123 = s1 by simp [RS.isS, h4]] at hr
            have HRe := Lib.hid hr; have HFe := Lib.hid (HFd.out.trans hf (fun x hx => .inl hx)); have HZe := Lib.hid (HZd.out.fr hf (by simp <;> omega)); have HOe := Lib.hid (HOd.out.fr hf (by simp <;> omega)); have HPe := Lib.hid (HPd.out.fr hf (fun g hg => by simp <;> omega))
            clear hr hf
            have hl5 := HOe.out.lt
            have HPA6 := Lib.hid (HPe.out.mono (M := fun g => w.heap.size < g ∧ g < w5.heap.size) (fun g hg => by omega))
            have y0 := HOe.out.at_ (i := 0) rfl
            have y1 := HOe.out.at_ (i := 1) rfl
            have y2 := HOe.out.at_ (i := 2) rfl
            have y3 := HOe.out.at_ (i := 3) rfl
            have y4 := HOe.out.at_ (i := 4) rfl
            have y5 := HOe.out.at_ (i := 5) rfl
            have hne : ¬ w.heap.size = w1.heap.size := by omega
            -- the part is stored as the result
            have z0 := HZe.out.at_ (i := 0) rfl
            have z1 := HZe.out.at_ (i := 1) rfl
            have z2 := HZe.out.at_ (i := 2) rfl
            have z3 := HZe.out.at_ (i := 3) rfl
            have z4 := HZe.out.at_ (i := 4) rfl
            have z5 := HZe.out.at_ (i := 5) rfl
            have zf := HZe.out.free
            go_wp2_with fail
            have hfz := Fr.set6 w5 w.heap.size (.int .i64 pk) (.bool pn) (.slice A1 n1 c1) (.slice A2 n2 c2) (.int .i64 plo) (.int .i64 phi)
            refine ret_blk (g := w.heap.size) (t' := 43) (d := _) rfl rfl (HZe.out.set6 (.int .i64 pk) (.bool pn) (.slice A1 n1 c1) (.slice A2 n2 c2) (.int .i64 plo) (.int .i64 phi)) Try.underlying43 rfl (by kernel_rfl) (HQ.out _ _ (pres_some HE.out ⟨_, rfl, (HPA6.out.fr hfz (fun g hg => by simp; omega)).mono (fun g hg => by omega)⟩ (HRe.out.fr hfz (by simpa using hlt)) (HFe.out.trans hfz (fun x hx => .inr (by simp at hx; omega)))))

end Go.Proofs.Ytnhlgjjdpappkaa
