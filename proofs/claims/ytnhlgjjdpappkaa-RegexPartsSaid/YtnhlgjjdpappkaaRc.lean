/-
  The contracts of the pattern's reader: item, class.
-/
import Derived.Test.YtnhlgjjdpappkaaRb
namespace Go.Proofs.Ytnhlgjjdpappkaa
open Go.RowKit

theorem RS.take_of_peek {s : RS} {c : Int} (h : s.peek = c) (hc : 0 ≤ c) : s.take = some (c, s.next) := by
  unfold RS.peek at h
  unfold RS.take
  split at h
  · omega
  · rename_i h1; simp [h]
theorem RS.escape_pos {s s1 : RS} {c : Int} (h : s.pos) (ht : s.escape = some (c, s1)) : s1.pos := by
  unfold RS.escape at ht
  split at ht
  · cases ht
  · rename_i c1 s2 h1
    have := (RS.take_pos h h1).2
    repeat' split at ht
    all_goals first | (simp only [Option.some.injEq, Prod.mk.injEq] at ht; obtain ⟨_, rfl⟩ := ht; exact this) | cases ht
theorem RS.end_pos {s s1 : RS} {c : Int} (h : s.pos) (ht : s.end_ = some (c, s1)) : s1.pos := by
  unfold RS.end_ at ht
  split at ht
  · cases ht
  · rename_i c1 s2 h1
    have h2 := (RS.take_pos h h1).2
    split at ht
    · exact RS.escape_pos h2 ht
    · split at ht
      · cases ht
      · simp only [Option.some.injEq, Prod.mk.injEq] at ht; obtain ⟨_, rfl⟩ := ht; exact h2
theorem RdAt.lt {w : World} {r gl : Nat} {s : RS} (h : RdAt w r gl s) : r < w.heap.size := by
  obtain ⟨_, v, hb, _⟩ := h
  exact hb.lt
def SpV (_ : World) (x : Sp) (v : Value) : Prop := v = .agg #[R32 x.lo, R32 x.hi]

theorem item_any {w : World} {r gl : Nat} {s : RS} (h : RdAt w r gl s) (hp : s.pos) (b : Bool) : Calls Try.prog 57 #[.pointer (some ⟨r, 0, none⟩), .bool b] w (PRes SpV w r gl (s.item b)) := by
  refine calls_post fun R HQ => ?_
  have HA : Hid (RdAt (w.alloc (.cells #[.int .i32 0, .int .i32 0] 91)) r gl s) := Lib.hid (h.fr ((Fr.refl [] w).alloc _) (by simp))
  have HFA : Hid (Fr [r] w (w.alloc (.cells #[.int .i32 0, .int .i32 0] 91))) := Lib.hid ((Fr.refl [r] w).alloc _)
  have HNE : Hid (w.heap.size ≠ r) := Lib.hid (by have := h.lt; omega)
  have HLT : Hid (r < w.heap.size) := Lib.hid h.lt
  have HP := Lib.hid hp
  have hb0 : True := trivial
  clear h hp
  by_cases h1 : s.peek = 45
  · have e1 : (s.peek == 45) = true := by simpa using h1
    cases b with
    | true =>
      have HE : Hid (s.item true = some (⟨45, 45⟩, s.next)) := Lib.hid (by unfold RS.item; rw [if_pos ⟨h1, .inl rfl⟩])
      have HT := Lib.hid (take_any HA.out)
      rw [RS.take_of_peek h1 (by omega)] at HT
      clear h1
      go_enter Try.func57, Try.ntmps57
      go_wp2_with fail
      refine (peek_any HA.out).mono ?_
      rintro e w1 ⟨rfl, rfl⟩
      go_wp2_with fail
      refine HT.out.mono ?_
      rintro e w1 ⟨_, rfl, rfl, hr, hf⟩
      have hb := (Blk.new w 91 [R32 0, R32 0]).fr hf (by simpa using HNE.out)
      have HB := Lib.hid hb
      have b0 := hb.at_ (i := 0) rfl
      have b1 := hb.at_ (i := 1) rfl
      have bf := hb.free
      have HR := Lib.hid hr; have HF := Lib.hid (HFA.out.trans hf (fun x hx => .inl hx))
      clear hr hf hb
      go_wp2_with fail
      -- the result's two cells are stored; GB: the result's block; HB: its Blk
      refine ret_blk (g := w.heap.size) (cs := [R32 45, R32 45]) (t' := 91) (d := _) rfl rfl ((HB.out.set_ 0 (R32 45)).set_ 1 (R32 45)) Try.underlying91 rfl (by kernel_rfl) (HQ.out _ _ (pres_some HE.out rfl ?_ ?_))
      · exact HR.out.fr (((Fr.refl [w.heap.size] _).setCell (.inl (by simp)) _).setCell (.inl (by simp)) _) (by simpa using HLT.out)
      · exact (HF.out.setCell (.inr (Nat.le_refl _)) _).setCell (.inr (Nat.le_refl _)) _
    | false =>
      clear hb0
      have HL := Lib.hid (last_any HA.out)
      go_enter Try.func57, Try.ntmps57
      go_wp2_with fail
      refine (peek_any HA.out).mono ?_
      rintro e w1 ⟨rfl, rfl⟩
      go_wp2_with fail
      refine HL.out.mono ?_
      rintro e w1 ⟨rfl, rfl⟩
      cases hla : s.last with
      | true =>
        have HE : Hid (s.item false = some (⟨45, 45⟩, s.next)) := Lib.hid (by unfold RS.item; rw [if_pos ⟨h1, .inr hla⟩])
        have HT := Lib.hid (take_any HA.out)
        rw [RS.take_of_peek h1 (by omega)] at HT
        clear h1 hla
        go_wp2_with fail
        refine HT.out.mono ?_
        rintro e w1 ⟨_, rfl, rfl, hr, hf⟩
        have hb := (Blk.new w 91 [R32 0, R32 0]).fr hf (by simpa using HNE.out)
        have HB := Lib.hid hb
        have b0 := hb.at_ (i := 0) rfl
        have b1 := hb.at_ (i := 1) rfl
        have bf := hb.free
        have HR := Lib.hid hr; have HF := Lib.hid (HFA.out.trans hf (fun x hx => .inl hx))
        clear hr hf hb
        go_wp2_with fail
        -- the result's two cells are stored; GB: the result's block; HB: its Blk
        refine ret_blk (g := w.heap.size) (cs := [R32 45, R32 45]) (t' := 91) (d := _) rfl rfl ((HB.out.set_ 0 (R32 45)).set_ 1 (R32 45)) Try.underlying91 rfl (by kernel_rfl) (HQ.out _ _ (pres_some HE.out rfl ?_ ?_))
        · exact HR.out.fr (((Fr.refl [w.heap.size] _).setCell (.inl (by simp)) _).setCell (.inl (by simp)) _) (by simpa using HLT.out)
        · exact (HF.out.setCell (.inr (Nat.le_refl _)) _).setCell (.inr (Nat.le_refl _)) _
      | false =>
        have HE : Hid (s.item false = match s.end_ with
          | none => none
          | some (a, s) =>
            if s.peek = 45 ∧ s.last = false then
              match s.next.end_ with
              | none => none
              | some (b, s) => if a ≤ b then some (⟨a, b⟩, s) else none
            else some (⟨a, a⟩, s)) := Lib.hid (by unfold RS.item; rw [if_neg (by simp [hla])]; rfl)
        clear h1 hla
        -- behind the test: an end, and maybe another one
        have HC := Lib.hid (end_any HA.out HP.out)
        have HZ := Lib.hid (Blk.new w 91 [R32 0, R32 0])
        cases he : s.end_ with
        | none =>
          rw [he] at HC HE
          go_wp2_with fail
          refine HC.out.mono ?_
          rintro e w2 ⟨rfl, hf⟩
          exact ⟨rfl, HQ.out _ _ (by rw [HE.out]; exact ⟨rfl, HFA.out.trans hf (fun x hx => .inl hx)⟩)⟩
        | some y =>
          obtain ⟨a, s1⟩ := y
          have HP1 := Lib.hid (RS.end_pos HP.out he)
          rw [he] at HC HE
          clear he
          go_wp2_with fail
          refine HC.out.mono ?_
          rintro e w2 ⟨_, rfl, rfl, hr2, hf2⟩
          have HB2 := Lib.hid (HZ.out.fr hf2 (by simpa using HNE.out))
          have HR2 := Lib.hid hr2; have HF2 := Lib.hid (HFA.out.trans hf2 (fun x hx => .inl hx))
          have hz2 := HB2.out.lt
          have HRA : Hid (RdAt (w2.alloc (.cells #[.int .i32 a, .int .i32 a] 91)) r gl s1) := Lib.hid (hr2.fr ((Fr.refl [] w2).alloc _) (by simp))
          have HFB : Hid (Fr [r] w (w2.alloc (.cells #[.int .i32 a, .int .i32 a] 91))) := Lib.hid (HF2.out.alloc _)
          have HBX : Hid (Blk (w2.alloc (.cells #[.int .i32 a, .int .i32 a] 91)) w2.heap.size 91 [R32 a, R32 a]) := Lib.hid (Blk.new w2 91 [R32 a, R32 a])
          have HB3 : Hid (Blk (w2.alloc (.cells #[.int .i32 a, .int .i32 a] 91)) w.heap.size 91 [R32 0, R32 0]) := Lib.hid (HB2.out.alloc _)
          clear hr2 hf2
          go_wp2_with fail
          refine (peek_any HRA.out).mono ?_
          rintro e w3 ⟨rfl, rfl⟩
          by_cases g1 : s1.peek = 45
          · have c1 : (s1.peek == 45) = true := by simpa using g1
            go_wp2_with fail
            refine (last_any HRA.out).mono ?_
            rintro e w3 ⟨rfl, rfl⟩
            cases hla : s1.last with
            | true =>
              have HE' := HE.out
              simp only [hla, Bool.true_eq_false, and_false, if_false] at HE'
              clear HE
              have HE := Lib.hid HE'
              clear HE' hla g1
              generalize w2.alloc (.cells #[.int .i32 a, .int .i32 a] 91) = w3 at *
              have x0 : w3.cell? ⟨w2.heap.size, 0, none⟩ = some (.int .i32 a) := HBX.out.at_ (i := 0) rfl
              have x1 : w3.cell? ⟨w2.heap.size, 1, none⟩ = some (.int .i32 a) := HBX.out.at_ (i := 1) rfl
              have r0 := HB3.out.at_ (i := 0) rfl
              have r1 := HB3.out.at_ (i := 1) rfl
              have rf := HB3.out.free
              go_wp2_with fail
              -- the result's two cells are stored; GB: the result's block; HB3: its Blk
              refine ret_blk (g := w.heap.size) (cs := [R32 a, R32 a]) (t' := 91) (d := _) rfl rfl ((HB3.out.set_ 0 (R32 a)).set_ 1 (R32 a)) Try.underlying91 rfl (by kernel_rfl) (HQ.out _ _ (pres_some HE.out rfl ?_ ?_))
              · exact HRA.out.fr (((Fr.refl [w.heap.size] _).setCell (.inl (by simp)) _).setCell (.inl (by simp)) _) (by simpa using HLT.out)
              · exact (HFB.out.setCell (.inr (Nat.le_refl _)) _).setCell (.inr (Nat.le_refl _)) _
            | false =>
              have HT := Lib.hid (take_any HRA.out)
              rw [RS.take_of_peek g1 (by omega)] at HT
              have HE' := HE.out
              rw [if_pos ⟨g1, hla⟩] at HE'
              clear HE
              have HE := Lib.hid HE'
              clear HE' hla g1
              generalize w2.alloc (.cells #[.int .i32 a, .int .i32 a] 91) = w3 at *
              go_wp2_with fail
              refine HT.out.mono ?_
              rintro e w4 ⟨_, rfl, rfl, hr4, hf4⟩
              have HR4 := Lib.hid hr4; have HF4 := Lib.hid hf4
              clear hr4 hf4
              have HC2 := Lib.hid (end_any HR4.out HP1.out.next)
              go_wp2_with fail
              cases he : s1.next.end_ with
              | none =>
                rw [he] at HC2 HE
                refine HC2.out.mono ?_
                rintro e w5 ⟨rfl, hf⟩
                exact ⟨rfl, HQ.out _ _ (by rw [HE.out]; exact ⟨rfl, (HFB.out.trans HF4.out (fun x hx => .inl hx)).trans hf (fun x hx => .inl hx)⟩)⟩
              | some y =>
                obtain ⟨b1, s2⟩ := y
                rw [he] at HC2 HE
                clear he
                refine HC2.out.mono ?_
                rintro e w5 ⟨_, rfl, rfl, hr5, hf5⟩
                have hfz : Fr [r] w3 w5 := HF4.out.trans hf5 (fun x hx => .inl hx)
                have hbx := HBX.out.fr hfz (by have := HLT.out; simp; omega)
                have hb5 := HB3.out.fr hfz (by simpa using HNE.out)
                have x0 : w5.cell? ⟨w2.heap.size, 0, none⟩ = some (.int .i32 a) := hbx.at_ (i := 0) rfl
                have x1 : w5.cell? ⟨w2.heap.size, 1, none⟩ = some (.int .i32 a) := hbx.at_ (i := 1) rfl
                have xf := hbx.free
                have HB5 := Lib.hid hb5; have HX5 := Lib.hid hbx; have HR5 := Lib.hid hr5; have HF5 := Lib.hid (HFB.out.trans hfz (fun x hx => .inl hx))
                have r0 := HB5.out.at_ (i := 0) rfl
                have r1 := HB5.out.at_ (i := 1) rfl
                have rf := HB5.out.free
                clear hfz hbx hb5 hr5 hf5
                have hne2 : ¬ w.heap.size = w2.heap.size := by omega
                have HE' : RS.item false s = if a ≤ b1 then some (⟨a, b1⟩, s2) else none := HE.out
                clear HE
                have HE := Lib.hid HE'
                clear HE'
                by_cases hab : a ≤ b1
                · rw [if_pos hab] at HE
                  have c2 : decide (a ≤ b1) = true := by simpa using hab
                  go_wp2_with fail
                  refine (need_true _).mono ?_
                  rintro e w6 ⟨rfl, rfl⟩
                  have HB6 := Lib.hid (HB5.out.far (p := ⟨w2.heap.size, 1, none⟩) (by simpa using hne2) (.int .i32 b1))
                  have HR6 : Hid (RdAt (w5.setCell ⟨w2.heap.size, 1, none⟩ (.int .i32 b1)) r gl s2) := Lib.hid (HR5.out.fr ((Fr.refl [w2.heap.size] w5).setCell (.inl (by simp)) _) (by have := HLT.out; simp; omega))
                  have HF6 : Hid (Fr [r] w (w5.setCell ⟨w2.heap.size, 1, none⟩ (.int .i32 b1))) := Lib.hid (HF5.out.setCell (.inr (by show w.heap.size ≤ w2.heap.size; omega)) _)
                  go_wp2_with fail
                  -- the result's two cells are stored; GB: the result's block; HB6: its Blk
                  refine ret_blk (g := w.heap.size) (cs := [R32 a, R32 b1]) (t' := 91) (d := _) rfl rfl ((HB6.out.set_ 0 (R32 a)).set_ 1 (R32 b1)) Try.underlying91 rfl (by kernel_rfl) (HQ.out _ _ (pres_some HE.out rfl ?_ ?_))
                  · exact HR6.out.fr (((Fr.refl [w.heap.size] _).setCell (.inl (by simp)) _).setCell (.inl (by simp)) _) (by simpa using HLT.out)
                  · exact (HF6.out.setCell (.inr (Nat.le_refl _)) _).setCell (.inr (Nat.le_refl _)) _
                · rw [if_neg hab] at HE
                  have c2 : decide (a ≤ b1) = false := by simpa using hab
                  go_wp2_with fail
                  refine (need_false _).mono ?_
                  rintro e w6 ⟨rfl, rfl⟩
                  exact ⟨rfl, HQ.out _ _ (pres_none HE.out (HF5.out.setCell (.inr (by show w.heap.size ≤ w2.heap.size; omega)) _))⟩
          · have c1 : (s1.peek == 45) = false := by simpa using g1
            have HE' := HE.out
            simp only [g1, false_and, if_false] at HE'
            clear HE
            have HE := Lib.hid HE'
            clear HE' g1
            generalize w2.alloc (.cells #[.int .i32 a, .int .i32 a] 91) = w3 at *
            have x0 : w3.cell? ⟨w2.heap.size, 0, none⟩ = some (.int .i32 a) := HBX.out.at_ (i := 0) rfl
            have x1 : w3.cell? ⟨w2.heap.size, 1, none⟩ = some (.int .i32 a) := HBX.out.at_ (i := 1) rfl
            have r0 := HB3.out.at_ (i := 0) rfl
            have r1 := HB3.out.at_ (i := 1) rfl
            have rf := HB3.out.free
            go_wp2_with fail
            -- the result's two cells are stored; GB: the result's block; HB3: its Blk
            refine ret_blk (g := w.heap.size) (cs := [R32 a, R32 a]) (t' := 91) (d := _) rfl rfl ((HB3.out.set_ 0 (R32 a)).set_ 1 (R32 a)) Try.underlying91 rfl (by kernel_rfl) (HQ.out _ _ (pres_some HE.out rfl ?_ ?_))
            · exact HRA.out.fr (((Fr.refl [w.heap.size] _).setCell (.inl (by simp)) _).setCell (.inl (by simp)) _) (by simpa using HLT.out)
            · exact (HFB.out.setCell (.inr (Nat.le_refl _)) _).setCell (.inr (Nat.le_refl _)) _
  · have e1 : (s.peek == 45) = false := by simpa using h1
    have HE : Hid (s.item b = match s.end_ with
      | none => none
      | some (a, s) =>
        if s.peek = 45 ∧ s.last = false then
          match s.next.end_ with
          | none => none
          | some (b, s) => if a ≤ b then some (⟨a, b⟩, s) else none
        else some (⟨a, a⟩, s)) := Lib.hid (by unfold RS.item; rw [if_neg (by simp [h1])]; rfl)
    clear h1
    go_enter Try.func57, Try.ntmps57
    go_wp2_with fail
    refine (peek_any HA.out).mono ?_
    rintro e w1 ⟨rfl, rfl⟩
    -- behind the test: an end, and maybe another one
    have HC := Lib.hid (end_any HA.out HP.out)
    have HZ := Lib.hid (Blk.new w 91 [R32 0, R32 0])
    cases he : s.end_ with
    | none =>
      rw [he] at HC HE
      go_wp2_with fail
      refine HC.out.mono ?_
      rintro e w2 ⟨rfl, hf⟩
      exact ⟨rfl, HQ.out _ _ (by rw [HE.out]; exact ⟨rfl, HFA.out.trans hf (fun x hx => .inl hx)⟩)⟩
    | some y =>
      obtain ⟨a, s1⟩ := y
      have HP1 := Lib.hid (RS.end_pos HP.out he)
      rw [he] at HC HE
      clear he
      go_wp2_with fail
      refine HC.out.mono ?_
      rintro e w2 ⟨_, rfl, rfl, hr2, hf2⟩
      have HB2 := Lib.hid (HZ.out.fr hf2 (by simpa using HNE.out))
      have HR2 := Lib.hid hr2; have HF2 := Lib.hid (HFA.out.trans hf2 (fun x hx => .inl hx))
      have hz2 := HB2.out.lt
      have HRA : Hid (RdAt (w2.alloc (.cells #[.int .i32 a, .int .i32 a] 91)) r gl s1) := Lib.hid (hr2.fr ((Fr.refl [] w2).alloc _) (by simp))
      have HFB : Hid (Fr [r] w (w2.alloc (.cells #[.int .i32 a, .int .i32 a] 91))) := Lib.hid (HF2.out.alloc _)
      have HBX : Hid (Blk (w2.alloc (.cells #[.int .i32 a, .int .i32 a] 91)) w2.heap.size 91 [R32 a, R32 a]) := Lib.hid (Blk.new w2 91 [R32 a, R32 a])
      have HB3 : Hid (Blk (w2.alloc (.cells #[.int .i32 a, .int .i32 a] 91)) w.heap.size 91 [R32 0, R32 0]) := Lib.hid (HB2.out.alloc _)
      clear hr2 hf2
      go_wp2_with fail
      refine (peek_any HRA.out).mono ?_
      rintro e w3 ⟨rfl, rfl⟩
      by_cases g1 : s1.peek = 45
      · have c1 : (s1.peek == 45) = true := by simpa using g1
        go_wp2_with fail
        refine (last_any HRA.out).mono ?_
        rintro e w3 ⟨rfl, rfl⟩
        cases hla : s1.last with
        | true =>
          have HE' := HE.out
          simp only [hla, Bool.true_eq_false, and_false, if_false] at HE'
          clear HE
          have HE := Lib.hid HE'
          clear HE' hla g1
          generalize w2.alloc (.cells #[.int .i32 a, .int .i32 a] 91) = w3 at *
          have x0 : w3.cell? ⟨w2.heap.size, 0, none⟩ = some (.int .i32 a) := HBX.out.at_ (i := 0) rfl
          have x1 : w3.cell? ⟨w2.heap.size, 1, none⟩ = some (.int .i32 a) := HBX.out.at_ (i := 1) rfl
          have r0 := HB3.out.at_ (i := 0) rfl
          have r1 := HB3.out.at_ (i := 1) rfl
          have rf := HB3.out.free
          go_wp2_with fail
          -- the result's two cells are stored; GB: the result's block; HB3: its Blk
          refine ret_blk (g := w.heap.size) (cs := [R32 a, R32 a]) (t' := 91) (d := _) rfl rfl ((HB3.out.set_ 0 (R32 a)).set_ 1 (R32 a)) Try.underlying91 rfl (by kernel_rfl) (HQ.out _ _ (pres_some HE.out rfl ?_ ?_))
          · exact HRA.out.fr (((Fr.refl [w.heap.size] _).setCell (.inl (by simp)) _).setCell (.inl (by simp)) _) (by simpa using HLT.out)
          · exact (HFB.out.setCell (.inr (Nat.le_refl _)) _).setCell (.inr (Nat.le_refl _)) _
        | false =>
          have HT := Lib.hid (take_any HRA.out)
          rw [RS.take_of_peek g1 (by omega)] at HT
          have HE' := HE.out
          rw [if_pos ⟨g1, hla⟩] at HE'
          clear HE
          have HE := Lib.hid HE'
          clear HE' hla g1
          generalize w2.alloc (.cells #[.int .i32 a, .int .i32 a] 91) = w3 at *
          go_wp2_with fail
          refine HT.out.mono ?_
          rintro e w4 ⟨_, rfl, rfl, hr4, hf4⟩
          have HR4 := Lib.hid hr4; have HF4 := Lib.hid hf4
          clear hr4 hf4
          have HC2 := Lib.hid (end_any HR4.out HP1.out.next)
          go_wp2_with fail
          cases he : s1.next.end_ with
          | none =>
            rw [he] at HC2 HE
            refine HC2.out.mono ?_
            rintro e w5 ⟨rfl, hf⟩
            exact ⟨rfl, HQ.out _ _ (by rw [HE.out]; exact ⟨rfl, (HFB.out.trans HF4.out (fun x hx => .inl hx)).trans hf (fun x hx => .inl hx)⟩)⟩
          | some y =>
            obtain ⟨b1, s2⟩ := y
            rw [he] at HC2 HE
            clear he
            refine HC2.out.mono ?_
            rintro e w5 ⟨_, rfl, rfl, hr5, hf5⟩
            have hfz : Fr [r] w3 w5 := HF4.out.trans hf5 (fun x hx => .inl hx)
            have hbx := HBX.out.fr hfz (by have := HLT.out; simp; omega)
            have hb5 := HB3.out.fr hfz (by simpa using HNE.out)
            have x0 : w5.cell? ⟨w2.heap.size, 0, none⟩ = some (.int .i32 a) := hbx.at_ (i := 0) rfl
            have x1 : w5.cell? ⟨w2.heap.size, 1, none⟩ = some (.int .i32 a) := hbx.at_ (i := 1) rfl
            have xf := hbx.free
            have HB5 := Lib.hid hb5; have HX5 := Lib.hid hbx; have HR5 := Lib.hid hr5; have HF5 := Lib.hid (HFB.out.trans hfz (fun x hx => .inl hx))
            have r0 := HB5.out.at_ (i := 0) rfl
            have r1 := HB5.out.at_ (i := 1) rfl
            have rf := HB5.out.free
            clear hfz hbx hb5 hr5 hf5
            have hne2 : ¬ w.heap.size = w2.heap.size := by omega
            have HE' : RS.item b s = if a ≤ b1 then some (⟨a, b1⟩, s2) else none := HE.out
            clear HE
            have HE := Lib.hid HE'
            clear HE'
            by_cases hab : a ≤ b1
            · rw [if_pos hab] at HE
              have c2 : decide (a ≤ b1) = true := by simpa using hab
              go_wp2_with fail
              refine (need_true _).mono ?_
              rintro e w6 ⟨rfl, rfl⟩
              have HB6 := Lib.hid (HB5.out.far (p := ⟨w2.heap.size, 1, none⟩) (by simpa using hne2) (.int .i32 b1))
              have HR6 : Hid (RdAt (w5.setCell ⟨w2.heap.size, 1, none⟩ (.int .i32 b1)) r gl s2) := Lib.hid (HR5.out.fr ((Fr.refl [w2.heap.size] w5).setCell (.inl (by simp)) _) (by have := HLT.out; simp; omega))
              have HF6 : Hid (Fr [r] w (w5.setCell ⟨w2.heap.size, 1, none⟩ (.int .i32 b1))) := Lib.hid (HF5.out.setCell (.inr (by show w.heap.size ≤ w2.heap.size; omega)) _)
              go_wp2_with fail
              -- the result's two cells are stored; GB: the result's block; HB6: its Blk
              refine ret_blk (g := w.heap.size) (cs := [R32 a, R32 b1]) (t' := 91) (d := _) rfl rfl ((HB6.out.set_ 0 (R32 a)).set_ 1 (R32 b1)) Try.underlying91 rfl (by kernel_rfl) (HQ.out _ _ (pres_some HE.out rfl ?_ ?_))
              · exact HR6.out.fr (((Fr.refl [w.heap.size] _).setCell (.inl (by simp)) _).setCell (.inl (by simp)) _) (by simpa using HLT.out)
              · exact (HF6.out.setCell (.inr (Nat.le_refl _)) _).setCell (.inr (Nat.le_refl _)) _
            · rw [if_neg hab] at HE
              have c2 : decide (a ≤ b1) = false := by simpa using hab
              go_wp2_with fail
              refine (need_false _).mono ?_
              rintro e w6 ⟨rfl, rfl⟩
              exact ⟨rfl, HQ.out _ _ (pres_none HE.out (HF5.out.setCell (.inr (by show w.heap.size ≤ w2.heap.size; omega)) _))⟩
      · have c1 : (s1.peek == 45) = false := by simpa using g1
        have HE' := HE.out
        simp only [g1, false_and, if_false] at HE'
        clear HE
        have HE := Lib.hid HE'
        clear HE' g1
        generalize w2.alloc (.cells #[.int .i32 a, .int .i32 a] 91) = w3 at *
        have x0 : w3.cell? ⟨w2.heap.size, 0, none⟩ = some (.int .i32 a) := HBX.out.at_ (i := 0) rfl
        have x1 : w3.cell? ⟨w2.heap.size, 1, none⟩ = some (.int .i32 a) := HBX.out.at_ (i := 1) rfl
        have r0 := HB3.out.at_ (i := 0) rfl
        have r1 := HB3.out.at_ (i := 1) rfl
        have rf := HB3.out.free
        go_wp2_with fail
        -- the result's two cells are stored; GB: the result's block; HB3: its Blk
        refine ret_blk (g := w.heap.size) (cs := [R32 a, R32 a]) (t' := 91) (d := _) rfl rfl ((HB3.out.set_ 0 (R32 a)).set_ 1 (R32 a)) Try.underlying91 rfl (by kernel_rfl) (HQ.out _ _ (pres_some HE.out rfl ?_ ?_))
        · exact HRA.out.fr (((Fr.refl [w.heap.size] _).setCell (.inl (by simp)) _).setCell (.inl (by simp)) _) (by simpa using HLT.out)
        · exact (HFB.out.setCell (.inr (Nat.le_refl _)) _).setCell (.inr (Nat.le_refl _)) _

end Go.Proofs.Ytnhlgjjdpappkaa
