/-
  The contracts of the pattern's reader: group, atom, piece.
-/
import Derived.Test.YtnhlgjjdpappkaaRe
import Derived.Test.YtnhlgjjdpappkaaRn
namespace Go.Proofs.Ytnhlgjjdpappkaa
open Go.RowKit

/-- Patterns of fewer than n characters are read as they should. -/
def PatOK (n : Nat) : Prop := ∀ (w : World) (r gl : Nat) (s : RS), RdAt w r gl s → s.ok → s.l.length < n → Calls Try.prog 41 #[.pointer (some ⟨r, 0, none⟩)] w (PRes (PartV w) w r gl (RS.pattern n s))

set_option maxRecDepth 100000 in
theorem group_any {n : Nat} (IH : PatOK n) {w : World} {r gl : Nat} {s : RS} (h : RdAt w r gl s) (hp : s.pos) (hd : s.deep + 1 + s.l.length ≤ 1000) (hm : s.most ≤ 1000) (hn : s.l.length < n) :
    Calls Try.prog 53 #[.pointer (some ⟨r, 0, none⟩)] w (PRes (PartV w) w r gl (s.group (RS.pattern n))) := by
  refine calls_post fun R HQ => ?_
  have hlt := h.lt
  obtain ⟨hgl, v, hb, hs⟩ := h
  have b1 := hb.at_ (i := 1) rfl
  have b2 := hb.at_ (i := 2) rfl
  have bf := hb.free
  have HB := Lib.hid hb; have HS := Lib.hid hs; have HP := Lib.hid hp; have HGL := Lib.hid hgl
  clear hb hs hp hgl
  go_enter Try.func53, Try.ntmps53
  go_wp2_with fail
  go_region
  go_wp2_with fail
  have hbw : Blk ((w.setCell ⟨r, 1, none⟩ (.int .i64 ((s.deep : Int) + 1))).setCell ⟨r, 2, none⟩ (.int .i64 (max (s.most : Int) ((s.deep : Int) + 1)))) r 66 [v, .int .i64 (s.down.deep : Int), .int .i64 (s.down.most : Int)] := by
    have h1 := (HB.out.set_ 1 (.int .i64 ((s.deep : Int) + 1))).set_ 2 (.int .i64 (max (s.most : Int) ((s.deep : Int) + 1)))
    have e1 : ((s.down.deep : Nat) : Int) = (s.deep : Int) + 1 := by simp [RS.down]
    have e2 : ((s.down.most : Nat) : Int) = max (s.most : Int) ((s.deep : Int) + 1) := by simp only [RS.down]; omega
    rw [e1, e2]
    exact h1
  have hfw : Fr [r] w ((w.setCell ⟨r, 1, none⟩ (.int .i64 ((s.deep : Int) + 1))).setCell ⟨r, 2, none⟩ (.int .i64 (max (s.most : Int) ((s.deep : Int) + 1)))) := ((Fr.refl [r] w).setCell (.inl (by simp)) _).setCell (.inl (by simp)) _
  have hsz : ((w.setCell ⟨r, 1, none⟩ (.int .i64 ((s.deep : Int) + 1))).setCell ⟨r, 2, none⟩ (.int .i64 (max (s.most : Int) ((s.deep : Int) + 1)))).heap.size = w.heap.size := by simp
  generalize (w.setCell ⟨r, 1, none⟩ (.int .i64 ((s.deep : Int) + 1))).setCell ⟨r, 2, none⟩ (.int .i64 (max (s.most : Int) ((s.deep : Int) + 1))) = w1 at *
  have hr1 : RdAt w1 r gl s.down := ⟨HGL.out, v, hbw, HS.out.fr hfw (fun h => by have := HGL.out h; simp; omega)⟩
  have hz1 := (Blk.new w1 43 zero6).drew
  rw [hsz] at hz1
  have hf1 : Fr [r] w (w1.alloc (.cells zero6.toArray 43)).drew := (hfw.alloc _).drew
  have hr2 : RdAt (w1.alloc (.cells zero6.toArray 43)).drew r gl s.down := hr1.fr (((Fr.refl [] w1).alloc _).drew) (by simp)
  have hlz := hz1.lt
  have HZ := Lib.hid hz1; have HF1 := Lib.hid hf1
  have hok : s.down.ok := ⟨HP.out, by simp only [RS.down]; omega, by simp only [RS.down]; omega⟩
  have HC := Lib.hid (IH _ r gl s.down hr2 hok hn)
  have hszA : (w1.alloc (.cells zero6.toArray 43)).drew.heap.size = w.heap.size + 1 := by simp [hsz]
  unfold zero6 at HC HZ HF1 hlz hszA
  clear hbw hfw hr1 hz1 hf1 hr2
  generalize (w1.alloc (.cells #[.int .i64 0, .bool false, .slice none 0 0, .slice none 0 0, .int .i64 0, .int .i64 0] 43)).drew = wA at *
  have HSA := Lib.hid hszA
  clear hszA hlz hsz b1 b2 bf
  cases hg : RS.pattern n s.down with
  | none =>
    have HE : Hid (RS.group (RS.pattern n) s = none) := Lib.hid (by unfold RS.group; rw [hg])
    rw [hg] at HC
    refine HC.out.mono ?_
    rintro e w2 ⟨rfl, hf⟩
    exact ⟨rfl, HQ.out _ _ (pres_none HE.out (HF1.out.trans hf (fun x hx => .inl hx)))⟩
  | some y =>
    obtain ⟨p, s1⟩ := y
    have HE : Hid (RS.group (RS.pattern n) s = if s1.peek = 41 then some (p, s1.up.next) else none) := Lib.hid (by unfold RS.group; rw [hg])
    have hx := Ext.pattern n _ _ _ hg
    have hd1 : s1.deep = s.deep + 1 := hx.deep
    have hm1 := (hx.ok hok).most
    rw [hg] at HC
    refine HC.out.mono ?_
    rintro e w2 ⟨_, rfl, ⟨cs, rfl, hpa⟩, hr2, hf2⟩
    have HPA : Hid (PartAt w2 (fun g => w.heap.size < g ∧ g < w2.heap.size) p cs) := Lib.hid (hpa.bound.mono (fun g hg => ⟨by have := hg.1; rw [HSA.out] at this; omega, hg.2⟩))
    obtain ⟨sv, lv, rfl, hs, hl⟩ := hpa.inv
    obtain ⟨A1, c1, rfl⟩ := hs.slice
    obtain ⟨A2, c2, rfl⟩ := hl.slice
    have HZ2 := Lib.hid (HZ.out.fr hf2 (by simp <;> omega)); have HF2 := Lib.hid (HF1.out.trans hf2 (fun x hx => .inl hx))
    have hzl := hf2.size
    have hzp : w.heap.size < w2.heap.size := HZ2.out.lt
    clear hs hl hpa hf2 hx hg hok
    unfold pcells at HPA ⊢
    obtain ⟨hgl2, v2, hb2, hs2⟩ := hr2
    have d1 := hb2.at_ (i := 1) rfl
    have df := hb2.free
    have HB2 := Lib.hid hb2; have HS2 := Lib.hid hs2; have HGL2 := Lib.hid hgl2
    have hr2lt := hb2.lt
    have hdi : (s1.deep : Int) = (s.deep : Int) + 1 := by omega
    have hup : (s1.up.deep : Int) = (s1.deep : Int) - 1 := by simp only [RS.up]; omega
    clear hb2 hs2 hgl2
    generalize p.kind = pk at *
    generalize p.neg = pn at *
    generalize p.lo = plo at *
    generalize p.hi = phi at *
    generalize p.set.length = n1 at *
    generalize p.subs.length = n2 at *
    have HUP := Lib.hid hup
    have hdl : 1 ≤ s1.deep ∧ s1.deep ≤ 1000 := by omega
    clear hup hdi hd1 hzl
    go_wp2_with fail
    have hb3 := HB2.out.set_ 1 (.int .i64 ((s1.deep : Int) - 1))
    simp only [List.set_cons_succ, List.set_cons_zero] at hb3
    rw [← HUP.out] at hb3 ⊢
    have hf3 : Fr [r] w2 (w2.setCell ⟨r, 1, none⟩ (.int .i64 (s1.up.deep : Int))) := (Fr.refl [r] w2).setCell (.inl (by simp)) _
    have hz3 : (w2.setCell ⟨r, 1, none⟩ (.int .i64 (s1.up.deep : Int))).heap.size = w2.heap.size := by simp
    have hsl3 := HS2.out.fr hf3 (fun h => by have := HGL2.out h; simp; omega)
    generalize w2.setCell ⟨r, 1, none⟩ (.int .i64 (s1.up.deep : Int)) = w3 at *
    have hr3 : RdAt w3 r gl s1.up := ⟨HGL2.out, v2, hb3, hsl3⟩
    have ho3 := Blk.new w3 43 [.int .i64 pk, .bool pn, .slice A1 n1 c1, .slice A2 n2 c2, .int .i64 plo, .int .i64 phi]
    rw [hz3] at ho3
    refine (is_any (hr3.fr ((Fr.refl [] w3).alloc _) (by simp)) (by omega)).mono ?_
    rintro e w4 ⟨rfl, hr4, hf4, _⟩
    have HO4 := Lib.hid (ho3.fr hf4 (by simp <;> omega))
    have HZ4 := Lib.hid (((HZ2.out.fr hf3 (by simp <;> omega)).alloc _).fr hf4 (by simp <;> omega))
    have hf24 : Fr [r] w2 w4 := (hf3.alloc _).trans hf4 (fun x hx => .inl hx)
    have HF4 := Lib.hid (HF2.out.trans hf24 (fun x hx => .inl hx))
    have HPA4 := Lib.hid (HPA.out.fr hf24 (fun g hg => by simp; omega))
    clear hb3 hf3 hz3 hsl3 hr3 ho3 hf4 hf24 d1 df
    have e0 : s1.up.peek = s1.peek := rfl
    by_cases hp : s1.peek = 41
    · have e5 : s1.up.isB 41 = true := by unfold RS.isB; rw [e0]; simpa using hp
      have e6 : s1.up.isS 41 = s1.up.next := by simp [RS.isS, e0, hp]
      rw [e6] at hr4
      rw [e5]
      rw [if_pos hp] at HE
      have HR4 := Lib.hid hr4
      clear hr4 e5 e6 hp e0
      go_wp2_with fail
      refine (need_true _).mono ?_
      rintro e w9 ⟨rfl, rfl⟩
      have y0 := HO4.out.at_ (i := 0) rfl
      have y1 := HO4.out.at_ (i := 1) rfl
      have y2 := HO4.out.at_ (i := 2) rfl
      have y3 := HO4.out.at_ (i := 3) rfl
      have y4 := HO4.out.at_ (i := 4) rfl
      have y5 := HO4.out.at_ (i := 5) rfl
      have z0 := HZ4.out.at_ (i := 0) rfl
      have z1 := HZ4.out.at_ (i := 1) rfl
      have z2 := HZ4.out.at_ (i := 2) rfl
      have z3 := HZ4.out.at_ (i := 3) rfl
      have z4 := HZ4.out.at_ (i := 4) rfl
      have z5 := HZ4.out.at_ (i := 5) rfl
      have zf := HZ4.out.free
      have hne : ¬ w.heap.size = w2.heap.size := by omega
      go_wp2_with fail
      have hfz := Fr.set6 w4 w.heap.size (.int .i64 pk) (.bool pn) (.slice A1 n1 c1) (.slice A2 n2 c2) (.int .i64 plo) (.int .i64 phi)
      refine ret_blk (g := w.heap.size) (t' := 43) (d := _) rfl rfl (HZ4.out.set6 (.int .i64 pk) (.bool pn) (.slice A1 n1 c1) (.slice A2 n2 c2) (.int .i64 plo) (.int .i64 phi)) Try.underlying43 rfl (by kernel_rfl) (HQ.out _ _ (pres_some HE.out ⟨_, rfl, (HPA4.out.fr hfz (fun g hg => by simp; omega)).mono (fun g hg => by omega)⟩ (HR4.out.fr hfz (by simpa using hlt)) (HF4.out.trans hfz (fun x hx => .inr (by simp at hx; omega)))))
    · have e5 : s1.up.isB 41 = false := by unfold RS.isB; rw [e0]; simpa using hp
      rw [e5]
      rw [if_neg hp] at HE
      clear hr4 e5 hp e0
      go_wp2_with fail
      refine (need_false _).mono ?_
      rintro e w9 ⟨rfl, rfl⟩
      exact ⟨rfl, HQ.out _ _ (pres_none HE.out HF4.out)⟩


set_option maxRecDepth 100000 in
set_option maxHeartbeats 1600000 in
theorem atom_any {n : Nat} (IH : PatOK n) {w : World} {r gl : Nat} {s : RS} (h : RdAt w r gl s) (hok : s.ok) (hn : s.l.length ≤ n) :
    Calls Try.prog 47 #[.pointer (some ⟨r, 0, none⟩)] w (PRes (PartV w) w r gl (s.atom (RS.pattern n))) := by
  refine calls_post fun R HQ => ?_
  have hlt := h.lt
  have HT := Lib.hid (take_any (h.fr ((Fr.refl [] w).alloc (.cells zero6.toArray 43)) (by simp)))
  have HZ0 := Lib.hid (Blk.new w 43 zero6)
  have HF0 := Lib.hid ((Fr.refl [r] w).alloc (.cells zero6.toArray 43))
  unfold zero6 at HT HZ0 HF0
  clear h
  go_enter Try.func47, Try.ntmps47
  go_wp2_with fail
  cases ht : s.take with
  | none =>
    have HE : Hid (s.atom (RS.pattern n) = none) := Lib.hid (by unfold RS.atom; rw [ht])
    rw [ht] at HT
    refine HT.out.mono ?_
    rintro e w1 ⟨rfl, hf⟩
    exact ⟨rfl, HQ.out _ _ (pres_none HE.out (HF0.out.trans hf (fun x hx => .inl hx)))⟩
  | some y =>
    obtain ⟨c, s1⟩ := y
    have hc := (RS.take_pos hok.pos ht).1
    have hx := Ext.take ht
    have hok1 := hx.ok hok
    have hl1 := (RS.take_len ht).1
    have hd1 := hx.deep
    have hrm := hok.room
    have HE0 : Hid (s.atom (RS.pattern n) = if c = 46 then some (dotPt, s1) else if c = 92 then s1.escape.map fun r => (charPt r.1, r.2) else if c = 91 then s1.class_ else if c = 40 then s1.group (RS.pattern n)
      else if amongB barred c = true then none else some (charPt c, s1)) := Lib.hid (by unfold RS.atom; rw [ht])
    rw [ht] at HT
    refine HT.out.mono ?_
    rintro e w1 ⟨_, rfl, rfl, hr1, hf1⟩
    have HR1 := Lib.hid hr1; have HF1 := Lib.hid (HF0.out.trans hf1 (fun x hx => .inl hx)); have HZ1 := Lib.hid (HZ0.out.fr hf1 (by simp <;> omega))
    have hz1 := HZ1.out.lt
    have HOK1 := Lib.hid hok1
    have hd1' : s1.deep + 1 + s1.l.length ≤ 1000 := by omega
    have hm1 := hok1.most
    have hn1 : s1.l.length < n := by omega
    clear hr1 hf1 ht hx hok1 hl1 hd1 HT hok hrm
    by_cases h1 : c = 46
    · have e1 : (c == 46) = true := by simpa using h1
      have HE : Hid (s.atom (RS.pattern n) = some (dotPt, s1)) := Lib.hid (by rw [HE0.out, if_pos h1])
      have z0 := HZ1.out.at_ (i := 0) rfl
      have z1 := HZ1.out.at_ (i := 1) rfl
      have z2 := HZ1.out.at_ (i := 2) rfl
      have z3 := HZ1.out.at_ (i := 3) rfl
      have z4 := HZ1.out.at_ (i := 4) rfl
      have z5 := HZ1.out.at_ (i := 5) rfl
      have zf := HZ1.out.free
      go_wp2_with fail
      have hfz := Fr.set6 w1 w.heap.size (.int .i64 0) (.bool true) (.slice (some ⟨w1.heap.size, 0, none⟩) 2 2) (.slice none 0 0) (.int .i64 0) (.int .i64 0)
      have hsz : (set6 w1 w.heap.size (.int .i64 0) (.bool true) (.slice (some ⟨w1.heap.size, 0, none⟩) 2 2) (.slice none 0 0) (.int .i64 0) (.int .i64 0)).heap.size = w1.heap.size := by simp [set6]
      have hbs := Blk.new (set6 w1 w.heap.size (.int .i64 0) (.bool true) (.slice (some ⟨w1.heap.size, 0, none⟩) 2 2) (.slice none 0 0) (.int .i64 0) (.int .i64 0)) 91 (spCells [⟨10, 10⟩, ⟨13, 13⟩])
      rw [hsz] at hbs
      have hfz' := (Fr.refl [] _).alloc (a := set6 w1 w.heap.size (.int .i64 0) (.bool true) (.slice (some ⟨w1.heap.size, 0, none⟩) 2 2) (.slice none 0 0) (.int .i64 0) (.int .i64 0)) (.cells (spCells [⟨10, 10⟩, ⟨13, 13⟩]).toArray 91)
      refine ret_blk (g := w.heap.size) (t' := 43) (d := _) rfl rfl ((HZ1.out.set6 (.int .i64 0) (.bool true) (.slice (some ⟨w1.heap.size, 0, none⟩) 2 2) (.slice none 0 0) (.int .i64 0) (.int .i64 0)).fr hfz' (by simp)) Try.underlying43 rfl (by kernel_rfl) (HQ.out _ _ (pres_some HE.out ⟨_, rfl, PartAt.char_ ⟨w1.heap.size, SlAt.of_blk hbs 2 2 (Nat.le_refl _), fun _ => by omega⟩⟩ ((HR1.out.fr hfz (by simpa using hlt)).fr hfz' (by simp)) ((HF1.out.trans hfz (fun x hx => .inr (by simp at hx; omega))).trans hfz' (by simp))))
    · have e1 : (c == 46) = false := by simpa using h1
      by_cases h2 : c = 92
      · have e2 : (c == 92) = true := by simpa using h2
        have HC := Lib.hid (escape_any HR1.out HOK1.out.pos)
        go_wp2_with fail
        cases he : s1.escape with
        | none =>
          have HE : Hid (s.atom (RS.pattern n) = none) := Lib.hid (by rw [HE0.out, if_neg h1, if_pos h2, he]; rfl)
          rw [he] at HC
          refine HC.out.mono ?_
          rintro e w2 ⟨rfl, hf⟩
          exact ⟨rfl, HQ.out _ _ (pres_none HE.out (HF1.out.trans hf (fun x hx => .inl hx)))⟩
        | some y =>
          obtain ⟨d, s2⟩ := y
          have HE : Hid (s.atom (RS.pattern n) = some (charPt d, s2)) := Lib.hid (by rw [HE0.out, if_neg h1, if_pos h2, he]; rfl)
          rw [he] at HC
          clear he
          refine HC.out.mono ?_
          rintro e w2 ⟨_, rfl, rfl, hr2, hf2⟩
          have HR2 := Lib.hid hr2; have HF2 := Lib.hid (HF1.out.trans hf2 (fun x hx => .inl hx)); have HZ2 := Lib.hid (HZ1.out.fr hf2 (by simp <;> omega))
          clear hr2 hf2
          go_wp2_with fail
          -- a part of one character is the result: C, in world WC
          refine (char_any d).mono ?_
          rintro e w6 ⟨_, rfl, ⟨cs, rfl, hpa⟩, hf6⟩
          have HZ6 := Lib.hid (HZ2.out.fr hf6 (by simp)); have HR6 := Lib.hid (HR2.out.fr hf6 (by simp)); have HF6 := Lib.hid (HF2.out.trans hf6 (by simp))
          have hzl := HZ2.out.lt
          -- a part came back: hpa : PartAt WZ (..) p cs with blocks from WB on
          obtain ⟨sv, lv, rfl, hs, hl⟩ := hpa.inv
          obtain ⟨A1, c1, rfl⟩ := hs.slice
          obtain ⟨A2, c2, rfl⟩ := hl.slice
          clear hs hl
          unfold pcells at hpa ⊢
          generalize (charPt d).kind = pk at *
          generalize (charPt d).neg = pn at *
          generalize (charPt d).lo = plo at *
          generalize (charPt d).hi = phi at *
          generalize (charPt d).set.length = n1 at *
          generalize (charPt d).subs.length = n2 at *
          have HPA6 : Hid (PartAt w6 (fun g => w.heap.size < g ∧ g < w6.heap.size) (charPt d) [.int .i64 pk, .bool pn, .slice A1 n1 c1, .slice A2 n2 c2, .int .i64 plo, .int .i64 phi]) := Lib.hid (hpa.bound.mono (fun g hg => by omega))
          clear hpa hf6
          -- the part is stored as the result
          have z0 := HZ6.out.at_ (i := 0) rfl
          have z1 := HZ6.out.at_ (i := 1) rfl
          have z2 := HZ6.out.at_ (i := 2) rfl
          have z3 := HZ6.out.at_ (i := 3) rfl
          have z4 := HZ6.out.at_ (i := 4) rfl
          have z5 := HZ6.out.at_ (i := 5) rfl
          have zf := HZ6.out.free
          go_wp2_with fail
          have hfz := Fr.set6 w6 w.heap.size (.int .i64 pk) (.bool pn) (.slice A1 n1 c1) (.slice A2 n2 c2) (.int .i64 plo) (.int .i64 phi)
          refine ret_blk (g := w.heap.size) (t' := 43) (d := _) rfl rfl (HZ6.out.set6 (.int .i64 pk) (.bool pn) (.slice A1 n1 c1) (.slice A2 n2 c2) (.int .i64 plo) (.int .i64 phi)) Try.underlying43 rfl (by kernel_rfl) (HQ.out _ _ (pres_some HE.out ⟨_, rfl, (HPA6.out.fr hfz (fun g hg => by simp; omega)).mono (fun g hg => by omega)⟩ (HR6.out.fr hfz (by simpa using hlt)) (HF6.out.trans hfz (fun x hx => .inr (by simp at hx; omega)))))
      · have e2 : (c == 92) = false := by simpa using h2
        by_cases h3 : c = 91
        · have e3 : (c == 91) = true := by simpa using h3
          have HC := Lib.hid (class_any HR1.out HOK1.out.pos (by omega))
          have HE1 : Hid (s.atom (RS.pattern n) = s1.class_) := Lib.hid (by rw [HE0.out, if_neg h1, if_neg h2, if_pos h3])
          go_wp2_with fail
          generalize s1.class_ = Y at *
          cases hy : Y with
          | none =>
            have HE : Hid (s.atom (RS.pattern n) = none) := Lib.hid (by rw [HE1.out, hy])
            rw [hy] at HC
            refine HC.out.mono ?_
            rintro e w2 ⟨rfl, hf⟩
            exact ⟨rfl, HQ.out _ _ (pres_none HE.out (HF1.out.trans hf (fun x hx => .inl hx)))⟩
          | some y =>
            obtain ⟨p, s2⟩ := y
            have HE : Hid (s.atom (RS.pattern n) = some (p, s2)) := Lib.hid (by rw [HE1.out, hy])
            rw [hy] at HC
            clear hy HE1
            refine HC.out.mono ?_
            rintro e w6 ⟨_, rfl, ⟨cs, rfl, hpa⟩, hr6, hf6⟩
            have HZ6 := Lib.hid (HZ1.out.fr hf6 (by simp <;> omega)); have HR6 := Lib.hid hr6; have HF6 := Lib.hid (HF1.out.trans hf6 (fun x hx => .inl hx))
            -- a part came back: hpa : PartAt WZ (..) p cs with blocks from WB on
            obtain ⟨sv, lv, rfl, hs, hl⟩ := hpa.inv
            obtain ⟨A1, c1, rfl⟩ := hs.slice
            obtain ⟨A2, c2, rfl⟩ := hl.slice
            clear hs hl
            unfold pcells at hpa ⊢
            generalize p.kind = pk at *
            generalize p.neg = pn at *
            generalize p.lo = plo at *
            generalize p.hi = phi at *
            generalize p.set.length = n1 at *
            generalize p.subs.length = n2 at *
            have HPA6 : Hid (PartAt w6 (fun g => w.heap.size < g ∧ g < w6.heap.size) p [.int .i64 pk, .bool pn, .slice A1 n1 c1, .slice A2 n2 c2, .int .i64 plo, .int .i64 phi]) := Lib.hid (hpa.bound.mono (fun g hg => by omega))
            clear hpa hr6 hf6
            -- the part is stored as the result
            have z0 := HZ6.out.at_ (i := 0) rfl
            have z1 := HZ6.out.at_ (i := 1) rfl
            have z2 := HZ6.out.at_ (i := 2) rfl
            have z3 := HZ6.out.at_ (i := 3) rfl
            have z4 := HZ6.out.at_ (i := 4) rfl
            have z5 := HZ6.out.at_ (i := 5) rfl
            have zf := HZ6.out.free
            go_wp2_with fail
            have hfz := Fr.set6 w6 w.heap.size (.int .i64 pk) (.bool pn) (.slice A1 n1 c1) (.slice A2 n2 c2) (.int .i64 plo) (.int .i64 phi)
            refine ret_blk (g := w.heap.size) (t' := 43) (d := _) rfl rfl (HZ6.out.set6 (.int .i64 pk) (.bool pn) (.slice A1 n1 c1) (.slice A2 n2 c2) (.int .i64 plo) (.int .i64 phi)) Try.underlying43 rfl (by kernel_rfl) (HQ.out _ _ (pres_some HE.out ⟨_, rfl, (HPA6.out.fr hfz (fun g hg => by simp; omega)).mono (fun g hg => by omega)⟩ (HR6.out.fr hfz (by simpa using hlt)) (HF6.out.trans hfz (fun x hx => .inr (by simp at hx; omega)))))
        · have e3 : (c == 91) = false := by simpa using h3
          by_cases h4 : c = 40
          · have e4 : (c == 40) = true := by simpa using h4
            have HC := Lib.hid (group_any IH HR1.out HOK1.out.pos hd1' hm1 hn1)
            have HE1 : Hid (s.atom (RS.pattern n) = s1.group (RS.pattern n)) := Lib.hid (by rw [HE0.out, if_neg h1, if_neg h2, if_neg h3, if_pos h4])
            go_wp2_with fail
            generalize RS.group (RS.pattern n) s1 = Y at *
            cases hy : Y with
            | none =>
              have HE : Hid (s.atom (RS.pattern n) = none) := Lib.hid (by rw [HE1.out, hy])
              rw [hy] at HC
              refine HC.out.mono ?_
              rintro e w2 ⟨rfl, hf⟩
              exact ⟨rfl, HQ.out _ _ (pres_none HE.out (HF1.out.trans hf (fun x hx => .inl hx)))⟩
            | some y =>
              obtain ⟨p, s2⟩ := y
              have HE : Hid (s.atom (RS.pattern n) = some (p, s2)) := Lib.hid (by rw [HE1.out, hy])
              rw [hy] at HC
              clear hy HE1
              refine HC.out.mono ?_
              rintro e w6 ⟨_, rfl, ⟨cs, rfl, hpa⟩, hr6, hf6⟩
              have HZ6 := Lib.hid (HZ1.out.fr hf6 (by simp <;> omega)); have HR6 := Lib.hid hr6; have HF6 := Lib.hid (HF1.out.trans hf6 (fun x hx => .inl hx))
              -- a part came back: hpa : PartAt WZ (..) p cs with blocks from WB on
              obtain ⟨sv, lv, rfl, hs, hl⟩ := hpa.inv
              obtain ⟨A1, c1, rfl⟩ := hs.slice
              obtain ⟨A2, c2, rfl⟩ := hl.slice
              clear hs hl
              unfold pcells at hpa ⊢
              generalize p.kind = pk at *
              generalize p.neg = pn at *
              generalize p.lo = plo at *
              generalize p.hi = phi at *
              generalize p.set.length = n1 at *
              generalize p.subs.length = n2 at *
              have HPA6 : Hid (PartAt w6 (fun g => w.heap.size < g ∧ g < w6.heap.size) p [.int .i64 pk, .bool pn, .slice A1 n1 c1, .slice A2 n2 c2, .int .i64 plo, .int .i64 phi]) := Lib.hid (hpa.bound.mono (fun g hg => by omega))
              clear hpa hr6 hf6
              -- the part is stored as the result
              have z0 := HZ6.out.at_ (i := 0) rfl
              have z1 := HZ6.out.at_ (i := 1) rfl
              have z2 := HZ6.out.at_ (i := 2) rfl
              have z3 := HZ6.out.at_ (i := 3) rfl
              have z4 := HZ6.out.at_ (i := 4) rfl
              have z5 := HZ6.out.at_ (i := 5) rfl
              have zf := HZ6.out.free
              go_wp2_with fail
              have hfz := Fr.set6 w6 w.heap.size (.int .i64 pk) (.bool pn) (.slice A1 n1 c1) (.slice A2 n2 c2) (.int .i64 plo) (.int .i64 phi)
              refine ret_blk (g := w.heap.size) (t' := 43) (d := _) rfl rfl (HZ6.out.set6 (.int .i64 pk) (.bool pn) (.slice A1 n1 c1) (.slice A2 n2 c2) (.int .i64 plo) (.int .i64 phi)) Try.underlying43 rfl (by kernel_rfl) (HQ.out _ _ (pres_some HE.out ⟨_, rfl, (HPA6.out.fr hfz (fun g hg => by simp; omega)).mono (fun g hg => by omega)⟩ (HR6.out.fr hfz (by simpa using hlt)) (HF6.out.trans hfz (fun x hx => .inr (by simp at hx; omega)))))
          · have e4 : (c == 40) = false := by simpa using h4
            have HE1 : Hid (s.atom (RS.pattern n) = if amongB barred c = true then none else some (charPt c, s1)) := Lib.hid (by rw [HE0.out, if_neg h1, if_neg h2, if_neg h3, if_neg h4])
            go_wp2_with fail
            refine (barred_any c hc).mono ?_
            rintro e w2 ⟨rfl, hf2⟩
            have HR2 := Lib.hid (HR1.out.fr hf2 (by simp)); have HF2 := Lib.hid (HF1.out.trans hf2 (by simp)); have HZ2 := Lib.hid (HZ1.out.fr hf2 (by simp))
            clear hf2
            cases ha : amongB barred c with
            | true =>
              have HE : Hid (s.atom (RS.pattern n) = none) := Lib.hid (by rw [HE1.out, ha]; rfl)
              clear ha
              go_wp2_with fail
              refine (need_false _).mono ?_
              rintro e w3 ⟨rfl, rfl⟩
              exact ⟨rfl, HQ.out _ _ (pres_none HE.out HF2.out)⟩
            | false =>
              have HE : Hid (s.atom (RS.pattern n) = some (charPt c, s1)) := Lib.hid (by rw [HE1.out, ha]; rfl)
              clear ha
              go_wp2_with fail
              refine (need_true _).mono ?_
              rintro e w3 ⟨rfl, rfl⟩
              go_wp2_with fail
              -- a part of one character is the result: C, in world WC
              refine (char_any c).mono ?_
              rintro e w6 ⟨_, rfl, ⟨cs, rfl, hpa⟩, hf6⟩
              have HZ6 := Lib.hid (HZ2.out.fr hf6 (by simp)); have HR6 := Lib.hid (HR2.out.fr hf6 (by simp)); have HF6 := Lib.hid (HF2.out.trans hf6 (by simp))
              have hzl := HZ2.out.lt
              -- a part came back: hpa : PartAt WZ (..) p cs with blocks from WB on
              obtain ⟨sv, lv, rfl, hs, hl⟩ := hpa.inv
              obtain ⟨A1, c1, rfl⟩ := hs.slice
              obtain ⟨A2, c2, rfl⟩ := hl.slice
              clear hs hl
              unfold pcells at hpa ⊢
              generalize (charPt c).kind = pk at *
              generalize (charPt c).neg = pn at *
              generalize (charPt c).lo = plo at *
              generalize (charPt c).hi = phi at *
              generalize (charPt c).set.length = n1 at *
              generalize (charPt c).subs.length = n2 at *
              have HPA6 : Hid (PartAt w6 (fun g => w.heap.size < g ∧ g < w6.heap.size) (charPt c) [.int .i64 pk, .bool pn, .slice A1 n1 c1, .slice A2 n2 c2, .int .i64 plo, .int .i64 phi]) := Lib.hid (hpa.bound.mono (fun g hg => by omega))
              clear hpa hf6
              -- the part is stored as the result
              have z0 := HZ6.out.at_ (i := 0) rfl
              have z1 := HZ6.out.at_ (i := 1) rfl
              have z2 := HZ6.out.at_ (i := 2) rfl
              have z3 := HZ6.out.at_ (i := 3) rfl
              have z4 := HZ6.out.at_ (i := 4) rfl
              have z5 := HZ6.out.at_ (i := 5) rfl
              have zf := HZ6.out.free
              go_wp2_with fail
              have hfz := Fr.set6 w6 w.heap.size (.int .i64 pk) (.bool pn) (.slice A1 n1 c1) (.slice A2 n2 c2) (.int .i64 plo) (.int .i64 phi)
              refine ret_blk (g := w.heap.size) (t' := 43) (d := _) rfl rfl (HZ6.out.set6 (.int .i64 pk) (.bool pn) (.slice A1 n1 c1) (.slice A2 n2 c2) (.int .i64 plo) (.int .i64 phi)) Try.underlying43 rfl (by kernel_rfl) (HQ.out _ _ (pres_some HE.out ⟨_, rfl, (HPA6.out.fr hfz (fun g hg => by simp; omega)).mono (fun g hg => by omega)⟩ (HR6.out.fr hfz (by simpa using hlt)) (HF6.out.trans hfz (fun x hx => .inr (by simp at hx; omega)))))

end Go.Proofs.Ytnhlgjjdpappkaa
