/-
  The contract of regex.parsed.
-/
import Derived.Test.YtnhlgjjdpappkaaRq
namespace Go.Proofs.Ytnhlgjjdpappkaa
open Go.RowKit

theorem runesF_len : ∀ (n : Nat) (bs : List UInt8), bs.length ≤ n → (runesF n bs).length ≤ bs.length
  | 0, _, h => by simp [runesF]
  | _ + 1, [], _ => by simp [runesF]
  | n + 1, b :: bs, h => by
    rw [runesF]
    split
    · have := runesF_len n bs (by simpa using h)
      simp; exact this
    · rename_i r k hk
      have hp := nextOf_pos hk
      have := runesF_len n ((b :: bs).drop k) (by simp at h ⊢; omega)
      simp only [List.length_cons, List.length_drop] at this ⊢
      omega
theorem runesF_pos : ∀ (n : Nat) (bs : List UInt8), ∀ c ∈ runesF n bs, 0 ≤ c
  | 0, _, c, h => by simp [runesF] at h
  | _ + 1, [], c, h => by simp [runesF] at h
  | n + 1, b :: bs, c, h => by
    rw [runesF] at h
    split at h
    · rcases List.mem_cons.1 h with rfl | h
      · omega
      · exact runesF_pos n _ c h
    · rcases List.mem_cons.1 h with rfl | h
      · omega
      · exact runesF_pos n _ c h
/-- Results: a struct that lies in a block, and a slot. -/
theorem results_ct {P : Program} {fn : Func} {tmps : Array Value} {w : World} {k k2 : Tmp} {t t' : TypeId} {g : Nat} {cs : List Value} {d : TypeDesc} (hr : fn.results = #[.cell k t, .tmp k2]) (ha : tmps.getD k undef = .pointer (some ⟨g, 0, none⟩)) (hb : Blk w g t' cs)
    (hu : P.underlying t = some d) (hd : d.isRow = true) (hi : (P.info? t).map (·.size) = some cs.length) : (results fn tmps).run P w = .ok (.tuple #[.agg cs.toArray, tmps.getD k2 undef]) w := by
  have hl := run_loadVar_row (P := P) w g t' t cs.toArray (0, 0) d hb hu (by cases d <;> simp_all) (by simpa using hi)
  have ha' : tmps[k]?.getD undef = .pointer (some ⟨g, 0, none⟩) := by simpa using ha
  simp [results, hr, ha', hl, asAddr, Sem.run_bind, Sem.run_pure]

/-- What parsed answers. -/
def ParsedRes (w : World) (n : Nat) (l : List Int) (e : Ending) (w' : World) : Prop :=
  ∃ cs er x, e = .returned (.tuple #[.agg cs.toArray, .int .i64 er]) ∧ Fr [] w w' ∧ parsedOf n l = (er, x) ∧ match x with | none => cs = zero6 | some p => PartAt w' (fun g => w.heap.size ≤ g) p cs ∧ p.ok ∧ p.size ≤ 2000

set_option maxRecDepth 100000 in
set_option maxHeartbeats 1600000 in
theorem parsed_any {w : World} (s : ByteArray) (hsz : s.size ≤ 9223372036854775807) : Calls Try.prog 18 #[.string s] w (ParsedRes w s.size (runesOf (strBytes s))) := by
  refine calls_post fun R HQ => ?_
  have HZ0 := Lib.hid (Blk.new w 43 zero6)
  have HF0 := Lib.hid ((Fr.refl [] w).alloc (.cells zero6.toArray 43))
  unfold zero6 at HZ0 HF0
  by_cases h300 : 300 < s.size
  · have HE : Hid (parsedOf s.size (runesOf (strBytes s)) = (4, none)) := Lib.hid (by unfold parsedOf; rw [if_pos h300])
    have d0 : decide (300 < s.size) = true := by simpa using h300
    go_enter Try.func18, Try.ntmps18
    go_wp2_with fail
    refine bodyPost_ret (results_ct rfl rfl HZ0.out Try.underlying43 rfl (by kernel_rfl)) rfl (HQ.out _ _ ⟨_, 4, none, rfl, HF0.out, HE.out, rfl⟩)
  · have d0 : decide (300 < s.size) = false := by simpa using h300
    have d1 : ¬ 300 < s.size := h300
    have hlr : (runesOf (strBytes s)).length ≤ 300 := by have := runesF_len (strBytes s).length (strBytes s) (Nat.le_refl _); rw [strBytes_len] at this; unfold runesOf; rw [strBytes_len]; omega
    obtain ⟨l, hl⟩ : ∃ l, l = runesOf (strBytes s) := ⟨_, rfl⟩
    have hpos : ∀ c ∈ l, 0 ≤ c := by rw [hl]; exact runesF_pos _ _
    have HRU : ∀ w, Calls Try.prog 25 #[.string s] w fun e w' => ∃ v g, e = .returned v ∧ SlAt w' v l.length (rcellsR l) g ∧ (0 < l.length → w.heap.size ≤ g) ∧ Fr [] w w' := fun w => by rw [hl]; exact runes_any s (by omega)
    rw [← hl] at HQ hlr
    have HRUN := Lib.hid HRU; have HPOS := Lib.hid hpos
    have HE0 : Hid (parsedOf s.size l = match RS.pattern (l.length + 1) ⟨l, 0, 0⟩ with
      | none => (2, none)
      | some (p, s) =>
        if s.l ≠ [] ∨ l.any (fun c => decide (2097152 ≤ c)) = true then (2, none)
        else if 20 < s.most then (3, none)
        else if 2000 < p.size then (4, none)
        else (0, some p)) := Lib.hid (by unfold parsedOf; rw [if_neg h300]; rfl)
    clear hl HRU hpos h300
    have hok : RS.ok ⟨l, 0, 0⟩ := ⟨HPOS.out, by simp; omega, by simp⟩
    go_enter Try.func18, Try.ntmps18
    go_wp2_with fail
    refine (HRUN.out _).mono ?_
    rintro e w1 ⟨v, g, rfl, hsl, hg, hf1⟩
    obtain ⟨A, c, off, rfl, hcl, hcells⟩ := hsl
    have hgl : 0 < l.length → g < w1.heap.size := fun h => by
      obtain ⟨_, hc⟩ := hcells h
      match l, h with
      | x :: l, _ => exact World.block_lt_of_cell? w1 _ (hc 0 (R32 x) rfl)
    have hsl : SlAt w1 (.slice A l.length c) l.length (rcellsR l) g := ⟨A, c, off, rfl, hcl, hcells⟩
    have HZ1 := Lib.hid (HZ0.out.fr hf1 (by simp)); have HF1 := Lib.hid (HF0.out.trans hf1 (by simp))
    have hz1 := HZ1.out.lt
    have hrd : RdAt (w1.alloc (.cells #[.slice A l.length c, .int .i64 0, .int .i64 0] 66)) w1.heap.size g ⟨l, 0, 0⟩ := ⟨hgl, _, Blk.new w1 66 [.slice A l.length c, .int .i64 0, .int .i64 0], hsl.fr ((Fr.refl [] w1).alloc _) (by simp)⟩
    have HC := Lib.hid (whole_pat (n := l.length + 1) hrd hok (by simp))
    have HZ2 := Lib.hid (HZ1.out.alloc (.cells #[.slice A l.length c, .int .i64 0, .int .i64 0] 66))
    have HF2 := Lib.hid (HF1.out.alloc (.cells #[.slice A l.length c, .int .i64 0, .int .i64 0] 66))
    clear hcells hgl hsl hg hf1 hrd
    go_wp2_with fail
    cases hp : RS.pattern (l.length + 1) ⟨l, 0, 0⟩ with
    | none =>
      have HE : Hid (parsedOf s.size l = (2, none)) := Lib.hid (by rw [HE0.out, hp])
      rw [hp] at HC
      clear hp HE0
      refine HC.out.mono ?_
      rintro e w3 ⟨rfl, hf3⟩
      have HZ3 := Lib.hid (HZ2.out.fr hf3 (by simp; omega))
      have HF3 := Lib.hid (HF2.out.trans hf3 (fun x hx => .inr (by simp at hx; omega)))
      clear hf3
      have hz4 := HZ3.out.lt
      unfold zero6
      have z0 := HZ3.out.at_ (i := 0) rfl
      have z1 := HZ3.out.at_ (i := 1) rfl
      have z2 := HZ3.out.at_ (i := 2) rfl
      have z3 := HZ3.out.at_ (i := 3) rfl
      have z4 := HZ3.out.at_ (i := 4) rfl
      have z5 := HZ3.out.at_ (i := 5) rfl
      have zf := HZ3.out.free
      go_wp2_with fail
      have hfz := Fr.set6 w3 w.heap.size (.int .i64 0) (.bool false) (.slice none 0 0) (.slice none 0 0) (.int .i64 0) (.int .i64 0)
      exact bodyPost_ret (results_ct rfl rfl ((HZ3.out.set6 (.int .i64 0) (.bool false) (.slice none 0 0) (.slice none 0 0) (.int .i64 0) (.int .i64 0)).alloc _) Try.underlying43 rfl (by kernel_rfl)) rfl (HQ.out _ _ ⟨_, 2, none, rfl, (HF3.out.trans hfz (fun x hx => .inr (by simp at hx; omega))).alloc _, HE.out, rfl⟩)
    | some y =>
      obtain ⟨p, st⟩ := y
      have HE1 : Hid (parsedOf s.size l = if st.l ≠ [] ∨ l.any strangeB = true then (2, none) else if 20 < st.most then (3, none) else if 2000 < p.size then (4, none) else (0, some p)) := Lib.hid (by rw [HE0.out, hp]; rfl)
      have hpok := (RS.pattern_ok _ _ _ _ hok hp).1
      have hstm := ((Ext.pattern _ _ _ _ hp).ok hok).most
      rw [hp] at HC
      clear hp HE0
      refine HC.out.mono ?_
      rintro e w3 ⟨cs, rfl, hpa, hrd3, hf3⟩
      have HZ3 := Lib.hid (HZ2.out.fr hf3 (by simp; omega))
      have HF3 := Lib.hid (HF2.out.trans hf3 (fun x hx => .inr (by simp at hx; omega)))
      have hz4 := HZ3.out.lt
      have HPOK := Lib.hid hpok
      have hpa' : PartAt w3 (fun g => w.heap.size < g ∧ g < w3.heap.size) p cs := hpa.bound.mono (fun g hg => by have h1 := hg.1; simp at h1; omega)
      obtain ⟨sv, lv, rfl, hs, hll⟩ := hpa.inv
      obtain ⟨A1, c1, rfl⟩ := hs.slice
      obtain ⟨A2, c2, rfl⟩ := hll.slice
      have HPA := Lib.hid hpa'
      have HRD3 := Lib.hid hrd3
      clear hs hll hpa hpa' hf3 HC hrd3 hpok
      unfold pcells at HPA ⊢
      generalize p.kind = pk at *
      generalize p.neg = pn at *
      generalize p.lo = plo at *
      generalize p.hi = phi at *
      generalize p.set.length = n1 at *
      generalize p.subs.length = n2 at *
      by_cases hst : st.l = []
      · have hdt : decide (st.l = []) = true := by simpa using hst
        rw [hdt]
        have HST := Lib.hid hst
        clear hst hdt
        go_wp2_with fail
        refine (HRUN.out _).mono ?_
        rintro e w4 ⟨v4, g4, rfl, hsl4, -, hf4⟩
        have HZ4 := Lib.hid ((HZ3.out.alloc _).fr hf4 (by simp))
        have hb4 := (Blk.new w3 43 [.int .i64 pk, .bool pn, .slice A1 n1 c1, .slice A2 n2 c2, .int .i64 plo, .int .i64 phi]).fr hf4 (by simp)
        have HB4 := Lib.hid hb4
        have HPA4 := Lib.hid ((HPA.out.fr ((Fr.refl [] w3).alloc _) (by simp)).fr hf4 (by simp))
        have HF4 := Lib.hid ((HF3.out.alloc _).trans hf4 (by simp))
        obtain ⟨_, vr, hbr, _⟩ := HRD3.out
        have r2 := (((hbr.alloc _).fr hf4 (by simp))).at_ (i := 2) rfl
        have hz5 := HB4.out.lt
        have HSL4 := Lib.hid hsl4
        clear hb4 hbr hf4 hsl4
        go_wp2_with fail
        refine (containsFunc_strange HSL4.out (by omega)).mono ?_
        rintro e w5 ⟨rfl, rfl⟩
        cases han : l.any strangeB with
        | true =>
          have HE : Hid (parsedOf s.size l = (2, none)) := Lib.hid (by rw [HE1.out, if_pos (.inr han)])
          clear han r2
          -- no pattern: the error 2; the world w4
          have z0 := HZ4.out.at_ (i := 0) rfl
          have z1 := HZ4.out.at_ (i := 1) rfl
          have z2 := HZ4.out.at_ (i := 2) rfl
          have z3 := HZ4.out.at_ (i := 3) rfl
          have z4 := HZ4.out.at_ (i := 4) rfl
          have z5 := HZ4.out.at_ (i := 5) rfl
          have zf := HZ4.out.free
          go_wp2_with fail
          have hfz := Fr.set6 w4 w.heap.size (.int .i64 0) (.bool false) (.slice none 0 0) (.slice none 0 0) (.int .i64 0) (.int .i64 0)
          exact bodyPost_ret (results_ct rfl rfl (HZ4.out.set6 (.int .i64 0) (.bool false) (.slice none 0 0) (.slice none 0 0) (.int .i64 0) (.int .i64 0)) Try.underlying43 rfl (by kernel_rfl)) rfl (HQ.out _ _ ⟨_, 2, none, rfl, HF4.out.trans hfz (fun x hx => .inr (by simp at hx; omega)), HE.out, rfl⟩)
        | false =>
          have HE2 : Hid (parsedOf s.size l = if 20 < st.most then (3, none) else if 2000 < p.size then (4, none) else (0, some p)) := Lib.hid (by rw [HE1.out, if_neg (by rw [HST.out, han]; simp)])
          clear han HE1
          by_cases h20 : 20 < st.most
          · have HE : Hid (parsedOf s.size l = (3, none)) := Lib.hid (by rw [HE2.out, if_pos h20])
            have d2 : decide (20 < (st.most : Int)) = true := by rw [decide_eq_true_eq]; omega
            -- no pattern: the error 3; the world w4
            have z0 := HZ4.out.at_ (i := 0) rfl
            have z1 := HZ4.out.at_ (i := 1) rfl
            have z2 := HZ4.out.at_ (i := 2) rfl
            have z3 := HZ4.out.at_ (i := 3) rfl
            have z4 := HZ4.out.at_ (i := 4) rfl
            have z5 := HZ4.out.at_ (i := 5) rfl
            have zf := HZ4.out.free
            go_wp2_with fail
            have hfz := Fr.set6 w4 w.heap.size (.int .i64 0) (.bool false) (.slice none 0 0) (.slice none 0 0) (.int .i64 0) (.int .i64 0)
            exact bodyPost_ret (results_ct rfl rfl (HZ4.out.set6 (.int .i64 0) (.bool false) (.slice none 0 0) (.slice none 0 0) (.int .i64 0) (.int .i64 0)) Try.underlying43 rfl (by kernel_rfl)) rfl (HQ.out _ _ ⟨_, 3, none, rfl, HF4.out.trans hfz (fun x hx => .inr (by simp at hx; omega)), HE.out, rfl⟩)
          · have HE3 : Hid (parsedOf s.size l = if 2000 < p.size then (4, none) else (0, some p)) := Lib.hid (by rw [HE2.out, if_neg h20])
            have d2 : decide (20 < (st.most : Int)) = false := by rw [decide_eq_false_iff_not]; omega
            have h20' : ¬ 20 < (st.most : Int) := by omega
            have y0 := HB4.out.at_ (i := 0) rfl
            have y1 := HB4.out.at_ (i := 1) rfl
            have y2 := HB4.out.at_ (i := 2) rfl
            have y3 := HB4.out.at_ (i := 3) rfl
            have y4 := HB4.out.at_ (i := 4) rfl
            have y5 := HB4.out.at_ (i := 5) rfl
            go_wp2_with fail
            refine (size_all _ p (Nat.lt_succ_self _) w4 _ _ HPA4.out HPOK.out).mono ?_
            rintro e w6 ⟨rfl, hf6⟩
            have HZ6 := Lib.hid (HZ4.out.fr hf6 (by simp)); have HB6 := Lib.hid (HB4.out.fr hf6 (by simp)); have HPA6 := Lib.hid (HPA4.out.fr hf6 (by simp)); have HF6 := Lib.hid (HF4.out.trans hf6 (by simp))
            have hz6 := hf6.size
            clear hf6 y0 y1 y2 y3 y4 y5 r2
            by_cases h2000 : 2000 < p.size
            · have HE : Hid (parsedOf s.size l = (4, none)) := Lib.hid (by rw [HE3.out, if_pos h2000])
              have d3 : decide (2000 < (p.size : Int)) = true := by rw [decide_eq_true_eq]; omega
              -- no pattern: the error 4; the world w6
              have z0 := HZ6.out.at_ (i := 0) rfl
              have z1 := HZ6.out.at_ (i := 1) rfl
              have z2 := HZ6.out.at_ (i := 2) rfl
              have z3 := HZ6.out.at_ (i := 3) rfl
              have z4 := HZ6.out.at_ (i := 4) rfl
              have z5 := HZ6.out.at_ (i := 5) rfl
              have zf := HZ6.out.free
              go_wp2_with fail
              have hfz := Fr.set6 w6 w.heap.size (.int .i64 0) (.bool false) (.slice none 0 0) (.slice none 0 0) (.int .i64 0) (.int .i64 0)
              exact bodyPost_ret (results_ct rfl rfl (HZ6.out.set6 (.int .i64 0) (.bool false) (.slice none 0 0) (.slice none 0 0) (.int .i64 0) (.int .i64 0)) Try.underlying43 rfl (by kernel_rfl)) rfl (HQ.out _ _ ⟨_, 4, none, rfl, HF6.out.trans hfz (fun x hx => .inr (by simp at hx; omega)), HE.out, rfl⟩)
            · have HE : Hid (parsedOf s.size l = (0, some p)) := Lib.hid (by rw [HE3.out, if_neg h2000])
              have d3 : decide (2000 < (p.size : Int)) = false := by rw [decide_eq_false_iff_not]; omega
              have hle : p.size ≤ 2000 := by omega
              have y0 := HB6.out.at_ (i := 0) rfl
              have y1 := HB6.out.at_ (i := 1) rfl
              have y2 := HB6.out.at_ (i := 2) rfl
              have y3 := HB6.out.at_ (i := 3) rfl
              have y4 := HB6.out.at_ (i := 4) rfl
              have y5 := HB6.out.at_ (i := 5) rfl
              have z0 := HZ6.out.at_ (i := 0) rfl
              have z1 := HZ6.out.at_ (i := 1) rfl
              have z2 := HZ6.out.at_ (i := 2) rfl
              have z3 := HZ6.out.at_ (i := 3) rfl
              have z4 := HZ6.out.at_ (i := 4) rfl
              have z5 := HZ6.out.at_ (i := 5) rfl
              have zf := HZ6.out.free
              have hne : ¬ w.heap.size = w3.heap.size := by omega
              go_wp2_with fail
              have hfz := Fr.set6 w6 w.heap.size (.int .i64 pk) (.bool pn) (.slice A1 n1 c1) (.slice A2 n2 c2) (.int .i64 plo) (.int .i64 phi)
              exact bodyPost_ret (results_ct rfl rfl (HZ6.out.set6 (.int .i64 pk) (.bool pn) (.slice A1 n1 c1) (.slice A2 n2 c2) (.int .i64 plo) (.int .i64 phi)) Try.underlying43 rfl (by kernel_rfl)) rfl (HQ.out _ _ ⟨_, 0, some p, rfl, HF6.out.trans hfz (fun x hx => .inr (by simp at hx; omega)), HE.out, (HPA6.out.fr hfz (fun g hg => by simp; omega)).mono (fun g hg => by omega), HPOK.out, hle⟩)
      · have hdt : decide (st.l = []) = false := by simpa using hst
        rw [hdt]
        have HE : Hid (parsedOf s.size l = (2, none)) := Lib.hid (by rw [HE1.out, if_pos (.inl hst)])
        clear hst hdt
        have z0 := HZ3.out.at_ (i := 0) rfl
        have z1 := HZ3.out.at_ (i := 1) rfl
        have z2 := HZ3.out.at_ (i := 2) rfl
        have z3 := HZ3.out.at_ (i := 3) rfl
        have z4 := HZ3.out.at_ (i := 4) rfl
        have z5 := HZ3.out.at_ (i := 5) rfl
        have zf := HZ3.out.free
        go_wp2_with fail
        have hfz := Fr.set6 w3 w.heap.size (.int .i64 0) (.bool false) (.slice none 0 0) (.slice none 0 0) (.int .i64 0) (.int .i64 0)
        exact bodyPost_ret (results_ct rfl rfl ((HZ3.out.set6 (.int .i64 0) (.bool false) (.slice none 0 0) (.slice none 0 0) (.int .i64 0) (.int .i64 0)).alloc _) Try.underlying43 rfl (by kernel_rfl)) rfl (HQ.out _ _ ⟨_, 2, none, rfl, (HF3.out.trans hfz (fun x hx => .inr (by simp at hx; omega))).alloc _, HE.out, rfl⟩)

end Go.Proofs.Ytnhlgjjdpappkaa
