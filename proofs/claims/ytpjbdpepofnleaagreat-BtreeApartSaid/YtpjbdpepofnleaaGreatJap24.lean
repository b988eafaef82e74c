/-
  Joined by join.py: Qy Qz Ya Yc Yd Ye Yf Yg
-/
import Derived.WalkLawsBesides
import Derived.Laws.IdiomStrings
import Derived.Test.YtpjbdpepofnleaaGreatJap23
section
namespace Go.Proofs.YtpjbdpepofnleaaGreat
open Go.RowKit Go.ChangeMaps Go.MapKept Go.Maps Go.Sort Go.Shelf
section
variable {w0 wS w : World} {dk g st bc bn bs bk bm K : Nat} {s : PS} {X D : Nat → Prop} {c : CD} {E : Nat → En}
theorem check_node (hp : PgC w0 wS dk g s X c) (h : Nat) : CGoal wS g bc bn bs bk bm D c K h := by
  induction h using Nat.strongRecOn with
  | _ h ih => exact check_step hp h ih
set_option maxRecDepth 100000 in
set_option maxHeartbeats 8000000 in
/-- Check. -/
theorem Check_X (h : StX w0 w dk g st s X E) {t : Nat} (ht : t < 8) (hE : (E t).length ≤ 1000000) :
    Calls Tryz.prog 16 #[.pointer (some ⟨st, 0, none⟩), .int .i64 (t : Int)] w fun e w' => e = .returned (.int .i64 0) ∧ Fr [] w w' := by
  obtain ⟨_, _, P, F, hF⟩ := h.store
  obtain ⟨c, hc⟩ : ∃ c, c = beginC s.page s.n := ⟨_, rfl⟩
  rw [← hc] at hF
  have hpc := h.pgc
  rw [← hc] at hpc
  have H := Lib.hid h; have HC := Lib.hid hc; have HPC := Lib.hid hpc; have HF := Lib.hid hF
  have HEE := Lib.hid hE
  have HBG := Lib.hid h.begin
  clear h hc hpc hF hE
  have ht8 : ((t : Nat) : Int) < 8 := by omega
  have ht8' : ¬ (8 : Int) ≤ ((t : Nat) : Int) := by omega
  have ht0 : ¬ ((t : Nat) : Int) < 0 := by omega
  have hmm := @run_makeMap Tryz.prog
  refine calls_post fun R HQ => ?_
  go_enter Tryz.func16, Tryz.ntmps16
  go_wp2_with fail
  refine HBG.out.mono ?_
  rintro e w1 ⟨bc, bn, bs, rfl, hch⟩
  rw [← HC.out] at hch
  have HCH := Lib.hid hch
  have cr := hch.blk.at_ (chC_root c g bn bs ht)
  clear hch HBG
  by_cases hr : c.roots t = 0
  · rw [hr] at cr
    have HX := Lib.hid (HQ.out (.returned (.int .i64 0)) w1 ⟨rfl, HCH.out.fr⟩)
    have HR0 := Lib.hid hr
    clear hr
    go_wp2_with fail
    exact HX.out
  · have hrI : ¬ ((c.roots t : Nat) : Int) = 0 := by omega
    have ha := HF.out.acc.swap (allP_perm ht).symm
    have hnd := (List.nodup_append.1 ha.nodup).1
    have hplen : (P t).length ≤ 4096 := by
      have h1 := ha.perm.length_eq
      have h2 := ha.next2; have h3 := ha.few
      rw [List.length_range', List.length_append, List.length_append] at h1
      omega
    obtain ⟨hh, hs, hht⟩ : ∃ hh, Sub c.N 1 hh (c.roots t) none none (E t) (P t) ∧ hh < 40 := by
      rcases HF.out.tree t ht with ⟨h, _, _⟩ | ⟨_, hh, hs⟩
      · exact absurd h hr
      · exact ⟨hh, hs, height_lt hs (by have := HEE.out; omega)⟩
    have hndP := (List.nodup_append.1 hnd).1
    obtain ⟨w2, hw2⟩ : ∃ w2, w2 = (w1.alloc (.map #[] 0)).alloc (.cells #[.pointer (some ⟨bc, 0, none⟩), .map (some w1.heap.size), .int .i64 ((0 : Nat) : Int)] 108) := ⟨_, rfl⟩
    have hf2 : Fr [] w1 w2 := by rw [hw2]; exact ((Fr.refl [] _).alloc _).alloc _
    have hm2 : VAt w2 w1.heap.size [] := by rw [hw2]; exact (VAt.new w1).fr ((Fr.refl [] _).alloc _) (by simp)
    have hb2 : Blk w2 (w1.heap.size + 1) 108 [.pointer (some ⟨bc, 0, none⟩), .map (some w1.heap.size), .int .i64 ((0 : Nat) : Int)] := by
      rw [hw2]
      have := Blk.new (w1.alloc (.map #[] 0)) 108 [.pointer (some ⟨bc, 0, none⟩), .map (some w1.heap.size), .int .i64 ((0 : Nat) : Int)]
      rwa [World.size_alloc] at this
    have hz1 := HCH.out.fr.size
    have hz2 := hf2.size
    have hcl := HCH.out.lts
    obtain ⟨D, hD⟩ : ∃ D : Nat → Prop, D = fun q => Dm_ X w bc bn bs q ∧ q ≠ w1.heap.size ∧ q ≠ w1.heap.size + 1 := ⟨_, rfl⟩
    have C2 : Hid (Cst w g bc bn bs (w1.heap.size + 1) w1.heap.size D c [] 0 w2) := Lib.hid {
      ch := by
        refine (HCH.out.re (D' := D) (fun q hq hl => ?_) ⟨w1.heap.size + 2, ?_, by omega⟩ (fun q hq => ?_)).frame hf2
        · rw [hD]; exact ⟨hq, by omega, by omega⟩
        · rw [hD]; exact ⟨⟨.inr (by omega), by omega, by omega, by omega⟩, by omega, by omega⟩
        · rw [hD] at hq; exact hq.1.2
      blk := hb2
      met := hm2
      nb := fun q hq => by rw [hD] at hq; exact ⟨hq.2.2, hq.2.1, hq.1.2⟩
      top := fun q hq => by rw [hD]; have := hb2.lt; exact ⟨⟨.inr (by omega), by omega, by omega, by omega⟩, by omega, by omega⟩
      hb := ⟨by omega, by omega, by omega, by omega, by omega, by omega, by omega⟩
      hw := ⟨by omega, by omega⟩ }
    have hfk : FromK D w2 (.slice none 0 0) none := ⟨w2.heap.size, BytesAt.nil _ _, C2.out.top _ (Nat.le_refl _)⟩
    have HCN := Lib.hid (check_node HPC.out hh (K := 1 + hh) (c.roots t) 1 none none (E t) (P t) [] 0 _ _ w2 rfl (Nat.le_refl _) (by omega) hs hndP (fun _ _ => rfl) (by simp; omega) C2.out hfk (show UpK D w2 (.slice none 0 0) none from rfl) (.inl rfl))
    have HR0 := Lib.hid hr
    have cr2 := fr_keep hf2 cr
    have HFW2 : Hid (Fr [] w w2) := Lib.hid (HCH.out.fr.trans hf2 (by simp))
    have HZ1 := Lib.hid hz1
    clear hr hs hht hf2 hb2 hm2 hz2 hcl hD hfk ha hnd hplen hndP hz1
    go_upto_region 7 with fail
    show Code.wp _ _ _ _ ((w1.alloc (.map #[] 0)).alloc (.cells #[.pointer (some ⟨bc, 0, none⟩), .map (some w1.heap.size), .int .i64 ((0 : Nat) : Int)] 108))
    rw [← hw2]
    clear hw2 cr hmm
    go_wp2_with fail
    refine HCN.out.mono ?_
    rintro e w3 ⟨m', kd', rfl, hC3, hf3, _⟩
    have HX := Lib.hid (HQ.out (.returned (.int .i64 0)) w3 ⟨rfl, HFW2.out.trans hf3 fun q hq => .inr (by
      have := HZ1.out
      simp only [List.mem_cons, List.not_mem_nil, or_false] at hq
      omega)⟩)
    clear hC3 hf3 HCN cr2
    go_wp2_with fail
    exact HX.out
end
end Go.Proofs.YtpjbdpepofnleaaGreat
end
section
namespace Go.Proofs.YtpjbdpepofnleaaGreat
open Go.RowKit Go.ChangeMaps Go.MapKept Go.Maps Go.Sort Go.Shelf
structure Made (w w' : World) (dk g st n : Nat) (s : PS) (X : Nat → Prop) : Prop where
  st : StX w w' dk g st s X fun _ => []
  old : ∀ k, k < w.heap.size → X k
  n : s.n = n
  inv : PInv 1 s fun _ => List.replicate 512 0
  late : s.late = []
  lim : s.D.limit = -1
  done : s.D.done = 0
  ln : s.l.n = 700
  fr : Fr [] w w'
set_option maxRecDepth 100000 in
set_option maxHeartbeats 2000000 in
theorem made_X (w : World) {n : Nat} (h1 : 1 ≤ n) (h2 : n ≤ 4096) :
    Calls Tryz.prog 9 #[.int .i64 (n : Int)] w fun e w' => ∃ dk g st s X, e = .returned (.tuple #[.pointer (some ⟨st, 0, none⟩), .pointer (some ⟨g, 0, none⟩)]) ∧ Made w w' dk g st n s X := by
  obtain ⟨H1, ht1, hi1, hn1⟩ := (PDisk.new (n := n) (log := 700) (N := 8 * n + 700) h1 h2 (by omega) (by omega) (by omega)).open_ (by omega)
  have hw1 : IntKind.i64.wrap (8 * (n : Int)) = 8 * (n : Int) := by rw [IntKind.wrap_i64]; omega
  have hw2 : IntKind.i64.wrap (8 * (n : Int) + 700) = ((8 * n + 700 : Nat) : Int) := by rw [IntKind.wrap_i64]; omega
  have HT1 := Lib.hid ht1; have HI1 := Lib.hid hi1; have HN1 := Lib.hid hn1; have HA := Lib.hid h1; have HB := Lib.hid h2
  clear ht1 hi1 hn1
  refine calls_post fun R HQ => ?_
  go_enter Tryz.func9, Tryz.ntmps9
  go_wp2_with fail
  refine (new_X (X := fun k => k < w.heap.size) w w (8 * n + 700) (by omega) (by omega) (Fr.refl _ _) (fun _ h => h)).mono ?_
  rintro e w1 ⟨d, rfl, hd1, hf1⟩
  have HD1 := Lib.hid hd1; have HF1 := Lib.hid hf1
  clear hd1 hf1
  go_wp2_with fail
  refine (open_Y (n := n) (log := 700) HD1.out rfl rfl h1 h2 (by omega) HI1.out.fit HN1.out HT1.out).mono ?_
  rintro e w2 ⟨g, rfl, hp2, hk2⟩
  have HP2 := Lib.hid hp2
  clear hp2 hk2
  obtain ⟨s1, hs1⟩ : ∃ s1, s1 = openP n 700 (DM.new (8 * n + 700)) H1 := ⟨_, rfl⟩
  rw [← hs1] at HP2 HI1
  have l1 : s1.late = [] ∧ s1.n = n ∧ s1.l.n = 700 ∧ s1.D.limit = -1 ∧ s1.D.done = 0 ∧ s1.br = false := by rw [hs1]; exact ⟨rfl, rfl, rfl, rfl, rfl, rfl⟩
  have hpage : ∀ k, k < s1.n → s1.page k = zpage := fun k hk => by
    rw [HI1.out.page_eq hk, l1.1]
    rfl
  have hst : Store s1.page s1.n fun _ => [] := store_new (hpage 0 (by rw [l1.2.1]; omega)) (fun k hk => by rw [hpage k hk]; exact zpage_len') (by rw [l1.2.1]; omega) (by rw [l1.2.1]; omega)
  have HOP := Lib.hid (Open_X HP2.out l1.2.2.2.2.2 HI1.out.calm hst)
  have HL1 := Lib.hid l1
  clear hs1 hpage hst l1
  go_wp2_with fail
  refine HOP.out.mono ?_
  rintro e w3 ⟨st, rfl, hst3, hf3⟩
  have HX := Lib.hid (HQ.out _ _ ⟨d, g, st, s1, _, rfl, ⟨hst3, fun k hk => .inl hk, HL1.out.2.1, HI1.out, HL1.out.1, HL1.out.2.2.2.1, HL1.out.2.2.2.2.1, HL1.out.2.2.1, hst3.px.frame⟩⟩)
  clear hst3 hf3 HOP
  go_wp2_with fail
  exact HX.out
def E1 : Nat → En := setR (fun _ => []) 0 (putE [] [97] [])
def E2 : Nat → En := setR E1 0 (putE (E1 0) [98] [120])
def E3 : Nat → En := setR E2 0 (delE (E2 0) [97])
theorem restE_0 {E : Nat → En} {t : Nat} (h : ∀ j, j ≠ t → E j = []) : restE E t = [] := by
  unfold restE
  rw [List.flatMap_eq_nil_iff]
  intro j hj
  exact h j (fun e => by
    subst e
    exact (List.Nodup.not_mem_erase (List.nodup_range (n := 8))) hj)
theorem setR_at (E : Nat → En) (t : Nat) (x : En) : setR E t x t = x := if_pos rfl
theorem setR_off (E : Nat → En) {t j : Nat} (x : En) (h : j ≠ t) : setR E t x j = E j := if_neg h
end Go.Proofs.YtpjbdpepofnleaaGreat
end
section
namespace Go.Proofs.YtpjbdpepofnleaaGreat
open Go.RowKit Go.ChangeMaps Go.MapKept Go.Maps Go.Sort Go.Shelf
theorem e1_0 : E1 0 = [([97], [])] := rfl
theorem e2_0 : E2 0 = [([97], []), ([98], [120])] := rfl
theorem e3_0 : E3 0 = [([98], [120])] := rfl
theorem has_a : hasE (E2 0) [97] = true := rfl
theorem go_3 : goE [] none 9 [] (E3 0) = ([([98], [120])], true) := rfl
theorem e_off {j : Nat} (h : j ≠ 0) : E1 j = [] ∧ E2 j = [] ∧ E3 j = [] := by
  have a1 : E1 j = [] := setR_off _ _ h
  have a2 : E2 j = [] := (setR_off _ _ h).trans a1
  exact ⟨a1, a2, (setR_off _ _ h).trans a2⟩
set_option maxRecDepth 100000 in
set_option maxHeartbeats 8000000 in
theorem awake10 (w : World) : Calls Tryz.prog 8 #[] w fun e w' => e = .returned (.bool true) ∧ Fr [] w w' := by
  have kc := fun (w : World) (C : Array Value) (n c : Nat) => Lib.run_convert_bytes_const (P := Tryz.prog) w 23 5 C n c Tryz.underlying23 Tryz.underlying5
  have kc2 : ∀ (w : World) (o : Obj) (C : Array Value) (n c : Nat), (convert 23 23 (.slice (some ⟨w.heap.size + 1, 0, none⟩) n c)).run Tryz.prog ((w.alloc o).alloc (.cells C 5)) = .ok (.slice (some ⟨w.heap.size + 1, 0, none⟩) n c) ((w.alloc o).alloc (.cells C 5 (C.size, C.size + 1))) := fun w o C n c => by
    have := kc (w.alloc o) C n c
    rwa [World.size_alloc] at this
  refine calls_post fun R HQ => ?_
  go_enter Tryz.func8, Tryz.ntmps8
  go_wp2_with fail
  refine (made_X w (n := 8) (by omega) (by omega)).mono ?_
  rintro e w1 ⟨dk, g, st, s, X, rfl, hm⟩
  have HM := Lib.hid hm
  clear hm
  go_wp2_with fail
  have hfa : Fr [] w1 (w1.alloc (.cells #[.int .u8 97] 5 (1, 2))) := (Fr.refl [] w1).alloc _
  have hba : BytesAt (w1.alloc (.cells #[.int .u8 97] 5 (1, 2))) (.slice (some ⟨w1.heap.size, 0, none⟩) 1 1) [97] w1.heap.size := bytes_mark (w := w1) (C := [97]) (fz := (1, 2)) _ rfl
  have hxa : More X w1 (w1.alloc (.cells #[.int .u8 97] 5 (1, 2))) w1.heap.size := .inr ⟨Nat.le_refl _, by simp⟩
  have HPA := Lib.hid (Put_X (HM.out.st.fr hfa) (t := 0) (by omega) hba hxa (BytesAt.nil _ w1.heap.size) hxa (by decide) (by decide) (by decide) (by decide))
  have HFA := Lib.hid hfa
  clear hfa hba hxa
  generalize w1.alloc (.cells #[.int .u8 97] 5 (1, 2)) = wa at *
  refine HPA.out.mono ?_
  rintro e w2 ⟨s2, hwr2, hk2, hend⟩
  obtain ⟨rfl, h2⟩ : e = .returned (.int .i64 0) ∧ StX w w2 dk g st s2 (More X w1 wa) E1 := by
    rcases hend with ⟨h, h'⟩ | ⟨_, _, _, hful⟩
    · exact ⟨h, h'⟩
    · exfalso
      rw [HM.out.n, restE_0 (fun _ _ => rfl)] at hful
      exact absurd hful (by decide)
  have S2 := Lib.hid h2
  have HN2 : Hid (s2.n = 8) := Lib.hid (by rw [hwr2.same.n]; exact HM.out.n)
  have HF2 : Hid (Fr [] w w2) := Lib.hid h2.px.frame
  clear hwr2 hk2 hend h2 HPA
  go_wp2_with fail
  have hfa1 : Fr [] w2 (w2.alloc (.cells #[.int .u8 98] 5 (1, 2))) := (Fr.refl [] w2).alloc _
  have hba1 : BytesAt (w2.alloc (.cells #[.int .u8 98] 5 (1, 2))) (.slice (some ⟨w2.heap.size, 0, none⟩) 1 1) [98] w2.heap.size := bytes_mark (w := w2) (C := [98]) (fz := (1, 2)) _ rfl
  have hz1 : (w2.alloc (.cells #[.int .u8 98] 5 (1, 2))).heap.size = w2.heap.size + 1 := by rw [World.size_alloc]
  obtain ⟨wb, hwb⟩ : ∃ wb, wb = w2.alloc (.cells #[.int .u8 98] 5 (1, 2)) := ⟨_, rfl⟩
  rw [← hwb] at hfa1 hba1 hz1 ⊢
  clear hwb
  have hfb : Fr [] wb (wb.alloc (.cells #[.int .u8 120] 5 (1, 2))) := (Fr.refl [] wb).alloc _
  have hbb : BytesAt (wb.alloc (.cells #[.int .u8 120] 5 (1, 2))) (.slice (some ⟨w2.heap.size + 1, 0, none⟩) 1 1) [120] (w2.heap.size + 1) := by
    have := bytes_mark (w := wb) (C := [120]) (fz := (1, 2)) _ rfl
    rw [hz1] at this
    exact this
  have hzb : (wb.alloc (.cells #[.int .u8 120] 5 (1, 2))).heap.size = w2.heap.size + 2 := by rw [World.size_alloc, hz1]
  generalize wb.alloc (.cells #[.int .u8 120] 5 (1, 2)) = wc at *
  have HPB := Lib.hid (Put_X (S2.out.fr (hfa1.trans hfb (by simp))) (t := 0) (by omega) (hba1.fr hfb (by simp)) (.inr ⟨Nat.le_refl _, by omega⟩) hbb (.inr ⟨by omega, by omega⟩) (by decide) (by decide) (by decide) (by rw [e1_0]; decide))
  clear hfa1 hba1 hz1 hfb hbb hzb
  refine HPB.out.mono ?_
  rintro e w3 ⟨s3, hwr3, hk3, hend⟩
  obtain ⟨rfl, h3⟩ : e = .returned (.int .i64 0) ∧ StX w w3 dk g st s3 (More (More X w1 wa) w2 wc) E2 := by
    rcases hend with ⟨h, h'⟩ | ⟨_, _, _, hful⟩
    · exact ⟨h, h'⟩
    · exfalso
      rw [HN2.out, restE_0 (fun j hj => (e_off hj).1)] at hful
      exact absurd hful (by decide)
  have S3 := Lib.hid h3
  have HN3 : Hid (s3.n = 8) := Lib.hid (by rw [hwr3.same.n]; exact HN2.out)
  clear hwr3 hk3 hend h3 HPB S2 HN2
  go_wp2_with fail
  have hfa : Fr [] w3 (w3.alloc (.cells #[.int .u8 97] 5 (1, 2))) := (Fr.refl [] w3).alloc _
  have hba : BytesAt (w3.alloc (.cells #[.int .u8 97] 5 (1, 2))) (.slice (some ⟨w3.heap.size, 0, none⟩) 1 1) [97] w3.heap.size := bytes_mark (w := w3) (C := [97]) (fz := (1, 2)) _ rfl
  have hxa : More (More (More X w1 wa) w2 wc) w3 (w3.alloc (.cells #[.int .u8 97] 5 (1, 2))) w3.heap.size := .inr ⟨Nat.le_refl _, by simp⟩
  have HPA := Lib.hid (Delete_X (S3.out.fr hfa) (t := 0) (by omega) hba hxa (by decide) (by decide) (by rw [e2_0]; decide))
  clear hfa hba hxa
  generalize w3.alloc (.cells #[.int .u8 97] 5 (1, 2)) = wd at *
  refine HPA.out.mono ?_
  rintro e w4 ⟨s4, hwr4, hk4, hend⟩
  obtain ⟨rfl, h4⟩ : e = .returned (.tuple #[.bool true, .int .i64 0]) ∧ StX w w4 dk g st s4 (More (More (More X w1 wa) w2 wc) w3 wd) E3 := by
    rcases hend with ⟨h, h'⟩ | ⟨_, _, _, hful⟩
    · rw [has_a] at h; exact ⟨h, h'⟩
    · exfalso
      rw [HN3.out, restE_0 (fun j hj => (e_off hj).2.1)] at hful
      exact absurd hful (by decide)
  have S4 := Lib.hid h4
  clear hwr4 hk4 hend h4 HPA S3
  obtain ⟨X4, hX4⟩ : ∃ X4, X4 = More (More (More X w1 wa) w2 wc) w3 wd := ⟨_, rfl⟩
  rw [← hX4] at S4
  clear hX4
  have hx0 : ∃ q, X4 q := ⟨st, S4.out.xs⟩
  obtain ⟨q0, hq0⟩ := hx0
  have HRG := Lib.hid (Range_X S4.out (t := 0) (by omega) (up := none) (most := 9) (BytesAt.nil _ q0) hq0 rfl (by omega) (by rw [e3_0]; decide))
  go_wp2_with fail
  refine HRG.out.mono ?_
  rintro e w5 ⟨ov, cs, rfl, hrow, hents, hf5⟩
  rw [go_3] at hrow hents
  obtain ⟨Ao, co, rfl, hco⟩ := own_shape hrow
  obtain ⟨kv, vv, cs1, cs2, ⟨⟨g1, hk1, _⟩, ⟨g2, hv1, _⟩⟩⟩ := hents.at_ (i := 0) (e := ([98], [120])) rfl
  obtain ⟨gr, hA, hcell⟩ := own_cell hrow (by decide)
  obtain rfl := hA
  have r0 := hcell _ _ cs1
  have r1 := hcell _ _ cs2
  have HCK := Lib.hid (Check_X (S4.out.stay hf5) (t := 0) (by omega) (by rw [e3_0]; decide))
  have c1 := run_string_of (P := Tryz.prog) (src := 23) (dst := 9) Tryz.underlying23 Tryz.underlying5 Tryz.underlying9 hk1
  have c2 := run_string_of (P := Tryz.prog) (src := 23) (dst := 9) Tryz.underlying23 Tryz.underlying5 Tryz.underlying9 hv1
  have HF5 : Hid (Fr [] w w5) := Lib.hid (S4.out.px.frame.trans hf5 (by simp))
  obtain ⟨Ak, ck, ok, rfl, hck, hak⟩ := id hk1
  obtain ⟨Aw, cw, ow, rfl, hcw, haw⟩ := id hv1
  obtain ⟨rfl, _⟩ := hak (by decide)
  obtain ⟨rfl, _⟩ := haw (by decide)
  have r0' : w5.cell? ⟨gr, 0, none⟩ = some (.slice (some ⟨g1, ok, none⟩) 1 ck) := r0
  have r1' : w5.cell? ⟨gr, 1, none⟩ = some (.slice (some ⟨g2, ow, none⟩) 1 cw) := r1
  have c1' : (convert 23 9 (.slice (some ⟨g1, ok, none⟩) 1 ck)).run Tryz.prog w5 = .ok (.string ⟨#[98]⟩) w5 := c1
  have c2' : (convert 23 9 (.slice (some ⟨g2, ow, none⟩) 1 cw)).run Tryz.prog w5 = .ok (.string ⟨#[120]⟩) w5 := c2
  clear r0 r1 c1 c2 hck hcw hak haw
  clear hrow hents hcell cs1 cs2 hk1 hv1 hf5 HRG
  go_wp2_with fail
  refine HCK.out.mono ?_
  rintro e w6 ⟨rfl, hf6⟩
  have HX := Lib.hid (HQ.out (.returned (.bool true)) w6 ⟨rfl, HF5.out.trans hf6 (by simp)⟩)
  clear hf6 HCK
  go_wp2_with fail
  exact HX.out
end Go.Proofs.YtpjbdpepofnleaaGreat
end
section
namespace Go.Proofs.YtpjbdpepofnleaaGreat
open Go.RowKit
theorem klt_lt {a b : Ky} : klt a b ∨ a = b ∨ klt b a := by
  by_cases h1 : klt a b
  · exact .inl h1
  · by_cases h2 : klt b a
    · exact .inr (.inr h2)
    · exact .inr (.inl (klt_tri h1 h2))
theorem putE_rise {E : En} {k : Ky} {v : List UInt8} (h : Rise E) : Rise (putE E k v) := by
  unfold putE Rise
  rw [List.pairwise_append]
  refine ⟨h.filter _, ?_, fun a ha b hb => ?_⟩
  · rw [List.pairwise_cons]
    exact ⟨fun e he => by simpa using (List.mem_filter.1 he).2, h.filter _⟩
  · have h1 : klt a.1 k := by simpa using (List.mem_filter.1 ha).2
    rcases List.mem_cons.1 hb with rfl | hb
    · exact h1
    · exact klt_trans h1 (by simpa using (List.mem_filter.1 hb).2)
theorem putE_mem {E : En} {k : Ky} {v : List UInt8} {e : Ky × List UInt8} : e ∈ putE E k v ↔ e = (k, v) ∨ (e ∈ E ∧ e.1 ≠ k) := by
  unfold putE
  simp only [List.mem_append, List.mem_cons, List.mem_filter, decide_eq_true_eq]
  constructor
  · rintro (⟨h1, h2⟩ | h | ⟨h1, h2⟩)
    · exact .inr ⟨h1, fun e => klt_irrefl k (by rw [e] at h2; exact h2)⟩
    · exact .inl h
    · exact .inr ⟨h1, fun e => klt_irrefl k (by rw [e] at h2; exact h2)⟩
  · rintro (h | ⟨h1, h2⟩)
    · exact .inr (.inl h)
    · rcases klt_lt (a := e.1) (b := k) with h | h | h
      · exact .inl ⟨h1, h⟩
      · exact absurd h h2
      · exact .inr (.inr ⟨h1, h⟩)
theorem filter_two {α : Type} {p q : α → Bool} (h : ∀ a, p a = true → q a = false) : ∀ l : List α, (l.filter p).length + (l.filter q).length ≤ l.length
  | [] => Nat.le_refl _
  | a :: l => by
    have ih := filter_two h l
    rw [List.filter_cons, List.filter_cons]
    cases hp : p a with
    | true => rw [h a hp]; simp only [if_true, Bool.false_eq_true, if_false, List.length_cons]; omega
    | false =>
      simp only [Bool.false_eq_true, if_false]
      cases hq : q a <;> simp only [if_true, Bool.false_eq_true, if_false, List.length_cons] <;> omega
theorem putE_len (E : En) (k : Ky) (v : List UInt8) : (putE E k v).length ≤ E.length + 1 := by
  unfold putE
  have := filter_two (p := fun e : Ky × List UInt8 => decide (klt e.1 k)) (q := fun e => decide (klt k e.1)) (fun a ha => by
    simp only [decide_eq_true_eq, decide_eq_false_iff_not] at ha ⊢
    exact fun h => klt_irrefl _ (klt_trans ha h)) E
  rw [List.length_append, List.length_cons]
  omega
theorem foldl_snoc {α β : Type} (f : β → α → β) (b : β) (l : List α) (x : α) : (l ++ [x]).foldl f b = f (l.foldl f b) x := by rw [List.foldl_append]; rfl
theorem nil_low (k : Ky) : ¬ klt k [] := by
  unfold klt
  cases k <;> simp [Lib.compareBytes]
theorem inB_all (E : En) : E.filter (inB [] none) = E := List.filter_eq_self.2 fun e _ => by
  unfold inB pastB
  simp [nil_low]
theorem go_take {E : En} (hr : Rise E) (low : Ky) (up : Option Ky) (most : Nat) : (goE low up most [] E).1 = (E.filter (inB low up)).take most := by
  have := goE_take (low := low) (up := up) (most := most) hr (out := []) (Nat.zero_le _)
  simpa using this
end Go.Proofs.YtpjbdpepofnleaaGreat
end
section
namespace Go.Proofs.YtpjbdpepofnleaaGreat
open Go.RowKit Go.ChangeMaps Go.MapKept Go.Maps Go.Sort Go.Shelf
theorem str_list (k : Ky) : (⟨k.toArray⟩ : ByteArray).toList = k := by rw [ByteArray.toList_eq]
end Go.Proofs.YtpjbdpepofnleaaGreat
end
section
namespace Go.Proofs.YtpjbdpepofnleaaGreat
open Go.RowKit Go.ChangeMaps Go.MapKept Go.Maps Go.Sort Go.Shelf
def only (t : Nat) (E : En) : Nat → En := setR (fun _ => []) t E
theorem RangeEnd.open_ {X : Nat → Prop} {E : Nat → En} {t : Nat} {low : Ky} {up : Option Ky} {most : Nat} {w w' : World} {e : Ending} (h : RangeEnd X E t low up most w e w') {R : En} (hR : (goE low up most [] (E t)).1 = R) :
    ∃ A c, e = .returned (.tuple #[.slice A R.length c, .int .i64 0]) ∧ Fr [] w w' ∧ ∀ (i : Nat) (x : Ky × List UInt8), R[i]? = some x → ∃ g kg ko kc, A = some ⟨g, 0, none⟩ ∧ w'.cell? ⟨g, i * 2, none⟩ = some (.slice (some ⟨kg, ko, none⟩) x.1.length kc) ∧ BytesAt w' (.slice (some ⟨kg, ko, none⟩) x.1.length kc) x.1 kg ∨ x.1 = [] := by
  obtain ⟨ov, cs, rfl, hrow, hents, hf⟩ := h
  rw [hR] at hrow hents
  obtain ⟨A, c, rfl, _⟩ := own_shape hrow
  refine ⟨A, c, rfl, hf, fun i x hx => ?_⟩
  obtain ⟨kv, vv, c1, _, ⟨⟨kg, hk, _⟩, _⟩⟩ := hents.at_ hx
  by_cases h0 : x.1 = []
  · exact ⟨0, 0, 0, 0, .inr h0⟩
  · obtain ⟨g, hA, hcell⟩ := own_cell hrow (by have := (List.getElem?_eq_some_iff.1 hx).1; omega)
    obtain ⟨Ak, ck, ok, rfl, hck, hak⟩ := id hk
    obtain ⟨rfl, _⟩ := hak (List.length_pos_iff.2 h0)
    exact ⟨g, kg, ok, ck, .inl ⟨hA, hcell _ _ c1, hk⟩⟩
end Go.Proofs.YtpjbdpepofnleaaGreat
end
section
namespace Go.Proofs.YtpjbdpepofnleaaGreat
open Go.RowKit
def two (x y : Nat) (Ex Ey : En) : Nat → En := setR (setR (fun _ => []) y Ey) x Ex
theorem two_x (x y : Nat) (Ex Ey : En) : two x y Ex Ey x = Ex := setR_at _ _ _
theorem two_y {x y : Nat} (h : y ≠ x) (Ex Ey : En) : two x y Ex Ey y = Ey := (setR_off _ _ h).trans (setR_at _ _ _)
theorem two_setx (x y : Nat) (Ex Ey Ex' : En) : setR (two x y Ex Ey) x Ex' = two x y Ex' Ey := by
  funext j
  unfold two setR
  split <;> rfl
theorem two_sety {x y : Nat} (h : y ≠ x) (Ex Ey Ey' : En) : setR (two x y Ex Ey) y Ey' = two x y Ex Ey' := by
  funext j
  unfold two setR
  by_cases h1 : j = y
  · rw [if_pos h1, if_neg (by rw [h1]; exact h), if_pos h1]
  · simp [h1]
theorem two_nil (x y : Nat) : two x y [] [] = fun _ => [] := by
  funext j
  unfold two setR
  split
  · rfl
  · split <;> rfl
theorem flat_one {E : Nat → En} {y : Nat} : ∀ {l : List Nat}, l.Nodup → (∀ j ∈ l, j ≠ y → E j = []) → (l.flatMap E).length ≤ (E y).length
  | [], _, _ => Nat.zero_le _
  | a :: l, hn, h => by
    obtain ⟨h1, h2⟩ := List.nodup_cons.1 hn
    rw [List.flatMap_cons, List.length_append]
    by_cases ha : a = y
    · have hz : l.flatMap E = [] := List.flatMap_eq_nil_iff.2 fun j hj => h j (List.mem_cons_of_mem _ hj) (fun e => h1 (by rw [ha, ← e]; exact hj))
      rw [hz, ha]
      exact Nat.le_refl _
    · rw [h a (List.mem_cons_self ..) ha]
      have := flat_one h2 fun j hj => h j (List.mem_cons_of_mem _ hj)
      simpa using this
theorem rest_x {x y : Nat} (h : y ≠ x) (Ex Ey : En) : (restE (two x y Ex Ey) x).length ≤ Ey.length := by
  have := flat_one (E := two x y Ex Ey) (y := y) (l := (List.range 8).erase x) (List.Nodup.erase x List.nodup_range) (fun j hj hjy => by
    have hjx : j ≠ x := fun e => by subst e; exact (List.Nodup.not_mem_erase (List.nodup_range (n := 8))) hj
    unfold two
    rw [setR_off _ _ hjx, setR_off _ _ hjy])
  rw [two_y h] at this
  exact this
theorem rest_y {x y : Nat} (Ex Ey : En) : (restE (two x y Ex Ey) y).length ≤ Ex.length := by
  have := flat_one (E := two x y Ex Ey) (y := x) (l := (List.range 8).erase y) (List.Nodup.erase y List.nodup_range) (fun j hj hjx => by
    have hjy : j ≠ y := fun e => by subst e; exact (List.Nodup.not_mem_erase (List.nodup_range (n := 8))) hj
    unfold two
    rw [setR_off _ _ hjx, setR_off _ _ hjy])
  rw [two_x] at this
  exact this
theorem getE_of {E : En} (hr : Rise E) {k : Ky} {v : List UInt8} (h : (k, v) ∈ E) : getE E k = some v := by
  induction E with
  | nil => cases h
  | cons a E ih =>
    obtain ⟨h1, h2⟩ := List.pairwise_cons.1 hr
    unfold getE
    rw [List.find?_cons]
    by_cases ha : a.1 = k
    · rw [decide_eq_true ha]
      rcases List.mem_cons.1 h with rfl | h
      · rfl
      · have := h1 _ h
        rw [ha] at this
        exact absurd this (klt_irrefl k)
    · rw [decide_eq_false ha]
      rcases List.mem_cons.1 h with rfl | h
      · exact absurd rfl ha
      · exact ih h2 h
theorem putE_twice (E : En) (k : Ky) (v v' : List UInt8) : putE (putE E k v) k v' = putE E k v' := by
  unfold putE
  have a1 : ∀ l : En, (l.filter fun e => decide (klt e.1 k)).filter (fun e => decide (klt e.1 k)) = l.filter fun e => decide (klt e.1 k) := fun l => by rw [List.filter_filter]; simp
  have a2 : ∀ l : En, (l.filter fun e => decide (klt k e.1)).filter (fun e => decide (klt k e.1)) = l.filter fun e => decide (klt k e.1) := fun l => by rw [List.filter_filter]; simp
  have a3 : (E.filter fun e => decide (klt k e.1)).filter (fun e => decide (klt e.1 k)) = [] := List.filter_eq_nil_iff.2 fun e he => by
    have := (List.mem_filter.1 he).2
    simp only [decide_eq_true_eq] at this ⊢
    exact fun h => klt_irrefl _ (klt_trans this h)
  have a4 : (E.filter fun e => decide (klt e.1 k)).filter (fun e => decide (klt k e.1)) = [] := List.filter_eq_nil_iff.2 fun e he => by
    have := (List.mem_filter.1 he).2
    simp only [decide_eq_true_eq] at this ⊢
    exact fun h => klt_irrefl _ (klt_trans this h)
  have hk : decide (klt k k) = false := by simpa using klt_irrefl k
  rw [List.filter_append, List.filter_cons, List.filter_append, List.filter_cons]
  simp only [hk, Bool.false_eq_true, if_false]
  rw [a1, a2, a3, a4, List.append_nil, List.nil_append]
theorem part3 (k : Ky) : ∀ {E : En}, Rise E → (E.filter fun e => decide (klt e.1 k)).length + (E.filter fun e => decide (klt k e.1)).length + (if hasE E k = true then 1 else 0) = E.length
  | [], _ => rfl
  | a :: E, hr => by
    obtain ⟨h1, h2⟩ := List.pairwise_cons.1 hr
    have ih := part3 k h2
    have hno : ¬ klt a.1 k → hasE E k = false := fun h => by
      cases hh : hasE E k with
      | false => rfl
      | true =>
        obtain ⟨e, he, hk⟩ := (hasE_iff E k).1 hh
        have := h1 e he
        rw [hk] at this
        exact absurd this h
    have hc : hasE (a :: E) k = (decide (a.1 = k) || hasE E k) := rfl
    rw [List.filter_cons, List.filter_cons, hc, List.length_cons]
    rcases klt_lt (a := a.1) (b := k) with h | h | h
    · have h3 : ¬ klt k a.1 := fun h' => klt_irrefl _ (klt_trans h h')
      have h4 : ¬ a.1 = k := fun e => by rw [e] at h; exact klt_irrefl _ h
      simp only [h, h3, h4, decide_true, decide_false, if_true, Bool.false_eq_true, if_false, Bool.false_or, List.length_cons]
      omega
    · have h3 : ¬ klt a.1 k := by rw [h]; exact klt_irrefl k
      have h4 : ¬ klt k a.1 := by rw [h]; exact klt_irrefl k
      rw [hno h3] at ih ⊢
      have h5 : ¬ klt k k := klt_irrefl k
      simp only [h5, h, decide_true, decide_false, if_true, Bool.false_eq_true, if_false, Bool.true_or] at ih ⊢
      omega
    · have h3 : ¬ klt a.1 k := fun h' => klt_irrefl _ (klt_trans h h')
      have h4 : ¬ a.1 = k := fun e => by rw [e] at h; exact klt_irrefl _ h
      rw [hno h3] at ih ⊢
      simp only [h, h3, h4, decide_true, decide_false, if_true, Bool.false_eq_true, if_false, Bool.false_or, List.length_cons] at ih ⊢
      omega
theorem putE_count {E : En} (hr : Rise E) (k : Ky) (v : List UInt8) : (putE E k v).length = if hasE E k = true then E.length else E.length + 1 := by
  have := part3 k hr
  unfold putE
  rw [List.length_append, List.length_cons]
  split <;> rename_i h
  · rw [if_pos h] at this; omega
  · rw [if_neg h] at this; omega
def ysF (l : List Ky) : En := l.foldl (fun E k => putE E k [2]) []
theorem ysF_snoc (l : List Ky) (k : Ky) : ysF (l ++ [k]) = putE (ysF l) k [2] := foldl_snoc ..
structure PutAll (E : En) (l : List Ky) (ok : List UInt8 → Prop) : Prop where
  rise : Rise E
  few : E.length ≤ l.length
  mem : ∀ e ∈ E, e.1 ∈ l ∧ ok e.2
  all : ∀ k ∈ l, ∃ v, (k, v) ∈ E
theorem PutAll.nil (ok : List UInt8 → Prop) : PutAll [] [] ok := ⟨List.Pairwise.nil, Nat.le_refl _, fun e h => (by cases h), fun e h => (by cases h)⟩
theorem PutAll.put {E : En} {l : List Ky} {ok : List UInt8 → Prop} (h : PutAll E l ok) {k : Ky} {v : List UInt8} (hv : ok v) : PutAll (putE E k v) (l ++ [k]) ok := by
  refine ⟨putE_rise h.rise, ?_, fun e he => ?_, fun j hj => ?_⟩
  · have := putE_len E k v
    have := h.few
    rw [List.length_append, List.length_singleton]
    omega
  · rcases putE_mem.1 he with rfl | ⟨he, _⟩
    · exact ⟨List.mem_append_right _ (List.mem_singleton.2 rfl), hv⟩
    · exact ⟨List.mem_append_left _ (h.mem e he).1, (h.mem e he).2⟩
  · by_cases hk : j = k
    · exact ⟨v, putE_mem.2 (.inl (by rw [hk]))⟩
    · rcases List.mem_append.1 hj with hj | hj
      · obtain ⟨v', hv'⟩ := h.all j hj
        exact ⟨v', putE_mem.2 (.inr ⟨hv', hk⟩)⟩
      · exact absurd (List.mem_singleton.1 hj) hk
theorem PutAll.get {E : En} {l : List Ky} {ok : List UInt8 → Prop} (h : PutAll E l ok) {k : Ky} (hk : k ∈ l) : ∃ v, getE E k = some v ∧ ok v := by
  obtain ⟨v, hv⟩ := h.all k hk
  exact ⟨v, getE_of h.rise hv, (h.mem _ hv).2⟩
theorem PutAll.has {E : En} {l : List Ky} {ok : List UInt8 → Prop} (h : PutAll E l ok) (k : Ky) : hasE E k = decide (k ∈ l) := by
  rw [Bool.eq_iff_iff, hasE_iff, decide_eq_true_eq]
  constructor
  · rintro ⟨e, he, rfl⟩
    exact (h.mem e he).1
  · intro hk
    obtain ⟨v, hv⟩ := h.all k hk
    exact ⟨_, hv, rfl⟩
def gone10 (E : En) (l : List Ky) : En := E.filter fun e => !decide (e.1 ∈ l)
theorem gone10_nil (E : En) : gone10 E [] = E := List.filter_eq_self.2 fun e _ => by simp
theorem gone10_snoc (E : En) (l : List Ky) (k : Ky) : gone10 E (l ++ [k]) = delE (gone10 E l) k := by
  unfold gone10 delE
  rw [List.filter_filter]
  refine List.filter_congr fun e _ => ?_
  simp only [List.mem_append, List.mem_singleton]
  by_cases h1 : e.1 ∈ l <;> by_cases h2 : e.1 = k <;> simp [h1, h2]
theorem gone10_all {E : En} {l : List Ky} (h : ∀ e ∈ E, e.1 ∈ l) : gone10 E l = [] := List.filter_eq_nil_iff.2 fun e he => by simp [h e he]
theorem gone10_len (E : En) (l : List Ky) : (gone10 E l).length ≤ E.length := List.length_filter_le ..
theorem delE_len (E : En) (k : Ky) : (delE E k).length ≤ E.length := List.length_filter_le ..
end Go.Proofs.YtpjbdpepofnleaaGreat
end
section
namespace Go.Proofs.YtpjbdpepofnleaaGreat
open Go.RowKit Go.ChangeMaps Go.MapKept Go.Maps Go.Sort Go.Shelf
section
variable {w0 w : World} {dk g st : Nat} {s : PS} {X : Nat → Prop} {E : Nat → En}
set_option maxRecDepth 100000 in
set_option maxHeartbeats 8000000 in
/-- Height. -/
theorem Height_X (h : StX w0 w dk g st s X E) {t : Nat} (ht : t < 8) (hE : (E t).length ≤ 1000000) :
    Calls Tryz.prog 17 #[.pointer (some ⟨st, 0, none⟩), .int .i64 (t : Int)] w fun e w' => ∃ m : Nat, e = .returned (.int .i64 (m : Int)) ∧ Fr [] w w' ∧ (m = 0 ↔ E t = []) ∧ (0 < m → m ≤ 40 ∧ 2 ^ (m - 1) ≤ (E t).length) := by
  obtain ⟨_, _, P, F, hF⟩ := h.store
  obtain ⟨c, hc⟩ : ∃ c, c = beginC s.page s.n := ⟨_, rfl⟩
  rw [← hc] at hF
  have hpc := h.pgc
  rw [← hc] at hpc
  have HC := Lib.hid hc; have HPC := Lib.hid hpc; have HF := Lib.hid hF
  have HEE := Lib.hid hE
  have HBG := Lib.hid h.begin
  clear h hc hpc hF hE
  have ht8 : ((t : Nat) : Int) < 8 := by omega
  have ht8' : ¬ (8 : Int) ≤ ((t : Nat) : Int) := by omega
  have ht0 : ¬ ((t : Nat) : Int) < 0 := by omega
  refine calls_post fun R HQ => ?_
  go_enter Tryz.func17, Tryz.ntmps17
  go_wp2_with fail
  refine HBG.out.mono ?_
  rintro e w1 ⟨bc, bn, bs, rfl, hch⟩
  rw [← HC.out] at hch
  have HCH := Lib.hid hch
  have cr := hch.blk.at_ (chC_root c g bn bs ht)
  clear hch HBG
  by_cases hr : c.roots t = 0
  · rw [hr] at cr
    have hEt : E t = [] := by
      rcases HF.out.tree t ht with ⟨_, h, _⟩ | ⟨h, _⟩
      · exact h
      · exact absurd hr h
    have HX := Lib.hid (HQ.out (.returned (.int .i64 0)) w1 ⟨0, rfl, HCH.out.fr, ⟨fun _ => hEt, fun _ => rfl⟩, fun h => absurd h (by omega)⟩)
    have HR0 := Lib.hid hr
    clear hr hEt
    go_wp2_with fail
    exact HX.out
  · have hrI : ¬ ((c.roots t : Nat) : Int) = 0 := by omega
    have hrb : (((c.roots t : Nat) : Int) == 0) = false := by simpa using hrI
    obtain ⟨hh, P', hs, hht⟩ : ∃ hh P', Sub c.N 1 hh (c.roots t) none none (E t) P' ∧ hh < 40 := by
      rcases HF.out.tree t ht with ⟨h, _, _⟩ | ⟨_, hh, hs⟩
      · exact absurd h hr
      · exact ⟨hh, _, hs, height_lt hs (by have := HEE.out; omega)⟩
    have hne : E t ≠ [] := (Sub.fine.all _ _ _ _ _ hs).2.2
    have hcnt := hs.count.2
    have HX := Lib.hid (fun w' (hf : Fr [] w w') => HQ.out (.returned (.int .i64 ((hh + 1 : Nat) : Int))) w' ⟨hh + 1, rfl, hf, ⟨fun h => absurd h (by omega), fun h => absurd h hne⟩, fun _ => ⟨by omega, by simpa using hcnt⟩⟩)
    have HR0 := Lib.hid hr; have HS := Lib.hid hs; have HHT := Lib.hid hht
    clear hr hs hht hne hcnt
    go_wp2_with fail
    go_loopw [7, 8] (fun v7 v8 wr => ∃ j r kk : Nat, j + r = hh ∧ v8 = .int .i64 ((j : Int) + 1) ∧ v7 = .int .i64 (kk : Int) ∧ (∃ lo hi E' P', Sub c.N 1 r kk lo hi E' P') ∧ ChAt w wr g bc bn bs (Dm_ X w bc bn bs) c) (fun _ v8 _ => 41 - (intOf v8).toNat)
    case atStart => exact ⟨0, hh, c.roots t, by omega, rfl, rfl, ⟨_, _, _, _, HS.out⟩, HCH.out⟩
    case round =>
      obtain ⟨j, r, kk, hjr, rfl, rfl, ⟨lo, hi, E', P2, hsub⟩, hci⟩ := hrel
      have CI := Lib.hid hci; have HJR := Lib.hid hjr; have HSUB := Lib.hid hsub
      clear hci hsub hjr cr
      by_cases hj : j + 1 < 40
      · have hjI : (j : Int) + 1 < 40 := by omega
        obtain ⟨n, hN, hlf, hnext⟩ : ∃ n, c.N kk = some n ∧ (n.lf = true ∧ r = 0 ∨ n.lf = false ∧ ∃ r', r = r' + 1 ∧ ∃ hi' E' P', Sub c.N 1 r' n.first lo hi' E' P') ∧ True := by
          cases r with
          | zero =>
            obtain ⟨n, _, h1, _, _, _, _, h5, _⟩ := HSUB.out
            exact ⟨n, h1, .inl ⟨h5, rfl⟩, trivial⟩
          | succ r =>
            obtain ⟨n, h1, h2, _, h4⟩ := first_sub HSUB.out
            exact ⟨n, h1, .inr ⟨h2, r, rfl, h4⟩, trivial⟩
        have HNC := Lib.hid (node_ch HPC.out CI.out hN CI.out.top)
        have HLF := Lib.hid hlf
        have hw1 : IntKind.i64.wrap ((j : Int) + 1 + 1) = (j : Int) + 1 + 1 := by rw [IntKind.wrap_i64]; omega
        clear hN hlf hnext
        go_wp2_with fail
        refine HNC.out.mono ?_
        rintro e w3 ⟨nv, rfl, hnv, hf3⟩
        obtain ⟨A, ca, cs0, rfl, _⟩ := hnv.open_
        have C3 := Lib.hid (CI.out.frame hf3)
        clear hnv hf3 HNC
        go_wp2_with (first
          | (with_reducible refine wpList_alloc_z rfl 88 rfl (.agg #[.int .i64 0, .int .i64 0, .slice none 0 0]) znd.toArray zero_nd rfl ?_)
          | (refine wpList_store_z (W := w3) rfl 88 (.tmp 9) (.tmp 51) rfl [.int .i64 (kindOf n), .int .i64 (n.first : Int), .slice A n.l.length ca] rfl rfl rfl size_nd rfl three_cells ?_))
        intro w4 hb4 hf4 hz4
        obtain ⟨p9, hp9⟩ : ∃ p9, p9 = w3.heap.size := ⟨_, rfl⟩
        rw [← hp9] at hb4 ⊢
        have C4 := Lib.hid (C3.out.frame hf4); have B4 := Lib.hid hb4
        clear hb4 hf4 hz4 hp9
        have d0 := B4.out.at_ (i := 0) rfl
        have d1 := B4.out.at_ (i := 1) rfl
        have d2 := B4.out.at_ (i := 2) rfl
        go_wp2_with fail
        refine (leaf_nd n).mono ?_
        rintro e w5 ⟨rfl, hf5⟩
        have C5 := Lib.hid (C4.out.frame hf5); have B5 := Lib.hid (B4.out.fr hf5 (by simp))
        clear hf5 d0 d1 d2
        rcases HLF.out with ⟨hl, hr0⟩ | ⟨hl, r', hr1, hi', E2, P3, hs'⟩
        · rw [hl]
          have HX5 := Lib.hid (HX.out w5 C5.out.fr)
          have hjh : j = hh := by have := HJR.out; omega
          rw [show (((hh + 1 : Nat)) : Int) = (j : Int) + 1 by rw [hjh]; rfl] at HX5
          have HR2 := Lib.hid hr0; have HJH := Lib.hid hjh
          clear hl hr0 hjh
          go_wp2_with fail
          exact HX5.out
        · rw [hl]
          have d1 := B5.out.at_ (i := 1) rfl
          have HXR : Hid (∃ j' r2 kk' : Nat, j' + r2 = hh ∧ Value.int .i64 ((j : Int) + 1 + 1) = .int .i64 ((j' : Int) + 1) ∧ Value.int .i64 (n.first : Int) = .int .i64 (kk' : Int) ∧ (∃ lo hi E' P', Sub c.N 1 r2 kk' lo hi E' P') ∧ ChAt w w5 g bc bn bs (Dm_ X w bc bn bs) c) := Lib.hid ⟨j + 1, r', n.first, by have := HJR.out; omega, rfl, rfl, ⟨_, _, _, _, hs'⟩, C5.out⟩
          have HR2 := Lib.hid hr1
          clear hl hr1 hs'
          go_wp2_with fail
          go_roundw
          case rel => exact HXR.out
          case measure => simp [intOf]; omega
      · have hjI : ¬ (j : Int) + 1 < 40 := by omega
        have HX5 := Lib.hid (HX.out wr CI.out.fr)
        have hjh : hh = 39 := by have := HJR.out; have := HHT.out; omega
        rw [hjh] at HX5
        have HX6 : Hid (R (.returned (.int .i64 40)) wr) := Lib.hid HX5.out
        have HJH := Lib.hid hjh
        clear hjh HX5
        go_wp2_with fail
        exact HX6.out
end
end Go.Proofs.YtpjbdpepofnleaaGreat
end
