/-
  Joined by join.py: Qy Qz Ya Yc Yd Ye Yi Yj Yl
-/
import Derived.WalkLawsBesides
import Derived.Laws.IdiomStrings
import Derived.Test.YtpjbdpepofnleaaGreatJrg23
section
namespace Go.Proofs.YtpjbdpepofnleaaGreat
open Go.RowKit Go.ChangeMaps Go.MapKept Go.Maps Go.Sort Go.Shelf
section
variable {w0 wS w : World} {dk g st bc bn bs bk bm K : Nat} {s : PS} {X D : Nat → Prop} {c : CD} {E : Nat → En}
theorem check_node (hp : PgC w0 wS dk g s X c) (h : Nat) : CGoal wS g bc bn bs bk bm D c K h := by
  induction h using Nat.strongRecOn with
  | _ h ih => exact check_step hp h ih
set_option maxRecDepth 100000 in
set_option maxHeartbeats 8000000 in
/-- Check. -/
theorem Check_X (h : StX w0 w dk g st s X E) {t : Nat} (ht : t < 8) (hE : (E t).length ≤ 1000000) :
    Calls Tryz.prog 16 #[.pointer (some ⟨st, 0, none⟩), .int .i64 (t : Int)] w fun e w' => e = .returned (.int .i64 0) ∧ Fr [] w w' := by
  obtain ⟨_, _, P, F, hF⟩ := h.store
  obtain ⟨c, hc⟩ : ∃ c, c = beginC s.page s.n := ⟨_, rfl⟩
  rw [← hc] at hF
  have hpc := h.pgc
  rw [← hc] at hpc
  have H := Lib.hid h; have HC := Lib.hid hc; have HPC := Lib.hid hpc; have HF := Lib.hid hF
  have HEE := Lib.hid hE
  have HBG := Lib.hid h.begin
  clear h hc hpc hF hE
  have ht8 : ((t : Nat) : Int) < 8 := by omega
  have ht8' : ¬ (8 : Int) ≤ ((t : Nat) : Int) := by omega
  have ht0 : ¬ ((t : Nat) : Int) < 0 := by omega
  have hmm := @run_makeMap Tryz.prog
  refine calls_post fun R HQ => ?_
  go_enter Tryz.func16, Tryz.ntmps16
  go_wp2_with fail
  refine HBG.out.mono ?_
  rintro e w1 ⟨bc, bn, bs, rfl, hch⟩
  rw [← HC.out] at hch
  have HCH := Lib.hid hch
  have cr := hch.blk.at_ (chC_root c g bn bs ht)
  clear hch HBG
  by_cases hr : c.roots t = 0
  · rw [hr] at cr
    have HX := Lib.hid (HQ.out (.returned (.int .i64 0)) w1 ⟨rfl, HCH.out.fr⟩)
    have HR0 := Lib.hid hr
    clear hr
    go_wp2_with fail
    exact HX.out
  · have hrI : ¬ ((c.roots t : Nat) : Int) = 0 := by omega
    have ha := HF.out.acc.swap (allP_perm ht).symm
    have hnd := (List.nodup_append.1 ha.nodup).1
    have hplen : (P t).length ≤ 4096 := by
      have h1 := ha.perm.length_eq
      have h2 := ha.next2; have h3 := ha.few
      rw [List.length_range', List.length_append, List.length_append] at h1
      omega
    obtain ⟨hh, hs, hht⟩ : ∃ hh, Sub c.N 1 hh (c.roots t) none none (E t) (P t) ∧ hh < 40 := by
      rcases HF.out.tree t ht with ⟨h, _, _⟩ | ⟨_, hh, hs⟩
      · exact absurd h hr
      · exact ⟨hh, hs, height_lt hs (by have := HEE.out; omega)⟩
    have hndP := (List.nodup_append.1 hnd).1
    obtain ⟨w2, hw2⟩ : ∃ w2, w2 = (w1.alloc (.map #[] 0)).alloc (.cells #[.pointer (some ⟨bc, 0, none⟩), .map (some w1.heap.size), .int .i64 ((0 : Nat) : Int)] 108) := ⟨_, rfl⟩
    have hf2 : Fr [] w1 w2 := by rw [hw2]; exact ((Fr.refl [] _).alloc _).alloc _
    have hm2 : VAt w2 w1.heap.size [] := by rw [hw2]; exact (VAt.new w1).fr ((Fr.refl [] _).alloc _) (by simp)
    have hb2 : Blk w2 (w1.heap.size + 1) 108 [.pointer (some ⟨bc, 0, none⟩), .map (some w1.heap.size), .int .i64 ((0 : Nat) : Int)] := by
      rw [hw2]
      have := Blk.new (w1.alloc (.map #[] 0)) 108 [.pointer (some ⟨bc, 0, none⟩), .map (some w1.heap.size), .int .i64 ((0 : Nat) : Int)]
      rwa [World.size_alloc] at this
    have hz1 := HCH.out.fr.size
    have hz2 := hf2.size
    have hcl := HCH.out.lts
    obtain ⟨D, hD⟩ : ∃ D : Nat → Prop, D = fun q => Dm_ X w bc bn bs q ∧ q ≠ w1.heap.size ∧ q ≠ w1.heap.size + 1 := ⟨_, rfl⟩
    have C2 : Hid (Cst w g bc bn bs (w1.heap.size + 1) w1.heap.size D c [] 0 w2) := Lib.hid {
      ch := by
        refine (HCH.out.re (D' := D) (fun q hq hl => ?_) ⟨w1.heap.size + 2, ?_, by omega⟩ (fun q hq => ?_)).frame hf2
        · rw [hD]; exact ⟨hq, by omega, by omega⟩
        · rw [hD]; exact ⟨⟨.inr (by omega), by omega, by omega, by omega⟩, by omega, by omega⟩
        · rw [hD] at hq; exact hq.1.2
      blk := hb2
      met := hm2
      nb := fun q hq => by rw [hD] at hq; exact ⟨hq.2.2, hq.2.1, hq.1.2⟩
      top := fun q hq => by rw [hD]; have := hb2.lt; exact ⟨⟨.inr (by omega), by omega, by omega, by omega⟩, by omega, by omega⟩
      hb := ⟨by omega, by omega, by omega, by omega, by omega, by omega, by omega⟩
      hw := ⟨by omega, by omega⟩ }
    have hfk : FromK D w2 (.slice none 0 0) none := ⟨w2.heap.size, BytesAt.nil _ _, C2.out.top _ (Nat.le_refl _)⟩
    have HCN := Lib.hid (check_node HPC.out hh (K := 1 + hh) (c.roots t) 1 none none (E t) (P t) [] 0 _ _ w2 rfl (Nat.le_refl _) (by omega) hs hndP (fun _ _ => rfl) (by simp; omega) C2.out hfk (show UpK D w2 (.slice none 0 0) none from rfl) (.inl rfl))
    have HR0 := Lib.hid hr
    have cr2 := fr_keep hf2 cr
    have HFW2 : Hid (Fr [] w w2) := Lib.hid (HCH.out.fr.trans hf2 (by simp))
    have HZ1 := Lib.hid hz1
    clear hr hs hht hf2 hb2 hm2 hz2 hcl hD hfk ha hnd hplen hndP hz1
    go_upto_region 7 with fail
    show Code.wp _ _ _ _ ((w1.alloc (.map #[] 0)).alloc (.cells #[.pointer (some ⟨bc, 0, none⟩), .map (some w1.heap.size), .int .i64 ((0 : Nat) : Int)] 108))
    rw [← hw2]
    clear hw2 cr hmm
    go_wp2_with fail
    refine HCN.out.mono ?_
    rintro e w3 ⟨m', kd', rfl, hC3, hf3, _⟩
    have HX := Lib.hid (HQ.out (.returned (.int .i64 0)) w3 ⟨rfl, HFW2.out.trans hf3 fun q hq => .inr (by
      have := HZ1.out
      simp only [List.mem_cons, List.not_mem_nil, or_false] at hq
      omega)⟩)
    clear hC3 hf3 HCN cr2
    go_wp2_with fail
    exact HX.out
end
end Go.Proofs.YtpjbdpepofnleaaGreat
end
section
namespace Go.Proofs.YtpjbdpepofnleaaGreat
open Go.RowKit Go.ChangeMaps Go.MapKept Go.Maps Go.Sort Go.Shelf
structure Made (w w' : World) (dk g st n : Nat) (s : PS) (X : Nat → Prop) : Prop where
  st : StX w w' dk g st s X fun _ => []
  old : ∀ k, k < w.heap.size → X k
  n : s.n = n
  inv : PInv 1 s fun _ => List.replicate 512 0
  late : s.late = []
  lim : s.D.limit = -1
  done : s.D.done = 0
  ln : s.l.n = 700
  fr : Fr [] w w'
set_option maxRecDepth 100000 in
set_option maxHeartbeats 2000000 in
theorem made_X (w : World) {n : Nat} (h1 : 1 ≤ n) (h2 : n ≤ 4096) :
    Calls Tryz.prog 9 #[.int .i64 (n : Int)] w fun e w' => ∃ dk g st s X, e = .returned (.tuple #[.pointer (some ⟨st, 0, none⟩), .pointer (some ⟨g, 0, none⟩)]) ∧ Made w w' dk g st n s X := by
  obtain ⟨H1, ht1, hi1, hn1⟩ := (PDisk.new (n := n) (log := 700) (N := 8 * n + 700) h1 h2 (by omega) (by omega) (by omega)).open_ (by omega)
  have hw1 : IntKind.i64.wrap (8 * (n : Int)) = 8 * (n : Int) := by rw [IntKind.wrap_i64]; omega
  have hw2 : IntKind.i64.wrap (8 * (n : Int) + 700) = ((8 * n + 700 : Nat) : Int) := by rw [IntKind.wrap_i64]; omega
  have HT1 := Lib.hid ht1; have HI1 := Lib.hid hi1; have HN1 := Lib.hid hn1; have HA := Lib.hid h1; have HB := Lib.hid h2
  clear ht1 hi1 hn1
  refine calls_post fun R HQ => ?_
  go_enter Tryz.func9, Tryz.ntmps9
  go_wp2_with fail
  refine (new_X (X := fun k => k < w.heap.size) w w (8 * n + 700) (by omega) (by omega) (Fr.refl _ _) (fun _ h => h)).mono ?_
  rintro e w1 ⟨d, rfl, hd1, hf1⟩
  have HD1 := Lib.hid hd1; have HF1 := Lib.hid hf1
  clear hd1 hf1
  go_wp2_with fail
  refine (open_Y (n := n) (log := 700) HD1.out rfl rfl h1 h2 (by omega) HI1.out.fit HN1.out HT1.out).mono ?_
  rintro e w2 ⟨g, rfl, hp2, hk2⟩
  have HP2 := Lib.hid hp2
  clear hp2 hk2
  obtain ⟨s1, hs1⟩ : ∃ s1, s1 = openP n 700 (DM.new (8 * n + 700)) H1 := ⟨_, rfl⟩
  rw [← hs1] at HP2 HI1
  have l1 : s1.late = [] ∧ s1.n = n ∧ s1.l.n = 700 ∧ s1.D.limit = -1 ∧ s1.D.done = 0 ∧ s1.br = false := by rw [hs1]; exact ⟨rfl, rfl, rfl, rfl, rfl, rfl⟩
  have hpage : ∀ k, k < s1.n → s1.page k = zpage := fun k hk => by
    rw [HI1.out.page_eq hk, l1.1]
    rfl
  have hst : Store s1.page s1.n fun _ => [] := store_new (hpage 0 (by rw [l1.2.1]; omega)) (fun k hk => by rw [hpage k hk]; exact zpage_len') (by rw [l1.2.1]; omega) (by rw [l1.2.1]; omega)
  have HOP := Lib.hid (Open_X HP2.out l1.2.2.2.2.2 HI1.out.calm hst)
  have HL1 := Lib.hid l1
  clear hs1 hpage hst l1
  go_wp2_with fail
  refine HOP.out.mono ?_
  rintro e w3 ⟨st, rfl, hst3, hf3⟩
  have HX := Lib.hid (HQ.out _ _ ⟨d, g, st, s1, _, rfl, ⟨hst3, fun k hk => .inl hk, HL1.out.2.1, HI1.out, HL1.out.1, HL1.out.2.2.2.1, HL1.out.2.2.2.2.1, HL1.out.2.2.1, hst3.px.frame⟩⟩)
  clear hst3 hf3 HOP
  go_wp2_with fail
  exact HX.out
def E1 : Nat → En := setR (fun _ => []) 0 (putE [] [97] [])
def E2 : Nat → En := setR E1 0 (putE (E1 0) [98] [120])
def E3 : Nat → En := setR E2 0 (delE (E2 0) [97])
theorem restE_0 {E : Nat → En} {t : Nat} (h : ∀ j, j ≠ t → E j = []) : restE E t = [] := by
  unfold restE
  rw [List.flatMap_eq_nil_iff]
  intro j hj
  exact h j (fun e => by
    subst e
    exact (List.Nodup.not_mem_erase (List.nodup_range (n := 8))) hj)
theorem setR_at (E : Nat → En) (t : Nat) (x : En) : setR E t x t = x := if_pos rfl
theorem setR_off (E : Nat → En) {t j : Nat} (x : En) (h : j ≠ t) : setR E t x j = E j := if_neg h
end Go.Proofs.YtpjbdpepofnleaaGreat
end
section
namespace Go.Proofs.YtpjbdpepofnleaaGreat
open Go.RowKit Go.ChangeMaps Go.MapKept Go.Maps Go.Sort Go.Shelf
theorem e1_0 : E1 0 = [([97], [])] := rfl
theorem e2_0 : E2 0 = [([97], []), ([98], [120])] := rfl
theorem e3_0 : E3 0 = [([98], [120])] := rfl
theorem has_a : hasE (E2 0) [97] = true := rfl
theorem go_3 : goE [] none 9 [] (E3 0) = ([([98], [120])], true) := rfl
theorem e_off {j : Nat} (h : j ≠ 0) : E1 j = [] ∧ E2 j = [] ∧ E3 j = [] := by
  have a1 : E1 j = [] := setR_off _ _ h
  have a2 : E2 j = [] := (setR_off _ _ h).trans a1
  exact ⟨a1, a2, (setR_off _ _ h).trans a2⟩
set_option maxRecDepth 100000 in
set_option maxHeartbeats 8000000 in
theorem awake10 (w : World) : Calls Tryz.prog 8 #[] w fun e w' => e = .returned (.bool true) ∧ Fr [] w w' := by
  have kc := fun (w : World) (C : Array Value) (n c : Nat) => Lib.run_convert_bytes_const (P := Tryz.prog) w 23 5 C n c Tryz.underlying23 Tryz.underlying5
  have kc2 : ∀ (w : World) (o : Obj) (C : Array Value) (n c : Nat), (convert 23 23 (.slice (some ⟨w.heap.size + 1, 0, none⟩) n c)).run Tryz.prog ((w.alloc o).alloc (.cells C 5)) = .ok (.slice (some ⟨w.heap.size + 1, 0, none⟩) n c) ((w.alloc o).alloc (.cells C 5 (C.size, C.size + 1))) := fun w o C n c => by
    have := kc (w.alloc o) C n c
    rwa [World.size_alloc] at this
  refine calls_post fun R HQ => ?_
  go_enter Tryz.func8, Tryz.ntmps8
  go_wp2_with fail
  refine (made_X w (n := 8) (by omega) (by omega)).mono ?_
  rintro e w1 ⟨dk, g, st, s, X, rfl, hm⟩
  have HM := Lib.hid hm
  clear hm
  go_wp2_with fail
  have hfa : Fr [] w1 (w1.alloc (.cells #[.int .u8 97] 5 (1, 2))) := (Fr.refl [] w1).alloc _
  have hba : BytesAt (w1.alloc (.cells #[.int .u8 97] 5 (1, 2))) (.slice (some ⟨w1.heap.size, 0, none⟩) 1 1) [97] w1.heap.size := bytes_mark (w := w1) (C := [97]) (fz := (1, 2)) _ rfl
  have hxa : More X w1 (w1.alloc (.cells #[.int .u8 97] 5 (1, 2))) w1.heap.size := .inr ⟨Nat.le_refl _, by simp⟩
  have HPA := Lib.hid (Put_X (HM.out.st.fr hfa) (t := 0) (by omega) hba hxa (BytesAt.nil _ w1.heap.size) hxa (by decide) (by decide) (by decide) (by decide))
  have HFA := Lib.hid hfa
  clear hfa hba hxa
  generalize w1.alloc (.cells #[.int .u8 97] 5 (1, 2)) = wa at *
  refine HPA.out.mono ?_
  rintro e w2 ⟨s2, hwr2, hk2, hend⟩
  obtain ⟨rfl, h2⟩ : e = .returned (.int .i64 0) ∧ StX w w2 dk g st s2 (More X w1 wa) E1 := by
    rcases hend with ⟨h, h'⟩ | ⟨_, _, _, hful⟩
    · exact ⟨h, h'⟩
    · exfalso
      rw [HM.out.n, restE_0 (fun _ _ => rfl)] at hful
      exact absurd hful (by decide)
  have S2 := Lib.hid h2
  have HN2 : Hid (s2.n = 8) := Lib.hid (by rw [hwr2.same.n]; exact HM.out.n)
  have HF2 : Hid (Fr [] w w2) := Lib.hid h2.px.frame
  clear hwr2 hk2 hend h2 HPA
  go_wp2_with fail
  have hfa1 : Fr [] w2 (w2.alloc (.cells #[.int .u8 98] 5 (1, 2))) := (Fr.refl [] w2).alloc _
  have hba1 : BytesAt (w2.alloc (.cells #[.int .u8 98] 5 (1, 2))) (.slice (some ⟨w2.heap.size, 0, none⟩) 1 1) [98] w2.heap.size := bytes_mark (w := w2) (C := [98]) (fz := (1, 2)) _ rfl
  have hz1 : (w2.alloc (.cells #[.int .u8 98] 5 (1, 2))).heap.size = w2.heap.size + 1 := by rw [World.size_alloc]
  obtain ⟨wb, hwb⟩ : ∃ wb, wb = w2.alloc (.cells #[.int .u8 98] 5 (1, 2)) := ⟨_, rfl⟩
  rw [← hwb] at hfa1 hba1 hz1 ⊢
  clear hwb
  have hfb : Fr [] wb (wb.alloc (.cells #[.int .u8 120] 5 (1, 2))) := (Fr.refl [] wb).alloc _
  have hbb : BytesAt (wb.alloc (.cells #[.int .u8 120] 5 (1, 2))) (.slice (some ⟨w2.heap.size + 1, 0, none⟩) 1 1) [120] (w2.heap.size + 1) := by
    have := bytes_mark (w := wb) (C := [120]) (fz := (1, 2)) _ rfl
    rw [hz1] at this
    exact this
  have hzb : (wb.alloc (.cells #[.int .u8 120] 5 (1, 2))).heap.size = w2.heap.size + 2 := by rw [World.size_alloc, hz1]
  generalize wb.alloc (.cells #[.int .u8 120] 5 (1, 2)) = wc at *
  have HPB := Lib.hid (Put_X (S2.out.fr (hfa1.trans hfb (by simp))) (t := 0) (by omega) (hba1.fr hfb (by simp)) (.inr ⟨Nat.le_refl _, by omega⟩) hbb (.inr ⟨by omega, by omega⟩) (by decide) (by decide) (by decide) (by rw [e1_0]; decide))
  clear hfa1 hba1 hz1 hfb hbb hzb
  refine HPB.out.mono ?_
  rintro e w3 ⟨s3, hwr3, hk3, hend⟩
  obtain ⟨rfl, h3⟩ : e = .returned (.int .i64 0) ∧ StX w w3 dk g st s3 (More (More X w1 wa) w2 wc) E2 := by
    rcases hend with ⟨h, h'⟩ | ⟨_, _, _, hful⟩
    · exact ⟨h, h'⟩
    · exfalso
      rw [HN2.out, restE_0 (fun j hj => (e_off hj).1)] at hful
      exact absurd hful (by decide)
  have S3 := Lib.hid h3
  have HN3 : Hid (s3.n = 8) := Lib.hid (by rw [hwr3.same.n]; exact HN2.out)
  clear hwr3 hk3 hend h3 HPB S2 HN2
  go_wp2_with fail
  have hfa : Fr [] w3 (w3.alloc (.cells #[.int .u8 97] 5 (1, 2))) := (Fr.refl [] w3).alloc _
  have hba : BytesAt (w3.alloc (.cells #[.int .u8 97] 5 (1, 2))) (.slice (some ⟨w3.heap.size, 0, none⟩) 1 1) [97] w3.heap.size := bytes_mark (w := w3) (C := [97]) (fz := (1, 2)) _ rfl
  have hxa : More (More (More X w1 wa) w2 wc) w3 (w3.alloc (.cells #[.int .u8 97] 5 (1, 2))) w3.heap.size := .inr ⟨Nat.le_refl _, by simp⟩
  have HPA := Lib.hid (Delete_X (S3.out.fr hfa) (t := 0) (by omega) hba hxa (by decide) (by decide) (by rw [e2_0]; decide))
  clear hfa hba hxa
  generalize w3.alloc (.cells #[.int .u8 97] 5 (1, 2)) = wd at *
  refine HPA.out.mono ?_
  rintro e w4 ⟨s4, hwr4, hk4, hend⟩
  obtain ⟨rfl, h4⟩ : e = .returned (.tuple #[.bool true, .int .i64 0]) ∧ StX w w4 dk g st s4 (More (More (More X w1 wa) w2 wc) w3 wd) E3 := by
    rcases hend with ⟨h, h'⟩ | ⟨_, _, _, hful⟩
    · rw [has_a] at h; exact ⟨h, h'⟩
    · exfalso
      rw [HN3.out, restE_0 (fun j hj => (e_off hj).2.1)] at hful
      exact absurd hful (by decide)
  have S4 := Lib.hid h4
  clear hwr4 hk4 hend h4 HPA S3
  obtain ⟨X4, hX4⟩ : ∃ X4, X4 = More (More (More X w1 wa) w2 wc) w3 wd := ⟨_, rfl⟩
  rw [← hX4] at S4
  clear hX4
  have hx0 : ∃ q, X4 q := ⟨st, S4.out.xs⟩
  obtain ⟨q0, hq0⟩ := hx0
  have HRG := Lib.hid (Range_X S4.out (t := 0) (by omega) (up := none) (most := 9) (BytesAt.nil _ q0) hq0 rfl (by omega) (by rw [e3_0]; decide))
  go_wp2_with fail
  refine HRG.out.mono ?_
  rintro e w5 ⟨ov, cs, rfl, hrow, hents, hf5⟩
  rw [go_3] at hrow hents
  obtain ⟨Ao, co, rfl, hco⟩ := own_shape hrow
  obtain ⟨kv, vv, cs1, cs2, ⟨⟨g1, hk1, _⟩, ⟨g2, hv1, _⟩⟩⟩ := hents.at_ (i := 0) (e := ([98], [120])) rfl
  obtain ⟨gr, hA, hcell⟩ := own_cell hrow (by decide)
  obtain rfl := hA
  have r0 := hcell _ _ cs1
  have r1 := hcell _ _ cs2
  have HCK := Lib.hid (Check_X (S4.out.stay hf5) (t := 0) (by omega) (by rw [e3_0]; decide))
  have c1 := run_string_of (P := Tryz.prog) (src := 23) (dst := 9) Tryz.underlying23 Tryz.underlying5 Tryz.underlying9 hk1
  have c2 := run_string_of (P := Tryz.prog) (src := 23) (dst := 9) Tryz.underlying23 Tryz.underlying5 Tryz.underlying9 hv1
  have HF5 : Hid (Fr [] w w5) := Lib.hid (S4.out.px.frame.trans hf5 (by simp))
  obtain ⟨Ak, ck, ok, rfl, hck, hak⟩ := id hk1
  obtain ⟨Aw, cw, ow, rfl, hcw, haw⟩ := id hv1
  obtain ⟨rfl, _⟩ := hak (by decide)
  obtain ⟨rfl, _⟩ := haw (by decide)
  have r0' : w5.cell? ⟨gr, 0, none⟩ = some (.slice (some ⟨g1, ok, none⟩) 1 ck) := r0
  have r1' : w5.cell? ⟨gr, 1, none⟩ = some (.slice (some ⟨g2, ow, none⟩) 1 cw) := r1
  have c1' : (convert 23 9 (.slice (some ⟨g1, ok, none⟩) 1 ck)).run Tryz.prog w5 = .ok (.string ⟨#[98]⟩) w5 := c1
  have c2' : (convert 23 9 (.slice (some ⟨g2, ow, none⟩) 1 cw)).run Tryz.prog w5 = .ok (.string ⟨#[120]⟩) w5 := c2
  clear r0 r1 c1 c2 hck hcw hak haw
  clear hrow hents hcell cs1 cs2 hk1 hv1 hf5 HRG
  go_wp2_with fail
  refine HCK.out.mono ?_
  rintro e w6 ⟨rfl, hf6⟩
  have HX := Lib.hid (HQ.out (.returned (.bool true)) w6 ⟨rfl, HF5.out.trans hf6 (by simp)⟩)
  clear hf6 HCK
  go_wp2_with fail
  exact HX.out
end Go.Proofs.YtpjbdpepofnleaaGreat
end
section
namespace Go.Proofs.YtpjbdpepofnleaaGreat
open Go.RowKit
theorem klt_lt {a b : Ky} : klt a b ∨ a = b ∨ klt b a := by
  by_cases h1 : klt a b
  · exact .inl h1
  · by_cases h2 : klt b a
    · exact .inr (.inr h2)
    · exact .inr (.inl (klt_tri h1 h2))
theorem putE_rise {E : En} {k : Ky} {v : List UInt8} (h : Rise E) : Rise (putE E k v) := by
  unfold putE Rise
  rw [List.pairwise_append]
  refine ⟨h.filter _, ?_, fun a ha b hb => ?_⟩
  · rw [List.pairwise_cons]
    exact ⟨fun e he => by simpa using (List.mem_filter.1 he).2, h.filter _⟩
  · have h1 : klt a.1 k := by simpa using (List.mem_filter.1 ha).2
    rcases List.mem_cons.1 hb with rfl | hb
    · exact h1
    · exact klt_trans h1 (by simpa using (List.mem_filter.1 hb).2)
theorem putE_mem {E : En} {k : Ky} {v : List UInt8} {e : Ky × List UInt8} : e ∈ putE E k v ↔ e = (k, v) ∨ (e ∈ E ∧ e.1 ≠ k) := by
  unfold putE
  simp only [List.mem_append, List.mem_cons, List.mem_filter, decide_eq_true_eq]
  constructor
  · rintro (⟨h1, h2⟩ | h | ⟨h1, h2⟩)
    · exact .inr ⟨h1, fun e => klt_irrefl k (by rw [e] at h2; exact h2)⟩
    · exact .inl h
    · exact .inr ⟨h1, fun e => klt_irrefl k (by rw [e] at h2; exact h2)⟩
  · rintro (h | ⟨h1, h2⟩)
    · exact .inr (.inl h)
    · rcases klt_lt (a := e.1) (b := k) with h | h | h
      · exact .inl ⟨h1, h⟩
      · exact absurd h h2
      · exact .inr (.inr ⟨h1, h⟩)
theorem filter_two {α : Type} {p q : α → Bool} (h : ∀ a, p a = true → q a = false) : ∀ l : List α, (l.filter p).length + (l.filter q).length ≤ l.length
  | [] => Nat.le_refl _
  | a :: l => by
    have ih := filter_two h l
    rw [List.filter_cons, List.filter_cons]
    cases hp : p a with
    | true => rw [h a hp]; simp only [if_true, Bool.false_eq_true, if_false, List.length_cons]; omega
    | false =>
      simp only [Bool.false_eq_true, if_false]
      cases hq : q a <;> simp only [if_true, Bool.false_eq_true, if_false, List.length_cons] <;> omega
theorem putE_len (E : En) (k : Ky) (v : List UInt8) : (putE E k v).length ≤ E.length + 1 := by
  unfold putE
  have := filter_two (p := fun e : Ky × List UInt8 => decide (klt e.1 k)) (q := fun e => decide (klt k e.1)) (fun a ha => by
    simp only [decide_eq_true_eq, decide_eq_false_iff_not] at ha ⊢
    exact fun h => klt_irrefl _ (klt_trans ha h)) E
  rw [List.length_append, List.length_cons]
  omega
theorem less_klt : ∀ a b : Ky, Op.bytesLess a b = decide (klt a b)
  | [], [] => rfl
  | [], _ :: _ => rfl
  | _ :: _, [] => rfl
  | x :: a, y :: b => by
    have ih := less_klt a b
    unfold Op.bytesLess
    rw [ih]
    unfold klt
    conv => rhs; unfold Lib.compareBytes
    by_cases h1 : x < y
    · simp [h1]
    · by_cases h2 : y < x
      · have hne : (x == y) = false := by simpa using fun e : x = y => absurd (e ▸ h2) (by rw [e] at h2; exact fun h => absurd h (by rw [e] at h1; exact h1))
        simp [h1, h2, hne]
      · have he : x = y := by
          have h3 : ¬ x.toNat < y.toNat := h1
          have h4 : ¬ y.toNat < x.toNat := h2
          exact UInt8.toNat_inj.1 (by omega)
        simp [he]
theorem nil_low (k : Ky) : ¬ klt k [] := by
  unfold klt
  cases k <;> simp [Lib.compareBytes]
theorem inB_all (E : En) : E.filter (inB [] none) = E := List.filter_eq_self.2 fun e _ => by
  unfold inB pastB
  simp [nil_low]
theorem go_take {E : En} (hr : Rise E) (low : Ky) (up : Option Ky) (most : Nat) : (goE low up most [] E).1 = (E.filter (inB low up)).take most := by
  have := goE_take (low := low) (up := up) (most := most) hr (out := []) (Nat.zero_le _)
  simpa using this
end Go.Proofs.YtpjbdpepofnleaaGreat
end
section
namespace Go.Proofs.YtpjbdpepofnleaaGreat
open Go.RowKit Go.ChangeMaps Go.MapKept Go.Maps Go.Sort Go.Shelf
theorem setR_twice (E : Nat → En) (t : Nat) (x y : En) : setR (setR E t x) t y = setR E t y := by
  funext j
  unfold setR
  split <;> rfl
end Go.Proofs.YtpjbdpepofnleaaGreat
end
section
namespace Go.Proofs.YtpjbdpepofnleaaGreat
open Go.RowKit Go.ChangeMaps Go.MapKept Go.Maps Go.Sort Go.Shelf
def only (t : Nat) (E : En) : Nat → En := setR (fun _ => []) t E
theorem only_at (t : Nat) (E : En) : only t E t = E := setR_at _ _ _
theorem only_put (t : Nat) (E E' : En) : setR (only t E) t E' = only t E' := setR_twice _ _ _ _
theorem only_rest (t : Nat) (E : En) : restE (only t E) t = [] := restE_0 fun _j hj => setR_off _ _ hj
theorem only_nil (t : Nat) : only t [] = fun _ => [] := by
  funext j
  unfold only setR
  split <;> rfl
theorem put_only {w0 w w' : World} {dk g st n t : Nat} {s : PS} {X : Nat → Prop} {E : En} {key v : Ky} {e : Ending} (h : PutEnd w0 dk g st s X (only t E) t key v w e w') (hn : s.n = n) (hfew : 2 * (E.length + 1) < n) :
    ∃ s', e = .returned (.int .i64 0) ∧ s'.n = n ∧ StX w0 w' dk g st s' X (only t (putE E key v)) := by
  obtain ⟨s', hw, _, ⟨he, hs⟩ | ⟨_, _, _, hful⟩⟩ := h
  · rw [only_at, only_put] at hs
    exact ⟨s', he, by rw [hw.same.n, hn], hs⟩
  · rw [only_at, only_rest] at hful
    have := putE_len E key v
    simp only [List.length_nil] at hful
    omega
end Go.Proofs.YtpjbdpepofnleaaGreat
end
section
namespace Go.Proofs.YtpjbdpepofnleaaGreat
open Go.RowKit Go.ChangeMaps Go.MapKept Go.Maps Go.Sort Go.Shelf
def EnSl (w : World) (v : Value) (E : En) : Prop :=
  ∃ A c, v = .slice A E.length c ∧ E.length ≤ c ∧ (0 < E.length → ∃ g off, A = some ⟨g, off, none⟩ ∧ ∀ (i : Nat) (e : Ky × List UInt8), E[i]? = some e →
    ∃ kv vv, w.cell? ⟨g, off + i * 2, none⟩ = some kv ∧ w.cell? ⟨g, off + i * 2 + 1, none⟩ = some vv ∧ (∃ q, BytesAt w kv e.1 q) ∧ ∃ q, BytesAt w vv e.2 q)
theorem EnSl.fr {w w' : World} {v : Value} {E : En} (h : EnSl w v E) (hf : Fr [] w w') : EnSl w' v E := by
  obtain ⟨A, c, h1, h2, h3⟩ := h
  refine ⟨A, c, h1, h2, fun h0 => ?_⟩
  obtain ⟨g, off, h4, h5⟩ := h3 h0
  refine ⟨g, off, h4, fun i e he => ?_⟩
  obtain ⟨kv, vv, a, b, ⟨q1, c1⟩, ⟨q2, c2⟩⟩ := h5 i e he
  exact ⟨kv, vv, fr_keep hf a, fr_keep hf b, ⟨q1, c1.fr hf (by simp)⟩, ⟨q2, c2.fr hf (by simp)⟩⟩
theorem EnSl.of_row {D : Nat → Prop} {w : World} {base : Nat} {t : TypeId} {v : Value} {E : En} {cs : List Value} (h : w.ownsRow base t 2 v E.length cs) (he : EntsC D w E cs) : EnSl w v E := by
  obtain ⟨A, c, rfl, hc, _⟩ := own_shape h
  refine ⟨A, c, rfl, hc, fun h0 => ?_⟩
  obtain ⟨g, rfl, hcell⟩ := own_cell h h0
  refine ⟨g, 0, rfl, fun i e hie => ?_⟩
  obtain ⟨kv, vv, a, b, ⟨⟨q1, c1, _⟩, ⟨q2, c2, _⟩⟩⟩ := he.at_ hie
  exact ⟨kv, vv, by rw [Nat.zero_add]; exact hcell _ _ a, by rw [Nat.zero_add]; exact hcell _ _ b, ⟨q1, c1⟩, ⟨q2, c2⟩⟩
theorem info_re : (Tryz.prog.info? 97).map (fun i => (i.zero, i.size, i.bytes)) = some (some (.agg #[.slice none 0 0, .slice none 0 0]), 2, 48) := by kernel_rfl
set_option maxRecDepth 100000 in
set_option maxHeartbeats 4000000 in
/-- Entries as the document's. -/
theorem theirs_any {w : World} {v : Value} {E : En} (h : EnSl w v E) (hfew : E.length ≤ 1000000) :
    Calls Tryz.prog 13 #[v] w fun e w' => ∃ v', e = .returned v' ∧ EnSl w' v' E ∧ Fr [] w w' := by
  obtain ⟨A, c, rfl, hc, hel⟩ := h
  have HEL := Lib.hid hel
  clear hel hc
  refine calls_post fun R HQ => ?_
  go_enter Tryz.func13, Tryz.ntmps13
  go_wp2_with fail
  go_loopw [3, 4] (fun v3 v4 wr => ∃ (i : Nat) (cs : List Value), i ≤ E.length ∧ v4 = .int .i64 (i : Int) ∧ wr.ownsRow w.heap.size 97 2 v3 i cs ∧ EntsC (fun q => q < w.heap.size) wr (E.take i) cs ∧ Fr [] w wr) (fun _ v4 _ => E.length - (intOf v4).toNat)
  case atStart => exact ⟨0, [], Nat.zero_le _, rfl, own_nil _ _ _ _, trivial, Fr.refl _ _⟩
  case round =>
    obtain ⟨i, cs, hil, rfl, hrow, hents, hfr⟩ := hrel
    obtain ⟨Ao, co, rfl, _⟩ := own_shape hrow
    have HROW := Lib.hid hrow; have HENTS := Lib.hid hents; have HFR := Lib.hid hfr
    clear hrow hents hfr
    by_cases hi : i < E.length
    · obtain ⟨x, hx⟩ : ∃ x, E[i]? = some x := ⟨_, List.getElem?_eq_getElem hi⟩
      obtain ⟨g, off, hA, hg⟩ := HEL.out (by omega)
      subst hA
      obtain ⟨kv, vv, c0, c1, ⟨q1, b1⟩, ⟨q2, b2⟩⟩ := hg i x hx
      have hgl := cell_lt c0
      have hee := Lib.hid (show EntC (fun q => q < w.heap.size) w x kv vv from ⟨BytesAt.re (D := fun _ => True) ⟨q1, b1, trivial⟩ (fun q _ hl => hl) ⟨g, hgl⟩, BytesAt.re (D := fun _ => True) ⟨q2, b2, trivial⟩ (fun q _ hl => hl) ⟨g, hgl⟩⟩)
      have HGL := Lib.hid hgl
      clear hgl
      obtain ⟨Ak, ck, ok, rfl, hck, hak⟩ := id b1
      obtain ⟨Aw, cw, ow, rfl, hcw, haw⟩ := id b2
      have hfd : Fr [] w wr.drew := HFR.out.drew
      have k0 := fr_keep hfd c0
      have k1 := fr_keep hfd c1
      have HB1 := Lib.hid (b1.fr hfd (by simp)); have HB2 := Lib.hid (b2.fr hfd (by simp)); have HXX := Lib.hid hx
      have HR2 := Lib.hid (own_fr HROW.out ((Fr.refl [] wr).drew) (by simp)); have HE2 := Lib.hid (HENTS.out.fr ((Fr.refl [] wr).drew) (by simp))
      have hiI : (i : Int) < (E.length : Int) := by omega
      have hwi : IntKind.i64.wrap ((i : Int) + 1) = (i : Int) + 1 := by rw [IntKind.wrap_i64]; omega
      have HSZ : Hid (w.heap.size ≤ wr.heap.size) := Lib.hid HFR.out.size
      clear hx hg c0 c1 b1 b2 hck hak hcw haw hfd
      go_upto_region 5 with fail
      refine wp_region_K (fun W => W.cell? ⟨g, off + i * 2, none⟩ = some (.slice Ak x.1.length ck) ∧ W.cell? ⟨g, off + i * 2 + 1, none⟩ = some (.slice Aw x.2.length cw)) [0, 1, 2, 3, 4, 5, 6, 7, 8, 9, 10, 11] (by kernel_rfl) ?_
      refine wpAnyK_take (i := 0) (some 11) ?vq1_0 rfl rfl (by kernel_rfl) (fun _ _ _ h => h) ⟨k0, k1⟩ (.inl ⟨rfl, fun W hW => ?yq1_0⟩) ?_
      case yq1_0 => (obtain ⟨q0, q1⟩ := hW; go_simp) <;> with_reducible rfl
      simp only [nrm]
      refine wpAnyK_take (i := 1) (some 12) ?vq1_1 rfl rfl (by kernel_rfl) (fun _ _ _ h => h) ⟨k0, k1⟩ (.inl ⟨rfl, fun W hW => ?yq1_1⟩) ?_
      case yq1_1 => (obtain ⟨q0, q1⟩ := hW; go_simp) <;> with_reducible rfl
      simp only [nrm]
      refine wpAnyK_take (i := 2) (some 13) ?vq1_2 rfl rfl (by kernel_rfl) (fun _ _ _ h => h) ⟨k0, k1⟩ (.inl ⟨rfl, fun W hW => ?yq1_2⟩) ?_
      case yq1_2 => (obtain ⟨q0, q1⟩ := hW; go_simp) <;> with_reducible rfl
      simp only [nrm]
      refine wpAnyK_take (i := 3) (some 14) ?vq1_3 rfl rfl (by kernel_rfl) (fun _ _ _ h => h) ⟨k0, k1⟩ (.inl ⟨rfl, fun W hW => ?yq1_3⟩) ?_
      case yq1_3 => (obtain ⟨q0, q1⟩ := hW; go_simp) <;> with_reducible rfl
      simp only [nrm]
      refine wpAnyK_take (i := 4) (some 15) ?vq1_4 rfl rfl (by kernel_rfl) (fun _ _ _ h => h) ⟨k0, k1⟩ (.inl ⟨rfl, fun W hW => ?yq1_4⟩) ?_
      case yq1_4 => (obtain ⟨q0, q1⟩ := hW; go_simp) <;> with_reducible rfl
      simp only [nrm]
      refine wpAnyK_take (i := 5) (some 16) ?vq1_5 rfl rfl (by kernel_rfl) (fun _ _ _ h => h) ⟨k0, k1⟩ (.inl ⟨rfl, fun W hW => ?yq1_5⟩) ?_
      case yq1_5 => (obtain ⟨q0, q1⟩ := hW; go_simp) <;> with_reducible rfl
      simp only [nrm]
      refine wpAnyK_take (i := 6) (some 17) ?vq1_6 rfl rfl (by kernel_rfl) (fun _ _ _ h => h) ⟨k0, k1⟩ (.inl ⟨rfl, fun W hW => ?yq1_6⟩) ?_
      case yq1_6 => (obtain ⟨q0, q1⟩ := hW; go_simp) <;> with_reducible rfl
      simp only [nrm]
      refine wpAnyK_take (i := 7) (some 18) ?vq1_7 rfl rfl (by kernel_rfl) (fun _ _ _ h => h) ⟨k0, k1⟩ (.inl ⟨rfl, fun W hW => ?yq1_7⟩) ?_
      case yq1_7 => (obtain ⟨q0, q1⟩ := hW; go_simp) <;> with_reducible rfl
      simp only [nrm]
      refine wpAnyK_take (i := 8) (some 19) ?vq1_8 rfl rfl (by kernel_rfl) (fun _ _ _ h => h) ⟨k0, k1⟩ (.inl ⟨rfl, fun W hW => ?yq1_8⟩) ?_
      case yq1_8 => (obtain ⟨q0, q1⟩ := hW; go_simp) <;> with_reducible rfl
      simp only [nrm]
      refine wpAnyK_take (i := 9) (some 20) ?vq1_9 rfl rfl (by kernel_rfl) (fun _ _ _ h => h) ⟨k0, k1⟩ (.inl ⟨rfl, fun W hW => ?yq1_9⟩) ?_
      case yq1_9 => (obtain ⟨q0, q1⟩ := hW; go_simp) <;> with_reducible rfl
      simp only [nrm]
      refine wpAnyK_take (i := 10) (some 21) ?vq1_10 rfl rfl (by kernel_rfl) (fun _ _ _ h => h) ⟨k0, k1⟩ (.inl ⟨rfl, fun W hW => ?yq1_10⟩) ?_
      case yq1_10 => (obtain ⟨q0, q1⟩ := hW; go_simp) <;> with_reducible rfl
      simp only [nrm]
      refine wpAnyK_take (i := 11) (some 22) (.agg #[.slice Ak x.1.length ck, .slice Aw x.2.length cw]) rfl rfl (by kernel_rfl) (fun _ _ _ h => h) ⟨k0, k1⟩ (.inl ⟨rfl, fun W hW => by go_simp⟩) ?_
      simp only [nrm]
      obtain ⟨wx, hwx⟩ : ∃ wx, wx = wr.drew.alloc (.cells ([.slice Ak x.1.length ck, .slice Aw x.2.length cw] : List Value).toArray 97) := ⟨_, rfl⟩
      have hfx : Fr [] wr.drew wx := by rw [hwx]; exact (Fr.refl [] _).alloc _
      have hbx : Blk wx wr.drew.heap.size 97 [.slice Ak x.1.length ck, .slice Aw x.2.length cw] := by rw [hwx]; exact Blk.new wr.drew _ [.slice Ak x.1.length ck, .slice Aw x.2.length cw]
      obtain ⟨te, hte, hez, hes, heb⟩ := info_get info_re
      have z0 := fr_keep hfx k0
      have z1 := fr_keep hfx k1
      refine wpAnyK_step (j := 12) (some 23) rfl rfl (by kernel_rfl) rfl fun K hK => ?_
      refine wp_build_one (.tmp 22) rfl Tryz.underlying35 hte hez [.slice Ak x.1.length ck, .slice Aw x.2.length cw] rfl hes rfl (by simp) (by simp) (hK _ _ (fun _ => by rw [← hwx]; exact ⟨z0, z1⟩) ?_)
      simp only [nrm]
      rw [← hwx]
      clear hK hwx
      have hr3 := own_fr HR2.out hfx (by simp)
      refine wpAnyK_step (j := 13) (some 24) rfl rfl (by kernel_rfl) rfl fun K hK => ?_
      refine wp_append_any (.tmp 11) (.tmp 23) rfl 97 2 48 Tryz.underlying35 hte hez hes heb rfl (by omega) Ao i co cs rfl (own_base hr3 (fun _ _ => Nat.zero_le _)) (some ⟨wr.drew.heap.size, 0, none⟩) 1 1 [.slice Ak x.1.length ck, .slice Aw x.2.length cw] rfl rfl (fun _ => ⟨_, rfl, fun j u hu => by rw [Addr.add_mid, Nat.zero_add]; exact hbx.at_ hu⟩) (by intro u hu; simp at hu; rcases hu with rfl | rfl <;> rfl) (by unfold maxLen; omega) (by omega) wx.heap.size rfl fun A' cap wz howz hfz hqz => ?_
      have hno : ∀ q, (Value.slice Ao i co).ownBlock = some q → w.heap.size ≤ q := fun q hq => (HROW.out.lt q hq).1
      have hgn : g ∉ (Value.slice Ao i co).ownBlock.toList := fun hm => by have := hno g (by simpa using hm); have := HGL.out; omega
      refine hK _ _ (fun _ => ⟨fr_keepS hfz hgn z0, fr_keepS hfz hgn z1⟩) ?_
      simp only [nrm]
      clear hK
      refine wpAnyK_step (j := 14) (some 3) rfl rfl (by kernel_rfl) rfl fun K hK => ?_
      refine wp_run_same (v := ?aq1_14) ?yq1_14 (hK _ _ (fun _ => ⟨fr_keepS hfz hgn z0, fr_keepS hfz hgn z1⟩) ?_)
      case yq1_14 => go_simp <;> with_reducible rfl
      simp only [nrm]
      refine wpAnyK_done (by kernel_rfl) ?_ _
      have hoff : ∀ q, q < w.heap.size → q ∈ (Value.slice Ao i co).ownBlock.toList → wx.heap.size ≤ q := fun q hq hm => by have := hno q (by simpa using hm); omega
      have hfwx : Fr [] w wx := (HFR.out.drew).trans hfx (by simp)
      have hee2 : EntC (fun q => q < w.heap.size) wx x (.slice Ak x.1.length ck) (.slice Aw x.2.length cw) := by
        obtain ⟨⟨a1, a2, a3⟩, ⟨a4, a5, a6⟩⟩ := hee.out
        exact ⟨⟨a1, a2.fr hfwx (by simp), a3⟩, ⟨a4, a5.fr hfwx (by simp), a6⟩⟩
      have hnew := (((HE2.out.fr hfx (by simp)).snoc hee2).fr hfz hoff)
      have HX : Hid (∃ (j : Nat) (cs : List Value), j ≤ E.length ∧ Value.int .i64 ((i : Int) + 1) = .int .i64 (j : Int) ∧ wz.ownsRow w.heap.size 97 2 (.slice A' (i + 1) cap) j cs ∧ EntsC (fun q => q < w.heap.size) wz (E.take j) cs ∧ Fr [] w wz) := Lib.hid ⟨i + 1, _, hi, rfl, own_base howz (fun q hq => by
        have h1 := HSZ.out
        have h2 := hfx.size
        rcases hqz q hq with h | h
        · exact hno q h
        · have h3 : wr.drew.heap.size = wr.heap.size := rfl
          omega), by rw [take_one HXX.out]; exact hnew, hfwx.trans hfz fun q hq => .inr (hno q (by simpa using hq))⟩
      clear hnew hee2 hfwx hoff hgn hno howz hfz hqz z0 z1 hr3 hbx hfx k0 k1 hte hez hes heb
      go_wp2_with fail
      go_roundw
      case rel => exact HX.out
      case measure => simp [intOf]; omega
    · obtain rfl : i = E.length := by omega
      have hsl : EnSl wr (.slice Ao E.length co) E := by
        have := HENTS.out
        rw [List.take_length] at this
        exact EnSl.of_row HROW.out this
      have HX := Lib.hid (HQ.out _ _ ⟨_, rfl, hsl, HFR.out⟩)
      clear hsl
      go_wp2_with fail
      exact HX.out
set_option maxRecDepth 100000 in
set_option maxHeartbeats 4000000 in
/-- The same entries are the same. -/
theorem same_any {w : World} {va vb : Value} {E : En} (ha : EnSl w va E) (hb : EnSl w vb E) (hfew : E.length ≤ 1000000) :
    Calls Tryz.prog 12 #[va, vb] w fun e w' => e = .returned (.bool true) ∧ Fr [] w w' := by
  obtain ⟨A, c, rfl, hc, hel⟩ := ha
  obtain ⟨B, d, rfl, hd, hbl⟩ := hb
  have HA := Lib.hid hel; have HB := Lib.hid hbl
  clear hel hc hbl hd
  refine calls_post fun R HQ => ?_
  go_enter Tryz.func12, Tryz.ntmps12
  go_wp2_with fail
  go_loopw [5] (fun v5 wr => ∃ i : Nat, i ≤ E.length ∧ v5 = .int .i64 (i : Int) ∧ Fr [] w wr) (fun v5 _ => E.length - (intOf v5).toNat)
  case atStart => exact ⟨0, Nat.zero_le _, rfl, Fr.refl _ _⟩
  case round =>
    obtain ⟨i, hil, rfl, hfr⟩ := hrel
    have HFR := Lib.hid hfr
    clear hfr
    by_cases hi : i < E.length
    · obtain ⟨x, hx⟩ : ∃ x, E[i]? = some x := ⟨_, List.getElem?_eq_getElem hi⟩
      obtain ⟨g, off, hA, hg⟩ := HA.out (by omega)
      subst hA
      obtain ⟨k, o2, hB, hg2⟩ := HB.out (by omega)
      subst hB
      obtain ⟨ka, va, c0, c1, ⟨q1, b1⟩, ⟨q2, b2⟩⟩ := hg i x hx
      obtain ⟨kb, vb, c2, c3, ⟨q3, b3⟩, ⟨q4, b4⟩⟩ := hg2 i x hx
      have hfd : Fr [] w wr.drew := HFR.out.drew
      have k0 := fr_keep hfd c0
      have k1 := fr_keep hfd c1
      have k2 := fr_keep hfd c2
      have k3 := fr_keep hfd c3
      have e1 := b1.fr hfd (by simp)
      have e2 := b2.fr hfd (by simp)
      have e3 := b3.fr hfd (by simp)
      have e4 := b4.fr hfd (by simp)
      have HFD := Lib.hid hfd
      have hiI : (i : Int) < (E.length : Int) := by omega
      have hwi : IntKind.i64.wrap ((i : Int) + 1) = (i : Int) + 1 := by rw [IntKind.wrap_i64]; omega
      clear hx hg hg2 c0 c1 c2 c3 b1 b2 b3 b4 hfd
      go_upto_region 6 with fail
      refine wp_region_K (fun W => W.cell? ⟨g, off + i * 2, none⟩ = some ka ∧ W.cell? ⟨g, off + i * 2 + 1, none⟩ = some va ∧ W.cell? ⟨k, o2 + i * 2, none⟩ = some kb ∧ W.cell? ⟨k, o2 + i * 2 + 1, none⟩ = some vb ∧ BytesAt W ka x.1 q1 ∧ BytesAt W va x.2 q2 ∧ BytesAt W kb x.1 q3 ∧ BytesAt W vb x.2 q4) [0, 1, 2, 3, 4, 5, 6, 7, 8, 9, 10, 11, 12, 13, 14, 15, 16, 17, 18, 19, 20, 21, 22, 23, 24, 25, 26, 27] (by kernel_rfl) ?_
      refine wpAnyK_take (i := 0) (some 17) ?vq2_0 rfl rfl (by kernel_rfl) (fun _ _ _ h => h) ⟨k0, k1, k2, k3, e1, e2, e3, e4⟩ (.inl ⟨rfl, fun W hW => ?yq2_0⟩) ?_
      case yq2_0 => (obtain ⟨y0, y1, y2, y3, _⟩ := hW; go_simp) <;> with_reducible rfl
      simp only [nrm]
      refine wpAnyK_take (i := 1) (some 18) ?vq2_1 rfl rfl (by kernel_rfl) (fun _ _ _ h => h) ⟨k0, k1, k2, k3, e1, e2, e3, e4⟩ (.inl ⟨rfl, fun W hW => ?yq2_1⟩) ?_
      case yq2_1 => (obtain ⟨y0, y1, y2, y3, _⟩ := hW; go_simp) <;> with_reducible rfl
      simp only [nrm]
      refine wpAnyK_take (i := 2) (some 19) ?vq2_2 rfl rfl (by kernel_rfl) (fun _ _ _ h => h) ⟨k0, k1, k2, k3, e1, e2, e3, e4⟩ (.inl ⟨rfl, fun W hW => ?yq2_2⟩) ?_
      case yq2_2 => (obtain ⟨y0, y1, y2, y3, _⟩ := hW; go_simp) <;> with_reducible rfl
      simp only [nrm]
      refine wpAnyK_take (i := 3) (some 20) ?vq2_3 rfl rfl (by kernel_rfl) (fun _ _ _ h => h) ⟨k0, k1, k2, k3, e1, e2, e3, e4⟩ (.inl ⟨rfl, fun W hW => ?yq2_3⟩) ?_
      case yq2_3 => (obtain ⟨y0, y1, y2, y3, _⟩ := hW; go_simp) <;> with_reducible rfl
      simp only [nrm]
      refine wpAnyK_take (i := 4) (some 21) ?vq2_4 rfl rfl (by kernel_rfl) (fun _ _ _ h => h) ⟨k0, k1, k2, k3, e1, e2, e3, e4⟩ (.inl ⟨rfl, fun W hW => ?yq2_4⟩) ?_
      case yq2_4 => (obtain ⟨y0, y1, y2, y3, _⟩ := hW; go_simp) <;> with_reducible rfl
      simp only [nrm]
      refine wpAnyK_take (i := 5) (some 22) (.string ⟨x.1.toArray⟩) rfl rfl (by kernel_rfl) (fun _ _ _ h => h) ⟨k0, k1, k2, k3, e1, e2, e3, e4⟩ (.inl ⟨rfl, fun W' hW => by have := run_string_of (P := Tryz.prog) (src := 23) (dst := 9) Tryz.underlying23 Tryz.underlying5 Tryz.underlying9 hW.2.2.2.2.1; simp [execOp, Act.eval, Result.andThen, this]⟩) ?_
      simp only [nrm]
      refine wpAnyK_take (i := 6) (some 23) ?vq2_6 rfl rfl (by kernel_rfl) (fun _ _ _ h => h) ⟨k0, k1, k2, k3, e1, e2, e3, e4⟩ (.inl ⟨rfl, fun W hW => ?yq2_6⟩) ?_
      case yq2_6 => (obtain ⟨y0, y1, y2, y3, _⟩ := hW; go_simp) <;> with_reducible rfl
      simp only [nrm]
      refine wpAnyK_take (i := 7) (some 24) ?vq2_7 rfl rfl (by kernel_rfl) (fun _ _ _ h => h) ⟨k0, k1, k2, k3, e1, e2, e3, e4⟩ (.inl ⟨rfl, fun W hW => ?yq2_7⟩) ?_
      case yq2_7 => (obtain ⟨y0, y1, y2, y3, _⟩ := hW; go_simp) <;> with_reducible rfl
      simp only [nrm]
      refine wpAnyK_take (i := 8) (some 25) ?vq2_8 rfl rfl (by kernel_rfl) (fun _ _ _ h => h) ⟨k0, k1, k2, k3, e1, e2, e3, e4⟩ (.inl ⟨rfl, fun W hW => ?yq2_8⟩) ?_
      case yq2_8 => (obtain ⟨y0, y1, y2, y3, _⟩ := hW; go_simp) <;> with_reducible rfl
      simp only [nrm]
      refine wpAnyK_take (i := 9) (some 26) ?vq2_9 rfl rfl (by kernel_rfl) (fun _ _ _ h => h) ⟨k0, k1, k2, k3, e1, e2, e3, e4⟩ (.inl ⟨rfl, fun W hW => ?yq2_9⟩) ?_
      case yq2_9 => (obtain ⟨y0, y1, y2, y3, _⟩ := hW; go_simp) <;> with_reducible rfl
      simp only [nrm]
      refine wpAnyK_take (i := 10) (some 27) ?vq2_10 rfl rfl (by kernel_rfl) (fun _ _ _ h => h) ⟨k0, k1, k2, k3, e1, e2, e3, e4⟩ (.inl ⟨rfl, fun W hW => ?yq2_10⟩) ?_
      case yq2_10 => (obtain ⟨y0, y1, y2, y3, _⟩ := hW; go_simp) <;> with_reducible rfl
      simp only [nrm]
      refine wpAnyK_take (i := 11) (some 28) (.string ⟨x.1.toArray⟩) rfl rfl (by kernel_rfl) (fun _ _ _ h => h) ⟨k0, k1, k2, k3, e1, e2, e3, e4⟩ (.inl ⟨rfl, fun W' hW => by have := run_string_of (P := Tryz.prog) (src := 23) (dst := 9) Tryz.underlying23 Tryz.underlying5 Tryz.underlying9 hW.2.2.2.2.2.2.1; simp [execOp, Act.eval, Result.andThen, this]⟩) ?_
      simp only [nrm]
      refine wpAnyK_take (i := 12) (some 29) (.bool false) rfl rfl (by kernel_rfl) (fun _ _ _ h => h) ⟨k0, k1, k2, k3, e1, e2, e3, e4⟩ (.inl ⟨rfl, fun W' _ => by simp [execOp, Act.eval, go_sem]⟩) ?_
      simp only [nrm]
      refine wpAnyK_take (i := 13) (some 30) ?vq2_13 rfl rfl (by kernel_rfl) (fun _ _ _ h => h) ⟨k0, k1, k2, k3, e1, e2, e3, e4⟩ (.inl ⟨rfl, fun W hW => ?yq2_13⟩) ?_
      case yq2_13 => (obtain ⟨y0, y1, y2, y3, _⟩ := hW; go_simp) <;> with_reducible rfl
      simp only [nrm]
      refine wpAnyK_take (i := 14) (some 31) ?vq2_14 rfl rfl (by kernel_rfl) (fun _ _ _ h => h) ⟨k0, k1, k2, k3, e1, e2, e3, e4⟩ (.inl ⟨rfl, fun W hW => ?yq2_14⟩) ?_
      case yq2_14 => (obtain ⟨y0, y1, y2, y3, _⟩ := hW; go_simp) <;> with_reducible rfl
      simp only [nrm]
      refine wpAnyK_take (i := 15) (some 32) ?vq2_15 rfl rfl (by kernel_rfl) (fun _ _ _ h => h) ⟨k0, k1, k2, k3, e1, e2, e3, e4⟩ (.inl ⟨rfl, fun W hW => ?yq2_15⟩) ?_
      case yq2_15 => (obtain ⟨y0, y1, y2, y3, _⟩ := hW; go_simp) <;> with_reducible rfl
      simp only [nrm]
      refine wpAnyK_take (i := 16) (some 33) ?vq2_16 rfl rfl (by kernel_rfl) (fun _ _ _ h => h) ⟨k0, k1, k2, k3, e1, e2, e3, e4⟩ (.inl ⟨rfl, fun W hW => ?yq2_16⟩) ?_
      case yq2_16 => (obtain ⟨y0, y1, y2, y3, _⟩ := hW; go_simp) <;> with_reducible rfl
      simp only [nrm]
      refine wpAnyK_take (i := 17) (some 34) ?vq2_17 rfl rfl (by kernel_rfl) (fun _ _ _ h => h) ⟨k0, k1, k2, k3, e1, e2, e3, e4⟩ (.inl ⟨rfl, fun W hW => ?yq2_17⟩) ?_
      case yq2_17 => (obtain ⟨y0, y1, y2, y3, _⟩ := hW; go_simp) <;> with_reducible rfl
      simp only [nrm]
      refine wpAnyK_take (i := 18) (some 35) ?vq2_18 rfl rfl (by kernel_rfl) (fun _ _ _ h => h) ⟨k0, k1, k2, k3, e1, e2, e3, e4⟩ (.inl ⟨rfl, fun W hW => ?yq2_18⟩) ?_
      case yq2_18 => (obtain ⟨y0, y1, y2, y3, _⟩ := hW; go_simp) <;> with_reducible rfl
      simp only [nrm]
      refine wpAnyK_take (i := 19) (some 36) (.string ⟨x.2.toArray⟩) rfl rfl (by kernel_rfl) (fun _ _ _ h => h) ⟨k0, k1, k2, k3, e1, e2, e3, e4⟩ (.inl ⟨rfl, fun W' hW => by have := run_string_of (P := Tryz.prog) (src := 23) (dst := 9) Tryz.underlying23 Tryz.underlying5 Tryz.underlying9 hW.2.2.2.2.2.1; simp [execOp, Act.eval, Result.andThen, this]⟩) ?_
      simp only [nrm]
      refine wpAnyK_take (i := 20) (some 37) ?vq2_20 rfl rfl (by kernel_rfl) (fun _ _ _ h => h) ⟨k0, k1, k2, k3, e1, e2, e3, e4⟩ (.inl ⟨rfl, fun W hW => ?yq2_20⟩) ?_
      case yq2_20 => (obtain ⟨y0, y1, y2, y3, _⟩ := hW; go_simp) <;> with_reducible rfl
      simp only [nrm]
      refine wpAnyK_take (i := 21) (some 38) ?vq2_21 rfl rfl (by kernel_rfl) (fun _ _ _ h => h) ⟨k0, k1, k2, k3, e1, e2, e3, e4⟩ (.inl ⟨rfl, fun W hW => ?yq2_21⟩) ?_
      case yq2_21 => (obtain ⟨y0, y1, y2, y3, _⟩ := hW; go_simp) <;> with_reducible rfl
      simp only [nrm]
      refine wpAnyK_take (i := 22) (some 39) ?vq2_22 rfl rfl (by kernel_rfl) (fun _ _ _ h => h) ⟨k0, k1, k2, k3, e1, e2, e3, e4⟩ (.inl ⟨rfl, fun W hW => ?yq2_22⟩) ?_
      case yq2_22 => (obtain ⟨y0, y1, y2, y3, _⟩ := hW; go_simp) <;> with_reducible rfl
      simp only [nrm]
      refine wpAnyK_take (i := 23) (some 40) ?vq2_23 rfl rfl (by kernel_rfl) (fun _ _ _ h => h) ⟨k0, k1, k2, k3, e1, e2, e3, e4⟩ (.inl ⟨rfl, fun W hW => ?yq2_23⟩) ?_
      case yq2_23 => (obtain ⟨y0, y1, y2, y3, _⟩ := hW; go_simp) <;> with_reducible rfl
      simp only [nrm]
      refine wpAnyK_take (i := 24) (some 41) ?vq2_24 rfl rfl (by kernel_rfl) (fun _ _ _ h => h) ⟨k0, k1, k2, k3, e1, e2, e3, e4⟩ (.inl ⟨rfl, fun W hW => ?yq2_24⟩) ?_
      case yq2_24 => (obtain ⟨y0, y1, y2, y3, _⟩ := hW; go_simp) <;> with_reducible rfl
      simp only [nrm]
      refine wpAnyK_take (i := 25) (some 42) (.string ⟨x.2.toArray⟩) rfl rfl (by kernel_rfl) (fun _ _ _ h => h) ⟨k0, k1, k2, k3, e1, e2, e3, e4⟩ (.inl ⟨rfl, fun W' hW => by have := run_string_of (P := Tryz.prog) (src := 23) (dst := 9) Tryz.underlying23 Tryz.underlying5 Tryz.underlying9 hW.2.2.2.2.2.2.2; simp [execOp, Act.eval, Result.andThen, this]⟩) ?_
      simp only [nrm]
      refine wpAnyK_take (i := 26) (some 43) (.bool false) rfl rfl (by kernel_rfl) (fun _ _ _ h => h) ⟨k0, k1, k2, k3, e1, e2, e3, e4⟩ (.inl ⟨rfl, fun W' _ => by simp [execOp, Act.eval, go_sem]⟩) ?_
      simp only [nrm]
      refine wpAnyK_take (i := 27) (some 44) ?vq2_27 rfl rfl (by kernel_rfl) (fun _ _ _ h => h) ⟨k0, k1, k2, k3, e1, e2, e3, e4⟩ (.inl ⟨rfl, fun W hW => ?yq2_27⟩) ?_
      case yq2_27 => (obtain ⟨y0, y1, y2, y3, _⟩ := hW; go_simp) <;> with_reducible rfl
      simp only [nrm]
      refine wpAnyK_done (by kernel_rfl) ?_ _
      have HX : Hid (∃ j : Nat, j ≤ E.length ∧ Value.int .i64 ((i : Int) + 1) = .int .i64 (j : Int) ∧ Fr [] w wr.drew) := Lib.hid ⟨i + 1, hi, rfl, HFD.out⟩
      clear k0 k1 k2 k3 e1 e2 e3 e4
      go_wp2_with fail
      go_roundw
      case rel => exact HX.out
      case measure => simp [intOf]; omega
    · obtain rfl : i = E.length := by omega
      have HX := Lib.hid (HQ.out _ _ ⟨rfl, HFR.out⟩)
      go_wp2_with fail
      exact HX.out
end Go.Proofs.YtpjbdpepofnleaaGreat
end
section
namespace Go.Proofs.YtpjbdpepofnleaaGreat
open Go.RowKit Go.ChangeMaps Go.MapKept Go.Maps Go.Sort Go.Shelf
set_option maxRecDepth 100000 in
set_option maxHeartbeats 1000000 in
/-- A tree or a key that may not be is not put. -/
theorem Put_bad {w : World} {st gk : Nat} {t : Int} {kv vv : Value} {key : Ky} (hk : BytesAt w kv key gk) (hm : mayB t key = false) :
    Calls Tryz.prog 10 #[.pointer (some ⟨st, 0, none⟩), .int .i64 t, kv, vv] w fun e w' => e = .returned (.int .i64 1) ∧ w = w' := by
  have HMAY := Lib.hid (may_any t hk)
  rw [hm] at HMAY
  refine calls_post fun R HQ => ?_
  have HX := Lib.hid (HQ.out _ _ ⟨rfl, rfl⟩)
  clear hm hk
  go_enter Tryz.func10, Tryz.ntmps10
  go_wp2_with fail
  refine HMAY.out.mono ?_
  rintro e w1 ⟨rfl, rfl⟩
  go_wp2_with fail
  exact HX.out
theorem split_two {a b c : Ky} (hab : ¬ klt b a) (hbc : ¬ klt c b) : ∀ {E : En}, Rise E → E.filter (inB a (some b)) ++ E.filter (inB b (some c)) = E.filter (inB a (some c))
  | [], _ => rfl
  | e :: E, hr => by
    obtain ⟨h1, h2⟩ := List.pairwise_cons.1 hr
    have ih := split_two hab hbc h2
    have i1 : inB a (some b) e = (!decide (klt e.1 a) && decide (klt e.1 b)) := by unfold inB pastB; simp
    have i2 : inB b (some c) e = (!decide (klt e.1 b) && decide (klt e.1 c)) := by unfold inB pastB; simp
    have i3 : inB a (some c) e = (!decide (klt e.1 a) && decide (klt e.1 c)) := by unfold inB pastB; simp
    rw [List.filter_cons, List.filter_cons, List.filter_cons, i1, i2, i3]
    by_cases hb : klt e.1 b
    · have hc : klt e.1 c := klt_le_trans hb hbc
      by_cases ha : klt e.1 a
      · simp only [ha, hb, hc, decide_true, Bool.not_true, Bool.false_and, Bool.false_eq_true, if_false]
        exact ih
      · simp only [ha, hb, hc, decide_true, decide_false, Bool.not_true, Bool.not_false, Bool.true_and, Bool.false_and, Bool.false_eq_true, if_false, if_true]
        rw [List.cons_append, ih]
    · have ha : ¬ klt e.1 a := fun h => hb (klt_le_trans h hab)
      have hz : E.filter (inB a (some b)) = [] := List.filter_eq_nil_iff.2 fun x hx => by
        have h3 := h1 x hx
        have h4 : ¬ klt x.1 b := fun h => hb (klt_trans h3 h)
        unfold inB pastB
        simp [h4]
      rw [hz] at ih ⊢
      simp only [ha, hb, decide_false, Bool.not_false, Bool.true_and, Bool.and_false, Bool.false_eq_true, if_false]
      rw [List.nil_append] at ih ⊢
      rw [ih]
theorem stx_rise {w0 w : World} {dk g st t : Nat} {s : PS} {X : Nat → Prop} {E : Nat → En} (h : StX w0 w dk g st s X E) (ht : t < 8) : Rise (E t) := by
  obtain ⟨_, _, P, F, hF⟩ := h.store
  rcases hF.tree t ht with ⟨_, h, _⟩ | ⟨_, hh, hs⟩
  · rw [h]; exact List.Pairwise.nil
  · exact (Sub.fine.all _ _ _ _ _ hs).1
end Go.Proofs.YtpjbdpepofnleaaGreat
end
section
namespace Go.Proofs.YtpjbdpepofnleaaGreat
open Go.RowKit Go.ChangeMaps Go.MapKept Go.Maps Go.Sort Go.Shelf
section
variable {P : Program} {o : Oper} {a : Act} {w : World} {K : Act → World → Prop} {Q : Exit → Act → World → Prop}
theorem run_build_none {t e : TypeId} {i : TypeInfo} (ht : P.underlying t = some (.slice e)) (hi : P.info? e = some i) :
    (Instr.buildSlice t 0 #[]).run P w = .ok (.slice (some ⟨w.heap.size, 0, none⟩) 0 0) (w.alloc (.cells #[] e)) := by
  have h0 : Array.range 0 = #[] := Array.eq_empty_of_size_eq_zero (by simp)
  simp [Instr.buildSlice, run_underlying ht, sizeOf, typeInfo, hi, newRow, Instr.fill, h0]
theorem wp_build_none {t e : TypeId} (ho : o.op = .buildSlice t 0 #[]) {i : TypeInfo} (ht : P.underlying t = some (.slice e)) (hi : P.info? e = some i)
    (h : K (a.put o.dst (.slice (some ⟨w.heap.size, 0, none⟩) 0 0)) (w.alloc (.cells #[] e))) : Oper.wp P o a w K Q := by
  have hrun := run_build_none (P := P) (w := w) ht hi
  refine wp_run_value (v := .slice (some ⟨w.heap.size, 0, none⟩) 0 0) (w' := w.alloc (.cells #[] e)) ?_ h
  simp [execOp, ho, hrun, Result.andThen]
end
theorem EntsC.app {D : Nat → Prop} {w : World} {F : En} {ds : List Value} (hF : EntsC D w F ds) : ∀ {E : En} {cs : List Value}, EntsC D w E cs → EntsC D w (E ++ F) (cs ++ ds)
  | [], [], _ => hF
  | _ :: _, _ :: _ :: _, h => ⟨h.1, EntsC.app hF h.2⟩
theorem EntsC.one {D : Nat → Prop} {w : World} : ∀ {E : En} {cs : List Value}, EntsC D w E cs → ∀ u ∈ cs, u.oneCell' = true
  | [], [], _ => fun u hu => by simp at hu
  | _ :: _, _ :: _ :: _, ⟨⟨⟨_, h1, _⟩, ⟨_, h2, _⟩⟩, h⟩ => fun u hu => by
    obtain ⟨_, _, _, rfl, _⟩ := h1
    obtain ⟨_, _, _, rfl, _⟩ := h2
    rcases List.mem_cons.1 hu with rfl | hu
    · rfl
    · rcases List.mem_cons.1 hu with rfl | hu
      · rfl
      · exact EntsC.one h u hu
def EnAcc (p : Nat) (w : World) (v : Value) (E : En) : Prop := ∃ cs, w.ownsRow p 39 2 v E.length cs ∧ EntsC (fun q => q < p) w E cs
theorem EnAcc.sl {p : Nat} {w : World} {v : Value} {E : En} (h : EnAcc p w v E) : EnSl w v E := by
  obtain ⟨cs, h1, h2⟩ := h
  exact EnSl.of_row h1 h2
def EnRow (w : World) (v : Value) (E : En) : Prop := ∃ cs, w.ownsRow 0 39 2 v E.length cs ∧ EntsC (fun _ => True) w E cs
theorem EnRow.fr {w w' : World} {v : Value} {E : En} (h : EnRow w v E) (hf : Fr [] w w') : EnRow w' v E := by
  obtain ⟨cs, h1, h2⟩ := h
  exact ⟨cs, own_fr h1 hf (by simp), h2.fr hf (by simp)⟩
theorem EnRow.sl {w : World} {v : Value} {E : En} (h : EnRow w v E) : EnSl w v E := by
  obtain ⟨cs, h1, h2⟩ := h
  exact EnSl.of_row h1 h2
theorem EnRow.shape {w : World} {v : Value} {E : En} (h : EnRow w v E) : ∃ A c, v = .slice A E.length c ∧ E.length ≤ c := by
  obtain ⟨A, c, h1, h2, _⟩ := h.sl
  exact ⟨A, c, h1, h2⟩
theorem EnSl.take {w : World} {A : Option Addr} {n c : Nat} {E : En} (h : EnSl w (.slice A n c) E) {m : Nat} (hm : m ≤ E.length) : EnSl w (.slice A m c) (E.take m) := by
  obtain ⟨A', c', h1, h2, h3⟩ := h
  injection h1 with h4 h5 h6
  subst h4; subst h5; subst h6
  refine ⟨A, c, by rw [List.length_take, Nat.min_eq_left hm], by rw [List.length_take]; omega, fun h0 => ?_⟩
  rw [List.length_take] at h0
  obtain ⟨g, off, h7, h8⟩ := h3 (by omega)
  refine ⟨g, off, h7, fun i e he => h8 i e ?_⟩
  rw [List.getElem?_take] at he
  split at he
  · exact he
  · cases he
theorem wp_append_en {o : Oper} {a : Act} {w w0 : World} {K : Act → World → Prop} {Q : Exit → Act → World → Prop} (s x : Operand) (ho : o.op = .call { callee := .builtin .append, args := #[s, x], argTypes := #[31, 31] })
    (h0 : 0 < w0.heap.size) (hf : Fr [] w0 w) {v1 v2 : Value} {E F : En} (hs : a.eval s = v1) (h1 : EnAcc w0.heap.size w v1 E) (hx : a.eval x = v2) (h2 : EnRow w0 v2 F) (hlen : E.length + F.length ≤ 1000000)
    (h : ∀ (G : En) A' c' w', G = E ++ F → EnAcc w0.heap.size w' (.slice A' G.length c') G → Fr [] w0 w' → K (a.put o.dst (.slice A' G.length c')) w') : Oper.wp Tryz.prog o a w K Q := by
  obtain ⟨te, hte, hez, hes, heb⟩ := info_get info_en
  obtain ⟨cs, hrow, hents⟩ := h1
  obtain ⟨ds, hrow2, hents2⟩ := id h2
  obtain ⟨A, c, rfl, _, _⟩ := own_shape hrow
  have h3 := h2.fr hf
  obtain ⟨B, d, rfl, _⟩ := h2.shape
  have hrow3 := own_fr hrow2 hf (by simp)
  have hd := hents2.len
  refine wp_append_any s x ho 39 2 48 Tryz.underlying31 hte hez hes heb rfl (by omega) A E.length c cs hs (own_base hrow (fun _ _ => Nat.zero_le _)) B F.length d ds hx (by omega) (fun hm => ?_) (hents2.one) (by unfold maxLen; omega) (by omega) w.heap.size rfl fun A' cap wz howz hfz hqz => ?_
  · obtain ⟨g, rfl, hg⟩ := own_cell hrow3 hm
    exact ⟨_, rfl, fun j u hu => by rw [Addr.add_mid, Nat.zero_add]; exact hg j u hu⟩
  · have hno : ∀ q, (Value.slice A E.length c).ownBlock = some q → w0.heap.size ≤ q := by
      rcases hrow.2 with ⟨hv, _⟩ | ⟨g, _, _, hv, hb, _⟩
      · rw [hv]; intro q hq; simp [Value.ownBlock] at hq
      · rw [hv]; intro q hq
        obtain rfl : g = q := by simpa [Value.ownBlock] using hq
        exact hb
    have hoff : ∀ q, q < w0.heap.size → q ∈ (Value.slice A E.length c).ownBlock.toList → w.heap.size ≤ q := fun q hq hm => by have := hno q (by simpa using hm); omega
    have he2 : EntsC (fun q => q < w0.heap.size) w F ds := (hents2.re (D' := fun q => q < w0.heap.size) (fun _ _ hl => hl) ⟨0, h0⟩).fr hf (by simp)
    have hall := (EntsC.app he2 hents).fr hfz hoff
    have hl : (E ++ F).length = E.length + F.length := List.length_append
    rw [← hl] at howz hqz ⊢
    refine h (E ++ F) A' cap wz rfl ⟨cs ++ ds, ?_, hall⟩ (hf.trans hfz fun q hq => .inr (hno q (by simpa using hq)))
    refine own_base howz fun q hq => ?_
    rcases hqz q hq with h5 | h5
    · exact hno q h5
    · have := hf.size; omega
theorem range_row {X : Nat → Prop} {E : En} {t : Nat} {low : Ky} {up : Option Ky} {most : Nat} {w w' : World} {e : Ending} (h : RangeEnd X (only t E) t low up most w e w') (hr : Rise E) :
    ∃ (F : En) (A : Option Addr) (c : Nat), F = (E.filter (inB low up)).take most ∧ e = .returned (.tuple #[.slice A F.length c, .int .i64 0]) ∧ EnRow w' (.slice A F.length c) F ∧ Fr [] w w' := by
  obtain ⟨ov, cs, h1, h2, h3, h4⟩ := h
  rw [only_at, go_take hr] at h2 h3
  have h5 : EnRow w' ov ((E.filter (inB low up)).take most) := ⟨cs, own_base h2 (fun _ _ => Nat.zero_le _), h3.re (fun _ _ _ => trivial) ⟨0, trivial⟩⟩
  obtain ⟨A, c, rfl, _⟩ := h5.shape
  exact ⟨_, A, c, rfl, h1, h5, h4⟩
theorem enter_theirs (vs : Array Value) (w : World) : (callFunc 13 vs).run Tryz.prog w = .ok (.enter 13 vs) w := by kernel_rfl
theorem enter_same (vs : Array Value) (w : World) : (callFunc 12 vs).run Tryz.prog w = .ok (.enter 12 vs) w := by kernel_rfl
theorem slice_to_en (A : Option Addr) (n c hi : Nat) (h : hi ≤ c) : ∀ w, (Instr.sliceAt 31 (.slice A n c) none (some (.int .i64 (hi : Int))) none).run Tryz.prog w = .ok (.slice A hi c) w := by
  intro w
  have ht : Tryz.prog.underlying 31 = some (.slice 39) := Tryz.underlying31
  have hel : Tryz.prog.elem 31 = 39 := by simp [Program.elem, ht]
  obtain ⟨te, hte, _, hes, _⟩ := info_get info_en
  have h5 : ∀ w, (sizeOf 39).run Tryz.prog w = .ok 2 w := fun w => by simp [sizeOf, typeInfo, go_sem, hte, hes]
  rw [run_sliceAt_slice (h := by rw [hel]; exact ht), run_slice_h (ht := by rw [hel]; exact ht) (h0 := by omega) (h2 := by omega), hel, h5]
  have e0 : A.map (fun x => x.add 0) = A := by cases A <;> simp [Addr.add]
  simp [Result.andThen, sliced, e0]
theorem key_x {W w : World} {X : Nat → Prop} {H q0 g : Nat} {v : Value} {k : Ky} (h : BytesAt W v k g) (hg : k = [] ∨ g < W.heap.size) (hf : Fr [] W w) (hX : ∀ q, q < H → X q) (hH : W.heap.size ≤ H) (h0 : X q0) : ∃ q, BytesAt w v k q ∧ X q := by
  rcases hg with rfl | hg
  · obtain ⟨A, c, off, h1, h2, _⟩ := h
    exact ⟨q0, ⟨A, c, off, h1, h2, fun h3 => absurd h3 (by simp)⟩, h0⟩
  · exact ⟨g, h.fr hf (by simp), hX g (by omega)⟩
theorem gtr_of (a b : Ky) : (!Op.bytesLess a b && !(a == b)) = decide (klt b a) := by
  rw [less_klt]
  rcases klt_lt (a := a) (b := b) with h | h | h
  · have h2 : ¬ klt b a := fun h3 => klt_irrefl _ (klt_trans h h3)
    simp [h, h2]
  · subst h
    have h2 : ¬ klt a a := klt_irrefl _
    simp [h2]
  · have h2 : ¬ klt a b := fun h3 => klt_irrefl _ (klt_trans h h3)
    have h3 : ¬ a = b := fun e => by rw [e] at h; exact klt_irrefl _ h
    simp [h, h2, h3]
theorem two_parts {a b c : Ky} {E F1 F2 F3 F4 : En} {k : Nat} (hr : Rise E) (hE : E.length ≤ 100) (hab : ¬ klt b a) (hbc : ¬ klt c b) (h1 : F1 = (E.filter (inB a (some b))).take 1000) (h2 : F2 = (E.filter (inB b (some c))).take 1000) (h3 : F3 = (E.filter (inB a (some c))).take 1000) (h4 : F4 = (E.filter (inB a (some c))).take k) :
    F1 ++ F2 = F3 ∧ F3.length ≤ 100 ∧ F4 = F3.take F4.length ∧ F4.length = min k F3.length := by
  have l1 := List.length_filter_le (inB a (some b)) E
  have l2 := List.length_filter_le (inB b (some c)) E
  have l3 := List.length_filter_le (inB a (some c)) E
  rw [List.take_of_length_le (by omega)] at h1 h2 h3
  have hs := split_two hab hbc hr
  have hl : F4.length = min k F3.length := by rw [h4, h3, List.length_take]
  refine ⟨by rw [h1, h2, h3, hs], by rw [h3]; omega, ?_, hl⟩
  rw [hl, h4, h3]
  rw [← h3]
  rcases Nat.le_total k F3.length with h | h
  · rw [Nat.min_eq_left h]
  · rw [Nat.min_eq_right h, List.take_of_length_le h, List.take_of_length_le (Nat.le_refl _)]
end Go.Proofs.YtpjbdpepofnleaaGreat
end
