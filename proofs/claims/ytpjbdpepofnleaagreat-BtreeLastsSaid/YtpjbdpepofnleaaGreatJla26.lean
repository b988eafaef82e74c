/-
  Joined by join.py: Qy Qz Ya Yc Yd Ye
-/
import Derived.WalkLawsBesides
import Derived.Laws.IdiomStrings
import Derived.Test.YtpjbdpepofnleaaGreatJla25
section
namespace Go.Proofs.YtpjbdpepofnleaaGreat
open Go.RowKit Go.ChangeMaps Go.MapKept Go.Maps Go.Sort Go.Shelf
section
variable {w0 wS w : World} {dk g st bc bn bs bk bm K : Nat} {s : PS} {X D : Nat → Prop} {c : CD} {E : Nat → En}
theorem check_node (hp : PgC w0 wS dk g s X c) (h : Nat) : CGoal wS g bc bn bs bk bm D c K h := by
  induction h using Nat.strongRecOn with
  | _ h ih => exact check_step hp h ih
set_option maxRecDepth 100000 in
set_option maxHeartbeats 8000000 in
/-- Check. -/
theorem Check_X (h : StX w0 w dk g st s X E) {t : Nat} (ht : t < 8) (hE : (E t).length ≤ 1000000) :
    Calls Tryz.prog 16 #[.pointer (some ⟨st, 0, none⟩), .int .i64 (t : Int)] w fun e w' => e = .returned (.int .i64 0) ∧ Fr [] w w' := by
  obtain ⟨_, _, P, F, hF⟩ := h.store
  obtain ⟨c, hc⟩ : ∃ c, c = beginC s.page s.n := ⟨_, rfl⟩
  rw [← hc] at hF
  have hpc := h.pgc
  rw [← hc] at hpc
  have H := Lib.hid h; have HC := Lib.hid hc; have HPC := Lib.hid hpc; have HF := Lib.hid hF
  have HEE := Lib.hid hE
  have HBG := Lib.hid h.begin
  clear h hc hpc hF hE
  have ht8 : ((t : Nat) : Int) < 8 := by omega
  have ht8' : ¬ (8 : Int) ≤ ((t : Nat) : Int) := by omega
  have ht0 : ¬ ((t : Nat) : Int) < 0 := by omega
  have hmm := @run_makeMap Tryz.prog
  refine calls_post fun R HQ => ?_
  go_enter Tryz.func16, Tryz.ntmps16
  go_wp2_with fail
  refine HBG.out.mono ?_
  rintro e w1 ⟨bc, bn, bs, rfl, hch⟩
  rw [← HC.out] at hch
  have HCH := Lib.hid hch
  have cr := hch.blk.at_ (chC_root c g bn bs ht)
  clear hch HBG
  by_cases hr : c.roots t = 0
  · rw [hr] at cr
    have HX := Lib.hid (HQ.out (.returned (.int .i64 0)) w1 ⟨rfl, HCH.out.fr⟩)
    have HR0 := Lib.hid hr
    clear hr
    go_wp2_with fail
    exact HX.out
  · have hrI : ¬ ((c.roots t : Nat) : Int) = 0 := by omega
    have ha := HF.out.acc.swap (allP_perm ht).symm
    have hnd := (List.nodup_append.1 ha.nodup).1
    have hplen : (P t).length ≤ 4096 := by
      have h1 := ha.perm.length_eq
      have h2 := ha.next2; have h3 := ha.few
      rw [List.length_range', List.length_append, List.length_append] at h1
      omega
    obtain ⟨hh, hs, hht⟩ : ∃ hh, Sub c.N 1 hh (c.roots t) none none (E t) (P t) ∧ hh < 40 := by
      rcases HF.out.tree t ht with ⟨h, _, _⟩ | ⟨_, hh, hs⟩
      · exact absurd h hr
      · exact ⟨hh, hs, height_lt hs (by have := HEE.out; omega)⟩
    have hndP := (List.nodup_append.1 hnd).1
    obtain ⟨w2, hw2⟩ : ∃ w2, w2 = (w1.alloc (.map #[] 0)).alloc (.cells #[.pointer (some ⟨bc, 0, none⟩), .map (some w1.heap.size), .int .i64 ((0 : Nat) : Int)] 108) := ⟨_, rfl⟩
    have hf2 : Fr [] w1 w2 := by rw [hw2]; exact ((Fr.refl [] _).alloc _).alloc _
    have hm2 : VAt w2 w1.heap.size [] := by rw [hw2]; exact (VAt.new w1).fr ((Fr.refl [] _).alloc _) (by simp)
    have hb2 : Blk w2 (w1.heap.size + 1) 108 [.pointer (some ⟨bc, 0, none⟩), .map (some w1.heap.size), .int .i64 ((0 : Nat) : Int)] := by
      rw [hw2]
      have := Blk.new (w1.alloc (.map #[] 0)) 108 [.pointer (some ⟨bc, 0, none⟩), .map (some w1.heap.size), .int .i64 ((0 : Nat) : Int)]
      rwa [World.size_alloc] at this
    have hz1 := HCH.out.fr.size
    have hz2 := hf2.size
    have hcl := HCH.out.lts
    obtain ⟨D, hD⟩ : ∃ D : Nat → Prop, D = fun q => Dm_ X w bc bn bs q ∧ q ≠ w1.heap.size ∧ q ≠ w1.heap.size + 1 := ⟨_, rfl⟩
    have C2 : Hid (Cst w g bc bn bs (w1.heap.size + 1) w1.heap.size D c [] 0 w2) := Lib.hid {
      ch := by
        refine (HCH.out.re (D' := D) (fun q hq hl => ?_) ⟨w1.heap.size + 2, ?_, by omega⟩ (fun q hq => ?_)).frame hf2
        · rw [hD]; exact ⟨hq, by omega, by omega⟩
        · rw [hD]; exact ⟨⟨.inr (by omega), by omega, by omega, by omega⟩, by omega, by omega⟩
        · rw [hD] at hq; exact hq.1.2
      blk := hb2
      met := hm2
      nb := fun q hq => by rw [hD] at hq; exact ⟨hq.2.2, hq.2.1, hq.1.2⟩
      top := fun q hq => by rw [hD]; have := hb2.lt; exact ⟨⟨.inr (by omega), by omega, by omega, by omega⟩, by omega, by omega⟩
      hb := ⟨by omega, by omega, by omega, by omega, by omega, by omega, by omega⟩
      hw := ⟨by omega, by omega⟩ }
    have hfk : FromK D w2 (.slice none 0 0) none := ⟨w2.heap.size, BytesAt.nil _ _, C2.out.top _ (Nat.le_refl _)⟩
    have HCN := Lib.hid (check_node HPC.out hh (K := 1 + hh) (c.roots t) 1 none none (E t) (P t) [] 0 _ _ w2 rfl (Nat.le_refl _) (by omega) hs hndP (fun _ _ => rfl) (by simp; omega) C2.out hfk (show UpK D w2 (.slice none 0 0) none from rfl) (.inl rfl))
    have HR0 := Lib.hid hr
    have cr2 := fr_keep hf2 cr
    have HFW2 : Hid (Fr [] w w2) := Lib.hid (HCH.out.fr.trans hf2 (by simp))
    have HZ1 := Lib.hid hz1
    clear hr hs hht hf2 hb2 hm2 hz2 hcl hD hfk ha hnd hplen hndP hz1
    go_upto_region 7 with fail
    show Code.wp _ _ _ _ ((w1.alloc (.map #[] 0)).alloc (.cells #[.pointer (some ⟨bc, 0, none⟩), .map (some w1.heap.size), .int .i64 ((0 : Nat) : Int)] 108))
    rw [← hw2]
    clear hw2 cr hmm
    go_wp2_with fail
    refine HCN.out.mono ?_
    rintro e w3 ⟨m', kd', rfl, hC3, hf3, _⟩
    have HX := Lib.hid (HQ.out (.returned (.int .i64 0)) w3 ⟨rfl, HFW2.out.trans hf3 fun q hq => .inr (by
      have := HZ1.out
      simp only [List.mem_cons, List.not_mem_nil, or_false] at hq
      omega)⟩)
    clear hC3 hf3 HCN cr2
    go_wp2_with fail
    exact HX.out
end
end Go.Proofs.YtpjbdpepofnleaaGreat
end
section
namespace Go.Proofs.YtpjbdpepofnleaaGreat
open Go.RowKit Go.ChangeMaps Go.MapKept Go.Maps Go.Sort Go.Shelf
structure Made (w w' : World) (dk g st n : Nat) (s : PS) (X : Nat → Prop) : Prop where
  st : StX w w' dk g st s X fun _ => []
  old : ∀ k, k < w.heap.size → X k
  n : s.n = n
  inv : PInv 1 s fun _ => List.replicate 512 0
  late : s.late = []
  lim : s.D.limit = -1
  done : s.D.done = 0
  ln : s.l.n = 700
  fr : Fr [] w w'
set_option maxRecDepth 100000 in
set_option maxHeartbeats 2000000 in
theorem made_X (w : World) {n : Nat} (h1 : 1 ≤ n) (h2 : n ≤ 4096) :
    Calls Tryz.prog 9 #[.int .i64 (n : Int)] w fun e w' => ∃ dk g st s X, e = .returned (.tuple #[.pointer (some ⟨st, 0, none⟩), .pointer (some ⟨g, 0, none⟩)]) ∧ Made w w' dk g st n s X := by
  obtain ⟨H1, ht1, hi1, hn1⟩ := (PDisk.new (n := n) (log := 700) (N := 8 * n + 700) h1 h2 (by omega) (by omega) (by omega)).open_ (by omega)
  have hw1 : IntKind.i64.wrap (8 * (n : Int)) = 8 * (n : Int) := by rw [IntKind.wrap_i64]; omega
  have hw2 : IntKind.i64.wrap (8 * (n : Int) + 700) = ((8 * n + 700 : Nat) : Int) := by rw [IntKind.wrap_i64]; omega
  have HT1 := Lib.hid ht1; have HI1 := Lib.hid hi1; have HN1 := Lib.hid hn1; have HA := Lib.hid h1; have HB := Lib.hid h2
  clear ht1 hi1 hn1
  refine calls_post fun R HQ => ?_
  go_enter Tryz.func9, Tryz.ntmps9
  go_wp2_with fail
  refine (new_X (X := fun k => k < w.heap.size) w w (8 * n + 700) (by omega) (by omega) (Fr.refl _ _) (fun _ h => h)).mono ?_
  rintro e w1 ⟨d, rfl, hd1, hf1⟩
  have HD1 := Lib.hid hd1; have HF1 := Lib.hid hf1
  clear hd1 hf1
  go_wp2_with fail
  refine (open_Y (n := n) (log := 700) HD1.out rfl rfl h1 h2 (by omega) HI1.out.fit HN1.out HT1.out).mono ?_
  rintro e w2 ⟨g, rfl, hp2, hk2⟩
  have HP2 := Lib.hid hp2
  clear hp2 hk2
  obtain ⟨s1, hs1⟩ : ∃ s1, s1 = openP n 700 (DM.new (8 * n + 700)) H1 := ⟨_, rfl⟩
  rw [← hs1] at HP2 HI1
  have l1 : s1.late = [] ∧ s1.n = n ∧ s1.l.n = 700 ∧ s1.D.limit = -1 ∧ s1.D.done = 0 ∧ s1.br = false := by rw [hs1]; exact ⟨rfl, rfl, rfl, rfl, rfl, rfl⟩
  have hpage : ∀ k, k < s1.n → s1.page k = zpage := fun k hk => by
    rw [HI1.out.page_eq hk, l1.1]
    rfl
  have hst : Store s1.page s1.n fun _ => [] := store_new (hpage 0 (by rw [l1.2.1]; omega)) (fun k hk => by rw [hpage k hk]; exact zpage_len') (by rw [l1.2.1]; omega) (by rw [l1.2.1]; omega)
  have HOP := Lib.hid (Open_X HP2.out l1.2.2.2.2.2 HI1.out.calm hst)
  have HL1 := Lib.hid l1
  clear hs1 hpage hst l1
  go_wp2_with fail
  refine HOP.out.mono ?_
  rintro e w3 ⟨st, rfl, hst3, hf3⟩
  have HX := Lib.hid (HQ.out _ _ ⟨d, g, st, s1, _, rfl, ⟨hst3, fun k hk => .inl hk, HL1.out.2.1, HI1.out, HL1.out.1, HL1.out.2.2.2.1, HL1.out.2.2.2.2.1, HL1.out.2.2.1, hst3.px.frame⟩⟩)
  clear hst3 hf3 HOP
  go_wp2_with fail
  exact HX.out
theorem StX.with_ {w0 w : World} {dk g st : Nat} {s : PS} {X : Nat → Prop} {E : Nat → En} (h : StX w0 w dk g st s X E) {w' : World} (hf : Fr [] w w') : StX w0 w' dk g st s (More X w w') E := h.fr hf
def E1 : Nat → En := setR (fun _ => []) 0 (putE [] [97] [])
def E2 : Nat → En := setR E1 0 (putE (E1 0) [98] [120])
def E3 : Nat → En := setR E2 0 (delE (E2 0) [97])
theorem restE_0 {E : Nat → En} {t : Nat} (h : ∀ j, j ≠ t → E j = []) : restE E t = [] := by
  unfold restE
  rw [List.flatMap_eq_nil_iff]
  intro j hj
  exact h j (fun e => by
    subst e
    exact (List.Nodup.not_mem_erase (List.nodup_range (n := 8))) hj)
theorem setR_at (E : Nat → En) (t : Nat) (x : En) : setR E t x t = x := if_pos rfl
theorem setR_off (E : Nat → En) {t j : Nat} (x : En) (h : j ≠ t) : setR E t x j = E j := if_neg h
end Go.Proofs.YtpjbdpepofnleaaGreat
end
section
namespace Go.Proofs.YtpjbdpepofnleaaGreat
open Go.RowKit Go.ChangeMaps Go.MapKept Go.Maps Go.Sort Go.Shelf
theorem e1_0 : E1 0 = [([97], [])] := rfl
theorem e2_0 : E2 0 = [([97], []), ([98], [120])] := rfl
theorem e3_0 : E3 0 = [([98], [120])] := rfl
theorem has_a : hasE (E2 0) [97] = true := rfl
theorem go_3 : goE [] none 9 [] (E3 0) = ([([98], [120])], true) := rfl
theorem e_off {j : Nat} (h : j ≠ 0) : E1 j = [] ∧ E2 j = [] ∧ E3 j = [] := by
  have a1 : E1 j = [] := setR_off _ _ h
  have a2 : E2 j = [] := (setR_off _ _ h).trans a1
  exact ⟨a1, a2, (setR_off _ _ h).trans a2⟩
set_option maxRecDepth 100000 in
set_option maxHeartbeats 8000000 in
theorem awake10 (w : World) : Calls Tryz.prog 8 #[] w fun e w' => e = .returned (.bool true) ∧ Fr [] w w' := by
  have kc := fun (w : World) (C : Array Value) (n c : Nat) => Lib.run_convert_bytes_const (P := Tryz.prog) w 23 5 C n c Tryz.underlying23 Tryz.underlying5
  have kc2 : ∀ (w : World) (o : Obj) (C : Array Value) (n c : Nat), (convert 23 23 (.slice (some ⟨w.heap.size + 1, 0, none⟩) n c)).run Tryz.prog ((w.alloc o).alloc (.cells C 5)) = .ok (.slice (some ⟨w.heap.size + 1, 0, none⟩) n c) ((w.alloc o).alloc (.cells C 5 (C.size, C.size + 1))) := fun w o C n c => by
    have := kc (w.alloc o) C n c
    rwa [World.size_alloc] at this
  refine calls_post fun R HQ => ?_
  go_enter Tryz.func8, Tryz.ntmps8
  go_wp2_with fail
  refine (made_X w (n := 8) (by omega) (by omega)).mono ?_
  rintro e w1 ⟨dk, g, st, s, X, rfl, hm⟩
  have HM := Lib.hid hm
  clear hm
  go_wp2_with fail
  have hfa : Fr [] w1 (w1.alloc (.cells #[.int .u8 97] 5 (1, 2))) := (Fr.refl [] w1).alloc _
  have hba : BytesAt (w1.alloc (.cells #[.int .u8 97] 5 (1, 2))) (.slice (some ⟨w1.heap.size, 0, none⟩) 1 1) [97] w1.heap.size := bytes_mark (w := w1) (C := [97]) (fz := (1, 2)) _ rfl
  have hxa : More X w1 (w1.alloc (.cells #[.int .u8 97] 5 (1, 2))) w1.heap.size := .inr ⟨Nat.le_refl _, by simp⟩
  have HPA := Lib.hid (Put_X (HM.out.st.fr hfa) (t := 0) (by omega) hba hxa (BytesAt.nil _ w1.heap.size) hxa (by decide) (by decide) (by decide) (by decide))
  have HFA := Lib.hid hfa
  clear hfa hba hxa
  generalize w1.alloc (.cells #[.int .u8 97] 5 (1, 2)) = wa at *
  refine HPA.out.mono ?_
  rintro e w2 ⟨s2, hwr2, hk2, hend⟩
  obtain ⟨rfl, h2⟩ : e = .returned (.int .i64 0) ∧ StX w w2 dk g st s2 (More X w1 wa) E1 := by
    rcases hend with ⟨h, h'⟩ | ⟨_, _, _, hful⟩
    · exact ⟨h, h'⟩
    · exfalso
      rw [HM.out.n, restE_0 (fun _ _ => rfl)] at hful
      exact absurd hful (by decide)
  have S2 := Lib.hid h2
  have HN2 : Hid (s2.n = 8) := Lib.hid (by rw [hwr2.same.n]; exact HM.out.n)
  have HF2 : Hid (Fr [] w w2) := Lib.hid h2.px.frame
  clear hwr2 hk2 hend h2 HPA
  go_wp2_with fail
  have hfa1 : Fr [] w2 (w2.alloc (.cells #[.int .u8 98] 5 (1, 2))) := (Fr.refl [] w2).alloc _
  have hba1 : BytesAt (w2.alloc (.cells #[.int .u8 98] 5 (1, 2))) (.slice (some ⟨w2.heap.size, 0, none⟩) 1 1) [98] w2.heap.size := bytes_mark (w := w2) (C := [98]) (fz := (1, 2)) _ rfl
  have hz1 : (w2.alloc (.cells #[.int .u8 98] 5 (1, 2))).heap.size = w2.heap.size + 1 := by rw [World.size_alloc]
  obtain ⟨wb, hwb⟩ : ∃ wb, wb = w2.alloc (.cells #[.int .u8 98] 5 (1, 2)) := ⟨_, rfl⟩
  rw [← hwb] at hfa1 hba1 hz1 ⊢
  clear hwb
  have hfb : Fr [] wb (wb.alloc (.cells #[.int .u8 120] 5 (1, 2))) := (Fr.refl [] wb).alloc _
  have hbb : BytesAt (wb.alloc (.cells #[.int .u8 120] 5 (1, 2))) (.slice (some ⟨w2.heap.size + 1, 0, none⟩) 1 1) [120] (w2.heap.size + 1) := by
    have := bytes_mark (w := wb) (C := [120]) (fz := (1, 2)) _ rfl
    rw [hz1] at this
    exact this
  have hzb : (wb.alloc (.cells #[.int .u8 120] 5 (1, 2))).heap.size = w2.heap.size + 2 := by rw [World.size_alloc, hz1]
  generalize wb.alloc (.cells #[.int .u8 120] 5 (1, 2)) = wc at *
  have HPB := Lib.hid (Put_X (S2.out.fr (hfa1.trans hfb (by simp))) (t := 0) (by omega) (hba1.fr hfb (by simp)) (.inr ⟨Nat.le_refl _, by omega⟩) hbb (.inr ⟨by omega, by omega⟩) (by decide) (by decide) (by decide) (by rw [e1_0]; decide))
  clear hfa1 hba1 hz1 hfb hbb hzb
  refine HPB.out.mono ?_
  rintro e w3 ⟨s3, hwr3, hk3, hend⟩
  obtain ⟨rfl, h3⟩ : e = .returned (.int .i64 0) ∧ StX w w3 dk g st s3 (More (More X w1 wa) w2 wc) E2 := by
    rcases hend with ⟨h, h'⟩ | ⟨_, _, _, hful⟩
    · exact ⟨h, h'⟩
    · exfalso
      rw [HN2.out, restE_0 (fun j hj => (e_off hj).1)] at hful
      exact absurd hful (by decide)
  have S3 := Lib.hid h3
  have HN3 : Hid (s3.n = 8) := Lib.hid (by rw [hwr3.same.n]; exact HN2.out)
  clear hwr3 hk3 hend h3 HPB S2 HN2
  go_wp2_with fail
  have hfa : Fr [] w3 (w3.alloc (.cells #[.int .u8 97] 5 (1, 2))) := (Fr.refl [] w3).alloc _
  have hba : BytesAt (w3.alloc (.cells #[.int .u8 97] 5 (1, 2))) (.slice (some ⟨w3.heap.size, 0, none⟩) 1 1) [97] w3.heap.size := bytes_mark (w := w3) (C := [97]) (fz := (1, 2)) _ rfl
  have hxa : More (More (More X w1 wa) w2 wc) w3 (w3.alloc (.cells #[.int .u8 97] 5 (1, 2))) w3.heap.size := .inr ⟨Nat.le_refl _, by simp⟩
  have HPA := Lib.hid (Delete_X (S3.out.fr hfa) (t := 0) (by omega) hba hxa (by decide) (by decide) (by rw [e2_0]; decide))
  clear hfa hba hxa
  generalize w3.alloc (.cells #[.int .u8 97] 5 (1, 2)) = wd at *
  refine HPA.out.mono ?_
  rintro e w4 ⟨s4, hwr4, hk4, hend⟩
  obtain ⟨rfl, h4⟩ : e = .returned (.tuple #[.bool true, .int .i64 0]) ∧ StX w w4 dk g st s4 (More (More (More X w1 wa) w2 wc) w3 wd) E3 := by
    rcases hend with ⟨h, h'⟩ | ⟨_, _, _, hful⟩
    · rw [has_a] at h; exact ⟨h, h'⟩
    · exfalso
      rw [HN3.out, restE_0 (fun j hj => (e_off hj).2.1)] at hful
      exact absurd hful (by decide)
  have S4 := Lib.hid h4
  clear hwr4 hk4 hend h4 HPA S3
  obtain ⟨X4, hX4⟩ : ∃ X4, X4 = More (More (More X w1 wa) w2 wc) w3 wd := ⟨_, rfl⟩
  rw [← hX4] at S4
  clear hX4
  have hx0 : ∃ q, X4 q := ⟨st, S4.out.xs⟩
  obtain ⟨q0, hq0⟩ := hx0
  have HRG := Lib.hid (Range_X S4.out (t := 0) (by omega) (up := none) (most := 9) (BytesAt.nil _ q0) hq0 rfl (by omega) (by rw [e3_0]; decide))
  go_wp2_with fail
  refine HRG.out.mono ?_
  rintro e w5 ⟨ov, cs, rfl, hrow, hents, hf5⟩
  rw [go_3] at hrow hents
  obtain ⟨Ao, co, rfl, hco⟩ := own_shape hrow
  obtain ⟨kv, vv, cs1, cs2, ⟨⟨g1, hk1, _⟩, ⟨g2, hv1, _⟩⟩⟩ := hents.at_ (i := 0) (e := ([98], [120])) rfl
  obtain ⟨gr, hA, hcell⟩ := own_cell hrow (by decide)
  obtain rfl := hA
  have r0 := hcell _ _ cs1
  have r1 := hcell _ _ cs2
  have HCK := Lib.hid (Check_X (S4.out.stay hf5) (t := 0) (by omega) (by rw [e3_0]; decide))
  have c1 := run_string_of (P := Tryz.prog) (src := 23) (dst := 9) Tryz.underlying23 Tryz.underlying5 Tryz.underlying9 hk1
  have c2 := run_string_of (P := Tryz.prog) (src := 23) (dst := 9) Tryz.underlying23 Tryz.underlying5 Tryz.underlying9 hv1
  have HF5 : Hid (Fr [] w w5) := Lib.hid (S4.out.px.frame.trans hf5 (by simp))
  obtain ⟨Ak, ck, ok, rfl, hck, hak⟩ := id hk1
  obtain ⟨Aw, cw, ow, rfl, hcw, haw⟩ := id hv1
  obtain ⟨rfl, _⟩ := hak (by decide)
  obtain ⟨rfl, _⟩ := haw (by decide)
  have r0' : w5.cell? ⟨gr, 0, none⟩ = some (.slice (some ⟨g1, ok, none⟩) 1 ck) := r0
  have r1' : w5.cell? ⟨gr, 1, none⟩ = some (.slice (some ⟨g2, ow, none⟩) 1 cw) := r1
  have c1' : (convert 23 9 (.slice (some ⟨g1, ok, none⟩) 1 ck)).run Tryz.prog w5 = .ok (.string ⟨#[98]⟩) w5 := c1
  have c2' : (convert 23 9 (.slice (some ⟨g2, ow, none⟩) 1 cw)).run Tryz.prog w5 = .ok (.string ⟨#[120]⟩) w5 := c2
  clear r0 r1 c1 c2 hck hcw hak haw
  clear hrow hents hcell cs1 cs2 hk1 hv1 hf5 HRG
  go_wp2_with fail
  refine HCK.out.mono ?_
  rintro e w6 ⟨rfl, hf6⟩
  have HX := Lib.hid (HQ.out (.returned (.bool true)) w6 ⟨rfl, HF5.out.trans hf6 (by simp)⟩)
  clear hf6 HCK
  go_wp2_with fail
  exact HX.out
end Go.Proofs.YtpjbdpepofnleaaGreat
end
section
namespace Go.Proofs.YtpjbdpepofnleaaGreat
open Go.RowKit
theorem klt_lt {a b : Ky} : klt a b ∨ a = b ∨ klt b a := by
  by_cases h1 : klt a b
  · exact .inl h1
  · by_cases h2 : klt b a
    · exact .inr (.inr h2)
    · exact .inr (.inl (klt_tri h1 h2))
theorem putE_rise {E : En} {k : Ky} {v : List UInt8} (h : Rise E) : Rise (putE E k v) := by
  unfold putE Rise
  rw [List.pairwise_append]
  refine ⟨h.filter _, ?_, fun a ha b hb => ?_⟩
  · rw [List.pairwise_cons]
    exact ⟨fun e he => by simpa using (List.mem_filter.1 he).2, h.filter _⟩
  · have h1 : klt a.1 k := by simpa using (List.mem_filter.1 ha).2
    rcases List.mem_cons.1 hb with rfl | hb
    · exact h1
    · exact klt_trans h1 (by simpa using (List.mem_filter.1 hb).2)
theorem putE_mem {E : En} {k : Ky} {v : List UInt8} {e : Ky × List UInt8} : e ∈ putE E k v ↔ e = (k, v) ∨ (e ∈ E ∧ e.1 ≠ k) := by
  unfold putE
  simp only [List.mem_append, List.mem_cons, List.mem_filter, decide_eq_true_eq]
  constructor
  · rintro (⟨h1, h2⟩ | h | ⟨h1, h2⟩)
    · exact .inr ⟨h1, fun e => klt_irrefl k (by rw [e] at h2; exact h2)⟩
    · exact .inl h
    · exact .inr ⟨h1, fun e => klt_irrefl k (by rw [e] at h2; exact h2)⟩
  · rintro (h | ⟨h1, h2⟩)
    · exact .inr (.inl h)
    · rcases klt_lt (a := e.1) (b := k) with h | h | h
      · exact .inl ⟨h1, h⟩
      · exact absurd h h2
      · exact .inr (.inr ⟨h1, h⟩)
theorem filter_two {α : Type} {p q : α → Bool} (h : ∀ a, p a = true → q a = false) : ∀ l : List α, (l.filter p).length + (l.filter q).length ≤ l.length
  | [] => Nat.le_refl _
  | a :: l => by
    have ih := filter_two h l
    rw [List.filter_cons, List.filter_cons]
    cases hp : p a with
    | true => rw [h a hp]; simp only [if_true, Bool.false_eq_true, if_false, List.length_cons]; omega
    | false =>
      simp only [Bool.false_eq_true, if_false]
      cases hq : q a <;> simp only [if_true, Bool.false_eq_true, if_false, List.length_cons] <;> omega
theorem putE_len (E : En) (k : Ky) (v : List UInt8) : (putE E k v).length ≤ E.length + 1 := by
  unfold putE
  have := filter_two (p := fun e : Ky × List UInt8 => decide (klt e.1 k)) (q := fun e => decide (klt k e.1)) (fun a ha => by
    simp only [decide_eq_true_eq, decide_eq_false_iff_not] at ha ⊢
    exact fun h => klt_irrefl _ (klt_trans ha h)) E
  rw [List.length_append, List.length_cons]
  omega
def puts0 (l : List Ky) : En := l.foldl (fun E k => putE E k []) []
theorem foldl_snoc {α β : Type} (f : β → α → β) (b : β) (l : List α) (x : α) : (l ++ [x]).foldl f b = f (l.foldl f b) x := by rw [List.foldl_append]; rfl
theorem puts0_snoc (l : List Ky) (k : Ky) : puts0 (l ++ [k]) = putE (puts0 l) k [] := foldl_snoc ..
theorem puts0_all : ∀ n (l : List Ky), l.length = n → Rise (puts0 l) ∧ (puts0 l).length ≤ l.length ∧ ∀ k, (∃ e ∈ puts0 l, e.1 = k) ↔ k ∈ l
  | 0, l, h => by
    obtain rfl := List.length_eq_zero_iff.1 h
    exact ⟨List.Pairwise.nil, Nat.le_refl _, fun k => ⟨fun ⟨e, he, _⟩ => (by cases he), fun h => (by cases h)⟩⟩
  | n + 1, l, h => by
    obtain ⟨l', x, rfl⟩ : ∃ l' x, l = l' ++ [x] := ⟨l.dropLast, l.getLast (by intro e; rw [e] at h; cases h), (List.dropLast_concat_getLast _).symm⟩
    have hl : l'.length = n := by rw [List.length_append, List.length_singleton] at h; omega
    obtain ⟨a, b, d⟩ := puts0_all n l' hl
    rw [puts0_snoc]
    refine ⟨putE_rise a, ?_, fun k => ?_⟩
    · have := putE_len (puts0 l') x []
      rw [List.length_append, List.length_singleton]
      omega
    · rw [List.mem_append, List.mem_singleton, ← d k]
      constructor
      · rintro ⟨e, he, hk⟩
        rcases putE_mem.1 he with rfl | ⟨he', _⟩
        · exact .inr hk.symm
        · exact .inl ⟨e, he', hk⟩
      · rintro (⟨e, he, hk⟩ | hk)
        · by_cases hx : k = x
          · exact ⟨(x, []), putE_mem.2 (.inl rfl), hx.symm⟩
          · exact ⟨e, putE_mem.2 (.inr ⟨he, by rw [hk]; exact hx⟩), hk⟩
        · exact ⟨(x, []), putE_mem.2 (.inl rfl), hk.symm⟩
def lowK (a b : Ky) : Ky := if klt b a then b else a
def highK (a b : Ky) : Ky := if klt a b then b else a
def lows (k0 : Ky) (l : List Ky) : Ky := l.foldl lowK k0
def highs (k0 : Ky) (l : List Ky) : Ky := l.foldl highK k0
theorem lows_all : ∀ (l : List Ky) (k0 : Ky), (lows k0 l = k0 ∨ lows k0 l ∈ l) ∧ ¬ klt k0 (lows k0 l) ∧ ∀ k ∈ l, ¬ klt k (lows k0 l)
  | [], k0 => ⟨.inl rfl, klt_irrefl k0, fun k h => (by cases h)⟩
  | x :: l, k0 => by
    obtain ⟨a, b, d⟩ := lows_all l (lowK k0 x)
    have e : lows k0 (x :: l) = lows (lowK k0 x) l := rfl
    rw [e]
    have h1 : ¬ klt k0 (lows (lowK k0 x) l) ∧ ¬ klt x (lows (lowK k0 x) l) := by
      obtain ⟨z, hz⟩ : ∃ z, z = lows (lowK k0 x) l := ⟨_, rfl⟩
      rw [← hz] at b ⊢
      unfold lowK at b
      split at b
      · rename_i h
        exact ⟨fun h' => b (klt_trans h h'), b⟩
      · rename_i h
        refine ⟨b, fun h' => ?_⟩
        rcases klt_lt (a := k0) (b := x) with h2 | h2 | h2
        · exact b (klt_trans h2 h')
        · rw [h2] at b; exact b h'
        · exact h h2
    refine ⟨?_, h1.1, fun k hk => ?_⟩
    · rcases a with a | a
      · rw [a]
        unfold lowK
        split
        · exact .inr (List.mem_cons_self ..)
        · exact .inl rfl
      · exact .inr (List.mem_cons_of_mem _ a)
    · rcases List.mem_cons.1 hk with rfl | hk
      · exact h1.2
      · exact d k hk
theorem highs_all : ∀ (l : List Ky) (k0 : Ky), (highs k0 l = k0 ∨ highs k0 l ∈ l) ∧ ¬ klt (highs k0 l) k0 ∧ ∀ k ∈ l, ¬ klt (highs k0 l) k
  | [], k0 => ⟨.inl rfl, klt_irrefl k0, fun k h => (by cases h)⟩
  | x :: l, k0 => by
    obtain ⟨a, b, d⟩ := highs_all l (highK k0 x)
    have e : highs k0 (x :: l) = highs (highK k0 x) l := rfl
    rw [e]
    have h1 : ¬ klt (highs (highK k0 x) l) k0 ∧ ¬ klt (highs (highK k0 x) l) x := by
      obtain ⟨z, hz⟩ : ∃ z, z = highs (highK k0 x) l := ⟨_, rfl⟩
      rw [← hz] at b ⊢
      unfold highK at b
      split at b
      · rename_i h
        exact ⟨fun h' => b (klt_trans h' h), b⟩
      · rename_i h
        refine ⟨b, fun h' => ?_⟩
        rcases klt_lt (a := k0) (b := x) with h2 | h2 | h2
        · exact h h2
        · rw [h2] at b; exact b h'
        · exact b (klt_trans h' h2)
    refine ⟨?_, h1.1, fun k hk => ?_⟩
    · rcases a with a | a
      · rw [a]
        unfold highK
        split
        · exact .inr (List.mem_cons_self ..)
        · exact .inl rfl
      · exact .inr (List.mem_cons_of_mem _ a)
    · rcases List.mem_cons.1 hk with rfl | hk
      · exact h1.2
      · exact d k hk
theorem less_klt : ∀ a b : Ky, Op.bytesLess a b = decide (klt a b)
  | [], [] => rfl
  | [], _ :: _ => rfl
  | _ :: _, [] => rfl
  | x :: a, y :: b => by
    have ih := less_klt a b
    unfold Op.bytesLess
    rw [ih]
    unfold klt
    conv => rhs; unfold Lib.compareBytes
    by_cases h1 : x < y
    · simp [h1]
    · by_cases h2 : y < x
      · have hne : (x == y) = false := by simpa using fun e : x = y => absurd (e ▸ h2) (by rw [e] at h2; exact fun h => absurd h (by rw [e] at h1; exact h1))
        simp [h1, h2, hne]
      · have he : x = y := by
          have h3 : ¬ x.toNat < y.toNat := h1
          have h4 : ¬ y.toNat < x.toNat := h2
          exact UInt8.toNat_inj.1 (by omega)
        simp [he]
theorem nil_low (k : Ky) : ¬ klt k [] := by
  unfold klt
  cases k <;> simp [Lib.compareBytes]
theorem inB_all (E : En) : E.filter (inB [] none) = E := List.filter_eq_self.2 fun e _ => by
  unfold inB pastB
  simp [nil_low]
theorem go_take {E : En} (hr : Rise E) (low : Ky) (up : Option Ky) (most : Nat) : (goE low up most [] E).1 = (E.filter (inB low up)).take most := by
  have := goE_take (low := low) (up := up) (most := most) hr (out := []) (Nat.zero_le _)
  simpa using this
theorem klt_snoc : ∀ k : Ky, klt k (k ++ [0])
  | [] => by unfold klt; decide
  | x :: k => by
    have ih := klt_snoc k
    unfold klt at ih ⊢
    show Lib.compareBytes (x :: k) (x :: (k ++ [0])) < 0
    unfold Lib.compareBytes
    rw [if_neg (UInt8.lt_irrefl x), if_neg (UInt8.lt_irrefl x)]
    exact ih
theorem rise_first {E : En} (hr : Rise E) {lo : Ky} (hm : ∃ e ∈ E, e.1 = lo) (hall : ∀ e ∈ E, ¬ klt e.1 lo) : ∃ e, E[0]? = some e ∧ e.1 = lo := by
  cases E with
  | nil => obtain ⟨e, he, _⟩ := hm; cases he
  | cons a E =>
    refine ⟨a, rfl, ?_⟩
    obtain ⟨e, he, hk⟩ := hm
    rcases List.mem_cons.1 he with rfl | he
    · exact hk
    · have := (List.pairwise_cons.1 hr).1 e he
      rw [hk] at this
      exact absurd this (hall a (List.mem_cons_self ..))
theorem rise_last {E : En} (hr : Rise E) {hi : Ky} (hm : ∃ e ∈ E, e.1 = hi) (hall : ∀ e ∈ E, ¬ klt hi e.1) : ∃ e, E[E.length - 1]? = some e ∧ e.1 = hi := by
  obtain ⟨e, he, hk⟩ := hm
  have h0 : 0 < E.length := List.length_pos_of_mem he
  obtain ⟨a, ha⟩ : ∃ a, E[E.length - 1]? = some a := ⟨_, List.getElem?_eq_getElem (by omega)⟩
  refine ⟨a, ha, ?_⟩
  obtain ⟨j, hj, hje⟩ := List.getElem_of_mem he
  obtain ⟨hl, hae⟩ := List.getElem?_eq_some_iff.1 ha
  rcases Nat.lt_or_ge j (E.length - 1) with h | h
  · have := List.pairwise_iff_getElem.1 hr j (E.length - 1) hj hl h
    rw [hje, hae, hk] at this
    exact absurd this (hall a (List.mem_of_getElem? ha))
  · have : j = E.length - 1 := by omega
    subst this
    rw [← hae, hje, hk]
theorem rise_top {E : En} (hr : Rise E) {hi : Ky} (hm : ∃ e ∈ E, e.1 = hi) (hall : ∀ e ∈ E, ¬ klt hi e.1) : ∃ e, E.filter (inB hi none) = [e] ∧ e.1 = hi := by
  have hf : E.filter (inB hi none) = E.filter (fun e => decide (e.1 = hi)) := by
    refine List.filter_congr fun e he => ?_
    unfold inB pastB
    rw [Bool.eq_iff_iff]
    simp only [Bool.not_false, Bool.and_true, Bool.not_eq_true', decide_eq_false_iff_not, decide_eq_true_eq]
    constructor
    · intro h
      exact klt_tri h (hall e he)
    · intro h
      rw [h]
      exact klt_irrefl hi
  rw [hf]
  have hr' : Rise (E.filter fun e => decide (e.1 = hi)) := hr.filter _
  cases hE : E.filter (fun e => decide (e.1 = hi)) with
  | nil =>
    obtain ⟨e, he, hk⟩ := hm
    have : e ∈ E.filter fun e => decide (e.1 = hi) := List.mem_filter.2 ⟨he, by simpa using hk⟩
    rw [hE] at this
    cases this
  | cons a l =>
    have ha : a.1 = hi := by
      have : a ∈ E.filter fun e => decide (e.1 = hi) := by rw [hE]; exact List.mem_cons_self ..
      simpa using (List.mem_filter.1 this).2
    cases l with
    | nil => exact ⟨a, rfl, ha⟩
    | cons b l =>
      have hb : b.1 = hi := by
        have : b ∈ E.filter fun e => decide (e.1 = hi) := by rw [hE]; exact List.mem_cons_of_mem _ (List.mem_cons_self ..)
        simpa using (List.mem_filter.1 this).2
      rw [hE] at hr'
      have := (List.pairwise_cons.1 hr').1 b (List.mem_cons_self ..)
      rw [ha, hb] at this
      exact absurd this (klt_irrefl hi)
theorem none_above {E : En} {hi : Ky} (hall : ∀ e ∈ E, ¬ klt hi e.1) : E.filter (inB (hi ++ [0]) none) = [] := List.filter_eq_nil_iff.2 fun e he => by
  have h1 : klt e.1 (hi ++ [0]) := by
    rcases klt_lt (a := e.1) (b := hi) with h | h | h
    · exact klt_trans h (klt_snoc hi)
    · rw [h]; exact klt_snoc hi
    · exact absurd h (hall e he)
  unfold inB
  simp [h1]
theorem none_below {E : En} {lo : Ky} (hall : ∀ e ∈ E, ¬ klt e.1 lo) : E.filter (inB [] (some lo)) = [] := List.filter_eq_nil_iff.2 fun e he => by
  unfold inB pastB
  simp [hall e he]
structure LastsF (k0 : Ky) (l : List Ky) (E : En) : Prop where
  few : E.length ≤ l.length + 1
  some_ : 0 < E.length
  first : ∃ e, E[0]? = some e ∧ e.1 = lows k0 l
  last : ∃ e, E[E.length - 1]? = some e ∧ e.1 = highs k0 l
  all : E.length ≤ 1000 → (goE [] none 1000 [] E).1 = E
  one : (goE [] none 1 [] E).1 = E.take 1
  top : ∃ e, (goE (highs k0 l) none 1000 [] E).1 = [e] ∧ e.1 = highs k0 l
  above : (goE (highs k0 l ++ [0]) none 1000 [] E).1 = []
  below : (goE [] (some (lows k0 l)) 1000 [] E).1 = []
theorem lasts_all (k0 : Ky) (l : List Ky) : LastsF k0 l (puts0 (k0 :: l)) := by
  obtain ⟨hr, hlen, hmem⟩ := puts0_all _ (k0 :: l) rfl
  obtain ⟨a1, a2, a3⟩ := lows_all l k0
  obtain ⟨b1, b2, b3⟩ := highs_all l k0
  obtain ⟨E, hE⟩ : ∃ E, E = puts0 (k0 :: l) := ⟨_, rfl⟩
  rw [← hE] at hr hlen hmem ⊢
  have hk : ∀ e ∈ E, e.1 = k0 ∨ e.1 ∈ l := fun e he => by
    have := (hmem e.1).1 ⟨e, he, rfl⟩
    exact List.mem_cons.1 this
  have hlo : ∃ e ∈ E, e.1 = lows k0 l := (hmem _).2 (by rcases a1 with h | h; rw [h]; exact List.mem_cons_self ..; exact List.mem_cons_of_mem _ h)
  have hhi : ∃ e ∈ E, e.1 = highs k0 l := (hmem _).2 (by rcases b1 with h | h; rw [h]; exact List.mem_cons_self ..; exact List.mem_cons_of_mem _ h)
  have hal : ∀ e ∈ E, ¬ klt e.1 (lows k0 l) := fun e he => by
    rcases hk e he with h | h
    · rw [h]; exact a2
    · exact a3 _ h
  have hah : ∀ e ∈ E, ¬ klt (highs k0 l) e.1 := fun e he => by
    rcases hk e he with h | h
    · rw [h]; exact b2
    · exact b3 _ h
  refine ⟨hlen, ?_, rise_first hr hlo hal, rise_last hr hhi hah, fun h => ?_, ?_, ?_, ?_, ?_⟩
  · obtain ⟨e, he, _⟩ := hlo
    exact List.length_pos_of_mem he
  · rw [go_take hr, inB_all, List.take_of_length_le h]
  · rw [go_take hr, inB_all]
  · obtain ⟨e, h1, h2⟩ := rise_top hr hhi hah
    exact ⟨e, by rw [go_take hr, h1]; rfl, h2⟩
  · rw [go_take hr, none_above hah]; rfl
  · rw [go_take hr, none_below hal]; rfl
end Go.Proofs.YtpjbdpepofnleaaGreat
end
section
namespace Go.Proofs.YtpjbdpepofnleaaGreat
open Go.RowKit Go.ChangeMaps Go.MapKept Go.Maps Go.Sort Go.Shelf
theorem bytesRow_at10 (s : ByteArray) (c j : Nat) (h : j < s.data.size) : (bytesRow s c)[j]? = some (.int .u8 (s.data[j].toNat : Int)) := by
  rw [bytesRow, Array.getElem?_append_left (by simpa using h)]
  simp [Array.getElem?_map, Array.getElem?_eq_getElem h]
theorem bytes_of_str {w : World} {bs : Ky} {c : Nat} {fz : Nat × Nat} {t : TypeId} (hc : bs.length ≤ c) : BytesAt (w.drew.alloc (.cells (bytesRow ⟨bs.toArray⟩ c) t fz)) (.slice (some ⟨w.heap.size, 0, none⟩) bs.length c) bs w.heap.size := by
  refine ⟨_, c, 0, rfl, hc, fun h0 => ⟨rfl, fun j u hu => ?_⟩⟩
  have hb : (w.drew.alloc (.cells (bytesRow ⟨bs.toArray⟩ c) t fz)).heap[w.heap.size]? = some (.cells (bytesRow ⟨bs.toArray⟩ c) t fz) := heap_alloc_new w.drew _
  rw [bcells_at] at hu
  obtain ⟨x, hx, rfl⟩ := Option.map_eq_some_iff.1 hu
  obtain ⟨hj, hx'⟩ := List.getElem?_eq_some_iff.1 hx
  have := bytesRow_at10 ⟨bs.toArray⟩ c j (by simpa using hj)
  rw [Nat.zero_add]
  simp only [World.cell?, hb]
  simp only [Option.isSome_none, Bool.false_eq_true, if_false]
  rw [this]
  simp [hx']
  rfl
theorem bytes_str (w : World) (bs : Ky) (_hb : bs.length ≤ 1000000) : ∃ w' c, (convert 9 23 (.string ⟨bs.toArray⟩)).run Tryz.prog w = .ok (.slice (some ⟨w.heap.size, 0, none⟩) bs.length c) w' ∧ BytesAt w' (.slice (some ⟨w.heap.size, 0, none⟩) bs.length c) bs w.heap.size ∧ Fr [] w w' ∧ w'.heap.size = w.heap.size + 1 := by
  have h := run_bytes_of_string (P := Tryz.prog) w 9 23 5 ⟨bs.toArray⟩ Tryz.underlying9 Tryz.underlying23 Tryz.underlying5
  have hs : (⟨bs.toArray⟩ : ByteArray).size = bs.length := by simp [ByteArray.size]
  have hge := grownCap_ge w (⟨bs.toArray⟩ : ByteArray).size 0 5
  rw [hs] at h hge
  exact ⟨_, _, h, bytes_of_str hge, ((Fr.refl [] w).drew).alloc _, by simp⟩
theorem str_list (k : Ky) : (⟨k.toArray⟩ : ByteArray).toList = k := by rw [ByteArray.toList_eq]
theorem min_str (ts : Array TypeId) (t : TypeId) (a b : Ky) (w : World) : (Builtin.min_ ts t #[.string ⟨a.toArray⟩, .string ⟨b.toArray⟩]).run Tryz.prog w = .ok (.string ⟨(lowK a b).toArray⟩) w := by
  have e : (decide (klt a b) || a == b) = !decide (klt b a) := by
    rcases klt_lt (a := a) (b := b) with h | h | h
    · have h2 : ¬ klt b a := fun h' => klt_irrefl _ (klt_trans h h')
      simp [h, h2]
    · subst h
      simp [klt_irrefl]
    · have h2 : ¬ klt a b := fun h' => klt_irrefl _ (klt_trans h h')
      have h3 : a ≠ b := fun e => by subst e; exact h2 h
      simp [h, h2, h3]
  simp only [Builtin.min_, List.foldlM_cons, List.foldlM_nil, Builtin.min2, Op.stringOp, str_list, less_klt, e]
  unfold lowK
  by_cases h : klt b a <;> simp [h, go_sem, asBool]
theorem max_str (ts : Array TypeId) (t : TypeId) (a b : Ky) (w : World) : (Builtin.max_ ts t #[.string ⟨a.toArray⟩, .string ⟨b.toArray⟩]).run Tryz.prog w = .ok (.string ⟨(highK a b).toArray⟩) w := by
  simp only [Builtin.max_, List.foldlM_cons, List.foldlM_nil, Builtin.max2, Op.stringOp, str_list, less_klt]
  unfold highK
  by_cases h : klt a b <;> simp [h, go_sem, asBool]
theorem add_zero_str (a : Ky) (h : a.length ≤ 1000000) (w : World) : (Op.stringOp .add ⟨a.toArray⟩ ⟨#[0]⟩).run Tryz.prog w = .ok (.string ⟨(a ++ [0]).toArray⟩) w := by
  have hs : (⟨a.toArray⟩ : ByteArray).size = a.length := by simp [ByteArray.size]
  have hs2 : (⟨#[0]⟩ : ByteArray).size = 1 := rfl
  have he : ((⟨a.toArray⟩ : ByteArray) ++ (⟨#[0]⟩ : ByteArray)) = ⟨(a ++ [0]).toArray⟩ := by
    apply ByteArray.ext
    rw [ByteArray.data_append]
    simp
  simp only [Op.stringOp, hs, hs2, he]
  rw [if_neg (by rw [show IntKind.i64.max = 9223372036854775807 from rfl]; omega)]
  rfl
theorem setR_twice (E : Nat → En) (t : Nat) (x y : En) : setR (setR E t x) t y = setR E t y := by
  funext j
  unfold setR
  split <;> rfl
end Go.Proofs.YtpjbdpepofnleaaGreat
end
section
namespace Go.Proofs.YtpjbdpepofnleaaGreat
open Go.RowKit Go.ChangeMaps Go.MapKept Go.Maps Go.Sort Go.Shelf
def only (t : Nat) (E : En) : Nat → En := setR (fun _ => []) t E
theorem only_at (t : Nat) (E : En) : only t E t = E := setR_at _ _ _
theorem only_put (t : Nat) (E E' : En) : setR (only t E) t E' = only t E' := setR_twice _ _ _ _
theorem only_rest (t : Nat) (E : En) : restE (only t E) t = [] := restE_0 fun _j hj => setR_off _ _ hj
theorem only_nil (t : Nat) : only t [] = fun _ => [] := by
  funext j
  unfold only setR
  split <;> rfl
theorem RangeEnd.open_ {X : Nat → Prop} {E : Nat → En} {t : Nat} {low : Ky} {up : Option Ky} {most : Nat} {w w' : World} {e : Ending} (h : RangeEnd X E t low up most w e w') {R : En} (hR : (goE low up most [] (E t)).1 = R) :
    ∃ A c, e = .returned (.tuple #[.slice A R.length c, .int .i64 0]) ∧ Fr [] w w' ∧ ∀ (i : Nat) (x : Ky × List UInt8), R[i]? = some x → ∃ g kg ko kc, A = some ⟨g, 0, none⟩ ∧ w'.cell? ⟨g, i * 2, none⟩ = some (.slice (some ⟨kg, ko, none⟩) x.1.length kc) ∧ BytesAt w' (.slice (some ⟨kg, ko, none⟩) x.1.length kc) x.1 kg ∨ x.1 = [] := by
  obtain ⟨ov, cs, rfl, hrow, hents, hf⟩ := h
  rw [hR] at hrow hents
  obtain ⟨A, c, rfl, _⟩ := own_shape hrow
  refine ⟨A, c, rfl, hf, fun i x hx => ?_⟩
  obtain ⟨kv, vv, c1, _, ⟨⟨kg, hk, _⟩, _⟩⟩ := hents.at_ hx
  by_cases h0 : x.1 = []
  · exact ⟨0, 0, 0, 0, .inr h0⟩
  · obtain ⟨g, hA, hcell⟩ := own_cell hrow (by have := (List.getElem?_eq_some_iff.1 hx).1; omega)
    obtain ⟨Ak, ck, ok, rfl, hck, hak⟩ := id hk
    obtain ⟨rfl, _⟩ := hak (List.length_pos_iff.2 h0)
    exact ⟨g, kg, ok, ck, .inl ⟨hA, hcell _ _ c1, hk⟩⟩
def KeyAt (w : World) (A : Option Addr) (i : Nat) (k : Ky) : Prop := ∃ g kg ko kc, A = some ⟨g, 0, none⟩ ∧ w.cell? ⟨g, i * 2, none⟩ = some (.slice (some ⟨kg, ko, none⟩) k.length kc) ∧ BytesAt w (.slice (some ⟨kg, ko, none⟩) k.length kc) k kg
theorem key_at {w' : World} {A : Option Addr} {R : En} (h : ∀ (i : Nat) (x : Ky × List UInt8), R[i]? = some x → ∃ g kg ko kc, A = some ⟨g, 0, none⟩ ∧ w'.cell? ⟨g, i * 2, none⟩ = some (.slice (some ⟨kg, ko, none⟩) x.1.length kc) ∧ BytesAt w' (.slice (some ⟨kg, ko, none⟩) x.1.length kc) x.1 kg ∨ x.1 = []) {i : Nat} {k : Ky} (hx : ∃ x, R[i]? = some x ∧ x.1 = k) (hk : 1 ≤ k.length) : KeyAt w' A i k := by
  obtain ⟨x, hx, rfl⟩ := hx
  obtain ⟨g, kg, ko, kc, h1 | h1⟩ := h i x hx
  · exact ⟨g, kg, ko, kc, h1⟩
  · rw [h1] at hk; simp at hk
theorem KeyAt.fr {w w' : World} {A : Option Addr} {i : Nat} {k : Ky} (h : KeyAt w A i k) (hf : Fr [] w w') : KeyAt w' A i k := by
  obtain ⟨g, kg, ko, kc, h1, h2, h3⟩ := h
  exact ⟨g, kg, ko, kc, h1, fr_keep hf h2, h3.fr hf (by simp)⟩
theorem put_only {w0 w w' : World} {dk g st n t : Nat} {s : PS} {X : Nat → Prop} {E : En} {key v : Ky} {e : Ending} (h : PutEnd w0 dk g st s X (only t E) t key v w e w') (hn : s.n = n) (hfew : 2 * (E.length + 1) < n) :
    ∃ s', e = .returned (.int .i64 0) ∧ s'.n = n ∧ StX w0 w' dk g st s' X (only t (putE E key v)) := by
  obtain ⟨s', hw, _, ⟨he, hs⟩ | ⟨_, _, _, hful⟩⟩ := h
  · rw [only_at, only_put] at hs
    exact ⟨s', he, by rw [hw.same.n, hn], hs⟩
  · rw [only_at, only_rest] at hful
    have := putE_len E key v
    simp only [List.length_nil] at hful
    omega
set_option maxRecDepth 100000 in
set_option maxHeartbeats 16000000 in
theorem lasts_walk (W : World) (v : Value) (l : List (Value × Ky)) (hv : ArgBB W v l) : Calls Tryz.prog 4 #[v] W fun e w' => e = .returned (.bool true) ∧ Fr [] W w' := by
  obtain ⟨A, c, gl, off, rfl, hmax, hel⟩ := hv
  refine calls_post fun R HQ => ?_
  go_enter Tryz.func4, Tryz.ntmps4
  go_wp2_with fail
  refine (awake10 W).mono ?_
  rintro e w1 ⟨rfl, hf1⟩
  have HF1 := Lib.hid hf1; have HEL := Lib.hid hel
  clear hf1 hel
  have HX1 := Lib.hid (HQ.out _ _ ⟨rfl, HF1.out⟩)
  by_cases h60 : 60 < l.length
  · have h60I : (60 : Int) < (l.length : Int) := by omega
    go_wp2_with fail
    exact HX1.out
  · have h60I : ¬ (60 : Int) < (l.length : Int) := by omega
    by_cases h0 : l.length = 0
    · have h0I : ((l.length : Nat) : Int) = 0 := by omega
      have h0b : (((l.length : Nat) : Int) == 0) = true := by simpa using h0I
      go_wp2_with fail
      exact HX1.out
    · have h0I : ¬ ((l.length : Nat) : Int) = 0 := by omega
      have h0b : (((l.length : Nat) : Int) == 0) = false := by simpa using h0I
      go_wp2_with fail
      refine (made_X w1 (n := 200) (by omega) (by omega)).mono ?_
      rintro e w2 ⟨dk, g, st, s, X, rfl, hm⟩
      have HM := Lib.hid hm
      clear hm
      obtain ⟨ks, hks⟩ : ∃ ks, ks = l.map (·.2) := ⟨_, rfl⟩
      have hkl : ks.length = l.length := by rw [hks, List.length_map]
      have HKS := Lib.hid hks; have HKL := Lib.hid hkl
      clear hks hkl
      go_wp2_with fail
      go_loopw [6] (fun v6 wr => ∃ (i : Nat) (s' : PS), i ≤ l.length ∧ v6 = .int .i64 (i : Int) ∧ StX w1 wr dk g st s' X (only 5 (puts0 (ks.take i))) ∧ s'.n = 200 ∧ ∀ k ∈ ks.take i, 1 ≤ k.length ∧ k.length ≤ 96) (fun v6 _ => l.length - (intOf v6).toNat)
      case atStart => exact ⟨0, s, Nat.zero_le _, rfl, by rw [List.take_zero, show puts0 [] = [] from rfl, only_nil]; exact HM.out.st, HM.out.n, fun k hk => by simp at hk⟩
      case round =>
        obtain ⟨i, s', hil, rfl, hst, hn, hval⟩ := hrel
        have ST := Lib.hid hst; have HN := Lib.hid hn; have HVAL := Lib.hid hval
        clear hst hn hval
        have HFR : Hid (Fr [] W wr) := Lib.hid (HF1.out.trans ST.out.px.frame (by simp))
        by_cases hi : i < l.length
        · obtain ⟨o, ho⟩ : ∃ o, l[i]? = some o := ⟨_, List.getElem?_eq_getElem hi⟩
          obtain ⟨hA, hcell, hby⟩ := HEL.out i o ho
          subst hA
          have hki : ks[i]? = some o.2 := by rw [HKS.out, List.getElem?_map, ho]; rfl
          have cr := HFR.out.keep hcell
          obtain ⟨ov, key⟩ := o
          obtain ⟨hbl, gk, hbk, hgk⟩ := hby
          simp only at cr hki hbl hbk hgk
          obtain ⟨Ak, ck, okk, rfl, hck, hak⟩ := id hbk
          have HX3 := Lib.hid (HQ.out (.returned (.bool true)) wr ⟨rfl, HFR.out⟩)
          have HKI := Lib.hid hki; have HBK := Lib.hid hbk; have HGK := Lib.hid hgk; have HO := Lib.hid ho
          clear ho hcell hki hbk hgk hck hak
          have hw1 : IntKind.i64.wrap ((i : Int) + 1) = (i : Int) + 1 := by rw [IntKind.wrap_i64]; omega
          by_cases h96 : 96 < key.length
          · have h96I : (96 : Int) < (key.length : Int) := by omega
            go_wp2_with fail
            exact HX3.out
          · have h96I : ¬ (96 : Int) < (key.length : Int) := by omega
            by_cases hk0 : key.length = 0
            · have hk0I : ((key.length : Nat) : Int) = 0 := by omega
              have hk0b : (((key.length : Nat) : Int) == 0) = true := by simpa using hk0I
              go_wp2_with fail
              exact HX3.out
            · have hk0I : ¬ ((key.length : Nat) : Int) = 0 := by omega
              have hk0b : (((key.length : Nat) : Int) == 0) = false := by simpa using hk0I
              have hgW : gk < W.heap.size := by
                rcases HGK.out with h | h
                · rw [h] at hk0; exact absurd rfl hk0
                · exact h
              have hXk : X gk := HM.out.old gk (by have := HF1.out.size; omega)
              have hlen := (puts0_all _ (ks.take i) rfl).2.1
              have htl : (ks.take i).length ≤ i := by rw [List.length_take]; omega
              have HPT := Lib.hid (Put_X ST.out (t := 5) (by omega) (HBK.out.fr HFR.out (by simp)) hXk (BytesAt.nil _ gk) hXk (by omega) (by omega) (by decide) (by rw [only_at]; omega))
              have HLEN : Hid (2 * ((puts0 (ks.take i)).length + 1) < 200) := Lib.hid (by omega)
              have HV96 : Hid (1 ≤ key.length ∧ key.length ≤ 96) := Lib.hid ⟨by omega, by omega⟩
              clear hgW hXk hlen htl
              go_wp2_with fail
              refine HPT.out.mono ?_
              rintro e w3 hend
              obtain ⟨s3, rfl, hn3, h3⟩ := put_only hend HN.out HLEN.out
              have HX : Hid (∃ (j : Nat) (s' : PS), j ≤ l.length ∧ Value.int .i64 ((i : Int) + 1) = .int .i64 (j : Int) ∧ StX w1 w3 dk g st s' X (only 5 (puts0 (ks.take j))) ∧ s'.n = 200 ∧ ∀ k ∈ ks.take j, 1 ≤ k.length ∧ k.length ≤ 96) := Lib.hid ⟨i + 1, s3, hi, rfl, by rw [take_one HKI.out, puts0_snoc]; exact h3, hn3, fun k hk => by
                rw [take_one HKI.out, List.mem_append, List.mem_singleton] at hk
                rcases hk with hk | rfl
                · exact HVAL.out k hk
                · exact HV96.out⟩
              clear hend h3 hn3 HPT
              go_wp2_with fail
              go_roundw
              case rel => exact HX.out
              case measure => simp [intOf]; omega
        · obtain rfl : i = l.length := by omega
          have htk : ks.take l.length = ks := by rw [← HKL.out]; exact List.take_length
          rw [htk] at ST HVAL
          clear htk
          cases l with
          | nil => exact absurd rfl h0
          | cons o0 rest =>
            obtain ⟨kr, hkr⟩ : ∃ kr, kr = rest.map (·.2) := ⟨_, rfl⟩
            have hksr : ks = o0.2 :: kr := by rw [HKS.out, hkr]; rfl
            rw [hksr] at ST HVAL
            obtain ⟨hA, hcell0, hbl0, gk0, hbk0, _⟩ := HEL.out 0 o0 rfl
            subst hA
            rw [Nat.add_zero] at hcell0
            obtain ⟨ov0, k0⟩ := o0
            simp only at hcell0 hbl0 hbk0 hksr ST HVAL
            obtain ⟨A0, c0, ok0, rfl, hck0, hak0⟩ := id hbk0
            have hk0v := HVAL.out k0 (List.mem_cons_self ..)
            obtain ⟨rfl, _⟩ := hak0 (by omega)
            have cr := HFR.out.keep hcell0
            have hcv0 := run_string_of (P := Tryz.prog) (src := 23) (dst := 9) Tryz.underlying23 Tryz.underlying5 Tryz.underlying9 (hbk0.fr HFR.out (by simp))
            have HLF := Lib.hid (lasts_all k0 kr)
            have HKR := Lib.hid hkr; have HKSR := Lib.hid hksr
            have hlenr : rest.length = kr.length := by rw [hkr, List.length_map]
            have HLR := Lib.hid hlenr
            have hpos : (0 : Int) < (((⟨.slice (some ⟨gk0, ok0, none⟩) k0.length c0, k0⟩ :: rest : List (Value × Ky)).length : Nat) : Int) := by simp only [List.length_cons]; omega
            clear hkr hksr hcell0 hbl0 hbk0 hck0 hak0 hk0v hlenr
            have hlen1 : (⟨.slice (some ⟨gk0, ok0, none⟩) k0.length c0, k0⟩ :: rest : List (Value × Ky)).length = rest.length + 1 := rfl
            rw [hlen1] at *
            have HR60 : Hid (rest.length + 1 ≤ 60) := Lib.hid (by have := h60; simp only [List.length_cons] at this; omega)
            go_wp2_with fail
            go_loopw [7, 8, 9] (fun v7 v8 v9 wq => ∃ i : Nat, 1 ≤ i ∧ i ≤ rest.length + 1 ∧ v9 = .int .i64 (i : Int) ∧ v7 = .string ⟨(lows k0 (kr.take (i - 1))).toArray⟩ ∧ v8 = .string ⟨(highs k0 (kr.take (i - 1))).toArray⟩ ∧ wq = wr) (fun _ _ v9 _ => rest.length + 1 - (intOf v9).toNat)
            case atStart => exact ⟨1, Nat.le_refl _, by omega, rfl, rfl, rfl, rfl⟩
            case round =>
              obtain ⟨i, hi1, hil2, rfl, rfl, rfl, rfl⟩ := hrel
              clear cr hcv0
              by_cases hi2 : i < rest.length + 1
              · obtain ⟨o, ho⟩ : ∃ o, rest[i - 1]? = some o := ⟨_, List.getElem?_eq_getElem (by omega)⟩
                have ho' : (⟨.slice (some ⟨gk0, ok0, none⟩) k0.length c0, k0⟩ :: rest : List (Value × Ky))[i]? = some o := by
                  obtain ⟨j, rfl⟩ : ∃ j, i = j + 1 := ⟨i - 1, by omega⟩
                  simpa using ho
                obtain ⟨_, hcelli, hbli, gki, hbki, _⟩ := HEL.out i o ho'
                obtain ⟨ovi, ki⟩ := o
                simp only at hcelli hbli hbki
                have hkri : kr[i - 1]? = some ki := by rw [HKR.out, List.getElem?_map, ho]; rfl
                obtain ⟨Ai, ci, oki, rfl, hcki, haki⟩ := id hbki
                have cri := HFR.out.keep hcelli
                have hcvi := run_string_of (P := Tryz.prog) (src := 23) (dst := 9) Tryz.underlying23 Tryz.underlying5 Tryz.underlying9 (hbki.fr HFR.out (by simp))
                have hmin := fun ts t w => min_str ts t (lows k0 (kr.take (i - 1))) ki w
                have hmax := fun ts t w => max_str ts t (highs k0 (kr.take (i - 1))) ki w
                have hw1 : IntKind.i64.wrap ((i : Int) + 1) = (i : Int) + 1 := by have := HR60.out; rw [IntKind.wrap_i64]; omega
                have HX : Hid (∃ j : Nat, 1 ≤ j ∧ j ≤ rest.length + 1 ∧ Value.int .i64 ((i : Int) + 1) = .int .i64 (j : Int) ∧ Value.string ⟨(lowK (lows k0 (kr.take (i - 1))) ki).toArray⟩ = .string ⟨(lows k0 (kr.take (j - 1))).toArray⟩ ∧ Value.string ⟨(highK (highs k0 (kr.take (i - 1))) ki).toArray⟩ = .string ⟨(highs k0 (kr.take (j - 1))).toArray⟩ ∧ True) := Lib.hid ⟨i + 1, by omega, by omega, rfl, by
                  rw [show i + 1 - 1 = (i - 1) + 1 by omega, take_one hkri]
                  unfold lows
                  rw [foldl_snoc], by
                  rw [show i + 1 - 1 = (i - 1) + 1 by omega, take_one hkri]
                  unfold highs
                  rw [foldl_snoc], trivial⟩
                have hi2I : (i : Int) < ((rest.length + 1 : Nat) : Int) := by omega
                clear ho ho' hcelli hbli hbki hkri hcki haki
                go_wp2_with fail
                go_roundw
                case rel => exact HX.out
                case measure => simp [intOf]; omega
              · obtain rfl : i = rest.length + 1 := by omega
                have htk2 : kr.take (rest.length + 1 - 1) = kr := by rw [show rest.length + 1 - 1 = kr.length by have := HLR.out; omega]; exact List.take_length
                rw [htk2]
                clear htk2
                obtain ⟨lo, hlo⟩ : ∃ lo, lo = lows k0 kr := ⟨_, rfl⟩
                obtain ⟨hi, hhi⟩ : ∃ hi, hi = highs k0 kr := ⟨_, rfl⟩
                obtain ⟨E, hE⟩ : ∃ E, E = puts0 (k0 :: kr) := ⟨_, rfl⟩
                obtain ⟨f1, f2, f3, f4, f5, f6, f7, f8, f9⟩ := HLF.out
                have hlov : 1 ≤ lo.length ∧ lo.length ≤ 96 := by
                  rw [hlo]
                  rcases (lows_all kr k0).1 with h | h
                  · rw [h]; exact HVAL.out k0 (List.mem_cons_self ..)
                  · exact HVAL.out _ (List.mem_cons_of_mem _ h)
                have hhiv : 1 ≤ hi.length ∧ hi.length ≤ 96 := by
                  rw [hhi]
                  rcases (highs_all kr k0).1 with h | h
                  · rw [h]; exact HVAL.out k0 (List.mem_cons_self ..)
                  · exact HVAL.out _ (List.mem_cons_of_mem _ h)
                rw [← hE, ← hlo] at f3
                rw [← hE, ← hhi] at f4 f7
                rw [← hE] at f1 f2 f5 f6 ST
                rw [← hE, ← hhi] at f8
                rw [← hE, ← hlo] at f9
                rw [← hlo, ← hhi]
                have hN60 : E.length ≤ 60 := by have := HLR.out; have := HR60.out; omega
                have HLO := Lib.hid hlov; have HHI := Lib.hid hhiv; have F2 := Lib.hid f2; have F3 := Lib.hid f3; have F4 := Lib.hid f4; have F5 := Lib.hid f5; have F6 := Lib.hid f6; have F7 := Lib.hid f7; have F8 := Lib.hid f8; have F9 := Lib.hid f9; have HN60 := Lib.hid hN60
                clear hlo hhi hE hlov hhiv f1 f2 f3 f4 f5 f6 f7 f8 f9 hN60 HLF HVAL
                have hadd := add_zero_str hi (by have := HHI.out; omega)
                have HRG := Lib.hid (Range_X ST.out (t := 5) (up := none) (most := 1000) (low := []) (by omega) (BytesAt.nil _ st) ST.out.xs rfl (by omega) (by rw [only_at]; have := HN60.out; omega))
                go_wp2_with fail
                refine HRG.out.mono ?_
                rintro e wa hend
                obtain ⟨Aa, ca, rfl, hfa, hxa⟩ := hend.open_ (R := E) (by rw [only_at]; exact F5.out (by have := HN60.out; omega))
                have HKF := Lib.hid (key_at hxa F3.out HLO.out.1)
                have HKL := Lib.hid (key_at hxa F4.out HHI.out.1)
                have SA := Lib.hid (ST.out.stay hfa); have HFA := Lib.hid hfa
                clear hend hfa hxa HRG
                have HRG := Lib.hid (Range_X SA.out (t := 5) (up := none) (most := 1) (low := []) (by omega) (BytesAt.nil _ st) SA.out.xs rfl (by omega) (by rw [only_at]; have := HN60.out; omega))
                go_wp2_with fail
                refine HRG.out.mono ?_
                rintro e wb hend
                obtain ⟨Ab, cb, rfl, hfb, hxb⟩ := hend.open_ (R := E.take 1) (by rw [only_at]; exact F6.out)
                have HKO := Lib.hid (key_at hxb (i := 0) (k := lo) (by
                  obtain ⟨e, h1, h2⟩ := F3.out
                  exact ⟨e, by rw [List.getElem?_take, if_pos (by omega)]; exact h1, h2⟩) HLO.out.1)
                have hl1 : (E.take 1).length = 1 := by rw [List.length_take]; have := F2.out; omega
                rw [hl1]
                have SB := Lib.hid (SA.out.stay hfb); have HFB := Lib.hid hfb
                clear hend hfb hxb HRG hl1
                obtain ⟨wc, cc, hcv, hbc, hfc, hzc⟩ := bytes_str wb hi (by have := HHI.out; omega)
                have HRG := Lib.hid (Range_X (SB.out.fr hfc) (t := 5) (up := none) (most := 1000) (low := hi) (by omega) hbc (.inr ⟨Nat.le_refl _, by omega⟩) rfl (by omega) (by rw [only_at]; have := HN60.out; omega))
                have HFC := Lib.hid hfc
                clear hbc hfc hzc
                go_wp2_with fail
                refine HRG.out.mono ?_
                rintro e wd hend
                obtain ⟨e3, h3, hk3⟩ := F7.out
                obtain ⟨Ad, cd, rfl, hfd, hxd⟩ := hend.open_ (R := [e3]) (by rw [only_at]; exact h3)
                have HKT := Lib.hid (key_at hxd (i := 0) (k := hi) ⟨e3, rfl, hk3⟩ HHI.out.1)
                have SD := Lib.hid (SB.out.stay (HFC.out.trans hfd (by simp))); have HFD := Lib.hid (HFC.out.trans hfd (by simp))
                clear hend hfd hxd HRG hcv h3 hk3
                obtain ⟨wf, cf, hcv, hbf, hff, hzf⟩ := bytes_str wd (hi ++ [0]) (by have := HHI.out; rw [List.length_append, List.length_singleton]; omega)
                have hl9 : (hi ++ [0]).length = hi.length + 1 := by rw [List.length_append, List.length_singleton]
                rw [hl9] at hcv hbf
                clear hl9
                have HRG := Lib.hid (Range_X (SD.out.fr hff) (t := 5) (up := none) (most := 1000) (low := hi ++ [0]) (by omega) hbf (.inr ⟨Nat.le_refl _, by omega⟩) rfl (by omega) (by rw [only_at]; have := HN60.out; omega))
                have HFF := Lib.hid hff
                clear hbf hff hzf
                go_wp2_with fail
                refine HRG.out.mono ?_
                rintro e wg hend
                obtain ⟨Ag, cg, rfl, hfg, -⟩ := hend.open_ (R := []) (by rw [only_at]; exact F8.out)
                have SG := Lib.hid (SD.out.stay (HFF.out.trans hfg (by simp))); have HFG := Lib.hid (HFF.out.trans hfg (by simp))
                clear hend hfg HRG hcv
                obtain ⟨wh, ch, hcv, hbh, hfh, hzh⟩ := bytes_str wg lo (by have := HLO.out; omega)
                have HRG := Lib.hid (Range_X (SG.out.fr hfh) (t := 5) (up := some lo) (most := 1000) (low := []) (by omega) (BytesAt.nil _ st) (.inl SG.out.xs) ⟨_, _, _, wg.heap.size, rfl, hbh, .inr ⟨Nat.le_refl _, by omega⟩⟩ (by omega) (by rw [only_at]; have := HN60.out; omega))
                have HFH := Lib.hid hfh
                clear hbh hfh hzh
                go_wp2_with fail
                refine HRG.out.mono ?_
                rintro e wz hend
                obtain ⟨Az, cz, rfl, hfz, -⟩ := hend.open_ (R := []) (by rw [only_at]; exact F9.out)
                have HFZ := Lib.hid (HFH.out.trans hfz (by simp))
                clear hend hfz HRG hcv
                have hfdz : Fr [] wd wz := HFG.out.trans HFZ.out (by simp)
                have hfbz : Fr [] wb wz := HFD.out.trans hfdz (by simp)
                have hfaz : Fr [] wa wz := HFB.out.trans hfbz (by simp)
                obtain ⟨ga, ka1, oa1, na1, rfl, r1, b1⟩ := HKF.out.fr hfaz
                obtain ⟨ga', ka2, oa2, na2, hga, r2, b2⟩ := HKL.out.fr hfaz
                obtain rfl : ga = ga' := by injection hga with h; injection h
                obtain ⟨gb, kb, ob, nb, rfl, r3, b3⟩ := HKO.out.fr hfbz
                obtain ⟨gd, kd, od, nd, rfl, r4, b4⟩ := HKT.out.fr hfdz
                have r1' : wz.cell? ⟨ga, 0, none⟩ = some (.slice (some ⟨ka1, oa1, none⟩) lo.length na1) := r1
                have r3' : wz.cell? ⟨gb, 0, none⟩ = some (.slice (some ⟨kb, ob, none⟩) lo.length nb) := r3
                have r4' : wz.cell? ⟨gd, 0, none⟩ = some (.slice (some ⟨kd, od, none⟩) hi.length nd) := r4
                have v1 := run_string_of (P := Tryz.prog) (src := 23) (dst := 9) Tryz.underlying23 Tryz.underlying5 Tryz.underlying9 b1
                have v2 := run_string_of (P := Tryz.prog) (src := 23) (dst := 9) Tryz.underlying23 Tryz.underlying5 Tryz.underlying9 b2
                have v3 := run_string_of (P := Tryz.prog) (src := 23) (dst := 9) Tryz.underlying23 Tryz.underlying5 Tryz.underlying9 b3
                have v4 := run_string_of (P := Tryz.prog) (src := 23) (dst := 9) Tryz.underlying23 Tryz.underlying5 Tryz.underlying9 b4
                have HX := Lib.hid (HQ.out (.returned (.bool true)) wz ⟨rfl, HFR.out.trans (HFA.out.trans hfaz (by simp)) (by simp)⟩)
                have n1 : ¬ ((E.length : Nat) : Int) = 0 := by have := F2.out; omega
                have n2 : (((E.length : Nat) : Int) == 0) = false := by simpa using n1
                have n3 : (0 : Int) < ((E.length : Nat) : Int) := by omega
                have n4 : IntKind.i64.wrap (((E.length : Nat) : Int) - 1) = ((E.length - 1 : Nat) : Int) := by have := HN60.out; rw [IntKind.wrap_i64]; omega
                have n5 : ((E.length - 1 : Nat) : Int) < ((E.length : Nat) : Int) := by omega
                clear r1 r3 r4 b1 b2 b3 b4 hga hfdz hfbz hfaz hadd
                go_wp2_with fail
                exact HX.out
end Go.Proofs.YtpjbdpepofnleaaGreat
end
