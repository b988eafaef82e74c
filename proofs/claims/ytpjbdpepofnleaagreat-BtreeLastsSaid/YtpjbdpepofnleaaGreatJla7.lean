/-
  Joined by join.py: Pc RegIn Pd Pe
-/
import Derived.RangeFuncNested
import Derived.RangeFuncBound
import Derived.RangeFuncCalls
import Derived.RangeFuncLeaves
import Derived.RangeFuncBox
import Derived.Shelf.Abstract
import Derived.Shelf.RegionOpen
import Derived.WalkKit
import Derived.OwnWalkIn
import Derived.TacticsInMore
import Derived.LoopNIn
import Derived.LoopIn
import Derived.ControlIn
import Derived.Maps.OwnIn
import Derived.Test.YtpjbdpepofnleaaGreatJla6
section
namespace Go.Proofs.YtpjbdpepofnleaaGreat
open Go.RowKit
structure Calm (s : PS) : Prop where
  dead : s.D.dead = false
  pend : s.D.P = []
  fit : s.l.n + 8 * s.n ≤ s.D.S.length
theorem PInv.calm {c : Nat} {s : PS} {C : Nat → List UInt8} (h : PInv c s C) : Calm s := ⟨h.dead, h.pend, h.fit⟩
def PgAns (w : World) (b : List UInt8) (e : Ending) (w' : World) : Prop := ∃ v gb, e = .returned (.tuple #[v, .int .i64 0]) ∧ BytesAt w' v b gb ∧ w.heap.size ≤ gb ∧ Fr [] w w'
def homeI (S : List (List UInt8)) (log k i : Nat) : List UInt8 := ((S.drop (log + 8 * k)).take i).flatten
theorem homeI_len {S : List (List UInt8)} {log k i : Nat} (hS : ∀ s ∈ S, s.length = 64) (h : log + 8 * k + i ≤ S.length) : (homeI S log k i).length = 64 * i := by
  unfold homeI
  rw [flat_len (fun s hs => hS s (List.mem_of_mem_drop (List.mem_of_mem_take hs))), List.length_take, List.length_drop]
  omega
theorem homeI_succ {S : List (List UInt8)} {log k i : Nat} (h : log + 8 * k + i < S.length) : homeI S log k (i + 1) = homeI S log k i ++ S.getD (log + 8 * k + i) [] := by
  unfold homeI
  rw [List.take_succ_eq_append_getElem (by rw [List.length_drop]; omega), List.flatten_append, List.getElem_drop]
  simp [List.getD, List.getElem?_eq_getElem h]
def HmRel (w : World) (S : List (List UInt8)) (log k : Nat) (v6 v10 : Value) (wr : World) : Prop :=
  ∃ i : Nat, i ≤ 8 ∧ v10 = .int .i64 (i : Int) ∧ wr.ownsRow 0 5 1 v6 (64 * i) (bcells (homeI S log k i)) ∧ (∀ x, v6.ownBlock = some x → w.heap.size ≤ x) ∧ Fr [] w wr
set_option maxRecDepth 100000 in
set_option maxHeartbeats 2000000 in
theorem home_P {w : World} {g d lg bl bh : Nat} {s : PS} {fp : List Nat} (h : PgrAt w g d lg bl bh s fp) (hc : Calm s) (k : Nat) (hk : k < s.n) :
    Calls Tryz.prog 95 #[.pointer (some ⟨g, 0, none⟩), .int .i64 (k : Int)] w (PgAns w (homeP s.D.S s.l.n k)) := by
  refine calls_post fun R HQ => ?_
  have HA := Lib.hid h
  have hok := h.jn.disk.ok
  have hmost := hok.most
  have hfit := hc.fit
  have hsec := hok.sec
  have hn := h.few
  have HOK := Lib.hid hok; have HC := Lib.hid hc; have HSEC := Lib.hid hsec
  clear h hok hc hsec
  go_enter Tryz.func95, Tryz.ntmps95
  go_wp2_with fail
  go_loopw [6, 10] (HmRel w s.D.S s.l.n k) (fun _ v _ => 8 - (intOf v).toNat)
  case atStart => exact ⟨0, by omega, rfl, by unfold homeI; rw [List.take_zero]; exact own_nil _ _ _ _, by simp [Value.ownBlock], Fr.refl _ _⟩
  case round =>
    obtain ⟨i, hi, rfl, hown, hge, hf⟩ := hrel
    obtain ⟨oA, oc, rfl, hoc, _⟩ := own_shape hown
    have HOWN := Lib.hid hown; have HGE := Lib.hid hge; have HF := Lib.hid hf
    have hAr := HA.out.fr hf (by simp)
    have HAR := Lib.hid hAr
    have c0 := hAr.blk.at_ (i := 0) rfl
    have c3 := hAr.blk.at_ (i := 3) rfl
    clear hown hge hf hAr
    by_cases hi8 : i < 8
    · have x1 : IntKind.i64.wrap (8 * (k : Int)) = 8 * (k : Int) := by rw [IntKind.wrap_i64]; omega
      have x2 : IntKind.i64.wrap ((s.l.n : Int) + 8 * (k : Int)) = (s.l.n : Int) + 8 * (k : Int) := by rw [IntKind.wrap_i64]; omega
      have x3 : IntKind.i64.wrap ((s.l.n : Int) + 8 * (k : Int) + (i : Int)) = (s.l.n : Int) + 8 * (k : Int) + (i : Int) := by rw [IntKind.wrap_i64]; omega
      go_wp2_with fail
      refine wp_region_K (fun W => W.cell? ⟨g, 0, none⟩ = some (.pointer (some ⟨d, 0, none⟩)) ∧ W.cell? ⟨g, 3, none⟩ = some (.int .i64 (s.l.n : Int))) [0, 1, 2, 3, 4, 5, 6, 7, 8, 9, 10, 11, 12, 14, 15, 16] (by kernel_rfl) ?_
      refine wpAnyK_take (i := 0) (some 14) ?vq1_0 rfl rfl (by kernel_rfl) (fun _ _ _ h => h) ⟨c0, c3⟩ (.inl ⟨rfl, fun W hW => ?yq1_0⟩) ?_
      case yq1_0 => (obtain ⟨c0', c3'⟩ := hW; go_simp) <;> with_reducible rfl
      simp only [nrm]
      refine wpAnyK_take (i := 1) (some 15) ?vq1_1 rfl rfl (by kernel_rfl) (fun _ _ _ h => h) ⟨c0, c3⟩ (.inl ⟨rfl, fun W hW => ?yq1_1⟩) ?_
      case yq1_1 => (obtain ⟨c0', c3'⟩ := hW; go_simp) <;> with_reducible rfl
      simp only [nrm]
      refine wpAnyK_take (i := 2) (some 16) ?vq1_2 rfl rfl (by kernel_rfl) (fun _ _ _ h => h) ⟨c0, c3⟩ (.inl ⟨rfl, fun W hW => ?yq1_2⟩) ?_
      case yq1_2 => (obtain ⟨c0', c3'⟩ := hW; go_simp) <;> with_reducible rfl
      simp only [nrm]
      refine wpAnyK_take (i := 3) (some 17) ?vq1_3 rfl rfl (by kernel_rfl) (fun _ _ _ h => h) ⟨c0, c3⟩ (.inl ⟨rfl, fun W hW => ?yq1_3⟩) ?_
      case yq1_3 => (obtain ⟨c0', c3'⟩ := hW; go_simp) <;> with_reducible rfl
      simp only [nrm]
      refine wpAnyK_take (i := 4) (some 18) ?vq1_4 rfl rfl (by kernel_rfl) (fun _ _ _ h => h) ⟨c0, c3⟩ (.inl ⟨rfl, fun W hW => ?yq1_4⟩) ?_
      case yq1_4 => (obtain ⟨c0', c3'⟩ := hW; go_simp) <;> with_reducible rfl
      simp only [nrm]
      refine wpAnyK_take (i := 5) (some 19) ?vq1_5 rfl rfl (by kernel_rfl) (fun _ _ _ h => h) ⟨c0, c3⟩ (.inl ⟨rfl, fun W hW => ?yq1_5⟩) ?_
      case yq1_5 => (obtain ⟨c0', c3'⟩ := hW; go_simp) <;> with_reducible rfl
      simp only [nrm]
      refine wpAnyK_take (i := 6) (some 20) ?vq1_6 rfl rfl (by kernel_rfl) (fun _ _ _ h => h) ⟨c0, c3⟩ (.inl ⟨rfl, fun W hW => ?yq1_6⟩) ?_
      case yq1_6 => (obtain ⟨c0', c3'⟩ := hW; go_simp) <;> with_reducible rfl
      simp only [nrm]
      refine wpAnyK_take (i := 7) (some 21) ?vq1_7 rfl rfl (by kernel_rfl) (fun _ _ _ h => h) ⟨c0, c3⟩ (.inl ⟨rfl, fun W hW => ?yq1_7⟩) ?_
      case yq1_7 => (obtain ⟨c0', c3'⟩ := hW; go_simp) <;> with_reducible rfl
      simp only [nrm]
      refine wpAnyK_take (i := 8) (some 22) ?vq1_8 rfl rfl (by kernel_rfl) (fun _ _ _ h => h) ⟨c0, c3⟩ (.inl ⟨rfl, fun W hW => ?yq1_8⟩) ?_
      case yq1_8 => (obtain ⟨c0', c3'⟩ := hW; go_simp) <;> with_reducible rfl
      simp only [nrm]
      refine wpAnyK_take (i := 9) (some 23) ?vq1_9 rfl rfl (by kernel_rfl) (fun _ _ _ h => h) ⟨c0, c3⟩ (.inl ⟨rfl, fun W hW => ?yq1_9⟩) ?_
      case yq1_9 => (obtain ⟨c0', c3'⟩ := hW; go_simp) <;> with_reducible rfl
      simp only [nrm]
      refine wpAnyK_take (i := 10) (some 24) ?vq1_10 rfl rfl (by kernel_rfl) (fun _ _ _ h => h) ⟨c0, c3⟩ (.inl ⟨rfl, fun W hW => ?yq1_10⟩) ?_
      case yq1_10 => (obtain ⟨c0', c3'⟩ := hW; go_simp) <;> with_reducible rfl
      simp only [nrm]
      refine wpAnyK_take (i := 11) (some 25) ?vq1_11 rfl rfl (by kernel_rfl) (fun _ _ _ h => h) ⟨c0, c3⟩ (.inl ⟨rfl, fun W hW => ?yq1_11⟩) ?_
      case yq1_11 => (obtain ⟨c0', c3'⟩ := hW; go_simp) <;> with_reducible rfl
      simp only [nrm]
      refine wpAnyK_take (i := 12) (some 26) ?vq1_12 rfl rfl (by kernel_rfl) (fun _ _ _ h => h) ⟨c0, c3⟩ (.inl ⟨rfl, fun W hW => ?yq1_12⟩) ?_
      case yq1_12 => (obtain ⟨c0', c3'⟩ := hW; go_simp) <;> with_reducible rfl
      simp only [nrm]
      refine wpAnyK_step (j := 13) (some 27) rfl rfl (by kernel_rfl) rfl fun K hK => ?_
      have hdr : Fr [] wr wr.drew := (Fr.refl [] wr).drew
      refine wp_call_f (l := [.tmp 17, .tmp 26]) rfl [.pointer (some ⟨d, 0, none⟩), .int .i64 ((s.l.n : Int) + 8 * (k : Int) + (i : Int))] rfl (enter_read _) ((read_at (HAR.out.jn.disk.fr hdr (by simp)) ((s.l.n : Int) + 8 * (k : Int) + (i : Int))).mono ?_)
      rintro e w1 ⟨v, q, rfl, hbv, hgw, hf1, hyes, _⟩
      have hE : s.D.readE ((s.l.n : Int) + 8 * (k : Int) + (i : Int)) = 0 := by
        unfold DM.readE
        rw [HC.out.dead, if_neg (by simp), if_neg (by omega)]
      have hR : s.D.read ((s.l.n : Int) + 8 * (k : Int) + (i : Int)) = s.D.S.getD (s.l.n + 8 * k + i) [] := by
        unfold DM.read
        rw [if_pos hE, show ((s.l.n : Int) + 8 * (k : Int) + (i : Int)).toNat = s.l.n + 8 * k + i by omega]
        unfold DM.look
        rw [HC.out.pend]
        rfl
      obtain ⟨rfl, hblk⟩ := hyes hE
      rw [hR] at hblk
      have hf1' : Fr [] wr w1 := hdr.trans hf1 (by simp)
      have hA1 := HAR.out.fr hf1' (by simp)
      have c03 : w1.cell? ⟨g, 0, none⟩ = some (.pointer (some ⟨d, 0, none⟩)) ∧ w1.cell? ⟨g, 3, none⟩ = some (.int .i64 (s.l.n : Int)) := ⟨hA1.blk.at_ (i := 0) rfl, hA1.blk.at_ (i := 3) rfl⟩
      rw [hE]
      refine ⟨_, rfl, hK _ _ (fun _ => c03) ?_⟩
      simp only [nrm]
      refine wpAnyK_take (i := 14) (some 13) ?vq1_14 rfl rfl (by kernel_rfl) (fun _ _ _ h => h) c03 (.inl ⟨rfl, fun W hW => ?yq1_14⟩) ?_
      case yq1_14 => (obtain ⟨c0', c3'⟩ := hW; go_simp) <;> with_reducible rfl
      simp only [nrm]
      refine wpAnyK_take (i := 15) (some 28) ?vq1_15 rfl rfl (by kernel_rfl) (fun _ _ _ h => h) c03 (.inl ⟨rfl, fun W hW => ?yq1_15⟩) ?_
      case yq1_15 => (obtain ⟨c0', c3'⟩ := hW; go_simp) <;> with_reducible rfl
      simp only [nrm]
      refine wpAnyK_take (i := 16) (some 29) ?vq1_16 rfl rfl (by kernel_rfl) (fun _ _ _ h => h) c03 (.inl ⟨rfl, fun W hW => ?yq1_16⟩) ?_
      case yq1_16 => (obtain ⟨c0', c3'⟩ := hW; go_simp) <;> with_reducible rfl
      simp only [nrm]
      refine wpAnyK_step (j := 17) (some 8) rfl rfl (by kernel_rfl) rfl fun K hK => ?_
      refine wp_run_same (v := ?aq1_17) ?yq1_17 (hK _ _ (fun _ => c03) ?_)
      case yq1_17 => go_simp <;> with_reducible rfl
      simp only [nrm]
      refine wpAnyK_step (j := 18) (some 9) rfl rfl (by kernel_rfl) rfl fun K hK => ?_
      refine wp_run_same (v := ?aq1_18) ?yq1_18 (hK _ _ (fun _ => c03) ?_)
      case yq1_18 => go_simp <;> with_reducible rfl
      simp only [nrm]
      refine wpAnyK_done (by kernel_rfl) ?_ _
      obtain ⟨sc, hsc⟩ : ∃ sc, sc = s.D.S.getD (s.l.n + 8 * k + i) [] := ⟨_, rfl⟩
      rw [← hsc] at hblk
      have hscl : sc.length = 64 := by
        rw [hsc, List.getD, List.getElem?_eq_getElem (by omega : s.l.n + 8 * k + i < s.D.S.length), Option.getD_some]
        exact HSEC.out _ (List.getElem_mem _)
      have HSC := Lib.hid hsc; have HBLK := Lib.hid hblk; have HF1 := Lib.hid hf1'; have HSCL := Lib.hid hscl
      have hown1 := own_fr HOWN.out hf1' (by simp)
      have HO1 := Lib.hid hown1
      clear hbv hgw hf1 hyes hE hR hA1 c03 hdr hK hsc hblk hf1' hscl hown1 c0 c3 x1 x2 x3
      go_upto_region 9 with fail
      refine wp_region_lit ?_
      refine wpList_plain rfl fun K hK => ?_
      refine wp_run_same (v := ?au3_0) ?yu3_0 (hK _ _ ?_)
      case yu3_0 => go_simp <;> with_reducible rfl
      clear hK K
      simp only [nrm]
      refine wpList_plain rfl fun K hK => ?_
      refine wp_run_same (v := ?au4_1) ?yu4_1 (hK _ _ ?_)
      case yu4_1 => go_simp <;> with_reducible rfl
      clear hK K
      simp only [nrm]
      obtain ⟨iu, hi', hz', hsz', hby⟩ := info_parts info_u8
      refine wpList_plain rfl fun K hK => ?_
      refine wp_append_fr (.tmp 36) (.tmp 37) rfl 5 1 1 Tryz.underlying23 hi' hz' hsz' hby rfl (by omega) (.slice oA (64 * i) oc) (64 * i) (bcells (homeI s.D.S s.l.n k i)) rfl HO1.out ⟨q, 0, none⟩ 64 64 (bcells sc) rfl (by rw [bcells_len, HSCL.out]) (fun j u hu => by rw [Addr.add_mid, Nat.zero_add]; exact HBLK.out.at_ hu) (bcells_one _) (by omega) (by unfold maxLen; omega) (by omega) w1.heap.size rfl fun g9 cap9 w9 ho9 hf9 hat9 hlt9 => hK _ _ ?_
      simp only [nrm]
      clear hK
      refine wpList_plain rfl fun K hK => ?_
      refine wp_run_same (v := ?au5_3) ?yu5_3 (hK _ _ ?_)
      case yu5_3 => go_simp <;> with_reducible rfl
      clear hK K
      simp only [nrm]
      refine wpList_nil ?_
      have HX : Hid (HmRel w s.D.S s.l.n k (.slice (some ⟨g9, 0, none⟩) (64 * i + 64) cap9) (.int .i64 ((i : Int) + 1)) w9) := Lib.hid (by
        refine ⟨i + 1, by omega, by go_num, ?_, ?_, ?_⟩
        · rw [homeI_succ (by omega), bcells_append, ← HSC.out]
          exact ho9
        · intro x hx
          simp [Value.ownBlock] at hx
          subst hx
          rcases hat9 with h | h
          · exact HGE.out _ h
          · have := (HF.out.trans HF1.out (by simp)).size; omega
        · exact (HF.out.trans HF1.out (by simp)).trans hf9 (fun x hx => .inr (HGE.out x (by simpa using hx))))
      clear ho9 hf9 hat9 hlt9 hi' hz' hsz' hby HO1
      go_wp2_with fail
      go_roundw
      case rel => exact HX.out
      case measure => simp [intOf]; omega
    · obtain rfl : i = 8 := by omega
      have HX : Hid (∃ gb, BytesAt wr (.slice oA (64 * 8) oc) (homeP s.D.S s.l.n k) gb ∧ w.heap.size ≤ gb) := Lib.hid (by
        have h := HOWN.out
        have hl : (homeI s.D.S s.l.n k 8).length = 64 * 8 := homeI_len HSEC.out (by omega)
        rw [← hl] at h ⊢
        exact bytes_of_own h (by rw [hl]; exact HGE.out))
      clear c0 c3
      go_wp2_with fail
      obtain ⟨gb, h1, h2⟩ := HX.out
      exact HQ.out _ _ ⟨_, gb, rfl, h1, h2, HF.out⟩
theorem build_maps (a b : Nat) (w : World) : (Instr.buildSlice 172 2 #[(0, .map (some a)), (1, .map (some b))]).run Tryz.prog w = .ok (.slice (some ⟨w.heap.size, 0, none⟩) 2 2) (w.alloc (.cells #[.map (some a), .map (some b)] 116)) := by kernel_rfl
theorem slice_whole (q : Nat) (W : World) : (Instr.sliceAt 123 (.pointer (some ⟨q, 0, none⟩)) none none none).run Tryz.prog W = .ok (.slice (some ⟨q, 0, none⟩) 512 512) W := by kernel_rfl
def PS.page (s : PS) (k : Nat) : List UInt8 := (getP s.late k).getD ((getP s.held k).getD (homeP s.D.S s.l.n k))
theorem PInv.page_eq {c : Nat} {s : PS} {C : Nat → List UInt8} (h : PInv c s C) {k : Nat} (hk : k < s.n) : s.page k = over C s.late k := by
  unfold PS.page over
  rw [h.cont k hk]
def RdRel (w2 : World) (s : PS) (k : Nat) (v34 : Value) (wr : World) : Prop :=
  ∃ j : Nat, j ≤ 2 ∧ v34 = .int .i64 (j : Int) ∧ (0 < j → getP s.late k = none) ∧ (1 < j → getP s.held k = none) ∧ Fr [] w2 wr
set_option maxRecDepth 100000 in
set_option maxHeartbeats 2000000 in
theorem read_P {w : World} {g d lg bl bh : Nat} {s : PS} {fp : List Nat} (h : PgrAt w g d lg bl bh s fp) (hbr : s.br = false) (hc : Calm s) (k : Nat) (hk : k < s.n) :
    Calls Tryz.prog 60 #[.pointer (some ⟨g, 0, none⟩), .int .i64 (k : Int)] w (PgAns w (s.page k)) := by
  refine calls_post fun R HQ => ?_
  have HA := Lib.hid h
  have hn := h.few
  have hgo := gone_P h
  rw [hbr] at hgo
  have HGO := Lib.hid hgo; have HC := Lib.hid hc
  have c2 := h.blk.at_ (i := 2) rfl
  have c4 := h.blk.at_ (i := 4) rfl
  have c5 := h.blk.at_ (i := 5) rfl
  clear h hgo hc hbr
  go_enter Tryz.func60, Tryz.ntmps60
  go_wp2_with fail
  refine HGO.out.mono ?_
  rintro e w' ⟨rfl, rfl⟩
  go_wp2_with fail
  refine wp_region_K (fun W => W.cell? ⟨g, 4, none⟩ = some (.map (some bl)) ∧ W.cell? ⟨g, 5, none⟩ = some (.map (some bh))) [0, 1, 2, 3, 4, 5, 6, 7, 9, 10] (by kernel_rfl) ?_
  refine wpAnyK_take (i := 0) (some 24) ?vq6_0 rfl rfl (by kernel_rfl) (fun _ _ _ h => h) ⟨c4, c5⟩ (.inl ⟨rfl, fun W hW => ?yq6_0⟩) ?_
  case yq6_0 => (obtain ⟨c4', c5'⟩ := hW; go_simp) <;> with_reducible rfl
  simp only [nrm]
  refine wpAnyK_take (i := 1) (some 25) ?vq6_1 rfl rfl (by kernel_rfl) (fun _ _ _ h => h) ⟨c4, c5⟩ (.inl ⟨rfl, fun W hW => ?yq6_1⟩) ?_
  case yq6_1 => (obtain ⟨c4', c5'⟩ := hW; go_simp) <;> with_reducible rfl
  simp only [nrm]
  refine wpAnyK_take (i := 2) (some 26) ?vq6_2 rfl rfl (by kernel_rfl) (fun _ _ _ h => h) ⟨c4, c5⟩ (.inl ⟨rfl, fun W hW => ?yq6_2⟩) ?_
  case yq6_2 => (obtain ⟨c4', c5'⟩ := hW; go_simp) <;> with_reducible rfl
  simp only [nrm]
  refine wpAnyK_take (i := 3) (some 27) ?vq6_3 rfl rfl (by kernel_rfl) (fun _ _ _ h => h) ⟨c4, c5⟩ (.inl ⟨rfl, fun W hW => ?yq6_3⟩) ?_
  case yq6_3 => (obtain ⟨c4', c5'⟩ := hW; go_simp) <;> with_reducible rfl
  simp only [nrm]
  refine wpAnyK_take (i := 4) (some 28) ?vq6_4 rfl rfl (by kernel_rfl) (fun _ _ _ h => h) ⟨c4, c5⟩ (.inl ⟨rfl, fun W hW => ?yq6_4⟩) ?_
  case yq6_4 => (obtain ⟨c4', c5'⟩ := hW; go_simp) <;> with_reducible rfl
  simp only [nrm]
  refine wpAnyK_take (i := 5) (some 29) ?vq6_5 rfl rfl (by kernel_rfl) (fun _ _ _ h => h) ⟨c4, c5⟩ (.inl ⟨rfl, fun W hW => ?yq6_5⟩) ?_
  case yq6_5 => (obtain ⟨c4', c5'⟩ := hW; go_simp) <;> with_reducible rfl
  simp only [nrm]
  refine wpAnyK_take (i := 6) (some 30) ?vq6_6 rfl rfl (by kernel_rfl) (fun _ _ _ h => h) ⟨c4, c5⟩ (.inl ⟨rfl, fun W hW => ?yq6_6⟩) ?_
  case yq6_6 => (obtain ⟨c4', c5'⟩ := hW; go_simp) <;> with_reducible rfl
  simp only [nrm]
  refine wpAnyK_take (i := 7) (some 31) ?vq6_7 rfl rfl (by kernel_rfl) (fun _ _ _ h => h) ⟨c4, c5⟩ (.inl ⟨rfl, fun W hW => ?yq6_7⟩) ?_
  case yq6_7 => (obtain ⟨c4', c5'⟩ := hW; go_simp) <;> with_reducible rfl
  simp only [nrm]
  refine wpAnyK_take (i := 10) (some 34) ?vq6_10 rfl rfl (by kernel_rfl) (fun _ _ _ h => h) ⟨c4, c5⟩ (.inl ⟨rfl, fun W hW => ?yq6_10⟩) ?_
  case yq6_10 => (obtain ⟨c4', c5'⟩ := hW; go_simp) <;> with_reducible rfl
  simp only [nrm]
  refine wpAnyK_step (j := 8) (some 32) rfl rfl (by kernel_rfl) rfl fun K hK => ?_
  have hdr : Fr [] w w.drew := (Fr.refl [] w).drew
  have hbm := build_maps bl bh w.drew
  have hf2 : Fr [] w (w.drew.alloc (.cells #[.map (some bl), .map (some bh)] 116)) := hdr.alloc _
  have hb2 : Blk (w.drew.alloc (.cells #[.map (some bl), .map (some bh)] 116)) w.drew.heap.size 116 [.map (some bl), .map (some bh)] := Blk.new w.drew 116 _
  have hA2 := HA.out.fr hf2 (by simp)
  have c45 : (w.drew.alloc (.cells #[.map (some bl), .map (some bh)] 116)).cell? ⟨g, 4, none⟩ = some (.map (some bl)) ∧ (w.drew.alloc (.cells #[.map (some bl), .map (some bh)] 116)).cell? ⟨g, 5, none⟩ = some (.map (some bh)) := ⟨hA2.blk.at_ (i := 4) rfl, hA2.blk.at_ (i := 5) rfl⟩
  refine wp_run_value (v := .slice (some ⟨w.drew.heap.size, 0, none⟩) 2 2) (w' := w.drew.alloc (.cells #[.map (some bl), .map (some bh)] 116)) (by simp [execOp, Act.eval, hbm, Result.andThen]) (hK _ _ (fun _ => c45) ?_)
  simp only [nrm]
  refine wpAnyK_take (i := 9) (some 33) ?vq6_9 rfl rfl (by kernel_rfl) (fun _ _ _ h => h) c45 (.inl ⟨rfl, fun W hW => ?yq6_9⟩) ?_
  case yq6_9 => (obtain ⟨c4', c5'⟩ := hW; go_simp) <;> with_reducible rfl
  simp only [nrm]
  refine wpAnyK_done (by kernel_rfl) ?_ _
  have hq0 : w.drew.heap.size = w.heap.size := rfl
  rw [hq0] at hb2 ⊢
  have HF2 := Lib.hid hf2; have HB2 := Lib.hid hb2
  clear hbm hA2 c45 hK hdr hq0 hf2 hb2 c4 c5 c2
  generalize w.drew.alloc (.cells #[.map (some bl), .map (some bh)] 116) = w2 at *
  have hsl := slice_whole
  go_wp2_with fail
  have hd1 : decide ((k : Int) < 0) = false := by simp
  have hd2 : decide (s.n ≤ k) = false := by simp; omega
  simp only [hd1, hd2, Bool.or_self]
  go_loopw [34] (fun v34 wr => RdRel w2 s k v34 wr) (fun v _ => 2 - (intOf v).toNat)
  case atStart => exact ⟨0, by omega, rfl, fun h => absurd h (by omega), fun h => absurd h (by omega), Fr.refl _ _⟩
  case round =>
    obtain ⟨j, hj, rfl, h0, h1, hf⟩ := hrel
    have hAr := HA.out.fr (HF2.out.trans hf (by simp)) (by simp)
    have HAR := Lib.hid hAr; have HF := Lib.hid hf; have H0 := Lib.hid h0; have H1 := Lib.hid h1
    clear hf h0 h1
    by_cases hj2 : j < 2
    · have hb := HB2.out.fr HF.out (by simp)
      obtain ⟨bj, mj, cc, hmj, hmok, hnone, hsome⟩ : ∃ bj mj, wr.cell? ⟨w.heap.size, j, none⟩ = some (.map (some bj)) ∧ MapAt wr bj mj ∧ PgOk s.n mj ∧ (getP mj k = none → (0 < j + 1 → getP s.late k = none) ∧ (1 < j + 1 → getP s.held k = none)) ∧ ∀ x, getP mj k = some x → s.page k = x := by
        rcases (by omega : j = 0 ∨ j = 1) with rfl | rfl
        · refine ⟨bl, s.late, hb.at_ (i := 0) rfl, hAr.late, hAr.lok, fun h => ⟨fun _ => h, fun h => absurd h (by omega)⟩, fun x hx => ?_⟩
          unfold PS.page
          rw [hx]
          rfl
        · refine ⟨bh, s.held, hb.at_ (i := 1) rfl, hAr.held, hAr.hok, fun h => ⟨fun _ => H0.out (by omega), fun _ => h⟩, fun x hx => ?_⟩
          unfold PS.page
          rw [H0.out (by omega), hx]
          rfl
      have hlk := hmj.look_ok (k := k) (by omega)
      obtain ⟨x, hx⟩ : ∃ x, x = (getP mj k).getD zpage := ⟨_, rfl⟩
      have hxl : x.length = 512 := by
        rw [hx]
        cases hg : getP mj k with
        | none => exact zpage_len
        | some y => exact (getP_len hmok hg).2
      obtain ⟨is, his⟩ : ∃ is, is = (getP mj k).isSome := ⟨_, rfl⟩
      rw [← hx, ← his] at hlk
      unfold pageV at hlk
      have HN := Lib.hid hnone; have HS := Lib.hid hsome; have HX := Lib.hid hx; have HI := Lib.hid his; have HXL := Lib.hid hxl
      clear hb hAr hmj hmok hnone hsome hx his hxl
      go_wp2_with (first
        | (with_reducible refine wpList_alloc_z rfl 123 rfl (pageV zpage) (bcells zpage).toArray zero_pg rfl ?_)
        | (with_reducible refine wpList_store_z (W := wr) rfl 123 (.tmp 8) (.tmp 42) rfl (bcells x) rfl rfl rfl ?zi ?zl ?z1 ?_))
      case zi => have h := size_pg; simpa [bcells_len, HXL.out] using h
      case zl => show (bcells zpage).length = (bcells x).length; rw [bcells_len, bcells_len, zpage_len, HXL.out]
      case z1 => exact bcells_one _
      intro w4 hb4 hf4 hz4
      have HB4 := Lib.hid hb4; have HF4 := Lib.hid hf4
      clear hb4 hf4 hlk cc
      cases is with
      | true =>
        have hsz : w.heap.size ≤ wr.heap.size := by have := (HF2.out.trans HF.out (by simp)).size; omega
        go_wp2_with fail
        refine HQ.out _ _ ⟨_, wr.heap.size, rfl, ?_, hsz, ((HF2.out.trans HF.out (by simp)).trans HF4.out (by simp))⟩
        have hsome := HS.out x (by
          have h1 := HI.out; have h2 := HX.out
          cases hg : getP mj k with
          | none => rw [hg] at h1; cases h1
          | some y => rw [hg] at h2; rw [h2]; rfl)
        rw [hsome]
        have h := BytesAt.of_blk HB4.out 512 (by rw [HXL.out]; exact Nat.le_refl _)
        rw [HXL.out] at h
        exact h
      | false =>
        have hnone := HN.out (by
          have h1 := HI.out
          cases hg : getP mj k with
          | none => rfl
          | some y => rw [hg] at h1; cases h1)
        have HX2 : Hid (RdRel w2 s k (.int .i64 ((j : Int) + 1)) w4) := Lib.hid ⟨j + 1, by omega, by go_num, hnone.1, hnone.2, HF.out.trans HF4.out (by simp)⟩
        clear hnone
        go_wp2_with fail
        go_roundw
        case rel => exact HX2.out
        case measure => simp [intOf]; omega
    · obtain rfl : j = 2 := by omega
      have hpg : s.page k = homeP s.D.S s.l.n k := by
        unfold PS.page
        rw [H0.out (by omega), H1.out (by omega)]
        rfl
      have HH := Lib.hid (home_P HAR.out HC.out k hk)
      have HPG := Lib.hid hpg
      clear hAr hpg
      go_wp2_with fail
      refine HH.out.mono ?_
      rintro e w5 ⟨v, gb, rfl, hv, hgb, hf5⟩
      have HX : Hid (PgAns w (s.page k) (.returned (.tuple #[v, .int .i64 0])) w5) := Lib.hid ⟨v, gb, rfl, by rw [HPG.out]; exact hv, by have := (HF2.out.trans HF.out (by simp)).size; omega, (HF2.out.trans HF.out (by simp)).trans hf5 (by simp)⟩
      clear hv hgb hf5
      go_wp2_with fail
      exact HQ.out _ _ HX.out
end Go.Proofs.YtpjbdpepofnleaaGreat
end
section
namespace Go.Proofs.YtpjbdpepofnleaaGreat
open Go.RowKit
section
variable {P : Program} {ops : Array Oper} {Q : Exit → Act → World → Prop} {md : Region.Mode} {S : World → Prop} {I : List Nat} {n l : Nat}
theorem rowsIn_round {row : String} {args : Array Value} {w : World} {R : Value → World → Prop} (h : Rows P row args w R) : Go.RowsIn (Fence.wide.inRound l) n P row args w R :=
  fun c cs _ => let ⟨v, w', r, s⟩ := h c cs; ⟨v, w', r, stepsIn_wide.2 s⟩
theorem oper_round {o : Oper} {a : Act} {w : World} {next : Act → World → Prop} (hd : ∀ c, o.op ≠ .defer c) (h : o.wp P a w next Q) : o.wpIn (Fence.wide.inRound l) n P a w next Q := by
  refine ⟨fun _ _ => trivial, ?_⟩
  have e : o.semAt (Fence.wide.inRound l).round a.eval = execOp a.eval o := Oper.semAt_some l a.eval o hd
  rw [e]
  unfold Oper.wp at h
  generalize (execOp a.eval o).run P w = r at *
  cases r with
  | ok x w' =>
    cases x <;> simp only [Oper.upon, Oper.uponIn] at h ⊢ <;>
      first
        | exact h
        | exact ⟨fun hd => (by cases hd), callsIn_wide.2 h⟩
        | exact ⟨fun hd => (by cases hd), rowsIn_round h⟩
  | halt x w' => cases x <;> simp only [Oper.upon, Oper.uponIn] at h ⊢ <;> exact h
def noDefer (ops : Array Oper) : Bool := ops.all fun o => match o.op with | .defer _ => false | _ => true
theorem noDefer_spec (h : noDefer ops = true) {i : Nat} {o : Oper} (ho : ops[i]? = some o) : ∀ c, o.op ≠ .defer c := by
  intro c hc
  unfold noDefer at h
  rw [Array.all_eq_true_iff_forall_mem] at h
  have := h o (Array.mem_of_getElem? ho)
  rw [hc] at this
  cases this
theorem wpAnyIn_round (hd : noDefer ops = true) (hq : ∀ a w, ¬Q .outgrown a w) : ∀ (fuel : Nat) (listed : Array Bool) (a : Act) (w : World), wpAny P md ops Q fuel listed a w → wpAnyIn (Fence.wide.inRound l) n P md ops Q fuel listed a w
  | 0, _, _, _, h => h
  | fuel + 1, listed, a, w, h => by
    refine ⟨h.1, fun i hi => ?_⟩
    have h1 := h.2 i hi
    unfold wpOp at h1
    unfold wpOpIn
    cases ho : ops[i]? with
    | none =>
      rw [ho] at h1
      exact wpAnyIn_round hd hq fuel _ _ _ h1
    | some o =>
      rw [ho] at h1
      simp only at h1 ⊢
      split
      · rename_i hw
        rw [if_pos hw] at h1
        rcases h1 with h1 | ⟨_, a', w', h1⟩
        · exact oper_round (noDefer_spec hd ho) (Oper.wp_mono (fun a w h => wpAnyIn_round hd hq fuel _ a w h) h1)
        · exact absurd h1 (hq _ _)
      · rename_i hw
        rw [if_neg hw] at h1
        exact ⟨fun _ _ => trivial, wpAnyIn_round hd hq fuel _ _ _ h1⟩
theorem wpAnyK_stepg {j : Nat} (d : Option Tmp) {o : Oper} {fuel : Nat} {listed : Array Bool} {a : Act} {w : World} (ho : ops[j]? = some o) (hd : o.dst = d) (hr : Region.ready md ops listed = [j]) (hg : Region.wanted o (yielded ops a.tmps) = true)
    (h : ∀ K : Act → World → Prop, (∀ v w', (crosses md ops I j = true → S w') → wpAnyK P md ops Q S I fuel (listed.setIfInBounds j true) (a.put d v) w' → K (a.put o.dst v) w') → Oper.wp P o a w K Q) :
    wpAnyK P md ops Q S I (fuel + 1) listed a w := by
  subst hd
  refine ⟨fun h0 => absurd (hr ▸ h0) (by simp), fun i hi => ?_⟩
  rw [hr] at hi
  obtain rfl : i = j := by simpa using hi
  refine wpOp_step ho fun K hK => ?_
  rw [if_pos hg]
  exact h K (fun v w' h1 h2 => hK _ w' ⟨h1, h2⟩)
theorem wpIn_region_KR (S : World → Prop) (I : List Nat) {id : Nat} {a : Act} {w : World} (hm : P.follows .mixedOrders = true) (hd : noDefer ops = true) (hq : ∀ a w, ¬Q .outgrown a w)
    (h : wpAnyK P .any ops Q S I ops.size (Array.replicate ops.size false) a w.drew) : (Code.region id ops true).wpIn (Fence.wide.inRound l) n P Q a w :=
  wpIn_region_any hm (wpAnyIn_round hd hq _ _ _ _ (wpAny_of_K _ _ _ _ h))
theorem wpIn_region_KW (S : World → Prop) (I : List Nat) {id : Nat} {a : Act} {w : World} (hm : P.follows .mixedOrders = true)
    (h : wpAnyK P .any ops Q S I ops.size (Array.replicate ops.size false) a w.drew) : (Code.region id ops true).wpIn Fence.wide n P Q a w :=
  wpIn_wide.2 (wp_region_K S I hm h)
end
end Go.Proofs.YtpjbdpepofnleaaGreat
end
section
namespace Go.Proofs.YtpjbdpepofnleaaGreat
open Go.RowKit Go.Shelf
attribute [local go_sem] Oper.semAt_some
theorem run_slice3 (A : Option Addr) (n c lo hi : Nat) (h1 : lo ≤ hi) (h2 : hi ≤ c) (w : World) :
    (Instr.sliceAt 23 (.slice A n c) (some (.int .i64 (lo : Int))) (some (.int .i64 (hi : Int))) (some (.int .i64 (hi : Int)))).run Tryz.prog w = .ok (.slice (if hi = lo then A else A.map (·.add lo)) (hi - lo) (hi - lo)) w := by
  have ht := Tryz.underlying23
  have hel : Tryz.prog.elem 23 = 5 := by simp [Program.elem, ht]
  obtain ⟨i, hi1, hi2⟩ := Option.map_eq_some_iff.1 size_u8
  have h5 : ∀ w, (sizeOf 5).run Tryz.prog w = .ok 1 w := fun w => by simp [sizeOf, typeInfo, go_sem, hi1, hi2]
  rw [run_sliceAt_slice (h := by rw [hel]; exact ht), run_slice_lhm (ht := by rw [hel]; exact ht) (h0 := by omega) (h1 := by omega) (h2 := by omega) (h3 := by omega), hel, h5]
  simp [Result.andThen, sliced]
def KeepsTwo (Bs Bn : Nat) (W W' : World) : Prop := W'.cell? ⟨Bs, 0, none⟩ = W.cell? ⟨Bs, 0, none⟩ ∧ W'.cell? ⟨Bn, 0, none⟩ = W.cell? ⟨Bn, 0, none⟩
theorem KeepsTwo.trans {Bs Bn : Nat} {A B C : World} (h : KeepsTwo Bs Bn A B) (k : KeepsTwo Bs Bn B C) : KeepsTwo Bs Bn A C := ⟨k.1.trans h.1, k.2.trans h.2⟩
def chV (g off k : Nat) : Value := .slice (some ⟨g, off + 514 * k, none⟩) 514 514
def firstN (m k : Nat) : List (Fin m) := (List.finRange m).take k
theorem firstN_succ {m k : Nat} (h : k < m) : firstN m (k + 1) = firstN m k ++ [⟨k, h⟩] := by
  unfold firstN
  rw [List.take_succ_eq_append_getElem (by simpa using h)]
  simp
theorem firstN_len {m k : Nat} (h : k ≤ m) : (firstN m k).length = k := by simp [firstN, h]
set_option maxRecDepth 100000 in
set_option maxHeartbeats 2000000 in
theorem chunk1_in (n l Bs Bn g off m cap : Nat) (A : Option Addr) (hA : 0 < m → A = some ⟨g, off, none⟩) (hcap : 514 * m ≤ cap) (hm : m ≤ 100000) (hn : 1 ≤ n) (J Jx : List (Fin m) → World → Prop)
    (hY : ∀ pre (x : Fin m) W, J pre W → pre.length < m → YieldAt Fence.wide (n - 1) Tryz.prog l #[chV g off x.1] W fun e W' =>
      (e = .returned (.bool true) ∧ J (pre ++ [x]) W' ∧ KeepsTwo Bs Bn W W') ∨ (e = .returned (.bool false) ∧ Jx (pre ++ [x]) W'))
    (hJd : ∀ pre W, J pre W → J pre W.drew)
    (W : World) (cBs : W.cell? ⟨Bs, 0, none⟩ = some (.slice A (514 * m) cap)) (cBn : W.cell? ⟨Bn, 0, none⟩ = some (.int .i64 514)) (h0 : J [] W) :
    CallsIn Fence.wide n Tryz.prog 118 #[.func (.yield l) #[] #[], .pointer (some ⟨Bs, 0, none⟩), .pointer (some ⟨Bn, 0, none⟩)] W fun e W' => (∃ v, e = .returned v) ∧
      ((∃ ys, ys = List.finRange m ∧ J ys W') ∨ (∃ pre, True ∧ Jx pre W')) := by
  refine callsIn_of_wp Tryz.func118 rfl trivial ?_ rfl
  simp only [Tryz.ntmps118, List.size_toArray, List.length_cons, List.length_nil, Nat.reduceAdd, Nat.reduceSub, Array.replicate_succ, Array.replicate_zero, List.push_toArray, List.append_toArray, List.nil_append, List.cons_append]
  gi_wp2
  gi_loopw [4] (fun i wr => ∃ k : Nat, k ≤ m ∧ i = .int .i64 ((514 * k : Nat) : Int) ∧ J (firstN m k) wr ∧ wr.cell? ⟨Bs, 0, none⟩ = some (.slice A (514 * m) cap) ∧ wr.cell? ⟨Bn, 0, none⟩ = some (.int .i64 514))
    (fun i _ => 514 * m - (intOf i).toNat)
  case atStart => exact ⟨0, Nat.zero_le _, rfl, h0, cBs, cBn⟩
  case round =>
    obtain ⟨k, hk, rfl, hJs, cs, cn⟩ := hrel
    by_cases hlt : k < m
    · obtain ⟨fn, tmps, assign, body, hy, hR⟩ := hY _ ⟨k, hlt⟩ wr.drew (hJd _ _ hJs) (by rw [firstN_len hk]; exact hlt)
      unfold chV at hy
      obtain rfl := hA (by omega)
      have hsl0 := slice_run_from Tryz.underlying23 size_u8 (some ⟨g, off, none⟩) (514 * m) cap (514 * k) .i64 (by omega)
      rw [if_neg (by omega)] at hsl0
      simp only [Option.map_some, Addr.add_mid] at hsl0
      have hmin : ∀ (ts : Array TypeId) (t : TypeId) (W : World), (Builtin.min_ ts t #[.int .i64 514, .int .i64 ((514 * m - 514 * k : Nat) : Int)]).run Tryz.prog W = .ok (.int .i64 514) W := fun ts t W => by
        rw [run_min_int2, if_neg (by omega)]
      have x1 : IntKind.i64.wrap (((514 * k : Nat) : Int) + 514) = ((514 * (k + 1) : Nat) : Int) := by rw [IntKind.wrap_i64]; omega
      have hsl3 := run_slice3 (some ⟨g, off, none⟩) (514 * m) cap (514 * k) (514 * (k + 1)) (by omega) (by omega)
      rw [if_neg (by omega), show 514 * (k + 1) - 514 * k = 514 by omega] at hsl3
      simp only [Option.map_some, Addr.add_mid] at hsl3
      gi_wp2
      refine wpIn_region_KW (fun W => W.cell? ⟨Bs, 0, none⟩ = some (.slice (some ⟨g, off, none⟩) (514 * m) cap) ∧ W.cell? ⟨Bn, 0, none⟩ = some (.int .i64 514)) [0, 1, 2, 3, 4, 5] (by kernel_rfl) ?_
      refine wpAnyK_take (i := 0) (some 13) ?vq1_0 rfl rfl (by kernel_rfl) (fun _ _ _ h => h) ⟨cs, cn⟩ (.inl ⟨rfl, fun W hW => ?yq1_0⟩) ?_
      case yq1_0 => (obtain ⟨c1', c2'⟩ := hW; go_simp) <;> with_reducible rfl
      simp only [nrm]
      refine wpAnyK_take (i := 1) (some 14) ?vq1_1 rfl rfl (by kernel_rfl) (fun _ _ _ h => h) ⟨cs, cn⟩ (.inl ⟨rfl, fun W hW => ?yq1_1⟩) ?_
      case yq1_1 => (obtain ⟨c1', c2'⟩ := hW; go_simp) <;> with_reducible rfl
      simp only [nrm]
      refine wpAnyK_take (i := 2) (some 15) ?vq1_2 rfl rfl (by kernel_rfl) (fun _ _ _ h => h) ⟨cs, cn⟩ (.inl ⟨rfl, fun W hW => ?yq1_2⟩) ?_
      case yq1_2 => (obtain ⟨c1', c2'⟩ := hW; go_simp) <;> with_reducible rfl
      simp only [nrm]
      refine wpAnyK_take (i := 3) (some 16) (.slice (some ⟨g, off + 514 * k, none⟩) (514 * m - 514 * k) (cap - 514 * k)) rfl rfl (by kernel_rfl) (fun _ _ _ h => h) ⟨cs, cn⟩ (.inl ⟨rfl, fun W _ => exec_slice rfl rfl rfl rfl (hsl0 W)⟩) ?_
      simp only [nrm]
      refine wpAnyK_take (i := 4) (some 17) ?vq1_4 rfl rfl (by kernel_rfl) (fun _ _ _ h => h) ⟨cs, cn⟩ (.inl ⟨rfl, fun W hW => ?yq1_4⟩) ?_
      case yq1_4 => (obtain ⟨c1', c2'⟩ := hW; go_simp) <;> with_reducible rfl
      simp only [nrm]
      refine wpAnyK_take (i := 5) (some 18) ?vq1_5 rfl rfl (by kernel_rfl) (fun _ _ _ h => h) ⟨cs, cn⟩ (.inl ⟨rfl, fun W hW => ?yq1_5⟩) ?_
      case yq1_5 => (obtain ⟨c1', c2'⟩ := hW; go_simp) <;> with_reducible rfl
      simp only [nrm]
      refine wpAnyK_step (j := 6) (some 5) rfl rfl (by kernel_rfl) rfl fun K hK => ?_
      refine wp_run_same (v := ?aq1_6) ?yq1_6 (hK _ _ (fun h => absurd h (by decide +kernel)) ?_)
      case yq1_6 => go_simp <;> with_reducible rfl
      simp only [nrm]
      refine wpAnyK_done (by kernel_rfl) ?_ _
      have cs' : wr.drew.cell? ⟨Bs, 0, none⟩ = some (.slice (some ⟨g, off, none⟩) (514 * m) cap) := cs
      have cn' : wr.drew.cell? ⟨Bn, 0, none⟩ = some (.int .i64 514) := cn
      gi_wp2
      refine hR.mono ?_
      rintro e W3 (⟨rfl, hJ3, hk3⟩ | ⟨rfl, hJx3⟩)
      · have cs3 := hk3.1.trans cs'
        have cn3 := hk3.2.trans cn'
        gi_wp2
        go_roundw
        case rel => exact ⟨k + 1, by omega, by go_num, by rw [firstN_succ hlt]; exact hJ3, cs3, cn3⟩
        case measure => simp [intOf]; omega
      · gi_wp2
        refine bodyPost_ret (results_none rfl _ _ _) rfl ?_
        exact ⟨⟨_, rfl⟩, .inr ⟨_, trivial, hJx3⟩⟩
    · obtain rfl : k = m := by omega
      gi_wp2
      go_end0
      exact ⟨⟨_, rfl⟩, .inl ⟨_, by unfold firstN; rw [List.take_of_length_le (by simp)], hJs⟩⟩
theorem drew_grown (W : World) : W.grownBy W.drew none := ⟨rfl, rfl, rfl, Nat.le_refl _, fun _ _ _ => rfl⟩
theorem cell_below {w W : World} {b : Nat} {v : Value} (h : w.cell? ⟨b, 0, none⟩ = some v) (hW : Below w.heap.size w W) : W.cell? ⟨b, 0, none⟩ = some v :=
  (hW.cell (p := ⟨b, 0, none⟩) (World.block_lt_of_cell? w _ h)).trans h
theorem chunk_stops (n Bs Bn g off m cap : Nat) (A : Option Addr) (hA : 0 < m → A = some ⟨g, off, none⟩) (hcap : 514 * m ≤ cap) (hm : m ≤ 100000) (hn : 1 ≤ n) (w : World)
    (cBs : w.cell? ⟨Bs, 0, none⟩ = some (.slice A (514 * m) cap)) (cBn : w.cell? ⟨Bn, 0, none⟩ = some (.int .i64 514)) :
    SeqStopsK Fence.wide n Tryz.prog 118 #[.pointer (some ⟨Bs, 0, none⟩), .pointer (some ⟨Bn, 0, none⟩)] (fun x : Fin m => #[chV g off x.1]) (KeepsTwo Bs Bn) (fun ys => ys = List.finRange m) (fun _ => True) m w := fun l J Jx W hW hJ _ hY h0 =>
  chunk1_in n l Bs Bn g off m cap A hA hcap hm hn J Jx hY (fun pre W h => hJ pre W W.drew none h (drew_grown W) (by simp)) W (cell_below cBs hW) (cell_below cBn hW) h0
set_option maxRecDepth 100000 in
theorem chunk_any (A : Option Addr) (n c : Nat) (w : World) : Calls Tryz.prog 94 #[.slice A n c, .int .i64 514] w fun e w' =>
    e = .returned (.func (.func 118) #[] #[.pointer (some ⟨w.heap.size, 0, none⟩), .pointer (some ⟨w.heap.size + 1, 0, none⟩)]) ∧ w' = (w.alloc (.cells #[.slice A n c] 23)).alloc (.cells #[.int .i64 514] 3) := by
  refine calls_post fun R HQ => ?_
  go_enter Tryz.func94, Tryz.ntmps94
  go_wp2_with fail
  exact HQ.out _ _ ⟨rfl, rfl⟩
end Go.Proofs.YtpjbdpepofnleaaGreat
end
section
namespace Go.Proofs.YtpjbdpepofnleaaGreat
open Go.RowKit Go.Shelf
def atC (b : List UInt8) (k : Nat) : Nat := wordOf ((b.drop (514 * k)).take 2)
def pgC (b : List UInt8) (k : Nat) : List UInt8 := (b.drop (514 * k + 2)).take 512
theorem atC_drop (b : List UInt8) (k : Nat) : atC (b.drop 514) k = atC b (k + 1) := by unfold atC; rw [List.drop_drop, show 514 + 514 * k = 514 * (k + 1) by omega]
theorem pgC_drop (b : List UInt8) (k : Nat) : pgC (b.drop 514) k = pgC b (k + 1) := by unfold pgC; rw [List.drop_drop, show 514 + (514 * k + 2) = 514 * (k + 1) + 2 by omega]
theorem replay_chunks {n : Nat} : ∀ (m : Nat) (b : List UInt8) (h H : PgM), b.length = 514 * m → replayP n m b h = some H →
    (∀ k, k < m → atC b k < n) ∧ H = (List.range m).foldl (fun h k => putP h (atC b k) (pgC b k)) h
  | 0, b, h, H, _, e => ⟨fun k hk => absurd hk (by omega), by injection e with e; exact e.symm⟩
  | m + 1, b, h, H, hl, e => by
    have hb : b ≠ [] := fun h0 => by rw [h0] at hl; simp at hl
    unfold replayP at e
    rw [if_neg hb] at e
    split at e
    · cases e
    · rename_i h1
      obtain ⟨h2, h3⟩ := replay_chunks m (b.drop 514) _ H (by rw [List.length_drop]; omega) e
      have a0 : atC b 0 = wordOf (b.take 2) := by unfold atC; simp
      have p0 : pgC b 0 = (b.drop 2).take 512 := by unfold pgC; simp
      refine ⟨fun k hk => ?_, ?_⟩
      · cases k with
        | zero => rw [a0]; omega
        | succ k => rw [← atC_drop]; exact h2 k (by omega)
      · rw [h3, List.range_succ_eq_map, List.foldl_cons, List.foldl_map, a0, p0]
        simp only [atC_drop, pgC_drop]
def laidC {m : Nat} (b : List UInt8) (h : PgM) (pre : List (Fin m)) : PgM := pre.foldl (fun h x => putP h (atC b x.1) (pgC b x.1)) h
theorem laidC_snoc {m : Nat} (b : List UInt8) (h : PgM) (pre : List (Fin m)) (x : Fin m) : laidC b h (pre ++ [x]) = putP (laidC b h pre) (atC b x.1) (pgC b x.1) := by simp [laidC]
theorem laidC_first {m : Nat} (b : List UInt8) (h : PgM) : ∀ k, k ≤ m → laidC b h (firstN m k) = (List.range k).foldl (fun h k => putP h (atC b k) (pgC b k)) h
  | 0, _ => rfl
  | k + 1, hk => by rw [firstN_succ (by omega), laidC_snoc, laidC_first b h k (by omega), List.range_succ, List.foldl_append]; rfl
theorem laidC_all {m : Nat} (b : List UInt8) (h : PgM) : laidC b h (List.finRange m) = (List.range m).foldl (fun h k => putP h (atC b k) (pgC b k)) h := by
  rw [← laidC_first b h m (Nat.le_refl _)]
  unfold firstN
  rw [List.take_of_length_le (by simp)]
theorem laidC_ok {n m : Nat} {b : List UInt8} {h : PgM} (hl : b.length = 514 * m) (hn : ∀ k, k < m → atC b k < n) (hh : PgOk n h) (pre : List (Fin m)) : PgOk n (laidC b h pre) := by
  unfold laidC
  induction pre generalizing h with
  | nil => exact hh
  | cons x pre ih =>
    rw [List.foldl_cons]
    exact ih (hh.put (hn x.1 x.2) (by have := x.2; unfold pgC; rw [List.length_take, List.length_drop]; omega))
attribute [local go_sem] Oper.semAt_some
def RyRes (w : World) (g d lg bl bh : Nat) (s : PS) (fp : List Nat) (H : PgM) (e : Ending) (w' : World) : Prop :=
  e = .returned (.int .i64 0) ∧ PStep w w' g d lg bl bh { s with held := H } fp
set_option maxRecDepth 100000 in
set_option maxHeartbeats 4000000 in
theorem replay_P {w : World} {g d lg bl bh gb : Nat} {s : PS} {fp : List Nat} {v : Value} {b : List UInt8} {H : PgM} (h : PgrAt w g d lg bl bh s fp) (hv : BytesAt w v b gb) (hgb : gb ≠ bh) (hbl : b.length ≤ 4194304) (ht : takeP s.n b s.held = some H) :
    Calls Tryz.prog 59 #[.pointer (some ⟨g, 0, none⟩), v] w (RyRes w g d lg bl bh s fp H) := by
  obtain ⟨m, hm⟩ : ∃ m, b.length = 514 * m := ⟨b.length / 514, by
    unfold takeP at ht
    split at ht
    · cases ht
    · omega⟩
  have hrep : replayP s.n m b s.held = some H := by
    unfold takeP at ht
    rw [if_neg (by omega), hm, Nat.mul_div_cancel_left _ (by omega)] at ht
    exact ht
  obtain ⟨hat, hH⟩ := replay_chunks m b _ _ hm hrep
  rw [← laidC_all (m := m)] at hH
  obtain ⟨A, c, off, rfl, hc, hcell⟩ := hv
  rw [hm] at hc ⊢
  have HA := Lib.hid h; have HAT := Lib.hid hat; have HH := Lib.hid hH; have HCE := Lib.hid hcell
  clear h hat hH hcell ht hrep
  refine (callsIn_wide (n := 5)).1 ?_
  refine callsIn_of_wp_marks Tryz.func59 rfl trivial ?_ rfl
  simp only [Tryz.ntmps59, List.size_toArray, List.length_cons, List.length_nil, Nat.reduceAdd, Nat.reduceSub, Array.replicate_succ, Array.replicate_zero, List.push_toArray, List.append_toArray, List.nil_append, List.cons_append]
  gi_wp2_with (refine ⟨trivial, ?_⟩; gi_at_call 94; refine (callsIn_wide.2 (chunk_any A (514 * m) c _)).mono ?_; rintro e w' ⟨rfl, rfl⟩)
  obtain ⟨wl, hwl⟩ : ∃ wl, wl = (((w.alloc (.cells #[.pointer (some ⟨g, 0, none⟩)] 26)).alloc (.cells #[.int .i64 0] 29)).alloc (.cells #[.slice A (514 * m) c] 23)).alloc (.cells #[.int .i64 514] 3) := ⟨_, rfl⟩
  have cP : Boxed wl w.heap.size 26 (.pointer (some ⟨g, 0, none⟩)) := by rw [hwl]; exact (((Boxed.new w _ _).alloc _).alloc _).alloc _
  have cE : Boxed wl (w.heap.size + 1) 29 (.int .i64 0) := by rw [hwl]; have := (((Boxed.new (w.alloc (.cells #[.pointer (some ⟨g, 0, none⟩)] 26)) 29 (.int .i64 0)).alloc (.cells #[.slice A (514 * m) c] 23)).alloc (.cells #[.int .i64 514] 3)); rwa [World.size_alloc] at this
  have cB : Boxed wl (w.heap.size + 1 + 1) 23 (.slice A (514 * m) c) := by rw [hwl]; have := ((Boxed.new ((w.alloc (.cells #[.pointer (some ⟨g, 0, none⟩)] 26)).alloc (.cells #[.int .i64 0] 29)) 23 (.slice A (514 * m) c)).alloc (.cells #[.int .i64 514] 3)); rwa [World.size_alloc, World.size_alloc] at this
  have cN : Boxed wl (w.heap.size + 1 + 1 + 1) 3 (.int .i64 514) := by rw [hwl]; have := (Boxed.new (((w.alloc (.cells #[.pointer (some ⟨g, 0, none⟩)] 26)).alloc (.cells #[.int .i64 0] 29)).alloc (.cells #[.slice A (514 * m) c] 23)) 3 (.int .i64 514)); rwa [World.size_alloc, World.size_alloc, World.size_alloc] at this
  have hfl : Fr [] w wl := by rw [hwl]; exact ((((Fr.refl [] w).alloc _).alloc _).alloc _).alloc _
  have hzl : wl.heap.size = w.heap.size + 1 + 1 + 1 + 1 := by rw [hwl]; simp
  rw [← hwl]
  clear hwl
  have HFL := Lib.hid hfl; have HP := Lib.hid cP; have HE := Lib.hid cE; have HB := Lib.hid cB; have HN := Lib.hid cN
  have HAL := Lib.hid (HA.out.fr hfl (by simp))
  have hbhl : bh < w.heap.size := HA.out.held.lt
  have hm0 : MapAt wl bh s.held := HAL.out.held
  clear hfl cP cE
  refine wpIn_rangeFunc_ownG (F := Fence.wide) (n := 5) rfl (by omega) (gf := 118) (lb := #[.pointer (some ⟨w.heap.size + 1 + 1, 0, none⟩), .pointer (some ⟨w.heap.size + 1 + 1 + 1, 0, none⟩)]) rfl trivial (enters_of Tryz.func118 (by kernel_rfl) rfl)
    (chunk_stops 4 (w.heap.size + 1 + 1) (w.heap.size + 1 + 1 + 1) gb off m c A (fun h => (HCE.out (by omega)).1) hc (by omega) (by omega) wl cB.cell cN.cell) KeepsTwo.trans ?kb (Below.refl _ _) (fun _ => rfl)
    (fun pre W => MapAt W bh (laidC b s.held pre) ∧ Fr [bh] wl W) (fun _ _ _ => False) ?oi (fun _ _ _ _ _ hs _ _ => hs) ⟨hm0, Fr.refl _ _⟩
    (fun x => { tmps := #[.pointer (some ⟨g, 0, none⟩), .slice A (514 * m) c, .pointer (some ⟨w.heap.size, 0, none⟩), undef, .pointer (some ⟨w.heap.size + 1, 0, none⟩), chV gb off x.1, undef, .slice A (514 * m) c, .int .i64 (514 * (m : Int)), .int .i64 0, .bool false, .slice A (514 * m) c,
      .func (.func 118) #[] #[.pointer (some ⟨w.heap.size + 1 + 1, 0, none⟩), .pointer (some ⟨w.heap.size + 1 + 1 + 1, 0, none⟩)], chV gb off x.1, undef, undef, undef, undef, undef, undef, undef, undef, undef, undef, undef, undef, undef, undef, undef, undef, undef, undef, undef, undef, undef, undef, undef, undef, undef], defers := [] }) ?assign ?body ?done ?stop
  case kb =>
    intro W l o o' hl ho _ _
    have h1 : ∀ b, b < wl.heap.size → (W.putObj l o').cell? ⟨b, 0, none⟩ = W.cell? ⟨b, 0, none⟩ := fun b hb => by
      unfold World.cell?
      rw [World.putObj_heap_other (show b ≠ l by omega)]
    exact ⟨h1 _ (by omega), h1 _ (by omega)⟩
  case oi =>
    intro s' W W' row hs hg hr
    have hf : Fr row.toList W W' := (Fr.refl row.toList W).grown hg (fun r e => .inl (by simp [e]))
    refine ⟨hs.1.fr hf (fun hm => ?_), hs.2.grown hg (fun r e => .inr (hr r e).1)⟩
    have := (hr bh (by simpa using hm)).1
    omega
  case assign =>
    intro l x W K hK
    gi_wp2
    exact hK
  case stop =>
    rintro D c pre W _ _ h _
    exact h.elim
  case done =>
    rintro D ys W hD rfl ⟨hm', hf⟩ hK
    have hE : Boxed W (w.heap.size + 1) 29 (.int .i64 0) := (hf.block _ (by omega) (by simp only [List.mem_singleton]; omega)).trans HE.out
    have ce := hE.cell
    have fe := hE.frozen
    have HM := Lib.hid hm'; have HF := Lib.hid hf
    clear hm' hf
    gi_wp2
    have hK' := (KeepsOthers.setCell W ⟨w.heap.size + 1, 0, none⟩ (.int .i64 0)).same D _ hK rfl
    refine ⟨by simp, .inl ⟨_, _, rfl, run_takeDeferred hK', ?_⟩⟩
    have hc5 := cell_kept (World.cell?_setCell_same' W ⟨w.heap.size + 1, 0, none⟩ (.int .i64 0) (by rw [ce]; rfl)) (grownBy_putObj' _ D (.deferred none)) (fun r e => by cases e; exact ⟨_, hK', rfl⟩)
    have hpl := HA.out.lt
    have hAW := HAL.out.held_ HM.out HF.out (laidC_ok hm HAT.out HAL.out.hok _)
    have hs1 : Fr [w.heap.size + 1] W (W.setCell ⟨w.heap.size + 1, 0, none⟩ (.int .i64 0)) := (Fr.refl _ _).setCell (.inl (by simp)) _
    have hs2 : Fr [D] (W.setCell ⟨w.heap.size + 1, 0, none⟩ (.int .i64 0)) ((W.setCell ⟨w.heap.size + 1, 0, none⟩ (.int .i64 0)).putObj D (.deferred none)) := (Fr.refl [D] _).grown (grownBy_putObj' _ D _) (fun r e => by cases e; exact .inl (by simp))
    have hA5 := (hAW.fr hs1 (fun k hk hm => by have := hpl k hk; simp only [List.mem_singleton] at hm; omega)).fr hs2 (fun k hk hm => by have := hpl k hk; simp only [List.mem_singleton] at hm; omega)
    have hf5 : Fr (pfp g lg bl bh fp) w ((W.setCell ⟨w.heap.size + 1, 0, none⟩ (.int .i64 0)).putObj D (.deferred none)) :=
      (((HFL.out.mono (T := pfp g lg bl bh fp) (by simp)).trans HF.out (fun x hx => .inl (by simp only [List.mem_singleton] at hx; simp [pfp, hx]))).trans hs1 (fun x hx => .inr (by simp only [List.mem_singleton] at hx; omega))).trans hs2 (fun x hx => .inr (by simp only [List.mem_singleton] at hx; omega))
    refine ⟨.int .i64 0, ?_, rfl, fp, by rw [HH.out]; exact hA5, hf5, fun _ hk => .inl hk⟩
    simp [results, Tryz.f59, go_sem, hc5]
  case body =>
    rintro l pre x W ⟨hm', hf⟩ hlt
    unfold chV
    have hxm := x.2
    obtain ⟨hA0, hcb⟩ := HCE.out (by omega)
    have hgl : gb < w.heap.size := by
      obtain ⟨u, hu⟩ : ∃ u, (bcells b)[0]? = some u := ⟨_, List.getElem?_eq_getElem (by rw [bcells_len]; omega)⟩
      exact World.block_lt_of_cell? w _ (hcb 0 u hu)
    have hfw : Fr [bh] w W := (HFL.out.mono (T := [bh]) (by simp)).trans hf (fun x hx => .inl hx)
    have hcW : ∀ (j : Nat) (u : Value), (bcells b)[j]? = some u → W.cell? ⟨gb, off + j, none⟩ = some u := fun j u hu => by
      rw [hfw.cell (by exact hgl) (by simpa using hgb)]
      exact hcb j u hu
    obtain ⟨u, hu⟩ : ∃ u, b[514 * x.1]? = some u := ⟨_, List.getElem?_eq_getElem (by omega)⟩
    obtain ⟨v, hv⟩ : ∃ v, b[514 * x.1 + 1]? = some v := ⟨_, List.getElem?_eq_getElem (by omega)⟩
    have cu : W.cell? ⟨gb, off + 514 * x.1, none⟩ = some (.int .u8 (u.toNat : Int)) := hcW _ _ (by simp [bcells, hu, B8])
    have cv : W.cell? ⟨gb, off + 514 * x.1 + 1, none⟩ = some (.int .u8 (v.toNat : Int)) := by
      have := hcW (514 * x.1 + 1) _ (by simp only [bcells, List.getElem?_map, hv]; rfl)
      rw [← Nat.add_assoc] at this
      exact this
    have hatx : atC b x.1 = u.toNat * 256 + v.toNat := by
      unfold atC
      have e : (b.drop (514 * x.1)).take 2 = [u, v] := by
        obtain ⟨h1, h2⟩ := List.getElem?_eq_some_iff.1 hu
        obtain ⟨h3, h4⟩ := List.getElem?_eq_some_iff.1 hv
        rw [List.drop_eq_getElem_cons h1, List.take_succ_cons, List.drop_eq_getElem_cons h3, List.take_succ_cons, List.take_zero, h2, h4]
      rw [e]
      simp [wordOf]
    have hub : u.toNat < 256 := u.toNat_lt
    have hvb : v.toNat < 256 := v.toNat_lt
    have hor := or_i64 u.toNat v.toNat hub hvb
    rw [← hatx] at hor
    have hln := HAT.out x.1 hxm
    have hWP : PgrAt W g d lg bl bh { s with held := laidC b s.held pre } fp := HAL.out.held_ hm' hf (laidC_ok hm HAT.out HAL.out.hok _)
    have HOR := Lib.hid hor; have HM := Lib.hid hm'; have HF := Lib.hid hf; have HCW := Lib.hid hcW; have HWP := Lib.hid hWP; have HFW := Lib.hid hfw
    have hP : Boxed W w.heap.size 26 (.pointer (some ⟨g, 0, none⟩)) := (hf.block _ (by omega) (by simp only [List.mem_singleton]; omega)).trans HP.out
    have cP := hP.cell
    have c2 := hWP.blk.at_ (i := 2) rfl
    have c5 := hWP.blk.at_ (i := 5) rfl
    have hwz := hf.size
    clear hor hm' hf hcW hWP hfw hP hu hv hatx hcb hA0
    gi_wp2
    refine wpIn_region_KR (fun W => W.cell? ⟨gb, off + 514 * x.1, none⟩ = some (.int .u8 (u.toNat : Int)) ∧ W.cell? ⟨gb, off + 514 * x.1 + 1, none⟩ = some (.int .u8 (v.toNat : Int))) [0, 1, 2, 3, 4, 5, 6, 7, 8, 9] (by kernel_rfl) (by kernel_rfl) (fun _ _ h => h) ?_
    refine wpAnyK_take (i := 0) (some 14) ?vq1_0 rfl rfl (by kernel_rfl) (fun _ _ _ h => h) ⟨cu, cv⟩ (.inl ⟨rfl, fun W hW => ?yq1_0⟩) ?_
    case yq1_0 => (obtain ⟨c1', c2'⟩ := hW; go_simp) <;> with_reducible rfl
    simp only [nrm]
    refine wpAnyK_take (i := 1) (some 15) ?vq1_1 rfl rfl (by kernel_rfl) (fun _ _ _ h => h) ⟨cu, cv⟩ (.inl ⟨rfl, fun W hW => ?yq1_1⟩) ?_
    case yq1_1 => (obtain ⟨c1', c2'⟩ := hW; go_simp) <;> with_reducible rfl
    simp only [nrm]
    refine wpAnyK_take (i := 2) (some 16) ?vq1_2 rfl rfl (by kernel_rfl) (fun _ _ _ h => h) ⟨cu, cv⟩ (.inl ⟨rfl, fun W hW => ?yq1_2⟩) ?_
    case yq1_2 => (obtain ⟨c1', c2'⟩ := hW; go_simp) <;> with_reducible rfl
    simp only [nrm]
    refine wpAnyK_take (i := 3) (some 17) ?vq1_3 rfl rfl (by kernel_rfl) (fun _ _ _ h => h) ⟨cu, cv⟩ (.inl ⟨rfl, fun W hW => ?yq1_3⟩) ?_
    case yq1_3 => (obtain ⟨c1', c2'⟩ := hW; go_simp) <;> with_reducible rfl
    simp only [nrm]
    refine wpAnyK_take (i := 4) (some 18) ?vq1_4 rfl rfl (by kernel_rfl) (fun _ _ _ h => h) ⟨cu, cv⟩ (.inl ⟨rfl, fun W hW => ?yq1_4⟩) ?_
    case yq1_4 => (obtain ⟨c1', c2'⟩ := hW; go_simp) <;> with_reducible rfl
    simp only [nrm]
    refine wpAnyK_take (i := 5) (some 19) ?vq1_5 rfl rfl (by kernel_rfl) (fun _ _ _ h => h) ⟨cu, cv⟩ (.inl ⟨rfl, fun W hW => ?yq1_5⟩) ?_
    case yq1_5 => (obtain ⟨c1', c2'⟩ := hW; go_simp) <;> with_reducible rfl
    simp only [nrm]
    refine wpAnyK_take (i := 6) (some 20) ?vq1_6 rfl rfl (by kernel_rfl) (fun _ _ _ h => h) ⟨cu, cv⟩ (.inl ⟨rfl, fun W hW => ?yq1_6⟩) ?_
    case yq1_6 => (obtain ⟨c1', c2'⟩ := hW; go_simp) <;> with_reducible rfl
    simp only [nrm]
    refine wpAnyK_take (i := 7) (some 21) ?vq1_7 rfl rfl (by kernel_rfl) (fun _ _ _ h => h) ⟨cu, cv⟩ (.inl ⟨rfl, fun W hW => ?yq1_7⟩) ?_
    case yq1_7 => (obtain ⟨c1', c2'⟩ := hW; go_simp) <;> with_reducible rfl
    simp only [nrm]
    refine wpAnyK_take (i := 8) (some 22) ?vq1_8 rfl rfl (by kernel_rfl) (fun _ _ _ h => h) ⟨cu, cv⟩ (.inl ⟨rfl, fun W hW => ?yq1_8⟩) ?_
    case yq1_8 => (obtain ⟨c1', c2'⟩ := hW; go_simp) <;> with_reducible rfl
    simp only [nrm]
    refine wpAnyK_take (i := 9) (some 23) ?vq1_9 rfl rfl (by kernel_rfl) (fun _ _ _ h => h) ⟨cu, cv⟩ (.inl ⟨rfl, fun W hW => ?yq1_9⟩) ?_
    case yq1_9 => (obtain ⟨c1', c2'⟩ := hW; go_simp) <;> with_reducible rfl
    simp only [nrm]
    refine wpAnyK_step (j := 10) (some 6) rfl rfl (by kernel_rfl) rfl fun K hK => ?_
    refine wp_run_same (v := ?aq1_10) ?yq1_10 (hK _ _ (fun h => absurd h (by decide +kernel)) ?_)
    case yq1_10 => go_simp <;> with_reducible rfl
    simp only [nrm]
    refine wpAnyK_done (by kernel_rfl) ?_ _
    have y1 : IntKind.i64.wrap (u.toNat : Int) = (u.toNat : Int) := by rw [IntKind.wrap_i64]; omega
    have y2 : IntKind.i64.wrap ((u.toNat : Int) * 256) = (u.toNat : Int) * 256 := by rw [IntKind.wrap_i64]; omega
    have y3 : IntKind.i64.wrap (v.toNat : Int) = (v.toNat : Int) := by rw [IntKind.wrap_i64]; omega
    rw [y1, y2, y3, HOR.out]
    have hdr : Fr [] W W.drew := (Fr.refl [] W).drew
    have cP' : W.drew.cell? ⟨w.heap.size, 0, none⟩ = some (.pointer (some ⟨g, 0, none⟩)) := cP
    have c2' : W.drew.cell? ⟨g, 2, none⟩ = some (.int .i64 (s.n : Int)) := c2
    have c5' : W.drew.cell? ⟨g, 5, none⟩ = some (.map (some bh)) := c5
    have hcW' : ∀ (j : Nat) (u : Value), (bcells b)[j]? = some u → W.drew.cell? ⟨gb, off + j, none⟩ = some u := HCW.out
    have HCW' := Lib.hid hcW'
    have hge : ¬((s.n : Int) ≤ ((atC b x.1 : Nat) : Int)) := by omega
    obtain ⟨k, hk⟩ : ∃ k, k = atC b x.1 := ⟨_, rfl⟩
    rw [← hk] at hge hln ⊢
    have HK := Lib.hid hk
    have hWPd := HWP.out.fr hdr (by simp)
    have HWPd := Lib.hid hWPd
    clear hcW' y1 y2 y3 HOR cP c2 c5 cu cv hk hWPd
    obtain ⟨Wd, hWd⟩ : ∃ Wd, Wd = W.drew := ⟨_, rfl⟩
    rw [← hWd] at hdr cP' c2' c5' HCW' HWPd ⊢
    clear hWd
    have hsl := slice_run_from Tryz.underlying23 size_u8 (some ⟨gb, off + 514 * x.1, none⟩) 514 514 2 .i64 (by omega)
    rw [if_neg (by omega)] at hsl
    simp only [Option.map_some, Addr.add_mid, Nat.reduceSub] at hsl
    have hsl2 : ∀ W, (Instr.sliceAt 23 (.slice (some ⟨gb, off + 514 * x.1, none⟩) 514 514) (some (.int .i64 2)) none none).run Tryz.prog W = .ok (.slice (some ⟨gb, off + 514 * x.1 + 2, none⟩) 512 512) W := hsl
    have hap : ∀ W, (Instr.arrayAt 123 (.slice (some ⟨gb, off + 514 * x.1 + 2, none⟩) 512 512)).run Tryz.prog W = .ok (.pointer (some ⟨gb, off + 514 * x.1 + 2, none⟩)) W := fun W => run_arrayAt (P := Tryz.prog) W _ _ _ _ _ _ Tryz.underlying123 (Nat.le_refl _)
    have hpl : (pgC b x.1).length = 512 := by unfold pgC; rw [List.length_take, List.length_drop]; omega
    have hcp : ∀ W : World, (∀ (j : Nat) (u : Value), (bcells b)[j]? = some u → W.cell? ⟨gb, off + j, none⟩ = some u) → W.rangeAt gb (off + 514 * x.1 + 2) (bcells (pgC b x.1)) := fun W hW j u hu => by
      unfold pgC at hu
      rw [bcells_take, bcells_drop, List.getElem?_take] at hu
      split at hu
      · rw [List.getElem?_drop] at hu
        have := hW _ _ hu
        rw [show off + 514 * x.1 + 2 + j = off + (514 * x.1 + 2 + j) by omega]
        exact this
      · cases hu
    have HCP := Lib.hid hcp; have HPL := Lib.hid hpl
    clear hsl hcp hpl
    gi_wp2
    refine wpIn_region_KR (fun W => W.cell? ⟨w.heap.size, 0, none⟩ = some (.pointer (some ⟨g, 0, none⟩)) ∧ W.cell? ⟨g, 5, none⟩ = some (.map (some bh)) ∧ ∀ (j : Nat) (u : Value), (bcells b)[j]? = some u → W.cell? ⟨gb, off + j, none⟩ = some u) [0, 1, 2, 3, 4, 5, 6, 7, 8] (by kernel_rfl) (by kernel_rfl) (fun _ _ h => h) ?_
    refine wpAnyK_take (i := 0) (some 30) ?vq2_0 rfl rfl (by kernel_rfl) (fun _ _ _ h => h) ⟨cP', c5', HCW'.out⟩ (.inl ⟨rfl, fun W hW => ?yq2_0⟩) ?_
    case yq2_0 => (obtain ⟨c1', c2', c3'⟩ := hW; go_simp) <;> with_reducible rfl
    simp only [nrm]
    refine wpAnyK_take (i := 1) (some 31) ?vq2_1 rfl rfl (by kernel_rfl) (fun _ _ _ h => h) ⟨cP', c5', HCW'.out⟩ (.inl ⟨rfl, fun W hW => ?yq2_1⟩) ?_
    case yq2_1 => (obtain ⟨c1', c2', c3'⟩ := hW; go_simp) <;> with_reducible rfl
    simp only [nrm]
    refine wpAnyK_take (i := 2) (some 32) ?vq2_2 rfl rfl (by kernel_rfl) (fun _ _ _ h => h) ⟨cP', c5', HCW'.out⟩ (.inl ⟨rfl, fun W hW => ?yq2_2⟩) ?_
    case yq2_2 => (obtain ⟨c1', c2', c3'⟩ := hW; go_simp) <;> with_reducible rfl
    simp only [nrm]
    refine wpAnyK_take (i := 3) (some 33) ?vq2_3 rfl rfl (by kernel_rfl) (fun _ _ _ h => h) ⟨cP', c5', HCW'.out⟩ (.inl ⟨rfl, fun W hW => ?yq2_3⟩) ?_
    case yq2_3 => (obtain ⟨c1', c2', c3'⟩ := hW; go_simp) <;> with_reducible rfl
    simp only [nrm]
    refine wpAnyK_take (i := 4) (some 34) ?vq2_4 rfl rfl (by kernel_rfl) (fun _ _ _ h => h) ⟨cP', c5', HCW'.out⟩ (.inl ⟨rfl, fun W hW => ?yq2_4⟩) ?_
    case yq2_4 => (obtain ⟨c1', c2', c3'⟩ := hW; go_simp) <;> with_reducible rfl
    simp only [nrm]
    refine wpAnyK_take (i := 5) (some 35) ?vq2_5 rfl rfl (by kernel_rfl) (fun _ _ _ h => h) ⟨cP', c5', HCW'.out⟩ (.inl ⟨rfl, fun W hW => ?yq2_5⟩) ?_
    case yq2_5 => (obtain ⟨c1', c2', c3'⟩ := hW; go_simp) <;> with_reducible rfl
    simp only [nrm]
    refine wpAnyK_take (i := 6) (some 36) (.slice (some ⟨gb, off + 514 * x.1 + 2, none⟩) 512 512) rfl rfl (by kernel_rfl) (fun _ _ _ h => h) ⟨cP', c5', HCW'.out⟩ (.inl ⟨rfl, fun W _ => exec_slice rfl rfl rfl rfl (hsl2 W)⟩) ?_
    simp only [nrm]
    refine wpAnyK_take (i := 7) (some 37) (.pointer (some ⟨gb, off + 514 * x.1 + 2, none⟩)) rfl rfl (by kernel_rfl) (fun _ _ _ h => h) ⟨cP', c5', HCW'.out⟩ (.inl ⟨rfl, fun W _ => by simp [execOp, Act.eval, hap, Result.andThen]⟩) ?_
    simp only [nrm]
    refine wpAnyK_take (i := 8) (some 38) (.agg (bcells (pgC b x.1)).toArray) rfl rfl (by kernel_rfl) (fun _ _ _ h => h) ⟨cP', c5', HCW'.out⟩ (yieldsIf_load_mid rfl 123 (.tmp 37) rfl gb (off + 514 * x.1 + 2) rfl (bcells (pgC b x.1)) _ (fun W hW => HCP.out W hW.2.2) Tryz.underlying123 rfl (by rw [bcells_len, HPL.out]; exact size_pg)) ?_
    simp only [nrm]
    refine wpAnyK_step (j := 9) none rfl rfl (by kernel_rfl) rfl fun K hK => ?_
    have hd2 : Fr [] Wd Wd.drew := (Fr.refl [] Wd).drew
    have hkl : (laidC b s.held pre).length < 9223372036854775807 := by have := HWPd.out.hok.few; have := HWPd.out.few; simp only at *; omega
    have hk4 : k ≤ 9223372036854775807 := by have := HWPd.out.few; simp only at *; omega
    obtain ⟨w9, hr, hm9, hf9, _⟩ := (HWPd.out.held.fr hd2 (by simp)).store hk4 hkl HPL.out
    unfold pageV at hr
    refine wp_run_skip (w' := w9) (by simp [execOp, Act.eval, hr, Result.andThen]) (hK _ _ (fun h => absurd h (by decide +kernel)) ?_)
    simp only [Act.put]
    refine wpAnyK_done (by kernel_rfl) ?_ _
    have hWf : Fr [bh] W w9 := ((hdr.mono (T := [bh]) (by simp)).trans (hd2.mono (T := [bh]) (by simp)) (fun x hx => .inl hx)).trans hf9 (fun x hx => .inl hx)
    have hX : ownPostG wl.heap.size (KeepsTwo (w.heap.size + 1 + 1) (w.heap.size + 1 + 1 + 1)) (fun pre W => MapAt W bh (laidC b s.held pre) ∧ Fr [bh] wl W) (fun _ _ _ => False) (pre ++ [x]) W .normal { tmps := #[], defers := [] } w9 :=
      ⟨⟨hWf.size, fun q o hB hq _ => (hWf.block q (Array.getElem?_eq_some_iff.1 hq).1 (by simp only [List.mem_singleton]; omega)).trans hq⟩,
        ⟨hWf.cell (p := ⟨w.heap.size + 1 + 1, 0, none⟩) (show w.heap.size + 1 + 1 < W.heap.size by omega) (by simp only [List.mem_singleton]; omega), hWf.cell (p := ⟨w.heap.size + 1 + 1 + 1, 0, none⟩) (show w.heap.size + 1 + 1 + 1 < W.heap.size by omega) (by simp only [List.mem_singleton]; omega)⟩,
        by rw [laidC_snoc, ← HK.out]; exact hm9, HF.out.trans hWf (fun x hx => .inl hx)⟩
    clear hK hr hm9 hf9
    gi_wp2
    exact hX
end Go.Proofs.YtpjbdpepofnleaaGreat
end
