/-
  The contracts of (*Pager).home and (*Pager).Read, on a disk that lives and has nothing pending.
-/
import Derived.Test.YtidpleejgalljaaPz
namespace Go.Proofs.Ytidpleejgalljaa
open Go.RowKit

/-- A disk from which pages can be read. -/
structure Calm (s : PS) : Prop where
  dead : s.D.dead = false
  pend : s.D.P = []
  fit : s.l.n + 8 * s.n ≤ s.D.S.length
theorem PInv.calm {c : Nat} {s : PS} {C : Nat → List UInt8} (h : PInv c s C) : Calm s := ⟨h.dead, h.pend, h.fit⟩
def PgAns (w : World) (b : List UInt8) (e : Ending) (w' : World) : Prop := ∃ v gb, e = .returned (.tuple #[v, .int .i64 0]) ∧ BytesAt w' v b gb ∧ w.heap.size ≤ gb ∧ Fr [] w w'
def homeI (S : List (List UInt8)) (log k i : Nat) : List UInt8 := ((S.drop (log + 8 * k)).take i).flatten
theorem homeI_len {S : List (List UInt8)} {log k i : Nat} (hS : ∀ s ∈ S, s.length = 64) (h : log + 8 * k + i ≤ S.length) : (homeI S log k i).length = 64 * i := by
  unfold homeI
  rw [flat_len (fun s hs => hS s (List.mem_of_mem_drop (List.mem_of_mem_take hs))), List.length_take, List.length_drop]
  omega
theorem homeI_succ {S : List (List UInt8)} {log k i : Nat} (h : log + 8 * k + i < S.length) : homeI S log k (i + 1) = homeI S log k i ++ S.getD (log + 8 * k + i) [] := by
  unfold homeI
  rw [List.take_succ_eq_append_getElem (by rw [List.length_drop]; omega), List.flatten_append, List.getElem_drop]
  simp [List.getD, List.getElem?_eq_getElem h]
def HmRel (w : World) (S : List (List UInt8)) (log k : Nat) (v6 v10 : Value) (wr : World) : Prop :=
  ∃ i : Nat, i ≤ 8 ∧ v10 = .int .i64 (i : Int) ∧ wr.ownsRow 0 5 1 v6 (64 * i) (bcells (homeI S log k i)) ∧ (∀ x, v6.ownBlock = some x → w.heap.size ≤ x) ∧ Fr [] w wr
set_option maxRecDepth 100000 in
set_option maxHeartbeats 2000000 in
theorem home_P {w : World} {g d lg bl bh : Nat} {s : PS} {fp : List Nat} (h : PgrAt w g d lg bl bh s fp) (hc : Calm s) (k : Nat) (hk : k < s.n) :
    Calls Try.prog 35 #[.pointer (some ⟨g, 0, none⟩), .int .i64 (k : Int)] w (PgAns w (homeP s.D.S s.l.n k)) := by
  refine calls_post fun R HQ => ?_
  have HA := Lib.hid h
  have hok := h.jn.disk.ok
  have hmost := hok.most
  have hfit := hc.fit
  have hsec := hok.sec
  have hn := h.few
  have HOK := Lib.hid hok; have HC := Lib.hid hc; have HSEC := Lib.hid hsec
  clear h hok hc hsec
  go_enter Try.func35, Try.ntmps35
  go_wp2_with fail
  go_loopw [6, 10] (HmRel w s.D.S s.l.n k) (fun _ v _ => 8 - (intOf v).toNat)
  case atStart => exact ⟨0, by omega, rfl, by unfold homeI; rw [List.take_zero]; exact own_nil _ _ _ _, by simp [Value.ownBlock], Fr.refl _ _⟩
  case round =>
    obtain ⟨i, hi, rfl, hown, hge, hf⟩ := hrel
    obtain ⟨oA, oc, rfl, hoc, _⟩ := own_shape hown
    have HOWN := Lib.hid hown; have HGE := Lib.hid hge; have HF := Lib.hid hf
    have hAr := HA.out.fr hf (by simp)
    have HAR := Lib.hid hAr
    have c0 := hAr.blk.at_ (i := 0) rfl
    have c3 := hAr.blk.at_ (i := 3) rfl
    clear hown hge hf hAr
    by_cases hi8 : i < 8
    · have x1 : IntKind.i64.wrap (8 * (k : Int)) = 8 * (k : Int) := by rw [IntKind.wrap_i64]; omega
      have x2 : IntKind.i64.wrap ((s.l.n : Int) + 8 * (k : Int)) = (s.l.n : Int) + 8 * (k : Int) := by rw [IntKind.wrap_i64]; omega
      have x3 : IntKind.i64.wrap ((s.l.n : Int) + 8 * (k : Int) + (i : Int)) = (s.l.n : Int) + 8 * (k : Int) + (i : Int) := by rw [IntKind.wrap_i64]; omega
      go_wp2_with fail
      refine wp_region_K (fun W => W.cell? ⟨g, 0, none⟩ = some (.pointer (some ⟨d, 0, none⟩)) ∧ W.cell? ⟨g, 3, none⟩ = some (.int .i64 (s.l.n : Int))) [0, 1, 2, 3, 4, 5, 6, 7, 8, 9, 10, 11, 12, 14, 15, 16] (by kernel_rfl) ?_
      refine wpAnyK_take (i := 0) (some 14) ?vq1_0 rfl rfl (by kernel_rfl) (fun _ _ _ h => h) ⟨c0, c3⟩ (.inl ⟨rfl, fun W hW => ?yq1_0⟩) ?_
      case yq1_0 => (obtain ⟨c0', c3'⟩ := hW; go_simp) <;> with_reducible rfl
      simp only [Act.put, List.setIfInBounds_toArray, List.set_cons_zero, List.set_cons_succ]
      refine wpAnyK_take (i := 1) (some 15) ?vq1_1 rfl rfl (by kernel_rfl) (fun _ _ _ h => h) ⟨c0, c3⟩ (.inl ⟨rfl, fun W hW => ?yq1_1⟩) ?_
      case yq1_1 => (obtain ⟨c0', c3'⟩ := hW; go_simp) <;> with_reducible rfl
      simp only [Act.put, List.setIfInBounds_toArray, List.set_cons_zero, List.set_cons_succ]
      refine wpAnyK_take (i := 2) (some 16) ?vq1_2 rfl rfl (by kernel_rfl) (fun _ _ _ h => h) ⟨c0, c3⟩ (.inl ⟨rfl, fun W hW => ?yq1_2⟩) ?_
      case yq1_2 => (obtain ⟨c0', c3'⟩ := hW; go_simp) <;> with_reducible rfl
      simp only [Act.put, List.setIfInBounds_toArray, List.set_cons_zero, List.set_cons_succ]
      refine wpAnyK_take (i := 3) (some 17) ?vq1_3 rfl rfl (by kernel_rfl) (fun _ _ _ h => h) ⟨c0, c3⟩ (.inl ⟨rfl, fun W hW => ?yq1_3⟩) ?_
      case yq1_3 => (obtain ⟨c0', c3'⟩ := hW; go_simp) <;> with_reducible rfl
      simp only [Act.put, List.setIfInBounds_toArray, List.set_cons_zero, List.set_cons_succ]
      refine wpAnyK_take (i := 4) (some 18) ?vq1_4 rfl rfl (by kernel_rfl) (fun _ _ _ h => h) ⟨c0, c3⟩ (.inl ⟨rfl, fun W hW => ?yq1_4⟩) ?_
      case yq1_4 => (obtain ⟨c0', c3'⟩ := hW; go_simp) <;> with_reducible rfl
      simp only [Act.put, List.setIfInBounds_toArray, List.set_cons_zero, List.set_cons_succ]
      refine wpAnyK_take (i := 5) (some 19) ?vq1_5 rfl rfl (by kernel_rfl) (fun _ _ _ h => h) ⟨c0, c3⟩ (.inl ⟨rfl, fun W hW => ?yq1_5⟩) ?_
      case yq1_5 => (obtain ⟨c0', c3'⟩ := hW; go_simp) <;> with_reducible rfl
      simp only [Act.put, List.setIfInBounds_toArray, List.set_cons_zero, List.set_cons_succ]
      refine wpAnyK_take (i := 6) (some 20) ?vq1_6 rfl rfl (by kernel_rfl) (fun _ _ _ h => h) ⟨c0, c3⟩ (.inl ⟨rfl, fun W hW => ?yq1_6⟩) ?_
      case yq1_6 => (obtain ⟨c0', c3'⟩ := hW; go_simp) <;> with_reducible rfl
      simp only [Act.put, List.setIfInBounds_toArray, List.set_cons_zero, List.set_cons_succ]
      refine wpAnyK_take (i := 7) (some 21) ?vq1_7 rfl rfl (by kernel_rfl) (fun _ _ _ h => h) ⟨c0, c3⟩ (.inl ⟨rfl, fun W hW => ?yq1_7⟩) ?_
      case yq1_7 => (obtain ⟨c0', c3'⟩ := hW; go_simp) <;> with_reducible rfl
      simp only [Act.put, List.setIfInBounds_toArray, List.set_cons_zero, List.set_cons_succ]
      refine wpAnyK_take (i := 8) (some 22) ?vq1_8 rfl rfl (by kernel_rfl) (fun _ _ _ h => h) ⟨c0, c3⟩ (.inl ⟨rfl, fun W hW => ?yq1_8⟩) ?_
      case yq1_8 => (obtain ⟨c0', c3'⟩ := hW; go_simp) <;> with_reducible rfl
      simp only [Act.put, List.setIfInBounds_toArray, List.set_cons_zero, List.set_cons_succ]
      refine wpAnyK_take (i := 9) (some 23) ?vq1_9 rfl rfl (by kernel_rfl) (fun _ _ _ h => h) ⟨c0, c3⟩ (.inl ⟨rfl, fun W hW => ?yq1_9⟩) ?_
      case yq1_9 => (obtain ⟨c0', c3'⟩ := hW; go_simp) <;> with_reducible rfl
      simp only [Act.put, List.setIfInBounds_toArray, List.set_cons_zero, List.set_cons_succ]
      refine wpAnyK_take (i := 10) (some 24) ?vq1_10 rfl rfl (by kernel_rfl) (fun _ _ _ h => h) ⟨c0, c3⟩ (.inl ⟨rfl, fun W hW => ?yq1_10⟩) ?_
      case yq1_10 => (obtain ⟨c0', c3'⟩ := hW; go_simp) <;> with_reducible rfl
      simp only [Act.put, List.setIfInBounds_toArray, List.set_cons_zero, List.set_cons_succ]
      refine wpAnyK_take (i := 11) (some 25) ?vq1_11 rfl rfl (by kernel_rfl) (fun _ _ _ h => h) ⟨c0, c3⟩ (.inl ⟨rfl, fun W hW => ?yq1_11⟩) ?_
      case yq1_11 => (obtain ⟨c0', c3'⟩ := hW; go_simp) <;> with_reducible rfl
      simp only [Act.put, List.setIfInBounds_toArray, List.set_cons_zero, List.set_cons_succ]
      refine wpAnyK_take (i := 12) (some 26) ?vq1_12 rfl rfl (by kernel_rfl) (fun _ _ _ h => h) ⟨c0, c3⟩ (.inl ⟨rfl, fun W hW => ?yq1_12⟩) ?_
      case yq1_12 => (obtain ⟨c0', c3'⟩ := hW; go_simp) <;> with_reducible rfl
      simp only [Act.put, List.setIfInBounds_toArray, List.set_cons_zero, List.set_cons_succ]
      refine wpAnyK_step (j := 13) (some 27) rfl rfl (by kernel_rfl) rfl fun K hK => ?_
      have hdr : Fr [] wr wr.drew := (Fr.refl [] wr).drew
      refine wp_call_f (l := [.tmp 17, .tmp 26]) rfl [.pointer (some ⟨d, 0, none⟩), .int .i64 ((s.l.n : Int) + 8 * (k : Int) + (i : Int))] rfl (enter_read _) ((read_at (HAR.out.jn.disk.fr hdr (by simp)) ((s.l.n : Int) + 8 * (k : Int) + (i : Int))).mono ?_)
      rintro e w1 ⟨v, q, rfl, hbv, hgw, hf1, hyes, _⟩
      have hE : s.D.readE ((s.l.n : Int) + 8 * (k : Int) + (i : Int)) = 0 := by
        unfold DM.readE
        rw [HC.out.dead, if_neg (by simp), if_neg (by omega)]
      have hR : s.D.read ((s.l.n : Int) + 8 * (k : Int) + (i : Int)) = s.D.S.getD (s.l.n + 8 * k + i) [] := by
        unfold DM.read
        rw [if_pos hE, show ((s.l.n : Int) + 8 * (k : Int) + (i : Int)).toNat = s.l.n + 8 * k + i by omega]
        unfold DM.look
        rw [HC.out.pend]
        rfl
      obtain ⟨rfl, hblk⟩ := hyes hE
      rw [hR] at hblk
      have hf1' : Fr [] wr w1 := hdr.trans hf1 (by simp)
      have hA1 := HAR.out.fr hf1' (by simp)
      have c03 : w1.cell? ⟨g, 0, none⟩ = some (.pointer (some ⟨d, 0, none⟩)) ∧ w1.cell? ⟨g, 3, none⟩ = some (.int .i64 (s.l.n : Int)) := ⟨hA1.blk.at_ (i := 0) rfl, hA1.blk.at_ (i := 3) rfl⟩
      rw [hE]
      refine ⟨_, rfl, hK _ _ (fun _ => c03) ?_⟩
      simp only [Act.put, List.setIfInBounds_toArray, List.set_cons_zero, List.set_cons_succ]
      refine wpAnyK_take (i := 14) (some 13) ?vq1_14 rfl rfl (by kernel_rfl) (fun _ _ _ h => h) c03 (.inl ⟨rfl, fun W hW => ?yq1_14⟩) ?_
      case yq1_14 => (obtain ⟨c0', c3'⟩ := hW; go_simp) <;> with_reducible rfl
      simp only [Act.put, List.setIfInBounds_toArray, List.set_cons_zero, List.set_cons_succ]
      refine wpAnyK_take (i := 15) (some 28) ?vq1_15 rfl rfl (by kernel_rfl) (fun _ _ _ h => h) c03 (.inl ⟨rfl, fun W hW => ?yq1_15⟩) ?_
      case yq1_15 => (obtain ⟨c0', c3'⟩ := hW; go_simp) <;> with_reducible rfl
      simp only [Act.put, List.setIfInBounds_toArray, List.set_cons_zero, List.set_cons_succ]
      refine wpAnyK_take (i := 16) (some 29) ?vq1_16 rfl rfl (by kernel_rfl) (fun _ _ _ h => h) c03 (.inl ⟨rfl, fun W hW => ?yq1_16⟩) ?_
      case yq1_16 => (obtain ⟨c0', c3'⟩ := hW; go_simp) <;> with_reducible rfl
      simp only [Act.put, List.setIfInBounds_toArray, List.set_cons_zero, List.set_cons_succ]
      refine wpAnyK_step (j := 17) (some 8) rfl rfl (by kernel_rfl) rfl fun K hK => ?_
      refine wp_run_same (v := ?aq1_17) ?yq1_17 (hK _ _ (fun _ => c03) ?_)
      case yq1_17 => go_simp <;> with_reducible rfl
      simp only [Act.put, List.setIfInBounds_toArray, List.set_cons_zero, List.set_cons_succ]
      refine wpAnyK_step (j := 18) (some 9) rfl rfl (by kernel_rfl) rfl fun K hK => ?_
      refine wp_run_same (v := ?aq1_18) ?yq1_18 (hK _ _ (fun _ => c03) ?_)
      case yq1_18 => go_simp <;> with_reducible rfl
      simp only [Act.put, List.setIfInBounds_toArray, List.set_cons_zero, List.set_cons_succ]
      refine wpAnyK_done (by kernel_rfl) ?_ _
      obtain ⟨sc, hsc⟩ : ∃ sc, sc = s.D.S.getD (s.l.n + 8 * k + i) [] := ⟨_, rfl⟩
      rw [← hsc] at hblk
      have hscl : sc.length = 64 := by
        rw [hsc, List.getD, List.getElem?_eq_getElem (by omega : s.l.n + 8 * k + i < s.D.S.length), Option.getD_some]
        exact HSEC.out _ (List.getElem_mem _)
      have HSC := Lib.hid hsc; have HBLK := Lib.hid hblk; have HF1 := Lib.hid hf1'; have HSCL := Lib.hid hscl
      have hown1 := own_fr HOWN.out hf1' (by simp)
      have HO1 := Lib.hid hown1
      clear hbv hgw hf1 hyes hE hR hA1 c03 hdr hK hsc hblk hf1' hscl hown1 c0 c3 x1 x2 x3
      go_upto_region 9 with fail
      refine wp_region_lit ?_
      refine wpList_plain rfl fun K hK => ?_
      refine wp_run_same (v := ?au3_0) ?yu3_0 (hK _ _ ?_)
      case yu3_0 => go_simp <;> with_reducible rfl
      clear hK K
      simp only [Act.put, List.setIfInBounds_toArray, List.set_cons_zero, List.set_cons_succ]
      refine wpList_plain rfl fun K hK => ?_
      refine wp_run_same (v := ?au4_1) ?yu4_1 (hK _ _ ?_)
      case yu4_1 => go_simp <;> with_reducible rfl
      clear hK K
      simp only [Act.put, List.setIfInBounds_toArray, List.set_cons_zero, List.set_cons_succ]
      obtain ⟨iu, hi', hz', hsz', hby⟩ := info_parts info_u8
      refine wpList_plain rfl fun K hK => ?_
      refine wp_append_fr (.tmp 36) (.tmp 37) rfl 5 1 1 Try.underlying35 hi' hz' hsz' hby rfl (by omega) (.slice oA (64 * i) oc) (64 * i) (bcells (homeI s.D.S s.l.n k i)) rfl HO1.out ⟨q, 0, none⟩ 64 64 (bcells sc) rfl (by rw [bcells_len, HSCL.out]) (fun j u hu => by rw [Addr.add_mid, Nat.zero_add]; exact HBLK.out.at_ hu) (bcells_one _) (by omega) (by unfold maxLen; omega) (by omega) w1.heap.size rfl fun g9 cap9 w9 ho9 hf9 hat9 hlt9 => hK _ _ ?_
      simp only [Act.put, List.setIfInBounds_toArray, List.set_cons_zero, List.set_cons_succ]
      clear hK
      refine wpList_plain rfl fun K hK => ?_
      refine wp_run_same (v := ?au5_3) ?yu5_3 (hK _ _ ?_)
      case yu5_3 => go_simp <;> with_reducible rfl
      clear hK K
      simp only [Act.put, List.setIfInBounds_toArray, List.set_cons_zero, List.set_cons_succ]
      refine wpList_nil ?_
      have HX : Hid (HmRel w s.D.S s.l.n k (.slice (some ⟨g9, 0, none⟩) (64 * i + 64) cap9) (.int .i64 ((i : Int) + 1)) w9) := Lib.hid (by
        refine ⟨i + 1, by omega, by go_num, ?_, ?_, ?_⟩
        · rw [homeI_succ (by omega), bcells_append, ← HSC.out]
          exact ho9
        · intro x hx
          simp [Value.ownBlock] at hx
          subst hx
          rcases hat9 with h | h
          · exact HGE.out _ h
          · have := (HF.out.trans HF1.out (by simp)).size; omega
        · exact (HF.out.trans HF1.out (by simp)).trans hf9 (fun x hx => .inr (HGE.out x (by simpa using hx))))
      clear ho9 hf9 hat9 hlt9 hi' hz' hsz' hby HO1
      go_wp2_with fail
      go_roundw
      case rel => exact HX.out
      case measure => simp [intOf]; omega
    · obtain rfl : i = 8 := by omega
      have HX : Hid (∃ gb, BytesAt wr (.slice oA (64 * 8) oc) (homeP s.D.S s.l.n k) gb ∧ w.heap.size ≤ gb) := Lib.hid (by
        have h := HOWN.out
        have hl : (homeI s.D.S s.l.n k 8).length = 64 * 8 := homeI_len HSEC.out (by omega)
        rw [← hl] at h ⊢
        exact bytes_of_own h (by rw [hl]; exact HGE.out))
      clear c0 c3
      go_wp2_with fail
      obtain ⟨gb, h1, h2⟩ := HX.out
      exact HQ.out _ _ ⟨_, gb, rfl, h1, h2, HF.out⟩

/-! ### Read -/
theorem build_maps (a b : Nat) (w : World) : (Instr.buildSlice 73 2 #[(0, .map (some a)), (1, .map (some b))]).run Try.prog w = .ok (.slice (some ⟨w.heap.size, 0, none⟩) 2 2) (w.alloc (.cells #[.map (some a), .map (some b)] 61)) := by kernel_rfl
theorem slice_whole (q : Nat) (W : World) : (Instr.sliceAt 66 (.pointer (some ⟨q, 0, none⟩)) none none none).run Try.prog W = .ok (.slice (some ⟨q, 0, none⟩) 512 512) W := by kernel_rfl
/-- A page, as Read gives it. -/
def PS.page (s : PS) (k : Nat) : List UInt8 := (getP s.late k).getD ((getP s.held k).getD (homeP s.D.S s.l.n k))
theorem PInv.page_eq {c : Nat} {s : PS} {C : Nat → List UInt8} (h : PInv c s C) {k : Nat} (hk : k < s.n) : s.page k = over C s.late k := by
  unfold PS.page over
  rw [h.cont k hk]
def RdRel (w2 : World) (s : PS) (k : Nat) (v34 : Value) (wr : World) : Prop :=
  ∃ j : Nat, j ≤ 2 ∧ v34 = .int .i64 (j : Int) ∧ (0 < j → getP s.late k = none) ∧ (1 < j → getP s.held k = none) ∧ Fr [] w2 wr
set_option maxRecDepth 100000 in
set_option maxHeartbeats 2000000 in
theorem read_P {w : World} {g d lg bl bh : Nat} {s : PS} {fp : List Nat} (h : PgrAt w g d lg bl bh s fp) (hbr : s.br = false) (hc : Calm s) (k : Nat) (hk : k < s.n) :
    Calls Try.prog 23 #[.pointer (some ⟨g, 0, none⟩), .int .i64 (k : Int)] w (PgAns w (s.page k)) := by
  refine calls_post fun R HQ => ?_
  have HA := Lib.hid h
  have hn := h.few
  have hgo := gone_P h
  rw [hbr] at hgo
  have HGO := Lib.hid hgo; have HC := Lib.hid hc
  have c2 := h.blk.at_ (i := 2) rfl
  have c4 := h.blk.at_ (i := 4) rfl
  have c5 := h.blk.at_ (i := 5) rfl
  clear h hgo hc hbr
  go_enter Try.func23, Try.ntmps23
  go_wp2_with fail
  refine HGO.out.mono ?_
  rintro e w' ⟨rfl, rfl⟩
  go_wp2_with fail
  refine wp_region_K (fun W => W.cell? ⟨g, 4, none⟩ = some (.map (some bl)) ∧ W.cell? ⟨g, 5, none⟩ = some (.map (some bh))) [0, 1, 2, 3, 4, 5, 6, 7, 9, 10] (by kernel_rfl) ?_
  refine wpAnyK_take (i := 0) (some 24) ?vq6_0 rfl rfl (by kernel_rfl) (fun _ _ _ h => h) ⟨c4, c5⟩ (.inl ⟨rfl, fun W hW => ?yq6_0⟩) ?_
  case yq6_0 => (obtain ⟨c4', c5'⟩ := hW; go_simp) <;> with_reducible rfl
  simp only [Act.put, List.setIfInBounds_toArray, List.set_cons_zero, List.set_cons_succ]
  refine wpAnyK_take (i := 1) (some 25) ?vq6_1 rfl rfl (by kernel_rfl) (fun _ _ _ h => h) ⟨c4, c5⟩ (.inl ⟨rfl, fun W hW => ?yq6_1⟩) ?_
  case yq6_1 => (obtain ⟨c4', c5'⟩ := hW; go_simp) <;> with_reducible rfl
  simp only [Act.put, List.setIfInBounds_toArray, List.set_cons_zero, List.set_cons_succ]
  refine wpAnyK_take (i := 2) (some 26) ?vq6_2 rfl rfl (by kernel_rfl) (fun _ _ _ h => h) ⟨c4, c5⟩ (.inl ⟨rfl, fun W hW => ?yq6_2⟩) ?_
  case yq6_2 => (obtain ⟨c4', c5'⟩ := hW; go_simp) <;> with_reducible rfl
  simp only [Act.put, List.setIfInBounds_toArray, List.set_cons_zero, List.set_cons_succ]
  refine wpAnyK_take (i := 3) (some 27) ?vq6_3 rfl rfl (by kernel_rfl) (fun _ _ _ h => h) ⟨c4, c5⟩ (.inl ⟨rfl, fun W hW => ?yq6_3⟩) ?_
  case yq6_3 => (obtain ⟨c4', c5'⟩ := hW; go_simp) <;> with_reducible rfl
  simp only [Act.put, List.setIfInBounds_toArray, List.set_cons_zero, List.set_cons_succ]
  refine wpAnyK_take (i := 4) (some 28) ?vq6_4 rfl rfl (by kernel_rfl) (fun _ _ _ h => h) ⟨c4, c5⟩ (.inl ⟨rfl, fun W hW => ?yq6_4⟩) ?_
  case yq6_4 => (obtain ⟨c4', c5'⟩ := hW; go_simp) <;> with_reducible rfl
  simp only [Act.put, List.setIfInBounds_toArray, List.set_cons_zero, List.set_cons_succ]
  refine wpAnyK_take (i := 5) (some 29) ?vq6_5 rfl rfl (by kernel_rfl) (fun _ _ _ h => h) ⟨c4, c5⟩ (.inl ⟨rfl, fun W hW => ?yq6_5⟩) ?_
  case yq6_5 => (obtain ⟨c4', c5'⟩ := hW; go_simp) <;> with_reducible rfl
  simp only [Act.put, List.setIfInBounds_toArray, List.set_cons_zero, List.set_cons_succ]
  refine wpAnyK_take (i := 6) (some 30) ?vq6_6 rfl rfl (by kernel_rfl) (fun _ _ _ h => h) ⟨c4, c5⟩ (.inl ⟨rfl, fun W hW => ?yq6_6⟩) ?_
  case yq6_6 => (obtain ⟨c4', c5'⟩ := hW; go_simp) <;> with_reducible rfl
  simp only [Act.put, List.setIfInBounds_toArray, List.set_cons_zero, List.set_cons_succ]
  refine wpAnyK_take (i := 7) (some 31) ?vq6_7 rfl rfl (by kernel_rfl) (fun _ _ _ h => h) ⟨c4, c5⟩ (.inl ⟨rfl, fun W hW => ?yq6_7⟩) ?_
  case yq6_7 => (obtain ⟨c4', c5'⟩ := hW; go_simp) <;> with_reducible rfl
  simp only [Act.put, List.setIfInBounds_toArray, List.set_cons_zero, List.set_cons_succ]
  refine wpAnyK_take (i := 10) (some 34) ?vq6_10 rfl rfl (by kernel_rfl) (fun _ _ _ h => h) ⟨c4, c5⟩ (.inl ⟨rfl, fun W hW => ?yq6_10⟩) ?_
  case yq6_10 => (obtain ⟨c4', c5'⟩ := hW; go_simp) <;> with_reducible rfl
  simp only [Act.put, List.setIfInBounds_toArray, List.set_cons_zero, List.set_cons_succ]
  refine wpAnyK_step (j := 8) (some 32) rfl rfl (by kernel_rfl) rfl fun K hK => ?_
  have hdr : Fr [] w w.drew := (Fr.refl [] w).drew
  have hbm := build_maps bl bh w.drew
  have hf2 : Fr [] w (w.drew.alloc (.cells #[.map (some bl), .map (some bh)] 61)) := hdr.alloc _
  have hb2 : Blk (w.drew.alloc (.cells #[.map (some bl), .map (some bh)] 61)) w.drew.heap.size 61 [.map (some bl), .map (some bh)] := Blk.new w.drew 61 _
  have hA2 := HA.out.fr hf2 (by simp)
  have c45 : (w.drew.alloc (.cells #[.map (some bl), .map (some bh)] 61)).cell? ⟨g, 4, none⟩ = some (.map (some bl)) ∧ (w.drew.alloc (.cells #[.map (some bl), .map (some bh)] 61)).cell? ⟨g, 5, none⟩ = some (.map (some bh)) := ⟨hA2.blk.at_ (i := 4) rfl, hA2.blk.at_ (i := 5) rfl⟩
  refine wp_run_value (v := .slice (some ⟨w.drew.heap.size, 0, none⟩) 2 2) (w' := w.drew.alloc (.cells #[.map (some bl), .map (some bh)] 61)) (by simp [execOp, Act.eval, hbm, Result.andThen]) (hK _ _ (fun _ => c45) ?_)
  simp only [Act.put, List.setIfInBounds_toArray, List.set_cons_zero, List.set_cons_succ]
  refine wpAnyK_take (i := 9) (some 33) ?vq6_9 rfl rfl (by kernel_rfl) (fun _ _ _ h => h) c45 (.inl ⟨rfl, fun W hW => ?yq6_9⟩) ?_
  case yq6_9 => (obtain ⟨c4', c5'⟩ := hW; go_simp) <;> with_reducible rfl
  simp only [Act.put, List.setIfInBounds_toArray, List.set_cons_zero, List.set_cons_succ]
  refine wpAnyK_done (by kernel_rfl) ?_ _
  have hq0 : w.drew.heap.size = w.heap.size := rfl
  rw [hq0] at hb2 ⊢
  have HF2 := Lib.hid hf2; have HB2 := Lib.hid hb2
  clear hbm hA2 c45 hK hdr hq0 hf2 hb2 c4 c5 c2
  generalize w.drew.alloc (.cells #[.map (some bl), .map (some bh)] 61) = w2 at *
  have hsl := slice_whole
  go_wp2_with fail
  have hd1 : decide ((k : Int) < 0) = false := by simp
  have hd2 : decide (s.n ≤ k) = false := by simp; omega
  simp only [hd1, hd2, Bool.or_self]
  go_loopw [34] (fun v34 wr => RdRel w2 s k v34 wr) (fun v _ => 2 - (intOf v).toNat)
  case atStart => exact ⟨0, by omega, rfl, fun h => absurd h (by omega), fun h => absurd h (by omega), Fr.refl _ _⟩
  case round =>
    obtain ⟨j, hj, rfl, h0, h1, hf⟩ := hrel
    have hAr := HA.out.fr (HF2.out.trans hf (by simp)) (by simp)
    have HAR := Lib.hid hAr; have HF := Lib.hid hf; have H0 := Lib.hid h0; have H1 := Lib.hid h1
    clear hf h0 h1
    by_cases hj2 : j < 2
    · have hb := HB2.out.fr HF.out (by simp)
      obtain ⟨bj, mj, cc, hmj, hmok, hnone, hsome⟩ : ∃ bj mj, wr.cell? ⟨w.heap.size, j, none⟩ = some (.map (some bj)) ∧ MapAt wr bj mj ∧ PgOk s.n mj ∧ (getP mj k = none → (0 < j + 1 → getP s.late k = none) ∧ (1 < j + 1 → getP s.held k = none)) ∧ ∀ x, getP mj k = some x → s.page k = x := by
        rcases (by omega : j = 0 ∨ j = 1) with rfl | rfl
        · refine ⟨bl, s.late, hb.at_ (i := 0) rfl, hAr.late, hAr.lok, fun h => ⟨fun _ => h, fun h => absurd h (by omega)⟩, fun x hx => ?_⟩
          unfold PS.page
          rw [hx]
          rfl
        · refine ⟨bh, s.held, hb.at_ (i := 1) rfl, hAr.held, hAr.hok, fun h => ⟨fun _ => H0.out (by omega), fun _ => h⟩, fun x hx => ?_⟩
          unfold PS.page
          rw [H0.out (by omega), hx]
          rfl
      have hlk := hmj.look_ok (k := k) (by omega)
      obtain ⟨x, hx⟩ : ∃ x, x = (getP mj k).getD zpage := ⟨_, rfl⟩
      have hxl : x.length = 512 := by
        rw [hx]
        cases hg : getP mj k with
        | none => exact zpage_len
        | some y => exact (getP_len hmok hg).2
      obtain ⟨is, his⟩ : ∃ is, is = (getP mj k).isSome := ⟨_, rfl⟩
      rw [← hx, ← his] at hlk
      unfold pageV at hlk
      have HN := Lib.hid hnone; have HS := Lib.hid hsome; have HX := Lib.hid hx; have HI := Lib.hid his; have HXL := Lib.hid hxl
      clear hb hAr hmj hmok hnone hsome hx his hxl
      go_wp2_with (first
        | (with_reducible refine wpList_alloc_z rfl 66 rfl (pageV zpage) (bcells zpage).toArray zero_pg rfl ?_)
        | (with_reducible refine wpList_store_z (W := wr) rfl 66 (.tmp 8) (.tmp 42) rfl (bcells x) rfl rfl rfl ?zi ?zl ?z1 ?_))
      case zi => have h := size_pg; simpa [bcells_len, HXL.out] using h
      case zl => show (bcells zpage).length = (bcells x).length; rw [bcells_len, bcells_len, zpage_len, HXL.out]
      case z1 => exact bcells_one _
      intro w4 hb4 hf4 hz4
      have HB4 := Lib.hid hb4; have HF4 := Lib.hid hf4
      clear hb4 hf4 hlk cc
      cases is with
      | true =>
        have hsz : w.heap.size ≤ wr.heap.size := by have := (HF2.out.trans HF.out (by simp)).size; omega
        go_wp2_with fail
        refine HQ.out _ _ ⟨_, wr.heap.size, rfl, ?_, hsz, ((HF2.out.trans HF.out (by simp)).trans HF4.out (by simp))⟩
        have hsome := HS.out x (by
          have h1 := HI.out; have h2 := HX.out
          cases hg : getP mj k with
          | none => rw [hg] at h1; cases h1
          | some y => rw [hg] at h2; rw [h2]; rfl)
        rw [hsome]
        have h := BytesAt.of_blk HB4.out 512 (by rw [HXL.out]; exact Nat.le_refl _)
        rw [HXL.out] at h
        exact h
      | false =>
        have hnone := HN.out (by
          have h1 := HI.out
          cases hg : getP mj k with
          | none => rfl
          | some y => rw [hg] at h1; cases h1)
        have HX2 : Hid (RdRel w2 s k (.int .i64 ((j : Int) + 1)) w4) := Lib.hid ⟨j + 1, by omega, by go_num, hnone.1, hnone.2, HF.out.trans HF4.out (by simp)⟩
        clear hnone
        go_wp2_with fail
        go_roundw
        case rel => exact HX2.out
        case measure => simp [intOf]; omega
    · obtain rfl : j = 2 := by omega
      have hpg : s.page k = homeP s.D.S s.l.n k := by
        unfold PS.page
        rw [H0.out (by omega), H1.out (by omega)]
        rfl
      have HH := Lib.hid (home_P HAR.out HC.out k hk)
      have HPG := Lib.hid hpg
      clear hAr hpg
      go_wp2_with fail
      refine HH.out.mono ?_
      rintro e w5 ⟨v, gb, rfl, hv, hgb, hf5⟩
      have HX : Hid (PgAns w (s.page k) (.returned (.tuple #[v, .int .i64 0])) w5) := Lib.hid ⟨v, gb, rfl, by rw [HPG.out]; exact hv, by have := (HF2.out.trans HF.out (by simp)).size; omega, (HF2.out.trans HF.out (by simp)).trans hf5 (by simp)⟩
      clear hv hgb hf5
      go_wp2_with fail
      exact HQ.out _ _ HX.out

end Go.Proofs.Ytidpleejgalljaa
