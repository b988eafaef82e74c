/-
  The contract of pick.
-/
import Derived.Test.YtnhlgjjdpappkaaCd
import Derived.Test.YtnhlgjjdpappkaaCe
namespace Go.Proofs.Ytnhlgjjdpappkaa
open Go.RowKit

theorem enter_part (vs : Array Value) (w : World) : (callFunc 19 vs).run Try.prog w = .ok (.enter 19 vs) w := by kernel_rfl
def PkRel (w : World) (gp B : Nat) (v : Value) (ops : List Rop) (l : List Pt) (j : Nat) (v4 v12 : Value) (wr : World) : Prop :=
  ∃ (k : Nat) (v' : Value), k + j = l.length ∧ k < l.length ∧ v12 = .int .i64 (k : Int) ∧ CP wr gp B v' (ops ++ pickHead l k ops.length) ∧ FK wr w gp gp v' v4 ((List.range k).map fun i => ops.length + headLen l (i + 1) - 1) ∧ CStep w wr gp v v'
def PjRel (w0 : World) (gp B : Nat) (v v' fv : Value) (ops : List Rop) (l : List Pt) (j : Nat) (v43 : Value) (wr : World) : Prop :=
  ∃ k : Nat, k + 1 + j = l.length ∧ v43 = .int .i64 (k : Int) ∧ CP wr gp B v' (ops ++ pickK l k ops.length (ops.length + pickLen l)) ∧ FK wr w0 gp gp v' fv ((List.range (l.length - 1)).map fun i => ops.length + headLen l (i + 1) - 1) ∧ CStep w0 wr gp v v'

set_option maxRecDepth 100000 in
set_option maxHeartbeats 1600000 in
theorem pick_any {m : Nat} (IH : PartOK m) {l : List Pt} (hm : ∀ p ∈ l, SizeOf.sizeOf p < m) {w : World} {gp B : Nat} {v : Value} {ops : List Rop} {lv : Value} (h : CP w gp B v ops) (hl : PartsAt w (fun g => g < B) l lv) (ho : allOk l) (h1 : 1 ≤ l.length) (hB : B ≤ w.heap.size) (hn : ops.length + pickLen l < 90000) (hl1 : l.length ≤ 1001) :
    Calls Try.prog 32 #[.pointer (some ⟨gp, 0, none⟩), lv] w (LayRes w gp B v (ops ++ pickCode l ops.length (ops.length + pickLen l))) := by
  refine calls_post fun R HQ => ?_
  have HIH := Lib.hid IH; have HO := Lib.hid ho; have HM := Lib.hid hm
  obtain ⟨A, c, g, off, css, rfl, hc, hA, hcell, hsub⟩ := hl
  obtain ⟨rfl, hgB⟩ := hA (by omega)
  have HCELL := Lib.hid hcell; have HSUB := Lib.hid hsub
  obtain ⟨n, hln⟩ : ∃ n, n = l.length := ⟨_, rfl⟩
  have HN := Lib.hid hln
  rw [← hln] at h1 hc hl1 ⊢
  have hgp := h.lt.1
  have HC0 := Lib.hid h
  clear h hA hcell hsub ho IH hm hln
  go_enter Try.func32, Try.ntmps32
  go_wp2_with fail
  go_loopg [4, 12] n (PkRel w gp B v ops l)
  case atStart => exact ⟨0, v, by rw [← HN.out]; omega, by rw [← HN.out]; omega, rfl, by simpa [pickHead] using HC0.out, FK.nil _ _ _ _ _, CStep.refl _ _ _⟩
  case round =>
    obtain ⟨k, v', hk, hkl, rfl, hC, hFK, hS⟩ := hrel
    rw [← HN.out] at hk hkl
    have HC := Lib.hid hC; have HFK := Lib.hid hFK; have HS := Lib.hid hS
    have hzr := hS.1.size
    clear hC hFK hS
    obtain ⟨q, hq⟩ : ∃ q, l[k]? = some q := ⟨_, List.getElem?_eq_getElem (by rw [← HN.out]; exact hkl)⟩
    obtain ⟨hc6, hck⟩ := HCELL.out k (by rw [← HN.out]; exact hkl)
    have hhl := headLen_le hq
    have hph := pickHead_len l k ops.length
    have hone := (HSUB.out k q hq).one
    have hgp' := HC.out.lt
    have HPS : Hid (∀ b, g < w.heap.size → wr.cell? ⟨g, b, none⟩ = w.cell? ⟨g, b, none⟩) := Lib.hid fun b hb => by
      refine HS.out.1.cell (p := ⟨g, b, none⟩) hb (fun hm' => ?_)
      rcases List.mem_cons.1 hm' with e | e
      · have := HC0.out.lo; simp only at e; omega
      · have := (HC0.out.own g (by simpa using e)).1; omega
    have HPQ := Lib.hid (HS.out.part HC0.out (HSUB.out k q hq))
    have HQQ := Lib.hid hq; have HCK := Lib.hid hck
    have HQM := Lib.hid (HM.out q (List.mem_of_getElem? hq)); have HQO := Lib.hid (allOk_get HO.out hq)
    rw [← HN.out] at hhl
    clear hq hck
    by_cases hlast : k + 1 = n
    · have d0 : ((k : Int) == (n : Int) - 1) = true := by simp; omega
      -- the part q, its cells css k, into a variable of its own
      go_upto_region 3 with fail
      refine wp_region_lit ?_
      refine wpList_plain rfl fun K hK => ?_
      refine wp_run_same (v := ?au2_0) ?yu2_0 (hK _ _ ?_)
      case yu2_0 => go_simp <;> with_reducible rfl
      clear hK K
      simp only [Act.put, List.setIfInBounds_toArray, List.set_cons_zero, List.set_cons_succ]
      refine wpList_plain rfl fun K hK => ?_
      refine wp_run_same (v := ?au3_1) ?yu3_1 (hK _ _ ?_)
      case yu3_1 => go_simp <;> with_reducible rfl
      clear hK K
      simp only [Act.put, List.setIfInBounds_toArray, List.set_cons_zero, List.set_cons_succ]
      refine wpList_plain rfl fun K hK => ?_
      refine wp_load_mid 43 (.tmp 15) rfl g (off + k * 6) rfl (css k) _ (fun j v hv => by
        have h1 := HCK.out j v hv
        rw [show off + k * 6 + j = off + 6 * k + j by omega, HPS.out _ (World.block_lt_of_cell? w _ h1)]
        exact h1) Try.underlying43 rfl (by rw [hc6]; kernel_rfl) (hK _ _ ?_)
      simp only [Act.put, List.setIfInBounds_toArray, List.set_cons_zero, List.set_cons_succ]
      clear hK
      refine wpList_plain rfl fun K hK => ?_
      refine wp_alloc_blk 43 rfl (.agg zero6.toArray) zero6 (by kernel_rfl) rfl fun w2 hb2 hf2 hs2 => hK _ _ ?_
      simp only [Act.put, List.setIfInBounds_toArray, List.set_cons_zero, List.set_cons_succ]
      clear hK
      refine wpList_plain rfl fun K hK => ?_
      refine wp_run_same (v := ?au4_4) ?yu4_4 (hK _ _ ?_)
      case yu4_4 => go_simp <;> with_reducible rfl
      clear hK K
      simp only [Act.put, List.setIfInBounds_toArray, List.set_cons_zero, List.set_cons_succ]
      refine wpList_plain rfl fun K hK => ?_
      refine wp_store_blk 43 (.tmp 6) (.tmp 16) rfl (css k) rfl rfl hb2 (by rw [hc6]; kernel_rfl) (by rw [hc6]; rfl) hone fun w3 hb3 hf3 hs3 => hK _ _ ?_
      simp only [Act.put]
      clear hK
      refine wpList_nil ?_
      have hf13 : Fr [] wr w3 := hf2.trans hf3 (fun x hx => .inr (by simp at hx; omega))
      have hz3 : wr.heap.size < w3.heap.size := by omega
      have HX3 := Lib.hid hb3
      have HC3 := Lib.hid (HC.out.frn hf13); have HS3 := Lib.hid (HS.out.fr hf13)
      have HPQ3 := Lib.hid (HPQ.out.fr hf13 (by simp))
      have HFK3 : Hid (FK w3 w gp gp v' u4 ((List.range k).map fun i => ops.length + headLen l (i + 1) - 1)) := Lib.hid ⟨own_fr HFK.out.own hf13 (by simp), HFK.out.lo⟩
      have hkeep : v'.ownBlock ≠ some wr.heap.size := fun e => by have := hgp'.2 _ e; omega
      have hfkl : ∀ g', u4.ownBlock = some g' → g' < wr.heap.size := HFK.out.lt
      have HFKL := Lib.hid hfkl; have HKEEP := Lib.hid hkeep
      clear hf13 hb2 hf2 hs2 hb3 hf3 hs3 hone hfkl hkeep HC HS HPQ HFK HPS HCELL HSUB HCK
      have hlen : (ops ++ pickHead l k ops.length).length = ops.length + headLen l k := by rw [List.length_append, hph]
      have HCQ := Lib.hid (HIH.out q HQM.out w3 gp B v' _ (css k) HC3.out HPQ3.out HQO.out (by omega) (by rw [hlen]; omega))
      rw [hlen] at HCQ
      have HKN : Hid (k = l.length - 1) := Lib.hid (by rw [← HN.out]; omega)
      clear hlen
      go_upto_region 5 with fail
      refine wp_region_lit ?_
      refine wpList_plain rfl fun K hK => ?_
      refine wp_run_same (v := ?au6_0) ?yu6_0 (hK _ _ ?_)
      case yu6_0 => go_simp <;> with_reducible rfl
      clear hK K
      simp only [Act.put, List.setIfInBounds_toArray, List.set_cons_zero, List.set_cons_succ]
      refine wpList_plain rfl fun K hK => ?_
      refine wp_load_mid 43 (.tmp 6) rfl wr.heap.size 0 rfl (css k) _ (fun j v hv => by rw [Nat.zero_add]; exact HX3.out.at_ hv) Try.underlying43 rfl (by rw [hc6]; kernel_rfl) (hK _ _ ?_)
      simp only [Act.put, List.setIfInBounds_toArray, List.set_cons_zero, List.set_cons_succ]
      clear hK
      refine wpList_plain rfl fun K hK => ?_
      refine wp_callp (l := [.tmp 22, .tmp 23]) rfl [.pointer (some ⟨gp, 0, none⟩), .agg (css k).toArray] rfl (enter_part _) (HCQ.out.mono ?_)
      rintro e w4 ⟨rfl, v4, hC4, hS4⟩
      refine .inl ⟨_, rfl, hK _ _ ?_⟩
      simp only [Act.put, List.setIfInBounds_toArray, List.set_cons_zero, List.set_cons_succ]
      clear hK
      refine wpList_nil ?_
      have HFK4 := Lib.hid (HFK3.out.step hS4); have HS4 := Lib.hid (HS3.out.trans hS4)
      have HC4 : Hid (CP w4 gp B v4 (ops ++ pickK l 0 ops.length (ops.length + pickLen l))) := Lib.hid (by
        rw [pickK_none l q _ _ (by rw [← HKN.out]; exact HQQ.out), ← HKN.out, ← List.append_assoc]; exact hC4)
      rw [HKN.out] at HFK4
      clear hC4 hS4 HCQ
      obtain ⟨fA, fc, hfv, hfn, _⟩ := own_shape HFK4.out.own
      rw [List.length_map, List.length_range, ← HN.out] at hfv hfn
      subst hfv
      have hkk : n - 1 ≤ k ∧ k ≤ n - 1 := by omega
      go_wp2_with fail
      go_loopg [43] (n - 1) (PjRel w gp B v v4 (.slice fA (n - 1) fc) ops l)
      case atStart => exact ⟨0, by rw [← HN.out]; omega, rfl, HC4.out, HFK4.out, HS4.out⟩
      case round =>
        obtain ⟨j, hj, rfl, hC, hFK, hS⟩ := hrel
        rw [← HN.out] at hj
        have HCj := Lib.hid hC; have HFKj := Lib.hid hFK; have HSj := Lib.hid hS
        clear hC hFK hS HC4 HFK4 HS4
        by_cases hjk : j + 1 < n
        · obtain ⟨g', rfl, hcell⟩ := own_cell (by have := HFKj.out.own; rwa [List.length_map, List.length_range, ← HN.out] at this) (by omega)
          have cj := hcell j (I64 (ops.length + headLen l (j + 1) - 1)) (by rw [List.getElem?_map, List.getElem?_map, List.getElem?_range (by omega)]; rfl)
          unfold I64 at cj
          obtain ⟨qj, hqj⟩ : ∃ q, l[j]? = some q := ⟨_, List.getElem?_eq_getElem (by rw [← HN.out]; omega)⟩
          have hhs := headLen_succ hqj
          have hget : (ops ++ pickK l j ops.length (ops.length + pickLen l))[ops.length + headLen l (j + 1) - 1]? = some (.leap 0) := by
            rw [List.getElem?_append_right (by omega), show ops.length + headLen l (j + 1) - 1 - ops.length = headLen l (j + 1) - 1 by omega]
            exact pickK_get l j _ _ (by rw [← HN.out]; omega)
          have hlen : (ops ++ pickK l j ops.length (ops.length + pickLen l)).length = ops.length + pickLen l := by rw [List.length_append, pickK_len]
          have hset : (ops ++ pickK l j ops.length (ops.length + pickLen l)).set (ops.length + headLen l (j + 1) - 1) (Rop.goto_ (.leap 0) (ops ++ pickK l j ops.length (ops.length + pickLen l)).length) = ops ++ pickK l (j + 1) ops.length (ops.length + pickLen l) := by
            rw [hlen, List.set_append, if_neg (by omega), show ops.length + headLen l (j + 1) - 1 - ops.length = headLen l (j + 1) - 1 by omega]
            show ops ++ (pickK l j ops.length (ops.length + pickLen l)).set (headLen l (j + 1) - 1) (.leap (ops.length + pickLen l)) = _
            rw [pickK_set l j _ _ (by rw [← HN.out]; omega)]
          have HCH := Lib.hid (here_any HCj.out hget trivial (by rw [hlen]; omega))
          rw [hset] at HCH
          clear hget hlen hset hcell hqj hhs
          generalize ops.length + headLen l (j + 1) - 1 = pos at *
          go_wp2_with fail
          refine HCH.out.mono ?_
          rintro e w9 ⟨rfl, hC9, hS9⟩
          have HC9 := Lib.hid hC9; have HS9 := Lib.hid (HSj.out.trans hS9); have HFK9 := Lib.hid (HFKj.out.step hS9)
          clear hC9 hS9
          go_wp2_with fail
          go_roundg (gk - 1)
          case measure => omega
          case rel => exact ⟨j + 1, by rw [← HN.out]; omega, by go_num, HC9.out, HFK9.out, HS9.out⟩
        · have HCe : Hid (CP wr gp B v4 (ops ++ pickCode l ops.length (ops.length + pickLen l))) := Lib.hid (by rw [← pickK_all l j _ _ (by rw [← HN.out]; omega)]; exact HCj.out)
          go_wp2_with fail
          exact bodyPost_end (results_none rfl _ _ _) rfl (HQ.out _ _ ⟨rfl, v4, HCe.out, HSj.out⟩)
    · have d0 : ((k : Int) == (n : Int) - 1) = false := by simp; omega
      -- the part q, its cells css k, into a variable of its own
      go_upto_region 3 with fail
      refine wp_region_lit ?_
      refine wpList_plain rfl fun K hK => ?_
      refine wp_run_same (v := ?au8_0) ?yu8_0 (hK _ _ ?_)
      case yu8_0 => go_simp <;> with_reducible rfl
      clear hK K
      simp only [Act.put, List.setIfInBounds_toArray, List.set_cons_zero, List.set_cons_succ]
      refine wpList_plain rfl fun K hK => ?_
      refine wp_run_same (v := ?au9_1) ?yu9_1 (hK _ _ ?_)
      case yu9_1 => go_simp <;> with_reducible rfl
      clear hK K
      simp only [Act.put, List.setIfInBounds_toArray, List.set_cons_zero, List.set_cons_succ]
      refine wpList_plain rfl fun K hK => ?_
      refine wp_load_mid 43 (.tmp 15) rfl g (off + k * 6) rfl (css k) _ (fun j v hv => by
        have h1 := HCK.out j v hv
        rw [show off + k * 6 + j = off + 6 * k + j by omega, HPS.out _ (World.block_lt_of_cell? w _ h1)]
        exact h1) Try.underlying43 rfl (by rw [hc6]; kernel_rfl) (hK _ _ ?_)
      simp only [Act.put, List.setIfInBounds_toArray, List.set_cons_zero, List.set_cons_succ]
      clear hK
      refine wpList_plain rfl fun K hK => ?_
      refine wp_alloc_blk 43 rfl (.agg zero6.toArray) zero6 (by kernel_rfl) rfl fun w2 hb2 hf2 hs2 => hK _ _ ?_
      simp only [Act.put, List.setIfInBounds_toArray, List.set_cons_zero, List.set_cons_succ]
      clear hK
      refine wpList_plain rfl fun K hK => ?_
      refine wp_run_same (v := ?au10_4) ?yu10_4 (hK _ _ ?_)
      case yu10_4 => go_simp <;> with_reducible rfl
      clear hK K
      simp only [Act.put, List.setIfInBounds_toArray, List.set_cons_zero, List.set_cons_succ]
      refine wpList_plain rfl fun K hK => ?_
      refine wp_store_blk 43 (.tmp 6) (.tmp 16) rfl (css k) rfl rfl hb2 (by rw [hc6]; kernel_rfl) (by rw [hc6]; rfl) hone fun w3 hb3 hf3 hs3 => hK _ _ ?_
      simp only [Act.put]
      clear hK
      refine wpList_nil ?_
      have hf13 : Fr [] wr w3 := hf2.trans hf3 (fun x hx => .inr (by simp at hx; omega))
      have hz3 : wr.heap.size < w3.heap.size := by omega
      have HX3 := Lib.hid hb3
      have HC3 := Lib.hid (HC.out.frn hf13); have HS3 := Lib.hid (HS.out.fr hf13)
      have HPQ3 := Lib.hid (HPQ.out.fr hf13 (by simp))
      have HFK3 : Hid (FK w3 w gp gp v' u4 ((List.range k).map fun i => ops.length + headLen l (i + 1) - 1)) := Lib.hid ⟨own_fr HFK.out.own hf13 (by simp), HFK.out.lo⟩
      have hkeep : v'.ownBlock ≠ some wr.heap.size := fun e => by have := hgp'.2 _ e; omega
      have hfkl : ∀ g', u4.ownBlock = some g' → g' < wr.heap.size := HFK.out.lt
      have HFKL := Lib.hid hfkl; have HKEEP := Lib.hid hkeep
      clear hf13 hb2 hf2 hs2 hb3 hf3 hs3 hone hfkl hkeep HC HS HPQ HFK HPS HCELL HSUB HCK
      have hpos : (ops ++ pickHead l k ops.length).length = ops.length + headLen l k := by rw [List.length_append, hph]
      have hbd : ops.length + headLen l k + (1 + q.len + 1) < 90000 := by have := hhl.2 (by omega); omega
      have HCP := Lib.hid (put_any HC3.out (fork_at w3 B 0) (by omega) (by rw [hpos]; omega))
      rw [hpos] at HCP
      obtain ⟨pos, hpos'⟩ : ∃ pos, pos = ops.length + headLen l k := ⟨_, rfl⟩
      rw [← hpos'] at HCP hbd hpos
      have HPOS := Lib.hid hpos'; have HPL := Lib.hid hpos
      clear hpos hpos' hph hhl
      go_wp2_with fail
      refine HCP.out.mono ?_
      rintro e w4 ⟨rfl, v4, hC4, hS4⟩
      obtain ⟨hx4, hov4⟩ := hS4.keep HX3.out (by omega) HKEEP.out
      have hz4 := hS4.1.size
      have HX4 := Lib.hid hx4; have HOV4 := Lib.hid hov4; have HC4 := Lib.hid hC4; have HS4 := Lib.hid (HS3.out.trans hS4)
      have HFK4 := Lib.hid (HFK3.out.step hS4); have HPQ4 := Lib.hid (hS4.part HC3.out HPQ3.out)
      have hl4 : (ops ++ pickHead l k ops.length ++ [Rop.fork 0]).length = pos + 1 := by rw [List.length_append, HPL.out]; rfl
      have HCQ := Lib.hid (HIH.out q HQM.out w4 gp B v4 _ (css k) HC4.out HPQ4.out HQO.out (by omega) (by rw [hl4]; omega))
      rw [hl4] at HCQ
      clear hx4 hov4 hC4 hS4 hl4 HCP HC3 HS3 HFK3 HPQ3 HX3 HKEEP
      go_upto_region 7 with fail
      refine wp_region_lit ?_
      refine wpList_plain rfl fun K hK => ?_
      refine wp_run_same (v := ?au12_0) ?yu12_0 (hK _ _ ?_)
      case yu12_0 => go_simp <;> with_reducible rfl
      clear hK K
      simp only [Act.put, List.setIfInBounds_toArray, List.set_cons_zero, List.set_cons_succ]
      refine wpList_plain rfl fun K hK => ?_
      refine wp_load_mid 43 (.tmp 6) rfl wr.heap.size 0 rfl (css k) _ (fun j v hv => by rw [Nat.zero_add]; exact HX4.out.at_ hv) Try.underlying43 rfl (by rw [hc6]; kernel_rfl) (hK _ _ ?_)
      simp only [Act.put, List.setIfInBounds_toArray, List.set_cons_zero, List.set_cons_succ]
      clear hK
      refine wpList_plain rfl fun K hK => ?_
      refine wp_callp (l := [.tmp 28, .tmp 29]) rfl [.pointer (some ⟨gp, 0, none⟩), .agg (css k).toArray] rfl (enter_part _) (HCQ.out.mono ?_)
      rintro e w5 ⟨rfl, v5, hC5, hS5⟩
      refine .inl ⟨_, rfl, hK _ _ ?_⟩
      simp only [Act.put, List.setIfInBounds_toArray, List.set_cons_zero, List.set_cons_succ]
      clear hK
      refine wpList_nil ?_
      have hz5 := hS5.1.size
      have HC5 := Lib.hid hC5; have HS5 := Lib.hid (HS4.out.trans hS5); have HFK5 := Lib.hid (HFK4.out.step hS5)
      have hl5 : (ops ++ pickHead l k ops.length ++ [Rop.fork 0] ++ q.code (pos + 1)).length = pos + 1 + q.len := by rw [List.length_append, List.length_append, HPL.out, Pt.code_len]; rfl
      have HCP := Lib.hid (put_any HC5.out (leap_at w5 B 0) (by omega) (by rw [hl5]; omega))
      rw [hl5] at HCP
      clear hC5 hS5 HCQ HC4 HS4 HFK4 HPQ4 HX4 HOV4 hl5
      obtain ⟨fA, fc, hfv, hfn, _⟩ := own_shape HFK5.out.own
      rw [List.length_map, List.length_range] at hfv
      subst hfv
      obtain ⟨lp, hlp⟩ : ∃ lp, lp = pos + 1 + q.len := ⟨_, rfl⟩
      rw [← hlp] at HCP
      have HLP := Lib.hid hlp
      clear hlp
      go_upto_region 8 with fail
      refine wp_region_lit ?_
      refine wpList_plain rfl fun K hK => ?_
      refine wp_run_same (v := ?au14_0) ?yu14_0 (hK _ _ ?_)
      case yu14_0 => go_simp <;> with_reducible rfl
      clear hK K
      simp only [Act.put, List.setIfInBounds_toArray, List.set_cons_zero, List.set_cons_succ]
      refine wpList_plain rfl fun K hK => ?_
      refine wp_run_same (v := ?au15_1) ?yu15_1 (hK _ _ ?_)
      case yu15_1 => go_simp <;> with_reducible rfl
      clear hK K
      simp only [Act.put, List.setIfInBounds_toArray, List.set_cons_zero, List.set_cons_succ]
      refine wpList_plain rfl fun K hK => ?_
      refine wp_run_same (v := ?au16_2) ?yu16_2 (hK _ _ ?_)
      case yu16_2 => go_simp <;> with_reducible rfl
      clear hK K
      simp only [Act.put, List.setIfInBounds_toArray, List.set_cons_zero, List.set_cons_succ]
      refine wpList_plain rfl fun K hK => ?_
      refine wp_callp (l := [.tmp 32, .tmp 33]) rfl [.pointer (some ⟨gp, 0, none⟩), .agg #[.int .i64 2, .bool false, .slice none 0 0, .int .i64 0]] rfl (enter_put _) (HCP.out.mono ?_)
      rintro e w6 ⟨rfl, v6, hC6, hS6⟩
      refine .inl ⟨_, rfl, hK _ _ ?_⟩
      simp only [Act.put, List.setIfInBounds_toArray, List.set_cons_zero, List.set_cons_succ]
      clear hK
      have hFK6 := HFK5.out.step hS6
      have hz6 := hS6.1.size
      have hgp6 := hC6.lt
      refine wpList_plain rfl fun K hK => ?_
      obtain ⟨iu, hi, hz', hsz', hby⟩ := info_parts info_int
      refine wp_build_cell (.tmp 34) rfl Try.underlying74 hi hz' hsz' rfl (.int .i64 (lp : Int)) rfl rfl w6.heap.size rfl fun w7 hbn hfn2 hsn => hK _ _ ?_
      simp only [Act.put, List.setIfInBounds_toArray, List.set_cons_zero, List.set_cons_succ]
      clear hK
      refine wpList_plain rfl fun K hK => ?_
      refine wp_append_fr (.tmp 31) (.tmp 35) rfl 3 1 8 Try.underlying74 hi hz' hsz' hby rfl (by omega) (.slice fA k fc) k (((List.range k).map fun i => ops.length + headLen l (i + 1) - 1).map I64) rfl (by have := own_fr hFK6.own hfn2 (by simp); rwa [List.length_map, List.length_range] at this) ⟨w6.heap.size, 0, none⟩ 1 1 [.int .i64 (lp : Int)] rfl rfl (fun j u hu => by rw [Addr.add_mid, Nat.zero_add]; exact hbn.at_ hu) (by intro u hu; simp at hu; subst hu; rfl) (by omega) (by unfold maxLen; omega) (by omega) (w6.heap.size + 1) hsn fun g7 cap w8 ho7 hf7 hat7 hlt7 => hK _ _ ?_
      simp only [Act.put, List.setIfInBounds_toArray, List.set_cons_zero, List.set_cons_succ]
      clear hK
      refine wpList_plain rfl fun K hK => ?_
      refine wp_run_same (v := ?au17_6) ?yu17_6 (hK _ _ ?_)
      case yu17_6 => go_simp <;> with_reducible rfl
      clear hK K
      simp only [Act.put, List.setIfInBounds_toArray, List.set_cons_zero, List.set_cons_succ]
      refine wpList_nil ?_
      have hfS : ∀ y ∈ (Value.slice fA k fc).ownBlock.toList, w.heap.size ≤ y ∧ y ≠ gp ∧ y ≠ gp ∧ v6.ownBlock ≠ some y := fun y hy => hFK6.lo y (by simpa using hy)
      have hf68 : Fr (Value.slice fA k fc).ownBlock.toList w6 w8 := (hfn2.mono (by simp)).trans hf7 (fun x hx => .inl hx)
      have hC8 := hC6.fr hf68 (fun hm' => (hfS _ hm').2.1 rfl) (fun g hg hm' => (hfS g hm').2.2.2 hg) (fun x hx => by have := (hfS x hx).1; omega)
      have hFK8 : FK w8 w gp gp v6 (.slice (some ⟨g7, 0, none⟩) (k + 1) cap) (((List.range k).map fun i => ops.length + headLen l (i + 1) - 1) ++ [lp]) := by
        have := FK.push (x := lp) (g7 := g7) (cap := cap) (H := w6.heap.size + 1) hFK6 hfn2 (by omega) (by omega) (by omega) (by omega) (fun g hg => by have := hgp6.2 g hg; omega) hf7 (by rw [List.length_map, List.length_range]; exact ho7) hat7
        rwa [List.length_map, List.length_range] at this
      have hS8 : CStep w w8 gp v v6 := (HS5.out.trans hS6).frS hf68 (fun y hy => (hfS y hy).1)
      have hl8 : (ops ++ pickHead l k ops.length ++ [Rop.fork 0] ++ q.code (pos + 1) ++ [Rop.leap 0]).length = pos + 1 + q.len + 1 := by rw [List.length_append, List.length_append, List.length_append, HPL.out, Pt.code_len]; rfl
      have hg8 : (ops ++ pickHead l k ops.length ++ [Rop.fork 0] ++ q.code (pos + 1) ++ [Rop.leap 0])[pos]? = some (.fork 0) := by
        rw [List.append_assoc, List.append_assoc, List.getElem?_append_right (by rw [HPL.out]; exact Nat.le_refl _), HPL.out, Nat.sub_self]; rfl
      have HCH := Lib.hid (here_any hC8 hg8 trivial (by rw [hl8]; omega))
      have HFK8 := Lib.hid hFK8; have HS8 := Lib.hid hS8
      have hs8 : (ops ++ pickHead l k ops.length ++ [Rop.fork 0] ++ q.code (pos + 1) ++ [Rop.leap 0]).set pos (Rop.goto_ (.fork 0) (ops ++ pickHead l k ops.length ++ [Rop.fork 0] ++ q.code (pos + 1) ++ [Rop.leap 0]).length) = ops ++ pickHead l (k + 1) ops.length := by
        rw [hl8, List.append_assoc, List.append_assoc, List.set_append, if_neg (by rw [HPL.out]; omega), HPL.out, Nat.sub_self, pickHead_snoc _ HQQ.out, ← HPOS.out]
        simp [Rop.goto_]
      rw [hs8] at HCH
      clear hC8 hFK8 hS8 hf68 hfS hf7 ho7 hat7 hlt7 hbn hfn2 hsn hFK6 hC6 hS6 hgp6 hi hz' hsz' hby HCP hl8 hg8 hs8
      go_wp2_with fail
      refine HCH.out.mono ?_
      rintro e w9 ⟨rfl, hC9, hS9⟩
      have HC9 := Lib.hid hC9; have HS9 := Lib.hid (HS8.out.trans hS9); have HFK9 := Lib.hid (HFK8.out.step hS9)
      clear hC9 hS9
      go_wp2_with fail
      go_roundg (gk - 1)
      case measure => omega
      case rel =>
        refine ⟨k + 1, v6, by rw [← HN.out]; omega, by rw [← HN.out]; omega, by go_num, HC9.out, ?_, HS9.out⟩
        have e : lp = ops.length + headLen l (k + 1) - 1 := by rw [headLen_succ HQQ.out, HLP.out, HPOS.out]; omega
        rw [List.range_succ, List.map_append]
        simpa [e] using HFK9.out

end Go.Proofs.Ytnhlgjjdpappkaa
