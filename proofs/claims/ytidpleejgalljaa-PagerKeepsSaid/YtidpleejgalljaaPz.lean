/-
  The contracts of (*Pager).Checkpoint and (*Pager).append. The contract of maps.Copy at maps of pages. The contract of (*Pager).Commit.
-/
import Derived.Test.YtidpleejgalljaaPx
import Derived.Maps.RangeWalk
import Derived.Maps.Ext
namespace Go.Proofs.Ytidpleejgalljaa
open Go.RowKit

section
variable {w w' : World} {g d lg bl bh : Nat} {s : PS} {fp : List Nat}
theorem PgrAt.br_ (h : PgrAt w g d lg bl bh s fp) (b : Bool) (hb : Blk w' g 63 (pgCells d lg bl bh { s with br := b })) (hf : Fr [g] w w') : PgrAt w' g d lg bl bh { s with br := b } fp := by
  have h2 := h.ne2
  exact ⟨hb, h.jn.fr hf (by simp only [List.mem_singleton]; exact fun e => h.ne1 e.symm) (fun k hk => by simp only [List.mem_singleton]; exact fun e => h.gout (e ▸ hk)), h.late.fr hf (by simp only [List.mem_singleton]; exact h2.1), h.held.fr hf (by simp only [List.mem_singleton]; exact h2.2.1), h.ne, h.gout, h.lout, h.hout, h.lok, h.hok, h.few⟩
theorem PgrAt.setBr (h : PgrAt w g d lg bl bh s fp) (b : Bool) : PStep w (w.setCell ⟨g, 6, none⟩ (.bool b)) g d lg bl bh { s with br := b } fp :=
  ⟨fp, h.br_ b (h.blk.set_ 6 (.bool b)) ((Fr.refl _ _).setCell (.inl (by simp)) _), (Fr.refl _ _).setCell (.inl (by simp [pfp])) _, fun _ hk => .inl hk⟩
end
def CkRes (w : World) (g d lg bl bh : Nat) (s : PS) (fp : List Nat) (e : Ending) (w' : World) : Prop :=
  e = .returned (.int .i64 s.check.2) ∧ PStep w w' g d lg bl bh s.check.1 fp
set_option maxRecDepth 100000 in
set_option maxHeartbeats 1000000 in
theorem check_P {w : World} {g d lg bl bh : Nat} {s : PS} {fp : List Nat} (h : PgrAt w g d lg bl bh s fp) (hdone : s.D.done + 200000 < 1099511627776) :
    Calls Try.prog 19 #[.pointer (some ⟨g, 0, none⟩)] w (CkRes w g d lg bl bh s fp) := by
  refine calls_post fun R HQ => ?_
  have c5 := h.blk.at_ (i := 5) rfl
  have hl := fun ty => h.held.len ty
  have HGO := Lib.hid (gone_P h)
  have HA := Lib.hid h
  have HS := Lib.hid (settle_P h hdone)
  clear h
  obtain ⟨b, hb⟩ : ∃ b, b = s.br := ⟨_, rfl⟩
  have HB := Lib.hid hb
  rw [← hb] at HGO
  cases b with
  | true =>
    have hc : s.check = (s, 10) := by unfold PS.check; rw [if_pos hb.symm]
    have HX : Hid (CkRes w g d lg bl bh s fp (.returned (.int .i64 10)) w) := Lib.hid (by
      unfold CkRes
      rw [hc]
      exact ⟨rfl, PStep.same HA.out⟩)
    clear hb hc HB
    go_enter Try.func19, Try.ntmps19
    go_wp2_with fail
    refine HGO.out.mono ?_
    rintro e w' ⟨rfl, rfl⟩
    go_wp2_with fail
    exact HQ.out _ _ HX.out
  | false =>
    have hbr : ¬s.br = true := by rw [← hb]; decide
    by_cases h0 : s.held = []
    · have hc : s.check = (s, 0) := by unfold PS.check; rw [if_neg hbr, if_pos h0]
      have HX : Hid (CkRes w g d lg bl bh s fp (.returned (.int .i64 0)) w) := Lib.hid (by
        unfold CkRes
        rw [hc]
        exact ⟨rfl, PStep.same HA.out⟩)
      rw [h0] at hl
      clear hb hc HB hbr h0
      go_enter Try.func19, Try.ntmps19
      go_wp2_with fail
      refine HGO.out.mono ?_
      rintro e w' ⟨rfl, rfl⟩
      go_wp2_with fail
      exact HQ.out _ _ HX.out
    · have hlen : ¬s.held.length = 0 := fun h => h0 (List.length_eq_zero_iff.1 h)
      have hc : s.check = if (settleR s).2.2 ≠ 0 then ({ s with D := (settleR s).1, l := (settleR s).2.1, br := true }, (settleR s).2.2) else ({ s with D := (settleR s).1, l := (settleR s).2.1, held := [] }, 0) := by
        unfold PS.check; rw [if_neg hbr, if_neg h0]
      have HC := Lib.hid hc
      clear hb hc HB hbr h0
      generalize hn : s.held.length = n at *
      clear hn
      go_enter Try.func19, Try.ntmps19
      go_wp2_with fail
      refine HGO.out.mono ?_
      rintro e w' ⟨rfl, rfl⟩
      go_wp2_with fail
      refine HS.out.mono ?_
      rintro e w1 ⟨rfl, hst⟩
      obtain ⟨fp1, hA1, hf1, hn1⟩ := hst
      have HA1 := Lib.hid hA1; have HF1 := Lib.hid hf1; have HN1 := Lib.hid hn1
      have c5' := hA1.blk.at_ (i := 5) rfl
      have c6' := hA1.blk.at_ (i := 6) rfl
      have cf := hA1.blk.free
      by_cases he : (settleR s).2.2 = 0
      · obtain ⟨w2, hr, hm, hf, hz⟩ := hA1.held.clear 0
        have hr' : ∀ ty, (Builtin.clear_ #[61] ty #[.map (some bh)]).run Try.prog w1 = .ok (.tuple #[]) w2 := fun ty => hr
        have HX : Hid (CkRes w g d lg bl bh s fp (.returned (.int .i64 0)) w2) := Lib.hid (by
          unfold CkRes
          rw [HC.out, if_neg (by rw [he]; decide)]
          exact ⟨rfl, PStep.comp hf1 hn1 ⟨fp1, hA1.held_ hm hf (PgOk.nil _), hf.mono (fun x hx => .inl (by simp only [List.mem_singleton] at hx; simp [pfp, hx])), fun _ hk => .inl hk⟩⟩)
        rw [he]
        clear hr hm hf hz hA1 hf1 hn1 hl c5 he
        go_wp2_with fail
        exact HQ.out _ _ HX.out
      · have hst2 := hA1.setBr true
        have HX : Hid (CkRes w g d lg bl bh s fp (.returned (.int .i64 (settleR s).2.2)) (w1.setCell ⟨g, 6, none⟩ (.bool true))) := Lib.hid (by
          unfold CkRes
          rw [HC.out, if_pos he]
          exact ⟨rfl, PStep.comp hf1 hn1 hst2⟩)
        generalize (settleR s).2.2 = e8 at *
        have hne : (e8 != 0) = true := by rw [bne_iff_ne]; exact he
        clear hA1 hf1 hn1 hst2 hl he c5 c5'
        go_wp2_with fail
        exact HQ.out _ _ HX.out

/-! ### append -/
theorem PS.append_ne (s : PS) (b : List UInt8) (h : appendE s.D s.l b ≠ 5) : s.append b = (s.laid b, appendE s.D s.l b) := by unfold PS.append; rw [if_pos (.inl h)]
theorem PS.laid_n (s : PS) (b : List UInt8) : (s.laid b).l.n = s.l.n := appendL_n _ _ _
theorem check_done (s : PS) (h : s.held.length ≤ s.n) (hn : s.n ≤ 4096) : s.check.1.D.done ≤ s.D.done + 100000 := by
  have h1 : (settleR s).1.done ≤ s.D.done + 100000 := by
    have a1 := seqW_done (secsM s.l.n s.held) s.D
    rw [secsM_len] at a1
    have a2 : (seqW s.D (secsM s.l.n s.held)).1.sync.done ≤ (seqW s.D (secsM s.l.n s.held)).1.done + 1 := by
      unfold DM.sync
      split
      · omega
      · split
        · show (seqW s.D (secsM s.l.n s.held)).1.done ≤ _; omega
        · exact Nat.le_refl _
    unfold settleR
    split
    · show (seqW s.D (secsM s.l.n s.held)).1.done ≤ _; omega
    · split
      · show (seqW s.D (secsM s.l.n s.held)).1.sync.done ≤ _; omega
      · have a3 := appendD_done (seqW s.D (secsM s.l.n s.held)).1.sync { s.l with at_ := 0 } []
        show (appendD (seqW s.D (secsM s.l.n s.held)).1.sync { s.l with at_ := 0 } []).done ≤ _
        omega
  unfold PS.check
  split
  · exact Nat.le_add_right _ _
  · split
    · exact Nat.le_add_right _ _
    · split
      · exact h1
      · exact h1
def ApRes (w : World) (g d lg bl bh : Nat) (s : PS) (fp : List Nat) (b : List UInt8) (e : Ending) (w' : World) : Prop :=
  e = .returned (.int .i64 (s.append b).2) ∧ PStep w w' g d lg bl bh (s.append b).1 fp
set_option maxRecDepth 100000 in
set_option maxHeartbeats 1000000 in
theorem appendP_P {w : World} {g d lg bl bh gb : Nat} {s : PS} {fp : List Nat} {v : Value} {b : List UInt8} (h : PgrAt w g d lg bl bh s fp) (hv : BytesAt w v b gb) (hgb : gb ∉ pfp g lg bl bh fp) (hgw : gb < w.heap.size) (hbl : b.length ≤ 9223372036854775807) (hdone : s.D.done + 400000 < 1099511627776) :
    Calls Try.prog 30 #[.pointer (some ⟨g, 0, none⟩), v] w (ApRes w g d lg bl bh s fp b) := by
  refine calls_post fun R HQ => ?_
  have c1 := h.blk.at_ (i := 1) rfl
  have HA := Lib.hid h; have HV := Lib.hid hv; have HGB := Lib.hid hgb
  have HAP := Lib.hid (append_at h.jn hv (fun hm => hgb (by simp [pfp, hm])) hgw hbl (by omega))
  clear h hv hgb
  go_enter Try.func30, Try.ntmps30
  go_wp2_with fail
  refine HAP.out.mono ?_
  rintro e w1 ⟨rfl, hs1⟩
  have hst1 : PStep w w1 g d lg bl bh (s.laid b) fp := HA.out.log_ hs1 (appendL_n _ _ _)
  obtain ⟨fp1, hA1, hf1, hn1⟩ := id hst1
  have HST1 := Lib.hid hst1; have HA1 := Lib.hid hA1; have HF1 := Lib.hid hf1; have HN1 := Lib.hid hn1
  have c5 := hA1.blk.at_ (i := 5) rfl
  have hl : ∀ ty, (Builtin.len_ #[61] ty #[.map (some bh)]).run Try.prog w1 = .ok (.int .i64 (s.held.length : Int)) w1 := fun ty => hA1.held.len ty
  clear hs1 hst1 hA1 hf1 hn1 HAP c1
  by_cases h5 : appendE s.D s.l b = 5
  · rw [h5]
    by_cases h0 : s.held = []
    · have HX : Hid (ApRes w g d lg bl bh s fp b (.returned (.int .i64 5)) w1) := Lib.hid (by
        unfold ApRes PS.append
        rw [if_pos (.inr h0), h5]
        exact ⟨rfl, HST1.out⟩)
      rw [h0] at hl
      go_wp2_with fail
      exact HQ.out _ _ HX.out
    · have hlen : ¬s.held.length = 0 := fun h => h0 (List.length_eq_zero_iff.1 h)
      have hap : s.append b = if (s.laid b).check.2 ≠ 0 then (s.laid b).check else ((s.laid b).check.1.laid b, appendE (s.laid b).check.1.D (s.laid b).check.1.l b) := by
        unfold PS.append
        rw [if_neg (by rintro (h | h); exact h h5; exact h0 h)]
      have hd1 : (s.laid b).D.done ≤ s.D.done + 65536 := appendD_done s.D s.l b
      have HCK := Lib.hid (check_P HA1.out (by omega))
      have HAPP := Lib.hid hap
      generalize hn : s.held.length = n at *
      clear hn h0 h5 hap
      go_wp2_with fail
      refine HCK.out.mono ?_
      rintro e w2 ⟨rfl, hst2⟩
      have hst12 := PStep.comp HF1.out HN1.out hst2
      obtain ⟨fp2, hA2, hf2, hn2⟩ := id hst12
      have c1 := hA2.blk.at_ (i := 1) rfl
      have hd2 : (s.laid b).check.1.D.done ≤ s.D.done + 200000 := by
        have := check_done (s.laid b) HA.out.hok.few HA.out.few
        omega
      by_cases he : (s.laid b).check.2 = 0
      · rw [he]
        have hout : gb ∉ fp2 := fun hm => by
          rcases hn2 _ hm with h | h
          · exact HGB.out (by simp [pfp, h])
          · omega
        have HX := Lib.hid (append_at hA2.jn (HV.out.fr hf2 HGB.out) hout (Nat.lt_of_lt_of_le hgw hf2.size) hbl (by omega))
        have HY : Hid (∀ w3, JStep w2 w3 lg d (appendL (s.laid b).check.1.D (s.laid b).check.1.l b) (appendD (s.laid b).check.1.D (s.laid b).check.1.l b) fp2 → ApRes w g d lg bl bh s fp b (.returned (.int .i64 (appendE (s.laid b).check.1.D (s.laid b).check.1.l b))) w3) := Lib.hid (fun w3 h3 => by
          unfold ApRes
          rw [HAPP.out, if_neg (by rw [he]; decide)]
          exact ⟨rfl, PStep.comp hf2 hn2 (hA2.log_ h3 (appendL_n _ _ _))⟩)
        clear hst2 hst12 hA2 hf2 hn2 he HCK c5
        go_wp2_with fail
        refine HX.out.mono ?_
        rintro e w3 ⟨rfl, hs3⟩
        have HZ := Lib.hid (HY.out w3 hs3)
        clear hs3
        go_wp2_with fail
        exact HQ.out _ _ HZ.out
      · have HX : Hid (ApRes w g d lg bl bh s fp b (.returned (.int .i64 (s.laid b).check.2)) w2) := Lib.hid (by
          unfold ApRes
          rw [HAPP.out, if_pos he]
          exact ⟨rfl, hst12⟩)
        generalize (s.laid b).check.2 = e8 at *
        have hne : (e8 != 0) = true := by rw [bne_iff_ne]; exact he
        clear hst2 hst12 hA2 hf2 hn2 he HCK c5
        go_wp2_with fail
        exact HQ.out _ _ HX.out
  · have HX : Hid (ApRes w g d lg bl bh s fp b (.returned (.int .i64 (appendE s.D s.l b))) w1) := Lib.hid (by
      unfold ApRes
      rw [PS.append_ne s b h5]
      exact ⟨rfl, HST1.out⟩)
    generalize appendE s.D s.l b = e8 at *
    have hne : (e8 != 5) = true := by rw [bne_iff_ne]; exact h5
    go_wp2_with fail
    exact HQ.out _ _ HX.out

end Go.Proofs.Ytidpleejgalljaa

namespace Go.Proofs.Ytidpleejgalljaa
open Go.RowKit Go.Maps

theorem ranges_fr {S : List Nat} {w w' : World} {b r n cnt : Nat} {D : DataW Unit} {left : Lit → Bool} (h : w.ranges Try.prog 3 pgR b r n D left cnt) (hf : Fr S w w') (hb : b ∉ S) (hr : r ∉ S) : w'.ranges Try.prog 3 pgR b r n D left cnt := by
  have h1 := h.owns.lt
  have h2 := h.lt
  obtain ⟨es, clock, since, seen, c0, e1, F, hs, hD, e2, rest⟩ := h
  exact ⟨es, clock, since, seen, c0, (hf.block b h1 hb).trans e1, F, hs, hD, (hf.block r h2 hr).trans e2, rest⟩
theorem owns_fr {S : List Nat} {w w' : World} {b n : Nat} {D : DataW Unit} (h : w.ownsMap Try.prog 3 pgR b n D) (hf : Fr S w w') (hb : b ∉ S) : w'.ownsMap Try.prog 3 pgR b n D := by
  have h1 := h.lt
  obtain ⟨es, clock, e1, rest⟩ := h
  exact ⟨es, clock, (hf.block b h1 hb).trans e1, rest⟩
def CpRel (w : World) (bd bs nd ns : Nat) (Dd Ds : DataW Unit) (wr : World) : Prop :=
  ∃ (left : Lit → Bool) (cnt : Nat) (Dout : DataW Unit), wr.ranges Try.prog 3 pgR bs w.heap.size ns Ds left cnt ∧ cnt ≤ ns ∧
    wr.ownsMap Try.prog 3 pgR bd (nd + (ns - cnt)) Dout ∧ Merged Dout Dd Ds left ∧ Fr [bd] w wr
set_option maxRecDepth 100000 in
set_option maxHeartbeats 1000000 in
theorem copy_any {w : World} {bd bs : Nat} {md ms : PgM} (hd : MapAt w bd md) (hs : MapAt w bs ms) (hne : bd ≠ bs) (h1 : md.length ≤ 100000) (h2 : ms.length ≤ 100000) :
    Calls Try.prog 32 #[.map (some bd), .map (some bs)] w fun e w' => e = .returned (.tuple #[]) ∧ MapAt w' bd (mergeP md ms) ∧ Fr [bd] w w' := by
  refine calls_post fun R HQ => ?_
  have hbd := hd.lt
  have hbs := hs.lt
  have K := int_K
  have HD := Lib.hid hd; have HS := Lib.hid hs
  unfold MapAt at hd hs
  obtain ⟨Dd, hDd⟩ : ∃ D, D = toD md := ⟨_, rfl⟩
  obtain ⟨Ds, hDs⟩ : ∃ D, D = toD ms := ⟨_, rfl⟩
  have hsd : Maps.size Ds = ms.length := by rw [hDs, size_D]
  rw [← hDd] at hd
  rw [← hDs] at hs
  have HDD := Lib.hid hDd; have HDS := Lib.hid hDs
  clear hDd hDs
  generalize md.length = nd at *
  go_enter Try.func32, Try.ntmps32
  go_wp2_with (first
    | (at_range; refine wpList_range_own _ rfl _ 61 rfl 3 66 K Try.underlying61 pgR bs _ _ rfl hs ?_; intro w0 hrg0 hg0 hs0)
    | go_in)
  go_frame
  have hf0 : Fr [bd] w w0 := (Fr.refl [bd] w).grown hg0 (by simp)
  rw [hsd] at hrg0
  clear hsd
  go_loopw [8] (fun _ wr => CpRel w bd bs nd ms.length Dd Ds wr) (fun _ wr => wr.rangeLeft bs w.heap.size)
  case atStart =>
    exact ⟨_, _, Dd, hrg0, Nat.le_refl _, (owns_fr hd ((Fr.refl [] w).grown hg0 (by simp)) (by simp)).mono (by omega), merged_start Dd Ds, hf0⟩
  case round =>
    obtain ⟨left, cnt, Dout, hrg, hcs, hout, hM, hfw⟩ := hrel
    go_wp2_with (first
      | (at_next; refine wpList_next_ranges _ rfl _ rfl 3 K pgR id pageV (fun key _ _ => ⟨key, rfl⟩) (fun v _ h => by obtain ⟨b, hb, _⟩ := pgR_inv h; exact ⟨b, hb⟩) bs w.heap.size ms.length _ _ _ rfl hrg ?_ ?_)
      | go_in)
    · intro hc0 hl0
      have e := merged_eq K.one hM hl0 (hout.canon K) (hd.canonK K) (hs.canonK K)
      rw [HDD.out, HDS.out, merge_D] at e
      subst e
      have HX : Hid (MapAt wr bd (mergeP md ms) ∧ Fr [bd] w wr) := Lib.hid ⟨MapAt.of hout, hfw⟩
      clear hrg hout hM hfw hcs hl0
      go_wp2_with fail
      go_end0
      exact HQ.out _ _ ⟨rfl, HX.out⟩
    · intro x c kl yd yp w1 cnt1 hkey hlx hv hat hrg1 hlt hg1 hs1 hen
      obtain ⟨b, hbv, hbl, hy⟩ := pgR_inv hv
      obtain rfl := pageV_inj hbv
      obtain ⟨rfl, rfl⟩ := Prod.mk.inj hy
      have hrl := hrg.lt
      have hrne := hrg.ne
      have hrw : w.heap.size ≠ bd := by omega
      have hout1 := owns_fr hout ((Fr.refl [w.heap.size] wr).grown hg1 (by simp)) (by simp; omega)
      have hf1 : Fr [bd] w w1 := hfw.grown hg1 (fun g hg => by cases hg; exact .inr (Nat.le_refl _))
      have HRG1 := Lib.hid hrg1; have HOUT1 := Lib.hid hout1; have HF1 := Lib.hid hf1; have HM := Lib.hid hM
      have HKEY := Lib.hid hkey; have HV := Lib.hid hv; have HAT := Lib.hid hat
      have hl1 : wr.rangeLeft bs w.heap.size = cnt := hrg.left_eq
      have hl2 : w.heap.size < w1.heap.size := hrg1.lt
      have hl3 := hout1.lt
      have hl4 := hrg1.owns.lt
      unfold pageV at hen
      clear hrg1 hout1 hf1 hM hkey hv hat hrg hfw hg1 hbv hout
      have hs2 : w1.heap.size ≤ wr.heap.size ∧ wr.heap.size ≤ w1.heap.size := by omega
      clear hs1
      simp only [id] at *
      go_wp2_with (first
        | (with_reducible refine wpList_alloc_z rfl 66 rfl (pageV zpage) (bcells zpage).toArray zero_pg rfl ?_)
        | (with_reducible refine wpList_store_z (W := w1) (zs := (bcells zpage).toArray) (t' := 66) rfl 66 (.tmp 5) (.tmp 12) rfl (bcells c) ?zx ?zy ?zw ?zi ?zl ?z1 ?_))
      case zx => rfl
      case zy => rfl
      case zw => rfl
      case zi => have h := size_pg; simpa [bcells_len, hbl] using h
      case zl => show (bcells zpage).length = (bcells c).length; rw [bcells_len, bcells_len, zpage_len, hbl]
      case z1 => exact bcells_one _
      intro w4 hb4 hf4 hz4
      have hbd4 : bd ≠ w1.heap.size := by omega
      have hrg4 : w.heap.size ≠ w1.heap.size := by omega
      have hc4 : w4.rangeAt w1.heap.size 0 (bcells c) := fun j v hv => by rw [Nat.zero_add]; exact hb4.at_ hv
      have hsz4 : (Try.prog.info? 66).map (·.size) = some (bcells c).length := by rw [bcells_len, hbl]; exact size_pg
      have hroom : nd + (ms.length - cnt) < maxLen := by unfold maxLen; omega
      have hout4 := owns_fr HOUT1.out hf4 (by simp)
      have hHV := HV.out
      unfold pageV at hHV
      go_wp2_with (first
        | (with_reducible refine wpList_load_mid rfl 66 (.tmp 5) rfl w1.heap.size 0 rfl (bcells c) _ hc4 Try.underlying66 rfl hsz4 ?_)
        | (at_mapUpdate; refine wpList_mapUpdate_own w4 rfl (.tmp 13) (.tmp 14) (.tmp 15) 61 rfl 3 66 K Try.underlying61 pgR bd _ _ rfl hout4 hroom x _ kl rfl rfl HKEY.out _ _ hHV ?_))
      intro w5 hout5 hg5
      have hf45 : Fr [bd] w4 w5 := (Fr.refl [bd] w4).grown hg5 (fun g hg => by cases hg; exact .inl (by simp))
      have hrg5 := ranges_fr (ranges_fr HRG1.out hf4 (by simp) (by simp)) hf45 (by simp; omega) (by simp; omega)
      have hX : CpRel w bd bs nd ms.length Dd Ds w5 := ⟨_, cnt1, _, hrg5, by omega, hout5.mono (by omega), merged_step HM.out HOUT1.out.isMap (K.key HKEY.out) HAT.out, (HF1.out.trans hf4 (by simp)).trans hf45 (fun x hx => .inl hx)⟩
      have hl5 := hrg5.left_eq
      clear hrg5 hout5 hg5 hf45 hb4 hf4 hc4 hout4
      go_roundw
      case rel => exact ⟨_, _, _, _, _, _, _, _, _, _, hX, rfl⟩
      case measure => rw [hl5, hl1]; exact hlt

end Go.Proofs.Ytidpleejgalljaa

namespace Go.Proofs.Ytidpleejgalljaa
open Go.RowKit

theorem check_late (s : PS) : s.check.1.late = s.late := by
  unfold PS.check
  repeat' split
  all_goals rfl
theorem check_n (s : PS) : s.check.1.n = s.n := by
  unfold PS.check
  repeat' split
  all_goals rfl
theorem append_late (s : PS) (b : List UInt8) : (s.append b).1.late = s.late := by
  unfold PS.append
  split
  · rfl
  · split
    · exact check_late _
    · exact check_late _
theorem appendP_n (s : PS) (b : List UInt8) : (s.append b).1.n = s.n := by
  unfold PS.append
  split
  · rfl
  · split
    · exact check_n _
    · exact check_n _
theorem enter_copy8 (vs : Array Value) (w : World) : (callFunc 32 vs).run Try.prog w = .ok (.enter 32 vs) w := by kernel_rfl
def CmRes (w : World) (g d lg bl bh : Nat) (s : PS) (fp : List Nat) (e : Ending) (w' : World) : Prop :=
  e = .returned (.int .i64 s.commit.2) ∧ PStep w w' g d lg bl bh s.commit.1 fp
set_option maxRecDepth 100000 in
set_option maxHeartbeats 2000000 in
theorem commit_P {w : World} {g d lg bl bh : Nat} {s : PS} {fp : List Nat} (h : PgrAt w g d lg bl bh s fp) (hdone : s.D.done + 400000 < 1099511627776) :
    Calls Try.prog 16 #[.pointer (some ⟨g, 0, none⟩)] w (CmRes w g d lg bl bh s fp) := by
  refine calls_post fun R HQ => ?_
  have c4 := h.blk.at_ (i := 4) rfl
  have hl := fun ty => h.late.len ty
  have HGO := Lib.hid (gone_P h)
  have HA := Lib.hid h
  have HR := Lib.hid (record_P h)
  have hpl := h.lt
  have HPL := Lib.hid hpl
  clear h hpl
  obtain ⟨b, hb⟩ : ∃ b, b = s.br := ⟨_, rfl⟩
  have HB := Lib.hid hb
  rw [← hb] at HGO
  cases b with
  | true =>
    have hc : s.commit = (s, 10) := by unfold PS.commit; rw [if_pos hb.symm]
    have HX : Hid (CmRes w g d lg bl bh s fp (.returned (.int .i64 10)) w) := Lib.hid (by
      unfold CmRes
      rw [hc]
      exact ⟨rfl, PStep.same HA.out⟩)
    clear hb hc HB
    go_enter Try.func16, Try.ntmps16
    go_wp2_with fail
    refine HGO.out.mono ?_
    rintro e w' ⟨rfl, rfl⟩
    go_wp2_with fail
    exact HQ.out _ _ HX.out
  | false =>
    have hbr : ¬s.br = true := by rw [← hb]; decide
    by_cases h0 : s.late = []
    · have hc : s.commit = (s, 0) := by unfold PS.commit; rw [if_neg hbr, if_pos h0]
      have HX : Hid (CmRes w g d lg bl bh s fp (.returned (.int .i64 0)) w) := Lib.hid (by
        unfold CmRes
        rw [hc]
        exact ⟨rfl, PStep.same HA.out⟩)
      rw [h0] at hl
      clear hb hc HB hbr h0
      go_enter Try.func16, Try.ntmps16
      go_wp2_with fail
      refine HGO.out.mono ?_
      rintro e w' ⟨rfl, rfl⟩
      go_wp2_with fail
      exact HQ.out _ _ HX.out
    · have hlen : ¬s.late.length = 0 := fun h => h0 (List.length_eq_zero_iff.1 h)
      have hc : s.commit = if (s.append (recP s.late)).2 ≠ 0 then ({ (s.append (recP s.late)).1 with br := (s.append (recP s.late)).1.br || ((s.append (recP s.late)).2 != 5 && (s.append (recP s.late)).2 != 4) }, (s.append (recP s.late)).2)
          else ({ (s.append (recP s.late)).1 with held := mergeP (s.append (recP s.late)).1.held s.late, late := [] }, 0) := by
        unfold PS.commit; rw [if_neg hbr, if_neg h0]
      have hrl : (recP s.late).length = 514 * s.late.length := recP_len (n := s.n) (fun p hp => HA.out.lok.mem p hp)
      have HC := Lib.hid hc
      have hfew := HA.out.lok.few
      have hn := HA.out.few
      clear hb hc HB hbr h0
      obtain ⟨n, hnl⟩ : ∃ n, n = s.late.length := ⟨_, rfl⟩
      rw [← hnl] at hl hlen hrl hfew
      clear hnl
      go_enter Try.func16, Try.ntmps16
      go_wp2_with fail
      refine HGO.out.mono ?_
      rintro e w' ⟨rfl, rfl⟩
      go_wp2_with fail
      refine HR.out.mono ?_
      rintro e w1 ⟨v, gb, rfl, hv, hgb, hf1⟩
      have hA1 := HA.out.fr hf1 (by simp)
      have hgw : gb < w1.heap.size := by
        obtain ⟨A, c, off, _, _, h1⟩ := hv
        obtain ⟨_, h2⟩ := h1 (by omega)
        obtain ⟨u, hu⟩ : ∃ u, (bcells (recP s.late))[0]? = some u := ⟨_, List.getElem?_eq_getElem (by rw [bcells_len]; omega)⟩
        exact World.block_lt_of_cell? w1 _ (h2 0 u hu)
      have HAP := Lib.hid (appendP_P hA1 hv (fun hm => by have := HPL.out gb hm; omega) hgw (by omega) hdone)
      have HF1 := Lib.hid hf1
      have hvn : ∃ u, u = v := ⟨_, rfl⟩
      clear hA1 hf1 hv hgb hgw hvn c4 hl
      go_wp2_with fail
      refine HAP.out.mono ?_
      rintro e w2 ⟨rfl, hst⟩
      have hst2 := PStep.comp (HF1.out.mono (T := pfp g lg bl bh fp) (by simp)) (fun _ hk => .inl hk) hst
      have HLT : Hid ((s.append (recP s.late)).1.late = s.late) := Lib.hid (append_late _ _)
      obtain ⟨q, hq⟩ : ∃ q, q = s.append (recP s.late) := ⟨_, rfl⟩
      rw [← hq] at hst2 HC HLT ⊢
      obtain ⟨s2, e8⟩ := q
      simp only at hst2 HC HLT ⊢
      obtain ⟨fp2, hA2, hf2, hn2⟩ := hst2
      have HA2 := Lib.hid hA2; have HF2 := Lib.hid hf2; have HN2 := Lib.hid hn2
      have c6 := hA2.blk.at_ (i := 6) rfl
      have cf := hA2.blk.free
      clear hst HAP hq
      by_cases he : e8 = 0
      · subst he
        have hcc := HC.out
        rw [if_neg (by simp)] at hcc
        have HCC := Lib.hid hcc
        have c4 := hA2.blk.at_ (i := 4) rfl
        have c5 := hA2.blk.at_ (i := 5) rfl
        have k1 : s2.held.length ≤ 100000 := by have := hA2.hok.few; have := hA2.few; omega
        have k2 : s2.late.length ≤ 100000 := by have := hA2.lok.few; have := hA2.few; omega
        clear hcc HC hA2 hf2 hn2 c6 cf
        go_wp2_with fail
        refine wp_region_K (fun W => W.cell? ⟨g, 4, none⟩ = some (.map (some bl)) ∧ W.cell? ⟨g, 5, none⟩ = some (.map (some bh))) [0, 1, 2, 3, 4, 5, 6, 7] (by kernel_rfl) ?_
        refine wpAnyK_take (i := 0) (some 36) ?vq1_0 rfl rfl (by kernel_rfl) (fun _ _ _ h => h) ⟨c4, c5⟩ (.inl ⟨rfl, fun W hW => ?yq1_0⟩) ?_
        case yq1_0 => (obtain ⟨c4', c5'⟩ := hW; go_simp) <;> with_reducible rfl
        simp only [Act.put, List.setIfInBounds_toArray, List.set_cons_zero, List.set_cons_succ]
        refine wpAnyK_take (i := 1) (some 37) ?vq1_1 rfl rfl (by kernel_rfl) (fun _ _ _ h => h) ⟨c4, c5⟩ (.inl ⟨rfl, fun W hW => ?yq1_1⟩) ?_
        case yq1_1 => (obtain ⟨c4', c5'⟩ := hW; go_simp) <;> with_reducible rfl
        simp only [Act.put, List.setIfInBounds_toArray, List.set_cons_zero, List.set_cons_succ]
        refine wpAnyK_take (i := 2) (some 38) ?vq1_2 rfl rfl (by kernel_rfl) (fun _ _ _ h => h) ⟨c4, c5⟩ (.inl ⟨rfl, fun W hW => ?yq1_2⟩) ?_
        case yq1_2 => (obtain ⟨c4', c5'⟩ := hW; go_simp) <;> with_reducible rfl
        simp only [Act.put, List.setIfInBounds_toArray, List.set_cons_zero, List.set_cons_succ]
        refine wpAnyK_take (i := 3) (some 39) ?vq1_3 rfl rfl (by kernel_rfl) (fun _ _ _ h => h) ⟨c4, c5⟩ (.inl ⟨rfl, fun W hW => ?yq1_3⟩) ?_
        case yq1_3 => (obtain ⟨c4', c5'⟩ := hW; go_simp) <;> with_reducible rfl
        simp only [Act.put, List.setIfInBounds_toArray, List.set_cons_zero, List.set_cons_succ]
        refine wpAnyK_take (i := 4) (some 40) ?vq1_4 rfl rfl (by kernel_rfl) (fun _ _ _ h => h) ⟨c4, c5⟩ (.inl ⟨rfl, fun W hW => ?yq1_4⟩) ?_
        case yq1_4 => (obtain ⟨c4', c5'⟩ := hW; go_simp) <;> with_reducible rfl
        simp only [Act.put, List.setIfInBounds_toArray, List.set_cons_zero, List.set_cons_succ]
        refine wpAnyK_take (i := 5) (some 41) ?vq1_5 rfl rfl (by kernel_rfl) (fun _ _ _ h => h) ⟨c4, c5⟩ (.inl ⟨rfl, fun W hW => ?yq1_5⟩) ?_
        case yq1_5 => (obtain ⟨c4', c5'⟩ := hW; go_simp) <;> with_reducible rfl
        simp only [Act.put, List.setIfInBounds_toArray, List.set_cons_zero, List.set_cons_succ]
        refine wpAnyK_take (i := 6) (some 42) ?vq1_6 rfl rfl (by kernel_rfl) (fun _ _ _ h => h) ⟨c4, c5⟩ (.inl ⟨rfl, fun W hW => ?yq1_6⟩) ?_
        case yq1_6 => (obtain ⟨c4', c5'⟩ := hW; go_simp) <;> with_reducible rfl
        simp only [Act.put, List.setIfInBounds_toArray, List.set_cons_zero, List.set_cons_succ]
        refine wpAnyK_take (i := 7) (some 43) ?vq1_7 rfl rfl (by kernel_rfl) (fun _ _ _ h => h) ⟨c4, c5⟩ (.inl ⟨rfl, fun W hW => ?yq1_7⟩) ?_
        case yq1_7 => (obtain ⟨c4', c5'⟩ := hW; go_simp) <;> with_reducible rfl
        simp only [Act.put, List.setIfInBounds_toArray, List.set_cons_zero, List.set_cons_succ]
        refine wpAnyK_step (j := 8) (some 44) rfl rfl (by kernel_rfl) rfl fun K hK => ?_
        have hdr : Fr [] w2 w2.drew := (Fr.refl [] w2).drew
        have hA2d := HA2.out.fr hdr (by simp)
        refine wp_call_f (l := [.tmp 39, .tmp 43]) rfl [.map (some bh), .map (some bl)] rfl (enter_copy8 _) ((copy_any hA2d.held hA2d.late (fun e => hA2d.ne e.symm) k1 k2).mono ?_)
        rintro e w3 ⟨rfl, hm3, hf3⟩
        have hA3 := hA2d.held_ hm3 hf3 (hA2d.hok.merge hA2d.lok.mem)
        have c43 : w3.cell? ⟨g, 4, none⟩ = some (.map (some bl)) ∧ w3.cell? ⟨g, 5, none⟩ = some (.map (some bh)) := ⟨hA3.blk.at_ (i := 4) rfl, hA3.blk.at_ (i := 5) rfl⟩
        refine ⟨_, rfl, hK _ _ (fun _ => c43) ?_⟩
        simp only [Act.put, List.setIfInBounds_toArray, List.set_cons_zero, List.set_cons_succ]
        refine wpAnyK_done (by kernel_rfl) ?_ _
        have c4'' := c43.1
        obtain ⟨w4, hr4, hm4, hf4, hz4⟩ := hA3.late.clear 0
        have hr' : ∀ ty, (Builtin.clear_ #[61] ty #[.map (some bl)]).run Try.prog w3 = .ok (.tuple #[]) w4 := fun ty => hr4
        have HX : Hid (CmRes w g d lg bl bh s fp (.returned (.int .i64 0)) w4) := Lib.hid (by
          unfold CmRes
          rw [HCC.out]
          have hA4 := hA3.late_ hm4 hf4 (PgOk.nil _)
          rw [← HLT.out]
          refine ⟨rfl, PStep.comp HF2.out HN2.out ⟨fp2, hA4, ((Fr.refl _ w2).drew.trans (hf3.mono (T := pfp g lg bl bh fp2) (fun x hx => .inl (by simp only [List.mem_singleton] at hx; simp [pfp, hx]))) (fun x hx => .inl hx)).trans hf4 (fun x hx => .inl (by simp only [List.mem_singleton] at hx; simp [pfp, hx])), fun _ hk => .inl hk⟩⟩)
        clear hr4 hm4 hf4 hz4 hA3 hm3 hf3 hA2d hdr c43 c4 c5 hK
        go_wp2_with fail
        exact HQ.out _ _ HX.out
      · have hst3 := hA2.setBr (s2.br || (e8 != 5 && e8 != 4))
        have hcc := HC.out
        rw [if_pos (by simpa using he)] at hcc
        have HX : Hid (CmRes w g d lg bl bh s fp (.returned (.int .i64 e8)) (w2.setCell ⟨g, 6, none⟩ (.bool (s2.br || (e8 != 5 && e8 != 4))))) := Lib.hid (by
          unfold CmRes
          rw [hcc]
          exact ⟨rfl, PStep.comp hf2 hn2 hst3⟩)
        have hne : (e8 != 0) = true := by rw [bne_iff_ne]; exact he
        clear hA2 hf2 hn2 hst3 hcc HC
        have u1 : ∀ b, ¬(some undef = some (Value.bool b)) := fun b => by simp [undef]
        cases hbb : s2.br with
        | true =>
          rw [hbb] at HX c6
          simp only [Bool.true_or] at HX
          go_wp2_with fail
          exact HQ.out _ _ HX.out
        | false =>
          rw [hbb] at HX c6
          simp only [Bool.false_or] at HX
          by_cases h5 : e8 = 5
          · subst h5
            simp at HX
            go_wp2_with fail
            exact HQ.out _ _ HX.out
          · have hn5 : (e8 != 5) = true := by rw [bne_iff_ne]; exact h5
            rw [hn5] at HX
            simp only [Bool.true_and] at HX
            generalize hb4 : (e8 != 4) = b4 at *
            go_wp2_with fail
            exact HQ.out _ _ HX.out

end Go.Proofs.Ytidpleejgalljaa
