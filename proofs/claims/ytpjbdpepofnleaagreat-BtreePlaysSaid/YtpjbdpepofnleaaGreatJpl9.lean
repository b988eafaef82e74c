/-
  Joined by join.py: Pz Pc RegIn Pd
-/
import Derived.Maps.RangeWalk
import Derived.Maps.Ext
import Derived.RangeFuncNested
import Derived.RangeFuncBound
import Derived.RangeFuncCalls
import Derived.RangeFuncLeaves
import Derived.RangeFuncBox
import Derived.Shelf.Abstract
import Derived.Shelf.RegionOpen
import Derived.WalkKit
import Derived.OwnWalkIn
import Derived.TacticsInMore
import Derived.LoopNIn
import Derived.LoopIn
import Derived.ControlIn
import Derived.Test.YtpjbdpepofnleaaGreatJpl8
set_option maxRecDepth 100000
set_option maxHeartbeats 32000000
namespace Go.Proofs.YtpjbdpepofnleaaGreat
section
open Go.RowKit
section
variable {w w' : World} {g d lg bl bh : Nat} {s : PS} {fp : List Nat}
theorem PgrAt.br_ (h : PgrAt w g d lg bl bh s fp) (b : Bool) (hb : Blk w' g 118 (pgCells d lg bl bh { s with br := b })) (hf : Fr [g] w w') : PgrAt w' g d lg bl bh { s with br := b } fp := by
 have h2 := h.ne2; exact ⟨hb, h.jn.fr hf (by simp only [List.mem_singleton]; exact fun e => h.ne1 e.symm) (fun k hk => by simp only [List.mem_singleton]; exact fun e => h.gout (e ▸ hk)), h.late.fr hf (by simp only [List.mem_singleton]; exact h2.1), h.held.fr hf (by simp only [List.mem_singleton]; exact h2.2.1), h.ne, h.gout, h.lout, h.hout, h.lok, h.hok, h.few⟩
theorem PgrAt.setBr (h : PgrAt w g d lg bl bh s fp) (b : Bool) : PStep w (w.setCell ⟨g, 6, none⟩ (.bool b)) g d lg bl bh { s with br := b } fp :=
 ⟨fp, h.br_ b (h.blk.set_ 6 (.bool b)) ((Fr.refl _ _).setCell (.inl (by simp)) _), (Fr.refl _ _).setCell (.inl (by simp [pfp])) _, fun _ hk => .inl hk⟩
end
def CkRes (w : World) (g d lg bl bh : Nat) (s : PS) (fp : List Nat) (e : Ending) (w' : World) : Prop :=
 e = .returned (.int .i64 s.check.2) /\ PStep w w' g d lg bl bh s.check.1 fp
theorem check_P {w : World} {g d lg bl bh : Nat} {s : PS} {fp : List Nat} (h : PgrAt w g d lg bl bh s fp) (hdone : s.D.done + 200000 < 1099511627776) :
  Calls Tryz.prog 88 #[.pointer (some ⟨g, 0, none⟩)] w (CkRes w g d lg bl bh s fp) := by
 refine calls_post fun R HQ => ?_; have c5 := h.blk.at_ (i := 5) rfl; have hl := fun ty => h.held.len ty; have HGO := lh (gone_P h); have HA := lh h; have HS := lh (settle_P h hdone); clear h; obtain ⟨b, hb⟩ := nm (s.br); have HB := lh hb; rw [<- hb] at HGO
 cases b with
 | true =>
  have hc : s.check = (s, 10) := by unfold PS.check; rw [if_pos hb.symm]
  have HX : Hid (CkRes w g d lg bl bh s fp (.returned (.int .i64 10)) w) := lh (by
   unfold CkRes; rw [hc]; exact ⟨rfl, PStep.same HA.out⟩)
  clear hb hc HB
  go_enter Tryz.func88, Tryz.ntmps88
  go_wp2_with fail; refine HGO.out.mono ?_; rintro e w' ⟨rfl, rfl⟩; go_wp2_with fail; exact HQ.out _ _ HX.out
 | false =>
  have hbr : ¬s.br = true := by rw [<- hb]; decide
  by_cases h0 : s.held = []
  ·have hc : s.check = (s, 0) := by unfold PS.check; rw [if_neg hbr, if_pos h0]
   have HX : Hid (CkRes w g d lg bl bh s fp (.returned (.int .i64 0)) w) := lh (by
    unfold CkRes; rw [hc]; exact ⟨rfl, PStep.same HA.out⟩)
   rw [h0] at hl; clear hb hc HB hbr h0
   go_enter Tryz.func88, Tryz.ntmps88
   go_wp2_with fail; refine HGO.out.mono ?_; rintro e w' ⟨rfl, rfl⟩; go_wp2_with fail; exact HQ.out _ _ HX.out
  ·have hlen : ¬s.held.length = 0 := fun h => h0 (List.length_eq_zero_iff.1 h)
   have hc : s.check = if (settleR s).2.2 ≠ 0 then ({ s with D := (settleR s).1, l := (settleR s).2.1, br := true }, (settleR s).2.2) else ({ s with D := (settleR s).1, l := (settleR s).2.1, held := [] }, 0) := by
    unfold PS.check; rw [if_neg hbr, if_neg h0]
   have HC := lh hc; clear hb hc HB hbr h0; generalize hn : s.held.length = n at *; clear hn
   go_enter Tryz.func88, Tryz.ntmps88
   go_wp2_with fail; refine HGO.out.mono ?_; rintro e w' ⟨rfl, rfl⟩; go_wp2_with fail; refine HS.out.mono ?_; rintro e w1 ⟨rfl, hst⟩; obtain ⟨fp1, hA1, hf1, hn1⟩ := hst; have HA1 := lh hA1; have HF1 := lh hf1; have HN1 := lh hn1; have c5' := hA1.blk.at_ (i := 5) rfl; have c6' := hA1.blk.at_ (i := 6) rfl; have cf := hA1.blk.free
   by_cases he : (settleR s).2.2 = 0
   ·obtain ⟨w2, hr, hm, hf, hz⟩ := hA1.held.clear 0; have hr' : ∀ ty, (Builtin.clear_ #[116] ty #[.map (some bh)]).run Tryz.prog w1 = .ok (.tuple #[]) w2 := fun ty => hr
    have HX : Hid (CkRes w g d lg bl bh s fp (.returned (.int .i64 0)) w2) := lh (by
     unfold CkRes; rw [HC.out, if_neg (by rw [he]; decide)]; exact ⟨rfl, PStep.comp hf1 hn1 ⟨fp1, hA1.held_ hm hf (PgOk.nil _), hf.mono (fun x hx => .inl (by simp only [List.mem_singleton] at hx; simp [pfp, hx])), fun _ hk => .inl hk⟩⟩)
    rw [he]; clear hr hm hf hz hA1 hf1 hn1 hl c5 he; go_wp2_with fail; exact HQ.out _ _ HX.out
   ·have hst2 := hA1.setBr true
    have HX : Hid (CkRes w g d lg bl bh s fp (.returned (.int .i64 (settleR s).2.2)) (w1.setCell ⟨g, 6, none⟩ (.bool true))) := lh (by
     unfold CkRes; rw [HC.out, if_pos he]; exact ⟨rfl, PStep.comp hf1 hn1 hst2⟩)
    generalize (settleR s).2.2 = e8 at *; have hne : (e8 != 0) = true := by rw [bne_iff_ne]; exact he
    clear hA1 hf1 hn1 hst2 hl he c5 c5'; go_wp2_with fail; exact HQ.out _ _ HX.out
theorem PS.append_ne (s : PS) (b : List UInt8) (h : appendE s.D s.l b ≠ 5) : s.append b = (s.laid b, appendE s.D s.l b) := by unfold PS.append; rw [if_pos (.inl h)]
theorem check_done (s : PS) (h : s.held.length <= s.n) (hn : s.n <= 4096) : s.check.1.D.done <= s.D.done + 100000 := by
 have h1 : (settleR s).1.done <= s.D.done + 100000 := by
  have a1 := seqW_done (secsM s.l.n s.held) s.D; rw [secsM_len] at a1
  have a2 : (seqW s.D (secsM s.l.n s.held)).1.sync.done <= (seqW s.D (secsM s.l.n s.held)).1.done + 1 := by
   unfold DM.sync
   split
   ·omega
   ·split
    ·show (seqW s.D (secsM s.l.n s.held)).1.done <= _; omega
    ·exact Nat.le_refl _
  unfold settleR
  split
  ·show (seqW s.D (secsM s.l.n s.held)).1.done <= _; omega
  ·split
   ·show (seqW s.D (secsM s.l.n s.held)).1.sync.done <= _; omega
   ·have a3 := appendD_done (seqW s.D (secsM s.l.n s.held)).1.sync { s.l with at_ := 0 } []
    show (appendD (seqW s.D (secsM s.l.n s.held)).1.sync { s.l with at_ := 0 } []).done <= _
    omega
 unfold PS.check
 split
 ·exact Nat.le_add_right _ _
 ·split
  ·exact Nat.le_add_right _ _
  ·split
   ·exact h1
   ·exact h1
def ApRes (w : World) (g d lg bl bh : Nat) (s : PS) (fp : List Nat) (b : List UInt8) (e : Ending) (w' : World) : Prop :=
 e = .returned (.int .i64 (s.append b).2) /\ PStep w w' g d lg bl bh (s.append b).1 fp
theorem appendP_P {w : World} {g d lg bl bh gb : Nat} {s : PS} {fp : List Nat} {v : Value} {b : List UInt8} (h : PgrAt w g d lg bl bh s fp) (hv : BytesAt w v b gb) (hgb : gb ∉ pfp g lg bl bh fp) (hgw : gb < w.heap.size) (hbl : b.length <= 9223372036854775807) (hdone : s.D.done + 400000 < 1099511627776) :
  Calls Tryz.prog 51 #[.pointer (some ⟨g, 0, none⟩), v] w (ApRes w g d lg bl bh s fp b) := by
 refine calls_post fun R HQ => ?_; have c1 := h.blk.at_ (i := 1) rfl; have HA := lh h; have HV := lh hv; have HGB := lh hgb; have HAP := lh (append_at h.jn hv (fun hm => hgb (by simp [pfp, hm])) hgw hbl (by omega)); clear h hv hgb
 go_enter Tryz.func51, Tryz.ntmps51
 go_wp2_with fail; refine HAP.out.mono ?_; rintro e w1 ⟨rfl, hs1⟩; have hst1 : PStep w w1 g d lg bl bh (s.laid b) fp := HA.out.log_ hs1 (appendL_n _ _ _); obtain ⟨fp1, hA1, hf1, hn1⟩ := id hst1; have HST1 := lh hst1; have HA1 := lh hA1; have HF1 := lh hf1; have HN1 := lh hn1; have c5 := hA1.blk.at_ (i := 5) rfl; have hl : ∀ ty, (Builtin.len_ #[116] ty #[.map (some bh)]).run Tryz.prog w1 = .ok (.int .i64 (s.held.length : Int)) w1 := fun ty => hA1.held.len ty; clear hs1 hst1 hA1 hf1 hn1 HAP c1
 by_cases h5 : appendE s.D s.l b = 5
 ·rw [h5]
  by_cases h0 : s.held = []
  ·have HX : Hid (ApRes w g d lg bl bh s fp b (.returned (.int .i64 5)) w1) := lh (by
    unfold ApRes PS.append; rw [if_pos (.inr h0), h5]; exact ⟨rfl, HST1.out⟩)
   rw [h0] at hl; go_wp2_with fail; exact HQ.out _ _ HX.out
  ·have hlen : ¬s.held.length = 0 := fun h => h0 (List.length_eq_zero_iff.1 h)
   have hap : s.append b = if (s.laid b).check.2 ≠ 0 then (s.laid b).check else ((s.laid b).check.1.laid b, appendE (s.laid b).check.1.D (s.laid b).check.1.l b) := by
    unfold PS.append; rw [if_neg (by rintro (h | h); exact h h5; exact h0 h)]
   have hd1 : (s.laid b).D.done <= s.D.done + 65536 := appendD_done s.D s.l b; have HCK := lh (check_P HA1.out (by omega)); have HAPP := lh hap; generalize hn : s.held.length = n at *; clear hn h0 h5 hap; go_wp2_with fail; refine HCK.out.mono ?_; rintro e w2 ⟨rfl, hst2⟩; have hst12 := PStep.comp HF1.out HN1.out hst2; obtain ⟨fp2, hA2, hf2, hn2⟩ := id hst12; have c1 := hA2.blk.at_ (i := 1) rfl
   have hd2 : (s.laid b).check.1.D.done <= s.D.done + 200000 := by
    have := check_done (s.laid b) HA.out.hok.few HA.out.few; omega
   by_cases he : (s.laid b).check.2 = 0
   ·rw [he]
    have hout : gb ∉ fp2 := fun hm => by
     rcases hn2 _ hm with h | h
     ·exact HGB.out (by simp [pfp, h])
     ·omega
    have HX := lh (append_at hA2.jn (HV.out.fr hf2 HGB.out) hout (Nat.lt_of_lt_of_le hgw hf2.size) hbl (by omega))
    have HY : Hid (∀ w3, JStep w2 w3 lg d (appendL (s.laid b).check.1.D (s.laid b).check.1.l b) (appendD (s.laid b).check.1.D (s.laid b).check.1.l b) fp2 -> ApRes w g d lg bl bh s fp b (.returned (.int .i64 (appendE (s.laid b).check.1.D (s.laid b).check.1.l b))) w3) := lh (fun w3 h3 => by
     unfold ApRes; rw [HAPP.out, if_neg (by rw [he]; decide)]; exact ⟨rfl, PStep.comp hf2 hn2 (hA2.log_ h3 (appendL_n _ _ _))⟩)
    clear hst2 hst12 hA2 hf2 hn2 he HCK c5; go_wp2_with fail; refine HX.out.mono ?_; rintro e w3 ⟨rfl, hs3⟩; have HZ := lh (HY.out w3 hs3); clear hs3; go_wp2_with fail; exact HQ.out _ _ HZ.out
   ·have HX : Hid (ApRes w g d lg bl bh s fp b (.returned (.int .i64 (s.laid b).check.2)) w2) := lh (by
     unfold ApRes; rw [HAPP.out, if_pos he]; exact ⟨rfl, hst12⟩)
    generalize (s.laid b).check.2 = e8 at *; have hne : (e8 != 0) = true := by rw [bne_iff_ne]; exact he
    clear hst2 hst12 hA2 hf2 hn2 he HCK c5; go_wp2_with fail; exact HQ.out _ _ HX.out
 ·have HX : Hid (ApRes w g d lg bl bh s fp b (.returned (.int .i64 (appendE s.D s.l b))) w1) := lh (by
   unfold ApRes; rw [PS.append_ne s b h5]; exact ⟨rfl, HST1.out⟩)
  generalize appendE s.D s.l b = e8 at *; have hne : (e8 != 5) = true := by rw [bne_iff_ne]; exact h5
  go_wp2_with fail; exact HQ.out _ _ HX.out

open Go.RowKit Go.Maps
theorem ranges_fr {S : List Nat} {w w' : World} {b r n cnt : Nat} {D : DataW Unit} {left : Lit -> Bool} (h : w.ranges Tryz.prog 3 pgR b r n D left cnt) (hf : Fr S w w') (hb : b ∉ S) (hr : r ∉ S) : w'.ranges Tryz.prog 3 pgR b r n D left cnt := by
 have h1 := h.owns.lt; have h2 := h.lt; obtain ⟨es, clock, since, seen, c0, e1, F, hs, hD, e2, rest⟩ := h; exact ⟨es, clock, since, seen, c0, (hf.block b h1 hb).trans e1, F, hs, hD, (hf.block r h2 hr).trans e2, rest⟩
theorem owns_fr {S : List Nat} {w w' : World} {b n : Nat} {D : DataW Unit} (h : w.ownsMap Tryz.prog 3 pgR b n D) (hf : Fr S w w') (hb : b ∉ S) : w'.ownsMap Tryz.prog 3 pgR b n D := by
 have h1 := h.lt; obtain ⟨es, clock, e1, rest⟩ := h; exact ⟨es, clock, (hf.block b h1 hb).trans e1, rest⟩
def CpRel (w : World) (bd bs nd ns : Nat) (Dd Ds : DataW Unit) (wr : World) : Prop :=
 ∃ (left : Lit -> Bool) (cnt : Nat) (Dout : DataW Unit), wr.ranges Tryz.prog 3 pgR bs w.heap.size ns Ds left cnt /\ cnt <= ns /\
  wr.ownsMap Tryz.prog 3 pgR bd (nd + (ns - cnt)) Dout /\ Merged Dout Dd Ds left /\ Fr [bd] w wr
theorem copy_any {w : World} {bd bs : Nat} {md ms : PgM} (hd : MapAt w bd md) (hs : MapAt w bs ms) (hne : bd ≠ bs) (h1 : md.length <= 100000) (h2 : ms.length <= 100000) :
  Calls Tryz.prog 53 #[.map (some bd), .map (some bs)] w fun e w' => e = .returned (.tuple #[]) /\ MapAt w' bd (mergeP md ms) /\ Fr [bd] w w' := by
 refine calls_post fun R HQ => ?_; have hbd := hd.lt; have hbs := hs.lt; have K := int_K; have HD := lh hd; have HS := lh hs; unfold MapAt at hd hs; obtain ⟨Dd, hDd⟩ : ∃ D, D = toD md := ⟨_, rfl⟩; obtain ⟨Ds, hDs⟩ : ∃ D, D = toD ms := ⟨_, rfl⟩; have hsd : Maps.size Ds = ms.length := by rw [hDs, size_D]
 rw [<- hDd] at hd; rw [<- hDs] at hs; have HDD := lh hDd; have HDS := lh hDs; clear hDd hDs; generalize md.length = nd at *
 go_enter Tryz.func53, Tryz.ntmps53
 go_wp2_with (first
  | (at_range; refine wpList_range_own _ rfl _ 116 rfl 3 123 K Tryz.underlying116 pgR bs _ _ rfl hs ?_; intro w0 hrg0 hg0 hs0)
  | go_in)
 go_frame
 have hf0 : Fr [bd] w w0 := (Fr.refl [bd] w).grown hg0 (by simp); rw [hsd] at hrg0; clear hsd
 go_loopw [8] (fun _ wr => CpRel w bd bs nd ms.length Dd Ds wr) (fun _ wr => wr.rangeLeft bs w.heap.size)
 case atStart =>
  exact ⟨_, _, Dd, hrg0, Nat.le_refl _, (owns_fr hd ((Fr.refl [] w).grown hg0 (by simp)) (by simp)).mono (by omega), merged_start Dd Ds, hf0⟩
 case round =>
  obtain ⟨left, cnt, Dout, hrg, hcs, hout, hM, hfw⟩ := hrel
  go_wp2_with (first
   | (at_next; refine wpList_next_ranges _ rfl _ rfl 3 K pgR id pageV (fun key _ _ => ⟨key, rfl⟩) (fun v _ h => by obtain ⟨b, hb, _⟩ := pgR_inv h; exact ⟨b, hb⟩) bs w.heap.size ms.length _ _ _ rfl hrg ?_ ?_)
   | go_in)
  ·intro hc0 hl0; have e := merged_eq K.one hM hl0 (hout.canon K) (hd.canonK K) (hs.canonK K); rw [HDD.out, HDS.out, merge_D] at e; subst e; have HX : Hid (MapAt wr bd (mergeP md ms) /\ Fr [bd] w wr) := lh ⟨MapAt.of hout, hfw⟩; clear hrg hout hM hfw hcs hl0; go_wp2_with fail
   go_end0
   exact HQ.out _ _ ⟨rfl, HX.out⟩
  ·intro x c kl yd yp w1 cnt1 hkey hlx hv hat hrg1 hlt hg1 hs1 hen; obtain ⟨b, hbv, hbl, hy⟩ := pgR_inv hv; obtain rfl := pageV_inj hbv; obtain ⟨rfl, rfl⟩ := Prod.mk.inj hy; have hrl := hrg.lt; have hrne := hrg.ne; have hrw : w.heap.size ≠ bd := by omega
   have hout1 := owns_fr hout ((Fr.refl [w.heap.size] wr).grown hg1 (by simp)) (by simp; omega); have hf1 : Fr [bd] w w1 := hfw.grown hg1 (fun g hg => by cases hg; exact .inr (Nat.le_refl _)); have HRG1 := lh hrg1; have HOUT1 := lh hout1; have HF1 := lh hf1; have HM := lh hM; have HKEY := lh hkey; have HV := lh hv; have HAT := lh hat; have hl1 : wr.rangeLeft bs w.heap.size = cnt := hrg.left_eq; have hl2 : w.heap.size < w1.heap.size := hrg1.lt; have hl3 := hout1.lt; have hl4 := hrg1.owns.lt; unfold pageV at hen; clear hrg1 hout1 hf1 hM hkey hv hat hrg hfw hg1 hbv hout; have hs2 : w1.heap.size <= wr.heap.size /\ wr.heap.size <= w1.heap.size := by omega
   clear hs1; simp only [] at *
   go_wp2_with (first
    | (with_reducible refine wpList_alloc_z rfl 123 rfl (pageV zpage) (bcells zpage).toArray zero_pg rfl ?_)
    | (with_reducible refine wpList_store_z (W := w1) (zs := (bcells zpage).toArray) (t' := 123) rfl 123 (.tmp 5) (.tmp 12) rfl (bcells c) ?zx ?zy ?zw ?zi ?zl ?z1 ?_))
   case zx => rfl
   case zy => rfl
   case zw => rfl
   case zi => have h := size_pg; simpa [bcells_len, hbl] using h
   case zl => show (bcells zpage).length = (bcells c).length; rw [bcells_len, bcells_len, zpage_len, hbl]
   case z1 => exact bcells_one _
   intro w4 hb4 hf4 hz4; have hbd4 : bd ≠ w1.heap.size := by omega
   have hrg4 : w.heap.size ≠ w1.heap.size := by omega
   have hc4 : w4.rangeAt w1.heap.size 0 (bcells c) := fun j v hv => by rw [Nat.zero_add]; exact hb4.at_ hv
   have hsz4 : (Tryz.prog.info? 123).map (·.size) = some (bcells c).length := by rw [bcells_len, hbl]; exact size_pg
   have hroom : nd + (ms.length - cnt) < maxLen := by unfold maxLen; omega
   have hout4 := owns_fr HOUT1.out hf4 (by simp); have hHV := HV.out; unfold pageV at hHV
   go_wp2_with (first
    | (with_reducible refine wpList_load_mid rfl 123 (.tmp 5) rfl w1.heap.size 0 rfl (bcells c) _ hc4 Tryz.underlying123 rfl hsz4 ?_)
    | (at_mapUpdate; refine wpList_mapUpdate_own w4 rfl (.tmp 13) (.tmp 14) (.tmp 15) 116 rfl 3 123 K Tryz.underlying116 pgR bd _ _ rfl hout4 hroom x _ kl rfl rfl HKEY.out _ _ hHV ?_))
   intro w5 hout5 hg5; have hf45 : Fr [bd] w4 w5 := (Fr.refl [bd] w4).grown hg5 (fun g hg => by cases hg; exact .inl (by simp)); have hrg5 := ranges_fr (ranges_fr HRG1.out hf4 (by simp) (by simp)) hf45 (by simp; omega) (by simp; omega); have hX : CpRel w bd bs nd ms.length Dd Ds w5 := ⟨_, cnt1, _, hrg5, by omega, hout5.mono (by omega), merged_step HM.out HOUT1.out.isMap (K.key HKEY.out) HAT.out, (HF1.out.trans hf4 (by simp)).trans hf45 (fun x hx => .inl hx)⟩; have hl5 := hrg5.left_eq; clear hrg5 hout5 hg5 hf45 hb4 hf4 hc4 hout4
   go_roundw
   case rel => exact ⟨_, _, _, _, _, _, _, _, _, _, hX, rfl⟩
   case measure => rw [hl5, hl1]; exact hlt

open Go.RowKit
theorem check_late (s : PS) : s.check.1.late = s.late := by
 unfold PS.check
 repeat' split
 all_goals rfl
theorem append_late (s : PS) (b : List UInt8) : (s.append b).1.late = s.late := by
 unfold PS.append
 split
 ·rfl
 ·split
  ·exact check_late _
  ·exact check_late _
theorem enter_copy8 (vs : Array Value) (w : World) : (callFunc 53 vs).run Tryz.prog w = .ok (.enter 53 vs) w := by kernel_rfl
def CmRes (w : World) (g d lg bl bh : Nat) (s : PS) (fp : List Nat) (e : Ending) (w' : World) : Prop :=
 e = .returned (.int .i64 s.commit.2) /\ PStep w w' g d lg bl bh s.commit.1 fp
theorem commit_P {w : World} {g d lg bl bh : Nat} {s : PS} {fp : List Nat} (h : PgrAt w g d lg bl bh s fp) (hdone : s.D.done + 400000 < 1099511627776) :
  Calls Tryz.prog 22 #[.pointer (some ⟨g, 0, none⟩)] w (CmRes w g d lg bl bh s fp) := by
 refine calls_post fun R HQ => ?_; have c4 := h.blk.at_ (i := 4) rfl; have hl := fun ty => h.late.len ty; have HGO := lh (gone_P h); have HA := lh h; have HR := lh (record_P h); have hpl := h.lt; have HPL := lh hpl; clear h hpl; obtain ⟨b, hb⟩ := nm (s.br); have HB := lh hb; rw [<- hb] at HGO
 cases b with
 | true =>
  have hc : s.commit = (s, 10) := by unfold PS.commit; rw [if_pos hb.symm]
  have HX : Hid (CmRes w g d lg bl bh s fp (.returned (.int .i64 10)) w) := lh (by
   unfold CmRes; rw [hc]; exact ⟨rfl, PStep.same HA.out⟩)
  clear hb hc HB
  go_enter Tryz.func22, Tryz.ntmps22
  go_wp2_with fail; refine HGO.out.mono ?_; rintro e w' ⟨rfl, rfl⟩; go_wp2_with fail; exact HQ.out _ _ HX.out
 | false =>
  have hbr : ¬s.br = true := by rw [<- hb]; decide
  by_cases h0 : s.late = []
  ·have hc : s.commit = (s, 0) := by unfold PS.commit; rw [if_neg hbr, if_pos h0]
   have HX : Hid (CmRes w g d lg bl bh s fp (.returned (.int .i64 0)) w) := lh (by
    unfold CmRes; rw [hc]; exact ⟨rfl, PStep.same HA.out⟩)
   rw [h0] at hl; clear hb hc HB hbr h0
   go_enter Tryz.func22, Tryz.ntmps22
   go_wp2_with fail; refine HGO.out.mono ?_; rintro e w' ⟨rfl, rfl⟩; go_wp2_with fail; exact HQ.out _ _ HX.out
  ·have hlen : ¬s.late.length = 0 := fun h => h0 (List.length_eq_zero_iff.1 h)
   have hc : s.commit = if (s.append (recP s.late)).2 ≠ 0 then ({ (s.append (recP s.late)).1 with br := (s.append (recP s.late)).1.br || ((s.append (recP s.late)).2 != 5 && (s.append (recP s.late)).2 != 4) }, (s.append (recP s.late)).2)
     else ({ (s.append (recP s.late)).1 with held := mergeP (s.append (recP s.late)).1.held s.late, late := [] }, 0) := by
    unfold PS.commit; rw [if_neg hbr, if_neg h0]
   have hrl : (recP s.late).length = 514 * s.late.length := recP_len (n := s.n) (fun p hp => HA.out.lok.mem p hp); have HC := lh hc; have hfew := HA.out.lok.few; have hn := HA.out.few; clear hb hc HB hbr h0; obtain ⟨n, hnl⟩ := nm (s.late.length); rw [<- hnl] at hl hlen hrl hfew; clear hnl
   go_enter Tryz.func22, Tryz.ntmps22
   go_wp2_with fail; refine HGO.out.mono ?_; rintro e w' ⟨rfl, rfl⟩; go_wp2_with fail; refine HR.out.mono ?_; rintro e w1 ⟨v, gb, rfl, hv, hgb, hf1⟩; have hA1 := HA.out.fr hf1 (by simp)
   have hgw : gb < w1.heap.size := by
    obtain ⟨A, c, off, _, _, h1⟩ := hv; obtain ⟨_, h2⟩ := h1 (by omega); obtain ⟨u, hu⟩ : ∃ u, (bcells (recP s.late))[0]? = some u := gx (by rw [bcells_len]; omega); exact World.block_lt_of_cell? w1 _ (h2 0 u hu)
   have HAP := lh (appendP_P hA1 hv (fun hm => by have := HPL.out gb hm; omega) hgw (by omega) hdone); have HF1 := lh hf1; have hvn : ∃ u, u = v := ⟨_, rfl⟩; clear hA1 hf1 hv hgb hgw hvn c4 hl; go_wp2_with fail; refine HAP.out.mono ?_; rintro e w2 ⟨rfl, hst⟩; have hst2 := PStep.comp (HF1.out.mono (T := pfp g lg bl bh fp) (by simp)) (fun _ hk => .inl hk) hst; have HLT : Hid ((s.append (recP s.late)).1.late = s.late) := lh (append_late _ _); obtain ⟨q, hq⟩ := nm (s.append (recP s.late)); rw [<- hq] at hst2 HC HLT ⊢; obtain ⟨s2, e8⟩ := q
   simp only at hst2 HC HLT ⊢
   obtain ⟨fp2, hA2, hf2, hn2⟩ := hst2; have HA2 := lh hA2; have HF2 := lh hf2; have HN2 := lh hn2; have c6 := hA2.blk.at_ (i := 6) rfl; have cf := hA2.blk.free; clear hst HAP hq
   by_cases he : e8 = 0
   ·subst he; have hcc := HC.out; rw [if_neg (by simp)] at hcc; have HCC := lh hcc; have c4 := hA2.blk.at_ (i := 4) rfl; have c5 := hA2.blk.at_ (i := 5) rfl; have k1 : s2.held.length <= 100000 := by have := hA2.hok.few; have := hA2.few; omega
    have k2 : s2.late.length <= 100000 := by have := hA2.lok.few; have := hA2.few; omega
    clear hcc HC hA2 hf2 hn2 c6 cf; go_wp2_with fail; refine wp_region_K (fun W => W.cell? ⟨g, 4, none⟩ = some (.map (some bl)) /\ W.cell? ⟨g, 5, none⟩ = some (.map (some bh))) [0, 1, 2, 3, 4, 5, 6, 7] (by kernel_rfl) ?_; refine tks [0, 1, 2, 3, 4, 5, 6, 7] ?_
    iterate 8 (refine tk rfl rfl ⟨c4, c5⟩ rfl (fun _ hW => by (obtain ⟨c4', c5'⟩ := hW; go_simp) <;> with_reducible rfl) ?_; simp only [nrm])
    refine tke ?_; refine sp 8 rfl rfl rfl fun K hK => ?_; have hdr : Fr [] w2 w2.drew := (Fr.refl [] w2).drew; have hA2d := HA2.out.fr hdr (by simp); refine wp_call_f (l := [.tmp 39, .tmp 43]) rfl [.map (some bh), .map (some bl)] rfl (enter_copy8 _) ((copy_any hA2d.held hA2d.late (fun e => hA2d.ne e.symm) k1 k2).mono ?_); rintro e w3 ⟨rfl, hm3, hf3⟩; have hA3 := hA2d.held_ hm3 hf3 (hA2d.hok.merge hA2d.lok.mem); have c43 : w3.cell? ⟨g, 4, none⟩ = some (.map (some bl)) /\ w3.cell? ⟨g, 5, none⟩ = some (.map (some bh)) := ⟨hA3.blk.at_ (i := 4) rfl, hA3.blk.at_ (i := 5) rfl⟩; refine ⟨_, rfl, hK _ _ (fun _ => c43) ?_⟩; simp only [nrm]; refine wd ?_ _; have c4'' := c43.1; obtain ⟨w4, hr4, hm4, hf4, hz4⟩ := hA3.late.clear 0; have hr' : ∀ ty, (Builtin.clear_ #[116] ty #[.map (some bl)]).run Tryz.prog w3 = .ok (.tuple #[]) w4 := fun ty => hr4
    have HX : Hid (CmRes w g d lg bl bh s fp (.returned (.int .i64 0)) w4) := lh (by
     unfold CmRes; rw [HCC.out]; have hA4 := hA3.late_ hm4 hf4 (PgOk.nil _); rw [<- HLT.out]; refine ⟨rfl, PStep.comp HF2.out HN2.out ⟨fp2, hA4, ((Fr.refl _ w2).drew.trans (hf3.mono (T := pfp g lg bl bh fp2) (fun x hx => .inl (by simp only [List.mem_singleton] at hx; simp [pfp, hx]))) (fun x hx => .inl hx)).trans hf4 (fun x hx => .inl (by simp only [List.mem_singleton] at hx; simp [pfp, hx])), fun _ hk => .inl hk⟩⟩)
    clear hr4 hm4 hf4 hz4 hA3 hm3 hf3 hA2d hdr c43 c4 c5 hK; go_wp2_with fail; exact HQ.out _ _ HX.out
   ·have hst3 := hA2.setBr (s2.br || (e8 != 5 && e8 != 4)); have hcc := HC.out; rw [if_pos (by simpa using he)] at hcc
    have HX : Hid (CmRes w g d lg bl bh s fp (.returned (.int .i64 e8)) (w2.setCell ⟨g, 6, none⟩ (.bool (s2.br || (e8 != 5 && e8 != 4))))) := lh (by
     unfold CmRes; rw [hcc]; exact ⟨rfl, PStep.comp hf2 hn2 hst3⟩)
    have hne : (e8 != 0) = true := by rw [bne_iff_ne]; exact he
    clear hA2 hf2 hn2 hst3 hcc HC; have u1 : ∀ b, ¬(some undef = some (Value.bool b)) := fun b => by simp [undef]
    cases hbb : s2.br with
    | true =>
     rw [hbb] at HX c6; simp only [Bool.true_or] at HX; go_wp2_with fail; exact HQ.out _ _ HX.out
    | false =>
     rw [hbb] at HX c6; simp only [Bool.false_or] at HX
     by_cases h5 : e8 = 5
     ·subst h5
      simp at HX
      go_wp2_with fail; exact HQ.out _ _ HX.out
     ·have hn5 : (e8 != 5) = true := by rw [bne_iff_ne]; exact h5
      rw [hn5] at HX; simp only [Bool.true_and] at HX; generalize hb4 : (e8 != 4) = b4 at *; go_wp2_with fail; exact HQ.out _ _ HX.out
structure Calm (s : PS) : Prop where
 dead : s.D.dead = false
 pend : s.D.P = []
 fit : s.l.n + 8 * s.n <= s.D.S.length
theorem PInv.calm {c : Nat} {s : PS} {C : Nat -> List UInt8} (h : PInv c s C) : Calm s := ⟨h.dead, h.pend, h.fit⟩
def PgAns (w : World) (b : List UInt8) (e : Ending) (w' : World) : Prop := ∃ v gb, e = .returned (.tuple #[v, .int .i64 0]) /\ BytesAt w' v b gb /\ w.heap.size <= gb /\ Fr [] w w'
def homeI (S : List (List UInt8)) (log k i : Nat) : List UInt8 := ((S.drop (log + 8 * k)).take i).flatten
theorem homeI_len {S : List (List UInt8)} {log k i : Nat} (hS : ∀ s ∈ S, s.length = 64) (h : log + 8 * k + i <= S.length) : (homeI S log k i).length = 64 * i := by
 unfold homeI; rw [flat_len (fun s hs => hS s (List.mem_of_mem_drop (List.mem_of_mem_take hs))), List.length_take, List.length_drop]; omega
theorem homeI_succ {S : List (List UInt8)} {log k i : Nat} (h : log + 8 * k + i < S.length) : homeI S log k (i + 1) = homeI S log k i ++ S.getD (log + 8 * k + i) [] := by
 unfold homeI; rw [List.take_succ_eq_append_getElem (by rw [List.length_drop]; omega), List.flatten_append, List.getElem_drop]
 simp [List.getD, List.getElem?_eq_getElem h]
def HmRel (w : World) (S : List (List UInt8)) (log k : Nat) (v6 v10 : Value) (wr : World) : Prop :=
 ∃ i : Nat, i <= 8 /\ v10 = .int .i64 (i : Int) /\ wr.ownsRow 0 5 1 v6 (64 * i) (bcells (homeI S log k i)) /\ (∀ x, v6.ownBlock = some x -> w.heap.size <= x) /\ Fr [] w wr
theorem home_P {w : World} {g d lg bl bh : Nat} {s : PS} {fp : List Nat} (h : PgrAt w g d lg bl bh s fp) (hc : Calm s) (k : Nat) (hk : k < s.n) :
  Calls Tryz.prog 95 #[.pointer (some ⟨g, 0, none⟩), .int .i64 (k : Int)] w (PgAns w (homeP s.D.S s.l.n k)) := by
 refine calls_post fun R HQ => ?_; have HA := lh h; have hok := h.jn.disk.ok; have hmost := hok.most; have hfit := hc.fit; have hsec := hok.sec; have hn := h.few; have HOK := lh hok; have HC := lh hc; have HSEC := lh hsec; clear h hok hc hsec
 go_enter Tryz.func95, Tryz.ntmps95
 go_wp2_with fail
 go_loopw [6, 10] (HmRel w s.D.S s.l.n k) (fun _ v _ => 8 - (intOf v).toNat)
 case atStart => exact ⟨0, by omega, rfl, by unfold homeI; rw [List.take_zero]; exact own_nil _ _ _ _, by simp [Value.ownBlock], Fr.refl _ _⟩
 case round =>
  obtain ⟨i, hi, rfl, hown, hge, hf⟩ := hrel; obtain ⟨oA, oc, rfl, hoc, _⟩ := own_shape hown; have HOWN := lh hown; have HGE := lh hge; have HF := lh hf; have hAr := HA.out.fr hf (by simp); have HAR := lh hAr; have c0 := hAr.blk.at_ (i := 0) rfl; have c3 := hAr.blk.at_ (i := 3) rfl; clear hown hge hf hAr
  by_cases hi8 : i < 8
  ·have x1 : IntKind.i64.wrap (8 * (k : Int)) = 8 * (k : Int) := by rw [IntKind.wrap_i64]; omega
   have x2 : IntKind.i64.wrap ((s.l.n : Int) + 8 * (k : Int)) = (s.l.n : Int) + 8 * (k : Int) := by rw [IntKind.wrap_i64]; omega
   have x3 : IntKind.i64.wrap ((s.l.n : Int) + 8 * (k : Int) + (i : Int)) = (s.l.n : Int) + 8 * (k : Int) + (i : Int) := by rw [IntKind.wrap_i64]; omega
   go_wp2_with fail; refine wp_region_K (fun W => W.cell? ⟨g, 0, none⟩ = some (.pointer (some ⟨d, 0, none⟩)) /\ W.cell? ⟨g, 3, none⟩ = some (.int .i64 (s.l.n : Int))) [0, 1, 2, 3, 4, 5, 6, 7, 8, 9, 10, 11, 12, 14, 15, 16] (by kernel_rfl) ?_; refine tks [0, 1, 2, 3, 4, 5, 6, 7, 8, 9, 10, 11, 12] ?_
   iterate 13 (refine tk rfl rfl ⟨c0, c3⟩ rfl (fun _ hW => by (obtain ⟨c0', c3'⟩ := hW; go_simp) <;> with_reducible rfl) ?_; simp only [nrm])
   refine tke ?_; refine sp 13 rfl rfl rfl fun K hK => ?_; have hdr : Fr [] wr wr.drew := (Fr.refl [] wr).drew; refine wp_call_f (l := [.tmp 17, .tmp 26]) rfl [.pointer (some ⟨d, 0, none⟩), .int .i64 ((s.l.n : Int) + 8 * (k : Int) + (i : Int))] rfl (enter_read _) ((read_at (HAR.out.jn.disk.fr hdr (by simp)) ((s.l.n : Int) + 8 * (k : Int) + (i : Int))).mono ?_); rintro e w1 ⟨v, q, rfl, hbv, hgw, hf1, hyes, _⟩
   have hE : s.D.readE ((s.l.n : Int) + 8 * (k : Int) + (i : Int)) = 0 := by
    unfold DM.readE; rw [HC.out.dead, if_neg (by simp), if_neg (by omega)]
   have hR : s.D.read ((s.l.n : Int) + 8 * (k : Int) + (i : Int)) = s.D.S.getD (s.l.n + 8 * k + i) [] := by
    unfold DM.read; rw [if_pos hE, show ((s.l.n : Int) + 8 * (k : Int) + (i : Int)).toNat = s.l.n + 8 * k + i by omega]; unfold DM.look; rw [HC.out.pend]
    rfl
   obtain ⟨rfl, hblk⟩ := hyes hE; rw [hR] at hblk; have hf1' : Fr [] wr w1 := hdr.trans hf1 (by simp); have hA1 := HAR.out.fr hf1' (by simp); have c03 : w1.cell? ⟨g, 0, none⟩ = some (.pointer (some ⟨d, 0, none⟩)) /\ w1.cell? ⟨g, 3, none⟩ = some (.int .i64 (s.l.n : Int)) := ⟨hA1.blk.at_ (i := 0) rfl, hA1.blk.at_ (i := 3) rfl⟩; rw [hE]; refine ⟨_, rfl, hK _ _ (fun _ => c03) ?_⟩; simp only [nrm]; refine tks [14, 15, 16] ?_
   iterate 3 (refine tk rfl rfl c03 rfl (fun _ hW => by (obtain ⟨c0', c3'⟩ := hW; go_simp) <;> with_reducible rfl) ?_; simp only [nrm])
   refine tke ?_; refine sp 17 rfl rfl rfl fun K hK => ?_; refine wp_run_same (v := ?aq1_17) ?yq1_17 (hK _ _ (fun _ => c03) ?_)
   case yq1_17 => go_simp <;> with_reducible rfl
   simp only [nrm]; refine sp 18 rfl rfl rfl fun K hK => ?_; refine wp_run_same (v := ?aq1_18) ?yq1_18 (hK _ _ (fun _ => c03) ?_)
   case yq1_18 => go_simp <;> with_reducible rfl
   simp only [nrm]; refine wd ?_ _; obtain ⟨sc, hsc⟩ := nm (s.D.S.getD (s.l.n + 8 * k + i) []); rw [<- hsc] at hblk
   have hscl : sc.length = 64 := by
    rw [hsc, List.getD, List.getElem?_eq_getElem (by omega : s.l.n + 8 * k + i < s.D.S.length), Option.getD_some]; exact HSEC.out _ (List.getElem_mem _)
   have HSC := lh hsc; have HBLK := lh hblk; have HF1 := lh hf1'; have HSCL := lh hscl; have hown1 := own_fr HOWN.out hf1' (by simp); have HO1 := lh hown1; clear hbv hgw hf1 hyes hE hR hA1 c03 hdr hK hsc hblk hf1' hscl hown1 c0 c3 x1 x2 x3; go_upto_region 9 with fail
   refine wp_region_lit ?_
   iterate 2 (refine rn rfl (by go_simp <;> with_reducible rfl) ?_; simp only [nrm])
   obtain ⟨iu, hi', hz', hsz', hby⟩ := info_parts info_u8; refine lp fun K hK => ?_; refine wp_append_fr (.tmp 36) (.tmp 37) rfl 5 1 1 Tryz.underlying23 hi' hz' hsz' hby rfl (by omega) (.slice oA (64 * i) oc) (64 * i) (bcells (homeI s.D.S s.l.n k i)) rfl HO1.out ⟨q, 0, none⟩ 64 64 (bcells sc) rfl (by rw [bcells_len, HSCL.out]) (fun j u hu => by rw [Addr.add_mid, Nat.zero_add]; exact HBLK.out.at_ hu) (bcells_one _) (by omega) (by unfold maxLen; omega) (by omega) w1.heap.size rfl fun g9 cap9 w9 ho9 hf9 hat9 hlt9 => hK _ _ ?_; simp only [nrm]; clear hK; refine rn rfl (by go_simp <;> with_reducible rfl) ?_; simp only [nrm]; refine wpList_nil ?_
   have HX : Hid (HmRel w s.D.S s.l.n k (.slice (some ⟨g9, 0, none⟩) (64 * i + 64) cap9) (.int .i64 ((i : Int) + 1)) w9) := lh (by
    refine ⟨i + 1, by omega, by go_num, ?_, ?_, ?_⟩
    ·rw [homeI_succ (by omega), bcells_append, <- HSC.out]; exact ho9
    ·intro x hx
     simp [Value.ownBlock] at hx
     subst hx; rcases hat9 with h | h
     ·exact HGE.out _ h
     ·have := (HF.out.trans HF1.out (by simp)).size; omega
    ·exact (HF.out.trans HF1.out (by simp)).trans hf9 (fun x hx => .inr (HGE.out x (by simpa using hx))))
   clear ho9 hf9 hat9 hlt9 hi' hz' hsz' hby HO1; go_wp2_with fail
   go_roundw
   case rel => exact HX.out
   case measure => simp [intOf]; omega
  ·obtain rfl : i = 8 := by omega
   have HX : Hid (∃ gb, BytesAt wr (.slice oA (64 * 8) oc) (homeP s.D.S s.l.n k) gb /\ w.heap.size <= gb) := lh (by
    have h := HOWN.out; have hl : (homeI s.D.S s.l.n k 8).length = 64 * 8 := homeI_len HSEC.out (by omega); rw [<- hl] at h ⊢; exact bytes_of_own h (by rw [hl]; exact HGE.out))
   clear c0 c3; go_wp2_with fail; obtain ⟨gb, h1, h2⟩ := HX.out; exact HQ.out _ _ ⟨_, gb, rfl, h1, h2, HF.out⟩
theorem build_maps (a b : Nat) (w : World) : (Instr.buildSlice 172 2 #[(0, .map (some a)), (1, .map (some b))]).run Tryz.prog w = .ok (.slice (some ⟨w.heap.size, 0, none⟩) 2 2) (w.alloc (.cells #[.map (some a), .map (some b)] 116)) := by kernel_rfl
theorem slice_whole (q : Nat) (W : World) : (Instr.sliceAt 123 (.pointer (some ⟨q, 0, none⟩)) none none none).run Tryz.prog W = .ok (.slice (some ⟨q, 0, none⟩) 512 512) W := by kernel_rfl
def PS.page (s : PS) (k : Nat) : List UInt8 := (getP s.late k).getD ((getP s.held k).getD (homeP s.D.S s.l.n k))
theorem PInv.page_eq {c : Nat} {s : PS} {C : Nat -> List UInt8} (h : PInv c s C) {k : Nat} (hk : k < s.n) : s.page k = over C s.late k := by
 unfold PS.page over; rw [h.cont k hk]
def RdRel (w2 : World) (s : PS) (k : Nat) (v34 : Value) (wr : World) : Prop :=
 ∃ j : Nat, j <= 2 /\ v34 = .int .i64 (j : Int) /\ (0 < j -> getP s.late k = none) /\ (1 < j -> getP s.held k = none) /\ Fr [] w2 wr
theorem read_P {w : World} {g d lg bl bh : Nat} {s : PS} {fp : List Nat} (h : PgrAt w g d lg bl bh s fp) (hbr : s.br = false) (hc : Calm s) (k : Nat) (hk : k < s.n) :
  Calls Tryz.prog 60 #[.pointer (some ⟨g, 0, none⟩), .int .i64 (k : Int)] w (PgAns w (s.page k)) := by
 refine calls_post fun R HQ => ?_; have HA := lh h; have hn := h.few; have hgo := gone_P h; rw [hbr] at hgo; have HGO := lh hgo; have HC := lh hc; have c2 := h.blk.at_ (i := 2) rfl; have c4 := h.blk.at_ (i := 4) rfl; have c5 := h.blk.at_ (i := 5) rfl; clear h hgo hc hbr
 go_enter Tryz.func60, Tryz.ntmps60
 go_wp2_with fail; refine HGO.out.mono ?_; rintro e w' ⟨rfl, rfl⟩; go_wp2_with fail; refine wp_region_K (fun W => W.cell? ⟨g, 4, none⟩ = some (.map (some bl)) /\ W.cell? ⟨g, 5, none⟩ = some (.map (some bh))) [0, 1, 2, 3, 4, 5, 6, 7, 9, 10] (by kernel_rfl) ?_; refine tks [0, 1, 2, 3, 4, 5, 6, 7, 10] ?_
 iterate 9 (refine tk rfl rfl ⟨c4, c5⟩ rfl (fun _ hW => by (obtain ⟨c4', c5'⟩ := hW; go_simp) <;> with_reducible rfl) ?_; simp only [nrm])
 refine tke ?_; refine sp 8 rfl rfl rfl fun K hK => ?_; have hdr : Fr [] w w.drew := (Fr.refl [] w).drew; have hbm := build_maps bl bh w.drew; have hf2 : Fr [] w (w.drew.alloc (.cells #[.map (some bl), .map (some bh)] 116)) := hdr.alloc _; have hb2 : Blk (w.drew.alloc (.cells #[.map (some bl), .map (some bh)] 116)) w.drew.heap.size 116 [.map (some bl), .map (some bh)] := Blk.new w.drew 116 _; have hA2 := HA.out.fr hf2 (by simp); have c45 : (w.drew.alloc (.cells #[.map (some bl), .map (some bh)] 116)).cell? ⟨g, 4, none⟩ = some (.map (some bl)) /\ (w.drew.alloc (.cells #[.map (some bl), .map (some bh)] 116)).cell? ⟨g, 5, none⟩ = some (.map (some bh)) := ⟨hA2.blk.at_ (i := 4) rfl, hA2.blk.at_ (i := 5) rfl⟩; refine wp_run_value (v := .slice (some ⟨w.drew.heap.size, 0, none⟩) 2 2) (w' := w.drew.alloc (.cells #[.map (some bl), .map (some bh)] 116)) (by simp [execOp, Act.eval, hbm, Result.andThen]) (hK _ _ (fun _ => c45) ?_); simp only [nrm]; refine tks [9] ?_; refine tk rfl rfl c45 rfl (fun _ hW => by (obtain ⟨c4', c5'⟩ := hW; go_simp) <;> with_reducible rfl) ?_; simp only [nrm]; refine tke ?_; refine wd ?_ _; have hq0 : w.drew.heap.size = w.heap.size := rfl; rw [hq0] at hb2 ⊢; have HF2 := lh hf2; have HB2 := lh hb2; clear hbm hA2 c45 hK hdr hq0 hf2 hb2 c4 c5 c2; generalize w.drew.alloc (.cells #[.map (some bl), .map (some bh)] 116) = w2 at *; have hsl := slice_whole; go_wp2_with fail; have hd1 : decide ((k : Int) < 0) = false := by simp
 have hd2 : decide (s.n <= k) = false := by simp; omega
 simp only [hd1, hd2, Bool.or_self]
 go_loopw [34] (fun v34 wr => RdRel w2 s k v34 wr) (fun v _ => 2 - (intOf v).toNat)
 case atStart => exact ⟨0, by omega, rfl, fun h => absurd h (by omega), fun h => absurd h (by omega), Fr.refl _ _⟩
 case round =>
  obtain ⟨j, hj, rfl, h0, h1, hf⟩ := hrel; have hAr := HA.out.fr (HF2.out.trans hf (by simp)) (by simp); have HAR := lh hAr; have HF := lh hf; have H0 := lh h0; have H1 := lh h1; clear hf h0 h1
  by_cases hj2 : j < 2
  ·have hb := HB2.out.fr HF.out (by simp)
   obtain ⟨bj, mj, cc, hmj, hmok, hnone, hsome⟩ : ∃ bj mj, wr.cell? ⟨w.heap.size, j, none⟩ = some (.map (some bj)) /\ MapAt wr bj mj /\ PgOk s.n mj /\ (getP mj k = none -> (0 < j + 1 -> getP s.late k = none) /\ (1 < j + 1 -> getP s.held k = none)) /\ ∀ x, getP mj k = some x -> s.page k = x := by
    rcases (by omega : j = 0 ∨ j = 1) with rfl | rfl
    ·refine ⟨bl, s.late, hb.at_ (i := 0) rfl, hAr.late, hAr.lok, fun h => ⟨fun _ => h, fun h => absurd h (by omega)⟩, fun x hx => ?_⟩; unfold PS.page; rw [hx]
     rfl
    ·refine ⟨bh, s.held, hb.at_ (i := 1) rfl, hAr.held, hAr.hok, fun h => ⟨fun _ => H0.out (by omega), fun _ => h⟩, fun x hx => ?_⟩; unfold PS.page; rw [H0.out (by omega), hx]
     rfl
   have hlk := hmj.look_ok (k := k) (by omega); obtain ⟨x, hx⟩ := nm ((getP mj k).getD zpage)
   have hxl : x.length = 512 := by
    rw [hx]
    cases hg : getP mj k with
    | none => exact zpage_len
    | some y => exact (getP_len hmok hg).2
   obtain ⟨is, his⟩ := nm ((getP mj k).isSome); rw [<- hx, <- his] at hlk; unfold pageV at hlk; have HN := lh hnone; have HS := lh hsome; have HX := lh hx; have HI := lh his; have HXL := lh hxl; clear hb hAr hmj hmok hnone hsome hx his hxl
   go_wp2_with (first
    | (with_reducible refine wpList_alloc_z rfl 123 rfl (pageV zpage) (bcells zpage).toArray zero_pg rfl ?_)
    | (with_reducible refine wpList_store_z (W := wr) rfl 123 (.tmp 8) (.tmp 42) rfl (bcells x) rfl rfl rfl ?zi ?zl ?z1 ?_))
   case zi => have h := size_pg; simpa [bcells_len, HXL.out] using h
   case zl => show (bcells zpage).length = (bcells x).length; rw [bcells_len, bcells_len, zpage_len, HXL.out]
   case z1 => exact bcells_one _
   intro w4 hb4 hf4 hz4; have HB4 := lh hb4; have HF4 := lh hf4; clear hb4 hf4 hlk cc
   cases is with
   | true =>
    have hsz : w.heap.size <= wr.heap.size := by have := (HF2.out.trans HF.out (by simp)).size; omega
    go_wp2_with fail; refine HQ.out _ _ ⟨_, wr.heap.size, rfl, ?_, hsz, ((HF2.out.trans HF.out (by simp)).trans HF4.out (by simp))⟩
    have hsome := HS.out x (by
     have h1 := HI.out; have h2 := HX.out
     cases hg : getP mj k with
     | none => rw [hg] at h1; cases h1
     | some y => rw [hg] at h2; rw [h2]; rfl)
    rw [hsome]; have h := BytesAt.of_blk HB4.out 512 (by rw [HXL.out]; exact Nat.le_refl _); rw [HXL.out] at h; exact h
   | false =>
    have hnone := HN.out (by
     have h1 := HI.out
     cases hg : getP mj k with
     | none => rfl
     | some y => rw [hg] at h1; cases h1)
    have HX2 : Hid (RdRel w2 s k (.int .i64 ((j : Int) + 1)) w4) := lh ⟨j + 1, by omega, by go_num, hnone.1, hnone.2, HF.out.trans HF4.out (by simp)⟩; clear hnone; go_wp2_with fail
    go_roundw
    case rel => exact HX2.out
    case measure => simp [intOf]; omega
  ·obtain rfl : j = 2 := by omega
   have hpg : s.page k = homeP s.D.S s.l.n k := by
    unfold PS.page; rw [H0.out (by omega), H1.out (by omega)]
    rfl
   have HH := lh (home_P HAR.out HC.out k hk); have HPG := lh hpg; clear hAr hpg; go_wp2_with fail; refine HH.out.mono ?_; rintro e w5 ⟨v, gb, rfl, hv, hgb, hf5⟩; have HX : Hid (PgAns w (s.page k) (.returned (.tuple #[v, .int .i64 0])) w5) := lh ⟨v, gb, rfl, by rw [HPG.out]; exact hv, by have := (HF2.out.trans HF.out (by simp)).size; omega, (HF2.out.trans HF.out (by simp)).trans hf5 (by simp)⟩; clear hv hgb hf5; go_wp2_with fail; exact HQ.out _ _ HX.out
section
variable {P : Program} {ops : Array Oper} {Q : Exit -> Act -> World -> Prop} {md : Region.Mode} {S : World -> Prop} {I : List Nat} {n l : Nat}
theorem rowsIn_round {row : String} {args : Array Value} {w : World} {R : Value -> World -> Prop} (h : Rows P row args w R) : Go.RowsIn (Fence.wide.inRound l) n P row args w R :=
 fun c cs _ => let ⟨v, w', r, s⟩ := h c cs; ⟨v, w', r, stepsIn_wide.2 s⟩
theorem oper_round {o : Oper} {a : Act} {w : World} {next : Act -> World -> Prop} (hd : ∀ c, o.op ≠ .defer c) (h : o.wp P a w next Q) : o.wpIn (Fence.wide.inRound l) n P a w next Q := by
 refine ⟨fun _ _ => trivial, ?_⟩; have e : o.semAt (Fence.wide.inRound l).round a.eval = execOp a.eval o := Oper.semAt_some l a.eval o hd; rw [e]; unfold Oper.wp at h; generalize (execOp a.eval o).run P w = r at *
 cases r with
 | ok x w' =>
  cases x <;> simp only [Oper.upon, Oper.uponIn] at h ⊢ <;>
   first
    | exact h
    | exact ⟨fun hd => (by cases hd), callsIn_wide.2 h⟩
    | exact ⟨fun hd => (by cases hd), rowsIn_round h⟩
 | halt x w' => cases x <;> simp only [Oper.upon, Oper.uponIn] at h ⊢ <;> exact h
def noDefer (ops : Array Oper) : Bool := ops.all fun o => match o.op with | .defer _ => false | _ => true
theorem noDefer_spec (h : noDefer ops = true) {i : Nat} {o : Oper} (ho : ops[i]? = some o) : ∀ c, o.op ≠ .defer c := by
 intro c hc; unfold noDefer at h; rw [Array.all_eq_true_iff_forall_mem] at h; have := h o (Array.mem_of_getElem? ho); rw [hc] at this
 cases this
theorem wpAnyIn_round (hd : noDefer ops = true) (hq : ∀ a w, ¬Q .outgrown a w) : ∀ (fuel : Nat) (listed : Array Bool) (a : Act) (w : World), wpAny P md ops Q fuel listed a w -> wpAnyIn (Fence.wide.inRound l) n P md ops Q fuel listed a w
 | 0, _, _, _, h => h
 | fuel + 1, listed, a, w, h => by
  refine ⟨h.1, fun i hi => ?_⟩; have h1 := h.2 i hi; unfold wpOp at h1; unfold wpOpIn
  cases ho : ops[i]? with
  | none =>
   rw [ho] at h1; exact wpAnyIn_round hd hq fuel _ _ _ h1
  | some o =>
   rw [ho] at h1
   simp only at h1 ⊢
   split
   ·rename_i hw
    rw [if_pos hw] at h1; rcases h1 with h1 | ⟨_, a', w', h1⟩
    ·exact oper_round (noDefer_spec hd ho) (Oper.wp_mono (fun a w h => wpAnyIn_round hd hq fuel _ a w h) h1)
    ·exact absurd h1 (hq _ _)
   ·rename_i hw
    rw [if_neg hw] at h1; exact ⟨fun _ _ => trivial, wpAnyIn_round hd hq fuel _ _ _ h1⟩
theorem wpAnyK_stepg {j : Nat} (d : Option Tmp) {o : Oper} {fuel : Nat} {listed : Array Bool} {a : Act} {w : World} (ho : ops[j]? = some o) (hd : o.dst = d) (hr : Region.ready md ops listed = [j]) (hg : Region.wanted o (yielded ops a.tmps) = true)
  (h : ∀ K : Act -> World -> Prop, (∀ v w', (crosses md ops I j = true -> S w') -> wpAnyK P md ops Q S I fuel (listed.setIfInBounds j true) (a.put d v) w' -> K (a.put o.dst v) w') -> Oper.wp P o a w K Q) :
  wpAnyK P md ops Q S I (fuel + 1) listed a w := by
 subst hd; refine ⟨fun h0 => absurd (hr ▸ h0) (by simp), fun i hi => ?_⟩; rw [hr] at hi; obtain rfl : i = j := by simpa using hi
 refine wpOp_step ho fun K hK => ?_; rw [if_pos hg]; exact h K (fun v w' h1 h2 => hK _ w' ⟨h1, h2⟩)
theorem wpIn_region_KR (S : World -> Prop) (I : List Nat) {id : Nat} {a : Act} {w : World} (hm : P.follows .mixedOrders = true) (hd : noDefer ops = true) (hq : ∀ a w, ¬Q .outgrown a w)
  (h : wpAnyK P .any ops Q S I ops.size (Array.replicate ops.size false) a w.drew) : (Code.region id ops true).wpIn (Fence.wide.inRound l) n P Q a w :=
 wpIn_region_any hm (wpAnyIn_round hd hq _ _ _ _ (wpAny_of_K _ _ _ _ h))
theorem wpIn_region_KW (S : World -> Prop) (I : List Nat) {id : Nat} {a : Act} {w : World} (hm : P.follows .mixedOrders = true)
  (h : wpAnyK P .any ops Q S I ops.size (Array.replicate ops.size false) a w.drew) : (Code.region id ops true).wpIn Fence.wide n P Q a w :=
 wpIn_wide.2 (wp_region_K S I hm h)
end
end
section
open Go.RowKit Go.Shelf
attribute [local go_sem] Oper.semAt_some
theorem run_slice3 (A : Option Addr) (n c lo hi : Nat) (h1 : lo <= hi) (h2 : hi <= c) (w : World) :
  (Instr.sliceAt 23 (.slice A n c) (some (.int .i64 (lo : Int))) (some (.int .i64 (hi : Int))) (some (.int .i64 (hi : Int)))).run Tryz.prog w = .ok (.slice (if hi = lo then A else A.map (·.add lo)) (hi - lo) (hi - lo)) w := by
 have ht := Tryz.underlying23; have hel : Tryz.prog.elem 23 = 5 := by simp [Program.elem, ht]
 obtain ⟨i, hi1, hi2⟩ := Option.map_eq_some_iff.1 size_u8; have h5 : ∀ w, (sizeOf 5).run Tryz.prog w = .ok 1 w := fun w => by simp [sizeOf, typeInfo, go_sem, hi1, hi2]
 rw [run_sliceAt_slice (h := by rw [hel]; exact ht), run_slice_lhm (ht := by rw [hel]; exact ht) (h0 := by omega) (h1 := by omega) (h2 := by omega) (h3 := by omega), hel, h5]
 simp [Result.andThen, sliced]
def KeepsTwo (Bs Bn : Nat) (W W' : World) : Prop := W'.cell? ⟨Bs, 0, none⟩ = W.cell? ⟨Bs, 0, none⟩ /\ W'.cell? ⟨Bn, 0, none⟩ = W.cell? ⟨Bn, 0, none⟩
theorem KeepsTwo.trans {Bs Bn : Nat} {A B C : World} (h : KeepsTwo Bs Bn A B) (k : KeepsTwo Bs Bn B C) : KeepsTwo Bs Bn A C := ⟨k.1.trans h.1, k.2.trans h.2⟩
def chV (g off k : Nat) : Value := .slice (some ⟨g, off + 514 * k, none⟩) 514 514
def firstN (m k : Nat) : List (Fin m) := (List.finRange m).take k
theorem firstN_succ {m k : Nat} (h : k < m) : firstN m (k + 1) = firstN m k ++ [⟨k, h⟩] := by
 unfold firstN; rw [List.take_succ_eq_append_getElem (by simpa using h)]
 simp
theorem firstN_len {m k : Nat} (h : k <= m) : (firstN m k).length = k := by simp [firstN, h]
theorem chunk1_in (n l Bs Bn g off m cap : Nat) (A : Option Addr) (hA : 0 < m -> A = some ⟨g, off, none⟩) (hcap : 514 * m <= cap) (hm : m <= 100000) (hn : 1 <= n) (J Jx : List (Fin m) -> World -> Prop)
  (hY : ∀ pre (x : Fin m) W, J pre W -> pre.length < m -> YieldAt Fence.wide (n - 1) Tryz.prog l #[chV g off x.1] W fun e W' =>
   (e = .returned (.bool true) /\ J (pre ++ [x]) W' /\ KeepsTwo Bs Bn W W') ∨ (e = .returned (.bool false) /\ Jx (pre ++ [x]) W'))
  (hJd : ∀ pre W, J pre W -> J pre W.drew)
  (W : World) (cBs : W.cell? ⟨Bs, 0, none⟩ = some (.slice A (514 * m) cap)) (cBn : W.cell? ⟨Bn, 0, none⟩ = some (.int .i64 514)) (h0 : J [] W) :
  CallsIn Fence.wide n Tryz.prog 118 #[.func (.yield l) #[] #[], .pointer (some ⟨Bs, 0, none⟩), .pointer (some ⟨Bn, 0, none⟩)] W fun e W' => (∃ v, e = .returned v) /\
   ((∃ ys, ys = List.finRange m /\ J ys W') ∨ (∃ pre, True /\ Jx pre W')) := by
 refine callsIn_of_wp Tryz.func118 rfl trivial ?_ rfl; simp only [Tryz.ntmps118, List.size_toArray, List.length_cons, List.length_nil, Nat.reduceAdd, Nat.reduceSub, Array.replicate_succ, Array.replicate_zero, List.push_toArray, List.append_toArray, List.nil_append, List.cons_append]
 gi_wp2
 gi_loopw [4] (fun i wr => ∃ k : Nat, k <= m /\ i = .int .i64 ((514 * k : Nat) : Int) /\ J (firstN m k) wr /\ wr.cell? ⟨Bs, 0, none⟩ = some (.slice A (514 * m) cap) /\ wr.cell? ⟨Bn, 0, none⟩ = some (.int .i64 514))
  (fun i _ => 514 * m - (intOf i).toNat)
 case atStart => exact ⟨0, Nat.zero_le _, rfl, h0, cBs, cBn⟩
 case round =>
  obtain ⟨k, hk, rfl, hJs, cs, cn⟩ := hrel
  by_cases hlt : k < m
  ·obtain ⟨fn, tmps, assign, body, hy, hR⟩ := hY _ ⟨k, hlt⟩ wr.drew (hJd _ _ hJs) (by rw [firstN_len hk]; exact hlt); unfold chV at hy; obtain rfl := hA (by omega); have hsl0 := slice_run_from Tryz.underlying23 size_u8 (some ⟨g, off, none⟩) (514 * m) cap (514 * k) .i64 (by omega); rw [if_neg (by omega)] at hsl0; simp only [Option.map_some, Addr.add_mid] at hsl0
   have hmin : ∀ (ts : Array TypeId) (t : TypeId) (W : World), (Builtin.min_ ts t #[.int .i64 514, .int .i64 ((514 * m - 514 * k : Nat) : Int)]).run Tryz.prog W = .ok (.int .i64 514) W := fun ts t W => by
    rw [run_min_int2, if_neg (by omega)]
   have x1 : IntKind.i64.wrap (((514 * k : Nat) : Int) + 514) = ((514 * (k + 1) : Nat) : Int) := by rw [IntKind.wrap_i64]; omega
   have hsl3 := run_slice3 (some ⟨g, off, none⟩) (514 * m) cap (514 * k) (514 * (k + 1)) (by omega) (by omega); rw [if_neg (by omega), show 514 * (k + 1) - 514 * k = 514 by omega] at hsl3; simp only [Option.map_some, Addr.add_mid] at hsl3
   gi_wp2
   refine wpIn_region_KW (fun W => W.cell? ⟨Bs, 0, none⟩ = some (.slice (some ⟨g, off, none⟩) (514 * m) cap) /\ W.cell? ⟨Bn, 0, none⟩ = some (.int .i64 514)) [0, 1, 2, 3, 4, 5] (by kernel_rfl) ?_; refine tks [0, 1, 2] ?_
   iterate 3 (refine tk rfl rfl ⟨cs, cn⟩ rfl (fun _ hW => by (obtain ⟨c1', c2'⟩ := hW; go_simp) <;> with_reducible rfl) ?_; simp only [nrm])
   refine tke ?_; refine tv 3 (.slice (some ⟨g, off + 514 * k, none⟩) (514 * m - 514 * k) (cap - 514 * k)) rfl rfl ⟨cs, cn⟩ (.inl ⟨rfl, fun W _ => exec_slice rfl rfl rfl rfl (hsl0 W)⟩) ?_; simp only [nrm]; refine tks [4, 5] ?_
   iterate 2 (refine tk rfl rfl ⟨cs, cn⟩ rfl (fun _ hW => by (obtain ⟨c1', c2'⟩ := hW; go_simp) <;> with_reducible rfl) ?_; simp only [nrm])
   refine tke ?_; refine sp 6 rfl rfl rfl fun K hK => ?_; refine wp_run_same (v := ?aq1_6) ?yq1_6 (hK _ _ (fun h => absurd h (by decide +kernel)) ?_)
   case yq1_6 => go_simp <;> with_reducible rfl
   simp only [nrm]; refine wd ?_ _; have cs' : wr.drew.cell? ⟨Bs, 0, none⟩ = some (.slice (some ⟨g, off, none⟩) (514 * m) cap) := cs; have cn' : wr.drew.cell? ⟨Bn, 0, none⟩ = some (.int .i64 514) := cn
   gi_wp2
   refine hR.mono ?_; rintro e W3 (⟨rfl, hJ3, hk3⟩ | ⟨rfl, hJx3⟩)
   ·have cs3 := hk3.1.trans cs'; have cn3 := hk3.2.trans cn'
    gi_wp2
    go_roundw
    case rel => exact ⟨k + 1, by omega, by go_num, by rw [firstN_succ hlt]; exact hJ3, cs3, cn3⟩
    case measure => simp [intOf]; omega
   ·gi_wp2
    refine bodyPost_ret (results_none rfl _ _ _) rfl ?_; exact ⟨⟨_, rfl⟩, .inr ⟨_, trivial, hJx3⟩⟩
  ·obtain rfl : k = m := by omega
   gi_wp2
   go_end0
   exact ⟨⟨_, rfl⟩, .inl ⟨_, by unfold firstN; rw [List.take_of_length_le (by simp)], hJs⟩⟩
theorem drew_grown (W : World) : W.grownBy W.drew none := ⟨rfl, rfl, rfl, Nat.le_refl _, fun _ _ _ => rfl⟩
theorem cell_below {w W : World} {b : Nat} {v : Value} (h : w.cell? ⟨b, 0, none⟩ = some v) (hW : Below w.heap.size w W) : W.cell? ⟨b, 0, none⟩ = some v :=
 (hW.cell (p := ⟨b, 0, none⟩) (World.block_lt_of_cell? w _ h)).trans h
theorem chunk_stops (n Bs Bn g off m cap : Nat) (A : Option Addr) (hA : 0 < m -> A = some ⟨g, off, none⟩) (hcap : 514 * m <= cap) (hm : m <= 100000) (hn : 1 <= n) (w : World)
  (cBs : w.cell? ⟨Bs, 0, none⟩ = some (.slice A (514 * m) cap)) (cBn : w.cell? ⟨Bn, 0, none⟩ = some (.int .i64 514)) :
  SeqStopsK Fence.wide n Tryz.prog 118 #[.pointer (some ⟨Bs, 0, none⟩), .pointer (some ⟨Bn, 0, none⟩)] (fun x : Fin m => #[chV g off x.1]) (KeepsTwo Bs Bn) (fun ys => ys = List.finRange m) (fun _ => True) m w := fun l J Jx W hW hJ _ hY h0 =>
 chunk1_in n l Bs Bn g off m cap A hA hcap hm hn J Jx hY (fun pre W h => hJ pre W W.drew none h (drew_grown W) (by simp)) W (cell_below cBs hW) (cell_below cBn hW) h0
theorem chunk_any (A : Option Addr) (n c : Nat) (w : World) : Calls Tryz.prog 94 #[.slice A n c, .int .i64 514] w fun e w' =>
  e = .returned (.func (.func 118) #[] #[.pointer (some ⟨w.heap.size, 0, none⟩), .pointer (some ⟨w.heap.size + 1, 0, none⟩)]) /\ w' = (w.alloc (.cells #[.slice A n c] 23)).alloc (.cells #[.int .i64 514] 3) := by
 refine calls_post fun R HQ => ?_
 go_enter Tryz.func94, Tryz.ntmps94
 go_wp2_with fail; exact HQ.out _ _ ⟨rfl, rfl⟩
end
end Go.Proofs.YtpjbdpepofnleaaGreat
