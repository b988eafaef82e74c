/-
  Joined by join.py: Qt Qu Qv Qw
-/
import Derived.Test.YtpjbdpepofnleaaGreatJpl23
set_option maxRecDepth 100000
set_option maxHeartbeats 32000000
namespace Go.Proofs.YtpjbdpepofnleaaGreat
section
open Go.RowKit Go.ChangeMaps Go.MapKept Go.Maps Go.Sort Go.Shelf
theorem info_en : (Tryz.prog.info? 39).map (fun i => (i.zero, i.size, i.bytes)) = some (some (.agg #[.slice none 0 0, .slice none 0 0]), 2, 48) := by kernel_rfl
theorem enter_compare (vs : Array Value) (w : World) : (callFunc 78 vs).run Tryz.prog w = .ok (.enter 78 vs) w := by kernel_rfl
theorem enter_clone (vs : Array Value) (w : World) : (callFunc 32 vs).run Tryz.prog w = .ok (.enter 32 vs) w := by kernel_rfl
def WEnd (H : Nat) (wS : World) (g bc bn bs bw : Nat) (D : Nat -> Prop) (c : CD) (fv tv : Value) (low : Ky) (up : Option Ky) (most : Nat) (out : En) (ov : Value) (w : World) (E : En) (e : Ending) (w' : World) : Prop :=
 ∃ ov', e = .returned (.bool (goE low up most out E).2) /\ Wst H wS g bc bn bs bw D c fv tv low up most (goE low up most out E).1 ov' w' /\ WFr bc bw ov w ov' w'
theorem drop_one {α : Type} {l : List α} {i : Nat} {x : α} (h : l[i]? = some x) : l.drop i = x :: l.drop (i + 1) := by
 obtain ⟨h1, h2⟩ := List.getElem?_eq_some_iff.1 h; rw [List.drop_eq_getElem_cons h1, h2]
section
variable {H g bc bn bs bw : Nat} {wS w : World} {D : Nat -> Prop} {c : CD} {fv tv ov : Value} {low : Ky} {up : Option Ky} {most : Nat} {out : En}
/-- A leaf's entries. -/
theorem walk_leaf {n : Nd} {nv : Value} (h : Wst H wS g bc bn bs bw D c fv tv low up most out ov w) (hn : NdV (Dv D ov) w 0 nv n) (hok : n.ok) (hfew : n.l.length <= 509) (hlen : out.length + n.l.length <= 1000000) :
  Calls Tryz.prog 75 #[.pointer (some ⟨bw, 0, none⟩), nv] w (WEnd H wS g bc bn bs bw D c fv tv low up most out ov w (entOf n.l)) := by
 obtain ⟨A, ca, cs, rfl, hca, hown, hits, hcell⟩ := hn.parts; obtain ⟨wb, hwb⟩ := nm (w.alloc (.cells #[.int .i64 (kindOf n), .int .i64 (n.first : Int), .slice A n.l.length ca] 88)); have hfb : Fr [] w wb := by rw [hwb]; exact (Fr.refl [] w).alloc _
 have hb3 : Blk wb w.heap.size 88 [.int .i64 (kindOf n), .int .i64 (n.first : Int), .slice A n.l.length ca] := by rw [hwb]; exact Blk.new w _ [.int .i64 (kindOf n), .int .i64 (n.first : Int), .slice A n.l.length ca]
 have d2 := hb3.at_ (i := 2) rfl; have HN := lh hn; have HOWN := lh hown; have HITS := lh hits; have HCELL := lh hcell; have HOK := lh hok; have HFEW := lh hfew; have WB := lh (h.quiet hfb); have HFB := lh hfb; have HW0 := lh h; have HLEN := lh hlen; clear h hn hown hits hcell hok hfb hb3 hlen; refine calls_post fun R HQ => ?_
 go_enter Tryz.func75, Tryz.ntmps75
 go_upto_region 1 with fail
 rw [<- hwb]; clear hwb; go_wp2_with fail
 go_loopw [10] (fun v wr => ∃ (i : Nat) (outi : En) (ovi : Value), i <= n.l.length /\ v = .int .i64 (i : Int) /\ Wst H wS g bc bn bs bw D c fv tv low up most outi ovi wr /\ WFr bc bw ov wb ovi wr /\ goE low up most out (entOf n.l) = goE low up most outi (entOf (n.l.drop i)) /\ outi.length + (n.l.length - i) <= 1000000) (fun v _ => n.l.length - (intOf v).toNat)
 case atStart => exact ⟨0, out, ov, Nat.zero_le _, rfl, WB.out, WFr.refl, rfl, HLEN.out⟩
 case round =>
  obtain ⟨i0, outi, ovi, hi0, rfl, hW, hG, hgo, hle⟩ := hrel; obtain ⟨Ao, co, rfl⟩ := hW.shape; have W1 := lh hW; have G1 := lh hG; have HGO := lh hgo; have HLE := lh hle; clear hW hG hgo hle d2
  by_cases hi : i0 < n.l.length
  ·obtain ⟨x, hx⟩ := gx hi; have hxm := List.mem_of_getElem? hx; have HXO := lh (HOK.out.item x hxm); have HCONS : Hid (entOf (n.l.drop i0) = (x.key, x.v) :: entOf (n.l.drop (i0 + 1))) := lh (by rw [drop_one hx]; rfl); obtain ⟨kv, vv, av, e0, e1, e2, hic⟩ := HITS.out.at_ hx; obtain ⟨gr, hA, hcg⟩ := HCELL.out (by omega)
   have hgr : Dv D ov gr := by
    obtain ⟨sv2, cs2, z1, z2, z3, z4⟩ := HN.out; refine z4 gr ?_; injection z1 with z1
    simp at z1
    rw [<- z1, hA]; rfl
   have hgrS : gr ∉ bc :: bw :: ov.ownBlock.toList := by
    have := HW0.out.nb gr hgr.1; simp only [List.mem_cons, Option.mem_toList]; rintro (h | h | h)
    ·exact this.2.1 h
    ·exact this.1 h
    ·exact hgr.2 h
   subst hA; have i1 := fr_keepS G1.out.fr hgrS (fr_keep HFB.out (hcg _ _ e0)); have i2 := fr_keepS G1.out.fr hgrS (fr_keep HFB.out (hcg _ _ e1)); have i3 := fr_keepS G1.out.fr hgrS (fr_keep HFB.out (hcg _ _ e2))
   have hic' : ItC (Dv D ov) wr x kv vv av := (hic.fr HFB.out (by simp)).fr G1.out.fr fun q hq hm => by
    have h1 := HW0.out.nb q hq.1; simp only [List.mem_cons, Option.mem_toList] at hm; rcases hm with h | h | h
    ·exact absurd h h1.2.1
    ·exact absurd h h1.1
    ·exact absurd h hq.2
   have HON := lh hic'.one; obtain ⟨⟨gk, hgk, _⟩, ⟨gv, hgv, _⟩, hav⟩ := hic'; have HBKr := lh hgk; have HBVr := lh hgv; obtain ⟨Ak, ck, _, rfl, _, _⟩ := hgk; obtain ⟨Aw, cw, _, rfl, _, _⟩ := hgv; subst hav; clear hx hxm e0 e1 e2 hic hcg hgr hgrS; have hw1 := wi i0 (by omega)
   go_wp2_with (first
    | (with_reducible refine wpList_alloc_z rfl 77 rfl (.agg #[.slice none 0 0, .slice none 0 0, .int .i64 0]) zit.toArray zero_it rfl ?_)
    | (refine wpList_store_z (W := wr) rfl 77 (.tmp 6) (.tmp 13) rfl [.slice Ak x.key.length ck, .slice Aw x.v.length cw, .int .i64 (x.at_ : Int)] rfl rfl rfl size_it rfl HON.out ?_))
   intro w4 hb4 hf4 hz4; obtain ⟨p6, hp6⟩ := nm (wr.heap.size); rw [<- hp6] at hb4 ⊢; have W2 := lh (W1.out.quiet hf4); have G2 := lh (G1.out.quiet hf4); have B2 := lh hb4; have HBK4 := lh (HBKr.out.fr hf4 (by simp)); have HBV4 := lh (HBVr.out.fr hf4 (by simp)); have HP6O : Hid ((Value.slice Ao outi.length co).ownBlock ≠ some p6) := lh (fun e => by have := (W1.out.lt _ e).2; omega); clear hb4 hf4 hz4 i1 i2 i3 hp6; go_upto_region 4 with fail
   have W3 := lh (W2.out.quiet ((Fr.refl [] w4).drew)); have G3 := lh (G2.out.quiet ((Fr.refl [] w4).drew)); have B3 := lh (B2.out.fr ((Fr.refl [] w4).drew) (by simp)); have HBK5 := lh (HBK4.out.fr ((Fr.refl [] w4).drew) (by simp)); have HBV5 := lh (HBV4.out.fr ((Fr.refl [] w4).drew) (by simp)); clear W1 W2 G1 G2 B2 HBKr HBVr HBK4 HBV4; obtain ⟨ql, hql, _⟩ := W3.out.low; have HLOW := lh hql; have k0 := B3.out.at_ (i := 0) rfl; have f1 := W3.out.bwk.at_ (i := 1) rfl; clear hql; refine wp_region_K (fun W => W.cell? ⟨p6, 0, none⟩ = some (.slice Ak x.key.length ck) /\ W.cell? ⟨bw, 1, none⟩ = some fv) [0, 1, 2, 3, 4, 5, 6, 8] (by kernel_rfl) ?_; refine tks [0, 1, 2, 3, 4, 5, 6] ?_
   iterate 7 (refine tk rfl rfl ⟨k0, f1⟩ rfl (fun _ hW => by (obtain ⟨q0, q1⟩ := hW; go_simp) <;> with_reducible rfl) ?_; simp only [nrm])
   refine tke ?_; refine sp 7 rfl rfl rfl fun K hK => ?_; refine wp_call_f (l := [.tmp 17, .tmp 21]) rfl [.slice Ak x.key.length ck, fv] rfl (enter_compare _) ((bytes_compare HBK5.out HLOW.out).mono ?_); rintro e w5 ⟨rfl, rfl⟩; refine ⟨_, rfl, hK _ _ (fun _ => ⟨k0, f1⟩) ?_⟩; simp only [nrm]; clear hK; refine tks [8] ?_; refine tk rfl rfl ⟨k0, f1⟩ rfl (fun _ hW => by (obtain ⟨q0, q1⟩ := hW; go_simp) <;> with_reducible rfl) ?_; simp only [nrm]; refine tke ?_; refine sp 9 rfl rfl rfl fun K hK => ?_; refine wp_run_same (v := ?aq1_9) ?yq1_9 (hK _ _ (fun _ => ⟨k0, f1⟩) ?_)
   case yq1_9 => go_simp <;> with_reducible rfl
   simp only [nrm]; refine wd ?_ _; clear k0 f1 HLOW; generalize w4.drew = w5 at *
   by_cases hkl : klt x.key low
   ·have hlt : Lib.compareBytes x.key low < 0 := hkl
    have HX : Hid (∃ (i : Nat) (outi : En) (ovi : Value), i <= n.l.length /\ Value.int .i64 ((i0 : Int) + 1) = .int .i64 (i : Int) /\ Wst H wS g bc bn bs bw D c fv tv low up most outi ovi w5 /\ WFr bc bw ov wb ovi w5 /\ goE low up most out (entOf n.l) = goE low up most outi (entOf (n.l.drop i)) /\ outi.length + (n.l.length - i) <= 1000000) := lh ⟨i0 + 1, outi, _, hi, rfl, W3.out, G3.out, by
     rw [HGO.out, HCONS.out, goE_cons, if_pos hkl], by have := HLE.out; omega⟩
    clear hkl; go_wp2_with fail
    go_roundw
    case rel => exact HX.out
    case measure => simp [intOf]; omega
   ·have hlt : ¬ Lib.compareBytes x.key low < 0 := hkl; have HNL := lh hkl; clear hkl; have c4 := (W3.out.bwk.fr ((Fr.refl [] w5).drew) (by simp)).at_ (i := 4) rfl; have c3 := (W3.out.bwk.fr ((Fr.refl [] w5).drew) (by simp)).at_ (i := 3) rfl; have c2 := (W3.out.bwk.fr ((Fr.refl [] w5).drew) (by simp)).at_ (i := 2) rfl; have k0 := (B3.out.fr ((Fr.refl [] w5).drew) (by simp)).at_ (i := 0) rfl; have W6 := lh (W3.out.quiet ((Fr.refl [] w5).drew)); have G6 := lh (G3.out.quiet ((Fr.refl [] w5).drew)); have B6 := lh (B3.out.fr ((Fr.refl [] w5).drew) (by simp)); have HBK := lh (HBK5.out.fr ((Fr.refl [] w5).drew) (by simp)); have HBV := lh (HBV5.out.fr ((Fr.refl [] w5).drew) (by simp)); go_upto_region 5 with fail
    clear W3 G3 B3 HBK5 HBV5
    by_cases hmost : outi.length = most
    ·have hmI : ((outi.length : Nat) : Int) = (most : Int) := by omega
     have HSTOP : Hid (outi.length = most ∨ pastB up (x.key, x.v).1 = true) := lh (.inl hmost); have HMOST := lh hmost; clear hmost; refine wp_region_K (fun W => W.cell? ⟨bw, 4, none⟩ = some (.slice Ao outi.length co) /\ W.cell? ⟨bw, 3, none⟩ = some (.int .i64 (most : Int)) /\ W.cell? ⟨bw, 2, none⟩ = some tv /\ W.cell? ⟨p6, 0, none⟩ = some (.slice Ak x.key.length ck)) [0, 1, 2, 3, 4, 5, 6, 7, 8, 9, 10, 11, 12, 13, 14, 15, 16, 17, 18, 19, 20, 21, 22, 23, 24, 25, 26, 27] (by kernel_rfl) ?_; refine tks [0, 1, 2, 3, 4, 5, 6, 7, 8] ?_
     iterate 9 (refine tk rfl rfl ⟨c4, c3, c2, k0⟩ rfl (fun _ hW => by (obtain ⟨q0, q1, q2, q3⟩ := hW; go_simp) <;> with_reducible rfl) ?_; simp only [nrm])
     refine tke ?_; refine _root_.Go.Proofs.YtpjbdpepofnleaaGreat.tv 9 (.bool true) rfl rfl ⟨c4, c3, c2, k0⟩ (.inl ⟨rfl, fun W' _ => by first | (simp [execOp, Act.eval, go_sem]; done) | (simp [execOp, Act.eval, Result.andThen, go_sem]; omega)⟩) ?_; simp only [nrm]; refine tks [10] ?_; refine tk rfl rfl ⟨c4, c3, c2, k0⟩ rfl (fun _ hW => by (obtain ⟨q0, q1, q2, q3⟩ := hW; go_simp) <;> with_reducible rfl) ?_; simp only [nrm]; refine tke ?_; refine tks [11, 12, 13, 14, 15, 16, 17, 18, 19, 20, 21, 22, 23, 24, 25, 26] ?_
     iterate 16 (refine tu rfl rfl ⟨c4, c3, c2, k0⟩ rfl ?_; simp only [nrm])
     refine tke ?_; refine tks [27] ?_; refine tk rfl rfl ⟨c4, c3, c2, k0⟩ rfl (fun _ hW => by (obtain ⟨q0, q1, q2, q3⟩ := hW; go_simp) <;> with_reducible rfl) ?_; simp only [nrm]; refine tke ?_; refine sp 28 rfl rfl rfl fun K hK => ?_; refine wp_run_same (v := ?aq2_28) ?yq2_28 (hK _ _ (fun _ => ⟨c4, c3, c2, k0⟩) ?_)
     case yq2_28 => go_simp <;> with_reducible rfl
     simp only [nrm]; refine wd ?_ _; clear c4 c3 c2 k0; have WG : Hid (WFr bc bw ov w (.slice Ao outi.length co) w5.drew) := lh (WFr.pre HFB.out G6.out); generalize w5.drew = w6 at *; have HX := lh (HQ.out (.returned (.bool false)) _ ⟨_, by rw [HGO.out, HCONS.out, goE_cons, if_neg HNL.out, if_pos HSTOP.out], by rw [HGO.out, HCONS.out, goE_cons, if_neg HNL.out, if_pos HSTOP.out]; exact W6.out, WG.out⟩); go_wp2_with fail; exact HX.out
    ·have hmI : ¬ ((outi.length : Nat) : Int) = (most : Int) := by omega
     have HMOST := lh hmost; clear hmost; have hup := W6.out.up
     cases up with
     | none =>
      have htv : tv = .slice none 0 0 := hup; subst htv; clear hup
      have HGOON : Hid (¬ (outi.length = most ∨ pastB none (x.key, x.v).1 = true)) := lh (by
       rintro (h | h)
       ·exact HMOST.out h
       ·cases h)
      refine wp_region_K (fun W => W.cell? ⟨bw, 4, none⟩ = some (.slice Ao outi.length co) /\ W.cell? ⟨bw, 3, none⟩ = some (.int .i64 (most : Int)) /\ W.cell? ⟨bw, 2, none⟩ = some (.slice none 0 0) /\ W.cell? ⟨p6, 0, none⟩ = some (.slice Ak x.key.length ck)) [0, 1, 2, 3, 4, 5, 6, 7, 8, 9, 10, 11, 12, 13, 14, 15, 16, 17, 18, 19, 20, 21, 22, 23, 24, 25, 26, 27] (by kernel_rfl) ?_; refine tks [0, 1, 2, 3, 4, 5, 6, 7, 8] ?_
      iterate 9 (refine tk rfl rfl ⟨c4, c3, c2, k0⟩ rfl (fun _ hW => by (obtain ⟨q0, q1, q2, q3⟩ := hW; go_simp) <;> with_reducible rfl) ?_; simp only [nrm])
      refine tke ?_; refine _root_.Go.Proofs.YtpjbdpepofnleaaGreat.tv 9 (.bool false) rfl rfl ⟨c4, c3, c2, k0⟩ (.inl ⟨rfl, fun W' _ => by first | (simp [execOp, Act.eval, go_sem, hmI]; done) | (simp [execOp, Act.eval, Result.andThen, go_sem]; omega)⟩) ?_; simp only [nrm]; refine tks [10, 11, 12, 13, 14] ?_
      iterate 5 (refine tk rfl rfl ⟨c4, c3, c2, k0⟩ rfl (fun _ hW => by (obtain ⟨q0, q1, q2, q3⟩ := hW; go_simp) <;> with_reducible rfl) ?_; simp only [nrm])
      refine tke ?_; refine _root_.Go.Proofs.YtpjbdpepofnleaaGreat.tv 15 (.bool false) rfl rfl ⟨c4, c3, c2, k0⟩ (.inl ⟨rfl, fun W' _ => by simp [execOp, Act.eval, Result.andThen, go_sem, Tryz.underlying23]⟩) ?_; simp only [nrm]; refine tks [16] ?_; refine tk rfl rfl ⟨c4, c3, c2, k0⟩ rfl (fun _ hW => by (obtain ⟨q0, q1, q2, q3⟩ := hW; go_simp) <;> with_reducible rfl) ?_; simp only [nrm]; refine tke ?_; refine tks [17, 18, 19, 20, 21, 22, 23, 24, 25] ?_
      iterate 9 (refine tu rfl rfl ⟨c4, c3, c2, k0⟩ rfl ?_; simp only [nrm])
      refine tke ?_; refine tks [26, 27] ?_
      iterate 2 (refine tk rfl rfl ⟨c4, c3, c2, k0⟩ rfl (fun _ hW => by (obtain ⟨q0, q1, q2, q3⟩ := hW; go_simp) <;> with_reducible rfl) ?_; simp only [nrm])
      refine tke ?_; refine sp 28 rfl rfl rfl fun K hK => ?_; refine wp_run_same (v := ?aq3_28) ?yq3_28 (hK _ _ (fun _ => ⟨c4, c3, c2, k0⟩) ?_)
      case yq3_28 => go_simp <;> with_reducible rfl
      simp only [nrm]; refine wd ?_ _; clear c4 c3 c2 k0; generalize w5.drew = w6 at *; have hf6z := W6.out.hz; have c4 := W6.out.bwk.at_ (i := 4) rfl; have k0 := (B6.out).at_ (i := 0) rfl; have k1 := (B6.out).at_ (i := 1) rfl; have k2 := True.intro; go_upto_region 7 with fail
      have W7 := lh (W6.out.quiet ((Fr.refl [] w6).drew)); have G7 := lh (G6.out.quiet ((Fr.refl [] w6).drew)); have B7 := lh (B6.out.fr ((Fr.refl [] w6).drew) (by simp)); refine wp_region_K (fun W => W.cell? ⟨bw, 4, none⟩ = some (.slice Ao outi.length co) /\ W.cell? ⟨p6, 0, none⟩ = some (.slice Ak x.key.length ck) /\ W.cell? ⟨p6, 1, none⟩ = some (.slice Aw x.v.length cw)) [0, 1, 2, 3, 4, 5, 6, 7, 9, 10, 11, 13, 17] (by kernel_rfl) ?_; refine tks [0, 1, 2, 3, 4, 5, 6, 7, 9, 10, 11] ?_
      iterate 11 (refine tk rfl rfl ⟨c4, k0, k1⟩ rfl (fun _ hW => by (obtain ⟨q0, q1, q2⟩ := hW; go_simp) <;> with_reducible rfl) ?_; simp only [nrm])
      refine tke ?_; refine sp 8 rfl rfl rfl fun K hK => ?_; refine wp_call_f (l := [.tmp 60]) rfl [.slice Ak x.key.length ck] rfl (enter_clone _) ((bytes_clone (HBK.out.fr ((Fr.refl [] w6).drew) (by simp)) (by have := HXO.out.k2; omega)).mono ?_); rintro e w8 ⟨v8, rfl, ⟨g8, hb8, hz8⟩, hf8⟩; refine ⟨_, rfl, hK _ _ (fun _ => ⟨fr_keep hf8 c4, fr_keep hf8 k0, fr_keep hf8 k1⟩) ?_⟩; simp only [nrm]; clear hK; refine sp 12 rfl rfl rfl fun K hK => ?_; refine wp_call_f (l := [.tmp 64]) rfl [.slice Aw x.v.length cw] rfl (enter_clone _) ((bytes_clone (HBV.out.fr (((Fr.refl [] w6).drew).trans hf8 (by simp)) (by simp)) (by have := HXO.out.v; omega)).mono ?_); rintro e w9 ⟨v9, rfl, ⟨g9, hb9, hz9⟩, hf9⟩; have hf79 : Fr [] w6.drew w9 := hf8.trans hf9 (by simp); refine ⟨_, rfl, hK _ _ (fun _ => ⟨fr_keep hf79 c4, fr_keep hf79 k0, fr_keep hf79 k1⟩) ?_⟩; simp only [nrm]; clear hK; obtain ⟨A8, c8, _, rfl, _, _⟩ := id hb8; obtain ⟨A9, c9, _, rfl, _, _⟩ := id hb9; refine _root_.Go.Proofs.YtpjbdpepofnleaaGreat.tv 13 (.agg #[.slice A8 x.key.length c8, .slice A9 x.v.length c9]) rfl rfl ⟨fr_keep hf79 c4, fr_keep hf79 k0, fr_keep hf79 k1⟩ (.inl ⟨rfl, fun W hW => by go_simp⟩) ?_; simp only [nrm]; obtain ⟨wx, hwx⟩ := nm (w9.alloc (.cells ([.slice A8 x.key.length c8, .slice A9 x.v.length c9] : List Value).toArray 39)); have hfx : Fr [] w9 wx := by rw [hwx]; exact (Fr.refl [] _).alloc _
      have hbx : Blk wx w9.heap.size 39 [.slice A8 x.key.length c8, .slice A9 x.v.length c9] := by rw [hwx]; exact Blk.new w9 _ [.slice A8 x.key.length c8, .slice A9 x.v.length c9]
      have hf7x : Fr [] w6.drew wx := hf79.trans hfx (by simp); obtain ⟨te, hte, hez, hes, heb⟩ := info_get info_en; refine sp 14 rfl rfl rfl fun K hK => ?_; refine wp_build_one (.tmp 66) rfl Tryz.underlying31 hte hez [.slice A8 x.key.length c8, .slice A9 x.v.length c9] rfl hes rfl (by simp) (by simp) (hK _ _ (fun _ => by rw [<- hwx]; exact ⟨fr_keep hf7x c4, fr_keep hf7x k0, fr_keep hf7x k1⟩) ?_); simp only [nrm]; rw [<- hwx]; clear hK hwx; have W8 := lh (W7.out.quiet hf7x); obtain ⟨ocs, hrow, hents⟩ := W8.out.row; have HEN : Hid (EntC (Dv D (.slice Ao outi.length co)) wx (x.key, x.v) (.slice A8 x.key.length c8) (.slice A9 x.v.length c9)) := lh ⟨⟨g8, (hb8.fr hf9 (by simp)).fr hfx (by simp), W7.out.topv _ hz8⟩, ⟨g9, hb9.fr hfx (by simp), W7.out.topv _ (by have := hf8.size; omega)⟩⟩; have HENTS := lh hents; have hbw6 := W8.out.bwk; have hb68 := B7.out.fr hf7x (by simp); refine sp 15 rfl rfl rfl fun K hK => ?_; refine wp_append_any (.tmp 57) (.tmp 67) rfl 39 2 48 Tryz.underlying31 hte hez hes heb rfl (by omega) Ao outi.length co ocs rfl (own_base hrow (fun _ _ => Nat.zero_le _)) (some ⟨w9.heap.size, 0, none⟩) 1 1 [.slice A8 x.key.length c8, .slice A9 x.v.length c9] rfl rfl (fun _ => ⟨_, rfl, fun j u hu => by rw [Addr.add_mid, Nat.zero_add]; exact hbx.at_ hu⟩) (by intro u hu; simp at hu; rcases hu with rfl | rfl <;> rfl) (by have := HLE.out; unfold maxLen; omega) (by have := HLE.out; omega) wx.heap.size rfl fun A' cap wz howz hfz hqz => ?_; have hbwz : Blk wz bw 95 (walkC bc fv (.slice none 0 0) (.slice Ao outi.length co) most) := hbw6.fr hfz (fun hm => (W8.out.own bw (by simpa using hm)).1 rfl); have hb6z := hb68.fr hfz (fun hm => HP6O.out (by simpa using hm)); refine hK _ _ (fun _ => ⟨hbwz.at_ (i := 4) rfl, hb6z.at_ (i := 0) rfl, hb6z.at_ (i := 1) rfl⟩) ?_; simp only [nrm]; clear hK; obtain ⟨hW9, hG9⟩ := W8.out.push (e := (x.key, x.v)) HENTS.out HEN.out hfz howz hqz; have c4' := hbwz.at_ (i := 4) rfl; have c4z := hbwz.free 4; have c4l := hbwz.lt; refine sp 16 rfl rfl rfl fun K hK => ?_; refine wp_run_same (v := .pointer (some ⟨bw, 0, none⟩)) (by go_simp) (hK _ _ (fun _ => ⟨hbwz.at_ (i := 4) rfl, hb6z.at_ (i := 0) rfl, hb6z.at_ (i := 1) rfl⟩) ?_); simp only [nrm]; clear hK; refine tks [17] ?_; refine tk rfl rfl ⟨hbwz.at_ (i := 4) rfl, hb6z.at_ (i := 0) rfl, hb6z.at_ (i := 1) rfl⟩ rfl (fun _ hW => by (obtain ⟨q0, q1, q2⟩ := hW; go_simp) <;> with_reducible rfl) ?_; simp only [nrm]; refine tke ?_; refine wpAnyK_step (j := 18) none rfl rfl (by kernel_rfl) rfl fun K hK => ?_; refine wp_run_skip (w' := wz.setCell ⟨bw, 4, none⟩ (.slice A' (outi.length + 1) cap)) (by go_simp) (hK _ _ (fun h => absurd h (by decide +kernel)) ?_); simp only [Act.put]; clear hK; refine wd ?_ _; have W9 := lh hW9; have G9 := lh ((G7.out.quiet hf7x).trans hG9); clear hW9 hG9 c4' c4z c4l hbwz hb6z howz hfz hqz hbw6 hb68 HENTS HEN hrow hents hbx hfx hf7x hf79 hb8 hb9 hf8 hf9 hz8 hz9 c4 k0 k1 k2 W6 W7 W8 G6 G7 B6 B7 hf6z; generalize wz.setCell ⟨bw, 4, none⟩ (.slice A' (outi.length + 1) cap) = w10 at *
      have HX : Hid (∃ (i : Nat) (outi : En) (ovi : Value), i <= n.l.length /\ Value.int .i64 ((i0 : Int) + 1) = .int .i64 (i : Int) /\ Wst H wS g bc bn bs bw D c fv (.slice none 0 0) low none most outi ovi w10 /\ WFr bc bw ov wb ovi w10 /\ goE low none most out (entOf n.l) = goE low none most outi (entOf (n.l.drop i)) /\ outi.length + (n.l.length - i) <= 1000000) := lh ⟨i0 + 1, outi ++ [(x.key, x.v)], _, hi, rfl, W9.out, G9.out, by
       rw [HGO.out, HCONS.out, goE_cons, if_neg HNL.out, if_neg HGOON.out], by have := HLE.out; simp only [List.length_append, List.length_singleton]; omega⟩
      go_wp2_with fail
      go_roundw
      case rel => exact HX.out
      case measure => simp [intOf]; omega
     | some b =>
      obtain ⟨ta, tm, tc, tq, htv, htb, _⟩ := hup; subst htv; have HTB := lh htb; clear htb; refine wp_region_K (fun W => W.cell? ⟨bw, 4, none⟩ = some (.slice Ao outi.length co) /\ W.cell? ⟨bw, 3, none⟩ = some (.int .i64 (most : Int)) /\ W.cell? ⟨bw, 2, none⟩ = some (.slice (some ta) tm tc) /\ W.cell? ⟨p6, 0, none⟩ = some (.slice Ak x.key.length ck)) [0, 1, 2, 3, 4, 5, 6, 7, 8, 9, 10, 11, 12, 13, 14, 15, 16, 17, 18, 19, 20, 21, 22, 23, 25, 26, 27] (by kernel_rfl) ?_; refine tks [0, 1, 2, 3, 4, 5, 6, 7, 8] ?_
      iterate 9 (refine tk rfl rfl ⟨c4, c3, c2, k0⟩ rfl (fun _ hW => by (obtain ⟨q0, q1, q2, q3⟩ := hW; go_simp) <;> with_reducible rfl) ?_; simp only [nrm])
      refine tke ?_; refine _root_.Go.Proofs.YtpjbdpepofnleaaGreat.tv 9 (.bool false) rfl rfl ⟨c4, c3, c2, k0⟩ (.inl ⟨rfl, fun W' _ => by first | (simp [execOp, Act.eval, go_sem, hmI]; done) | (simp [execOp, Act.eval, Result.andThen, go_sem]; omega)⟩) ?_; simp only [nrm]; refine tks [10, 11, 12, 13, 14] ?_
      iterate 5 (refine tk rfl rfl ⟨c4, c3, c2, k0⟩ rfl (fun _ hW => by (obtain ⟨q0, q1, q2, q3⟩ := hW; go_simp) <;> with_reducible rfl) ?_; simp only [nrm])
      refine tke ?_; refine _root_.Go.Proofs.YtpjbdpepofnleaaGreat.tv 15 (.bool true) rfl rfl ⟨c4, c3, c2, k0⟩ (.inl ⟨rfl, fun W' _ => by simp [execOp, Act.eval, Result.andThen, go_sem, Tryz.underlying23]⟩) ?_; simp only [nrm]; refine tks [16, 17, 18, 19, 20, 21, 22, 23] ?_
      iterate 8 (refine tk rfl rfl ⟨c4, c3, c2, k0⟩ rfl (fun _ hW => by (obtain ⟨q0, q1, q2, q3⟩ := hW; go_simp) <;> with_reducible rfl) ?_; simp only [nrm])
      refine tke ?_; refine wpAnyK_stepg (j := 24) (some 49) rfl rfl (by kernel_rfl) rfl fun K hK => ?_; refine wp_call_f (l := [.tmp 44, .tmp 48]) rfl [.slice Ak x.key.length ck, .slice (some ta) tm tc] rfl (enter_compare _) ((bytes_compare HBK.out HTB.out).mono ?_); rintro e w7 ⟨rfl, rfl⟩; refine ⟨_, rfl, hK _ _ (fun _ => ⟨c4, c3, c2, k0⟩) ?_⟩; simp only [nrm]; clear hK; refine _root_.Go.Proofs.YtpjbdpepofnleaaGreat.tv 25 (.bool (!decide (klt x.key b))) rfl rfl ⟨c4, c3, c2, k0⟩ (.inl ⟨rfl, fun W' _ => by rw [<- cmp_nonneg]; simp [execOp, Act.eval, go_sem]⟩) ?_; simp only [nrm]; refine tks [26, 27] ?_
      iterate 2 (refine tk rfl rfl ⟨c4, c3, c2, k0⟩ rfl (fun _ hW => by (obtain ⟨q0, q1, q2, q3⟩ := hW; go_simp) <;> with_reducible rfl) ?_; simp only [nrm])
      refine tke ?_; refine sp 28 rfl rfl rfl fun K hK => ?_; refine wp_run_same (v := ?aq5_28) ?yq5_28 (hK _ _ (fun _ => ⟨c4, c3, c2, k0⟩) ?_)
      case yq5_28 => go_simp <;> with_reducible rfl
      simp only [nrm]; refine wd ?_ _; clear c4 c3 c2 k0; have WG : Hid (WFr bc bw ov w (.slice Ao outi.length co) w5.drew) := lh (WFr.pre HFB.out G6.out)
      by_cases hp : klt x.key b
      ·rw [decide_eq_true hp]
       have HGOON : Hid (¬ (outi.length = most ∨ pastB (some b) (x.key, x.v).1 = true)) := lh (by
        rintro (h | h)
        ·exact HMOST.out h
        ·unfold pastB at h; simp [hp] at h)
       have HPP := lh hp; clear hp WG; generalize w5.drew = w6 at *; have hf6z := W6.out.hz; have c4 := W6.out.bwk.at_ (i := 4) rfl; have k0 := (B6.out).at_ (i := 0) rfl; have k1 := (B6.out).at_ (i := 1) rfl; have k2 := True.intro; go_upto_region 7 with fail
       have W7 := lh (W6.out.quiet ((Fr.refl [] w6).drew)); have G7 := lh (G6.out.quiet ((Fr.refl [] w6).drew)); have B7 := lh (B6.out.fr ((Fr.refl [] w6).drew) (by simp)); refine wp_region_K (fun W => W.cell? ⟨bw, 4, none⟩ = some (.slice Ao outi.length co) /\ W.cell? ⟨p6, 0, none⟩ = some (.slice Ak x.key.length ck) /\ W.cell? ⟨p6, 1, none⟩ = some (.slice Aw x.v.length cw)) [0, 1, 2, 3, 4, 5, 6, 7, 9, 10, 11, 13, 17] (by kernel_rfl) ?_; refine tks [0, 1, 2, 3, 4, 5, 6, 7, 9, 10, 11] ?_
       iterate 11 (refine tk rfl rfl ⟨c4, k0, k1⟩ rfl (fun _ hW => by (obtain ⟨q0, q1, q2⟩ := hW; go_simp) <;> with_reducible rfl) ?_; simp only [nrm])
       refine tke ?_; refine sp 8 rfl rfl rfl fun K hK => ?_; refine wp_call_f (l := [.tmp 60]) rfl [.slice Ak x.key.length ck] rfl (enter_clone _) ((bytes_clone (HBK.out.fr ((Fr.refl [] w6).drew) (by simp)) (by have := HXO.out.k2; omega)).mono ?_); rintro e w8 ⟨v8, rfl, ⟨g8, hb8, hz8⟩, hf8⟩; refine ⟨_, rfl, hK _ _ (fun _ => ⟨fr_keep hf8 c4, fr_keep hf8 k0, fr_keep hf8 k1⟩) ?_⟩; simp only [nrm]; clear hK; refine sp 12 rfl rfl rfl fun K hK => ?_; refine wp_call_f (l := [.tmp 64]) rfl [.slice Aw x.v.length cw] rfl (enter_clone _) ((bytes_clone (HBV.out.fr (((Fr.refl [] w6).drew).trans hf8 (by simp)) (by simp)) (by have := HXO.out.v; omega)).mono ?_); rintro e w9 ⟨v9, rfl, ⟨g9, hb9, hz9⟩, hf9⟩; have hf79 : Fr [] w6.drew w9 := hf8.trans hf9 (by simp); refine ⟨_, rfl, hK _ _ (fun _ => ⟨fr_keep hf79 c4, fr_keep hf79 k0, fr_keep hf79 k1⟩) ?_⟩; simp only [nrm]; clear hK; obtain ⟨A8, c8, _, rfl, _, _⟩ := id hb8; obtain ⟨A9, c9, _, rfl, _, _⟩ := id hb9; refine _root_.Go.Proofs.YtpjbdpepofnleaaGreat.tv 13 (.agg #[.slice A8 x.key.length c8, .slice A9 x.v.length c9]) rfl rfl ⟨fr_keep hf79 c4, fr_keep hf79 k0, fr_keep hf79 k1⟩ (.inl ⟨rfl, fun W hW => by go_simp⟩) ?_; simp only [nrm]; obtain ⟨wx, hwx⟩ := nm (w9.alloc (.cells ([.slice A8 x.key.length c8, .slice A9 x.v.length c9] : List Value).toArray 39)); have hfx : Fr [] w9 wx := by rw [hwx]; exact (Fr.refl [] _).alloc _
       have hbx : Blk wx w9.heap.size 39 [.slice A8 x.key.length c8, .slice A9 x.v.length c9] := by rw [hwx]; exact Blk.new w9 _ [.slice A8 x.key.length c8, .slice A9 x.v.length c9]
       have hf7x : Fr [] w6.drew wx := hf79.trans hfx (by simp); obtain ⟨te, hte, hez, hes, heb⟩ := info_get info_en; refine sp 14 rfl rfl rfl fun K hK => ?_; refine wp_build_one (.tmp 66) rfl Tryz.underlying31 hte hez [.slice A8 x.key.length c8, .slice A9 x.v.length c9] rfl hes rfl (by simp) (by simp) (hK _ _ (fun _ => by rw [<- hwx]; exact ⟨fr_keep hf7x c4, fr_keep hf7x k0, fr_keep hf7x k1⟩) ?_); simp only [nrm]; rw [<- hwx]; clear hK hwx; have W8 := lh (W7.out.quiet hf7x); obtain ⟨ocs, hrow, hents⟩ := W8.out.row; have HEN : Hid (EntC (Dv D (.slice Ao outi.length co)) wx (x.key, x.v) (.slice A8 x.key.length c8) (.slice A9 x.v.length c9)) := lh ⟨⟨g8, (hb8.fr hf9 (by simp)).fr hfx (by simp), W7.out.topv _ hz8⟩, ⟨g9, hb9.fr hfx (by simp), W7.out.topv _ (by have := hf8.size; omega)⟩⟩; have HENTS := lh hents; have hbw6 := W8.out.bwk; have hb68 := B7.out.fr hf7x (by simp); refine sp 15 rfl rfl rfl fun K hK => ?_; refine wp_append_any (.tmp 57) (.tmp 67) rfl 39 2 48 Tryz.underlying31 hte hez hes heb rfl (by omega) Ao outi.length co ocs rfl (own_base hrow (fun _ _ => Nat.zero_le _)) (some ⟨w9.heap.size, 0, none⟩) 1 1 [.slice A8 x.key.length c8, .slice A9 x.v.length c9] rfl rfl (fun _ => ⟨_, rfl, fun j u hu => by rw [Addr.add_mid, Nat.zero_add]; exact hbx.at_ hu⟩) (by intro u hu; simp at hu; rcases hu with rfl | rfl <;> rfl) (by have := HLE.out; unfold maxLen; omega) (by have := HLE.out; omega) wx.heap.size rfl fun A' cap wz howz hfz hqz => ?_; have hbwz : Blk wz bw 95 (walkC bc fv (.slice (some ta) tm tc) (.slice Ao outi.length co) most) := hbw6.fr hfz (fun hm => (W8.out.own bw (by simpa using hm)).1 rfl); have hb6z := hb68.fr hfz (fun hm => HP6O.out (by simpa using hm)); refine hK _ _ (fun _ => ⟨hbwz.at_ (i := 4) rfl, hb6z.at_ (i := 0) rfl, hb6z.at_ (i := 1) rfl⟩) ?_; simp only [nrm]; clear hK; obtain ⟨hW9, hG9⟩ := W8.out.push (e := (x.key, x.v)) HENTS.out HEN.out hfz howz hqz; have c4' := hbwz.at_ (i := 4) rfl; have c4z := hbwz.free 4; have c4l := hbwz.lt; refine sp 16 rfl rfl rfl fun K hK => ?_; refine wp_run_same (v := .pointer (some ⟨bw, 0, none⟩)) (by go_simp) (hK _ _ (fun _ => ⟨hbwz.at_ (i := 4) rfl, hb6z.at_ (i := 0) rfl, hb6z.at_ (i := 1) rfl⟩) ?_); simp only [nrm]; clear hK; refine tks [17] ?_; refine tk rfl rfl ⟨hbwz.at_ (i := 4) rfl, hb6z.at_ (i := 0) rfl, hb6z.at_ (i := 1) rfl⟩ rfl (fun _ hW => by (obtain ⟨q0, q1, q2⟩ := hW; go_simp) <;> with_reducible rfl) ?_; simp only [nrm]; refine tke ?_; refine wpAnyK_step (j := 18) none rfl rfl (by kernel_rfl) rfl fun K hK => ?_; refine wp_run_skip (w' := wz.setCell ⟨bw, 4, none⟩ (.slice A' (outi.length + 1) cap)) (by go_simp) (hK _ _ (fun h => absurd h (by decide +kernel)) ?_); simp only [Act.put]; clear hK; refine wd ?_ _; have W9 := lh hW9; have G9 := lh ((G7.out.quiet hf7x).trans hG9); clear hW9 hG9 c4' c4z c4l hbwz hb6z howz hfz hqz hbw6 hb68 HENTS HEN hrow hents hbx hfx hf7x hf79 hb8 hb9 hf8 hf9 hz8 hz9 c4 k0 k1 k2 W6 W7 W8 G6 G7 B6 B7 hf6z; generalize wz.setCell ⟨bw, 4, none⟩ (.slice A' (outi.length + 1) cap) = w10 at *
       have HX : Hid (∃ (i : Nat) (outi : En) (ovi : Value), i <= n.l.length /\ Value.int .i64 ((i0 : Int) + 1) = .int .i64 (i : Int) /\ Wst H wS g bc bn bs bw D c fv (.slice (some ta) tm tc) low (some b) most outi ovi w10 /\ WFr bc bw ov wb ovi w10 /\ goE low (some b) most out (entOf n.l) = goE low (some b) most outi (entOf (n.l.drop i)) /\ outi.length + (n.l.length - i) <= 1000000) := lh ⟨i0 + 1, outi ++ [(x.key, x.v)], _, hi, rfl, W9.out, G9.out, by
        rw [HGO.out, HCONS.out, goE_cons, if_neg HNL.out, if_neg HGOON.out], by have := HLE.out; simp only [List.length_append, List.length_singleton]; omega⟩
       go_wp2_with fail
       go_roundw
       case rel => exact HX.out
       case measure => simp [intOf]; omega
      ·rw [decide_eq_false hp]; have HSTOP : Hid (outi.length = most ∨ pastB (some b) (x.key, x.v).1 = true) := lh (.inr (by unfold pastB; simp [hp])); have HPP := lh hp; clear hp; generalize w5.drew = w6 at *; have HX := lh (HQ.out (.returned (.bool false)) _ ⟨_, by rw [HGO.out, HCONS.out, goE_cons, if_neg HNL.out, if_pos HSTOP.out], by rw [HGO.out, HCONS.out, goE_cons, if_neg HNL.out, if_pos HSTOP.out]; exact W6.out, WG.out⟩); go_wp2_with fail; exact HX.out
  ·obtain rfl : i0 = n.l.length := by omega
   have hdr : entOf (n.l.drop n.l.length) = [] := by rw [List.drop_length]; rfl
   have HX := lh (HQ.out (.returned (.bool true)) wr ⟨_, by rw [HGO.out, hdr]; rfl, by rw [HGO.out, hdr]; exact W1.out, WFr.pre HFB.out G1.out⟩); clear hdr; go_wp2_with fail; exact HX.out
end
def KidsAt (N : Nat -> Option Nd) (h : Nat) (n : Nd) (i : Nat) (hi : Option Ky) (ER : En) : Prop := ∃ lo' PR, Kids (Sub N 1 h) lo' (n.child i) (n.l.drop i) hi ER PR
theorem kidsAt_way {N : Nat -> Option Nd} {h : Nat} {n : Nd} {lo hi : Option Ky} {E : En} {P : List Nat} (hk : Kids (Sub N 1 h) lo n.first n.l hi E P) (low : Ky) :
  ∃ EA ER, E = EA ++ ER /\ (∀ e ∈ EA, klt e.1 low) /\ KidsAt N h n (n.way low) hi ER := by
 obtain ⟨A, B, hl, hAl, hAt, hBd, hA⟩ := way_rest (n := n) low; rw [hl] at hk; obtain ⟨lo', EA, ER, PA, PR, rfl, rfl, h3, h4⟩ := kids_drop Sub.fine hk; refine ⟨EA, ER, rfl, fun e he => ?_, lo', PR, ?_⟩
 ·obtain ⟨x, hx, hk'⟩ := h4 e he; exact klt_le_trans hk' (hA x hx)
 ·unfold Nd.child; rw [hAt, hBd]; exact h3
theorem kidsAt_last {N : Nat -> Option Nd} {h : Nat} {n : Nd} {hi : Option Ky} {ER : En} (hk : KidsAt N h n n.l.length hi ER) : ∃ lo' PR, Sub N 1 h (n.child n.l.length) lo' hi ER PR := by
 obtain ⟨lo', PR, h1⟩ := hk; rw [List.drop_length] at h1; exact ⟨lo', PR, h1⟩
theorem kidsAt_next {N : Nat -> Option Nd} {h i : Nat} {n : Nd} {hi : Option Ky} {ER : En} (hk : KidsAt N h n i hi ER) (hlt : i < n.l.length) :
  ∃ lo' hi' E1 E2 P1, Sub N 1 h (n.child i) lo' hi' E1 P1 /\ ER = E1 ++ E2 /\ KidsAt N h n (i + 1) hi E2 := by
 obtain ⟨lo', PR, h1⟩ := hk; obtain ⟨x, hx⟩ := gx hlt; rw [drop_one hx] at h1; obtain ⟨E1, P1, E2, P2, h2, h3, rfl, rfl⟩ := h1; refine ⟨lo', some x.key, E1, E2, P1, h2, rfl, some x.key, P2, ?_⟩
 have e : n.child (i + 1) = x.at_ := by
  unfold Nd.child; rw [take_one hx, chOf_last]
 rw [e]; exact h3
def WLeft (c : CD) (h : Nat) (n : Nd) (hi : Option Ky) (low : Ky) (up : Option Ky) (most : Nat) (out E : En) (i : Nat) (outi : En) : Prop :=
 (i <= n.l.length /\ ∃ ER, KidsAt c.N h n i hi ER /\ goE low up most out E = goE low up most outi ER /\ outi.length + ER.length <= 1000000) ∨ (i = n.l.length + 1 /\ goE low up most out E = (outi, true))
section
variable {w0 wS : World} {H dk g bc bn bs bw : Nat} {s : PS} {X D : Nat -> Prop} {c : CD} {fv tv : Value} {low : Ky} {up : Option Ky} {most : Nat}
/-- A node gone over. -/
theorem walk_node (hp : PgC w0 wS dk g s X c) (he : c.e = 0) : ∀ (h f k deep : Nat) (lo hi : Option Ky) (E : En) (P : List Nat) (out : En) (ov : Value) (w : World), h < f -> f + deep = 40 -> Sub c.N 1 h k lo hi E P ->
  Wst H wS g bc bn bs bw D c fv tv low up most out ov w -> out.length + E.length <= 1000000 ->
  Calls Tryz.prog 38 #[.pointer (some ⟨bw, 0, none⟩), .int .i64 (k : Int), .int .i64 (deep : Int)] w (WEnd H wS g bc bn bs bw D c fv tv low up most out ov w E) := by
 intro h
 induction h with
 | zero =>
  intro f k deep lo hi E P out ov w hf hfd hs hW hle; obtain ⟨n, P', hN, hok, hsz, hm, hPP, hnf⟩ := id hs; clear hPP; have hfew := items_few hsz; have hd40 : ¬ ((deep : Nat) : Int) = 40 := by omega
  have c0 := hW.bwk.at_ (i := 0) rfl; have HNC := lh (node_ch hp hW.ch hN hW.topv); have W1 := lh hW; have HS := lh hs; have HN := lh hN; have HOK := lh hok; have HFEW := lh hfew; have HLE := lh hle; have HE := lh he; have HFD := lh hfd; have HF := lh hf; have HP := lh hp; have HNF := lh hnf; clear hs hN hok hfew hle hW hsz hm hnf; refine calls_post fun R HQ => ?_
  go_enter Tryz.func38, Tryz.ntmps38
  go_wp2_with fail; refine HNC.out.mono ?_; rintro e w2 ⟨nv, rfl, hnv, hf2⟩; obtain ⟨A, ca, cs0, rfl, _⟩ := hnv.open_; have W2 := lh (W1.out.quiet hf2); have HNV := lh (hnv.low (Nat.zero_le _)); have G2 : Hid (WFr bc bw ov w ov w2) := lh (WFr.refl.quiet hf2); clear hnv hf2 HNC c0
  go_wp2_with (first
   | (with_reducible refine wpList_alloc_z rfl 88 rfl (.agg #[.int .i64 0, .int .i64 0, .slice none 0 0]) znd.toArray zero_nd rfl ?_)
   | (refine wpList_store_z (W := w2) rfl 88 (.tmp 7) (.tmp 17) rfl [.int .i64 (kindOf n), .int .i64 (n.first : Int), .slice A n.l.length ca] rfl rfl rfl size_nd rfl three_cells ?_))
  intro w3 hb3 hf3 hz3; obtain ⟨p7, hp7⟩ := nm (w2.heap.size); rw [<- hp7] at hb3 ⊢; have HP7 : Hid (p7 ≠ bc /\ p7 ≠ bw /\ ov.ownBlock ≠ some p7) := lh ⟨by have := W2.out.ch.lts.1; omega, by have := W2.out.bwk.lt; omega, fun e => by have := (W2.out.lt _ e).2; omega⟩; have W3 := lh (W2.out.quiet hf3); have HNV3 := lh (HNV.out.fr hf3 (by simp)); have G3 := lh (G2.out.quiet hf3); have B3 := lh hb3; clear hf3 hb3 hz3 hp7 W2 HNV G2; have c0 := W3.out.bwk.at_ (i := 0) rfl; go_wp2_with fail; refine (fail_ch W3.out.ch 0).mono ?_; rintro e w4 ⟨rfl, hc4, hf4, hz4⟩; rw [fail0] at hc4 ⊢; have hd : decide (c.e ≠ 0) = false := by rw [HE.out]; rfl
  rw [hd]; have W4 := lh (W3.out.failed hf4 hc4); have HNV4 := lh (HNV3.out.fr hf4 fun q hq hm => absurd (List.mem_singleton.1 hm) (W3.out.nb q hq.1).2.1); have G4 : Hid (WFr bc bw ov w ov w4) := lh (G3.out.trans ⟨hf4.mono (by simp), fun q hq => .inl hq⟩); have B4 := lh (B3.out.fr hf4 (by simpa using HP7.out.1)); clear hc4 hf4 hz4 hd W3 HNV3 G3 B3 c0; have d0 := B4.out.at_ (i := 0) rfl; have d1 := B4.out.at_ (i := 1) rfl; have d2 := B4.out.at_ (i := 2) rfl; go_wp2_with fail; refine (leaf_nd n).mono ?_; rintro e w5 ⟨rfl, hf5⟩; have W5 := lh (W4.out.quiet hf5); have HNV5 := lh (HNV4.out.fr hf5 (by simp)); have G5 := lh (G4.out.quiet hf5); have B5 := lh (B4.out.fr hf5 (by simp)); clear hf5 W4 HNV4 G4 B4 d0 d1 d2; have d0 := B5.out.at_ (i := 0) rfl; have d1 := B5.out.at_ (i := 1) rfl; have d2 := B5.out.at_ (i := 2) rfl; obtain ⟨hlf, hEq, _⟩ := HNF.out; rw [hlf]; have HWL := lh (walk_leaf W5.out HNV5.out HOK.out HFEW.out (by have := HLE.out; rw [hEq] at this; unfold entOf at this; rw [List.length_map] at this; exact this)); have HEQ := lh hEq; clear hlf hEq; go_wp2_with fail; refine HWL.out.mono ?_; rintro e w6 ⟨ov', rfl, hW6, hG6⟩; have HX := lh (HQ.out _ _ ⟨ov', by rw [HEQ.out], by rw [HEQ.out]; exact hW6, G5.out.trans hG6⟩); clear hW6 hG6; go_wp2_with fail; exact HX.out
 | succ h ih =>
  intro f k deep lo hi E P out ov w hf hfd hs hW hle; obtain ⟨n, P', hN, hok, hsz, hm, hPP, hnf⟩ := id hs; clear hPP; have hfew := items_few hsz; have hd40 : ¬ ((deep : Nat) : Int) = 40 := by omega
  have c0 := hW.bwk.at_ (i := 0) rfl; have HNC := lh (node_ch hp hW.ch hN hW.topv); have W1 := lh hW; have HS := lh hs; have HN := lh hN; have HOK := lh hok; have HFEW := lh hfew; have HLE := lh hle; have HE := lh he; have HFD := lh hfd; have HF := lh hf; have HP := lh hp; have HNF := lh hnf; clear hs hN hok hfew hle hW hsz hm hnf; refine calls_post fun R HQ => ?_
  go_enter Tryz.func38, Tryz.ntmps38
  go_wp2_with fail; refine HNC.out.mono ?_; rintro e w2 ⟨nv, rfl, hnv, hf2⟩; obtain ⟨A, ca, cs0, rfl, _⟩ := hnv.open_; have W2 := lh (W1.out.quiet hf2); have HNV := lh (hnv.low (Nat.zero_le _)); have G2 : Hid (WFr bc bw ov w ov w2) := lh (WFr.refl.quiet hf2); clear hnv hf2 HNC c0
  go_wp2_with (first
   | (with_reducible refine wpList_alloc_z rfl 88 rfl (.agg #[.int .i64 0, .int .i64 0, .slice none 0 0]) znd.toArray zero_nd rfl ?_)
   | (refine wpList_store_z (W := w2) rfl 88 (.tmp 7) (.tmp 17) rfl [.int .i64 (kindOf n), .int .i64 (n.first : Int), .slice A n.l.length ca] rfl rfl rfl size_nd rfl three_cells ?_))
  intro w3 hb3 hf3 hz3; obtain ⟨p7, hp7⟩ := nm (w2.heap.size); rw [<- hp7] at hb3 ⊢; have HP7 : Hid (p7 ≠ bc /\ p7 ≠ bw /\ ov.ownBlock ≠ some p7) := lh ⟨by have := W2.out.ch.lts.1; omega, by have := W2.out.bwk.lt; omega, fun e => by have := (W2.out.lt _ e).2; omega⟩; have W3 := lh (W2.out.quiet hf3); have HNV3 := lh (HNV.out.fr hf3 (by simp)); have G3 := lh (G2.out.quiet hf3); have B3 := lh hb3; clear hf3 hb3 hz3 hp7 W2 HNV G2; have c0 := W3.out.bwk.at_ (i := 0) rfl; go_wp2_with fail; refine (fail_ch W3.out.ch 0).mono ?_; rintro e w4 ⟨rfl, hc4, hf4, hz4⟩; rw [fail0] at hc4 ⊢; have hd : decide (c.e ≠ 0) = false := by rw [HE.out]; rfl
  rw [hd]; have W4 := lh (W3.out.failed hf4 hc4); have HNV4 := lh (HNV3.out.fr hf4 fun q hq hm => absurd (List.mem_singleton.1 hm) (W3.out.nb q hq.1).2.1); have G4 : Hid (WFr bc bw ov w ov w4) := lh (G3.out.trans ⟨hf4.mono (by simp), fun q hq => .inl hq⟩); have B4 := lh (B3.out.fr hf4 (by simpa using HP7.out.1)); clear hc4 hf4 hz4 hd W3 HNV3 G3 B3 c0; have d0 := B4.out.at_ (i := 0) rfl; have d1 := B4.out.at_ (i := 1) rfl; have d2 := B4.out.at_ (i := 2) rfl; go_wp2_with fail; refine (leaf_nd n).mono ?_; rintro e w5 ⟨rfl, hf5⟩; have W5 := lh (W4.out.quiet hf5); have HNV5 := lh (HNV4.out.fr hf5 (by simp)); have G5 := lh (G4.out.quiet hf5); have B5 := lh (B4.out.fr hf5 (by simp)); clear hf5 W4 HNV4 G4 B4 d0 d1 d2; have d0 := B5.out.at_ (i := 0) rfl; have d1 := B5.out.at_ (i := 1) rfl; have d2 := B5.out.at_ (i := 2) rfl; obtain ⟨hlf, hK⟩ := HNF.out; rw [hlf]; have hK' : Kids (Sub c.N 1 h) lo n.first n.l hi E P' := hK; have hkr := (Kids.keys Sub.fine hK').1; obtain ⟨EA, ER, hEE, hskip, hka⟩ := kidsAt_way hK' low; have HKR := lh hkr; have HEE := lh hEE; have HSK := lh hskip; have HKA := lh hka; have HIH := lh ih; clear hlf hK hK' hkr hEE hskip hka ih; go_upto_region 8 with fail
  have W6 := lh (W5.out.quiet ((Fr.refl [] w5).drew)); have HNV6 := lh (HNV5.out.fr ((Fr.refl [] w5).drew) (by simp)); have G6 := lh (G5.out.quiet ((Fr.refl [] w5).drew)); have B6 := lh (B5.out.fr ((Fr.refl [] w5).drew) (by simp)); clear W5 HNV5 G5 B5 d0 d1 d2; have d0 := B6.out.at_ (i := 0) rfl; have d1 := B6.out.at_ (i := 1) rfl; have d2 := B6.out.at_ (i := 2) rfl; have f1 := W6.out.bwk.at_ (i := 1) rfl; obtain ⟨ql, hql, _⟩ := W6.out.low; have HLOW := lh hql; clear hql; refine wp_region_K (fun W => W.cell? ⟨p7, 0, none⟩ = some (.int .i64 (kindOf n)) /\ W.cell? ⟨p7, 1, none⟩ = some (.int .i64 (n.first : Int)) /\ W.cell? ⟨p7, 2, none⟩ = some (.slice A n.l.length ca) /\ W.cell? ⟨bw, 1, none⟩ = some fv) [0, 1, 2, 3, 4] (by kernel_rfl) ?_; refine tks [0, 1, 2, 3, 4] ?_
  iterate 5 (refine tk rfl rfl ⟨d0, d1, d2, f1⟩ rfl (fun _ hW => by (obtain ⟨q0, q1, q2, q3⟩ := hW; go_simp) <;> with_reducible rfl) ?_; simp only [nrm])
  refine tke ?_; refine sp 5 rfl rfl rfl fun K hK => ?_; refine wp_call_f (l := [.tmp 36, .tmp 40]) rfl [.agg #[.int .i64 (kindOf n), .int .i64 (n.first : Int), .slice A n.l.length ca], fv] rfl (enter_way _) ((way_nd HNV6.out HLOW.out HKR.out (by have := HFEW.out; omega)).mono ?_); rintro e w7 ⟨rfl, hf7⟩; refine ⟨_, rfl, hK _ _ (fun _ => ⟨fr_keep hf7 d0, fr_keep hf7 d1, fr_keep hf7 d2, fr_keep hf7 f1⟩) ?_⟩; simp only [nrm]; clear hK; refine sp 6 rfl rfl rfl fun K hK => ?_; refine wp_run_same (v := ?aq1_6) ?yq1_6 (hK _ _ (fun _ => ⟨fr_keep hf7 d0, fr_keep hf7 d1, fr_keep hf7 d2, fr_keep hf7 f1⟩) ?_)
  case yq1_6 => go_simp <;> with_reducible rfl
  simp only [nrm]; refine wd ?_ _; have W7 := lh (W6.out.quiet hf7); have HNV7 := lh (HNV6.out.fr hf7 (by simp)); have G7 := lh (G6.out.quiet hf7); have B7 := lh (B6.out.fr hf7 (by simp)); clear hf7 W6 HNV6 G6 B6 d0 d1 d2 f1 HLOW; have hwl := way_le n low; have HLFT : Hid (WLeft c h n hi low up most out E (n.way low) out) := lh (.inl ⟨hwl, ER, HKA.out, by rw [HEE.out, goE_skip _ _ HSK.out], by have := HLE.out; rw [HEE.out, List.length_append] at this; omega⟩); clear hwl; go_wp2_with fail
  go_loopw [9] (fun v wr => ∃ (i : Nat) (outi : En) (ovi : Value), v = .int .i64 (i : Int) /\ Wst H wS g bc bn bs bw D c fv tv low up most outi ovi wr /\ WFr bc bw ov w7 ovi wr /\ WLeft c h n hi low up most out E i outi) (fun v _ => n.l.length + 1 - (intOf v).toNat)
  case atStart => exact ⟨n.way low, out, ov, rfl, W7.out, WFr.refl, HLFT.out⟩
  case round =>
   obtain ⟨i, outi, ovi, rfl, hWi, hGi, hLi⟩ := hrel; have WI := lh hWi; have GI := lh hGi; have BI := lh (GI.out.keep B7.out HP7.out.1 HP7.out.2.1 HP7.out.2.2)
   have HNI := lh (HNV7.out.fr GI.out.fr fun q hq hm => by
    have h1 := W7.out.nb q hq.1; simp only [List.mem_cons, Option.mem_toList] at hm; rcases hm with h | h | h
    ·exact absurd h h1.2.1
    ·exact absurd h h1.1
    ·exact absurd h hq.2)
   have d0 := BI.out.at_ (i := 0) rfl; have d1 := BI.out.at_ (i := 1) rfl; have d2 := BI.out.at_ (i := 2) rfl; clear hWi hGi; rcases hLi with ⟨hil, ER1, hka, hgo, hle1⟩ | ⟨hi1, hgo⟩
   ·have hilI : ((i : Nat) : Int) <= ((n.l.length : Nat) : Int) := by omega
    have HKA1 := lh hka; have HGO := lh hgo; have HLE1 := lh hle1; clear hka hgo hle1; have hwd : IntKind.i64.wrap ((deep : Int) + 1) = ((deep + 1 : Nat) : Int) := by have := HFD.out; rw [IntKind.wrap_i64]; omega
    have hwi := wi i (by have := HFEW.out; omega)
    go_wp2_with fail; refine (child_nd HNI.out hil (by have := HFEW.out; omega)).mono ?_; rintro e w8 ⟨rfl, hf8⟩; have W8 := lh (WI.out.quiet hf8); have G8 := lh (GI.out.quiet hf8); clear hf8 d0 d1 d2 WI GI BI HNI
    by_cases hlast : i = n.l.length
    ·subst hlast; obtain ⟨lo', PR, hsub⟩ := kidsAt_last HKA1.out; have HREC := lh (HIH.out (f - 1) _ (deep + 1) _ _ _ _ _ _ _ (by have := HF.out; omega) (by have := HF.out; have := HFD.out; omega) hsub W8.out HLE1.out); clear hsub; go_wp2_with fail; refine HREC.out.mono ?_; rintro e w9 ⟨ov9, rfl, hW9, hG9⟩; have W9 := lh hW9; have G9 := lh (G8.out.trans hG9); clear hW9 hG9 HREC
     cases hb : (goE low up most outi ER1).2 with
     | true =>
      have HX : Hid (∃ (j : Nat) (outj : En) (ovj : Value), Value.int .i64 (((n.l.length : Nat) : Int) + 1) = .int .i64 (j : Int) /\ Wst H wS g bc bn bs bw D c fv tv low up most outj ovj w9 /\ WFr bc bw ov w7 ovj w9 /\ WLeft c h n hi low up most out E j outj) := lh ⟨n.l.length + 1, _, ov9, rfl, W9.out, G9.out, .inr ⟨rfl, by rw [HGO.out, <- hb]⟩⟩; have HB := lh hb; clear hb; go_wp2_with fail
      go_roundw
      case rel => exact HX.out
      case measure => simp [intOf]
     | false =>
      have HX := lh (HQ.out (.returned (.bool false)) w9 ⟨ov9, by rw [HGO.out, hb], by rw [HGO.out]; exact W9.out, G7.out.trans G9.out⟩); have HB := lh hb; clear hb; go_wp2_with fail; exact HX.out
    ·have hlt : i < n.l.length := by omega
     obtain ⟨lo', hi', E1, E2, P1, hsub, hER, hka2⟩ := kidsAt_next HKA1.out hlt; have hl1 : outi.length + E1.length <= 1000000 := by have := HLE1.out; rw [hER, List.length_append] at this; omega
     have HREC := lh (HIH.out (f - 1) _ (deep + 1) _ _ _ _ _ _ _ (by have := HF.out; omega) (by have := HF.out; have := HFD.out; omega) hsub W8.out hl1); have HER := lh hER; have HKA2 := lh hka2; have HGA : Hid (goE low up most out E = if (goE low up most outi E1).2 then goE low up most (goE low up most outi E1).1 E2 else goE low up most outi E1) := lh (by rw [HGO.out, hER, goE_append]); clear hsub hER hka2 hl1; go_wp2_with fail; refine HREC.out.mono ?_; rintro e w9 ⟨ov9, rfl, hW9, hG9⟩; have W9 := lh hW9; have G9 := lh (G8.out.trans hG9); clear hW9 hG9 HREC
     cases hb : (goE low up most outi E1).2 with
     | true =>
      have HX : Hid (∃ (j : Nat) (outj : En) (ovj : Value), Value.int .i64 (((i : Nat) : Int) + 1) = .int .i64 (j : Int) /\ Wst H wS g bc bn bs bw D c fv tv low up most outj ovj w9 /\ WFr bc bw ov w7 ovj w9 /\ WLeft c h n hi low up most out E j outj) := lh ⟨i + 1, _, ov9, rfl, W9.out, G9.out, .inl ⟨hlt, E2, HKA2.out, by rw [HGA.out, if_pos hb], by
       have h1 := goE_len low up most E1 outi; have h2 := HLE1.out; rw [HER.out, List.length_append] at h2; omega⟩⟩
      have HB := lh hb; clear hb; go_wp2_with fail
      go_roundw
      case rel => exact HX.out
      case measure => simp [intOf]; omega
     | false =>
      have HX := lh (HQ.out (.returned (.bool false)) w9 ⟨ov9, by rw [HGA.out, if_neg (by rw [hb]; decide), hb], by rw [HGA.out, if_neg (by rw [hb]; decide)]; exact W9.out, G7.out.trans G9.out⟩); have HB := lh hb; clear hb; go_wp2_with fail; exact HX.out
   ·subst hi1; have hgt : ¬ (((n.l.length + 1 : Nat)) : Int) <= ((n.l.length : Nat) : Int) := by omega
    have HX := lh (HQ.out (.returned (.bool true)) wr ⟨ovi, by rw [hgo], by rw [hgo]; exact WI.out, G7.out.trans GI.out⟩); have HGO := lh hgo; clear hgo; go_wp2_with fail; exact HX.out
end
def RangeEnd (X : Nat -> Prop) (E : Nat -> En) (t : Nat) (low : Ky) (up : Option Ky) (most : Nat) (w : World) (e : Ending) (w' : World) : Prop :=
 ∃ ov cs, e = .returned (.tuple #[ov, .int .i64 0]) /\ w'.ownsRow w.heap.size 39 2 ov (goE low up most [] (E t)).1.length cs /\ EntsC (fun q => X q ∨ w.heap.size <= q) w' (goE low up most [] (E t)).1 cs /\ Fr [] w w'
section
variable {w0 w : World} {dk g st : Nat} {s : PS} {X : Nat -> Prop} {E : Nat -> En}
/-- Range. -/
theorem Range_X (h : StX w0 w dk g st s X E) {t : Nat} (ht : t < 8) {fv tv : Value} {low : Ky} {up : Option Ky} {gf most : Nat} (hk : BytesAt w fv low gf) (hkX : X gf) (hu : UpK X w tv up) (hmost : most < 9223372036854775808) (hE : (E t).length <= 1000000) :
  Calls Tryz.prog 11 #[.pointer (some ⟨st, 0, none⟩), .int .i64 (t : Int), fv, tv, .int .i64 (most : Int)] w (RangeEnd X E t low up most w) := by
 obtain ⟨Af, cf, _, rfl, _, _⟩ := id hk
 obtain ⟨At, nt, ct, rfl⟩ : ∃ A n c, tv = .slice A n c := by
  cases up with
  | none => exact ⟨_, _, _, hu⟩
  | some b => obtain ⟨a, n, c, q, h1, _⟩ := hu; exact ⟨_, _, _, h1⟩
 have hlt : ∀ q, X q -> q < w.heap.size := by obtain ⟨_, _, _, _, _, _, _, h4⟩ := h.px; exact h4
 obtain ⟨_, _, P, F, hF⟩ := h.store; obtain ⟨c, hc⟩ := nm (beginC s.page s.n); rw [<- hc] at hF; have hpc := h.pgc; rw [<- hc] at hpc; have H := lh h; have HC := lh hc; have HPC := lh hpc; have HF := lh hF; have HK := lh hk; have HKX := lh hkX; have HU := lh hu; have HLT := lh hlt; have HEE := lh hE; have HBG := lh h.begin; clear h hc hpc hF hk hkX hE hu hlt; have ht8 : ((t : Nat) : Int) < 8 := by omega
 have ht8' : ¬ (8 : Int) <= ((t : Nat) : Int) := by omega
 have ht0 : ¬ ((t : Nat) : Int) < 0 := by omega
 have hm0 : ¬ ((most : Nat) : Int) < 0 := by omega
 refine calls_post fun R HQ => ?_
 go_enter Tryz.func11, Tryz.ntmps11
 go_wp2_with fail; refine HBG.out.mono ?_; rintro e w1 ⟨bc, bn, bs, rfl, hch⟩; rw [<- HC.out] at hch; have HCH := lh hch; have cr := hch.blk.at_ (chC_root c g bn bs ht); clear hch HBG
 by_cases hr : c.roots t = 0
 ·rw [hr] at cr
  have hEt : E t = [] := by
   rcases HF.out.tree t ht with ⟨_, h, _⟩ | ⟨h, _⟩
   ·exact h
   ·exact absurd hr h
  have HX := lh (HQ.out (.returned (.tuple #[.slice none 0 0, .int .i64 0])) w1 ⟨.slice none 0 0, [], rfl, by rw [hEt]; exact own_nil _ _ _ _, by rw [hEt]; trivial, HCH.out.fr⟩); have HR0 := lh hr; clear hr hEt; go_wp2_with fail; exact HX.out
 ·have hrI : ¬ ((c.roots t : Nat) : Int) = 0 := by omega
  obtain ⟨hh, P', hs, hht⟩ : ∃ hh P', Sub c.N 1 hh (c.roots t) none none (E t) P' /\ hh < 40 := by
   rcases HF.out.tree t ht with ⟨h, _, _⟩ | ⟨_, hh, hs⟩
   ·exact absurd h hr
   ·exact ⟨hh, _, hs, height_lt hs (by have := HEE.out; omega)⟩
  obtain ⟨w2, hw2⟩ := nm (w1.alloc (.cells (walkC bc (.slice Af low.length cf) (.slice At nt ct) (.slice none 0 0) most).toArray 95)); have hf2 : Fr [] w1 w2 := by rw [hw2]; exact (Fr.refl [] _).alloc _
  have hb2 : Blk w2 w1.heap.size 95 (walkC bc (.slice Af low.length cf) (.slice At nt ct) (.slice none 0 0) most) := by rw [hw2]; exact Blk.new w1 _ (walkC bc (.slice Af low.length cf) (.slice At nt ct) (.slice none 0 0) most)
  have hz1 := HCH.out.fr.size; have hz2 := hf2.size; have hcl := HCH.out.lts; obtain ⟨D, hD⟩ : ∃ D : Nat -> Prop, D = fun q => Dm_ X w bc bn bs q /\ q ≠ w1.heap.size := ⟨_, rfl⟩
  have hdv : ∀ q, X q -> Dv D (.slice none 0 0) q := fun q hq => by
   have h1 := HLT.out q hq; have h2 := HCH.out.l1; have h3 := HCH.out.l2; have h4 := HCH.out.l3; rw [hD]; exact ⟨⟨⟨.inl hq, by omega, by omega, by omega⟩, by omega⟩, fun e => by cases e⟩
  have hfw2 : Fr [] w w2 := HCH.out.fr.trans hf2 (by simp)
  have W2 : Hid (Wst w1.heap.size w g bc bn bs w1.heap.size D c (.slice Af low.length cf) (.slice At nt ct) low up most [] (.slice none 0 0) w2) := lh {
   ch := by
    refine (HCH.out.re (D' := Dv D (.slice none 0 0)) (fun q hq hl => ?_) ⟨w1.heap.size + 1, ?_, by omega⟩ (fun q hq => ?_)).frame hf2
    ·rw [hD]; exact ⟨⟨hq, by omega⟩, fun e => by cases e⟩
    ·rw [hD]; exact ⟨⟨⟨.inr (by omega), by omega, by omega, by omega⟩, by omega⟩, fun e => by cases e⟩
    ·rw [hD] at hq; exact hq.1.1.2
   bwk := hb2
   low := ⟨gf, HK.out.fr hfw2 (by simp), hdv _ HKX.out⟩
   up := by
    have h1 := HU.out.fr hfw2 (by simp)
    cases up with
    | none => exact h1
    | some b => obtain ⟨a, n, ca, q, h2, h3, h4⟩ := h1; exact ⟨a, n, ca, q, h2, h3, hdv _ h4⟩
   row := ⟨[], own_nil _ _ _ _, trivial⟩
   nb := fun q hq => by rw [hD] at hq; exact ⟨hq.2, hq.1.2⟩
   top := fun q hq => by rw [hD]; have := hb2.lt; exact ⟨⟨.inr (by omega), by omega, by omega, by omega⟩, by omega⟩
   own := fun q e => by cases e
   hb := ⟨by omega, by omega, by omega⟩
   hH := hz1
   hw := hz1
   hz := hz2 }
  have HWN := lh (walk_node HPC.out HF.out.e hh 40 _ 0 _ _ _ _ _ _ _ hht rfl hs W2.out (by have := HEE.out; simpa using this)); have HD := lh hD; have HR0 := lh hr; have HHT := lh hht; have HB1 : Hid (w.heap.size <= bc) := lh HCH.out.l1; have HZ1 := lh hz1; have cr2 := fr_keep hf2 cr; have HFW2 := lh hfw2; clear hr hs hht hf2 hb2 hz1 hz2 hcl hD hdv hfw2; unfold walkC at hw2; go_upto_region 7 with fail
  rw [<- hw2]; clear hw2 cr; go_wp2_with fail; refine HWN.out.mono ?_; rintro e w3 ⟨ov, rfl, hW3, hG3⟩; have W3 := lh hW3
  have HX := lh (HQ.out (.returned (.tuple #[ov, .int .i64 0])) w3 (by
   obtain ⟨cs, h1, h2⟩ := hW3.row; refine ⟨ov, cs, rfl, own_base h1 (fun q hq => by have := (h1.lt q hq).1; have := HZ1.out; omega), h2.re (fun q hq _ => ?_) ⟨w.heap.size, .inr (Nat.le_refl _)⟩, HFW2.out.trans hG3.fr fun q hq => .inr ?_⟩
   ·have h3 := hq.1; rw [HD.out] at h3; exact h3.1.1
   ·simp only [List.mem_cons, Option.mem_toList] at hq; have h1 := HB1.out; have h2 := HZ1.out; rcases hq with h | h | h
    ·omega
    ·omega
    ·cases h))
  clear hW3 hG3 HWN cr2; have c13 := W3.out.ch.blk.at_ (i := 13) rfl; rw [HF.out.e] at c13; have c4 := W3.out.bwk.at_ (i := 4) rfl; go_wp2_with fail; exact HX.out
end
def KidsB (N : Nat -> Option Nd) (h : Nat) (n : Nd) (i : Nat) (lo hi : Option Ky) (PR : List Nat) : Prop := ∃ ER, Kids (Sub N 1 h) (loOf lo (n.l.take i)) (n.child i) (n.l.drop i) hi ER PR
theorem kidsB_last {N : Nat -> Option Nd} {h i : Nat} {n : Nd} {lo hi : Option Ky} {PR : List Nat} (hk : KidsB N h n i lo hi PR) (hi' : i = n.l.length) : ∃ E, Sub N 1 h (n.child i) (loOf lo (n.l.take i)) hi E PR := by
 obtain ⟨ER, h1⟩ := hk; have : n.l.drop i = [] := by rw [hi', List.drop_length]
 rw [this] at h1; exact ⟨ER, h1⟩
theorem kidsB_next {N : Nat -> Option Nd} {h i : Nat} {n : Nd} {lo hi : Option Ky} {PR : List Nat} {x : It} (hk : KidsB N h n i lo hi PR) (hx : n.l[i]? = some x) :
  ∃ E1 P1 P2, Sub N 1 h (n.child i) (loOf lo (n.l.take i)) (some x.key) E1 P1 /\ PR = P1 ++ P2 /\ KidsB N h n (i + 1) lo hi P2 := by
 obtain ⟨ER, h1⟩ := hk; rw [drop_one hx] at h1; obtain ⟨E1, P1, E2, P2, h2, h3, rfl, rfl⟩ := h1; refine ⟨E1, P1, P2, h2, rfl, E2, ?_⟩
 have e : n.child (i + 1) = x.at_ := by
  unfold Nd.child; rw [take_one hx, chOf_last]
 rw [e, take_one hx, loOf_snoc]; exact h3
theorem loOf_take {n : Nd} {lo : Option Ky} {j : Nat} {x : It} (hx : n.l[j]? = some x) : loOf lo (n.l.take (j + 1)) = some x.key := by rw [take_one hx, loOf_snoc]
theorem nf_keys {N : Nat -> Option Nd} {h : Nat} {n : Nd} {lo hi : Option Ky} {E : En} {P : List Nat} (hn : NF N h n lo hi E P) : KRise n.l /\ ∀ x ∈ n.l, geLo lo x.key /\ ltHi hi x.key := by
 cases h with
 | zero =>
  obtain ⟨_, rfl, _, hr, hw⟩ := hn; exact ⟨rise_keys hr, fun x hx => hw (x.key, x.v) (List.mem_map.2 ⟨x, hx, rfl⟩)⟩
 | succ h =>
  obtain ⟨h1, h2⟩ := Kids.keys Sub.fine (S := Sub N 1 h) hn.2; exact ⟨h1, fun x hx => ⟨fun a ha hk => klt_irrefl _ (klt_trans hk ((h2 x hx).1 a ha)), (h2 x hx).2⟩⟩
theorem krise_at {l : List It} (h : KRise l) {j : Nat} {x y : It} (hx : l[j]? = some x) (hy : l[j + 1]? = some y) : klt x.key y.key := by
 obtain ⟨h1, h2⟩ := List.getElem?_eq_some_iff.1 hx; obtain ⟨h3, h4⟩ := List.getElem?_eq_some_iff.1 hy; have := List.pairwise_iff_getElem.1 h j (j + 1) h1 h3 (by omega)
 rwa [h2, h4] at this
structure Cst (wS : World) (g bc bn bs bk bm : Nat) (D : Nat -> Prop) (c : CD) (m : List (Nat × Value)) (kd : Nat) (w : World) : Prop where
 ch : ChAt wS w g bc bn bs D c
 blk : Blk w bk 108 [.pointer (some ⟨bc, 0, none⟩), .map (some bm), .int .i64 (kd : Int)]
 met : VAt w bm m
 nb : ∀ q, D q -> q ≠ bk /\ q ≠ bm /\ q ≠ bc /\ q ≠ bn /\ q ≠ bs
 top : ∀ q, w.heap.size <= q -> D q
 hb : bk ≠ bm /\ bk ≠ bc /\ bk ≠ bn /\ bk ≠ bs /\ bm ≠ bc /\ bm ≠ bn /\ bm ≠ bs
 hw : wS.heap.size <= bk /\ wS.heap.size <= bm
def FromK (D : Nat -> Prop) (w : World) (fv : Value) (lo : Option Ky) : Prop := ∃ q, BytesAt w fv (lo.getD []) q /\ D q
section
variable {wS w w1 w2 : World} {g bc bn bs bk bm : Nat} {D : Nat -> Prop} {c : CD} {m m' : List (Nat × Value)} {kd kd' : Nat} {fv tv : Value} {lo hi : Option Ky}
theorem Cst.to (h : Cst wS g bc bn bs bk bm D c m kd w1) (hf : Fr [bk, bm] w1 w2) (hb : Blk w2 bk 108 [.pointer (some ⟨bc, 0, none⟩), .map (some bm), .int .i64 (kd' : Int)]) (hm : VAt w2 bm m') : Cst wS g bc bn bs bk bm D c m' kd' w2 := by
 have hz := hf.size; refine ⟨h.ch.frS hf fun q hq => ?_, hb, hm, h.nb, fun q hq => h.top q (by omega), h.hb, h.hw⟩; simp only [List.mem_cons, List.not_mem_nil, or_false] at hq; have := h.hb; have := h.hw; rcases hq with rfl | rfl
 ·exact .inr ⟨by omega, fun hd => (h.nb _ hd).1 rfl, by omega, by omega, by omega⟩
 ·exact .inr ⟨by omega, fun hd => (h.nb _ hd).2.1 rfl, by omega, by omega, by omega⟩
theorem Cst.quiet (h : Cst wS g bc bn bs bk bm D c m kd w1) (hf : Fr [] w1 w2) : Cst wS g bc bn bs bk bm D c m kd w2 := h.to (hf.mono (by simp)) (h.blk.fr hf (by simp)) (h.met.fr hf (by simp))
theorem Cst.off (h : Cst wS g bc bn bs bk bm D c m kd w1) : ∀ q, D q -> q ∈ [bk, bm] -> w1.heap.size <= q := fun q hq hm => by
 simp only [List.mem_cons, List.not_mem_nil, or_false] at hm; have := h.nb q hq; omega
theorem FromK.fr {S : List Nat} (h : FromK D w fv lo) (hf : Fr S w w1) (hS : ∀ q, D q -> q ∈ S -> w.heap.size <= q) : FromK D w1 fv lo := by
 obtain ⟨q, h1, h2⟩ := h; exact ⟨q, h1.frD hf (hS _ h2), h2⟩
def CEnd (wS : World) (g bc bn bs bk bm : Nat) (D : Nat -> Prop) (c : CD) (K : Nat) (m : List (Nat × Value)) (w : World) (P : List Nat) (e : Ending) (w' : World) : Prop :=
 ∃ m' kd', e = .returned (.bool true) /\ Cst wS g bc bn bs bk bm D c m' kd' w' /\ Fr [bk, bm] w w' /\ (kd' = 0 ∨ kd' = K) /\ (∀ q, q ∉ P -> getA m q = none -> getA m' q = none) /\ m'.length <= m.length + P.length
end
theorem zero_bool (w : World) : (zeroValue 4).run Tryz.prog w = .ok (.bool false) w := by kernel_rfl
end
end Go.Proofs.YtpjbdpepofnleaaGreat
