/-
  Joined by join.py: Qt
-/
import Derived.Test.YtpjbdpepofnleaaGreatJrg20
section
namespace Go.Proofs.YtpjbdpepofnleaaGreat
open Go.RowKit Go.ChangeMaps Go.MapKept Go.Maps Go.Sort Go.Shelf
theorem info_en : (Tryz.prog.info? 39).map (fun i => (i.zero, i.size, i.bytes)) = some (some (.agg #[.slice none 0 0, .slice none 0 0]), 2, 48) := by kernel_rfl
theorem enter_compare (vs : Array Value) (w : World) : (callFunc 78 vs).run Tryz.prog w = .ok (.enter 78 vs) w := by kernel_rfl
theorem enter_clone (vs : Array Value) (w : World) : (callFunc 32 vs).run Tryz.prog w = .ok (.enter 32 vs) w := by kernel_rfl
def WEnd (H : Nat) (wS : World) (g bc bn bs bw : Nat) (D : Nat → Prop) (c : CD) (fv tv : Value) (low : Ky) (up : Option Ky) (most : Nat) (out : En) (ov : Value) (w : World) (E : En) (e : Ending) (w' : World) : Prop :=
  ∃ ov', e = .returned (.bool (goE low up most out E).2) ∧ Wst H wS g bc bn bs bw D c fv tv low up most (goE low up most out E).1 ov' w' ∧ WFr bc bw ov w ov' w'
theorem drop_one {α : Type} {l : List α} {i : Nat} {x : α} (h : l[i]? = some x) : l.drop i = x :: l.drop (i + 1) := by
  obtain ⟨h1, h2⟩ := List.getElem?_eq_some_iff.1 h
  rw [List.drop_eq_getElem_cons h1, h2]
section
variable {H g bc bn bs bw : Nat} {wS w : World} {D : Nat → Prop} {c : CD} {fv tv ov : Value} {low : Ky} {up : Option Ky} {most : Nat} {out : En}
set_option maxRecDepth 100000 in
set_option maxHeartbeats 8000000 in
/-- A leaf's entries. -/
theorem walk_leaf {n : Nd} {nv : Value} (h : Wst H wS g bc bn bs bw D c fv tv low up most out ov w) (hn : NdV (Dv D ov) w 0 nv n) (hok : n.ok) (hfew : n.l.length ≤ 509) (hlen : out.length + n.l.length ≤ 1000000) :
    Calls Tryz.prog 75 #[.pointer (some ⟨bw, 0, none⟩), nv] w (WEnd H wS g bc bn bs bw D c fv tv low up most out ov w (entOf n.l)) := by
  obtain ⟨A, ca, cs, rfl, hca, hown, hits, hcell⟩ := hn.parts
  obtain ⟨wb, hwb⟩ : ∃ wb, wb = w.alloc (.cells #[.int .i64 (kindOf n), .int .i64 (n.first : Int), .slice A n.l.length ca] 88) := ⟨_, rfl⟩
  have hfb : Fr [] w wb := by rw [hwb]; exact (Fr.refl [] w).alloc _
  have hb3 : Blk wb w.heap.size 88 [.int .i64 (kindOf n), .int .i64 (n.first : Int), .slice A n.l.length ca] := by rw [hwb]; exact Blk.new w _ [.int .i64 (kindOf n), .int .i64 (n.first : Int), .slice A n.l.length ca]
  have d2 := hb3.at_ (i := 2) rfl
  have HN := Lib.hid hn; have HOWN := Lib.hid hown; have HITS := Lib.hid hits; have HCELL := Lib.hid hcell; have HOK := Lib.hid hok; have HFEW := Lib.hid hfew
  have WB := Lib.hid (h.quiet hfb); have HFB := Lib.hid hfb; have HW0 := Lib.hid h
  have HLEN := Lib.hid hlen
  clear h hn hown hits hcell hok hfb hb3 hlen
  refine calls_post fun R HQ => ?_
  go_enter Tryz.func75, Tryz.ntmps75
  go_upto_region 1 with fail
  rw [← hwb]
  clear hwb
  go_wp2_with fail
  go_loopw [10] (fun v wr => ∃ (i : Nat) (outi : En) (ovi : Value), i ≤ n.l.length ∧ v = .int .i64 (i : Int) ∧ Wst H wS g bc bn bs bw D c fv tv low up most outi ovi wr ∧ WFr bc bw ov wb ovi wr ∧ goE low up most out (entOf n.l) = goE low up most outi (entOf (n.l.drop i)) ∧ outi.length + (n.l.length - i) ≤ 1000000) (fun v _ => n.l.length - (intOf v).toNat)
  case atStart => exact ⟨0, out, ov, Nat.zero_le _, rfl, WB.out, WFr.refl, rfl, HLEN.out⟩
  case round =>
    obtain ⟨i0, outi, ovi, hi0, rfl, hW, hG, hgo, hle⟩ := hrel
    obtain ⟨Ao, co, rfl⟩ := hW.shape
    have W1 := Lib.hid hW; have G1 := Lib.hid hG; have HGO := Lib.hid hgo; have HLE := Lib.hid hle
    clear hW hG hgo hle d2
    by_cases hi : i0 < n.l.length
    · obtain ⟨x, hx⟩ : ∃ x, n.l[i0]? = some x := ⟨_, List.getElem?_eq_getElem hi⟩
      have hxm := List.mem_of_getElem? hx
      have HXO := Lib.hid (HOK.out.item x hxm)
      have HCONS : Hid (entOf (n.l.drop i0) = (x.key, x.v) :: entOf (n.l.drop (i0 + 1))) := Lib.hid (by rw [drop_one hx]; rfl)
      obtain ⟨kv, vv, av, e0, e1, e2, hic⟩ := HITS.out.at_ hx
      obtain ⟨gr, hA, hcg⟩ := HCELL.out (by omega)
      have hgr : Dv D ov gr := by
        obtain ⟨sv2, cs2, z1, z2, z3, z4⟩ := HN.out
        refine z4 gr ?_
        injection z1 with z1
        simp at z1
        rw [← z1, hA]; rfl
      have hgrS : gr ∉ bc :: bw :: ov.ownBlock.toList := by
        have := HW0.out.nb gr hgr.1
        simp only [List.mem_cons, Option.mem_toList]
        rintro (h | h | h)
        · exact this.2.1 h
        · exact this.1 h
        · exact hgr.2 h
      subst hA
      have i1 := fr_keepS G1.out.fr hgrS (fr_keep HFB.out (hcg _ _ e0))
      have i2 := fr_keepS G1.out.fr hgrS (fr_keep HFB.out (hcg _ _ e1))
      have i3 := fr_keepS G1.out.fr hgrS (fr_keep HFB.out (hcg _ _ e2))
      have hic' : ItC (Dv D ov) wr x kv vv av := (hic.fr HFB.out (by simp)).fr G1.out.fr fun q hq hm => by
        have h1 := HW0.out.nb q hq.1
        simp only [List.mem_cons, Option.mem_toList] at hm
        rcases hm with h | h | h
        · exact absurd h h1.2.1
        · exact absurd h h1.1
        · exact absurd h hq.2
      have HON := Lib.hid hic'.one
      obtain ⟨⟨gk, hgk, _⟩, ⟨gv, hgv, _⟩, hav⟩ := hic'
      have HBKr := Lib.hid hgk; have HBVr := Lib.hid hgv
      obtain ⟨Ak, ck, _, rfl, _, _⟩ := hgk
      obtain ⟨Aw, cw, _, rfl, _, _⟩ := hgv
      subst hav
      clear hx hxm e0 e1 e2 hic hcg hgr hgrS
      have hw1 : IntKind.i64.wrap ((i0 : Int) + 1) = (i0 : Int) + 1 := by rw [IntKind.wrap_i64]; omega
      go_wp2_with (first
        | (with_reducible refine wpList_alloc_z rfl 77 rfl (.agg #[.slice none 0 0, .slice none 0 0, .int .i64 0]) zit.toArray zero_it rfl ?_)
        | (refine wpList_store_z (W := wr) rfl 77 (.tmp 6) (.tmp 13) rfl [.slice Ak x.key.length ck, .slice Aw x.v.length cw, .int .i64 (x.at_ : Int)] rfl rfl rfl size_it rfl HON.out ?_))
      intro w4 hb4 hf4 hz4
      obtain ⟨p6, hp6⟩ : ∃ p6, p6 = wr.heap.size := ⟨_, rfl⟩
      rw [← hp6] at hb4 ⊢
      have W2 := Lib.hid (W1.out.quiet hf4); have G2 := Lib.hid (G1.out.quiet hf4); have B2 := Lib.hid hb4
      have HBK4 := Lib.hid (HBKr.out.fr hf4 (by simp)); have HBV4 := Lib.hid (HBVr.out.fr hf4 (by simp))
      have HP6O : Hid ((Value.slice Ao outi.length co).ownBlock ≠ some p6) := Lib.hid (fun e => by have := (W1.out.lt _ e).2; omega)
      clear hb4 hf4 hz4 i1 i2 i3 hp6
      go_upto_region 4 with fail
      have W3 := Lib.hid (W2.out.quiet ((Fr.refl [] w4).drew)); have G3 := Lib.hid (G2.out.quiet ((Fr.refl [] w4).drew)); have B3 := Lib.hid (B2.out.fr ((Fr.refl [] w4).drew) (by simp))
      have HBK5 := Lib.hid (HBK4.out.fr ((Fr.refl [] w4).drew) (by simp)); have HBV5 := Lib.hid (HBV4.out.fr ((Fr.refl [] w4).drew) (by simp))
      clear W1 W2 G1 G2 B2 HBKr HBVr HBK4 HBV4
      obtain ⟨ql, hql, _⟩ := W3.out.low
      have HLOW := Lib.hid hql
      have k0 := B3.out.at_ (i := 0) rfl
      have f1 := W3.out.bwk.at_ (i := 1) rfl
      clear hql
      refine wp_region_K (fun W => W.cell? ⟨p6, 0, none⟩ = some (.slice Ak x.key.length ck) ∧ W.cell? ⟨bw, 1, none⟩ = some fv) [0, 1, 2, 3, 4, 5, 6, 8] (by kernel_rfl) ?_
      refine wpAnyK_take (i := 0) (some 15) ?vq1_0 rfl rfl (by kernel_rfl) (fun _ _ _ h => h) ⟨k0, f1⟩ (.inl ⟨rfl, fun W hW => ?yq1_0⟩) ?_
      case yq1_0 => (obtain ⟨q0, q1⟩ := hW; go_simp) <;> with_reducible rfl
      simp only [nrm]
      refine wpAnyK_take (i := 1) (some 16) ?vq1_1 rfl rfl (by kernel_rfl) (fun _ _ _ h => h) ⟨k0, f1⟩ (.inl ⟨rfl, fun W hW => ?yq1_1⟩) ?_
      case yq1_1 => (obtain ⟨q0, q1⟩ := hW; go_simp) <;> with_reducible rfl
      simp only [nrm]
      refine wpAnyK_take (i := 2) (some 17) ?vq1_2 rfl rfl (by kernel_rfl) (fun _ _ _ h => h) ⟨k0, f1⟩ (.inl ⟨rfl, fun W hW => ?yq1_2⟩) ?_
      case yq1_2 => (obtain ⟨q0, q1⟩ := hW; go_simp) <;> with_reducible rfl
      simp only [nrm]
      refine wpAnyK_take (i := 3) (some 18) ?vq1_3 rfl rfl (by kernel_rfl) (fun _ _ _ h => h) ⟨k0, f1⟩ (.inl ⟨rfl, fun W hW => ?yq1_3⟩) ?_
      case yq1_3 => (obtain ⟨q0, q1⟩ := hW; go_simp) <;> with_reducible rfl
      simp only [nrm]
      refine wpAnyK_take (i := 4) (some 19) ?vq1_4 rfl rfl (by kernel_rfl) (fun _ _ _ h => h) ⟨k0, f1⟩ (.inl ⟨rfl, fun W hW => ?yq1_4⟩) ?_
      case yq1_4 => (obtain ⟨q0, q1⟩ := hW; go_simp) <;> with_reducible rfl
      simp only [nrm]
      refine wpAnyK_take (i := 5) (some 20) ?vq1_5 rfl rfl (by kernel_rfl) (fun _ _ _ h => h) ⟨k0, f1⟩ (.inl ⟨rfl, fun W hW => ?yq1_5⟩) ?_
      case yq1_5 => (obtain ⟨q0, q1⟩ := hW; go_simp) <;> with_reducible rfl
      simp only [nrm]
      refine wpAnyK_take (i := 6) (some 21) ?vq1_6 rfl rfl (by kernel_rfl) (fun _ _ _ h => h) ⟨k0, f1⟩ (.inl ⟨rfl, fun W hW => ?yq1_6⟩) ?_
      case yq1_6 => (obtain ⟨q0, q1⟩ := hW; go_simp) <;> with_reducible rfl
      simp only [nrm]
      refine wpAnyK_step (j := 7) (some 22) rfl rfl (by kernel_rfl) rfl fun K hK => ?_
      refine wp_call_f (l := [.tmp 17, .tmp 21]) rfl [.slice Ak x.key.length ck, fv] rfl (enter_compare _) ((bytes_compare HBK5.out HLOW.out).mono ?_)
      rintro e w5 ⟨rfl, rfl⟩
      refine ⟨_, rfl, hK _ _ (fun _ => ⟨k0, f1⟩) ?_⟩
      simp only [nrm]
      clear hK
      refine wpAnyK_take (i := 8) (some 23) ?vq1_8 rfl rfl (by kernel_rfl) (fun _ _ _ h => h) ⟨k0, f1⟩ (.inl ⟨rfl, fun W hW => ?yq1_8⟩) ?_
      case yq1_8 => (obtain ⟨q0, q1⟩ := hW; go_simp) <;> with_reducible rfl
      simp only [nrm]
      refine wpAnyK_step (j := 9) (some 14) rfl rfl (by kernel_rfl) rfl fun K hK => ?_
      refine wp_run_same (v := ?aq1_9) ?yq1_9 (hK _ _ (fun _ => ⟨k0, f1⟩) ?_)
      case yq1_9 => go_simp <;> with_reducible rfl
      simp only [nrm]
      refine wpAnyK_done (by kernel_rfl) ?_ _
      clear k0 f1 HLOW
      generalize w4.drew = w5 at *
      by_cases hkl : klt x.key low
      · have hlt : Lib.compareBytes x.key low < 0 := hkl
        have HX : Hid (∃ (i : Nat) (outi : En) (ovi : Value), i ≤ n.l.length ∧ Value.int .i64 ((i0 : Int) + 1) = .int .i64 (i : Int) ∧ Wst H wS g bc bn bs bw D c fv tv low up most outi ovi w5 ∧ WFr bc bw ov wb ovi w5 ∧ goE low up most out (entOf n.l) = goE low up most outi (entOf (n.l.drop i)) ∧ outi.length + (n.l.length - i) ≤ 1000000) := Lib.hid ⟨i0 + 1, outi, _, hi, rfl, W3.out, G3.out, by
          rw [HGO.out, HCONS.out, goE_cons, if_pos hkl], by have := HLE.out; omega⟩
        clear hkl
        go_wp2_with fail
        go_roundw
        case rel => exact HX.out
        case measure => simp [intOf]; omega
      · have hlt : ¬ Lib.compareBytes x.key low < 0 := hkl
        have HNL := Lib.hid hkl
        clear hkl
        have c4 := (W3.out.bwk.fr ((Fr.refl [] w5).drew) (by simp)).at_ (i := 4) rfl
        have c3 := (W3.out.bwk.fr ((Fr.refl [] w5).drew) (by simp)).at_ (i := 3) rfl
        have c2 := (W3.out.bwk.fr ((Fr.refl [] w5).drew) (by simp)).at_ (i := 2) rfl
        have k0 := (B3.out.fr ((Fr.refl [] w5).drew) (by simp)).at_ (i := 0) rfl
        have W6 := Lib.hid (W3.out.quiet ((Fr.refl [] w5).drew)); have G6 := Lib.hid (G3.out.quiet ((Fr.refl [] w5).drew)); have B6 := Lib.hid (B3.out.fr ((Fr.refl [] w5).drew) (by simp))
        have HBK := Lib.hid (HBK5.out.fr ((Fr.refl [] w5).drew) (by simp)); have HBV := Lib.hid (HBV5.out.fr ((Fr.refl [] w5).drew) (by simp))
        go_upto_region 5 with fail
        clear W3 G3 B3 HBK5 HBV5
        by_cases hmost : outi.length = most
        · have hmI : ((outi.length : Nat) : Int) = (most : Int) := by omega
          have HSTOP : Hid (outi.length = most ∨ pastB up (x.key, x.v).1 = true) := Lib.hid (.inl hmost)
          have HMOST := Lib.hid hmost
          clear hmost
          refine wp_region_K (fun W => W.cell? ⟨bw, 4, none⟩ = some (.slice Ao outi.length co) ∧ W.cell? ⟨bw, 3, none⟩ = some (.int .i64 (most : Int)) ∧ W.cell? ⟨bw, 2, none⟩ = some tv ∧ W.cell? ⟨p6, 0, none⟩ = some (.slice Ak x.key.length ck)) [0, 1, 2, 3, 4, 5, 6, 7, 8, 9, 10, 11, 12, 13, 14, 15, 16, 17, 18, 19, 20, 21, 22, 23, 24, 25, 26, 27] (by kernel_rfl) ?_
          refine wpAnyK_take (i := 0) (some 25) ?vq2_0 rfl rfl (by kernel_rfl) (fun _ _ _ h => h) ⟨c4, c3, c2, k0⟩ (.inl ⟨rfl, fun W hW => ?yq2_0⟩) ?_
          case yq2_0 => (obtain ⟨q0, q1, q2, q3⟩ := hW; go_simp) <;> with_reducible rfl
          simp only [nrm]
          refine wpAnyK_take (i := 1) (some 26) ?vq2_1 rfl rfl (by kernel_rfl) (fun _ _ _ h => h) ⟨c4, c3, c2, k0⟩ (.inl ⟨rfl, fun W hW => ?yq2_1⟩) ?_
          case yq2_1 => (obtain ⟨q0, q1, q2, q3⟩ := hW; go_simp) <;> with_reducible rfl
          simp only [nrm]
          refine wpAnyK_take (i := 2) (some 27) ?vq2_2 rfl rfl (by kernel_rfl) (fun _ _ _ h => h) ⟨c4, c3, c2, k0⟩ (.inl ⟨rfl, fun W hW => ?yq2_2⟩) ?_
          case yq2_2 => (obtain ⟨q0, q1, q2, q3⟩ := hW; go_simp) <;> with_reducible rfl
          simp only [nrm]
          refine wpAnyK_take (i := 3) (some 28) ?vq2_3 rfl rfl (by kernel_rfl) (fun _ _ _ h => h) ⟨c4, c3, c2, k0⟩ (.inl ⟨rfl, fun W hW => ?yq2_3⟩) ?_
          case yq2_3 => (obtain ⟨q0, q1, q2, q3⟩ := hW; go_simp) <;> with_reducible rfl
          simp only [nrm]
          refine wpAnyK_take (i := 4) (some 29) ?vq2_4 rfl rfl (by kernel_rfl) (fun _ _ _ h => h) ⟨c4, c3, c2, k0⟩ (.inl ⟨rfl, fun W hW => ?yq2_4⟩) ?_
          case yq2_4 => (obtain ⟨q0, q1, q2, q3⟩ := hW; go_simp) <;> with_reducible rfl
          simp only [nrm]
          refine wpAnyK_take (i := 5) (some 30) ?vq2_5 rfl rfl (by kernel_rfl) (fun _ _ _ h => h) ⟨c4, c3, c2, k0⟩ (.inl ⟨rfl, fun W hW => ?yq2_5⟩) ?_
          case yq2_5 => (obtain ⟨q0, q1, q2, q3⟩ := hW; go_simp) <;> with_reducible rfl
          simp only [nrm]
          refine wpAnyK_take (i := 6) (some 31) ?vq2_6 rfl rfl (by kernel_rfl) (fun _ _ _ h => h) ⟨c4, c3, c2, k0⟩ (.inl ⟨rfl, fun W hW => ?yq2_6⟩) ?_
          case yq2_6 => (obtain ⟨q0, q1, q2, q3⟩ := hW; go_simp) <;> with_reducible rfl
          simp only [nrm]
          refine wpAnyK_take (i := 7) (some 32) ?vq2_7 rfl rfl (by kernel_rfl) (fun _ _ _ h => h) ⟨c4, c3, c2, k0⟩ (.inl ⟨rfl, fun W hW => ?yq2_7⟩) ?_
          case yq2_7 => (obtain ⟨q0, q1, q2, q3⟩ := hW; go_simp) <;> with_reducible rfl
          simp only [nrm]
          refine wpAnyK_take (i := 8) (some 33) ?vq2_8 rfl rfl (by kernel_rfl) (fun _ _ _ h => h) ⟨c4, c3, c2, k0⟩ (.inl ⟨rfl, fun W hW => ?yq2_8⟩) ?_
          case yq2_8 => (obtain ⟨q0, q1, q2, q3⟩ := hW; go_simp) <;> with_reducible rfl
          simp only [nrm]
          refine wpAnyK_take (i := 9) (some 34) (.bool true) rfl rfl (by kernel_rfl) (fun _ _ _ h => h) ⟨c4, c3, c2, k0⟩ (.inl ⟨rfl, fun W' _ => by first | (simp [execOp, Act.eval, go_sem]; done) | (simp [execOp, Act.eval, Result.andThen, go_sem]; omega)⟩) ?_
          simp only [nrm]
          refine wpAnyK_take (i := 10) (some 35) ?vq2_10 rfl rfl (by kernel_rfl) (fun _ _ _ h => h) ⟨c4, c3, c2, k0⟩ (.inl ⟨rfl, fun W hW => ?yq2_10⟩) ?_
          case yq2_10 => (obtain ⟨q0, q1, q2, q3⟩ := hW; go_simp) <;> with_reducible rfl
          simp only [nrm]
          refine wpAnyK_take (i := 11) (some 36) (undef) rfl rfl (by kernel_rfl) (fun _ _ _ h => h) ⟨c4, c3, c2, k0⟩ (.inr ⟨rfl, rfl⟩) ?_
          simp only [nrm]
          refine wpAnyK_take (i := 12) (some 37) (undef) rfl rfl (by kernel_rfl) (fun _ _ _ h => h) ⟨c4, c3, c2, k0⟩ (.inr ⟨rfl, rfl⟩) ?_
          simp only [nrm]
          refine wpAnyK_take (i := 13) (some 38) (undef) rfl rfl (by kernel_rfl) (fun _ _ _ h => h) ⟨c4, c3, c2, k0⟩ (.inr ⟨rfl, rfl⟩) ?_
          simp only [nrm]
          refine wpAnyK_take (i := 14) (some 39) (undef) rfl rfl (by kernel_rfl) (fun _ _ _ h => h) ⟨c4, c3, c2, k0⟩ (.inr ⟨rfl, rfl⟩) ?_
          simp only [nrm]
          refine wpAnyK_take (i := 15) (some 40) (undef) rfl rfl (by kernel_rfl) (fun _ _ _ h => h) ⟨c4, c3, c2, k0⟩ (.inr ⟨rfl, rfl⟩) ?_
          simp only [nrm]
          refine wpAnyK_take (i := 16) (some 41) (undef) rfl rfl (by kernel_rfl) (fun _ _ _ h => h) ⟨c4, c3, c2, k0⟩ (.inr ⟨rfl, rfl⟩) ?_
          simp only [nrm]
          refine wpAnyK_take (i := 17) (some 42) (undef) rfl rfl (by kernel_rfl) (fun _ _ _ h => h) ⟨c4, c3, c2, k0⟩ (.inr ⟨rfl, rfl⟩) ?_
          simp only [nrm]
          refine wpAnyK_take (i := 18) (some 43) (undef) rfl rfl (by kernel_rfl) (fun _ _ _ h => h) ⟨c4, c3, c2, k0⟩ (.inr ⟨rfl, rfl⟩) ?_
          simp only [nrm]
          refine wpAnyK_take (i := 19) (some 44) (undef) rfl rfl (by kernel_rfl) (fun _ _ _ h => h) ⟨c4, c3, c2, k0⟩ (.inr ⟨rfl, rfl⟩) ?_
          simp only [nrm]
          refine wpAnyK_take (i := 20) (some 45) (undef) rfl rfl (by kernel_rfl) (fun _ _ _ h => h) ⟨c4, c3, c2, k0⟩ (.inr ⟨rfl, rfl⟩) ?_
          simp only [nrm]
          refine wpAnyK_take (i := 21) (some 46) (undef) rfl rfl (by kernel_rfl) (fun _ _ _ h => h) ⟨c4, c3, c2, k0⟩ (.inr ⟨rfl, rfl⟩) ?_
          simp only [nrm]
          refine wpAnyK_take (i := 22) (some 47) (undef) rfl rfl (by kernel_rfl) (fun _ _ _ h => h) ⟨c4, c3, c2, k0⟩ (.inr ⟨rfl, rfl⟩) ?_
          simp only [nrm]
          refine wpAnyK_take (i := 23) (some 48) (undef) rfl rfl (by kernel_rfl) (fun _ _ _ h => h) ⟨c4, c3, c2, k0⟩ (.inr ⟨rfl, rfl⟩) ?_
          simp only [nrm]
          refine wpAnyK_take (i := 24) (some 49) (undef) rfl rfl (by kernel_rfl) (fun _ _ _ h => h) ⟨c4, c3, c2, k0⟩ (.inr ⟨rfl, rfl⟩) ?_
          simp only [nrm]
          refine wpAnyK_take (i := 25) (some 50) (undef) rfl rfl (by kernel_rfl) (fun _ _ _ h => h) ⟨c4, c3, c2, k0⟩ (.inr ⟨rfl, rfl⟩) ?_
          simp only [nrm]
          refine wpAnyK_take (i := 26) (some 51) (undef) rfl rfl (by kernel_rfl) (fun _ _ _ h => h) ⟨c4, c3, c2, k0⟩ (.inr ⟨rfl, rfl⟩) ?_
          simp only [nrm]
          refine wpAnyK_take (i := 27) (some 52) ?vq2_27 rfl rfl (by kernel_rfl) (fun _ _ _ h => h) ⟨c4, c3, c2, k0⟩ (.inl ⟨rfl, fun W hW => ?yq2_27⟩) ?_
          case yq2_27 => (obtain ⟨q0, q1, q2, q3⟩ := hW; go_simp) <;> with_reducible rfl
          simp only [nrm]
          refine wpAnyK_step (j := 28) (some 24) rfl rfl (by kernel_rfl) rfl fun K hK => ?_
          refine wp_run_same (v := ?aq2_28) ?yq2_28 (hK _ _ (fun _ => ⟨c4, c3, c2, k0⟩) ?_)
          case yq2_28 => go_simp <;> with_reducible rfl
          simp only [nrm]
          refine wpAnyK_done (by kernel_rfl) ?_ _
          clear c4 c3 c2 k0
          have WG : Hid (WFr bc bw ov w (.slice Ao outi.length co) w5.drew) := Lib.hid (WFr.pre HFB.out G6.out)
          generalize w5.drew = w6 at *
          -- all is told: the result is false
          have HX := Lib.hid (HQ.out (.returned (.bool false)) _ ⟨_, by rw [HGO.out, HCONS.out, goE_cons, if_neg HNL.out, if_pos HSTOP.out], by rw [HGO.out, HCONS.out, goE_cons, if_neg HNL.out, if_pos HSTOP.out]; exact W6.out, WG.out⟩)
          go_wp2_with fail
          exact HX.out
        · have hmI : ¬ ((outi.length : Nat) : Int) = (most : Int) := by omega
          have HMOST := Lib.hid hmost
          clear hmost
          have hup := W6.out.up
          cases up with
          | none =>
            have htv : tv = .slice none 0 0 := hup
            subst htv
            clear hup
            have HGOON : Hid (¬ (outi.length = most ∨ pastB none (x.key, x.v).1 = true)) := Lib.hid (by
              rintro (h | h)
              · exact HMOST.out h
              · cases h)
            refine wp_region_K (fun W => W.cell? ⟨bw, 4, none⟩ = some (.slice Ao outi.length co) ∧ W.cell? ⟨bw, 3, none⟩ = some (.int .i64 (most : Int)) ∧ W.cell? ⟨bw, 2, none⟩ = some (.slice none 0 0) ∧ W.cell? ⟨p6, 0, none⟩ = some (.slice Ak x.key.length ck)) [0, 1, 2, 3, 4, 5, 6, 7, 8, 9, 10, 11, 12, 13, 14, 15, 16, 17, 18, 19, 20, 21, 22, 23, 24, 25, 26, 27] (by kernel_rfl) ?_
            refine wpAnyK_take (i := 0) (some 25) ?vq3_0 rfl rfl (by kernel_rfl) (fun _ _ _ h => h) ⟨c4, c3, c2, k0⟩ (.inl ⟨rfl, fun W hW => ?yq3_0⟩) ?_
            case yq3_0 => (obtain ⟨q0, q1, q2, q3⟩ := hW; go_simp) <;> with_reducible rfl
            simp only [nrm]
            refine wpAnyK_take (i := 1) (some 26) ?vq3_1 rfl rfl (by kernel_rfl) (fun _ _ _ h => h) ⟨c4, c3, c2, k0⟩ (.inl ⟨rfl, fun W hW => ?yq3_1⟩) ?_
            case yq3_1 => (obtain ⟨q0, q1, q2, q3⟩ := hW; go_simp) <;> with_reducible rfl
            simp only [nrm]
            refine wpAnyK_take (i := 2) (some 27) ?vq3_2 rfl rfl (by kernel_rfl) (fun _ _ _ h => h) ⟨c4, c3, c2, k0⟩ (.inl ⟨rfl, fun W hW => ?yq3_2⟩) ?_
            case yq3_2 => (obtain ⟨q0, q1, q2, q3⟩ := hW; go_simp) <;> with_reducible rfl
            simp only [nrm]
            refine wpAnyK_take (i := 3) (some 28) ?vq3_3 rfl rfl (by kernel_rfl) (fun _ _ _ h => h) ⟨c4, c3, c2, k0⟩ (.inl ⟨rfl, fun W hW => ?yq3_3⟩) ?_
            case yq3_3 => (obtain ⟨q0, q1, q2, q3⟩ := hW; go_simp) <;> with_reducible rfl
            simp only [nrm]
            refine wpAnyK_take (i := 4) (some 29) ?vq3_4 rfl rfl (by kernel_rfl) (fun _ _ _ h => h) ⟨c4, c3, c2, k0⟩ (.inl ⟨rfl, fun W hW => ?yq3_4⟩) ?_
            case yq3_4 => (obtain ⟨q0, q1, q2, q3⟩ := hW; go_simp) <;> with_reducible rfl
            simp only [nrm]
            refine wpAnyK_take (i := 5) (some 30) ?vq3_5 rfl rfl (by kernel_rfl) (fun _ _ _ h => h) ⟨c4, c3, c2, k0⟩ (.inl ⟨rfl, fun W hW => ?yq3_5⟩) ?_
            case yq3_5 => (obtain ⟨q0, q1, q2, q3⟩ := hW; go_simp) <;> with_reducible rfl
            simp only [nrm]
            refine wpAnyK_take (i := 6) (some 31) ?vq3_6 rfl rfl (by kernel_rfl) (fun _ _ _ h => h) ⟨c4, c3, c2, k0⟩ (.inl ⟨rfl, fun W hW => ?yq3_6⟩) ?_
            case yq3_6 => (obtain ⟨q0, q1, q2, q3⟩ := hW; go_simp) <;> with_reducible rfl
            simp only [nrm]
            refine wpAnyK_take (i := 7) (some 32) ?vq3_7 rfl rfl (by kernel_rfl) (fun _ _ _ h => h) ⟨c4, c3, c2, k0⟩ (.inl ⟨rfl, fun W hW => ?yq3_7⟩) ?_
            case yq3_7 => (obtain ⟨q0, q1, q2, q3⟩ := hW; go_simp) <;> with_reducible rfl
            simp only [nrm]
            refine wpAnyK_take (i := 8) (some 33) ?vq3_8 rfl rfl (by kernel_rfl) (fun _ _ _ h => h) ⟨c4, c3, c2, k0⟩ (.inl ⟨rfl, fun W hW => ?yq3_8⟩) ?_
            case yq3_8 => (obtain ⟨q0, q1, q2, q3⟩ := hW; go_simp) <;> with_reducible rfl
            simp only [nrm]
            refine wpAnyK_take (i := 9) (some 34) (.bool false) rfl rfl (by kernel_rfl) (fun _ _ _ h => h) ⟨c4, c3, c2, k0⟩ (.inl ⟨rfl, fun W' _ => by first | (simp [execOp, Act.eval, go_sem, hmI]; done) | (simp [execOp, Act.eval, Result.andThen, go_sem]; omega)⟩) ?_
            simp only [nrm]
            refine wpAnyK_take (i := 10) (some 35) ?vq3_10 rfl rfl (by kernel_rfl) (fun _ _ _ h => h) ⟨c4, c3, c2, k0⟩ (.inl ⟨rfl, fun W hW => ?yq3_10⟩) ?_
            case yq3_10 => (obtain ⟨q0, q1, q2, q3⟩ := hW; go_simp) <;> with_reducible rfl
            simp only [nrm]
            refine wpAnyK_take (i := 11) (some 36) ?vq3_11 rfl rfl (by kernel_rfl) (fun _ _ _ h => h) ⟨c4, c3, c2, k0⟩ (.inl ⟨rfl, fun W hW => ?yq3_11⟩) ?_
            case yq3_11 => (obtain ⟨q0, q1, q2, q3⟩ := hW; go_simp) <;> with_reducible rfl
            simp only [nrm]
            refine wpAnyK_take (i := 12) (some 37) ?vq3_12 rfl rfl (by kernel_rfl) (fun _ _ _ h => h) ⟨c4, c3, c2, k0⟩ (.inl ⟨rfl, fun W hW => ?yq3_12⟩) ?_
            case yq3_12 => (obtain ⟨q0, q1, q2, q3⟩ := hW; go_simp) <;> with_reducible rfl
            simp only [nrm]
            refine wpAnyK_take (i := 13) (some 38) ?vq3_13 rfl rfl (by kernel_rfl) (fun _ _ _ h => h) ⟨c4, c3, c2, k0⟩ (.inl ⟨rfl, fun W hW => ?yq3_13⟩) ?_
            case yq3_13 => (obtain ⟨q0, q1, q2, q3⟩ := hW; go_simp) <;> with_reducible rfl
            simp only [nrm]
            refine wpAnyK_take (i := 14) (some 39) ?vq3_14 rfl rfl (by kernel_rfl) (fun _ _ _ h => h) ⟨c4, c3, c2, k0⟩ (.inl ⟨rfl, fun W hW => ?yq3_14⟩) ?_
            case yq3_14 => (obtain ⟨q0, q1, q2, q3⟩ := hW; go_simp) <;> with_reducible rfl
            simp only [nrm]
            refine wpAnyK_take (i := 15) (some 40) (.bool false) rfl rfl (by kernel_rfl) (fun _ _ _ h => h) ⟨c4, c3, c2, k0⟩ (.inl ⟨rfl, fun W' _ => by simp [execOp, Act.eval, Result.andThen, go_sem, Tryz.underlying23]⟩) ?_
            simp only [nrm]
            refine wpAnyK_take (i := 16) (some 41) ?vq3_16 rfl rfl (by kernel_rfl) (fun _ _ _ h => h) ⟨c4, c3, c2, k0⟩ (.inl ⟨rfl, fun W hW => ?yq3_16⟩) ?_
            case yq3_16 => (obtain ⟨q0, q1, q2, q3⟩ := hW; go_simp) <;> with_reducible rfl
            simp only [nrm]
            refine wpAnyK_take (i := 17) (some 42) (undef) rfl rfl (by kernel_rfl) (fun _ _ _ h => h) ⟨c4, c3, c2, k0⟩ (.inr ⟨rfl, rfl⟩) ?_
            simp only [nrm]
            refine wpAnyK_take (i := 18) (some 43) (undef) rfl rfl (by kernel_rfl) (fun _ _ _ h => h) ⟨c4, c3, c2, k0⟩ (.inr ⟨rfl, rfl⟩) ?_
            simp only [nrm]
            refine wpAnyK_take (i := 19) (some 44) (undef) rfl rfl (by kernel_rfl) (fun _ _ _ h => h) ⟨c4, c3, c2, k0⟩ (.inr ⟨rfl, rfl⟩) ?_
            simp only [nrm]
            refine wpAnyK_take (i := 20) (some 45) (undef) rfl rfl (by kernel_rfl) (fun _ _ _ h => h) ⟨c4, c3, c2, k0⟩ (.inr ⟨rfl, rfl⟩) ?_
            simp only [nrm]
            refine wpAnyK_take (i := 21) (some 46) (undef) rfl rfl (by kernel_rfl) (fun _ _ _ h => h) ⟨c4, c3, c2, k0⟩ (.inr ⟨rfl, rfl⟩) ?_
            simp only [nrm]
            refine wpAnyK_take (i := 22) (some 47) (undef) rfl rfl (by kernel_rfl) (fun _ _ _ h => h) ⟨c4, c3, c2, k0⟩ (.inr ⟨rfl, rfl⟩) ?_
            simp only [nrm]
            refine wpAnyK_take (i := 23) (some 48) (undef) rfl rfl (by kernel_rfl) (fun _ _ _ h => h) ⟨c4, c3, c2, k0⟩ (.inr ⟨rfl, rfl⟩) ?_
            simp only [nrm]
            refine wpAnyK_take (i := 24) (some 49) (undef) rfl rfl (by kernel_rfl) (fun _ _ _ h => h) ⟨c4, c3, c2, k0⟩ (.inr ⟨rfl, rfl⟩) ?_
            simp only [nrm]
            refine wpAnyK_take (i := 25) (some 50) (undef) rfl rfl (by kernel_rfl) (fun _ _ _ h => h) ⟨c4, c3, c2, k0⟩ (.inr ⟨rfl, rfl⟩) ?_
            simp only [nrm]
            refine wpAnyK_take (i := 26) (some 51) ?vq3_26 rfl rfl (by kernel_rfl) (fun _ _ _ h => h) ⟨c4, c3, c2, k0⟩ (.inl ⟨rfl, fun W hW => ?yq3_26⟩) ?_
            case yq3_26 => (obtain ⟨q0, q1, q2, q3⟩ := hW; go_simp) <;> with_reducible rfl
            simp only [nrm]
            refine wpAnyK_take (i := 27) (some 52) ?vq3_27 rfl rfl (by kernel_rfl) (fun _ _ _ h => h) ⟨c4, c3, c2, k0⟩ (.inl ⟨rfl, fun W hW => ?yq3_27⟩) ?_
            case yq3_27 => (obtain ⟨q0, q1, q2, q3⟩ := hW; go_simp) <;> with_reducible rfl
            simp only [nrm]
            refine wpAnyK_step (j := 28) (some 24) rfl rfl (by kernel_rfl) rfl fun K hK => ?_
            refine wp_run_same (v := ?aq3_28) ?yq3_28 (hK _ _ (fun _ => ⟨c4, c3, c2, k0⟩) ?_)
            case yq3_28 => go_simp <;> with_reducible rfl
            simp only [nrm]
            refine wpAnyK_done (by kernel_rfl) ?_ _
            clear c4 c3 c2 k0
            generalize w5.drew = w6 at *
            have hf6z := W6.out.hz
            have c4 := W6.out.bwk.at_ (i := 4) rfl
            have k0 := (B6.out).at_ (i := 0) rfl
            have k1 := (B6.out).at_ (i := 1) rfl
            have k2 := True.intro
            go_upto_region 7 with fail
            have W7 := Lib.hid (W6.out.quiet ((Fr.refl [] w6).drew))
            have G7 := Lib.hid (G6.out.quiet ((Fr.refl [] w6).drew))
            have B7 := Lib.hid (B6.out.fr ((Fr.refl [] w6).drew) (by simp))
            refine wp_region_K (fun W => W.cell? ⟨bw, 4, none⟩ = some (.slice Ao outi.length co) ∧ W.cell? ⟨p6, 0, none⟩ = some (.slice Ak x.key.length ck) ∧ W.cell? ⟨p6, 1, none⟩ = some (.slice Aw x.v.length cw)) [0, 1, 2, 3, 4, 5, 6, 7, 9, 10, 11, 13, 17] (by kernel_rfl) ?_
            refine wpAnyK_take (i := 0) (some 53) ?vq4_0 rfl rfl (by kernel_rfl) (fun _ _ _ h => h) ⟨c4, k0, k1⟩ (.inl ⟨rfl, fun W hW => ?yq4_0⟩) ?_
            case yq4_0 => (obtain ⟨q0, q1, q2⟩ := hW; go_simp) <;> with_reducible rfl
            simp only [nrm]
            refine wpAnyK_take (i := 1) (some 54) ?vq4_1 rfl rfl (by kernel_rfl) (fun _ _ _ h => h) ⟨c4, k0, k1⟩ (.inl ⟨rfl, fun W hW => ?yq4_1⟩) ?_
            case yq4_1 => (obtain ⟨q0, q1, q2⟩ := hW; go_simp) <;> with_reducible rfl
            simp only [nrm]
            refine wpAnyK_take (i := 2) (some 55) ?vq4_2 rfl rfl (by kernel_rfl) (fun _ _ _ h => h) ⟨c4, k0, k1⟩ (.inl ⟨rfl, fun W hW => ?yq4_2⟩) ?_
            case yq4_2 => (obtain ⟨q0, q1, q2⟩ := hW; go_simp) <;> with_reducible rfl
            simp only [nrm]
            refine wpAnyK_take (i := 3) (some 56) ?vq4_3 rfl rfl (by kernel_rfl) (fun _ _ _ h => h) ⟨c4, k0, k1⟩ (.inl ⟨rfl, fun W hW => ?yq4_3⟩) ?_
            case yq4_3 => (obtain ⟨q0, q1, q2⟩ := hW; go_simp) <;> with_reducible rfl
            simp only [nrm]
            refine wpAnyK_take (i := 4) (some 57) ?vq4_4 rfl rfl (by kernel_rfl) (fun _ _ _ h => h) ⟨c4, k0, k1⟩ (.inl ⟨rfl, fun W hW => ?yq4_4⟩) ?_
            case yq4_4 => (obtain ⟨q0, q1, q2⟩ := hW; go_simp) <;> with_reducible rfl
            simp only [nrm]
            refine wpAnyK_take (i := 5) (some 58) ?vq4_5 rfl rfl (by kernel_rfl) (fun _ _ _ h => h) ⟨c4, k0, k1⟩ (.inl ⟨rfl, fun W hW => ?yq4_5⟩) ?_
            case yq4_5 => (obtain ⟨q0, q1, q2⟩ := hW; go_simp) <;> with_reducible rfl
            simp only [nrm]
            refine wpAnyK_take (i := 6) (some 59) ?vq4_6 rfl rfl (by kernel_rfl) (fun _ _ _ h => h) ⟨c4, k0, k1⟩ (.inl ⟨rfl, fun W hW => ?yq4_6⟩) ?_
            case yq4_6 => (obtain ⟨q0, q1, q2⟩ := hW; go_simp) <;> with_reducible rfl
            simp only [nrm]
            refine wpAnyK_take (i := 7) (some 60) ?vq4_7 rfl rfl (by kernel_rfl) (fun _ _ _ h => h) ⟨c4, k0, k1⟩ (.inl ⟨rfl, fun W hW => ?yq4_7⟩) ?_
            case yq4_7 => (obtain ⟨q0, q1, q2⟩ := hW; go_simp) <;> with_reducible rfl
            simp only [nrm]
            refine wpAnyK_take (i := 9) (some 62) ?vq4_9 rfl rfl (by kernel_rfl) (fun _ _ _ h => h) ⟨c4, k0, k1⟩ (.inl ⟨rfl, fun W hW => ?yq4_9⟩) ?_
            case yq4_9 => (obtain ⟨q0, q1, q2⟩ := hW; go_simp) <;> with_reducible rfl
            simp only [nrm]
            refine wpAnyK_take (i := 10) (some 63) ?vq4_10 rfl rfl (by kernel_rfl) (fun _ _ _ h => h) ⟨c4, k0, k1⟩ (.inl ⟨rfl, fun W hW => ?yq4_10⟩) ?_
            case yq4_10 => (obtain ⟨q0, q1, q2⟩ := hW; go_simp) <;> with_reducible rfl
            simp only [nrm]
            refine wpAnyK_take (i := 11) (some 64) ?vq4_11 rfl rfl (by kernel_rfl) (fun _ _ _ h => h) ⟨c4, k0, k1⟩ (.inl ⟨rfl, fun W hW => ?yq4_11⟩) ?_
            case yq4_11 => (obtain ⟨q0, q1, q2⟩ := hW; go_simp) <;> with_reducible rfl
            simp only [nrm]
            refine wpAnyK_step (j := 8) (some 61) rfl rfl (by kernel_rfl) rfl fun K hK => ?_
            refine wp_call_f (l := [.tmp 60]) rfl [.slice Ak x.key.length ck] rfl (enter_clone _) ((bytes_clone (HBK.out.fr ((Fr.refl [] w6).drew) (by simp)) (by have := HXO.out.k2; omega)).mono ?_)
            rintro e w8 ⟨v8, rfl, ⟨g8, hb8, hz8⟩, hf8⟩
            refine ⟨_, rfl, hK _ _ (fun _ => ⟨fr_keep hf8 c4, fr_keep hf8 k0, fr_keep hf8 k1⟩) ?_⟩
            simp only [nrm]
            clear hK
            refine wpAnyK_step (j := 12) (some 65) rfl rfl (by kernel_rfl) rfl fun K hK => ?_
            refine wp_call_f (l := [.tmp 64]) rfl [.slice Aw x.v.length cw] rfl (enter_clone _) ((bytes_clone (HBV.out.fr (((Fr.refl [] w6).drew).trans hf8 (by simp)) (by simp)) (by have := HXO.out.v; omega)).mono ?_)
            rintro e w9 ⟨v9, rfl, ⟨g9, hb9, hz9⟩, hf9⟩
            have hf79 : Fr [] w6.drew w9 := hf8.trans hf9 (by simp)
            refine ⟨_, rfl, hK _ _ (fun _ => ⟨fr_keep hf79 c4, fr_keep hf79 k0, fr_keep hf79 k1⟩) ?_⟩
            simp only [nrm]
            clear hK
            obtain ⟨A8, c8, _, rfl, _, _⟩ := id hb8
            obtain ⟨A9, c9, _, rfl, _, _⟩ := id hb9
            refine wpAnyK_take (i := 13) (some 66) (.agg #[.slice A8 x.key.length c8, .slice A9 x.v.length c9]) rfl rfl (by kernel_rfl) (fun _ _ _ h => h) ⟨fr_keep hf79 c4, fr_keep hf79 k0, fr_keep hf79 k1⟩ (.inl ⟨rfl, fun W hW => by go_simp⟩) ?_
            simp only [nrm]
            obtain ⟨wx, hwx⟩ : ∃ wx, wx = w9.alloc (.cells ([.slice A8 x.key.length c8, .slice A9 x.v.length c9] : List Value).toArray 39) := ⟨_, rfl⟩
            have hfx : Fr [] w9 wx := by rw [hwx]; exact (Fr.refl [] _).alloc _
            have hbx : Blk wx w9.heap.size 39 [.slice A8 x.key.length c8, .slice A9 x.v.length c9] := by rw [hwx]; exact Blk.new w9 _ [.slice A8 x.key.length c8, .slice A9 x.v.length c9]
            have hf7x : Fr [] w6.drew wx := hf79.trans hfx (by simp)
            obtain ⟨te, hte, hez, hes, heb⟩ := info_get info_en
            refine wpAnyK_step (j := 14) (some 67) rfl rfl (by kernel_rfl) rfl fun K hK => ?_
            refine wp_build_one (.tmp 66) rfl Tryz.underlying31 hte hez [.slice A8 x.key.length c8, .slice A9 x.v.length c9] rfl hes rfl (by simp) (by simp) (hK _ _ (fun _ => by rw [← hwx]; exact ⟨fr_keep hf7x c4, fr_keep hf7x k0, fr_keep hf7x k1⟩) ?_)
            simp only [nrm]
            rw [← hwx]
            clear hK hwx
            have W8 := Lib.hid (W7.out.quiet hf7x)
            obtain ⟨ocs, hrow, hents⟩ := W8.out.row
            have HEN : Hid (EntC (Dv D (.slice Ao outi.length co)) wx (x.key, x.v) (.slice A8 x.key.length c8) (.slice A9 x.v.length c9)) := Lib.hid ⟨⟨g8, (hb8.fr hf9 (by simp)).fr hfx (by simp), W7.out.topv _ hz8⟩, ⟨g9, hb9.fr hfx (by simp), W7.out.topv _ (by have := hf8.size; omega)⟩⟩
            have HENTS := Lib.hid hents
            have hbw6 := W8.out.bwk
            have hb68 := B7.out.fr hf7x (by simp)
            refine wpAnyK_step (j := 15) (some 68) rfl rfl (by kernel_rfl) rfl fun K hK => ?_
            refine wp_append_any (.tmp 57) (.tmp 67) rfl 39 2 48 Tryz.underlying31 hte hez hes heb rfl (by omega) Ao outi.length co ocs rfl (own_base hrow (fun _ _ => Nat.zero_le _)) (some ⟨w9.heap.size, 0, none⟩) 1 1 [.slice A8 x.key.length c8, .slice A9 x.v.length c9] rfl rfl (fun _ => ⟨_, rfl, fun j u hu => by rw [Addr.add_mid, Nat.zero_add]; exact hbx.at_ hu⟩) (by intro u hu; simp at hu; rcases hu with rfl | rfl <;> rfl) (by have := HLE.out; unfold maxLen; omega) (by have := HLE.out; omega) wx.heap.size rfl fun A' cap wz howz hfz hqz => ?_
            have hbwz : Blk wz bw 95 (walkC bc fv (.slice none 0 0) (.slice Ao outi.length co) most) := hbw6.fr hfz (fun hm => (W8.out.own bw (by simpa using hm)).1 rfl)
            have hb6z := hb68.fr hfz (fun hm => HP6O.out (by simpa using hm))
            refine hK _ _ (fun _ => ⟨hbwz.at_ (i := 4) rfl, hb6z.at_ (i := 0) rfl, hb6z.at_ (i := 1) rfl⟩) ?_
            simp only [nrm]
            clear hK
            obtain ⟨hW9, hG9⟩ := W8.out.push (e := (x.key, x.v)) HENTS.out HEN.out hfz howz hqz
            have c4' := hbwz.at_ (i := 4) rfl
            have c4z := hbwz.free 4
            have c4l := hbwz.lt
            refine wpAnyK_step (j := 16) (some 69) rfl rfl (by kernel_rfl) rfl fun K hK => ?_
            refine wp_run_same (v := .pointer (some ⟨bw, 0, none⟩)) (by go_simp) (hK _ _ (fun _ => ⟨hbwz.at_ (i := 4) rfl, hb6z.at_ (i := 0) rfl, hb6z.at_ (i := 1) rfl⟩) ?_)
            simp only [nrm]
            clear hK
            refine wpAnyK_take (i := 17) (some 70) ?vq4_17 rfl rfl (by kernel_rfl) (fun _ _ _ h => h) ⟨hbwz.at_ (i := 4) rfl, hb6z.at_ (i := 0) rfl, hb6z.at_ (i := 1) rfl⟩ (.inl ⟨rfl, fun W hW => ?yq4_17⟩) ?_
            case yq4_17 => (obtain ⟨q0, q1, q2⟩ := hW; go_simp) <;> with_reducible rfl
            simp only [nrm]
            refine wpAnyK_step (j := 18) none rfl rfl (by kernel_rfl) rfl fun K hK => ?_
            refine wp_run_skip (w' := wz.setCell ⟨bw, 4, none⟩ (.slice A' (outi.length + 1) cap)) (by go_simp) (hK _ _ (fun h => absurd h (by decide +kernel)) ?_)
            simp only [Act.put]
            clear hK
            refine wpAnyK_done (by kernel_rfl) ?_ _
            have W9 := Lib.hid hW9
            have G9 := Lib.hid ((G7.out.quiet hf7x).trans hG9)
            clear hW9 hG9 c4' c4z c4l hbwz hb6z howz hfz hqz hbw6 hb68 HENTS HEN hrow hents hbx hfx hf7x hf79 hb8 hb9 hf8 hf9 hz8 hz9 c4 k0 k1 k2 W6 W7 W8 G6 G7 B6 B7 hf6z
            generalize wz.setCell ⟨bw, 4, none⟩ (.slice A' (outi.length + 1) cap) = w10 at *
            have HX : Hid (∃ (i : Nat) (outi : En) (ovi : Value), i ≤ n.l.length ∧ Value.int .i64 ((i0 : Int) + 1) = .int .i64 (i : Int) ∧ Wst H wS g bc bn bs bw D c fv (.slice none 0 0) low none most outi ovi w10 ∧ WFr bc bw ov wb ovi w10 ∧ goE low none most out (entOf n.l) = goE low none most outi (entOf (n.l.drop i)) ∧ outi.length + (n.l.length - i) ≤ 1000000) := Lib.hid ⟨i0 + 1, outi ++ [(x.key, x.v)], _, hi, rfl, W9.out, G9.out, by
              rw [HGO.out, HCONS.out, goE_cons, if_neg HNL.out, if_neg HGOON.out], by have := HLE.out; simp only [List.length_append, List.length_singleton]; omega⟩
            go_wp2_with fail
            go_roundw
            case rel => exact HX.out
            case measure => simp [intOf]; omega
          | some b =>
            obtain ⟨ta, tm, tc, tq, htv, htb, _⟩ := hup
            subst htv
            have HTB := Lib.hid htb
            clear htb
            refine wp_region_K (fun W => W.cell? ⟨bw, 4, none⟩ = some (.slice Ao outi.length co) ∧ W.cell? ⟨bw, 3, none⟩ = some (.int .i64 (most : Int)) ∧ W.cell? ⟨bw, 2, none⟩ = some (.slice (some ta) tm tc) ∧ W.cell? ⟨p6, 0, none⟩ = some (.slice Ak x.key.length ck)) [0, 1, 2, 3, 4, 5, 6, 7, 8, 9, 10, 11, 12, 13, 14, 15, 16, 17, 18, 19, 20, 21, 22, 23, 25, 26, 27] (by kernel_rfl) ?_
            refine wpAnyK_take (i := 0) (some 25) ?vq5_0 rfl rfl (by kernel_rfl) (fun _ _ _ h => h) ⟨c4, c3, c2, k0⟩ (.inl ⟨rfl, fun W hW => ?yq5_0⟩) ?_
            case yq5_0 => (obtain ⟨q0, q1, q2, q3⟩ := hW; go_simp) <;> with_reducible rfl
            simp only [nrm]
            refine wpAnyK_take (i := 1) (some 26) ?vq5_1 rfl rfl (by kernel_rfl) (fun _ _ _ h => h) ⟨c4, c3, c2, k0⟩ (.inl ⟨rfl, fun W hW => ?yq5_1⟩) ?_
            case yq5_1 => (obtain ⟨q0, q1, q2, q3⟩ := hW; go_simp) <;> with_reducible rfl
            simp only [nrm]
            refine wpAnyK_take (i := 2) (some 27) ?vq5_2 rfl rfl (by kernel_rfl) (fun _ _ _ h => h) ⟨c4, c3, c2, k0⟩ (.inl ⟨rfl, fun W hW => ?yq5_2⟩) ?_
            case yq5_2 => (obtain ⟨q0, q1, q2, q3⟩ := hW; go_simp) <;> with_reducible rfl
            simp only [nrm]
            refine wpAnyK_take (i := 3) (some 28) ?vq5_3 rfl rfl (by kernel_rfl) (fun _ _ _ h => h) ⟨c4, c3, c2, k0⟩ (.inl ⟨rfl, fun W hW => ?yq5_3⟩) ?_
            case yq5_3 => (obtain ⟨q0, q1, q2, q3⟩ := hW; go_simp) <;> with_reducible rfl
            simp only [nrm]
            refine wpAnyK_take (i := 4) (some 29) ?vq5_4 rfl rfl (by kernel_rfl) (fun _ _ _ h => h) ⟨c4, c3, c2, k0⟩ (.inl ⟨rfl, fun W hW => ?yq5_4⟩) ?_
            case yq5_4 => (obtain ⟨q0, q1, q2, q3⟩ := hW; go_simp) <;> with_reducible rfl
            simp only [nrm]
            refine wpAnyK_take (i := 5) (some 30) ?vq5_5 rfl rfl (by kernel_rfl) (fun _ _ _ h => h) ⟨c4, c3, c2, k0⟩ (.inl ⟨rfl, fun W hW => ?yq5_5⟩) ?_
            case yq5_5 => (obtain ⟨q0, q1, q2, q3⟩ := hW; go_simp) <;> with_reducible rfl
            simp only [nrm]
            refine wpAnyK_take (i := 6) (some 31) ?vq5_6 rfl rfl (by kernel_rfl) (fun _ _ _ h => h) ⟨c4, c3, c2, k0⟩ (.inl ⟨rfl, fun W hW => ?yq5_6⟩) ?_
            case yq5_6 => (obtain ⟨q0, q1, q2, q3⟩ := hW; go_simp) <;> with_reducible rfl
            simp only [nrm]
            refine wpAnyK_take (i := 7) (some 32) ?vq5_7 rfl rfl (by kernel_rfl) (fun _ _ _ h => h) ⟨c4, c3, c2, k0⟩ (.inl ⟨rfl, fun W hW => ?yq5_7⟩) ?_
            case yq5_7 => (obtain ⟨q0, q1, q2, q3⟩ := hW; go_simp) <;> with_reducible rfl
            simp only [nrm]
            refine wpAnyK_take (i := 8) (some 33) ?vq5_8 rfl rfl (by kernel_rfl) (fun _ _ _ h => h) ⟨c4, c3, c2, k0⟩ (.inl ⟨rfl, fun W hW => ?yq5_8⟩) ?_
            case yq5_8 => (obtain ⟨q0, q1, q2, q3⟩ := hW; go_simp) <;> with_reducible rfl
            simp only [nrm]
            refine wpAnyK_take (i := 9) (some 34) (.bool false) rfl rfl (by kernel_rfl) (fun _ _ _ h => h) ⟨c4, c3, c2, k0⟩ (.inl ⟨rfl, fun W' _ => by first | (simp [execOp, Act.eval, go_sem, hmI]; done) | (simp [execOp, Act.eval, Result.andThen, go_sem]; omega)⟩) ?_
            simp only [nrm]
            refine wpAnyK_take (i := 10) (some 35) ?vq5_10 rfl rfl (by kernel_rfl) (fun _ _ _ h => h) ⟨c4, c3, c2, k0⟩ (.inl ⟨rfl, fun W hW => ?yq5_10⟩) ?_
            case yq5_10 => (obtain ⟨q0, q1, q2, q3⟩ := hW; go_simp) <;> with_reducible rfl
            simp only [nrm]
            refine wpAnyK_take (i := 11) (some 36) ?vq5_11 rfl rfl (by kernel_rfl) (fun _ _ _ h => h) ⟨c4, c3, c2, k0⟩ (.inl ⟨rfl, fun W hW => ?yq5_11⟩) ?_
            case yq5_11 => (obtain ⟨q0, q1, q2, q3⟩ := hW; go_simp) <;> with_reducible rfl
            simp only [nrm]
            refine wpAnyK_take (i := 12) (some 37) ?vq5_12 rfl rfl (by kernel_rfl) (fun _ _ _ h => h) ⟨c4, c3, c2, k0⟩ (.inl ⟨rfl, fun W hW => ?yq5_12⟩) ?_
            case yq5_12 => (obtain ⟨q0, q1, q2, q3⟩ := hW; go_simp) <;> with_reducible rfl
            simp only [nrm]
            refine wpAnyK_take (i := 13) (some 38) ?vq5_13 rfl rfl (by kernel_rfl) (fun _ _ _ h => h) ⟨c4, c3, c2, k0⟩ (.inl ⟨rfl, fun W hW => ?yq5_13⟩) ?_
            case yq5_13 => (obtain ⟨q0, q1, q2, q3⟩ := hW; go_simp) <;> with_reducible rfl
            simp only [nrm]
            refine wpAnyK_take (i := 14) (some 39) ?vq5_14 rfl rfl (by kernel_rfl) (fun _ _ _ h => h) ⟨c4, c3, c2, k0⟩ (.inl ⟨rfl, fun W hW => ?yq5_14⟩) ?_
            case yq5_14 => (obtain ⟨q0, q1, q2, q3⟩ := hW; go_simp) <;> with_reducible rfl
            simp only [nrm]
            refine wpAnyK_take (i := 15) (some 40) (.bool true) rfl rfl (by kernel_rfl) (fun _ _ _ h => h) ⟨c4, c3, c2, k0⟩ (.inl ⟨rfl, fun W' _ => by simp [execOp, Act.eval, Result.andThen, go_sem, Tryz.underlying23]⟩) ?_
            simp only [nrm]
            refine wpAnyK_take (i := 16) (some 41) ?vq5_16 rfl rfl (by kernel_rfl) (fun _ _ _ h => h) ⟨c4, c3, c2, k0⟩ (.inl ⟨rfl, fun W hW => ?yq5_16⟩) ?_
            case yq5_16 => (obtain ⟨q0, q1, q2, q3⟩ := hW; go_simp) <;> with_reducible rfl
            simp only [nrm]
            refine wpAnyK_take (i := 17) (some 42) ?vq5_17 rfl rfl (by kernel_rfl) (fun _ _ _ h => h) ⟨c4, c3, c2, k0⟩ (.inl ⟨rfl, fun W hW => ?yq5_17⟩) ?_
            case yq5_17 => (obtain ⟨q0, q1, q2, q3⟩ := hW; go_simp) <;> with_reducible rfl
            simp only [nrm]
            refine wpAnyK_take (i := 18) (some 43) ?vq5_18 rfl rfl (by kernel_rfl) (fun _ _ _ h => h) ⟨c4, c3, c2, k0⟩ (.inl ⟨rfl, fun W hW => ?yq5_18⟩) ?_
            case yq5_18 => (obtain ⟨q0, q1, q2, q3⟩ := hW; go_simp) <;> with_reducible rfl
            simp only [nrm]
            refine wpAnyK_take (i := 19) (some 44) ?vq5_19 rfl rfl (by kernel_rfl) (fun _ _ _ h => h) ⟨c4, c3, c2, k0⟩ (.inl ⟨rfl, fun W hW => ?yq5_19⟩) ?_
            case yq5_19 => (obtain ⟨q0, q1, q2, q3⟩ := hW; go_simp) <;> with_reducible rfl
            simp only [nrm]
            refine wpAnyK_take (i := 20) (some 45) ?vq5_20 rfl rfl (by kernel_rfl) (fun _ _ _ h => h) ⟨c4, c3, c2, k0⟩ (.inl ⟨rfl, fun W hW => ?yq5_20⟩) ?_
            case yq5_20 => (obtain ⟨q0, q1, q2, q3⟩ := hW; go_simp) <;> with_reducible rfl
            simp only [nrm]
            refine wpAnyK_take (i := 21) (some 46) ?vq5_21 rfl rfl (by kernel_rfl) (fun _ _ _ h => h) ⟨c4, c3, c2, k0⟩ (.inl ⟨rfl, fun W hW => ?yq5_21⟩) ?_
            case yq5_21 => (obtain ⟨q0, q1, q2, q3⟩ := hW; go_simp) <;> with_reducible rfl
            simp only [nrm]
            refine wpAnyK_take (i := 22) (some 47) ?vq5_22 rfl rfl (by kernel_rfl) (fun _ _ _ h => h) ⟨c4, c3, c2, k0⟩ (.inl ⟨rfl, fun W hW => ?yq5_22⟩) ?_
            case yq5_22 => (obtain ⟨q0, q1, q2, q3⟩ := hW; go_simp) <;> with_reducible rfl
            simp only [nrm]
            refine wpAnyK_take (i := 23) (some 48) ?vq5_23 rfl rfl (by kernel_rfl) (fun _ _ _ h => h) ⟨c4, c3, c2, k0⟩ (.inl ⟨rfl, fun W hW => ?yq5_23⟩) ?_
            case yq5_23 => (obtain ⟨q0, q1, q2, q3⟩ := hW; go_simp) <;> with_reducible rfl
            simp only [nrm]
            refine wpAnyK_stepg (j := 24) (some 49) rfl rfl (by kernel_rfl) rfl fun K hK => ?_
            refine wp_call_f (l := [.tmp 44, .tmp 48]) rfl [.slice Ak x.key.length ck, .slice (some ta) tm tc] rfl (enter_compare _) ((bytes_compare HBK.out HTB.out).mono ?_)
            rintro e w7 ⟨rfl, rfl⟩
            refine ⟨_, rfl, hK _ _ (fun _ => ⟨c4, c3, c2, k0⟩) ?_⟩
            simp only [nrm]
            clear hK
            refine wpAnyK_take (i := 25) (some 50) (.bool (!decide (klt x.key b))) rfl rfl (by kernel_rfl) (fun _ _ _ h => h) ⟨c4, c3, c2, k0⟩ (.inl ⟨rfl, fun W' _ => by rw [← cmp_nonneg]; simp [execOp, Act.eval, go_sem]⟩) ?_
            simp only [nrm]
            refine wpAnyK_take (i := 26) (some 51) ?vq5_26 rfl rfl (by kernel_rfl) (fun _ _ _ h => h) ⟨c4, c3, c2, k0⟩ (.inl ⟨rfl, fun W hW => ?yq5_26⟩) ?_
            case yq5_26 => (obtain ⟨q0, q1, q2, q3⟩ := hW; go_simp) <;> with_reducible rfl
            simp only [nrm]
            refine wpAnyK_take (i := 27) (some 52) ?vq5_27 rfl rfl (by kernel_rfl) (fun _ _ _ h => h) ⟨c4, c3, c2, k0⟩ (.inl ⟨rfl, fun W hW => ?yq5_27⟩) ?_
            case yq5_27 => (obtain ⟨q0, q1, q2, q3⟩ := hW; go_simp) <;> with_reducible rfl
            simp only [nrm]
            refine wpAnyK_step (j := 28) (some 24) rfl rfl (by kernel_rfl) rfl fun K hK => ?_
            refine wp_run_same (v := ?aq5_28) ?yq5_28 (hK _ _ (fun _ => ⟨c4, c3, c2, k0⟩) ?_)
            case yq5_28 => go_simp <;> with_reducible rfl
            simp only [nrm]
            refine wpAnyK_done (by kernel_rfl) ?_ _
            clear c4 c3 c2 k0
            have WG : Hid (WFr bc bw ov w (.slice Ao outi.length co) w5.drew) := Lib.hid (WFr.pre HFB.out G6.out)
            by_cases hp : klt x.key b
            · rw [decide_eq_true hp]
              have HGOON : Hid (¬ (outi.length = most ∨ pastB (some b) (x.key, x.v).1 = true)) := Lib.hid (by
                rintro (h | h)
                · exact HMOST.out h
                · unfold pastB at h; simp [hp] at h)
              have HPP := Lib.hid hp
              clear hp WG
              generalize w5.drew = w6 at *
              have hf6z := W6.out.hz
              have c4 := W6.out.bwk.at_ (i := 4) rfl
              have k0 := (B6.out).at_ (i := 0) rfl
              have k1 := (B6.out).at_ (i := 1) rfl
              have k2 := True.intro
              go_upto_region 7 with fail
              have W7 := Lib.hid (W6.out.quiet ((Fr.refl [] w6).drew))
              have G7 := Lib.hid (G6.out.quiet ((Fr.refl [] w6).drew))
              have B7 := Lib.hid (B6.out.fr ((Fr.refl [] w6).drew) (by simp))
              refine wp_region_K (fun W => W.cell? ⟨bw, 4, none⟩ = some (.slice Ao outi.length co) ∧ W.cell? ⟨p6, 0, none⟩ = some (.slice Ak x.key.length ck) ∧ W.cell? ⟨p6, 1, none⟩ = some (.slice Aw x.v.length cw)) [0, 1, 2, 3, 4, 5, 6, 7, 9, 10, 11, 13, 17] (by kernel_rfl) ?_
              refine wpAnyK_take (i := 0) (some 53) ?vq6_0 rfl rfl (by kernel_rfl) (fun _ _ _ h => h) ⟨c4, k0, k1⟩ (.inl ⟨rfl, fun W hW => ?yq6_0⟩) ?_
              case yq6_0 => (obtain ⟨q0, q1, q2⟩ := hW; go_simp) <;> with_reducible rfl
              simp only [nrm]
              refine wpAnyK_take (i := 1) (some 54) ?vq6_1 rfl rfl (by kernel_rfl) (fun _ _ _ h => h) ⟨c4, k0, k1⟩ (.inl ⟨rfl, fun W hW => ?yq6_1⟩) ?_
              case yq6_1 => (obtain ⟨q0, q1, q2⟩ := hW; go_simp) <;> with_reducible rfl
              simp only [nrm]
              refine wpAnyK_take (i := 2) (some 55) ?vq6_2 rfl rfl (by kernel_rfl) (fun _ _ _ h => h) ⟨c4, k0, k1⟩ (.inl ⟨rfl, fun W hW => ?yq6_2⟩) ?_
              case yq6_2 => (obtain ⟨q0, q1, q2⟩ := hW; go_simp) <;> with_reducible rfl
              simp only [nrm]
              refine wpAnyK_take (i := 3) (some 56) ?vq6_3 rfl rfl (by kernel_rfl) (fun _ _ _ h => h) ⟨c4, k0, k1⟩ (.inl ⟨rfl, fun W hW => ?yq6_3⟩) ?_
              case yq6_3 => (obtain ⟨q0, q1, q2⟩ := hW; go_simp) <;> with_reducible rfl
              simp only [nrm]
              refine wpAnyK_take (i := 4) (some 57) ?vq6_4 rfl rfl (by kernel_rfl) (fun _ _ _ h => h) ⟨c4, k0, k1⟩ (.inl ⟨rfl, fun W hW => ?yq6_4⟩) ?_
              case yq6_4 => (obtain ⟨q0, q1, q2⟩ := hW; go_simp) <;> with_reducible rfl
              simp only [nrm]
              refine wpAnyK_take (i := 5) (some 58) ?vq6_5 rfl rfl (by kernel_rfl) (fun _ _ _ h => h) ⟨c4, k0, k1⟩ (.inl ⟨rfl, fun W hW => ?yq6_5⟩) ?_
              case yq6_5 => (obtain ⟨q0, q1, q2⟩ := hW; go_simp) <;> with_reducible rfl
              simp only [nrm]
              refine wpAnyK_take (i := 6) (some 59) ?vq6_6 rfl rfl (by kernel_rfl) (fun _ _ _ h => h) ⟨c4, k0, k1⟩ (.inl ⟨rfl, fun W hW => ?yq6_6⟩) ?_
              case yq6_6 => (obtain ⟨q0, q1, q2⟩ := hW; go_simp) <;> with_reducible rfl
              simp only [nrm]
              refine wpAnyK_take (i := 7) (some 60) ?vq6_7 rfl rfl (by kernel_rfl) (fun _ _ _ h => h) ⟨c4, k0, k1⟩ (.inl ⟨rfl, fun W hW => ?yq6_7⟩) ?_
              case yq6_7 => (obtain ⟨q0, q1, q2⟩ := hW; go_simp) <;> with_reducible rfl
              simp only [nrm]
              refine wpAnyK_take (i := 9) (some 62) ?vq6_9 rfl rfl (by kernel_rfl) (fun _ _ _ h => h) ⟨c4, k0, k1⟩ (.inl ⟨rfl, fun W hW => ?yq6_9⟩) ?_
              case yq6_9 => (obtain ⟨q0, q1, q2⟩ := hW; go_simp) <;> with_reducible rfl
              simp only [nrm]
              refine wpAnyK_take (i := 10) (some 63) ?vq6_10 rfl rfl (by kernel_rfl) (fun _ _ _ h => h) ⟨c4, k0, k1⟩ (.inl ⟨rfl, fun W hW => ?yq6_10⟩) ?_
              case yq6_10 => (obtain ⟨q0, q1, q2⟩ := hW; go_simp) <;> with_reducible rfl
              simp only [nrm]
              refine wpAnyK_take (i := 11) (some 64) ?vq6_11 rfl rfl (by kernel_rfl) (fun _ _ _ h => h) ⟨c4, k0, k1⟩ (.inl ⟨rfl, fun W hW => ?yq6_11⟩) ?_
              case yq6_11 => (obtain ⟨q0, q1, q2⟩ := hW; go_simp) <;> with_reducible rfl
              simp only [nrm]
              refine wpAnyK_step (j := 8) (some 61) rfl rfl (by kernel_rfl) rfl fun K hK => ?_
              refine wp_call_f (l := [.tmp 60]) rfl [.slice Ak x.key.length ck] rfl (enter_clone _) ((bytes_clone (HBK.out.fr ((Fr.refl [] w6).drew) (by simp)) (by have := HXO.out.k2; omega)).mono ?_)
              rintro e w8 ⟨v8, rfl, ⟨g8, hb8, hz8⟩, hf8⟩
              refine ⟨_, rfl, hK _ _ (fun _ => ⟨fr_keep hf8 c4, fr_keep hf8 k0, fr_keep hf8 k1⟩) ?_⟩
              simp only [nrm]
              clear hK
              refine wpAnyK_step (j := 12) (some 65) rfl rfl (by kernel_rfl) rfl fun K hK => ?_
              refine wp_call_f (l := [.tmp 64]) rfl [.slice Aw x.v.length cw] rfl (enter_clone _) ((bytes_clone (HBV.out.fr (((Fr.refl [] w6).drew).trans hf8 (by simp)) (by simp)) (by have := HXO.out.v; omega)).mono ?_)
              rintro e w9 ⟨v9, rfl, ⟨g9, hb9, hz9⟩, hf9⟩
              have hf79 : Fr [] w6.drew w9 := hf8.trans hf9 (by simp)
              refine ⟨_, rfl, hK _ _ (fun _ => ⟨fr_keep hf79 c4, fr_keep hf79 k0, fr_keep hf79 k1⟩) ?_⟩
              simp only [nrm]
              clear hK
              obtain ⟨A8, c8, _, rfl, _, _⟩ := id hb8
              obtain ⟨A9, c9, _, rfl, _, _⟩ := id hb9
              refine wpAnyK_take (i := 13) (some 66) (.agg #[.slice A8 x.key.length c8, .slice A9 x.v.length c9]) rfl rfl (by kernel_rfl) (fun _ _ _ h => h) ⟨fr_keep hf79 c4, fr_keep hf79 k0, fr_keep hf79 k1⟩ (.inl ⟨rfl, fun W hW => by go_simp⟩) ?_
              simp only [nrm]
              obtain ⟨wx, hwx⟩ : ∃ wx, wx = w9.alloc (.cells ([.slice A8 x.key.length c8, .slice A9 x.v.length c9] : List Value).toArray 39) := ⟨_, rfl⟩
              have hfx : Fr [] w9 wx := by rw [hwx]; exact (Fr.refl [] _).alloc _
              have hbx : Blk wx w9.heap.size 39 [.slice A8 x.key.length c8, .slice A9 x.v.length c9] := by rw [hwx]; exact Blk.new w9 _ [.slice A8 x.key.length c8, .slice A9 x.v.length c9]
              have hf7x : Fr [] w6.drew wx := hf79.trans hfx (by simp)
              obtain ⟨te, hte, hez, hes, heb⟩ := info_get info_en
              refine wpAnyK_step (j := 14) (some 67) rfl rfl (by kernel_rfl) rfl fun K hK => ?_
              refine wp_build_one (.tmp 66) rfl Tryz.underlying31 hte hez [.slice A8 x.key.length c8, .slice A9 x.v.length c9] rfl hes rfl (by simp) (by simp) (hK _ _ (fun _ => by rw [← hwx]; exact ⟨fr_keep hf7x c4, fr_keep hf7x k0, fr_keep hf7x k1⟩) ?_)
              simp only [nrm]
              rw [← hwx]
              clear hK hwx
              have W8 := Lib.hid (W7.out.quiet hf7x)
              obtain ⟨ocs, hrow, hents⟩ := W8.out.row
              have HEN : Hid (EntC (Dv D (.slice Ao outi.length co)) wx (x.key, x.v) (.slice A8 x.key.length c8) (.slice A9 x.v.length c9)) := Lib.hid ⟨⟨g8, (hb8.fr hf9 (by simp)).fr hfx (by simp), W7.out.topv _ hz8⟩, ⟨g9, hb9.fr hfx (by simp), W7.out.topv _ (by have := hf8.size; omega)⟩⟩
              have HENTS := Lib.hid hents
              have hbw6 := W8.out.bwk
              have hb68 := B7.out.fr hf7x (by simp)
              refine wpAnyK_step (j := 15) (some 68) rfl rfl (by kernel_rfl) rfl fun K hK => ?_
              refine wp_append_any (.tmp 57) (.tmp 67) rfl 39 2 48 Tryz.underlying31 hte hez hes heb rfl (by omega) Ao outi.length co ocs rfl (own_base hrow (fun _ _ => Nat.zero_le _)) (some ⟨w9.heap.size, 0, none⟩) 1 1 [.slice A8 x.key.length c8, .slice A9 x.v.length c9] rfl rfl (fun _ => ⟨_, rfl, fun j u hu => by rw [Addr.add_mid, Nat.zero_add]; exact hbx.at_ hu⟩) (by intro u hu; simp at hu; rcases hu with rfl | rfl <;> rfl) (by have := HLE.out; unfold maxLen; omega) (by have := HLE.out; omega) wx.heap.size rfl fun A' cap wz howz hfz hqz => ?_
              have hbwz : Blk wz bw 95 (walkC bc fv (.slice (some ta) tm tc) (.slice Ao outi.length co) most) := hbw6.fr hfz (fun hm => (W8.out.own bw (by simpa using hm)).1 rfl)
              have hb6z := hb68.fr hfz (fun hm => HP6O.out (by simpa using hm))
              refine hK _ _ (fun _ => ⟨hbwz.at_ (i := 4) rfl, hb6z.at_ (i := 0) rfl, hb6z.at_ (i := 1) rfl⟩) ?_
              simp only [nrm]
              clear hK
              obtain ⟨hW9, hG9⟩ := W8.out.push (e := (x.key, x.v)) HENTS.out HEN.out hfz howz hqz
              have c4' := hbwz.at_ (i := 4) rfl
              have c4z := hbwz.free 4
              have c4l := hbwz.lt
              refine wpAnyK_step (j := 16) (some 69) rfl rfl (by kernel_rfl) rfl fun K hK => ?_
              refine wp_run_same (v := .pointer (some ⟨bw, 0, none⟩)) (by go_simp) (hK _ _ (fun _ => ⟨hbwz.at_ (i := 4) rfl, hb6z.at_ (i := 0) rfl, hb6z.at_ (i := 1) rfl⟩) ?_)
              simp only [nrm]
              clear hK
              refine wpAnyK_take (i := 17) (some 70) ?vq6_17 rfl rfl (by kernel_rfl) (fun _ _ _ h => h) ⟨hbwz.at_ (i := 4) rfl, hb6z.at_ (i := 0) rfl, hb6z.at_ (i := 1) rfl⟩ (.inl ⟨rfl, fun W hW => ?yq6_17⟩) ?_
              case yq6_17 => (obtain ⟨q0, q1, q2⟩ := hW; go_simp) <;> with_reducible rfl
              simp only [nrm]
              refine wpAnyK_step (j := 18) none rfl rfl (by kernel_rfl) rfl fun K hK => ?_
              refine wp_run_skip (w' := wz.setCell ⟨bw, 4, none⟩ (.slice A' (outi.length + 1) cap)) (by go_simp) (hK _ _ (fun h => absurd h (by decide +kernel)) ?_)
              simp only [Act.put]
              clear hK
              refine wpAnyK_done (by kernel_rfl) ?_ _
              have W9 := Lib.hid hW9
              have G9 := Lib.hid ((G7.out.quiet hf7x).trans hG9)
              clear hW9 hG9 c4' c4z c4l hbwz hb6z howz hfz hqz hbw6 hb68 HENTS HEN hrow hents hbx hfx hf7x hf79 hb8 hb9 hf8 hf9 hz8 hz9 c4 k0 k1 k2 W6 W7 W8 G6 G7 B6 B7 hf6z
              generalize wz.setCell ⟨bw, 4, none⟩ (.slice A' (outi.length + 1) cap) = w10 at *
              have HX : Hid (∃ (i : Nat) (outi : En) (ovi : Value), i ≤ n.l.length ∧ Value.int .i64 ((i0 : Int) + 1) = .int .i64 (i : Int) ∧ Wst H wS g bc bn bs bw D c fv (.slice (some ta) tm tc) low (some b) most outi ovi w10 ∧ WFr bc bw ov wb ovi w10 ∧ goE low (some b) most out (entOf n.l) = goE low (some b) most outi (entOf (n.l.drop i)) ∧ outi.length + (n.l.length - i) ≤ 1000000) := Lib.hid ⟨i0 + 1, outi ++ [(x.key, x.v)], _, hi, rfl, W9.out, G9.out, by
                rw [HGO.out, HCONS.out, goE_cons, if_neg HNL.out, if_neg HGOON.out], by have := HLE.out; simp only [List.length_append, List.length_singleton]; omega⟩
              go_wp2_with fail
              go_roundw
              case rel => exact HX.out
              case measure => simp [intOf]; omega
            · rw [decide_eq_false hp]
              have HSTOP : Hid (outi.length = most ∨ pastB (some b) (x.key, x.v).1 = true) := Lib.hid (.inr (by unfold pastB; simp [hp]))
              have HPP := Lib.hid hp
              clear hp
              generalize w5.drew = w6 at *
              -- all is told: the result is false
              have HX := Lib.hid (HQ.out (.returned (.bool false)) _ ⟨_, by rw [HGO.out, HCONS.out, goE_cons, if_neg HNL.out, if_pos HSTOP.out], by rw [HGO.out, HCONS.out, goE_cons, if_neg HNL.out, if_pos HSTOP.out]; exact W6.out, WG.out⟩)
              go_wp2_with fail
              exact HX.out
    · obtain rfl : i0 = n.l.length := by omega
      have hdr : entOf (n.l.drop n.l.length) = [] := by rw [List.drop_length]; rfl
      have HX := Lib.hid (HQ.out (.returned (.bool true)) wr ⟨_, by rw [HGO.out, hdr]; rfl, by rw [HGO.out, hdr]; exact W1.out, WFr.pre HFB.out G1.out⟩)
      clear hdr
      go_wp2_with fail
      exact HX.out
end
end Go.Proofs.YtpjbdpepofnleaaGreat
end
