/-
  The contract of the pattern's reader: pattern, whatever stands in it.
-/
import Derived.Test.YtnhlgjjdpappkaaRh
namespace Go.Proofs.Ytnhlgjjdpappkaa
open Go.RowKit

theorem info_part : (Try.prog.info? 43).map (fun i => (i.zero, i.size, i.bytes)) = some (some (.agg zero6.toArray), 6, 80) := by kernel_rfl
theorem enter_piece (vs : Array Value) (w : World) : (callFunc 45 vs).run Try.prog w = .ok (.enter 45 vs) w := by kernel_rfl
theorem RS.pieces_off {pat : RS → Option (Pt × RS)} {m : Nat} {s : RS} (hm : 0 < m) (h : ¬ s.on) : RS.pieces pat m s = some ([], s) := by
  match m, hm with
  | m + 1, _ => unfold RS.pieces; rw [if_neg h]
theorem RS.pieces_on {pat : RS → Option (Pt × RS)} {m : Nat} {s : RS} (h : s.on) : RS.pieces pat (m + 1) s = match s.piece pat with | none => none | some (x, s) => (RS.pieces pat m s).map fun r => (x :: r.1, r.2) := by
  rw [RS.pieces, if_pos h]; rfl
theorem RS.branches_none {pat : RS → Option (Pt × RS)} {m : Nat} {s : RS} (h : s.pieces pat (s.l.length + 1) = none) : RS.branches pat (m + 1) s = none := by
  rw [RS.branches, h]
theorem RS.branches_on {pat : RS → Option (Pt × RS)} {m : Nat} {s s1 : RS} {x : List Pt} (h : s.pieces pat (s.l.length + 1) = some (x, s1)) (hb : s1.peek = 124) : RS.branches pat (m + 1) s = (RS.branches pat m s1.next).map fun r => (.row x :: r.1, r.2) := by
  rw [RS.branches, h]; simp only [if_pos hb]
theorem RS.branches_off {pat : RS → Option (Pt × RS)} {m : Nat} {s s1 : RS} {x : List Pt} (h : s.pieces pat (s.l.length + 1) = some (x, s1)) (hb : ¬ s1.peek = 124) : RS.branches pat (m + 1) s = some ([.row x], s1) := by
  rw [RS.branches, h]; simp only [if_neg hb]

def OutRel (n : Nat) (w : World) (r gl : Nat) (X : Option (List Pt × RS)) (k : Nat) (_ : Value) (wr : World) : Prop :=
  ∃ (m : Nat) (acc : List Pt) (sk : RS) (lv : Value), X = (RS.branches (RS.pattern n) m sk).map (fun r => (acc ++ r.1, r.2)) ∧ sk.l.length < m ∧ sk.l.length ≤ k ∧ acc.length + sk.l.length ≤ 1000 ∧ sk.ok ∧ sk.l.length ≤ n ∧ RdAt wr r gl sk ∧
    Blk wr w.heap.size 43 zero6 ∧ Blk wr (w.heap.size + 1) 43 [.int .i64 2, .bool false, .slice none 0 0, lv, .int .i64 0, .int .i64 0] ∧ POwn wr (w.heap.size + 2) lv acc ∧ Fr [r] w wr
def InRel (n : Nat) (wo : World) (r gl b : Nat) (Y : Option (List Pt × RS)) (k : Nat) (v : Value) (wr : World) : Prop :=
  ∃ (m : Nat) (acc : List Pt) (sk : RS) (lv : Value), v = .int .i32 sk.peek ∧ Y = (RS.pieces (RS.pattern n) m sk).map (fun r => (acc ++ r.1, r.2)) ∧ sk.l.length < m ∧ sk.l.length ≤ k ∧ acc.length + sk.l.length ≤ b ∧ sk.ok ∧ sk.l.length ≤ n ∧ RdAt wr r gl sk ∧
    Blk wr wo.heap.size 43 [.int .i64 1, .bool false, .slice none 0 0, lv, .int .i64 0, .int .i64 0] ∧ POwn wr (wo.heap.size + 1) lv acc ∧ Fr [r] wo wr

set_option maxRecDepth 100000 in
set_option maxHeartbeats 3200000 in
theorem pattern_succ {n : Nat} (IH : PatOK n) : PatOK (n + 1) := by
  intro w r gl s h hok hn
  refine calls_post fun R HQ => ?_
  have hlt := h.lt
  have hroom := hok.room
  have H := Lib.hid h; have HOK0 := Lib.hid hok; have HIH := Lib.hid IH
  clear h hok IH
  go_enter Try.func41, Try.ntmps41
  go_wp2_with fail
  obtain ⟨X, hX⟩ : ∃ X, X = RS.branches (RS.pattern n) (s.l.length + 1) s := ⟨_, rfl⟩
  have HX : Hid (RS.pattern (n + 1) s = X.map fun r => (.pick r.1, r.2)) := Lib.hid (by rw [hX]; rfl)
  go_loopg [5] (s.l.length + 1) (OutRel n w r gl X)
  case atStart =>
    refine ⟨s.l.length + 1, [], s, .slice none 0 0, by rw [hX]; cases RS.branches (RS.pattern n) (s.l.length + 1) s <;> simp, by omega, by omega, by simp; omega, HOK0.out, by omega, H.out.fr (((Fr.refl [] w).alloc _).alloc _) (by simp), (Blk.new w 43 zero6).alloc _, ?_, POwn.nil _ _, ((Fr.refl [r] w).alloc _).alloc _⟩
    have hb := Blk.new (w.alloc (.cells zero6.toArray 43)) 43 [.int .i64 2, .bool false, .slice none 0 0, .slice none 0 0, .int .i64 0, .int .i64 0]
    rw [show (w.alloc (.cells zero6.toArray 43)).heap.size = w.heap.size + 1 by simp] at hb
    exact hb
  case round =>
    obtain ⟨mO, accO, so, lvO, hXk, hmO, hkO, haO, hokO, hnO, hrO, hzO, hoO, hpO, hfO⟩ := hrel
    obtain ⟨wo, rfl⟩ : ∃ wo : World, wo = wr := ⟨_, rfl⟩
    obtain ⟨mO', rfl⟩ : ∃ m', mO = m' + 1 := ⟨mO - 1, by omega⟩
    have HXK := Lib.hid hXk; have HOKo := Lib.hid hokO; have HRo := Lib.hid hrO; have HZo0 := Lib.hid hzO; have HOo0 := Lib.hid hoO; have HPo0 := Lib.hid hpO; have HFo0 := Lib.hid hfO
    clear hXk hokO hrO hzO hoO hpO hfO hX
    have hz0 := HOo0.out.lt
    have HRa := Lib.hid (HRo.out.fr ((Fr.refl [] wo).alloc (.cells #[.int .i64 1, .bool false, .slice none 0 0, .slice none 0 0, .int .i64 0, .int .i64 0] 43)) (by simp))
    go_wp2_with fail
    refine (peek_any HRa.out).mono ?_
    rintro e w1 ⟨rfl, rfl⟩
    go_wp2_with fail
    obtain ⟨Y, hY⟩ : ∃ Y, Y = RS.pieces (RS.pattern n) (so.l.length + 1) so := ⟨_, rfl⟩
    go_loopg [5] (so.l.length + 1) (InRel n wo r gl so.l.length Y)
    case atStart => exact ⟨so.l.length + 1, [], so, .slice none 0 0, rfl, by rw [hY]; cases RS.pieces (RS.pattern n) (so.l.length + 1) so <;> simp, by omega, by omega, by simp, HOKo.out, hnO, HRa.out, Blk.new wo 43 [.int .i64 1, .bool false, .slice none 0 0, .slice none 0 0, .int .i64 0, .int .i64 0], POwn.nil _ _, (Fr.refl [r] wo).alloc _⟩
    case round =>
      obtain ⟨m, acc, sk, lv, rfl, hYk, hm, hk, ha, hok, hnk, hr, hb, hp, hf⟩ := hrel
      have HY0 := Lib.hid hY; have HYK := Lib.hid hYk; have HOK := Lib.hid hok; have HRI := Lib.hid hr; have HRW := Lib.hid hb; have HPR := Lib.hid hp; have HFI := Lib.hid hf
      clear hY hYk hok hr hb hp hf HRa
      by_cases hon : sk.on
      · obtain ⟨o1, o2, o3⟩ := hon
        have e1 : decide (0 ≤ sk.peek) = true := by simpa using o1
        have e2 : (sk.peek != 124) = true := by simpa using o2
        have e3 : (sk.peek != 41) = true := by simpa using o3
        obtain ⟨m', rfl⟩ : ∃ m', m = m' + 1 := ⟨m - 1, by omega⟩
        have HI := Lib.hid (RS.pieces_on (pat := RS.pattern n) (m := m') (s := sk) ⟨o1, o2, o3⟩)
        have HC := Lib.hid (piece_any HIH.out (HRI.out.fr ((Fr.refl [] wr).drew) (by simp)) HOK.out hnk)
        obtain ⟨A3, c3, rfl⟩ := HPR.out.slice
        have r3 := HRW.out.at_ (i := 3) rfl
        go_wp2_with fail
        clear o1 o2 o3 e1 e2 e3
        refine wp_region_K (fun W => W.cell? ⟨wo.heap.size, 3, none⟩ = some (.slice A3 acc.length c3) ∧ True) [0, 1, 2, 6] (by kernel_rfl) ?_
        refine wpAnyK_take (i := 0) (some 22) ?vq1_0 rfl rfl (by kernel_rfl) (fun _ _ _ h => h) ⟨r3, trivial⟩ (.inl ⟨rfl, fun W hW => ?yq1_0⟩) ?_
        case yq1_0 => (obtain ⟨r3', _⟩ := hW; go_simp) <;> with_reducible rfl
        simp only [Act.put, List.setIfInBounds_toArray, List.set_cons_zero, List.set_cons_succ]
        refine wpAnyK_take (i := 1) (some 23) ?vq1_1 rfl rfl (by kernel_rfl) (fun _ _ _ h => h) ⟨r3, trivial⟩ (.inl ⟨rfl, fun W hW => ?yq1_1⟩) ?_
        case yq1_1 => (obtain ⟨r3', _⟩ := hW; go_simp) <;> with_reducible rfl
        simp only [Act.put, List.setIfInBounds_toArray, List.set_cons_zero, List.set_cons_succ]
        refine wpAnyK_take (i := 2) (some 24) ?vq1_2 rfl rfl (by kernel_rfl) (fun _ _ _ h => h) ⟨r3, trivial⟩ (.inl ⟨rfl, fun W hW => ?yq1_2⟩) ?_
        case yq1_2 => (obtain ⟨r3', _⟩ := hW; go_simp) <;> with_reducible rfl
        simp only [Act.put, List.setIfInBounds_toArray, List.set_cons_zero, List.set_cons_succ]
        refine wpAnyK_step (j := 3) (some 25) rfl rfl (by kernel_rfl) rfl fun K hK => ?_
        cases hi : sk.piece (RS.pattern n) with
        | none =>
          refine wp_callp (l := [.tmp 24]) rfl [.pointer (some ⟨r, 0, none⟩)] rfl (enter_piece _) (HC.out.mono ?_)
          rw [hi] at HI ⊢
          rintro e w2 ⟨rfl, hf⟩
          have HY1 : Hid (Y = none) := Lib.hid (by rw [HYK.out, HI.out]; rfl)
          have HN : Hid (RS.pattern (n + 1) s = none) := Lib.hid (by rw [HX.out, HXK.out, RS.branches_none (HY0.out.symm.trans HY1.out)]; rfl)
          exact .inr ⟨_, rfl, rfl, HQ.out _ _ (pres_none HN.out (HFo0.out.trans (HFI.out.trans ((Fr.refl [r] wr).drew.trans hf (fun x hx => .inl hx)) (fun x hx => .inl hx)) (fun x hx => .inl hx)))⟩
        | some y =>
          obtain ⟨x, s2⟩ := y
          obtain ⟨hx2, hil⟩ := Ext.piece (Ext.pattern n) hi
          have HOK2 := Lib.hid (hx2.ok HOK.out)
          refine wp_callp (l := [.tmp 24]) rfl [.pointer (some ⟨r, 0, none⟩)] rfl (enter_piece _) (HC.out.mono ?_)
          rw [hi] at HI ⊢
          have HYK2 : Hid (Y = (RS.pieces (RS.pattern n) m' s2).map (fun r => ((acc ++ [x]) ++ r.1, r.2))) := Lib.hid (by rw [HYK.out, HI.out]; simp [Option.map_map, Function.comp_def])
          rintro e w2 ⟨_, rfl, ⟨cs, rfl, hpa⟩, hr2, hf2⟩
          have hf2' : Fr [r] wr w2 := (Fr.refl [r] wr).drew.trans hf2 (fun x hx => .inl hx)
          have hzr := HRW.out.lt
          have hzi := HFI.out.size
          have hrw2 := HRW.out.fr hf2' (by simp <;> omega)
          have HRW2 := Lib.hid hrw2
          have HPR2 := Lib.hid (HPR.out.fr hf2' (by simp <;> omega))
          have HR2 := Lib.hid hr2
          have HF2 := Lib.hid (HFI.out.trans hf2' (fun x hx => .inl hx))
          have hol := HPR.out.lt
          have hpx : PartAt w2 (fun g => wo.heap.size + 1 ≤ g ∧ (Value.slice A3 acc.length c3).ownBlock ≠ some g) x cs := hpa.mono (fun g hg => ⟨by have : wr.heap.size ≤ g := hg; omega, fun e => by have := hol g e; have : wr.heap.size ≤ g := hg; omega⟩)
          have hcl6 := hpa.len
          have hcone := hpa.one
          have HPX := Lib.hid hpx
          refine .inl ⟨_, rfl, hK _ _ (fun _ => ⟨hrw2.at_ (i := 3) rfl, trivial⟩) ?_⟩
          simp only [Act.put, List.setIfInBounds_toArray, List.set_cons_zero, List.set_cons_succ]
          have hz2 := hf2'.size
          clear hr2 hf2 hf2' hrw2 hi hK hpa hpx
          refine wpAnyK_step (j := 4) (some 26) rfl rfl (by kernel_rfl) rfl fun K hK => ?_
          obtain ⟨iu, hi, hz', hsz', hby⟩ := info_parts info_part
          refine wp_build_one (.tmp 25) rfl Try.underlying41 hi hz' cs rfl (by rw [hsz', hcl6]) (by rw [hcl6]; rfl) (by omega) (by omega) (hK _ _ (fun _ => ⟨(HRW2.out.alloc _).at_ (i := 3) rfl, trivial⟩) ?_)
          simp only [Act.put, List.setIfInBounds_toArray, List.set_cons_zero, List.set_cons_succ]
          clear hK
          have hbn := Blk.new w2 43 cs
          have hfn : Fr [] w2 (w2.alloc (.cells cs.toArray 43)) := (Fr.refl [] w2).alloc _
          have hsn : (w2.alloc (.cells cs.toArray 43)).heap.size = w2.heap.size + 1 := by simp
          generalize w2.alloc (.cells cs.toArray 43) = w3 at *
          obtain ⟨css, hcl, hown, hge, hel⟩ := HPR2.out
          have hne : (Value.slice A3 acc.length c3).ownBlock ≠ some wo.heap.size := fun e => by have := hge _ e; omega
          refine wpAnyK_step (j := 5) (some 27) rfl rfl (by kernel_rfl) rfl fun K hK => ?_
          refine wp_append_fr (.tmp 23) (.tmp 26) rfl 43 6 80 Try.underlying41 hi hz' hsz' hby rfl (by omega) (.slice A3 acc.length c3) acc.length css.flatten rfl (own_fr hown hfn (by simp)) ⟨w2.heap.size, 0, none⟩ 1 1 cs rfl (by rw [hcl6]) (fun j u hu => by rw [Addr.add_mid, Nat.zero_add]; exact hbn.at_ hu) hcone (by omega) (by unfold maxLen; omega) (by omega) (w2.heap.size + 1) hsn fun g7 cap w7 ho7 hf7 hat7 hlt7 => hK _ _ (fun _ => ⟨((HRW2.out.fr hfn (by simp)).fr hf7 (by simpa using hne)).at_ (i := 3) rfl, trivial⟩) ?_
          simp only [Act.put, List.setIfInBounds_toArray, List.set_cons_zero, List.set_cons_succ]
          clear hK
          have hO7 := (HRW2.out.fr hfn (by simp)).fr hf7 (by simpa using hne)
          refine wpAnyK_take (i := 6) (some 28) ?vq1_6 rfl rfl (by kernel_rfl) (fun _ _ _ h => h) ⟨hO7.at_ (i := 3) rfl, trivial⟩ (.inl ⟨rfl, fun W hW => ?yq1_6⟩) ?_
          case yq1_6 => (obtain ⟨r3', _⟩ := hW; go_simp) <;> with_reducible rfl
          simp only [Act.put, List.setIfInBounds_toArray, List.set_cons_zero, List.set_cons_succ]
          refine wpAnyK_step (j := 7) none rfl rfl (by kernel_rfl) rfl fun K hK => ?_
          refine wp_run_skip (w' := w7.setCell ⟨wo.heap.size, 3, none⟩ (.slice (some ⟨g7, 0, none⟩) (acc.length + 1) cap)) (by have o2 := hO7.at_ (i := 3) rfl; have of := hO7.free 3; go_simp) (hK _ _ (fun h => absurd h (by decide +kernel)) ?_)
          simp only [Act.put]
          refine wpAnyK_done (by kernel_rfl) ?_ _
          have hpush := POwn.push HPR2.out hfn hsn (by omega) (HPX.out.fr hfn (by simp)) hf7 css.flatten ho7 hown hat7
          have hfs : Fr [wo.heap.size] w7 (w7.setCell ⟨wo.heap.size, 3, none⟩ (.slice (some ⟨g7, 0, none⟩) (acc.length + 1) cap)) := (Fr.refl _ _).setCell (.inl (by simp)) _
          have ho8 := hO7.set_ 3 (.slice (some ⟨g7, 0, none⟩) (acc.length + 1) cap)
          simp only [List.set_cons_succ, List.set_cons_zero] at ho8
          have HO8 := Lib.hid ho8
          have HR8 := Lib.hid (((HR2.out.fr hfn (by simp)).fr hf7 (fun y hy => by have := hge y (by simpa using hy); omega)).fr hfs (by simp <;> omega))
          have HF8 := Lib.hid (((HF2.out.trans hfn (by simp)).trans hf7 (fun y hy => .inr (by have := hge y (by simpa using hy); omega))).trans hfs (fun y hy => .inr (by simp at hy; omega)))
          have HP8 := Lib.hid (hpush.fr hfs (fun y hy => .inl (by simp at hy; omega)))
          clear hK hfs ho8 hO7 hpush hf7 ho7 hat7 hlt7 hbn hfn hsn hne hown hge hel hcl hcone
          generalize w7.setCell ⟨wo.heap.size, 3, none⟩ (.slice (some ⟨g7, 0, none⟩) (acc.length + 1) cap) = w8 at *
          go_wp2_with fail
          refine (peek_any HR8.out).mono ?_
          rintro e w9 ⟨rfl, rfl⟩
          go_wp2_with fail
          have hxl := hx2.len
          go_roundg s2.l.length
          case measure => omega
          case rel => exact ⟨m', acc ++ [x], s2, _, rfl, HYK2.out, by omega, Nat.le_refl _, by simp; omega, HOK2.out, by omega, HR8.out, by simpa using HO8.out, by simpa using HP8.out, HF8.out⟩
      · have HOFF := Lib.hid hon
        have h3 : sk.peek < 0 ∨ (0 ≤ sk.peek ∧ sk.peek = 124) ∨ (0 ≤ sk.peek ∧ sk.peek ≠ 124 ∧ sk.peek = 41) := by
          unfold RS.on at hon
          by_cases q1 : 0 ≤ sk.peek
          · by_cases q2 : sk.peek = 124
            · exact .inr (.inl ⟨q1, q2⟩)
            · by_cases q3 : sk.peek = 41
              · exact .inr (.inr ⟨q1, q2, q3⟩)
              · exact absurd ⟨q1, q2, q3⟩ hon
          · exact .inl (by omega)
        clear hon
        rcases h3 with q | ⟨q1, q2⟩ | ⟨q1, q2, q3⟩
        · have e1 : decide (0 ≤ sk.peek) = false := by simpa using q
          clear q
          -- the row is whole: it is laid behind the others
          have HY1 : Hid (Y = some (acc, sk)) := Lib.hid (by rw [HYK.out, RS.pieces_off (by omega) HOFF.out]; simp)
          have HOo := Lib.hid (HOo0.out.fr HFI.out (by simp <;> omega))
          have HZo := Lib.hid (HZo0.out.fr HFI.out (by simp <;> omega))
          have HPo := Lib.hid (HPo0.out.fr HFI.out (by simp <;> omega))
          have HFo := Lib.hid (HFo0.out.trans HFI.out (fun x hx => .inl hx))
          have hzr := HRW.out.lt
          have hzi := HFI.out.size
          obtain ⟨A3, c3, rfl⟩ := HPR.out.slice
          obtain ⟨A4, c4, rfl⟩ := HPo.out.slice
          have hol := HPo0.out.lt
          have y0 := HRW.out.at_ (i := 0) rfl
          have y1 := HRW.out.at_ (i := 1) rfl
          have y2 := HRW.out.at_ (i := 2) rfl
          have y3 := HRW.out.at_ (i := 3) rfl
          have y4 := HRW.out.at_ (i := 4) rfl
          have y5 := HRW.out.at_ (i := 5) rfl
          have o3 := HOo.out.at_ (i := 3) rfl
          go_upto_region 7 with fail
          refine wp_region_lit ?_
          refine wpList_plain rfl fun K hK => ?_
          refine wp_run_same (v := ?au3_0) ?yu3_0 (hK _ _ ?_)
          case yu3_0 => go_simp <;> with_reducible rfl
          clear hK K
          simp only [Act.put, List.setIfInBounds_toArray, List.set_cons_zero, List.set_cons_succ]
          refine wpList_plain rfl fun K hK => ?_
          refine wp_run_same (v := ?au4_1) ?yu4_1 (hK _ _ ?_)
          case yu4_1 => go_simp <;> with_reducible rfl
          clear hK K
          simp only [Act.put, List.setIfInBounds_toArray, List.set_cons_zero, List.set_cons_succ]
          refine wpList_plain rfl fun K hK => ?_
          refine wp_run_same (v := ?au5_2) ?yu5_2 (hK _ _ ?_)
          case yu5_2 => go_simp <;> with_reducible rfl
          clear hK K
          simp only [Act.put, List.setIfInBounds_toArray, List.set_cons_zero, List.set_cons_succ]
          clear y0 y1 y2 y3 y4 y5
          refine wpList_plain rfl fun K hK => ?_
          obtain ⟨iu, hi, hz', hsz', hby⟩ := info_parts info_part
          refine wp_build_one (.tmp 31) rfl Try.underlying41 hi hz' [.int .i64 1, .bool false, .slice none 0 0, .slice A3 acc.length c3, .int .i64 0, .int .i64 0] rfl hsz' rfl (by simp) (by simp) (hK _ _ ?_)
          simp only [Act.put, List.setIfInBounds_toArray, List.set_cons_zero, List.set_cons_succ]
          clear hK
          have hbn := Blk.new wr 43 [.int .i64 1, .bool false, .slice none 0 0, .slice A3 acc.length c3, .int .i64 0, .int .i64 0]
          have hfn : Fr [] wr (wr.alloc (.cells [.int .i64 1, .bool false, .slice none 0 0, .slice A3 acc.length c3, .int .i64 0, .int .i64 0].toArray 43)) := (Fr.refl [] wr).alloc _
          have hsn : (wr.alloc (.cells [.int .i64 1, .bool false, .slice none 0 0, .slice A3 acc.length c3, .int .i64 0, .int .i64 0].toArray 43)).heap.size = wr.heap.size + 1 := by simp
          generalize wr.alloc (.cells [.int .i64 1, .bool false, .slice none 0 0, .slice A3 acc.length c3, .int .i64 0, .int .i64 0].toArray 43) = w3 at *
          obtain ⟨css, hcl, hown, hge, hel⟩ := HPo.out
          refine wpList_plain rfl fun K hK => ?_
          refine wp_append_fr (.tmp 30) (.tmp 32) rfl 43 6 80 Try.underlying41 hi hz' hsz' hby rfl (by omega) (.slice A4 accO.length c4) accO.length css.flatten rfl (own_fr hown hfn (by simp)) ⟨wr.heap.size, 0, none⟩ 1 1 [.int .i64 1, .bool false, .slice none 0 0, .slice A3 acc.length c3, .int .i64 0, .int .i64 0] rfl rfl (fun j u hu => by rw [Addr.add_mid, Nat.zero_add]; exact hbn.at_ hu) (by intro u hu; simp at hu; rcases hu with rfl | rfl | rfl | rfl | rfl | rfl <;> rfl) (by omega) (by unfold maxLen; omega) (by omega) (wr.heap.size + 1) hsn fun g7 cap w7 ho7 hf7 hat7 hlt7 => hK _ _ ?_
          simp only [Act.put, List.setIfInBounds_toArray, List.set_cons_zero, List.set_cons_succ]
          clear hK
          have hprow : PartAt w3 (fun g => w.heap.size + 2 ≤ g ∧ (Value.slice A4 accO.length c4).ownBlock ≠ some g) (.row acc) [.int .i64 1, .bool false, .slice none 0 0, .slice A3 acc.length c3, .int .i64 0, .int .i64 0] := by
            have h1 := (PartAt.of (p := .row acc) (SpansAt.nil wr _) HPR.out.parts).fr hfn (by simp)
            exact h1.mono (fun g hg => ⟨by omega, fun e => by have := hol g e; omega⟩)
          have hpush := POwn.push HPo.out hfn hsn (by omega) hprow hf7 css.flatten ho7 hown hat7
          have hne4 : (Value.slice A4 accO.length c4).ownBlock ≠ some (w.heap.size + 1) := fun e => by have := hge _ e; omega
          have hne5 : (Value.slice A4 accO.length c4).ownBlock ≠ some w.heap.size := fun e => by have := hge _ e; omega
          have hO7 := (HOo.out.fr hfn (by simp)).fr hf7 (by simpa using hne4)
          have hZ7 := (HZo.out.fr hfn (by simp)).fr hf7 (by simpa using hne5)
          have hR7 := (HRI.out.fr hfn (by simp)).fr hf7 (fun x hx => by have := hge x (by simpa using hx); omega)
          have hF7 := (HFo.out.trans hfn (by simp)).trans hf7 (fun x hx => .inr (by have := hge x (by simpa using hx); omega))
          have o7 := hO7.at_ (i := 3) rfl
          have o7f := hO7.free
          clear hown hge hel hcl
          refine wpList_plain rfl fun K hK => ?_
          refine wp_run_same (v := ?au6_5) ?yu6_5 (hK _ _ ?_)
          case yu6_5 => go_simp <;> with_reducible rfl
          clear hK K
          simp only [Act.put, List.setIfInBounds_toArray, List.set_cons_zero, List.set_cons_succ]
          refine wpList_plain rfl fun K hK => ?_
          have hfs : Fr [w.heap.size + 1] w7 (w7.setCell ⟨w.heap.size + 1, 3, none⟩ (.slice (some ⟨g7, 0, none⟩) (accO.length + 1) cap)) := (Fr.refl _ _).setCell (.inl (by simp)) _
          refine wp_run_skip (w' := w7.setCell ⟨w.heap.size + 1, 3, none⟩ (.slice (some ⟨g7, 0, none⟩) (accO.length + 1) cap)) (by go_simp) (hK _ _ ?_)
          simp only [Act.put]
          refine wpList_nil ?_
          have ho8 := hO7.set_ 3 (.slice (some ⟨g7, 0, none⟩) (accO.length + 1) cap)
          simp only [List.set_cons_succ, List.set_cons_zero] at ho8
          have HO8 := Lib.hid ho8
          have HZ8 := Lib.hid (hZ7.fr hfs (by simp))
          have HR8 := Lib.hid (hR7.fr hfs (by simp <;> omega))
          have HF8 := Lib.hid (hF7.trans hfs (fun x hx => .inr (by simp at hx; omega)))
          have HP8 := Lib.hid (hpush.fr hfs (fun x hx => .inl (by simp at hx; omega)))
          clear hK hfs ho8 hO7 hZ7 hR7 hF7 o7 o7f hpush hf7 ho7 hat7 hlt7 hbn hfn hsn o3 hne4 hne5 hprow
          generalize w7.setCell ⟨w.heap.size + 1, 3, none⟩ (.slice (some ⟨g7, 0, none⟩) (accO.length + 1) cap) = w8 at *
          go_wp2_with fail
          refine (is_any HR8.out (by omega)).mono ?_
          rintro e w9 ⟨rfl, hr9, hf9, -⟩
          have HO9 := Lib.hid (HO8.out.fr hf9 (by simp <;> omega)); have HZ9 := Lib.hid (HZ8.out.fr hf9 (by simp <;> omega)); have HP9 := Lib.hid (HP8.out.fr hf9 (by simp <;> omega)); have HF9 := Lib.hid (HF8.out.trans hf9 (fun x hx => .inl hx))
          by_cases hbar : sk.peek = 124
          · rw [show sk.isB 124 = true by simpa [RS.isB] using hbar]
            rw [show sk.isS 124 = sk.next by simp [RS.isS, hbar]] at hr9
            have hpos := RS.peek_pos hbar (by omega)
            have hnl := RS.next_len sk
            have HB2 : Hid (X = (RS.branches (RS.pattern n) mO' sk.next).map (fun r => ((accO ++ [.row acc]) ++ r.1, r.2))) := Lib.hid (by rw [HXK.out, RS.branches_on (HY0.out.symm.trans HY1.out) hbar]; simp [Option.map_map, Function.comp_def])
            have HR9 := Lib.hid hr9
            clear hr9 hf9 hbar
            go_wp2_with fail
            go_roundg sk.next.l.length
            case measure => omega
            case rel => exact ⟨mO', accO ++ [.row acc], sk.next, _, HB2.out, by omega, Nat.le_refl _, by simp; omega, (Ext.next sk).ok HOK.out, by omega, HR9.out, HZ9.out, by simpa using HO9.out, by simpa using HP9.out, HF9.out⟩
          · rw [show sk.isB 124 = false by simpa [RS.isB] using hbar]
            rw [show sk.isS 124 = sk by simp [RS.isS, hbar]] at hr9
            have HE : Hid (RS.pattern (n + 1) s = some (.pick (accO ++ [.row acc]), sk)) := Lib.hid (by rw [HX.out, HXK.out, RS.branches_off (HY0.out.symm.trans HY1.out) hbar]; simp)
            have HR9 := Lib.hid hr9
            clear hr9 hf9 hbar
            have y0 := HO9.out.at_ (i := 0) rfl
            have y1 := HO9.out.at_ (i := 1) rfl
            have y2 := HO9.out.at_ (i := 2) rfl
            have y3 := HO9.out.at_ (i := 3) rfl
            have y4 := HO9.out.at_ (i := 4) rfl
            have y5 := HO9.out.at_ (i := 5) rfl
            have z0 := HZ9.out.at_ (i := 0) rfl
            have z1 := HZ9.out.at_ (i := 1) rfl
            have z2 := HZ9.out.at_ (i := 2) rfl
            have z3 := HZ9.out.at_ (i := 3) rfl
            have z4 := HZ9.out.at_ (i := 4) rfl
            have z5 := HZ9.out.at_ (i := 5) rfl
            have zf := HZ9.out.free
            have hlv := HZ9.out.lt
            go_wp2_with fail
            have hfz := Fr.set6 w9 w.heap.size (.int .i64 2) (.bool false) (.slice none 0 0) (.slice (some ⟨g7, 0, none⟩) (accO.length + 1) cap) (.int .i64 0) (.int .i64 0)
            have hpf := (HP9.out.fr hfz (fun x hx => .inl (by simp at hx; omega))).parts
            have hpt := (PartAt.of (p := .pick (accO ++ [.row acc])) (SpansAt.nil _ _) hpf).mono (M := fun g => w.heap.size ≤ g) (fun g hg => by omega)
            refine ret_blk (g := w.heap.size) (t' := 43) (d := _) rfl rfl (HZ9.out.set6 (.int .i64 2) (.bool false) (.slice none 0 0) (.slice (some ⟨g7, 0, none⟩) (accO.length + 1) cap) (.int .i64 0) (.int .i64 0)) Try.underlying43 rfl (by kernel_rfl) (HQ.out _ _ (pres_some HE.out ⟨_, rfl, hpt⟩ (HR9.out.fr hfz (by simp <;> omega)) (HF9.out.trans hfz (fun x hx => .inr (by simp at hx; omega)))))
        · have e1 : decide (0 ≤ sk.peek) = true := by simpa using q1
          have e2 : (sk.peek != 124) = false := by simpa using q2
          clear q1 q2
          -- the row is whole: it is laid behind the others
          have HY1 : Hid (Y = some (acc, sk)) := Lib.hid (by rw [HYK.out, RS.pieces_off (by omega) HOFF.out]; simp)
          have HOo := Lib.hid (HOo0.out.fr HFI.out (by simp <;> omega))
          have HZo := Lib.hid (HZo0.out.fr HFI.out (by simp <;> omega))
          have HPo := Lib.hid (HPo0.out.fr HFI.out (by simp <;> omega))
          have HFo := Lib.hid (HFo0.out.trans HFI.out (fun x hx => .inl hx))
          have hzr := HRW.out.lt
          have hzi := HFI.out.size
          obtain ⟨A3, c3, rfl⟩ := HPR.out.slice
          obtain ⟨A4, c4, rfl⟩ := HPo.out.slice
          have hol := HPo0.out.lt
          have y0 := HRW.out.at_ (i := 0) rfl
          have y1 := HRW.out.at_ (i := 1) rfl
          have y2 := HRW.out.at_ (i := 2) rfl
          have y3 := HRW.out.at_ (i := 3) rfl
          have y4 := HRW.out.at_ (i := 4) rfl
          have y5 := HRW.out.at_ (i := 5) rfl
          have o3 := HOo.out.at_ (i := 3) rfl
          go_upto_region 7 with fail
          refine wp_region_lit ?_
          refine wpList_plain rfl fun K hK => ?_
          refine wp_run_same (v := ?au8_0) ?yu8_0 (hK _ _ ?_)
          case yu8_0 => go_simp <;> with_reducible rfl
          clear hK K
          simp only [Act.put, List.setIfInBounds_toArray, List.set_cons_zero, List.set_cons_succ]
          refine wpList_plain rfl fun K hK => ?_
          refine wp_run_same (v := ?au9_1) ?yu9_1 (hK _ _ ?_)
          case yu9_1 => go_simp <;> with_reducible rfl
          clear hK K
          simp only [Act.put, List.setIfInBounds_toArray, List.set_cons_zero, List.set_cons_succ]
          refine wpList_plain rfl fun K hK => ?_
          refine wp_run_same (v := ?au10_2) ?yu10_2 (hK _ _ ?_)
          case yu10_2 => go_simp <;> with_reducible rfl
          clear hK K
          simp only [Act.put, List.setIfInBounds_toArray, List.set_cons_zero, List.set_cons_succ]
          clear y0 y1 y2 y3 y4 y5
          refine wpList_plain rfl fun K hK => ?_
          obtain ⟨iu, hi, hz', hsz', hby⟩ := info_parts info_part
          refine wp_build_one (.tmp 31) rfl Try.underlying41 hi hz' [.int .i64 1, .bool false, .slice none 0 0, .slice A3 acc.length c3, .int .i64 0, .int .i64 0] rfl hsz' rfl (by simp) (by simp) (hK _ _ ?_)
          simp only [Act.put, List.setIfInBounds_toArray, List.set_cons_zero, List.set_cons_succ]
          clear hK
          have hbn := Blk.new wr 43 [.int .i64 1, .bool false, .slice none 0 0, .slice A3 acc.length c3, .int .i64 0, .int .i64 0]
          have hfn : Fr [] wr (wr.alloc (.cells [.int .i64 1, .bool false, .slice none 0 0, .slice A3 acc.length c3, .int .i64 0, .int .i64 0].toArray 43)) := (Fr.refl [] wr).alloc _
          have hsn : (wr.alloc (.cells [.int .i64 1, .bool false, .slice none 0 0, .slice A3 acc.length c3, .int .i64 0, .int .i64 0].toArray 43)).heap.size = wr.heap.size + 1 := by simp
          generalize wr.alloc (.cells [.int .i64 1, .bool false, .slice none 0 0, .slice A3 acc.length c3, .int .i64 0, .int .i64 0].toArray 43) = w3 at *
          obtain ⟨css, hcl, hown, hge, hel⟩ := HPo.out
          refine wpList_plain rfl fun K hK => ?_
          refine wp_append_fr (.tmp 30) (.tmp 32) rfl 43 6 80 Try.underlying41 hi hz' hsz' hby rfl (by omega) (.slice A4 accO.length c4) accO.length css.flatten rfl (own_fr hown hfn (by simp)) ⟨wr.heap.size, 0, none⟩ 1 1 [.int .i64 1, .bool false, .slice none 0 0, .slice A3 acc.length c3, .int .i64 0, .int .i64 0] rfl rfl (fun j u hu => by rw [Addr.add_mid, Nat.zero_add]; exact hbn.at_ hu) (by intro u hu; simp at hu; rcases hu with rfl | rfl | rfl | rfl | rfl | rfl <;> rfl) (by omega) (by unfold maxLen; omega) (by omega) (wr.heap.size + 1) hsn fun g7 cap w7 ho7 hf7 hat7 hlt7 => hK _ _ ?_
          simp only [Act.put, List.setIfInBounds_toArray, List.set_cons_zero, List.set_cons_succ]
          clear hK
          have hprow : PartAt w3 (fun g => w.heap.size + 2 ≤ g ∧ (Value.slice A4 accO.length c4).ownBlock ≠ some g) (.row acc) [.int .i64 1, .bool false, .slice none 0 0, .slice A3 acc.length c3, .int .i64 0, .int .i64 0] := by
            have h1 := (PartAt.of (p := .row acc) (SpansAt.nil wr _) HPR.out.parts).fr hfn (by simp)
            exact h1.mono (fun g hg => ⟨by omega, fun e => by have := hol g e; omega⟩)
          have hpush := POwn.push HPo.out hfn hsn (by omega) hprow hf7 css.flatten ho7 hown hat7
          have hne4 : (Value.slice A4 accO.length c4).ownBlock ≠ some (w.heap.size + 1) := fun e => by have := hge _ e; omega
          have hne5 : (Value.slice A4 accO.length c4).ownBlock ≠ some w.heap.size := fun e => by have := hge _ e; omega
          have hO7 := (HOo.out.fr hfn (by simp)).fr hf7 (by simpa using hne4)
          have hZ7 := (HZo.out.fr hfn (by simp)).fr hf7 (by simpa using hne5)
          have hR7 := (HRI.out.fr hfn (by simp)).fr hf7 (fun x hx => by have := hge x (by simpa using hx); omega)
          have hF7 := (HFo.out.trans hfn (by simp)).trans hf7 (fun x hx => .inr (by have := hge x (by simpa using hx); omega))
          have o7 := hO7.at_ (i := 3) rfl
          have o7f := hO7.free
          clear hown hge hel hcl
          refine wpList_plain rfl fun K hK => ?_
          refine wp_run_same (v := ?au11_5) ?yu11_5 (hK _ _ ?_)
          case yu11_5 => go_simp <;> with_reducible rfl
          clear hK K
          simp only [Act.put, List.setIfInBounds_toArray, List.set_cons_zero, List.set_cons_succ]
          refine wpList_plain rfl fun K hK => ?_
          have hfs : Fr [w.heap.size + 1] w7 (w7.setCell ⟨w.heap.size + 1, 3, none⟩ (.slice (some ⟨g7, 0, none⟩) (accO.length + 1) cap)) := (Fr.refl _ _).setCell (.inl (by simp)) _
          refine wp_run_skip (w' := w7.setCell ⟨w.heap.size + 1, 3, none⟩ (.slice (some ⟨g7, 0, none⟩) (accO.length + 1) cap)) (by go_simp) (hK _ _ ?_)
          simp only [Act.put]
          refine wpList_nil ?_
          have ho8 := hO7.set_ 3 (.slice (some ⟨g7, 0, none⟩) (accO.length + 1) cap)
          simp only [List.set_cons_succ, List.set_cons_zero] at ho8
          have HO8 := Lib.hid ho8
          have HZ8 := Lib.hid (hZ7.fr hfs (by simp))
          have HR8 := Lib.hid (hR7.fr hfs (by simp <;> omega))
          have HF8 := Lib.hid (hF7.trans hfs (fun x hx => .inr (by simp at hx; omega)))
          have HP8 := Lib.hid (hpush.fr hfs (fun x hx => .inl (by simp at hx; omega)))
          clear hK hfs ho8 hO7 hZ7 hR7 hF7 o7 o7f hpush hf7 ho7 hat7 hlt7 hbn hfn hsn o3 hne4 hne5 hprow
          generalize w7.setCell ⟨w.heap.size + 1, 3, none⟩ (.slice (some ⟨g7, 0, none⟩) (accO.length + 1) cap) = w8 at *
          go_wp2_with fail
          refine (is_any HR8.out (by omega)).mono ?_
          rintro e w9 ⟨rfl, hr9, hf9, -⟩
          have HO9 := Lib.hid (HO8.out.fr hf9 (by simp <;> omega)); have HZ9 := Lib.hid (HZ8.out.fr hf9 (by simp <;> omega)); have HP9 := Lib.hid (HP8.out.fr hf9 (by simp <;> omega)); have HF9 := Lib.hid (HF8.out.trans hf9 (fun x hx => .inl hx))
          by_cases hbar : sk.peek = 124
          · rw [show sk.isB 124 = true by simpa [RS.isB] using hbar]
            rw [show sk.isS 124 = sk.next by simp [RS.isS, hbar]] at hr9
            have hpos := RS.peek_pos hbar (by omega)
            have hnl := RS.next_len sk
            have HB2 : Hid (X = (RS.branches (RS.pattern n) mO' sk.next).map (fun r => ((accO ++ [.row acc]) ++ r.1, r.2))) := Lib.hid (by rw [HXK.out, RS.branches_on (HY0.out.symm.trans HY1.out) hbar]; simp [Option.map_map, Function.comp_def])
            have HR9 := Lib.hid hr9
            clear hr9 hf9 hbar
            go_wp2_with fail
            go_roundg sk.next.l.length
            case measure => omega
            case rel => exact ⟨mO', accO ++ [.row acc], sk.next, _, HB2.out, by omega, Nat.le_refl _, by simp; omega, (Ext.next sk).ok HOK.out, by omega, HR9.out, HZ9.out, by simpa using HO9.out, by simpa using HP9.out, HF9.out⟩
          · rw [show sk.isB 124 = false by simpa [RS.isB] using hbar]
            rw [show sk.isS 124 = sk by simp [RS.isS, hbar]] at hr9
            have HE : Hid (RS.pattern (n + 1) s = some (.pick (accO ++ [.row acc]), sk)) := Lib.hid (by rw [HX.out, HXK.out, RS.branches_off (HY0.out.symm.trans HY1.out) hbar]; simp)
            have HR9 := Lib.hid hr9
            clear hr9 hf9 hbar
            have y0 := HO9.out.at_ (i := 0) rfl
            have y1 := HO9.out.at_ (i := 1) rfl
            have y2 := HO9.out.at_ (i := 2) rfl
            have y3 := HO9.out.at_ (i := 3) rfl
            have y4 := HO9.out.at_ (i := 4) rfl
            have y5 := HO9.out.at_ (i := 5) rfl
            have z0 := HZ9.out.at_ (i := 0) rfl
            have z1 := HZ9.out.at_ (i := 1) rfl
            have z2 := HZ9.out.at_ (i := 2) rfl
            have z3 := HZ9.out.at_ (i := 3) rfl
            have z4 := HZ9.out.at_ (i := 4) rfl
            have z5 := HZ9.out.at_ (i := 5) rfl
            have zf := HZ9.out.free
            have hlv := HZ9.out.lt
            go_wp2_with fail
            have hfz := Fr.set6 w9 w.heap.size (.int .i64 2) (.bool false) (.slice none 0 0) (.slice (some ⟨g7, 0, none⟩) (accO.length + 1) cap) (.int .i64 0) (.int .i64 0)
            have hpf := (HP9.out.fr hfz (fun x hx => .inl (by simp at hx; omega))).parts
            have hpt := (PartAt.of (p := .pick (accO ++ [.row acc])) (SpansAt.nil _ _) hpf).mono (M := fun g => w.heap.size ≤ g) (fun g hg => by omega)
            refine ret_blk (g := w.heap.size) (t' := 43) (d := _) rfl rfl (HZ9.out.set6 (.int .i64 2) (.bool false) (.slice none 0 0) (.slice (some ⟨g7, 0, none⟩) (accO.length + 1) cap) (.int .i64 0) (.int .i64 0)) Try.underlying43 rfl (by kernel_rfl) (HQ.out _ _ (pres_some HE.out ⟨_, rfl, hpt⟩ (HR9.out.fr hfz (by simp <;> omega)) (HF9.out.trans hfz (fun x hx => .inr (by simp at hx; omega)))))
        · have e1 : decide (0 ≤ sk.peek) = true := by simpa using q1
          have e2 : (sk.peek != 124) = true := by simpa using q2
          have e3 : (sk.peek != 41) = false := by simpa using q3
          clear q1 q2 q3
          -- the row is whole: it is laid behind the others
          have HY1 : Hid (Y = some (acc, sk)) := Lib.hid (by rw [HYK.out, RS.pieces_off (by omega) HOFF.out]; simp)
          have HOo := Lib.hid (HOo0.out.fr HFI.out (by simp <;> omega))
          have HZo := Lib.hid (HZo0.out.fr HFI.out (by simp <;> omega))
          have HPo := Lib.hid (HPo0.out.fr HFI.out (by simp <;> omega))
          have HFo := Lib.hid (HFo0.out.trans HFI.out (fun x hx => .inl hx))
          have hzr := HRW.out.lt
          have hzi := HFI.out.size
          obtain ⟨A3, c3, rfl⟩ := HPR.out.slice
          obtain ⟨A4, c4, rfl⟩ := HPo.out.slice
          have hol := HPo0.out.lt
          have y0 := HRW.out.at_ (i := 0) rfl
          have y1 := HRW.out.at_ (i := 1) rfl
          have y2 := HRW.out.at_ (i := 2) rfl
          have y3 := HRW.out.at_ (i := 3) rfl
          have y4 := HRW.out.at_ (i := 4) rfl
          have y5 := HRW.out.at_ (i := 5) rfl
          have o3 := HOo.out.at_ (i := 3) rfl
          go_upto_region 7 with fail
          refine wp_region_lit ?_
          refine wpList_plain rfl fun K hK => ?_
          refine wp_run_same (v := ?au13_0) ?yu13_0 (hK _ _ ?_)
          case yu13_0 => go_simp <;> with_reducible rfl
          clear hK K
          simp only [Act.put, List.setIfInBounds_toArray, List.set_cons_zero, List.set_cons_succ]
          refine wpList_plain rfl fun K hK => ?_
          refine wp_run_same (v := ?au14_1) ?yu14_1 (hK _ _ ?_)
          case yu14_1 => go_simp <;> with_reducible rfl
          clear hK K
          simp only [Act.put, List.setIfInBounds_toArray, List.set_cons_zero, List.set_cons_succ]
          refine wpList_plain rfl fun K hK => ?_
          refine wp_run_same (v := ?au15_2) ?yu15_2 (hK _ _ ?_)
          case yu15_2 => go_simp <;> with_reducible rfl
          clear hK K
          simp only [Act.put, List.setIfInBounds_toArray, List.set_cons_zero, List.set_cons_succ]
          clear y0 y1 y2 y3 y4 y5
          refine wpList_plain rfl fun K hK => ?_
          obtain ⟨iu, hi, hz', hsz', hby⟩ := info_parts info_part
          refine wp_build_one (.tmp 31) rfl Try.underlying41 hi hz' [.int .i64 1, .bool false, .slice none 0 0, .slice A3 acc.length c3, .int .i64 0, .int .i64 0] rfl hsz' rfl (by simp) (by simp) (hK _ _ ?_)
          simp only [Act.put, List.setIfInBounds_toArray, List.set_cons_zero, List.set_cons_succ]
          clear hK
          have hbn := Blk.new wr 43 [.int .i64 1, .bool false, .slice none 0 0, .slice A3 acc.length c3, .int .i64 0, .int .i64 0]
          have hfn : Fr [] wr (wr.alloc (.cells [.int .i64 1, .bool false, .slice none 0 0, .slice A3 acc.length c3, .int .i64 0, .int .i64 0].toArray 43)) := (Fr.refl [] wr).alloc _
          have hsn : (wr.alloc (.cells [.int .i64 1, .bool false, .slice none 0 0, .slice A3 acc.length c3, .int .i64 0, .int .i64 0].toArray 43)).heap.size = wr.heap.size + 1 := by simp
          generalize wr.alloc (.cells [.int .i64 1, .bool false, .slice none 0 0, .slice A3 acc.length c3, .int .i64 0, .int .i64 0].toArray 43) = w3 at *
          obtain ⟨css, hcl, hown, hge, hel⟩ := HPo.out
          refine wpList_plain rfl fun K hK => ?_
          refine wp_append_fr (.tmp 30) (.tmp 32) rfl 43 6 80 Try.underlying41 hi hz' hsz' hby rfl (by omega) (.slice A4 accO.length c4) accO.length css.flatten rfl (own_fr hown hfn (by simp)) ⟨wr.heap.size, 0, none⟩ 1 1 [.int .i64 1, .bool false, .slice none 0 0, .slice A3 acc.length c3, .int .i64 0, .int .i64 0] rfl rfl (fun j u hu => by rw [Addr.add_mid, Nat.zero_add]; exact hbn.at_ hu) (by intro u hu; simp at hu; rcases hu with rfl | rfl | rfl | rfl | rfl | rfl <;> rfl) (by omega) (by unfold maxLen; omega) (by omega) (wr.heap.size + 1) hsn fun g7 cap w7 ho7 hf7 hat7 hlt7 => hK _ _ ?_
          simp only [Act.put, List.setIfInBounds_toArray, List.set_cons_zero, List.set_cons_succ]
          clear hK
          have hprow : PartAt w3 (fun g => w.heap.size + 2 ≤ g ∧ (Value.slice A4 accO.length c4).ownBlock ≠ some g) (.row acc) [.int .i64 1, .bool false, .slice none 0 0, .slice A3 acc.length c3, .int .i64 0, .int .i64 0] := by
            have h1 := (PartAt.of (p := .row acc) (SpansAt.nil wr _) HPR.out.parts).fr hfn (by simp)
            exact h1.mono (fun g hg => ⟨by omega, fun e => by have := hol g e; omega⟩)
          have hpush := POwn.push HPo.out hfn hsn (by omega) hprow hf7 css.flatten ho7 hown hat7
          have hne4 : (Value.slice A4 accO.length c4).ownBlock ≠ some (w.heap.size + 1) := fun e => by have := hge _ e; omega
          have hne5 : (Value.slice A4 accO.length c4).ownBlock ≠ some w.heap.size := fun e => by have := hge _ e; omega
          have hO7 := (HOo.out.fr hfn (by simp)).fr hf7 (by simpa using hne4)
          have hZ7 := (HZo.out.fr hfn (by simp)).fr hf7 (by simpa using hne5)
          have hR7 := (HRI.out.fr hfn (by simp)).fr hf7 (fun x hx => by have := hge x (by simpa using hx); omega)
          have hF7 := (HFo.out.trans hfn (by simp)).trans hf7 (fun x hx => .inr (by have := hge x (by simpa using hx); omega))
          have o7 := hO7.at_ (i := 3) rfl
          have o7f := hO7.free
          clear hown hge hel hcl
          refine wpList_plain rfl fun K hK => ?_
          refine wp_run_same (v := ?au16_5) ?yu16_5 (hK _ _ ?_)
          case yu16_5 => go_simp <;> with_reducible rfl
          clear hK K
          simp only [Act.put, List.setIfInBounds_toArray, List.set_cons_zero, List.set_cons_succ]
          refine wpList_plain rfl fun K hK => ?_
          have hfs : Fr [w.heap.size + 1] w7 (w7.setCell ⟨w.heap.size + 1, 3, none⟩ (.slice (some ⟨g7, 0, none⟩) (accO.length + 1) cap)) := (Fr.refl _ _).setCell (.inl (by simp)) _
          refine wp_run_skip (w' := w7.setCell ⟨w.heap.size + 1, 3, none⟩ (.slice (some ⟨g7, 0, none⟩) (accO.length + 1) cap)) (by go_simp) (hK _ _ ?_)
          simp only [Act.put]
          refine wpList_nil ?_
          have ho8 := hO7.set_ 3 (.slice (some ⟨g7, 0, none⟩) (accO.length + 1) cap)
          simp only [List.set_cons_succ, List.set_cons_zero] at ho8
          have HO8 := Lib.hid ho8
          have HZ8 := Lib.hid (hZ7.fr hfs (by simp))
          have HR8 := Lib.hid (hR7.fr hfs (by simp <;> omega))
          have HF8 := Lib.hid (hF7.trans hfs (fun x hx => .inr (by simp at hx; omega)))
          have HP8 := Lib.hid (hpush.fr hfs (fun x hx => .inl (by simp at hx; omega)))
          clear hK hfs ho8 hO7 hZ7 hR7 hF7 o7 o7f hpush hf7 ho7 hat7 hlt7 hbn hfn hsn o3 hne4 hne5 hprow
          generalize w7.setCell ⟨w.heap.size + 1, 3, none⟩ (.slice (some ⟨g7, 0, none⟩) (accO.length + 1) cap) = w8 at *
          go_wp2_with fail
          refine (is_any HR8.out (by omega)).mono ?_
          rintro e w9 ⟨rfl, hr9, hf9, -⟩
          have HO9 := Lib.hid (HO8.out.fr hf9 (by simp <;> omega)); have HZ9 := Lib.hid (HZ8.out.fr hf9 (by simp <;> omega)); have HP9 := Lib.hid (HP8.out.fr hf9 (by simp <;> omega)); have HF9 := Lib.hid (HF8.out.trans hf9 (fun x hx => .inl hx))
          by_cases hbar : sk.peek = 124
          · rw [show sk.isB 124 = true by simpa [RS.isB] using hbar]
            rw [show sk.isS 124 = sk.next by simp [RS.isS, hbar]] at hr9
            have hpos := RS.peek_pos hbar (by omega)
            have hnl := RS.next_len sk
            have HB2 : Hid (X = (RS.branches (RS.pattern n) mO' sk.next).map (fun r => ((accO ++ [.row acc]) ++ r.1, r.2))) := Lib.hid (by rw [HXK.out, RS.branches_on (HY0.out.symm.trans HY1.out) hbar]; simp [Option.map_map, Function.comp_def])
            have HR9 := Lib.hid hr9
            clear hr9 hf9 hbar
            go_wp2_with fail
            go_roundg sk.next.l.length
            case measure => omega
            case rel => exact ⟨mO', accO ++ [.row acc], sk.next, _, HB2.out, by omega, Nat.le_refl _, by simp; omega, (Ext.next sk).ok HOK.out, by omega, HR9.out, HZ9.out, by simpa using HO9.out, by simpa using HP9.out, HF9.out⟩
          · rw [show sk.isB 124 = false by simpa [RS.isB] using hbar]
            rw [show sk.isS 124 = sk by simp [RS.isS, hbar]] at hr9
            have HE : Hid (RS.pattern (n + 1) s = some (.pick (accO ++ [.row acc]), sk)) := Lib.hid (by rw [HX.out, HXK.out, RS.branches_off (HY0.out.symm.trans HY1.out) hbar]; simp)
            have HR9 := Lib.hid hr9
            clear hr9 hf9 hbar
            have y0 := HO9.out.at_ (i := 0) rfl
            have y1 := HO9.out.at_ (i := 1) rfl
            have y2 := HO9.out.at_ (i := 2) rfl
            have y3 := HO9.out.at_ (i := 3) rfl
            have y4 := HO9.out.at_ (i := 4) rfl
            have y5 := HO9.out.at_ (i := 5) rfl
            have z0 := HZ9.out.at_ (i := 0) rfl
            have z1 := HZ9.out.at_ (i := 1) rfl
            have z2 := HZ9.out.at_ (i := 2) rfl
            have z3 := HZ9.out.at_ (i := 3) rfl
            have z4 := HZ9.out.at_ (i := 4) rfl
            have z5 := HZ9.out.at_ (i := 5) rfl
            have zf := HZ9.out.free
            have hlv := HZ9.out.lt
            go_wp2_with fail
            have hfz := Fr.set6 w9 w.heap.size (.int .i64 2) (.bool false) (.slice none 0 0) (.slice (some ⟨g7, 0, none⟩) (accO.length + 1) cap) (.int .i64 0) (.int .i64 0)
            have hpf := (HP9.out.fr hfz (fun x hx => .inl (by simp at hx; omega))).parts
            have hpt := (PartAt.of (p := .pick (accO ++ [.row acc])) (SpansAt.nil _ _) hpf).mono (M := fun g => w.heap.size ≤ g) (fun g hg => by omega)
            refine ret_blk (g := w.heap.size) (t' := 43) (d := _) rfl rfl (HZ9.out.set6 (.int .i64 2) (.bool false) (.slice none 0 0) (.slice (some ⟨g7, 0, none⟩) (accO.length + 1) cap) (.int .i64 0) (.int .i64 0)) Try.underlying43 rfl (by kernel_rfl) (HQ.out _ _ (pres_some HE.out ⟨_, rfl, hpt⟩ (HR9.out.fr hfz (by simp <;> omega)) (HF9.out.trans hfz (fun x hx => .inr (by simp at hx; omega)))))

theorem pattern_any : ∀ n, PatOK n
  | 0 => fun _ _ _ _ _ _ h => absurd h (by omega)
  | n + 1 => pattern_succ (pattern_any n)

end Go.Proofs.Ytnhlgjjdpappkaa
